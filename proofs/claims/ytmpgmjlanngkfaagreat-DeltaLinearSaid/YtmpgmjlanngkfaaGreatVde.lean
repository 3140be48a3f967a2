/-
  Views: the content of a view; views of one source without groups.
-/
import Derived.Test.YtmpgmjlanngkfaaGreatVch
namespace Go.Proofs.YtmpgmjlanngkfaaGreat
open Go.Abs Go.RowKit
attribute [local irreducible] ARun kont MCall PCall HCall resVal SF CF CFs defersOk slotsIn memIn fin finM VLe
set_option linter.unusedSimpArgs false
set_option maxRecDepth 100000
set_option maxHeartbeats 4000000

theorem derive1_d : DeferOk Tryz.prog 39 0 := by
  refine ⟨⟨_, Tryz.func39, by kernel_rfl, by kernel_rfl⟩, fun vs w hl => ?_⟩
  match vs, hl with
  | [], _ =>
    refine callsD_of_wpS Tryz.func39 rfl fun c₀ cs hu => ?_
    apply wpS_region
    simp [wpOpsS, go_sem, recoverD, hu, Tryz.ntmps39, Exit.thenS]
    cases c₀
    simp_all [bodyPostS, results, Tryz.results39]

/-- The content of a view: s the join of its sources, o its content. -/
def derP (ok : Bool) (v : Vw) (l r : List Entry) (s o : List Entry × Int) : List Entry × Int :=
  if ok = true then (if v.kind = 2 then addE 1 l r else if s.2 = 0 then o else ([], s.2)) else ([], 1)

theorem derive_c (v : Vw) (l r : List Entry) (s o : List Entry × Int)
    (hs : v.kind ≠ 2 → PCall Tryz.prog 41 [.agg v.d, .one (bagD l), .one (bagD r)] (bagI s))
    (ho : v.kind ≠ 2 → PCall Tryz.prog 42 [.agg v.d, .one (bagD s.1)] (bagI o)) :
    PCall Tryz.prog 17 [.agg v.d, .one (bagD l), .one (bagD r)] (bagI (derP (derivE v l r) v l r s o)) := by
  have hd := derivable_c v l r
  unfold derP
  cases h : derivE v l r
  · rw [h] at hd
    rw [if_neg (by simp)]
    dsimp only [bagI]
    refine pcallN hT Tryz.func17 Tryz.ntmps17 [.tmp 6, .tmp 7] fun B => ?_
    repeat' (first | (with_reducible (first | refine k_seq ?_ | refine k_skip ?_ | refine k_ret ?_ | refine n_seq ?_ | refine r_seq ?_)) | refine s_reg ?_ | refine s_ifT ?_ | refine s_ifF ?_ | refine r_end ?_ | refine s_move ?_ | refine s_assign ?_ | refine s_int ?_ | refine s_loadB1 ?_ | refine s_loadBA ?_ | refine s_fieldB ?_ | refine s_call (hd) ?_ | refine s_extract ?_ | refine s_not ?_ | refine s_box ?_ | refine s_defer ?_ | refine f_ret2 (by repeat (first | exact def_nil | refine def_cons derive1_d ?_)) ?_ ?_ | refine t_tmp ?_ | refine t_tmpE ?_)
    all_goals rfl
  · rw [h] at hd
    rw [if_pos rfl]
    by_cases hk : v.kind = 2
    · have ha := add_c l r
      rw [if_pos hk]
      generalize addE 1 l r = a at ha ⊢
      dsimp only [bagI]
      refine pcallN hT Tryz.func17 Tryz.ntmps17 [.tmp 6, .tmp 7] fun B => ?_
      repeat' (first | (with_reducible (first | refine k_seq ?_ | refine k_skip ?_ | refine k_ret ?_ | refine n_seq ?_ | refine r_seq ?_)) | refine s_reg ?_ | refine s_ifT ?_ | refine s_ifF ?_ | refine r_end ?_ | refine s_move ?_ | refine s_assign ?_ | refine s_int ?_ | refine s_loadB1 ?_ | refine s_loadBA ?_ | refine s_fieldB ?_ | refine s_call (hd) ?_ | refine s_call (ha) ?_ | refine s_extract ?_ | refine s_not ?_ | refine s_box ?_ | refine s_defer ?_ | refine f_ret2 (by repeat (first | exact def_nil | refine def_cons derive1_d ?_)) ?_ ?_ | refine t_tmp ?_ | refine t_tmpE ?_)
      all_goals rfl
    · specialize hs hk
      specialize ho hk
      rw [if_neg hk]
      obtain ⟨s, e⟩ := s
      obtain ⟨o, f⟩ := o
      dsimp only [bagI] at hs ho ⊢
      by_cases he : e = 0
      · subst he
        rw [if_pos rfl]
        dsimp only
        refine pcallN hT Tryz.func17 Tryz.ntmps17 [.tmp 6, .tmp 7] fun B => ?_
        repeat' (first | (with_reducible (first | refine k_seq ?_ | refine k_skip ?_ | refine k_ret ?_ | refine n_seq ?_ | refine r_seq ?_)) | refine s_reg ?_ | refine s_ifT ?_ | refine s_ifF ?_ | refine r_end ?_ | refine s_move ?_ | refine s_assign ?_ | refine s_int ?_ | refine s_loadB1 ?_ | refine s_loadBA ?_ | refine s_fieldB ?_ | refine s_call (hd) ?_ | refine s_call (hs) ?_ | refine s_call (ho) ?_ | refine s_extract ?_ | refine s_not ?_ | refine s_box ?_ | refine s_defer ?_ | refine f_ret2 (by repeat (first | exact def_nil | refine def_cons derive1_d ?_)) ?_ ?_ | refine t_tmp ?_ | refine t_tmpE ?_)
        all_goals rfl
      · rw [if_neg he]
        dsimp only
        refine pcallN hT Tryz.func17 Tryz.ntmps17 [.tmp 6, .tmp 7] fun B => ?_
        repeat' (first | (with_reducible (first | refine k_seq ?_ | refine k_skip ?_ | refine k_ret ?_ | refine n_seq ?_ | refine r_seq ?_)) | refine s_reg ?_ | refine s_ifT ?_ | refine s_ifF ?_ | refine r_end ?_ | refine s_move ?_ | refine s_assign ?_ | refine s_int ?_ | refine s_loadB1 ?_ | refine s_loadBA ?_ | refine s_fieldB ?_ | refine s_call (hd) ?_ | refine s_call (hs) ?_ | refine s_extract ?_ | refine s_not ?_ | refine s_box ?_ | refine s_defer ?_ | refine f_ret2 (by repeat (first | exact def_nil | refine def_cons derive1_d ?_)) ?_ ?_ | refine t_tmp ?_ | refine t_tmpE ?_)
        all_goals rfl

/-- Views of one source without groups. -/
def selE (v : Vw) (j : List Entry) : List Entry × Int := outE (fun _ _ _ => ([], 0)) v j

theorem sel_c (v : Vw) (j : List Entry) (hil : v.items.length ≤ 10000) (hk : v.kind ≠ 1) : PCall Tryz.prog 42 [.agg v.d, .one (bagD j)] (bagI (selE v j)) :=
  output_c _ v j hil fun h => absurd h hk

theorem src1_c (v : Vw) (l r : List Entry) (hr : emptyR v = true) : PCall Tryz.prog 41 [.agg v.d, .one (bagD l), .one (bagD r)] (bagI (l, 0)) := by
  have h := joinSources_c (fun _ _ _ => ([], 0)) v l r (fun h => absurd hr (by rw [h]; decide))
  rw [srcE, if_pos hr] at h
  exact h

theorem deriveS_c (v : Vw) (l r : List Entry) (hil : v.items.length ≤ 10000) (hk : v.kind = 0) (hr : emptyR v = true) : PCall Tryz.prog 17 [.agg v.d, .one (bagD l), .one (bagD r)] (bagI (if derivE v l r = true then selE v l else ([], 1))) := by
  have h := derive_c v l r (l, 0) (selE v l) (fun _ => src1_c v l r hr) (fun _ => sel_c v l hil (by omega))
  rw [derP, if_neg (show ¬ v.kind = 2 by omega), if_pos (show ((l, 0) : List Entry × Int).2 = 0 from rfl)] at h
  exact h

theorem chg1 {v : Vw} (l r dl dr : List Entry) (hk : v.kind ≠ 2) (hr : emptyR v = true) : chgE v l r dl dr = ((fitE l dl).1, [], (fitE l dl).2) := by
  rw [chgE, if_neg]
  rintro ⟨_, h⟩
  simp [usesR, hr, hk] at h

theorem changeS_c (v : Vw) (l r dl dr : List Entry) (hil : v.items.length ≤ 10000) (hk : v.kind = 0) (hr : emptyR v = true) : PCall Tryz.prog 18 [.agg v.d, .one (bagD l), .one (bagD r), .one (bagD dl), .one (bagD dr)] (bagI (chaE (derivE v l r) (conSE (l, 0) (selE v l) (fitE l dl) (selE v (fitE l dl).1)))) := by
  refine change_c v l r dl dr _ fun _ => ?_
  refine contentsS_c v l r dl dr _ _ _ _ (by omega) (src1_c v l r hr) (sel_c v l hil (by omega)) ?_ (sel_c v _ hil (by omega))
  have h := joinChanged_c (fun _ _ _ => ([], 0)) ([], 0) v l l r dl dr (fun h => absurd hr (by rw [h]; decide)) (fun h => absurd hr (by rw [h]; decide))
  rw [jchE, chg1 l r dl dr (by omega) hr, if_neg (by simp [hr])] at h
  exact h

theorem changeU_c (v : Vw) (l r dl dr : List Entry) (hk : v.kind = 2) : PCall Tryz.prog 18 [.agg v.d, .one (bagD l), .one (bagD r), .one (bagD dl), .one (bagD dr)] (bagI (chaE (derivE v l r) (conUE v l r dl dr))) :=
  change_c v l r dl dr _ fun _ => contentsU_c v l r dl dr hk
end Go.Proofs.YtmpgmjlanngkfaaGreat
