/-
  Views: the contents before and after a change, and the change of the content.
-/
import Derived.Test.YtmpgmjlanngkfaaGreatVou
namespace Go.Proofs.YtmpgmjlanngkfaaGreat
open Go.Abs Go.RowKit
attribute [local irreducible] ARun kont MCall PCall HCall resVal SF CF CFs defersOk slotsIn memIn fin finM VLe
set_option linter.unusedSimpArgs false
set_option maxRecDepth 100000
set_option maxHeartbeats 4000000

/-- The join of the changed bags; C stands for the change of the join. -/
def jchE (J : List Entry → List Entry → List (Int × Int) → List Entry × Int) (C : List Entry × Int) (v : Vw) (j l r dl dr : List Entry) : List Entry × Int :=
  if (chgE v l r dl dr).2.2 = 0 ∧ emptyR v = false then
    (if C.2 = 0 then addE 1 j C.1 else J (chgE v l r dl dr).1 (chgE v l r dl dr).2.1 v.on)
  else ((chgE v l r dl dr).1, (chgE v l r dl dr).2.2)

theorem joinChanged_c (J : List Entry → List Entry → List (Int × Int) → List Entry × Int) (C : List Entry × Int) (v : Vw) (j l r dl dr : List Entry)
    (hj : emptyR v = false → PCall Tryz.prog 89 [.one (bagD (chgE v l r dl dr).1), .one (bagD (chgE v l r dl dr).2.1), .one (onD v.on)] (bagI (J (chgE v l r dl dr).1 (chgE v l r dl dr).2.1 v.on)))
    (hc : emptyR v = false → PCall Tryz.prog 103 [.agg v.d, .one (bagD l), .one (bagD r), .one (bagD dl), .one (bagD dr)] (bagI C)) :
    PCall Tryz.prog 55 [.agg v.d, .one (bagD j), .one (bagD l), .one (bagD r), .one (bagD dl), .one (bagD dr)] (bagI (jchE J C v j l r dl dr)) := by
  have hs := changedSources_c v l r dl dr
  unfold jchE
  generalize chgE v l r dl dr = s at hs hj ⊢
  obtain ⟨x, y, e⟩ := s
  dsimp only [bagI] at hs hj hc ⊢
  by_cases he : e = 0
  · subst he
    cases hr : emptyR v
    · have h1 := emptyR_f hr
      have hj := hj hr
      have hc := hc hr
      rw [if_pos ⟨rfl, rfl⟩]
      have ha := add_c j C.1
      generalize J x y v.on = q at hj ⊢
      generalize addE 1 j C.1 = a at ha ⊢
      obtain ⟨C, f⟩ := C
      dsimp only at hc ha ⊢
      by_cases hf : f = 0
      · subst hf
        rw [if_pos rfl]
        refine pcallN hT Tryz.func55 Tryz.ntmps55 [.tmp 12, .tmp 13] fun B => ?_
        repeat' (first | (with_reducible (first | refine k_seq ?_ | refine k_skip ?_ | refine k_ret ?_ | refine n_seq ?_ | refine r_seq ?_)) | refine s_reg ?_ | refine s_ifT ?_ | refine s_ifF ?_ | refine r_end ?_ | refine s_skipS ?_ | refine s_move ?_ | refine s_assign ?_ | refine s_int ?_ | refine s_str ?_ | refine s_loadB1 ?_ | refine s_loadBA ?_ | refine s_fieldB ?_ | refine s_call (hs) ?_ | refine s_call (hc) ?_ | refine s_call (ha) ?_ | refine s_pick ?_ | refine s_extract ?_ | refine s_box ?_ | refine s_kT ?_ | refine f_ret2 def_nil ?_ ?_ | refine t_tmp ?_)
        all_goals rfl
      · rw [if_neg hf]
        refine pcallN hT Tryz.func55 Tryz.ntmps55 [.tmp 12, .tmp 13] fun B => ?_
        repeat' (first | (with_reducible (first | refine k_seq ?_ | refine k_skip ?_ | refine k_ret ?_ | refine n_seq ?_ | refine r_seq ?_)) | refine s_reg ?_ | refine s_ifT ?_ | refine s_ifF ?_ | refine r_end ?_ | refine s_skipS ?_ | refine s_move ?_ | refine s_assign ?_ | refine s_int ?_ | refine s_str ?_ | refine s_loadB1 ?_ | refine s_loadBA ?_ | refine s_fieldB ?_ | refine s_call (hs) ?_ | refine s_call (hc) ?_ | refine s_call (hj) ?_ | refine s_pick ?_ | refine s_extract ?_ | refine s_box ?_ | refine s_kT ?_ | refine f_ret2 def_nil ?_ ?_ | refine t_tmp ?_)
        all_goals rfl
    · have h1 := emptyR_t hr
      rw [if_neg (by simp)]
      refine pcallN hT Tryz.func55 Tryz.ntmps55 [.tmp 12, .tmp 13] fun B => ?_
      repeat' (first | (with_reducible (first | refine k_seq ?_ | refine k_skip ?_ | refine k_ret ?_ | refine n_seq ?_ | refine r_seq ?_)) | refine s_reg ?_ | refine s_ifT ?_ | refine s_ifF ?_ | refine r_end ?_ | refine s_skipS ?_ | refine s_move ?_ | refine s_assign ?_ | refine s_int ?_ | refine s_str ?_ | refine s_loadB1 ?_ | refine s_loadBA ?_ | refine s_fieldB ?_ | refine s_call (hs) ?_ | refine s_pick ?_ | refine s_extract ?_ | refine s_box ?_ | refine s_kT ?_ | refine f_ret2 def_nil ?_ ?_ | refine t_tmp ?_)
      all_goals rfl
  · rw [if_neg fun h => he h.1]
    refine pcallN hT Tryz.func55 Tryz.ntmps55 [.tmp 12, .tmp 13] fun B => ?_
    repeat' (first | (with_reducible (first | refine k_seq ?_ | refine k_skip ?_ | refine k_ret ?_ | refine n_seq ?_ | refine r_seq ?_)) | refine s_reg ?_ | refine s_ifT ?_ | refine s_ifF ?_ | refine r_end ?_ | refine s_skipS ?_ | refine s_move ?_ | refine s_assign ?_ | refine s_int ?_ | refine s_str ?_ | refine s_loadB1 ?_ | refine s_loadBA ?_ | refine s_fieldB ?_ | refine s_call (hs) ?_ | refine s_pick ?_ | refine s_extract ?_ | refine s_box ?_ | refine s_kT ?_ | refine f_ret2 def_nil ?_ ?_ | refine t_tmp ?_)
    all_goals rfl

/-- The contents of a union. -/
def conUE (v : Vw) (l r dl dr : List Entry) : List Entry × List Entry × Int :=
  if (addE 1 l r).2 = 0 then
    (if (chgE v l r dl dr).2.2 = 0 then ((addE 1 l r).1, (addE 1 (chgE v l r dl dr).1 (chgE v l r dl dr).2.1).1, (addE 1 (chgE v l r dl dr).1 (chgE v l r dl dr).2.1).2)
    else ([], [], (chgE v l r dl dr).2.2))
  else ([], [], (addE 1 l r).2)

def conR (q : List Entry × List Entry × Int) : PRes := .tup [.one (bagD q.1), .one (bagD q.2.1), .one (.lit (.int .i64 q.2.2))]

theorem contentsU_c (v : Vw) (l r dl dr : List Entry) (hk : v.kind = 2) : PCall Tryz.prog 44 [.agg v.d, .one (bagD l), .one (bagD r), .one (bagD dl), .one (bagD dr)] (conR (conUE v l r dl dr)) := by
  have ha := add_c l r
  have hs := changedSources_c v l r dl dr
  unfold conUE
  generalize addE 1 l r = a at ha ⊢
  generalize chgE v l r dl dr = s at hs ⊢
  obtain ⟨a, e⟩ := a
  obtain ⟨x, y, f⟩ := s
  dsimp only at ha hs ⊢
  have hb := add_c x y
  generalize addE 1 x y = b at hb ⊢
  by_cases he : e = 0
  · subst he
    rw [if_pos rfl]
    by_cases hf : f = 0
    · subst hf
      rw [if_pos rfl]
      dsimp only [conR]
      refine pcallN hT Tryz.func44 Tryz.ntmps44 [.tmp 10, .tmp 11, .tmp 12] fun B => ?_
      repeat' (first | (with_reducible (first | refine k_seq ?_ | refine k_skip ?_ | refine k_ret ?_ | refine n_seq ?_ | refine r_seq ?_)) | refine s_reg ?_ | refine s_ifT ?_ | refine s_ifF ?_ | refine r_end ?_ | refine s_move ?_ | refine s_assign ?_ | refine s_int ?_ | refine s_loadB1 ?_ | refine s_loadBA ?_ | refine s_fieldB ?_ | refine s_call (ha) ?_ | refine s_call (hs) ?_ | refine s_call (hb) ?_ | refine s_extract ?_ | refine s_box ?_ | refine f_ret3 def_nil ?_ ?_ ?_ | refine t_tmp ?_ | refine t_tmpE ?_)
      all_goals rfl
    · rw [if_neg hf]
      dsimp only [conR]
      refine pcallN hT Tryz.func44 Tryz.ntmps44 [.tmp 10, .tmp 11, .tmp 12] fun B => ?_
      repeat' (first | (with_reducible (first | refine k_seq ?_ | refine k_skip ?_ | refine k_ret ?_ | refine n_seq ?_ | refine r_seq ?_)) | refine s_reg ?_ | refine s_ifT ?_ | refine s_ifF ?_ | refine r_end ?_ | refine s_move ?_ | refine s_assign ?_ | refine s_int ?_ | refine s_loadB1 ?_ | refine s_loadBA ?_ | refine s_fieldB ?_ | refine s_call (ha) ?_ | refine s_call (hs) ?_ | refine s_extract ?_ | refine s_box ?_ | refine f_ret3 def_nil ?_ ?_ ?_ | refine t_tmp ?_ | refine t_tmpE ?_)
      all_goals rfl
  · rw [if_neg he]
    dsimp only [conR]
    refine pcallN hT Tryz.func44 Tryz.ntmps44 [.tmp 10, .tmp 11, .tmp 12] fun B => ?_
    repeat' (first | (with_reducible (first | refine k_seq ?_ | refine k_skip ?_ | refine k_ret ?_ | refine n_seq ?_ | refine r_seq ?_)) | refine s_reg ?_ | refine s_ifT ?_ | refine s_ifF ?_ | refine r_end ?_ | refine s_move ?_ | refine s_assign ?_ | refine s_int ?_ | refine s_loadB1 ?_ | refine s_loadBA ?_ | refine s_fieldB ?_ | refine s_call (ha) ?_ | refine s_extract ?_ | refine s_box ?_ | refine f_ret3 def_nil ?_ ?_ ?_ | refine t_tmp ?_ | refine t_tmpE ?_)
    all_goals rfl

/-- The contents of another view: s the join of its sources, o its content, j the join of the changed bags, p its content. -/
def conSE (s o j p : List Entry × Int) : List Entry × List Entry × Int :=
  if s.2 = 0 then (if o.2 = 0 then (if j.2 = 0 then (o.1, p.1, p.2) else ([], [], j.2)) else ([], [], o.2)) else ([], [], s.2)

theorem contentsS_c (v : Vw) (l r dl dr : List Entry) (s o j p : List Entry × Int) (hk : v.kind ≠ 2)
    (hs : PCall Tryz.prog 41 [.agg v.d, .one (bagD l), .one (bagD r)] (bagI s))
    (ho : PCall Tryz.prog 42 [.agg v.d, .one (bagD s.1)] (bagI o))
    (hj : PCall Tryz.prog 55 [.agg v.d, .one (bagD s.1), .one (bagD l), .one (bagD r), .one (bagD dl), .one (bagD dr)] (bagI j))
    (hp : PCall Tryz.prog 42 [.agg v.d, .one (bagD j.1)] (bagI p)) :
    PCall Tryz.prog 44 [.agg v.d, .one (bagD l), .one (bagD r), .one (bagD dl), .one (bagD dr)] (conR (conSE s o j p)) := by
  unfold conSE
  obtain ⟨s, e1⟩ := s
  obtain ⟨o, e2⟩ := o
  obtain ⟨j, e3⟩ := j
  dsimp only [bagI] at hs ho hj hp ⊢
  by_cases h1 : e1 = 0
  · subst h1
    rw [if_pos rfl]
    by_cases h2 : e2 = 0
    · subst h2
      rw [if_pos rfl]
      by_cases h3 : e3 = 0
      · subst h3
        rw [if_pos rfl]
        dsimp only [conR]
        refine pcallN hT Tryz.func44 Tryz.ntmps44 [.tmp 10, .tmp 11, .tmp 12] fun B => ?_
        repeat' (first | refine s_call (ha := by exact And.intro rfl (And.intro rfl (And.intro rfl (And.intro rfl (And.intro rfl (And.intro rfl trivial)))))) hj ?_ | (with_reducible (first | refine k_seq ?_ | refine k_skip ?_ | refine k_ret ?_ | refine n_seq ?_ | refine r_seq ?_)) | refine s_reg ?_ | refine s_ifT ?_ | refine s_ifF ?_ | refine r_end ?_ | refine s_move ?_ | refine s_assign ?_ | refine s_int ?_ | refine s_loadB1 ?_ | refine s_loadBA ?_ | refine s_fieldB ?_ | refine s_call (hs) ?_ | refine s_call (ho) ?_ | refine s_call (hp) ?_ | refine s_extract ?_ | refine s_box ?_ | refine f_ret3 def_nil ?_ ?_ ?_ | refine t_tmp ?_ | refine t_tmpE ?_)
        all_goals rfl
      · rw [if_neg h3]
        dsimp only [conR]
        refine pcallN hT Tryz.func44 Tryz.ntmps44 [.tmp 10, .tmp 11, .tmp 12] fun B => ?_
        repeat' (first | refine s_call (ha := by exact And.intro rfl (And.intro rfl (And.intro rfl (And.intro rfl (And.intro rfl (And.intro rfl trivial)))))) hj ?_ | (with_reducible (first | refine k_seq ?_ | refine k_skip ?_ | refine k_ret ?_ | refine n_seq ?_ | refine r_seq ?_)) | refine s_reg ?_ | refine s_ifT ?_ | refine s_ifF ?_ | refine r_end ?_ | refine s_move ?_ | refine s_assign ?_ | refine s_int ?_ | refine s_loadB1 ?_ | refine s_loadBA ?_ | refine s_fieldB ?_ | refine s_call (hs) ?_ | refine s_call (ho) ?_ | refine s_extract ?_ | refine s_box ?_ | refine f_ret3 def_nil ?_ ?_ ?_ | refine t_tmp ?_ | refine t_tmpE ?_)
        all_goals rfl
    · rw [if_neg h2]
      dsimp only [conR]
      refine pcallN hT Tryz.func44 Tryz.ntmps44 [.tmp 10, .tmp 11, .tmp 12] fun B => ?_
      repeat' (first | (with_reducible (first | refine k_seq ?_ | refine k_skip ?_ | refine k_ret ?_ | refine n_seq ?_ | refine r_seq ?_)) | refine s_reg ?_ | refine s_ifT ?_ | refine s_ifF ?_ | refine r_end ?_ | refine s_move ?_ | refine s_assign ?_ | refine s_int ?_ | refine s_loadB1 ?_ | refine s_loadBA ?_ | refine s_fieldB ?_ | refine s_call (hs) ?_ | refine s_call (ho) ?_ | refine s_extract ?_ | refine s_box ?_ | refine f_ret3 def_nil ?_ ?_ ?_ | refine t_tmp ?_ | refine t_tmpE ?_)
      all_goals rfl
  · rw [if_neg h1]
    dsimp only [conR]
    refine pcallN hT Tryz.func44 Tryz.ntmps44 [.tmp 10, .tmp 11, .tmp 12] fun B => ?_
    repeat' (first | (with_reducible (first | refine k_seq ?_ | refine k_skip ?_ | refine k_ret ?_ | refine n_seq ?_ | refine r_seq ?_)) | refine s_reg ?_ | refine s_ifT ?_ | refine s_ifF ?_ | refine r_end ?_ | refine s_move ?_ | refine s_assign ?_ | refine s_int ?_ | refine s_loadB1 ?_ | refine s_loadBA ?_ | refine s_fieldB ?_ | refine s_call (hs) ?_ | refine s_extract ?_ | refine s_box ?_ | refine f_ret3 def_nil ?_ ?_ ?_ | refine t_tmp ?_ | refine t_tmpE ?_)
    all_goals rfl

theorem change1_d : DeferOk Tryz.prog 43 0 := by
  refine ⟨⟨_, Tryz.func43, by kernel_rfl, by kernel_rfl⟩, fun vs w hl => ?_⟩
  match vs, hl with
  | [], _ =>
    refine callsD_of_wpS Tryz.func43 rfl fun c₀ cs hu => ?_
    apply wpS_region
    simp [wpOpsS, go_sem, recoverD, hu, Tryz.ntmps43, Exit.thenS]
    cases c₀
    simp_all [bodyPostS, results, Tryz.results43]

/-- The change of a view, from its contents. -/
def chaE (ok : Bool) (q : List Entry × List Entry × Int) : List Entry × Int := if ok = true then (if q.2.2 = 0 then addE (-1) q.2.1 q.1 else ([], q.2.2)) else ([], 1)

theorem change_c (v : Vw) (l r dl dr : List Entry) (q : List Entry × List Entry × Int)
    (hq : derivE v l r = true → PCall Tryz.prog 44 [.agg v.d, .one (bagD l), .one (bagD r), .one (bagD dl), .one (bagD dr)] (conR q)) :
    PCall Tryz.prog 18 [.agg v.d, .one (bagD l), .one (bagD r), .one (bagD dl), .one (bagD dr)] (bagI (chaE (derivE v l r) q)) := by
  have hd := derivable_c v l r
  unfold chaE
  cases h : derivE v l r
  · rw [h] at hd
    rw [if_neg (by simp)]
    dsimp only [bagI]
    refine pcallN hT Tryz.func18 Tryz.ntmps18 [.tmp 10, .tmp 11] fun B => ?_
    repeat' (first | (with_reducible (first | refine k_seq ?_ | refine k_skip ?_ | refine k_ret ?_ | refine n_seq ?_ | refine r_seq ?_)) | refine s_reg ?_ | refine s_ifT ?_ | refine s_ifF ?_ | refine r_end ?_ | refine s_move ?_ | refine s_assign ?_ | refine s_int ?_ | refine s_loadBA ?_ | refine s_call (hd) ?_ | refine s_extract ?_ | refine s_not ?_ | refine s_box ?_ | refine s_defer ?_ | refine f_ret2 (by repeat (first | exact def_nil | refine def_cons change1_d ?_)) ?_ ?_ | refine t_tmp ?_ | refine t_tmpE ?_)
    all_goals rfl
  · rw [h] at hd
    have hq := hq h
    rw [if_pos rfl]
    obtain ⟨x, y, e⟩ := q
    dsimp only [conR] at hq ⊢
    by_cases he : e = 0
    · subst he
      have ha := subtract_c y x
      rw [if_pos rfl]
      generalize addE (-1) y x = a at ha ⊢
      dsimp only [bagI]
      refine pcallN hT Tryz.func18 Tryz.ntmps18 [.tmp 10, .tmp 11] fun B => ?_
      repeat' (first | (with_reducible (first | refine k_seq ?_ | refine k_skip ?_ | refine k_ret ?_ | refine n_seq ?_ | refine r_seq ?_)) | refine s_reg ?_ | refine s_ifT ?_ | refine s_ifF ?_ | refine r_end ?_ | refine s_move ?_ | refine s_assign ?_ | refine s_int ?_ | refine s_loadBA ?_ | refine s_call (hd) ?_ | refine s_call (hq) ?_ | refine s_call (ha) ?_ | refine s_extract ?_ | refine s_not ?_ | refine s_box ?_ | refine s_defer ?_ | refine f_ret2 (by repeat (first | exact def_nil | refine def_cons change1_d ?_)) ?_ ?_ | refine t_tmp ?_ | refine t_tmpE ?_)
      all_goals rfl
    · rw [if_neg he]
      dsimp only [bagI]
      refine pcallN hT Tryz.func18 Tryz.ntmps18 [.tmp 10, .tmp 11] fun B => ?_
      repeat' (first | (with_reducible (first | refine k_seq ?_ | refine k_skip ?_ | refine k_ret ?_ | refine n_seq ?_ | refine r_seq ?_)) | refine s_reg ?_ | refine s_ifT ?_ | refine s_ifF ?_ | refine r_end ?_ | refine s_move ?_ | refine s_assign ?_ | refine s_int ?_ | refine s_loadBA ?_ | refine s_call (hd) ?_ | refine s_call (hq) ?_ | refine s_extract ?_ | refine s_not ?_ | refine s_box ?_ | refine s_defer ?_ | refine f_ret2 (by repeat (first | exact def_nil | refine def_cons change1_d ?_)) ?_ ?_ | refine t_tmp ?_ | refine t_tmpE ?_)
      all_goals rfl
end Go.Proofs.YtmpgmjlanngkfaaGreat
