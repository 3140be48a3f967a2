/-
  Aggregates: merge of states.
-/
import Derived.Test.YtojfhaoleedmkaaGreatRgw
namespace Go.Proofs.YtojfhaoleedmkaaGreat
open Go.Abs Go.RowKit
attribute [local irreducible] ARun kont MCall PCall HCall resVal SF CF CFs defersOk slotsIn memIn fin finM VLe
set_option linter.unusedSimpArgs false
set_option maxRecDepth 100000
set_option maxHeartbeats 4000000
theorem sadd0_h (s : Sta) (hz : s.zero = true) (out : List Sta) : HCall Tryz.prog 120 [.agg (s.d.map .d), .c (.bp 0 0 0)] [.box 0 [.arr 1 0 out.length], .arr 0 90 4 (out.map Sta.d)] (.tup []) [.box 0 [.arr 1 0 out.length], .arr 0 90 4 (out.map Sta.d)] := by
  have h := isZero_c s
  rw [hz] at h
  refine hcallN hT Tryz.func120 Tryz.ntmps120 [] fun B => ?_
  repeat' (first | (with_reducible (first | refine k_seq ?_ | refine k_skip ?_ | refine n_seq ?_)) | refine s_reg ?_ | refine s_ifF ?_ | refine r_end ?_ | refine s_loadBA ?_ | refine s_call (h) ?_ | refine s_not ?_ | refine s_box ?_ | refine fh_end0 def_nil ?_ | exact memIn_nil | refine memIn_same ?_)
theorem sadd1_h (s : Sta) (hz : s.zero = false) (out : List Sta) (ho : out.length ≤ 1000000) : HCall Tryz.prog 120 [.agg (s.d.map .d), .c (.bp 0 0 0)] [.box 0 [.arr 1 0 out.length], .arr 0 90 4 (out.map Sta.d)] (.tup []) [.box 0 [.arr 1 1 (out.length + 1)], .arr 1 90 4 ((out ++ [s]).map Sta.d)] := by
  have h := isZero_c s
  rw [hz] at h
  refine hcallN hT Tryz.func120 Tryz.ntmps120 [] fun B => ?_
  repeat' (first | (with_reducible (first | refine k_seq ?_ | refine n_seq ?_)) | refine s_reg ?_ | refine s_ifT ?_ | refine r_end ?_ | refine s_loadB1 ?_ | refine s_loadBA ?_ | refine s_call (h) ?_ | refine s_appA ?_ | refine s_storeB ?_ | refine s_bslice ?_ | refine s_not ?_ | refine s_box ?_ | refine fh_end0 def_nil ?_ | exact memIn_nil | refine memIn_same ?_ | refine m1 ?_ ?_)
  rw [List.map_append]; rfl
theorem cloneG_h (l : List Sta) (hl : l.length ≤ 100000) : HCall Tryz.prog 122 [.c (.d (stsD l))] [] (.c (.arr 0 1 l.length)) [.arr 1 90 4 (l.map Sta.d)] := by
  by_cases hne : l = []
  · subst hne
    refine hcallN hT Tryz.func122 Tryz.ntmps122 [.tmp 2] fun B => ?_
    repeat' (first | ((with_reducible (refine is_retC ?_)); refine s_own 2 90 4 ?_) | (with_reducible (first | refine k_seq ?_ | refine k_skip ?_ | refine k_ret ?_ | refine n_seq ?_ | refine r_seq ?_)) | refine s_reg ?_ | refine s_if rfl (fun hb => ?_) (fun hb => ?_) | refine r_end ?_ | refine s_move ?_ | refine s_assign ?_ | refine s_eqNil (fun b hnil => ?_) | refine s_appE ?_ | refine s_bslice0 ?_ | refine s_eqNil (fun b hnil => ?_) | refine fh_ret1 def_nil ?_ ?_ | exact memIn_nil | refine memIn_same ?_ | exact am_same)
    all_goals first
      | (simp; done)
      | rfl
  · have hpos : 0 < l.length := List.length_pos_iff.2 hne
    refine hcallN hT Tryz.func122 Tryz.ntmps122 [.tmp 2] fun B => ?_
    repeat' (first | (with_reducible (first | refine k_seq ?_ | refine k_skip ?_ | refine k_ret ?_ | refine n_seq ?_ | refine r_seq ?_)) | refine s_reg ?_ | refine s_if rfl (fun hb => ?_) (fun hb => ?_) | refine r_end ?_ | refine s_move ?_ | refine s_assign ?_ | refine s_eqNil (fun b hnil => ?_) | refine s_appE ?_ | refine s_bslice0 ?_ | refine s_eqNil (fun b hnil => ?_) | refine fh_ret1 def_nil ?_ ?_ | exact memIn_nil | refine memIn_same ?_ | exact am_same)
    all_goals first
      | (exfalso; exact hne (by simpa using hnil hb))
      | (simp; done)
      | rfl
theorem clone64_c (l : List Int) (hl : l.length ≤ 100000) : PCall Tryz.prog 152 [.one (intsD l)] (.v (.one (intsD l))) := by
  by_cases hne : l = []
  · subst hne
    refine pcallN hT Tryz.func152 Tryz.ntmps152 [.tmp 2] fun B => ?_
    repeat' (first | (with_reducible (first | refine k_seq ?_ | refine k_skip ?_ | refine k_ret ?_ | refine n_seq ?_ | refine r_seq ?_)) | refine s_reg ?_ | refine s_if rfl (fun hb => ?_) (fun hb => ?_) | refine r_end ?_ | refine s_move ?_ | refine s_assign ?_ | refine s_eqNil (fun b hnil => ?_) | refine s_appE ?_ | refine s_bslice0 ?_ | refine s_eqNil (fun b hnil => ?_) | refine f_ret1 def_nil ?_ | refine t_tmpE ?_ | refine t_tmpA rfl rfl ?_ ?_)
    all_goals first
      | rfl
      | (simp; done)
  · have hpos : 0 < l.length := List.length_pos_iff.2 hne
    refine pcallN hT Tryz.func152 Tryz.ntmps152 [.tmp 2] fun B => ?_
    repeat' (first | (with_reducible (first | refine k_seq ?_ | refine k_skip ?_ | refine k_ret ?_ | refine n_seq ?_ | refine r_seq ?_)) | refine s_reg ?_ | refine s_if rfl (fun hb => ?_) (fun hb => ?_) | refine r_end ?_ | refine s_move ?_ | refine s_assign ?_ | refine s_eqNil (fun b hnil => ?_) | refine s_appE ?_ | refine s_bslice0 ?_ | refine s_eqNil (fun b hnil => ?_) | refine f_ret1 def_nil ?_ | refine t_tmpE ?_ | refine t_tmpA rfl rfl ?_ ?_)
    all_goals first
      | (exfalso; exact hne (by simpa using hnil hb))
      | (simp; done)
      | rfl
      | (rw [take_ge (by simp)]; rfl)
theorem cloneS_c (s : Sta) (hk : s.key.length ≤ 1000000) (h1 : s.sums.length ≤ 100000) (h2 : s.some.length ≤ 100000) : PCall Tryz.prog 121 [.agg s.d] (.v (.agg s.d)) := by
  have hc := clone_c s.key hk
  have c1 := clone64_c s.sums h1
  have c2 := clone64_c s.some h2
  refine pcallN hT Tryz.func121 Tryz.ntmps121 [.cell 2 90] fun B => ?_
  repeat' (first | (with_reducible (first | refine k_seq ?_ | refine k_ret ?_ | refine n_seq ?_)) | refine s_reg ?_ | refine r_end ?_ | refine s_endD ?_ | refine s_loadB1 ?_ | refine s_fieldB ?_ | refine s_call (hc) ?_ | refine s_call (c1) ?_ | refine s_call (c2) ?_ | refine s_storeB ?_ | refine s_alloc ?_ | refine s_box ?_ | refine s_build ?_ | refine f_ret1 def_nil ?_ | refine t_cellG ?_ | exact cfs_nil | refine cfs_cons ?_ ?_ | refine cf_d ?_)
  all_goals rfl
def mixE (xs ys : List Int) (i : Nat) : List Int := (List.zipWith (fun x y => w64 (x + y)) xs ys).take i ++ xs.drop i
theorem mixE_zero (xs ys : List Int) : mixE xs ys 0 = xs := by simp [mixE]
theorem mixE_len {xs ys : List Int} (h : xs.length = ys.length) (i : Nat) : (mixE xs ys i).length = xs.length := by simp [mixE]; omega
theorem mixE_get {xs ys : List Int} (h : xs.length = ys.length) {i : Nat} (hi : i < xs.length) : (mixE xs ys i)[i]? = xs[i]? := by
  have hl : ((List.zipWith (fun x y => w64 (x + y)) xs ys).take i).length = i := by simp; omega
  unfold mixE
  rw [List.getElem?_append_right (by omega), hl, Nat.sub_self, List.getElem?_drop]; rfl
theorem mixE_set {xs ys : List Int} (h : xs.length = ys.length) {i : Nat} {x y : Int} (hx : xs[i]? = some x) (hy : ys[i]? = some y) : (mixE xs ys i).set i (w64 (x + y)) = mixE xs ys (i + 1) := by
  have hi := lt_of_getElem? hx
  have hl : ((List.zipWith (fun x y => w64 (x + y)) xs ys).take i).length = i := by simp; omega
  have hz : (List.zipWith (fun x y => w64 (x + y)) xs ys)[i]? = some (w64 (x + y)) := by simp [List.getElem?_zipWith, hx, hy]
  unfold mixE
  rw [take_snoc' hz, drop_cons hx, List.set_append_right _ _ (by omega), hl, Nat.sub_self, List.set_cons_zero, List.append_assoc]; rfl
theorem mixE_full {xs ys : List Int} (h : xs.length = ys.length) : mixE xs ys xs.length = List.zipWith (fun x y => w64 (x + y)) xs ys := by
  unfold mixE
  rw [List.drop_length, List.append_nil, List.take_of_length_le (by rw [List.length_zipWith]; omega)]
def SOk (n : Nat) (s : Sta) : Prop := s.key.length ≤ 100000 ∧ s.sums.length = n ∧ s.some.length = n
theorem smerge_c (a b : List Sta) (n : Nat) (hal : a.length ≤ 4096) (hbl : b.length ≤ 4096) (hma : ∀ s ∈ a, SOk n s) (hmb : ∀ s ∈ b, SOk n s) (hn : n ≤ 10000) : PCall Tryz.prog 78 [.one (stsD a), .one (stsD b)] (.v (.one (stsD ((mergeS a b).filter nzS)))) := by
  refine pcallN hT Tryz.func78 Tryz.ntmps78 [.tmp 4] fun B => ?_
  repeat' (first | (with_reducible (first | refine k_seq ?_ | refine k_block ?_ | refine k_skip ?_ | refine k_exit ?_ | refine k_ret ?_ | refine n_seq ?_ | refine n_block ?_ | refine e_seq ?_ | refine e_here ?_ | refine o_exit ?_)) | refine s_reg ?_ | refine s_ifT ?_ | refine s_ifF ?_ | refine r_end ?_ | refine s_endD ?_ | refine s_skipS ?_ | refine s_move ?_ | refine s_assign ?_ | refine s_int ?_ | refine s_loadF1 ?_ | refine s_loadB1 ?_ | refine s_loadFA ?_ | refine s_loadBA ?_ | refine s_indexD ?_ (hel := (by first | exact rfl)) | refine s_indexA ?_ | refine s_fieldF ?_ | refine s_fieldB ?_ | refine s_pick ?_ | refine s_lenD ?_ | refine s_lenA ?_ | refine s_appA ?_ | refine s_storeB ?_ | refine s_alloc ?_ | refine s_sliceD ?_ | refine s_funcC ?_ | refine s_kT ?_ | refine s_kF ?_ | refine f_ret1 def_nil ?_ | refine t_tmpA rfl rfl ?_ ?_)
  refine s_ownBox 0 0 90 4 ?_
  refine s_lp (X := List Sta × List Sta × Nat × List Sta) [0, 1, 7, 8, 9, 13, 14, 15, 16, 17, 18, 19, 20, 21, 22, 23, 24, 25, 26, 27, 28, 29, 30, 31, 32, 33, 34, 35, 36, 37, 38, 39, 40, 41, 42, 43, 44, 45, 46, 47, 48, 49, 50, 51, 52, 53, 54, 55, 56, 57, 58, 59, 60, 61, 62, 63, 64, 65, 66, 67, 68, 69, 70, 71, 72, 73, 74, 75, 76, 77, 78, 79, 80, 81, 82, 83, 84, 85, 86, 87, 88, 89, 90, 91, 92, 93, 94, 95, 96, 97, 98, 99, 100, 101, 102, 103, 104, 105] (fun x => (∀ e ∈ x.1, e ∈ a) ∧ (∀ e ∈ x.2.1, e ∈ b) ∧ x.1.length ≤ a.length ∧ x.2.1.length ≤ b.length ∧ x.2.2.2.length + x.1.length + x.2.1.length ≤ a.length + b.length ∧ x.2.2.2 ++ (mergeS x.1 x.2.1).filter nzS = (mergeS a b).filter nzS) (fun x lz => (0, .c (.d (stsD x.1))) :: (1, .c (.d (stsD x.2.1))) :: lz) (fun x => [.box 1 [.arr 1 x.2.2.1 x.2.2.2.length], .arr x.2.2.1 90 4 (x.2.2.2.map Sta.d)]) (fun x => x.1.length + x.2.1.length) ((a, b, 2, [])) ?_ ?_ ?_ ?_
  repeat' (first | exact slots_nil | refine w1 ?_ | refine w3 ?_ ?_ | exact memIn_nil | refine memIn_same ?_ | refine m1 ?_ ?_ | refine m2 ?_ ?_ | omega)
  · exact ⟨fun e h => h, fun e h => h, Nat.le_refl _, Nat.le_refl _, by simp, rfl⟩
  rintro ⟨a', b', k, out⟩ c ⟨h1, h2, h3, h4, h5, hinv⟩
  dsimp only at h1 h2 h3 h4 h5 hinv ⊢
  by_cases hend : a'.length = 0 ∨ b'.length = 0
  · have hM : out ++ (a' ++ b').filter nzS = (mergeS a b).filter nzS := by
      rw [← hinv]
      rcases hend with h | h
      · obtain rfl := List.length_eq_zero_iff.1 h
        rw [mergeS_nil']; rfl
      · obtain rfl := List.length_eq_zero_iff.1 h
        rw [mergeS_nil, List.append_nil]
    clear hinv
    generalize (mergeS a b).filter nzS = M at hM
    have hcl := cloneG_h a' (by omega)
    have hLl : (a' ++ b').length = a'.length + b'.length := by simp
    have hLm : ∀ s ∈ a' ++ b', SOk n s := fun s hs => by
      rcases List.mem_append.1 hs with h | h
      · exact hma s (h1 s h)
      · exact hmb s (h2 s h)
    have hbl2 : (b'.map Sta.d).length = b'.length := by simp
    have hLd : (a' ++ b').map Sta.d = a'.map Sta.d ++ b'.map Sta.d := by simp
    have hend : a'.length = 0 ∨ (0 < a'.length ∧ b'.length = 0) := by omega
    rcases hend with hend | hend
    all_goals
      repeat' (first | (with_reducible (first | refine k_seq ?_ | refine k_block ?_ | refine k_skip ?_ | refine k_exit ?_ | refine k_ret ?_ | refine n_seq ?_ | refine n_block ?_ | refine e_seq ?_ | refine e_here ?_ | refine o_exit ?_)) | refine s_reg ?_ | refine s_ifT ?_ | refine s_ifF ?_ | refine r_end ?_ | refine s_endD ?_ | refine s_skipS ?_ | refine s_move ?_ | refine s_assign ?_ | refine s_int ?_ | refine s_loadF1 ?_ | refine s_loadB1 ?_ | refine s_loadFA ?_ | refine s_loadBA ?_ | refine s_indexD ?_ (hel := (by first | exact rfl)) | refine s_indexA ?_ | refine s_fieldF ?_ | refine s_fieldB ?_ | refine s_callH [] (hcl) ?_ | refine s_pick ?_ | refine s_lenD ?_ | refine s_lenA ?_ | refine s_appA ?_ | refine s_storeB ?_ | refine s_alloc ?_ | refine s_sliceD ?_ | refine s_funcC ?_ | refine s_kT ?_ | refine s_kF ?_ | refine f_ret1 def_nil ?_ | refine t_tmpA rfl rfl ?_ ?_)
      refine s_freeze (r := 2) 109 ?_ (hl := by simp) (hes := (show _ = (a' ++ b').map Sta.d from by rw [hLd]; exact take_ge (by simp)))
      generalize a' ++ b' = L at hM hLl hLm
      refine s_lp (X := Nat × Nat) [11, 111, 112, 113, 114, 115, 116, 117, 118, 119] (fun x => x.1 ≤ L.length) (fun x lz => (111, (.c (.d (.lit (.int .i64 x.1))))) :: lz) (fun x => [.box 1 [.arr 1 x.2 (out ++ (L.take x.1).filter nzS).length], .arr x.2 90 4 ((out ++ (L.take x.1).filter nzS).map Sta.d)]) (fun x => L.length - x.1) ((0, k)) ?_ ?_ ?_ ?_
      repeat' (first | exact slots_nil | refine w1 ?_ | refine w3 ?_ ?_ | exact memIn_nil | refine memIn_same ?_ | refine m1 ?_ ?_ | refine m2 ?_ ?_ | omega)
      all_goals try (simp; done)
      rintro ⟨i, k1⟩ c1 hi
      dsimp only at hi ⊢
      by_cases hlt : i < L.length
      · have hv : L[i]? = some L[i] := List.getElem?_eq_getElem hlt
        obtain ⟨hs1, hs2, hs3⟩ := hLm _ (List.getElem_mem hlt)
        generalize L[i] = s at hv hs1 hs2 hs3
        have hv2 : (L.map Sta.d)[i]? = some s.d := by rw [List.getElem?_map, hv]; rfl
        have hcs := cloneS_c s (by omega) (by omega) (by omega)
        have htk : out ++ (L.take (i + 1)).filter nzS = out ++ (L.take i).filter nzS ++ (if nzS s = true then [s] else []) := by
          rw [take_snoc' hv, List.filter_append, ← List.append_assoc]
          congr 1
          rw [List.filter_cons]; rfl
        have hol : (out ++ (L.take i).filter nzS).length ≤ 100000 := by
          have := List.length_filter_le nzS (L.take i)
          rw [List.length_append, List.length_take] at *
          omega
        generalize out ++ (L.take i).filter nzS = O at htk hol ⊢
        cases hz : s.zero with
        | true =>
          rw [show nzS s = false by unfold nzS; rw [hz]; rfl, if_neg (by decide), List.append_nil] at htk
          have hadd := sadd0_h s hz O
          repeat' (first | (with_reducible (first | refine k_seq ?_ | refine k_block ?_ | refine k_skip ?_ | refine k_exit ?_ | refine k_ret ?_ | refine n_seq ?_ | refine n_block ?_ | refine e_seq ?_ | refine e_here ?_ | refine o_exit ?_)) | refine s_reg ?_ | refine s_ifT ?_ | refine s_ifF ?_ | refine r_end ?_ | refine s_endD ?_ | refine s_skipS ?_ | refine s_move ?_ | refine s_assign ?_ | refine s_int ?_ | refine s_loadF1 ?_ | refine s_loadB1 ?_ | refine s_loadFA ?_ | refine s_loadBA ?_ | refine s_loadA1 ?_ (he' := (by first | exact hv2 | exact rfl)) | refine s_indexD ?_ (hel := (by first | exact idx_map hv2 (by omega) | exact hv2 | exact rfl)) | refine s_indexA ?_ | refine s_fieldF ?_ | refine s_fieldB ?_ | refine s_call (hcs) ?_ | refine s_callH [0, 1] (hadd) ?_ | refine s_pick ?_ | refine s_lenD ?_ | refine s_lenA ?_ | refine s_appA ?_ | refine s_storeB ?_ | refine s_storeA ?_ (hj := (by first | exact hv2 | exact rfl)) | refine s_alloc ?_ | refine s_sliceD ?_ | refine s_funcC ?_ | refine s_kT ?_ | refine s_kF ?_ | refine f_ret1 def_nil ?_ | refine t_tmpA rfl rfl ?_ ?_)
          (apply s_round ((i + 1, k1)); all_goals (try dsimp only); all_goals (try (repeat' (first | exact slots_nil | refine w1 ?_ | refine w3 ?_ ?_ | exact memIn_nil | refine memIn_same ?_ | refine m1 ?_ ?_ | refine m2 ?_ ?_ | omega))))
          all_goals rw [htk]
        | false =>
          rw [show nzS s = true by unfold nzS; rw [hz]; rfl, if_pos rfl] at htk
          have hadd := sadd1_h s hz O (by omega)
          repeat' (first | (with_reducible (first | refine k_seq ?_ | refine k_block ?_ | refine k_skip ?_ | refine k_exit ?_ | refine k_ret ?_ | refine n_seq ?_ | refine n_block ?_ | refine e_seq ?_ | refine e_here ?_ | refine o_exit ?_)) | refine s_reg ?_ | refine s_ifT ?_ | refine s_ifF ?_ | refine r_end ?_ | refine s_endD ?_ | refine s_skipS ?_ | refine s_move ?_ | refine s_assign ?_ | refine s_int ?_ | refine s_loadF1 ?_ | refine s_loadB1 ?_ | refine s_loadFA ?_ | refine s_loadBA ?_ | refine s_loadA1 ?_ (he' := (by first | exact hv2 | exact rfl)) | refine s_indexD ?_ (hel := (by first | exact idx_map hv2 (by omega) | exact hv2 | exact rfl)) | refine s_indexA ?_ | refine s_fieldF ?_ | refine s_fieldB ?_ | refine s_call (hcs) ?_ | refine s_callH [0, 1] (hadd) ?_ | refine s_pick ?_ | refine s_lenD ?_ | refine s_lenA ?_ | refine s_appA ?_ | refine s_storeB ?_ | refine s_storeA ?_ (hj := (by first | exact hv2 | exact rfl)) | refine s_alloc ?_ | refine s_sliceD ?_ | refine s_funcC ?_ | refine s_kT ?_ | refine s_kF ?_ | refine f_ret1 def_nil ?_ | refine t_tmpA rfl rfl ?_ ?_)
          (apply s_round ((i + 1, c1 + 2)); all_goals (try dsimp only); all_goals (try (repeat' (first | exact slots_nil | refine w1 ?_ | refine w3 ?_ ?_ | exact memIn_nil | refine memIn_same ?_ | refine m1 ?_ ?_ | refine m2 ?_ ?_ | omega))))
          all_goals rw [htk]
          all_goals (rw [List.length_append]; rfl)
      · rw [take_ge (show L.length ≤ i by omega), hM]
        repeat' (first | (with_reducible (first | refine k_seq ?_ | refine k_block ?_ | refine k_skip ?_ | refine k_exit ?_ | refine k_ret ?_ | refine n_seq ?_ | refine n_block ?_ | refine e_seq ?_ | refine e_here ?_ | refine o_exit ?_)) | refine s_reg ?_ | refine s_ifT ?_ | refine s_ifF ?_ | refine r_end ?_ | refine s_endD ?_ | refine s_skipS ?_ | refine s_move ?_ | refine s_assign ?_ | refine s_int ?_ | refine s_loadF1 ?_ | refine s_loadB1 ?_ | refine s_loadFA ?_ | refine s_loadBA ?_ | refine s_indexD ?_ (hel := (by first | exact rfl)) | refine s_indexA ?_ | refine s_fieldF ?_ | refine s_fieldB ?_ | refine s_pick ?_ | refine s_lenD ?_ | refine s_lenA ?_ | refine s_appA ?_ | refine s_storeB ?_ | refine s_alloc ?_ | refine s_sliceD ?_ | refine s_funcC ?_ | refine s_kT ?_ | refine s_kF ?_ | refine f_ret1 def_nil ?_ | refine t_tmpA rfl rfl ?_ ?_)
        all_goals first
          | (simp; done)
          | (rw [take_ge (by simp)]; rfl)
          | rfl
  · obtain ⟨p, a2, rfl⟩ : ∃ p a2, a' = p :: a2 := by
      cases a' with
      | nil => exact absurd (.inl rfl) hend
      | cons p a2 => exact ⟨p, a2, rfl⟩
    obtain ⟨q, b2, rfl⟩ : ∃ q b2, b' = q :: b2 := by
      cases b' with
      | nil => exact absurd (.inr rfl) hend
      | cons q b2 => exact ⟨q, b2, rfl⟩
    obtain ⟨hx1, hx2, hx3⟩ := hma p (h1 p (by simp))
    obtain ⟨hy1, hy2, hy3⟩ := hmb q (h2 q (by simp))
    have hvx : ((p :: a2).map Sta.d)[0]? = some p.d := rfl
    have hvy : ((q :: b2).map Sta.d)[0]? = some q.d := rfl
    have hla : (p :: a2).length = a2.length + 1 := rfl
    have hlb : (q :: b2).length = b2.length + 1 := rfl
    rw [mergeS] at hinv
    rcases Int.lt_trichotomy (rowCmp p.key q.key) 0 with hc | hc | hc
    · rw [if_pos hc] at hinv
      have hcl := cloneS_c p (by omega) (by omega) (by omega)
      cases hz : p.zero with
      | true =>
        have hadd := sadd0_h p hz out
        rw [List.filter_cons_of_neg (by unfold nzS; rw [hz]; decide)] at hinv
        repeat' (first | (with_reducible (first | refine k_seq ?_ | refine k_block ?_ | refine k_skip ?_ | refine k_exit ?_ | refine k_ret ?_ | refine n_seq ?_ | refine n_block ?_ | refine e_seq ?_ | refine e_here ?_ | refine o_exit ?_)) | refine s_reg ?_ | refine s_ifT ?_ | refine s_ifF ?_ | refine r_end ?_ | refine s_endD ?_ | refine s_skipS ?_ | refine s_move ?_ | refine s_assign ?_ | refine s_int ?_ | refine s_loadF1 ?_ | refine s_loadB1 ?_ | refine s_loadFA ?_ | refine s_loadBA ?_ | refine s_loadA1 ?_ (he' := (by first | exact hvx | exact hvy | exact rfl)) | refine s_indexD ?_ (hel := (by first | exact idx_map hvx (by omega) | exact idx_map hvy (by omega) | exact hvx | exact hvy | exact rfl)) | refine s_indexA ?_ | refine s_fieldF ?_ | refine s_fieldB ?_ | refine s_call (compareRows_c _ _) ?_ | refine s_call (hcl) ?_ | refine s_callH [0, 1] (hadd) ?_ | refine s_pick ?_ | refine s_lenD ?_ | refine s_lenA ?_ | refine s_appA ?_ | refine s_storeB ?_ | refine s_storeA ?_ (hj := (by first | exact hvx | exact hvy | exact rfl)) | refine s_alloc ?_ | refine s_sliceD ?_ | refine s_funcC ?_ | refine s_kT ?_ | refine s_kF ?_ | refine f_ret1 def_nil ?_ | refine t_tmpA rfl rfl ?_ ?_)
        (apply s_round ((a2, q :: b2, _, out)); all_goals (try dsimp only); all_goals (try (repeat' (first | exact slots_nil | refine w1 ?_ | refine w3 ?_ ?_ | exact memIn_nil | refine memIn_same ?_ | refine m1 ?_ ?_ | refine m2 ?_ ?_ | omega))))
        · rw [take_ge (by simp)]; rfl
        · exact ⟨fun e h => h1 e (by simp [h]), h2, by omega, by omega, by omega, hinv⟩
      | false =>
        have hadd := sadd1_h p hz out (by omega)
        rw [List.filter_cons_of_pos (by unfold nzS; rw [hz]; decide)] at hinv
        repeat' (first | (with_reducible (first | refine k_seq ?_ | refine k_block ?_ | refine k_skip ?_ | refine k_exit ?_ | refine k_ret ?_ | refine n_seq ?_ | refine n_block ?_ | refine e_seq ?_ | refine e_here ?_ | refine o_exit ?_)) | refine s_reg ?_ | refine s_ifT ?_ | refine s_ifF ?_ | refine r_end ?_ | refine s_endD ?_ | refine s_skipS ?_ | refine s_move ?_ | refine s_assign ?_ | refine s_int ?_ | refine s_loadF1 ?_ | refine s_loadB1 ?_ | refine s_loadFA ?_ | refine s_loadBA ?_ | refine s_loadA1 ?_ (he' := (by first | exact hvx | exact hvy | exact rfl)) | refine s_indexD ?_ (hel := (by first | exact idx_map hvx (by omega) | exact idx_map hvy (by omega) | exact hvx | exact hvy | exact rfl)) | refine s_indexA ?_ | refine s_fieldF ?_ | refine s_fieldB ?_ | refine s_call (compareRows_c _ _) ?_ | refine s_call (hcl) ?_ | refine s_callH [0, 1] (hadd) ?_ | refine s_pick ?_ | refine s_lenD ?_ | refine s_lenA ?_ | refine s_appA ?_ | refine s_storeB ?_ | refine s_storeA ?_ (hj := (by first | exact hvx | exact hvy | exact rfl)) | refine s_alloc ?_ | refine s_sliceD ?_ | refine s_funcC ?_ | refine s_kT ?_ | refine s_kF ?_ | refine f_ret1 def_nil ?_ | refine t_tmpA rfl rfl ?_ ?_)
        (apply s_round ((a2, q :: b2, _, out ++ [p])); all_goals (try dsimp only); all_goals (try (repeat' (first | exact slots_nil | refine w1 ?_ | refine w3 ?_ ?_ | exact memIn_nil | refine memIn_same ?_ | refine m1 ?_ ?_ | refine m2 ?_ ?_ | omega))))
        · rw [take_ge (by simp)]; rfl
        · rw [List.length_append]; rfl
        · refine ⟨fun e h => h1 e (by simp [h]), h2, by omega, by omega, by rw [List.length_append, List.length_singleton]; omega, ?_⟩
          rw [← hinv, List.append_assoc]; rfl
    · rw [if_neg (by omega), if_neg (by omega)] at hinv
      have hcl := cloneS_h p (by omega) (by omega) (by omega)
      have m1 := mixE_zero p.sums q.sums
      have m2 := mixE_zero p.some q.some
      repeat' (first | (with_reducible (first | refine k_seq ?_ | refine k_block ?_ | refine k_skip ?_ | refine k_exit ?_ | refine k_ret ?_ | refine n_seq ?_ | refine n_block ?_ | refine e_seq ?_ | refine e_here ?_ | refine o_exit ?_)) | refine s_reg ?_ | refine s_ifT ?_ | refine s_ifF ?_ | refine r_end ?_ | refine s_endD ?_ | refine s_skipS ?_ | refine s_move ?_ | refine s_assign ?_ | refine s_int ?_ | refine s_loadF1 ?_ | refine s_loadB1 ?_ | refine s_loadFA ?_ | refine s_loadBA ?_ | refine s_loadA1 ?_ (he' := (by first | exact hvx | exact hvy | exact rfl)) | refine s_indexD ?_ (hel := (by first | exact idx_map hvx (by omega) | exact idx_map hvy (by omega) | exact hvx | exact hvy | exact rfl)) | refine s_indexA ?_ | refine s_fieldF ?_ | refine s_fieldB ?_ | refine s_call (compareRows_c _ _) ?_ | refine s_callH [] (hcl) ?_ | refine s_pick ?_ | refine s_lenD ?_ | refine s_lenA ?_ | refine s_appA ?_ | refine s_storeB ?_ | refine s_storeA ?_ (hj := (by first | exact hvx | exact hvy | exact rfl)) | refine s_alloc ?_ | refine s_sliceD ?_ | refine s_funcC ?_ | refine s_kT ?_ | refine s_kF ?_ | refine f_ret1 def_nil ?_ | refine t_tmpA rfl rfl ?_ ?_)
      refine s_lp (X := Nat) [9, 45, 46, 47, 48, 49, 50, 51, 52, 53, 54, 55, 56, 57, 58, 59, 60, 61, 62, 63, 64, 65, 66, 67, 68, 69, 70, 71, 72, 73, 74, 75, 76] (fun x => x ≤ n) (fun x lz => (45, (.c (.d (.lit (.int .i64 x))))) :: lz) (fun x => [.box 1 [.arr 1 k out.length], .arr k 90 4 (out.map Sta.d), .dead, .dead, .arr (c + 1) 2 1 (litsE (mixE p.sums q.sums x)), .arr (c + 1) 2 1 (litsE (mixE p.some q.some x)), .box (c + 1 + 1) [.d (rowD p.key), .d (.lit (.int .i64 (w64 (p.count + q.count)))), .arr 4 (c + 1) p.sums.length, .arr 5 (c + 1) p.some.length]]) (fun x => n - x) (0) ?_ ?_ ?_ ?_
      repeat' (first | exact slots_nil | refine w1 ?_ | refine w3 ?_ ?_ | exact memIn_nil | refine memIn_same ?_ | refine m1 ?_ ?_ | refine m2 ?_ ?_ | omega)
      rintro i c1 hi
      have z1 : p.sums.length = q.sums.length := by omega
      have z2 : p.some.length = q.some.length := by omega
      have ml1 := mixE_len z1 i
      have ml2 := mixE_len z2 i
      by_cases hil : i < n
      · have u1 : p.sums[i]? = some (p.sums[i]'(by omega)) := List.getElem?_eq_getElem _
        have u2 : p.some[i]? = some (p.some[i]'(by omega)) := List.getElem?_eq_getElem _
        have v1 : q.sums[i]? = some (q.sums[i]'(by omega)) := List.getElem?_eq_getElem _
        have v2 : q.some[i]? = some (q.some[i]'(by omega)) := List.getElem?_eq_getElem _
        generalize p.sums[i]'(by omega) = pu1 at u1
        generalize p.some[i]'(by omega) = pu2 at u2
        generalize q.sums[i]'(by omega) = qv1 at v1
        generalize q.some[i]'(by omega) = qv2 at v2
        have g1 : (litsE (mixE p.sums q.sums i))[i]? = some [Dat.lit (.int .i64 pu1)] := by unfold litsE; rw [List.getElem?_map, mixE_get z1 (by omega), u1]; rfl
        have g2 : (litsE (mixE p.some q.some i))[i]? = some [Dat.lit (.int .i64 pu2)] := by unfold litsE; rw [List.getElem?_map, mixE_get z2 (by omega), u2]; rfl
        have d1 : (q.sums.map fun n => [Dat.lit (.int .i64 n)])[i]? = some [Dat.lit (.int .i64 qv1)] := by rw [List.getElem?_map, v1]; rfl
        have d2 : (q.some.map fun n => [Dat.lit (.int .i64 n)])[i]? = some [Dat.lit (.int .i64 qv2)] := by rw [List.getElem?_map, v2]; rfl
        have s1 : (litsE (mixE p.sums q.sums i)).set i [Dat.lit (.int .i64 (IntKind.i64.wrap (pu1 + qv1)))] = litsE (mixE p.sums q.sums (i + 1)) := by rw [← mixE_set z1 u1 v1]; unfold litsE; rw [List.map_set]; rfl
        have s2 : (litsE (mixE p.some q.some i)).set i [Dat.lit (.int .i64 (IntKind.i64.wrap (pu2 + qv2)))] = litsE (mixE p.some q.some (i + 1)) := by rw [← mixE_set z2 u2 v2]; unfold litsE; rw [List.map_set]; rfl
        have w1 : (litsE (mixE p.sums q.sums i)).length = n := by unfold litsE; rw [List.length_map]; omega
        have w2 : (litsE (mixE p.some q.some i)).length = n := by unfold litsE; rw [List.length_map]; omega
        generalize litsE (mixE p.sums q.sums i) = A1 at g1 s1 w1 ⊢
        generalize litsE (mixE p.some q.some i) = A2 at g2 s2 w2 ⊢
        repeat' (first | refine s_storeA ?_ (hj := (by first | exact g1 | exact g2)) (hes := (by first | exact s1 | exact s2)) | (with_reducible (first | refine k_seq ?_ | refine k_block ?_ | refine k_skip ?_ | refine k_exit ?_ | refine k_ret ?_ | refine n_seq ?_ | refine n_block ?_ | refine e_seq ?_ | refine e_here ?_ | refine o_exit ?_)) | refine s_reg ?_ | refine s_ifT ?_ | refine s_ifF ?_ | refine r_end ?_ | refine s_endD ?_ | refine s_skipS ?_ | refine s_move ?_ | refine s_assign ?_ | refine s_int ?_ | refine s_loadF1 ?_ | refine s_loadB1 ?_ | refine s_loadFA ?_ | refine s_loadBA ?_ | refine s_loadA1 ?_ (he' := (by first | exact hvy | exact g1 | exact g2 | exact d1 | exact d2 | exact rfl)) | refine s_indexD ?_ (hel := (by first | exact idx_map hvy (by omega) | exact idx_map g1 (by omega) | exact idx_map g2 (by omega) | exact idx_map d1 (by omega) | exact idx_map d2 (by omega) | exact hvy | exact g1 | exact g2 | exact d1 | exact d2 | exact rfl)) | refine s_indexA ?_ | refine s_fieldF ?_ | refine s_fieldB ?_ | refine s_pick ?_ | refine s_lenD ?_ | refine s_lenA ?_ | refine s_appA ?_ | refine s_storeB ?_ | refine s_storeA ?_ (hj := (by first | exact hvy | exact g1 | exact g2 | exact d1 | exact d2 | exact rfl)) | refine s_alloc ?_ | refine s_sliceD ?_ | refine s_funcC ?_ | refine s_kT ?_ | refine s_kF ?_ | refine f_ret1 def_nil ?_ | refine t_tmpA rfl rfl ?_ ?_)
        (apply s_round (i + 1); all_goals (try dsimp only); all_goals (try (repeat' (first | exact slots_nil | refine w1 ?_ | refine w3 ?_ ?_ | exact memIn_nil | refine memIn_same ?_ | refine m1 ?_ ?_ | refine m2 ?_ ?_ | omega))))
        all_goals rfl
      · obtain rfl : i = n := by omega
        have f1 : (litsE (mixE p.sums q.sums i)).take p.sums.length = litsE (plusS p q).sums := by rw [← hx2, mixE_full z1]; exact take_ge (by unfold litsE; rw [List.length_map, List.length_zipWith]; omega)
        have f2 : (litsE (mixE p.some q.some i)).take p.some.length = litsE (plusS p q).some := by rw [← hx3, mixE_full z2]; exact take_ge (by unfold litsE; rw [List.length_map, List.length_zipWith]; omega)
        refine s_freezeB 6 2 4 ?_ rfl rfl rfl (by unfold litsE; rw [List.length_map]; omega) f1 rfl
        refine s_freezeB 6 3 5 ?_ rfl rfl rfl (by unfold litsE; rw [List.length_map]; omega) f2 rfl
        cases hz : (plusS p q).zero with
        | true =>
          have hadd := sadd0_h (plusS p q) hz out
          rw [List.filter_cons_of_neg (by unfold nzS; rw [hz]; decide)] at hinv
          repeat' (first | (with_reducible (first | refine k_seq ?_ | refine k_block ?_ | refine k_skip ?_ | refine k_exit ?_ | refine k_ret ?_ | refine n_seq ?_ | refine n_block ?_ | refine e_seq ?_ | refine e_here ?_ | refine o_exit ?_)) | refine s_reg ?_ | refine s_ifT ?_ | refine s_ifF ?_ | refine r_end ?_ | refine s_endD ?_ | refine s_skipS ?_ | refine s_move ?_ | refine s_assign ?_ | refine s_int ?_ | refine s_loadF1 ?_ | refine s_loadB1 ?_ | refine s_loadFA ?_ | refine s_loadBA ?_ | refine s_indexD ?_ (hel := (by first | exact rfl)) | refine s_indexA ?_ | refine s_fieldF ?_ | refine s_fieldB ?_ | refine s_callH [0, 1] (hadd) ?_ | refine s_pick ?_ | refine s_lenD ?_ | refine s_lenA ?_ | refine s_appA ?_ | refine s_storeB ?_ | refine s_alloc ?_ | refine s_sliceD ?_ | refine s_funcC ?_ | refine s_kT ?_ | refine s_kF ?_ | refine f_ret1 def_nil ?_ | refine t_tmpA rfl rfl ?_ ?_)
          (apply s_round ((a2, b2, _, out)); all_goals (try dsimp only); all_goals (try (repeat' (first | exact slots_nil | refine w1 ?_ | refine w3 ?_ ?_ | exact memIn_nil | refine memIn_same ?_ | refine m1 ?_ ?_ | refine m2 ?_ ?_ | omega))))
          · rw [take_ge (by simp)]; rfl
          · rw [take_ge (by simp)]; rfl
          · exact ⟨fun e h => h1 e (by simp [h]), fun e h => h2 e (by simp [h]), by omega, by omega, by omega, hinv⟩
        | false =>
          have hadd := sadd1_h (plusS p q) hz out (by omega)
          rw [List.filter_cons_of_pos (by unfold nzS; rw [hz]; decide)] at hinv
          repeat' (first | (with_reducible (first | refine k_seq ?_ | refine k_block ?_ | refine k_skip ?_ | refine k_exit ?_ | refine k_ret ?_ | refine n_seq ?_ | refine n_block ?_ | refine e_seq ?_ | refine e_here ?_ | refine o_exit ?_)) | refine s_reg ?_ | refine s_ifT ?_ | refine s_ifF ?_ | refine r_end ?_ | refine s_endD ?_ | refine s_skipS ?_ | refine s_move ?_ | refine s_assign ?_ | refine s_int ?_ | refine s_loadF1 ?_ | refine s_loadB1 ?_ | refine s_loadFA ?_ | refine s_loadBA ?_ | refine s_indexD ?_ (hel := (by first | exact rfl)) | refine s_indexA ?_ | refine s_fieldF ?_ | refine s_fieldB ?_ | refine s_callH [0, 1] (hadd) ?_ | refine s_pick ?_ | refine s_lenD ?_ | refine s_lenA ?_ | refine s_appA ?_ | refine s_storeB ?_ | refine s_alloc ?_ | refine s_sliceD ?_ | refine s_funcC ?_ | refine s_kT ?_ | refine s_kF ?_ | refine f_ret1 def_nil ?_ | refine t_tmpA rfl rfl ?_ ?_)
          (apply s_round ((a2, b2, c1 + 1, out ++ [plusS p q])); all_goals (try dsimp only); all_goals (try (repeat' (first | exact slots_nil | refine w1 ?_ | refine w3 ?_ ?_ | exact memIn_nil | refine memIn_same ?_ | refine m1 ?_ ?_ | refine m2 ?_ ?_ | omega))))
          · rw [take_ge (by simp)]; rfl
          · rw [take_ge (by simp)]; rfl
          · rw [List.length_append, List.length_singleton]; repeat' (first | exact slots_nil | refine w1 ?_ | refine w3 ?_ ?_ | exact memIn_nil | refine memIn_same ?_ | refine m1 ?_ ?_ | refine m2 ?_ ?_ | omega)
          · refine ⟨fun e h => h1 e (by simp [h]), fun e h => h2 e (by simp [h]), by omega, by omega, by rw [List.length_append, List.length_singleton]; omega, ?_⟩
            rw [← hinv, List.append_assoc]; rfl
    · rw [if_neg (by omega), if_pos hc] at hinv
      have hcl := cloneS_c q (by omega) (by omega) (by omega)
      cases hz : q.zero with
      | true =>
        have hadd := sadd0_h q hz out
        rw [List.filter_cons_of_neg (by unfold nzS; rw [hz]; decide)] at hinv
        repeat' (first | (with_reducible (first | refine k_seq ?_ | refine k_block ?_ | refine k_skip ?_ | refine k_exit ?_ | refine k_ret ?_ | refine n_seq ?_ | refine n_block ?_ | refine e_seq ?_ | refine e_here ?_ | refine o_exit ?_)) | refine s_reg ?_ | refine s_ifT ?_ | refine s_ifF ?_ | refine r_end ?_ | refine s_endD ?_ | refine s_skipS ?_ | refine s_move ?_ | refine s_assign ?_ | refine s_int ?_ | refine s_loadF1 ?_ | refine s_loadB1 ?_ | refine s_loadFA ?_ | refine s_loadBA ?_ | refine s_loadA1 ?_ (he' := (by first | exact hvx | exact hvy | exact rfl)) | refine s_indexD ?_ (hel := (by first | exact idx_map hvx (by omega) | exact idx_map hvy (by omega) | exact hvx | exact hvy | exact rfl)) | refine s_indexA ?_ | refine s_fieldF ?_ | refine s_fieldB ?_ | refine s_call (compareRows_c _ _) ?_ | refine s_call (hcl) ?_ | refine s_callH [0, 1] (hadd) ?_ | refine s_pick ?_ | refine s_lenD ?_ | refine s_lenA ?_ | refine s_appA ?_ | refine s_storeB ?_ | refine s_storeA ?_ (hj := (by first | exact hvx | exact hvy | exact rfl)) | refine s_alloc ?_ | refine s_sliceD ?_ | refine s_funcC ?_ | refine s_kT ?_ | refine s_kF ?_ | refine f_ret1 def_nil ?_ | refine t_tmpA rfl rfl ?_ ?_)
        (apply s_round ((p :: a2, b2, _, out)); all_goals (try dsimp only); all_goals (try (repeat' (first | exact slots_nil | refine w1 ?_ | refine w3 ?_ ?_ | exact memIn_nil | refine memIn_same ?_ | refine m1 ?_ ?_ | refine m2 ?_ ?_ | omega))))
        · rw [take_ge (by simp)]; rfl
        · exact ⟨h1, fun e h => h2 e (by simp [h]), by omega, by omega, by omega, hinv⟩
      | false =>
        have hadd := sadd1_h q hz out (by omega)
        rw [List.filter_cons_of_pos (by unfold nzS; rw [hz]; decide)] at hinv
        repeat' (first | (with_reducible (first | refine k_seq ?_ | refine k_block ?_ | refine k_skip ?_ | refine k_exit ?_ | refine k_ret ?_ | refine n_seq ?_ | refine n_block ?_ | refine e_seq ?_ | refine e_here ?_ | refine o_exit ?_)) | refine s_reg ?_ | refine s_ifT ?_ | refine s_ifF ?_ | refine r_end ?_ | refine s_endD ?_ | refine s_skipS ?_ | refine s_move ?_ | refine s_assign ?_ | refine s_int ?_ | refine s_loadF1 ?_ | refine s_loadB1 ?_ | refine s_loadFA ?_ | refine s_loadBA ?_ | refine s_loadA1 ?_ (he' := (by first | exact hvx | exact hvy | exact rfl)) | refine s_indexD ?_ (hel := (by first | exact idx_map hvx (by omega) | exact idx_map hvy (by omega) | exact hvx | exact hvy | exact rfl)) | refine s_indexA ?_ | refine s_fieldF ?_ | refine s_fieldB ?_ | refine s_call (compareRows_c _ _) ?_ | refine s_call (hcl) ?_ | refine s_callH [0, 1] (hadd) ?_ | refine s_pick ?_ | refine s_lenD ?_ | refine s_lenA ?_ | refine s_appA ?_ | refine s_storeB ?_ | refine s_storeA ?_ (hj := (by first | exact hvx | exact hvy | exact rfl)) | refine s_alloc ?_ | refine s_sliceD ?_ | refine s_funcC ?_ | refine s_kT ?_ | refine s_kF ?_ | refine f_ret1 def_nil ?_ | refine t_tmpA rfl rfl ?_ ?_)
        (apply s_round ((p :: a2, b2, _, out ++ [q])); all_goals (try dsimp only); all_goals (try (repeat' (first | exact slots_nil | refine w1 ?_ | refine w3 ?_ ?_ | exact memIn_nil | refine memIn_same ?_ | refine m1 ?_ ?_ | refine m2 ?_ ?_ | omega))))
        · rw [take_ge (by simp)]; rfl
        · rw [List.length_append]; rfl
        · refine ⟨h1, fun e h => h2 e (by simp [h]), by omega, by omega, by rw [List.length_append, List.length_singleton]; omega, ?_⟩
          rw [← hinv, List.append_assoc]; rfl
end Go.Proofs.YtojfhaoleedmkaaGreat
