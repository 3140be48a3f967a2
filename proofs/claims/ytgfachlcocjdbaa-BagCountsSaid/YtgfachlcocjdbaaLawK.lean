/-
  BagCounts.
-/
import Derived.Test.YtgfachlcocjdbaaVld
import Derived.Test.YtgfachlcocjdbaaTab
import Derived.Test.YtgfachlcocjdbaaSpq
import Derived.Test.YtgfachlcocjdbaaLawO
import Derived.Test.YtgfachlcocjdbaaAdd
namespace Go.Proofs.Ytgfachlcocjdbaa
open Go.Abs Go.RowKit
attribute [local irreducible] ARun kont MCall PCall HCall resVal SF CF CFs defersOk slotsIn memIn fin finM VLe
set_option linter.unusedSimpArgs false
set_option maxRecDepth 100000
set_option maxHeartbeats 4000000

theorem sum_bd {a : List Entry} {M : Int} (h : bagValid a = true) (hw : within M a) (hM : 0 ≤ M) (r : List Val) : -M ≤ sumK a r ∧ sumK a r ≤ M := by
  by_cases he : ∃ e ∈ a, rowCmp e.row r = 0
  · obtain ⟨e, he, h0⟩ := he
    rw [sumK_mem (apart_of_sorted (sorted_of_valid h).up) he h0]
    exact hw e he
  · rw [sumK_none fun e h1 h2 => he ⟨e, h1, h2⟩]; omega

theorem lawCounts_c (t : List Int) (ht : t.length ≤ 17592186044416) : PCall Try.prog 9 [.one (numD t)] (.v (.one (.lit (.bool true)))) := by
  have hnew := new_h t ht
  have hok := newTape_ok ht
  obtain ⟨a, t1, ok1, va, wa, la, c1⟩ := bag_h ⟨t, 0⟩ 2 6 true hok (by omega) (by omega)
  obtain ⟨b, t2, ok2, vb, wb, lb, c2⟩ := bag_h t1 2 6 true ok1 (by omega) (by omega)
  obtain ⟨r0, t3, ok3, lr, c3⟩ := row_h t2 2 ok2 (by omega)
  obtain ⟨x1, x2, x3, x4, x5⟩ := addE_small (.inl rfl) va vb wa wb (by omega) (by omega) (by omega) (by omega)
  obtain ⟨y1, y2, y3, y4, y5⟩ := addE_small (.inr rfl) va vb wa wb (by omega) (by omega) (by omega) (by omega)
  have cs := add_c a b
  have cd := subtract_c a b
  rw [x1] at cs
  rw [y1] at cd
  have ksv : ∀ r, PCall Try.prog 29 [.one (bagD (addE 1 a b).1), .one (rowD r)] (.v (.one (.lit (.int .i64 (sumK a r + sumK b r))))) := fun r => by
    have h := count_c (addE 1 a b).1 r
    rw [cntE, if_pos x2, x5] at h
    rw [Int.one_mul] at h
    exact h
  have kdv : ∀ r, PCall Try.prog 29 [.one (bagD (addE (-1) a b).1), .one (rowD r)] (.v (.one (.lit (.int .i64 (sumK a r - sumK b r))))) := fun r => by
    have h := count_c (addE (-1) a b).1 r
    rw [cntE, if_pos y2, y5] at h
    rw [Int.neg_one_mul] at h
    exact h
  have kav : ∀ r, PCall Try.prog 29 [.one (bagD a), .one (rowD r)] (.v (.one (.lit (.int .i64 (sumK a r))))) := fun r => by
    have h := count_c a r
    rw [cntE, if_pos va] at h
    exact h
  have kbv : ∀ r, PCall Try.prog 29 [.one (bagD b), .one (rowD r)] (.v (.one (.lit (.int .i64 (sumK b r))))) := fun r => by
    have h := count_c b r
    rw [cntE, if_pos vb] at h
    exact h
  have kpv : ∀ r, PCall Try.prog 29 [.one (bagD (supp a)), .one (rowD r)] (.v (.one (.lit (.int .i64 (if 0 < sumK a r then 1 else 0))))) := fun r => by
    have h := count_c (supp a) r
    rw [cntE, if_pos (supp_valid va), supp_sum va] at h
    exact h
  have cp := support_c a
  rw [supportE, if_pos va] at cp
  have ba := fun r => sum_bd va wa (by omega) r
  have bb := fun r => sum_bd vb wb (by omega) r
  generalize (addE 1 a b).1 = s at cs ksv
  generalize (addE (-1) a b).1 = d at cd kdv
  generalize supp a = sa at cp kpv
  clear x1 x2 x3 x4 x5 y1 y2 y3 y4 y5 va vb wa wb
  have hf : List.take r0.length (r0.map Val.d) = r0.map Val.d := take_ge (by simp)
  have f10 : List.take (a.length + (b.map Entry.d).length + [[Dat.sl (r0.map Val.d), Dat.lit (.int .i64 0)]].length) (a.map Entry.d ++ b.map Entry.d ++ [[Dat.sl (r0.map Val.d), Dat.lit (.int .i64 0)]]) = (a ++ b ++ [(⟨r0, 0⟩ : Entry)]).map Entry.d := by
    rw [List.map_append, List.map_append]; exact take_ge (by simp; omega)
  refine pcallS hT Try.func9 rfl (by kernel_rfl) _ [.tmp 2] Try.ntmps9 rfl rfl (by repeat' (first | exact nfNil rfl | apply nfCons (a := ((_, SVal.c _) : Nat × SVal)) rfl | apply nfCons (a := ((_, SVal.agg _) : Nat × SVal)) rfl)) fun B => ?_
  repeat' (first | (refine r_freeze 43 rfl rfl (by simp) hf rfl ?_) | refine s_freeze 10 ?_ (hes := f10) | (with_reducible (first | refine k_seq ?_ | refine k_block ?_ | refine k_skip ?_ | refine k_exit ?_ | refine k_ret ?_ | refine n_seq ?_ | refine n_block ?_ | refine e_seq ?_ | refine e_here ?_ | refine r_seq ?_ | refine r_block ?_ | refine o_exit ?_ | refine o_ret ?_)) | ((with_reducible refine is_region ?_); refine s_reg ?_) | ((with_reducible refine is_cond ?_); first | refine s_ifT ?_ | refine s_ifF ?_ | refine s_if rfl (fun hb => ?_) (fun hb => ?_)) | ((with_reducible refine is_exit ?_); refine s_past ?_) | ((with_reducible refine is_end ?_); first | refine r_end ?_ | refine s_endD ?_) | ((with_reducible refine is_guard ?_); first | refine s_skipS ?_ | refine s_skipU ?_ | refine s_skipN ?_ | refine s_skipUN ?_) | ((with_reducible refine is_move ?_); (first | refine s_move ?_ | fail)) | ((with_reducible refine is_assign ?_); (first | refine s_assign ?_ | fail)) | ((with_reducible refine is_bin ?_); (first | refine s_int ?_ | refine s_str ?_ | refine s_eqB ?_ | refine s_neB ?_ | refine s_eqA ?_ | refine s_neA ?_ | refine s_shr ?_ | refine s_shl ?_ | refine s_or ?_ | refine s_xor ?_ | refine s_eqNil (fun b hnil => ?_) | fail)) | ((with_reducible refine is_load ?_); (first | refine s_loadF1 ?_ | refine s_loadB1 ?_ | refine s_loadFA ?_ | refine s_loadBA ?_ | fail)) | ((with_reducible refine is_index ?_); (first | refine s_indexD ?_ (hel := (by first | exact rfl)) | refine s_indexA ?_ | refine s_indexVF ?_ | refine s_indexVB ?_ | fail)) | ((with_reducible refine is_field ?_); (first | refine s_fieldF ?_ | refine s_fieldB ?_ | refine s_fieldA ?_ | fail)) | ((with_reducible refine is_call ?_); (first | refine s_call (cs) ?_ | refine s_call (cd) ?_ | refine s_callH [] (hnew) ?_ | refine s_callH [1] (c1) ?_ | refine s_callH [1] (c2) ?_ | refine s_callH [1] (c3) ?_ | fail)) | ((with_reducible refine is_pick ?_); (first | refine s_pick ?_ | refine s_pickB ?_ | fail)) | ((with_reducible refine is_built ?_); (first | refine s_lenD ?_ | refine s_lenE ?_ | refine s_lenS ?_ | refine s_lenA ?_ | refine s_appE ?_ | refine s_appA ?_ | refine s_min ?_ | refine s_max ?_ | fail)) | ((with_reducible refine is_bslice ?_); (first | refine s_bslice0 ?_ | refine s_bslice ?_ | fail)) | ((with_reducible refine is_extract ?_); (first | refine s_extract ?_ | fail)) | ((with_reducible refine is_build ?_); (first | refine s_build ?_ | fail)) | ((with_reducible refine is_guard ?_); first | refine s_kT ?_ | refine s_kF ?_ | refine s_split rfl rfl (fun hb => ?_) (fun hb => ?_)) | ((with_reducible refine is_fin ?_); first | refine f_ret1 def_nil ?_ | refine f_ret2 def_nil ?_ ?_ | refine f_ret3 def_nil ?_ ?_ ?_ | refine f_end1 def_nil ?_) | ((with_reducible refine is_res ?_); first | refine t_tmp ?_ | refine t_tmpE ?_ | refine t_tmpA rfl rfl ?_ ?_ | refine d_tmpG rfl ?_ | refine t_cell (P := Try.prog) ?_ | refine t_cellG ?_) | ((with_reducible refine is_cfs ?_); first | exact cfs_nil | refine cfs_cons ?_ ?_) | ((with_reducible refine is_cf ?_); first | refine cf_d ?_ | refine cf_emp ?_ | refine cf_arr rfl ?_ ?_))
  have hAl : (a ++ b ++ [(⟨r0, 0⟩ : Entry)]).length ≤ 100 := by simp; omega
  generalize a ++ b ++ [(⟨r0, 0⟩ : Entry)] = A at hAl
  refine s_lp (X := Nat) [2, 11, 12, 47, 48, 49, 50, 51, 52, 53, 54, 55, 56, 57, 58, 59, 60, 61, 62, 63, 64, 65, 66, 67, 68, 69, 70, 71, 72, 73, 74, 75, 76, 77, 78, 79, 80, 81, 82, 83, 84, 85, 86, 87, 88, 89, 90, 91, 92, 93] (fun x => x ≤ A.length) (fun x lz => (11, (.c (.d (.lit (.int .i64 x))))) :: lz) (fun x => [.dead, .box 1 [.d (numD t3.l), .d (.lit (.int .i64 t3.at_))]]) (fun x => A.length - x) (0) ?_ ?_ ?_ ?_
  repeat' (first | exact slots_nil | refine w1 ?_ | refine w2 ?_ ?_ | refine w3 ?_ ?_ | refine w4 ?_ ?_ | refine w5 ?_ ?_ | refine w6 ?_ ?_ | refine w7 ?_ | exact memIn_nil | refine memIn_same ?_ | refine m1 ?_ ?_ | refine m2 ?_ ?_ | refine m3 ?_ ?_ ?_ ?_ | refine m4 ?_ ?_ | refine memIn_dead ?_ | omega)
  rintro i c hi
  by_cases hlt : i < A.length
  · have hv : A[i]? = some A[i] := List.getElem?_eq_getElem hlt
    generalize A[i] = e at hv
    have k1 := ksv e.row
    have k2 := kdv e.row
    have k3 := kav e.row
    have k4 := kbv e.row
    have k5 := kpv e.row
    have k6 := ba e.row
    have k7 := bb e.row
    generalize sumK a e.row = za at *
    generalize sumK b e.row = zb at *
    by_cases hp : 0 < za
    · rw [if_pos hp] at k5
      repeat' (first | (with_reducible (first | refine k_seq ?_ | refine k_block ?_ | refine k_skip ?_ | refine k_exit ?_ | refine k_ret ?_ | refine n_seq ?_ | refine n_block ?_ | refine e_seq ?_ | refine e_here ?_ | refine r_seq ?_ | refine r_block ?_ | refine o_exit ?_ | refine o_ret ?_)) | ((with_reducible refine is_region ?_); refine s_reg ?_) | ((with_reducible refine is_cond ?_); first | refine s_ifT ?_ | refine s_ifF ?_ | refine s_if rfl (fun hb => ?_) (fun hb => ?_)) | ((with_reducible refine is_exit ?_); refine s_past ?_) | ((with_reducible refine is_end ?_); first | refine r_end ?_ | refine s_endD ?_) | ((with_reducible refine is_guard ?_); first | refine s_skipS ?_ | refine s_skipU ?_ | refine s_skipN ?_ | refine s_skipUN ?_) | ((with_reducible refine is_move ?_); (first | refine s_move ?_ | fail)) | ((with_reducible refine is_assign ?_); (first | refine s_assign ?_ | fail)) | ((with_reducible refine is_bin ?_); (first | refine s_int ?_ | refine s_str ?_ | refine s_eqB ?_ | refine s_neB ?_ | refine s_eqA ?_ | refine s_neA ?_ | refine s_shr ?_ | refine s_shl ?_ | refine s_or ?_ | refine s_xor ?_ | refine s_eqNil (fun b hnil => ?_) | fail)) | ((with_reducible refine is_load ?_); (first | refine s_loadF1 ?_ | refine s_loadB1 ?_ | refine s_loadFA ?_ | refine s_loadBA ?_ | refine s_loadA1 ?_ (he' := (by first | exact rfl | exact hv)) | refine s_loadAA ?_ (he' := (by first | exact rfl | exact hv)) | fail)) | ((with_reducible refine is_index ?_); (first | refine s_indexD ?_ (hel := (by first | exact rfl | exact idx_map hv (by omega) | exact hv)) | refine s_indexA ?_ | refine s_indexVF ?_ | refine s_indexVB ?_ | fail)) | ((with_reducible refine is_field ?_); (first | refine s_fieldF ?_ | refine s_fieldB ?_ | refine s_fieldA ?_ | fail)) | ((with_reducible refine is_call ?_); (first | refine s_call (k1) ?_ | refine s_call (k2) ?_ | refine s_call (k3) ?_ | refine s_call (k4) ?_ | refine s_call (k5) ?_ | refine s_call (cp) ?_ | fail)) | ((with_reducible refine is_pick ?_); (first | refine s_pick ?_ | refine s_pickB ?_ | fail)) | ((with_reducible refine is_built ?_); (first | refine s_lenD ?_ | refine s_lenE ?_ | refine s_lenS ?_ | refine s_lenA ?_ | refine s_appE ?_ | refine s_appA ?_ | refine s_min ?_ | refine s_max ?_ | fail)) | ((with_reducible refine is_bslice ?_); (first | refine s_bslice0 ?_ | refine s_bslice ?_ | fail)) | ((with_reducible refine is_extract ?_); (first | refine s_extract ?_ | fail)) | ((with_reducible refine is_build ?_); (first | refine s_build ?_ | fail)) | ((with_reducible refine is_guard ?_); first | refine s_kT ?_ | refine s_kF ?_ | refine s_split rfl rfl (fun hb => ?_) (fun hb => ?_)) | ((with_reducible refine is_fin ?_); first | refine f_ret1 def_nil ?_ | refine f_ret2 def_nil ?_ ?_ | refine f_ret3 def_nil ?_ ?_ ?_ | refine f_end1 def_nil ?_) | ((with_reducible refine is_res ?_); first | refine t_tmp ?_ | refine t_tmpE ?_ | refine t_tmpA rfl rfl ?_ ?_ | refine d_tmpG rfl ?_ | refine t_cell (P := Try.prog) ?_ | refine t_cellG ?_) | ((with_reducible refine is_cfs ?_); first | exact cfs_nil | refine cfs_cons ?_ ?_) | ((with_reducible refine is_cf ?_); first | refine cf_d ?_ | refine cf_emp ?_ | refine cf_arr rfl ?_ ?_))
      all_goals first
        | omega
        | (exfalso; revert hb; simp [hp]; done)
        | (apply s_round (i + 1); all_goals (try dsimp only); all_goals (try (repeat' (first | exact slots_nil | refine w1 ?_ | refine w2 ?_ ?_ | refine w3 ?_ ?_ | refine w4 ?_ ?_ | refine w5 ?_ ?_ | refine w6 ?_ ?_ | refine w7 ?_ | exact memIn_nil | refine memIn_same ?_ | refine m1 ?_ ?_ | refine m2 ?_ ?_ | refine m3 ?_ ?_ ?_ ?_ | refine m4 ?_ ?_ | refine memIn_dead ?_ | omega))))
    · rw [if_neg hp] at k5
      repeat' (first | (with_reducible (first | refine k_seq ?_ | refine k_block ?_ | refine k_skip ?_ | refine k_exit ?_ | refine k_ret ?_ | refine n_seq ?_ | refine n_block ?_ | refine e_seq ?_ | refine e_here ?_ | refine r_seq ?_ | refine r_block ?_ | refine o_exit ?_ | refine o_ret ?_)) | ((with_reducible refine is_region ?_); refine s_reg ?_) | ((with_reducible refine is_cond ?_); first | refine s_ifT ?_ | refine s_ifF ?_ | refine s_if rfl (fun hb => ?_) (fun hb => ?_)) | ((with_reducible refine is_exit ?_); refine s_past ?_) | ((with_reducible refine is_end ?_); first | refine r_end ?_ | refine s_endD ?_) | ((with_reducible refine is_guard ?_); first | refine s_skipS ?_ | refine s_skipU ?_ | refine s_skipN ?_ | refine s_skipUN ?_) | ((with_reducible refine is_move ?_); (first | refine s_move ?_ | fail)) | ((with_reducible refine is_assign ?_); (first | refine s_assign ?_ | fail)) | ((with_reducible refine is_bin ?_); (first | refine s_int ?_ | refine s_str ?_ | refine s_eqB ?_ | refine s_neB ?_ | refine s_eqA ?_ | refine s_neA ?_ | refine s_shr ?_ | refine s_shl ?_ | refine s_or ?_ | refine s_xor ?_ | refine s_eqNil (fun b hnil => ?_) | fail)) | ((with_reducible refine is_load ?_); (first | refine s_loadF1 ?_ | refine s_loadB1 ?_ | refine s_loadFA ?_ | refine s_loadBA ?_ | refine s_loadA1 ?_ (he' := (by first | exact rfl | exact hv)) | refine s_loadAA ?_ (he' := (by first | exact rfl | exact hv)) | fail)) | ((with_reducible refine is_index ?_); (first | refine s_indexD ?_ (hel := (by first | exact rfl | exact idx_map hv (by omega) | exact hv)) | refine s_indexA ?_ | refine s_indexVF ?_ | refine s_indexVB ?_ | fail)) | ((with_reducible refine is_field ?_); (first | refine s_fieldF ?_ | refine s_fieldB ?_ | refine s_fieldA ?_ | fail)) | ((with_reducible refine is_call ?_); (first | refine s_call (k1) ?_ | refine s_call (k2) ?_ | refine s_call (k3) ?_ | refine s_call (k4) ?_ | refine s_call (k5) ?_ | refine s_call (cp) ?_ | fail)) | ((with_reducible refine is_pick ?_); (first | refine s_pick ?_ | refine s_pickB ?_ | fail)) | ((with_reducible refine is_built ?_); (first | refine s_lenD ?_ | refine s_lenE ?_ | refine s_lenS ?_ | refine s_lenA ?_ | refine s_appE ?_ | refine s_appA ?_ | refine s_min ?_ | refine s_max ?_ | fail)) | ((with_reducible refine is_bslice ?_); (first | refine s_bslice0 ?_ | refine s_bslice ?_ | fail)) | ((with_reducible refine is_extract ?_); (first | refine s_extract ?_ | fail)) | ((with_reducible refine is_build ?_); (first | refine s_build ?_ | fail)) | ((with_reducible refine is_guard ?_); first | refine s_kT ?_ | refine s_kF ?_ | refine s_split rfl rfl (fun hb => ?_) (fun hb => ?_)) | ((with_reducible refine is_fin ?_); first | refine f_ret1 def_nil ?_ | refine f_ret2 def_nil ?_ ?_ | refine f_ret3 def_nil ?_ ?_ ?_ | refine f_end1 def_nil ?_) | ((with_reducible refine is_res ?_); first | refine t_tmp ?_ | refine t_tmpE ?_ | refine t_tmpA rfl rfl ?_ ?_ | refine d_tmpG rfl ?_ | refine t_cell (P := Try.prog) ?_ | refine t_cellG ?_) | ((with_reducible refine is_cfs ?_); first | exact cfs_nil | refine cfs_cons ?_ ?_) | ((with_reducible refine is_cf ?_); first | refine cf_d ?_ | refine cf_emp ?_ | refine cf_arr rfl ?_ ?_))
      all_goals first
        | omega
        | (exfalso; revert hb; simp [hp]; done)
        | (apply s_round (i + 1); all_goals (try dsimp only); all_goals (try (repeat' (first | exact slots_nil | refine w1 ?_ | refine w2 ?_ ?_ | refine w3 ?_ ?_ | refine w4 ?_ ?_ | refine w5 ?_ ?_ | refine w6 ?_ ?_ | refine w7 ?_ | exact memIn_nil | refine memIn_same ?_ | refine m1 ?_ ?_ | refine m2 ?_ ?_ | refine m3 ?_ ?_ ?_ ?_ | refine m4 ?_ ?_ | refine memIn_dead ?_ | omega))))
  · repeat' (first | (with_reducible (first | refine k_seq ?_ | refine k_block ?_ | refine k_skip ?_ | refine k_exit ?_ | refine k_ret ?_ | refine n_seq ?_ | refine n_block ?_ | refine e_seq ?_ | refine e_here ?_ | refine r_seq ?_ | refine r_block ?_ | refine o_exit ?_ | refine o_ret ?_)) | ((with_reducible refine is_region ?_); refine s_reg ?_) | ((with_reducible refine is_cond ?_); first | refine s_ifT ?_ | refine s_ifF ?_ | refine s_if rfl (fun hb => ?_) (fun hb => ?_)) | ((with_reducible refine is_exit ?_); refine s_past ?_) | ((with_reducible refine is_end ?_); first | refine r_end ?_ | refine s_endD ?_) | ((with_reducible refine is_guard ?_); first | refine s_skipS ?_ | refine s_skipU ?_ | refine s_skipN ?_ | refine s_skipUN ?_) | ((with_reducible refine is_move ?_); (first | refine s_move ?_ | fail)) | ((with_reducible refine is_assign ?_); (first | refine s_assign ?_ | fail)) | ((with_reducible refine is_bin ?_); (first | refine s_int ?_ | refine s_str ?_ | refine s_eqB ?_ | refine s_neB ?_ | refine s_eqA ?_ | refine s_neA ?_ | refine s_shr ?_ | refine s_shl ?_ | refine s_or ?_ | refine s_xor ?_ | refine s_eqNil (fun b hnil => ?_) | fail)) | ((with_reducible refine is_load ?_); (first | refine s_loadF1 ?_ | refine s_loadB1 ?_ | refine s_loadFA ?_ | refine s_loadBA ?_ | fail)) | ((with_reducible refine is_index ?_); (first | refine s_indexD ?_ (hel := (by first | exact rfl)) | refine s_indexA ?_ | refine s_indexVF ?_ | refine s_indexVB ?_ | fail)) | ((with_reducible refine is_field ?_); (first | refine s_fieldF ?_ | refine s_fieldB ?_ | refine s_fieldA ?_ | fail)) | ((with_reducible refine is_call ?_); (first | refine s_call (awake06_c) ?_ | fail)) | ((with_reducible refine is_pick ?_); (first | refine s_pick ?_ | refine s_pickB ?_ | fail)) | ((with_reducible refine is_built ?_); (first | refine s_lenD ?_ | refine s_lenE ?_ | refine s_lenS ?_ | refine s_lenA ?_ | refine s_appE ?_ | refine s_appA ?_ | refine s_min ?_ | refine s_max ?_ | fail)) | ((with_reducible refine is_bslice ?_); (first | refine s_bslice0 ?_ | refine s_bslice ?_ | fail)) | ((with_reducible refine is_extract ?_); (first | refine s_extract ?_ | fail)) | ((with_reducible refine is_build ?_); (first | refine s_build ?_ | fail)) | ((with_reducible refine is_guard ?_); first | refine s_kT ?_ | refine s_kF ?_ | refine s_split rfl rfl (fun hb => ?_) (fun hb => ?_)) | ((with_reducible refine is_fin ?_); first | refine f_ret1 def_nil ?_ | refine f_ret2 def_nil ?_ ?_ | refine f_ret3 def_nil ?_ ?_ ?_ | refine f_end1 def_nil ?_) | ((with_reducible refine is_res ?_); first | refine t_tmp ?_ | refine t_tmpE ?_ | refine t_tmpA rfl rfl ?_ ?_ | refine d_tmpG rfl ?_ | refine t_cell (P := Try.prog) ?_ | refine t_cellG ?_) | ((with_reducible refine is_cfs ?_); first | exact cfs_nil | refine cfs_cons ?_ ?_) | ((with_reducible refine is_cf ?_); first | refine cf_d ?_ | refine cf_emp ?_ | refine cf_arr rfl ?_ ?_))
    all_goals rfl
end Go.Proofs.Ytgfachlcocjdbaa
