/-
  ReleaseDifferences.
-/
import Derived.Test.YtlacmjfgaehhkaaDik
namespace Go.Proofs.Ytlacmjfgaehhkaa
open Go.Abs Go.RowKit
attribute [local irreducible] ARun kont MCall PCall HCall resVal SF CF CFs defersOk slotsIn memIn fin finM VLe
set_option linter.unusedSimpArgs false
set_option maxRecDepth 100000
set_option maxHeartbeats 4000000

theorem lawDifferences_c (n : Int) (a b : List Int) : PCall Try.prog 10 [.one (.lit (.int .i64 n)), .one (intsD a), .one (intsD b)] (.v (.one (.lit (.bool true)))) := by
  obtain ⟨hl1, hl2⟩ := lim_bd n
  have px := publish_c (limR n) 1 (groups a)
  rw [publish_groups _ hl1, show (limR n).thr = lim n from rfl, pubsG_LP _ hl1] at px
  have py := publish_c (limR n) 1 (groups b)
  rw [publish_groups _ hl1, show (limR n).thr = lim n from rfl, pubsG_LP _ hl1] at py
  have sf := gv_small (lim n) hl1 a
  have sg := gv_small (lim n) hl1 b
  have sd : Small (fun i => gv (lim n) b i - gv (lim n) a i) := fun i => by
    have := gv_bd (lim n) hl1 a i
    have := gv_bd (lim n) hl1 b i
    dsimp only; omega
  have df := gv_dvd (lim n) hl1 a
  have dg := gv_dvd (lim n) hl1 b
  generalize gv (lim n) a = f at px sf df sd
  generalize gv (lim n) b = g at py sg dg sd
  have hd := differences_c (LP f) (LP g) (Nat.le_trans (LP_len f) (by omega)) (Nat.le_trans (LP_len g) (by omega)) (LP_keys f) (LP_keys g)
  rw [diff_LP sf sg] at hd
  have hs := same35_c (LP f) (LP g)
  rw [LP_same] at hs
  have t1 := total_c (LP f)
  have t2 := total_c (LP g)
  have hdl := LP_len (fun i => g i - f i)
  rw [total_LP sf] at t1
  rw [total_LP sg] at t2
  have t3 := total_c (LP (fun i => g i - f i))
  have b1 := sum_small sf (List.range 40)
  have b2 := sum_small sg (List.range 40)
  simp only [List.length_range] at b1 b2
  have hmem : ∀ p ∈ LP (fun i => g i - f i), p.count ≠ 0 ∧ p.count.tmod (lim n) = 0 ∧ IntKind.i64.wrap ((findP (LP f) p.keys).getD 0 + p.count) = (findP (LP g) p.keys).getD 0 := fun p hp => by
    obtain ⟨i, hi, hne, rfl⟩ := (LP_mem _ p).1 hp
    refine ⟨hne, Int.tmod_eq_zero_of_dvd (Int.dvd_sub (dg i) (df i)), ?_⟩
    have e1 : (findP (LP f) [Val.ofInt i]).getD 0 = f i := cnt_LP f hi
    have e2 : (findP (LP g) [Val.ofInt i]).getD 0 = g i := cnt_LP g hi
    have h1 := sf i
    have h2 := sg i
    dsimp only
    rw [e1, e2, wrap_i64 (by omega) (by omega)]; omega
  have tt : totalP (LP (fun i => g i - f i)) = sumL (List.range 40) g - sumL (List.range 40) f := by
    rw [total_LP sd, sum_sub]
  rw [tt] at t3
  generalize LP (fun i => g i - f i) = d at *
  refine pcallS hT Try.func10 rfl (by kernel_rfl) _ [.tmp 6] Try.ntmps10 rfl rfl (by repeat' (first | exact nfNil rfl | apply nfCons (a := ((_, SVal.c _) : Nat × SVal)) rfl | apply nfCons (a := ((_, SVal.agg _) : Nat × SVal)) rfl)) fun B => ?_
  repeat' (first | (with_reducible (first | refine k_seq ?_ | refine k_block ?_ | refine k_skip ?_ | refine k_exit ?_ | refine k_ret ?_ | refine n_seq ?_ | refine n_block ?_ | refine e_seq ?_ | refine e_here ?_ | refine r_seq ?_ | refine r_block ?_ | refine o_exit ?_ | refine o_ret ?_)) | ((with_reducible refine is_region ?_); refine s_reg ?_) | ((with_reducible refine is_cond ?_); first | refine s_ifT ?_ | refine s_ifF ?_ | refine s_if rfl (fun hb => ?_) (fun hb => ?_)) | ((with_reducible refine is_exit ?_); refine s_past ?_) | ((with_reducible refine is_end ?_); first | refine r_end ?_ | refine s_endD ?_) | ((with_reducible refine is_guard ?_); first | refine s_skipS ?_ | refine s_skipU ?_ | refine s_skipN ?_ | refine s_skipUN ?_) | ((with_reducible refine is_move ?_); (first | refine s_move ?_ | fail)) | ((with_reducible refine is_assign ?_); (first | refine s_assign ?_ | fail)) | ((with_reducible refine is_bin ?_); (first | refine s_int ?_ | refine s_str ?_ | refine s_eqB ?_ | refine s_neB ?_ | refine s_eqA ?_ | refine s_neA ?_ | refine s_shr ?_ | refine s_shl ?_ | refine s_or ?_ | refine s_xor ?_ | refine s_eqNil (fun b hnil => ?_) | fail)) | ((with_reducible refine is_load ?_); (first | refine s_loadF1 ?_ | refine s_loadB1 ?_ | refine s_loadFA ?_ | refine s_loadBA ?_ | fail)) | ((with_reducible refine is_index ?_); (first | refine s_indexD ?_ (hel := (by first | exact rfl)) | refine s_indexA ?_ | refine s_indexVF ?_ | refine s_indexVB ?_ | fail)) | ((with_reducible refine is_field ?_); (first | refine s_fieldF ?_ | refine s_fieldB ?_ | refine s_fieldA ?_ | fail)) | ((with_reducible refine is_call ?_); (first | refine s_call (limit_c _) ?_ | refine s_call (groups_c _) ?_ | refine s_call (px) ?_ | refine s_call (py) ?_ | refine s_call (hd) ?_ | fail)) | ((with_reducible refine is_pick ?_); (first | refine s_pick ?_ | refine s_pickB ?_ | fail)) | ((with_reducible refine is_built ?_); (first | refine s_lenD ?_ | refine s_lenE ?_ | refine s_lenS ?_ | refine s_lenA ?_ | refine s_appE ?_ | refine s_appA ?_ | refine s_min ?_ | refine s_max ?_ | fail)) | ((with_reducible refine is_store ?_); (first | refine s_storeB ?_ | fail)) | ((with_reducible refine is_extract ?_); (first | refine s_extract ?_ | fail)) | ((with_reducible refine is_alloc ?_); (first | refine s_alloc ?_ | fail)) | ((with_reducible refine is_guard ?_); first | refine s_kT ?_ | refine s_kF ?_ | refine s_split rfl rfl (fun hb => ?_) (fun hb => ?_)) | ((with_reducible refine is_fin ?_); first | refine f_ret1 def_nil ?_ | refine f_ret2 def_nil ?_ ?_ | refine f_ret3 def_nil ?_ ?_ ?_ | refine f_end1 def_nil ?_) | ((with_reducible refine is_res ?_); first | refine t_tmp ?_ | refine t_tmpE ?_ | refine t_tmpA rfl rfl ?_ ?_ | refine d_tmpG rfl ?_ | refine t_cell (P := Try.prog) ?_ | refine t_cellG ?_) | ((with_reducible refine is_cfs ?_); first | exact cfs_nil | refine cfs_cons ?_ ?_) | ((with_reducible refine is_cf ?_); first | refine cf_d ?_ | refine cf_emp ?_ | refine cf_arr rfl ?_ ?_))
  refine s_lp (X := Nat) [6, 11, 12, 13, 14, 15, 29, 30, 31, 32, 33, 34, 35, 36, 37, 38, 39, 40, 41, 42, 43, 44, 45, 46, 47, 48, 49, 50, 51, 52, 53, 54, 55, 56, 57, 58, 59, 60, 61, 62, 63, 64, 65, 66, 67, 68, 69, 70, 71, 72, 73, 74, 75, 76, 77, 78, 79, 80, 81, 82] (fun x => x ≤ d.length) (fun x lz => (11, (.c (.d (.lit (.int .i64 x))))) :: lz) (fun x => [.box 1 [.d (.lit (.string ⟨#[]⟩)), .d (.lit (.string ⟨#[]⟩)), .d (.lit (.int .i64 (lim n)))]]) (fun x => d.length - x) (0) ?_ ?_ ?_ ?_
  repeat' (first | exact slots_nil | refine w1 ?_ | refine w2 ?_ ?_ | refine w3 ?_ ?_ | refine w4 ?_ ?_ | refine w5 ?_ ?_ | refine w6 ?_ ?_ | refine w7 ?_ | exact memIn_nil | refine memIn_same ?_ | refine m1 ?_ ?_ | refine m2 ?_ ?_ | refine m3 ?_ ?_ ?_ ?_ | refine m4 ?_ ?_ | refine memIn_dead ?_ | omega)
  rintro i c hi
  by_cases hlt : i < d.length
  · have hv : d[i]? = some d[i] := List.getElem?_eq_getElem hlt
    obtain ⟨m1, m2, m3⟩ := hmem _ (List.getElem_mem hlt)
    generalize d[i] = p at hv m1 m2 m3
    repeat' (first | (with_reducible (first | refine k_seq ?_ | refine k_block ?_ | refine k_skip ?_ | refine k_exit ?_ | refine k_ret ?_ | refine n_seq ?_ | refine n_block ?_ | refine e_seq ?_ | refine e_here ?_ | refine r_seq ?_ | refine r_block ?_ | refine o_exit ?_ | refine o_ret ?_)) | ((with_reducible refine is_region ?_); refine s_reg ?_) | ((with_reducible refine is_cond ?_); first | refine s_ifT ?_ | refine s_ifF ?_ | refine s_if rfl (fun hb => ?_) (fun hb => ?_)) | ((with_reducible refine is_exit ?_); refine s_past ?_) | ((with_reducible refine is_end ?_); first | refine r_end ?_ | refine s_endD ?_) | ((with_reducible refine is_guard ?_); first | refine s_skipS ?_ | refine s_skipU ?_ | refine s_skipN ?_ | refine s_skipUN ?_) | ((with_reducible refine is_move ?_); (first | refine s_move ?_ | fail)) | ((with_reducible refine is_assign ?_); (first | refine s_assign ?_ | fail)) | ((with_reducible refine is_bin ?_); (first | refine s_int ?_ | refine s_str ?_ | refine s_eqB ?_ | refine s_neB ?_ | refine s_eqA ?_ | refine s_neA ?_ | refine s_shr ?_ | refine s_shl ?_ | refine s_or ?_ | refine s_xor ?_ | refine s_eqNil (fun b hnil => ?_) | fail)) | ((with_reducible refine is_load ?_); (first | refine s_loadF1 ?_ | refine s_loadB1 ?_ | refine s_loadFA ?_ | refine s_loadBA ?_ | refine s_loadA1 ?_ (he' := (by first | exact rfl | exact hv)) | refine s_loadAA ?_ (he' := (by first | exact rfl | exact hv)) | fail)) | ((with_reducible refine is_index ?_); (first | refine s_indexD ?_ (hel := (by first | exact rfl | exact idx_map hv (by omega) | exact hv)) | refine s_indexA ?_ | refine s_indexVF ?_ | refine s_indexVB ?_ | fail)) | ((with_reducible refine is_field ?_); (first | refine s_fieldF ?_ | refine s_fieldB ?_ | refine s_fieldA ?_ | fail)) | ((with_reducible refine is_call ?_); (first | refine s_call (find_c _ _) ?_ | fail)) | ((with_reducible refine is_pick ?_); (first | refine s_pick ?_ | refine s_pickB ?_ | fail)) | ((with_reducible refine is_built ?_); (first | refine s_lenD ?_ | refine s_lenE ?_ | refine s_lenS ?_ | refine s_lenA ?_ | refine s_appE ?_ | refine s_appA ?_ | refine s_min ?_ | refine s_max ?_ | fail)) | ((with_reducible refine is_store ?_); (first | refine s_storeB ?_ | refine s_storeA ?_ (hj := (by first | exact rfl | exact hv)) | fail)) | ((with_reducible refine is_extract ?_); (first | refine s_extract ?_ | fail)) | ((with_reducible refine is_alloc ?_); (first | refine s_alloc ?_ | fail)) | ((with_reducible refine is_guard ?_); first | refine s_kT ?_ | refine s_kF ?_ | refine s_split rfl rfl (fun hb => ?_) (fun hb => ?_)) | ((with_reducible refine is_fin ?_); first | refine f_ret1 def_nil ?_ | refine f_ret2 def_nil ?_ ?_ | refine f_ret3 def_nil ?_ ?_ ?_ | refine f_end1 def_nil ?_) | ((with_reducible refine is_res ?_); first | refine t_tmp ?_ | refine t_tmpE ?_ | refine t_tmpA rfl rfl ?_ ?_ | refine d_tmpG rfl ?_ | refine t_cell (P := Try.prog) ?_ | refine t_cellG ?_) | ((with_reducible refine is_cfs ?_); first | exact cfs_nil | refine cfs_cons ?_ ?_) | ((with_reducible refine is_cf ?_); first | refine cf_d ?_ | refine cf_emp ?_ | refine cf_arr rfl ?_ ?_))
    (apply s_round (i + 1); all_goals (try dsimp only); all_goals (try (repeat' (first | exact slots_nil | refine w1 ?_ | refine w2 ?_ ?_ | refine w3 ?_ ?_ | refine w4 ?_ ?_ | refine w5 ?_ ?_ | refine w6 ?_ ?_ | refine w7 ?_ | exact memIn_nil | refine memIn_same ?_ | refine m1 ?_ ?_ | refine m2 ?_ ?_ | refine m3 ?_ ?_ ?_ ?_ | refine m4 ?_ ?_ | refine memIn_dead ?_ | omega))))
  · repeat' (first | (with_reducible (first | refine k_seq ?_ | refine k_block ?_ | refine k_skip ?_ | refine k_exit ?_ | refine k_ret ?_ | refine n_seq ?_ | refine n_block ?_ | refine e_seq ?_ | refine e_here ?_ | refine r_seq ?_ | refine r_block ?_ | refine o_exit ?_ | refine o_ret ?_)) | ((with_reducible refine is_region ?_); refine s_reg ?_) | ((with_reducible refine is_cond ?_); first | refine s_ifT ?_ | refine s_ifF ?_ | refine s_if rfl (fun hb => ?_) (fun hb => ?_)) | ((with_reducible refine is_exit ?_); refine s_past ?_) | ((with_reducible refine is_end ?_); first | refine r_end ?_ | refine s_endD ?_) | ((with_reducible refine is_guard ?_); first | refine s_skipS ?_ | refine s_skipU ?_ | refine s_skipN ?_ | refine s_skipUN ?_) | ((with_reducible refine is_move ?_); (first | refine s_move ?_ | fail)) | ((with_reducible refine is_assign ?_); (first | refine s_assign ?_ | fail)) | ((with_reducible refine is_bin ?_); (first | refine s_int ?_ | refine s_str ?_ | refine s_eqB ?_ | refine s_neB ?_ | refine s_eqA ?_ | refine s_neA ?_ | refine s_shr ?_ | refine s_shl ?_ | refine s_or ?_ | refine s_xor ?_ | refine s_eqNil (fun b hnil => ?_) | fail)) | ((with_reducible refine is_load ?_); (first | refine s_loadF1 ?_ | refine s_loadB1 ?_ | refine s_loadFA ?_ | refine s_loadBA ?_ | fail)) | ((with_reducible refine is_index ?_); (first | refine s_indexD ?_ (hel := (by first | exact rfl)) | refine s_indexA ?_ | refine s_indexVF ?_ | refine s_indexVB ?_ | fail)) | ((with_reducible refine is_field ?_); (first | refine s_fieldF ?_ | refine s_fieldB ?_ | refine s_fieldA ?_ | fail)) | ((with_reducible refine is_call ?_); (first | refine s_call (t1) ?_ | refine s_call (t2) ?_ | refine s_call (t3) ?_ | refine s_call (hs) ?_ | refine s_call (awake_c) ?_ | fail)) | ((with_reducible refine is_pick ?_); (first | refine s_pick ?_ | refine s_pickB ?_ | fail)) | ((with_reducible refine is_built ?_); (first | refine s_lenD ?_ | refine s_lenE ?_ | refine s_lenS ?_ | refine s_lenA ?_ | refine s_appE ?_ | refine s_appA ?_ | refine s_min ?_ | refine s_max ?_ | fail)) | ((with_reducible refine is_store ?_); (first | refine s_storeB ?_ | fail)) | ((with_reducible refine is_extract ?_); (first | refine s_extract ?_ | fail)) | ((with_reducible refine is_alloc ?_); (first | refine s_alloc ?_ | fail)) | ((with_reducible refine is_guard ?_); first | refine s_kT ?_ | refine s_kF ?_ | refine s_split rfl rfl (fun hb => ?_) (fun hb => ?_)) | ((with_reducible refine is_fin ?_); first | refine f_ret1 def_nil ?_ | refine f_ret2 def_nil ?_ ?_ | refine f_ret3 def_nil ?_ ?_ ?_ | refine f_end1 def_nil ?_) | ((with_reducible refine is_res ?_); first | refine t_tmp ?_ | refine t_tmpE ?_ | refine t_tmpA rfl rfl ?_ ?_ | refine d_tmpG rfl ?_ | refine t_cell (P := Try.prog) ?_ | refine t_cellG ?_) | ((with_reducible refine is_cfs ?_); first | exact cfs_nil | refine cfs_cons ?_ ?_) | ((with_reducible refine is_cf ?_); first | refine cf_d ?_ | refine cf_emp ?_ | refine cf_arr rfl ?_ ?_))
    · rfl
    · exfalso
      have e : ((d.length : Int) == 0) = decide (d.length = 0) := by
        rw [Bool.eq_iff_iff]; simp
      rw [e] at hb
      simp at hb
end Go.Proofs.Ytlacmjfgaehhkaa
