/-
  BagOrder.
-/
import Derived.Test.YtgfachlcocjdbaaBao
namespace Go.Proofs.Ytgfachlcocjdbaa
open Go.Abs Go.RowKit
attribute [local irreducible] ARun kont MCall PCall HCall resVal SF CF CFs defersOk slotsIn memIn fin finM VLe
set_option linter.unusedSimpArgs false
set_option maxRecDepth 100000
set_option maxHeartbeats 4000000

theorem newTape_ok {l : List Int} (h : l.length ≤ 17592186044416) : (Tape.mk l 0).ok := ⟨h, by simp⟩

theorem ins_perm {x y : List Entry} {i k : Nat} {e : Entry} (hv : x[i]? = some e) (hp : y.Perm (x.take i)) : (y.take k ++ [e] ++ y.drop k).Perm (x.take (i + 1)) := by
  rw [List.take_add_one, hv]
  have h1 : (y.take k ++ [e] ++ y.drop k).Perm (e :: y) := by
    rw [List.append_assoc]
    refine (List.perm_middle (a := e)).trans ?_
    exact .of_eq (congrArg (e :: ·) (List.take_append_drop k y))
  refine h1.trans ((hp.cons e).trans ?_)
  exact (List.perm_append_singleton e _).symm

theorem lawOrder_c (t : List Int) (ht : t.length ≤ 17592186044416) : PCall Try.prog 4 [.one (numD t)] (.v (.one (.lit (.bool true)))) := by
  have hnew := new_h t ht
  have hok := newTape_ok ht
  have hent := entries_h ⟨t, 0⟩ 2 10 hok (by omega) (by omega)
  obtain ⟨b1, b2⟩ := (Tape.mk t 0).nx_bd (((10 : Nat) : Int) + 1)
  have hok1 := hok.go (((10 : Nat) : Int) + 1)
  obtain ⟨i0, hi0⟩ := Int.eq_ofNat_of_zero_le b1
  rw [hi0, Int.toNat_natCast] at hent
  rw [hi0] at b1 b2
  have hxo := entS_ok hok1 2 i0
  generalize (Tape.mk t 0).go (((10 : Nat) : Int) + 1) = t1 at hent hok1 hxo
  obtain ⟨hok2, hxl⟩ := hxo
  generalize entS t1 2 i0 = E at hent hok2 hxl
  obtain ⟨xs, t2⟩ := E
  dsimp only at hent hok2 hxl
  have hxn : xs.length ≤ 10 := by omega
  subst hxl
  have f4 : List.take xs.length (xs.map Entry.d) = xs.map Entry.d := take_ge (by simp)
  refine pcallS hT Try.func4 rfl (by kernel_rfl) _ [.tmp 2] Try.ntmps4 rfl rfl (by repeat' (first | exact nfNil rfl | apply nfCons (a := ((_, SVal.c _) : Nat × SVal)) rfl | apply nfCons (a := ((_, SVal.agg _) : Nat × SVal)) rfl)) fun B => ?_
  repeat' (first | refine s_freeze 4 ?_ (hes := f4) | (with_reducible (first | refine k_seq ?_ | refine k_block ?_ | refine k_skip ?_ | refine k_exit ?_ | refine k_ret ?_ | refine n_seq ?_ | refine n_block ?_ | refine e_seq ?_ | refine e_here ?_ | refine r_seq ?_ | refine r_block ?_ | refine o_exit ?_ | refine o_ret ?_)) | ((with_reducible refine is_region ?_); refine s_reg ?_) | ((with_reducible refine is_cond ?_); first | refine s_ifT ?_ | refine s_ifF ?_ | refine s_if rfl (fun hb => ?_) (fun hb => ?_)) | ((with_reducible refine is_exit ?_); refine s_past ?_) | ((with_reducible refine is_end ?_); first | refine r_end ?_ | refine s_endD ?_) | ((with_reducible refine is_guard ?_); first | refine s_skipS ?_ | refine s_skipU ?_ | refine s_skipN ?_ | refine s_skipUN ?_) | ((with_reducible refine is_move ?_); (first | refine s_move ?_ | fail)) | ((with_reducible refine is_assign ?_); (first | refine s_assign ?_ | fail)) | ((with_reducible refine is_bin ?_); (first | refine s_int ?_ | refine s_str ?_ | refine s_eqB ?_ | refine s_neB ?_ | refine s_eqA ?_ | refine s_neA ?_ | refine s_shr ?_ | refine s_shl ?_ | refine s_or ?_ | refine s_xor ?_ | refine s_eqNil (fun b hnil => ?_) | fail)) | ((with_reducible refine is_load ?_); (first | refine s_loadF1 ?_ | refine s_loadB1 ?_ | refine s_loadFA ?_ | refine s_loadBA ?_ | fail)) | ((with_reducible refine is_index ?_); (first | refine s_indexD ?_ (hel := (by first | exact rfl)) | refine s_indexA ?_ | refine s_indexVF ?_ | refine s_indexVB ?_ | fail)) | ((with_reducible refine is_call ?_); (first | refine s_callH [] (hnew) ?_ | refine s_callH [1] (hent) ?_ | fail)) | ((with_reducible refine is_pick ?_); (first | refine s_pick ?_ | refine s_pickB ?_ | fail)) | ((with_reducible refine is_built ?_); (first | refine s_lenD ?_ | refine s_lenE ?_ | refine s_lenS ?_ | refine s_lenA ?_ | refine s_appE ?_ | refine s_appA ?_ | refine s_min ?_ | refine s_max ?_ | fail)) | ((with_reducible refine is_bslice ?_); (first | refine s_bslice0 ?_ | refine s_bslice ?_ | fail)) | ((with_reducible refine is_extract ?_); (first | refine s_extract ?_ | fail)) | ((with_reducible refine is_slice ?_); (first | refine s_sliceD ?_ | refine s_sliceS ?_ | refine s_sliceE ?_ | refine s_sliceA ?_ | fail)) | ((with_reducible refine is_guard ?_); first | refine s_kT ?_ | refine s_kF ?_ | refine s_split rfl rfl (fun hb => ?_) (fun hb => ?_)) | ((with_reducible refine is_fin ?_); first | refine f_ret1 def_nil ?_ | refine f_ret2 def_nil ?_ ?_ | refine f_ret3 def_nil ?_ ?_ ?_ | refine f_end1 def_nil ?_) | ((with_reducible refine is_res ?_); first | refine t_tmp ?_ | refine t_tmpE ?_ | refine t_tmpA rfl rfl ?_ ?_ | refine d_tmpG rfl ?_ | refine t_cell (P := Try.prog) ?_ | refine t_cellG ?_) | ((with_reducible refine is_cfs ?_); first | exact cfs_nil | refine cfs_cons ?_ ?_) | ((with_reducible refine is_cf ?_); first | refine cf_d ?_ | refine cf_emp ?_ | refine cf_arr rfl ?_ ?_))
  refine s_lp (X := Nat × List Entry × Tape) [5, 6, 7, 18, 19, 20, 21, 22, 23, 24, 25, 26, 27, 28, 29, 30, 31, 32, 33, 34, 35, 36, 37, 38, 39, 40, 41, 42, 43] (fun x => x.1 ≤ xs.length ∧ x.2.1.Perm (xs.take x.1) ∧ x.2.2.ok) (fun x lz => (5, .c (.d (bagD x.2.1))) :: (6, (.c (.d (.lit (.int .i64 x.1))))) :: lz) (fun x => [.dead, .box 1 [.d (numD x.2.2.l), .d (.lit (.int .i64 x.2.2.at_))]]) (fun x => xs.length - x.1) ((0, [], t2)) ?_ ?_ ?_ ?_
  repeat' (first | exact slots_nil | refine w1 ?_ | refine w2 ?_ ?_ | refine w3 ?_ ?_ | refine w4 ?_ ?_ | refine w5 ?_ ?_ | refine w6 ?_ ?_ | refine w7 ?_ | exact memIn_nil | refine memIn_same ?_ | refine m1 ?_ ?_ | refine m2 ?_ ?_ | refine m3 ?_ ?_ ?_ ?_ | refine m4 ?_ ?_ | refine memIn_dead ?_ | omega)
  · exact ⟨by simp, .nil, hok2⟩
  rintro ⟨i, y, T⟩ c ⟨hi, hp, hT⟩
  dsimp only at hi hp hT ⊢
  have hyl : y.length = i := by rw [hp.length_eq]; simp; omega
  by_cases hlt : i < xs.length
  · have hv : xs[i]? = some xs[i] := List.getElem?_eq_getElem hlt
    generalize xs[i] = e at hv
    have hnx := next_h T ((y.length : Int) + 1) hT (by omega) (by omega)
    obtain ⟨q1, q2⟩ := T.nx_bd ((y.length : Int) + 1)
    have hT2 := hT.go ((y.length : Int) + 1)
    obtain ⟨k, hk⟩ := Int.eq_ofNat_of_zero_le q1
    rw [hk] at hnx q1 q2
    generalize T.go ((y.length : Int) + 1) = T2 at hnx hT2
    have hky : k ≤ y.length := by omega
    have f5 : List.take ((y.take k).length + [e.d].length + ((y.drop k).map Entry.d).length) ((y.take k).map Entry.d ++ [e.d] ++ (y.drop k).map Entry.d) = (y.take k ++ [e] ++ y.drop k).map Entry.d := by
      rw [List.map_append, List.map_append]; exact take_ge (by simp; omega)
    have hpn := ins_perm (k := k) hv hp
    repeat' (first | refine s_freeze 5 ?_ (hes := f5) | (with_reducible (first | refine k_seq ?_ | refine k_block ?_ | refine k_skip ?_ | refine k_exit ?_ | refine k_ret ?_ | refine n_seq ?_ | refine n_block ?_ | refine e_seq ?_ | refine e_here ?_ | refine r_seq ?_ | refine r_block ?_ | refine o_exit ?_ | refine o_ret ?_)) | ((with_reducible refine is_region ?_); refine s_reg ?_) | ((with_reducible refine is_cond ?_); first | refine s_ifT ?_ | refine s_ifF ?_ | refine s_if rfl (fun hb => ?_) (fun hb => ?_)) | ((with_reducible refine is_exit ?_); refine s_past ?_) | ((with_reducible refine is_end ?_); first | refine r_end ?_ | refine s_endD ?_) | ((with_reducible refine is_guard ?_); first | refine s_skipS ?_ | refine s_skipU ?_ | refine s_skipN ?_ | refine s_skipUN ?_) | ((with_reducible refine is_move ?_); (first | refine s_move ?_ | fail)) | ((with_reducible refine is_assign ?_); (first | refine s_assign ?_ | fail)) | ((with_reducible refine is_bin ?_); (first | refine s_int ?_ | refine s_str ?_ | refine s_eqB ?_ | refine s_neB ?_ | refine s_eqA ?_ | refine s_neA ?_ | refine s_shr ?_ | refine s_shl ?_ | refine s_or ?_ | refine s_xor ?_ | refine s_eqNil (fun b hnil => ?_) | fail)) | ((with_reducible refine is_load ?_); (first | refine s_loadF1 ?_ | refine s_loadB1 ?_ | refine s_loadFA ?_ | refine s_loadBA ?_ | refine s_loadA1 ?_ (he' := (by first | exact rfl | exact hv)) | refine s_loadAA ?_ (he' := (by first | exact rfl | exact hv)) | fail)) | ((with_reducible refine is_index ?_); (first | refine s_indexD ?_ (hel := (by first | exact rfl | exact idx_map hv (by omega) | exact hv)) | refine s_indexA ?_ | refine s_indexVF ?_ | refine s_indexVB ?_ | fail)) | ((with_reducible refine is_call ?_); (first | refine s_callH [1] (hnx) ?_ | fail)) | ((with_reducible refine is_pick ?_); (first | refine s_pick ?_ | refine s_pickB ?_ | fail)) | ((with_reducible refine is_built ?_); (first | refine s_lenD ?_ | refine s_lenE ?_ | refine s_lenS ?_ | refine s_lenA ?_ | refine s_appE ?_ | refine s_appA ?_ | refine s_min ?_ | refine s_max ?_ | fail)) | ((with_reducible refine is_bslice ?_); (first | refine s_bslice0 ?_ | refine s_bslice ?_ | fail)) | ((with_reducible refine is_extract ?_); (first | refine s_extract ?_ | fail)) | ((with_reducible refine is_slice ?_); (first | refine s_sliceD ?_ | refine s_sliceS ?_ | refine s_sliceE ?_ | refine s_sliceA ?_ | fail)) | ((with_reducible refine is_guard ?_); first | refine s_kT ?_ | refine s_kF ?_ | refine s_split rfl rfl (fun hb => ?_) (fun hb => ?_)) | ((with_reducible refine is_fin ?_); first | refine f_ret1 def_nil ?_ | refine f_ret2 def_nil ?_ ?_ | refine f_ret3 def_nil ?_ ?_ ?_ | refine f_end1 def_nil ?_) | ((with_reducible refine is_res ?_); first | refine t_tmp ?_ | refine t_tmpE ?_ | refine t_tmpA rfl rfl ?_ ?_ | refine d_tmpG rfl ?_ | refine t_cell (P := Try.prog) ?_ | refine t_cellG ?_) | ((with_reducible refine is_cfs ?_); first | exact cfs_nil | refine cfs_cons ?_ ?_) | ((with_reducible refine is_cf ?_); first | refine cf_d ?_ | refine cf_emp ?_ | refine cf_arr rfl ?_ ?_))
    (apply s_round ((i + 1, y.take k ++ [e] ++ y.drop k, T2)); all_goals (try dsimp only); all_goals (try (repeat' (first | exact slots_nil | refine w1 ?_ | refine w2 ?_ ?_ | refine w3 ?_ ?_ | refine w4 ?_ ?_ | refine w5 ?_ ?_ | refine w6 ?_ ?_ | refine w7 ?_ | exact memIn_nil | refine memIn_same ?_ | refine m1 ?_ ?_ | refine m2 ?_ ?_ | refine m3 ?_ ?_ ?_ ?_ | refine m4 ?_ ?_ | refine memIn_dead ?_ | omega))))
    exact ⟨by omega, hpn, hT2⟩
  · rw [take_ge (by omega)] at hp
    have hn := normE_perm hp
    have c1 := normalizeB_c xs (by omega)
    have c2 := normalizeB_c y (by omega)
    rw [hn] at c2
    by_cases hz : (normE xs).2 = 0
    · obtain ⟨g1, g2, g3, g4⟩ := norm_good hz
      have c3 := normalizeB_c (sortE xs) (by have := (valid_mem g3).1; omega)
      rw [norm_valid g3] at c3
      have c4 := bagValid_c (sortE xs)
      rw [g3] at c4
      rw [g1, hz] at c1 c2
      have s1 := same06_c (sortE xs) (sortE xs)
      rw [sameBag_refl] at s1
      generalize sortE xs = b at c1 c2 c3 c4 s1
      repeat' (first | (with_reducible (first | refine k_seq ?_ | refine k_block ?_ | refine k_skip ?_ | refine k_exit ?_ | refine k_ret ?_ | refine n_seq ?_ | refine n_block ?_ | refine e_seq ?_ | refine e_here ?_ | refine r_seq ?_ | refine r_block ?_ | refine o_exit ?_ | refine o_ret ?_)) | ((with_reducible refine is_region ?_); refine s_reg ?_) | ((with_reducible refine is_cond ?_); first | refine s_ifT ?_ | refine s_ifF ?_ | refine s_if rfl (fun hb => ?_) (fun hb => ?_)) | ((with_reducible refine is_exit ?_); refine s_past ?_) | ((with_reducible refine is_end ?_); first | refine r_end ?_ | refine s_endD ?_) | ((with_reducible refine is_guard ?_); first | refine s_skipS ?_ | refine s_skipU ?_ | refine s_skipN ?_ | refine s_skipUN ?_) | ((with_reducible refine is_move ?_); (first | refine s_move ?_ | fail)) | ((with_reducible refine is_assign ?_); (first | refine s_assign ?_ | fail)) | ((with_reducible refine is_bin ?_); (first | refine s_int ?_ | refine s_str ?_ | refine s_eqB ?_ | refine s_neB ?_ | refine s_eqA ?_ | refine s_neA ?_ | refine s_shr ?_ | refine s_shl ?_ | refine s_or ?_ | refine s_xor ?_ | refine s_eqNil (fun b hnil => ?_) | fail)) | ((with_reducible refine is_load ?_); (first | refine s_loadF1 ?_ | refine s_loadB1 ?_ | refine s_loadFA ?_ | refine s_loadBA ?_ | fail)) | ((with_reducible refine is_index ?_); (first | refine s_indexD ?_ (hel := (by first | exact rfl)) | refine s_indexA ?_ | refine s_indexVF ?_ | refine s_indexVB ?_ | fail)) | ((with_reducible refine is_call ?_); (first | refine s_call (awake06_c) ?_ | refine s_call (c1) ?_ | refine s_call (c2) ?_ | refine s_call (c3) ?_ | refine s_call (c4) ?_ | refine s_call (s1) ?_ | fail)) | ((with_reducible refine is_pick ?_); (first | refine s_pick ?_ | refine s_pickB ?_ | fail)) | ((with_reducible refine is_built ?_); (first | refine s_lenD ?_ | refine s_lenE ?_ | refine s_lenS ?_ | refine s_lenA ?_ | refine s_appE ?_ | refine s_appA ?_ | refine s_min ?_ | refine s_max ?_ | fail)) | ((with_reducible refine is_bslice ?_); (first | refine s_bslice0 ?_ | refine s_bslice ?_ | fail)) | ((with_reducible refine is_extract ?_); (first | refine s_extract ?_ | fail)) | ((with_reducible refine is_slice ?_); (first | refine s_sliceD ?_ | refine s_sliceS ?_ | refine s_sliceE ?_ | refine s_sliceA ?_ | fail)) | ((with_reducible refine is_guard ?_); first | refine s_kT ?_ | refine s_kF ?_ | refine s_split rfl rfl (fun hb => ?_) (fun hb => ?_)) | ((with_reducible refine is_fin ?_); first | refine f_ret1 def_nil ?_ | refine f_ret2 def_nil ?_ ?_ | refine f_ret3 def_nil ?_ ?_ ?_ | refine f_end1 def_nil ?_) | ((with_reducible refine is_res ?_); first | refine t_tmp ?_ | refine t_tmpE ?_ | refine t_tmpA rfl rfl ?_ ?_ | refine d_tmpG rfl ?_ | refine t_cell (P := Try.prog) ?_ | refine t_cellG ?_) | ((with_reducible refine is_cfs ?_); first | exact cfs_nil | refine cfs_cons ?_ ?_) | ((with_reducible refine is_cf ?_); first | refine cf_d ?_ | refine cf_emp ?_ | refine cf_arr rfl ?_ ?_))
      all_goals rfl
    · have hnil : (normE xs).1 = [] := by
        unfold normE at hz ⊢
        split at hz
        · rename_i hq; rw [if_pos hq]; exact fits_bad hz
        · rename_i hq; rw [if_neg hq]
      have s1 := same06_c [] []
      rw [sameBag_refl] at s1
      have c3 := normalizeB_c [] (by simp)
      rw [norm_valid (l := []) rfl] at c3
      rw [hnil] at c1 c2
      generalize (normE xs).2 = er at hz c1 c2
      repeat' (first | (with_reducible (first | refine k_seq ?_ | refine k_block ?_ | refine k_skip ?_ | refine k_exit ?_ | refine k_ret ?_ | refine n_seq ?_ | refine n_block ?_ | refine e_seq ?_ | refine e_here ?_ | refine r_seq ?_ | refine r_block ?_ | refine o_exit ?_ | refine o_ret ?_)) | ((with_reducible refine is_region ?_); refine s_reg ?_) | ((with_reducible refine is_cond ?_); first | refine s_ifT ?_ | refine s_ifF ?_ | refine s_if rfl (fun hb => ?_) (fun hb => ?_)) | ((with_reducible refine is_exit ?_); refine s_past ?_) | ((with_reducible refine is_end ?_); first | refine r_end ?_ | refine s_endD ?_) | ((with_reducible refine is_guard ?_); first | refine s_skipS ?_ | refine s_skipU ?_ | refine s_skipN ?_ | refine s_skipUN ?_) | ((with_reducible refine is_move ?_); (first | refine s_move ?_ | fail)) | ((with_reducible refine is_assign ?_); (first | refine s_assign ?_ | fail)) | ((with_reducible refine is_bin ?_); (first | refine s_int ?_ | refine s_str ?_ | refine s_eqB ?_ | refine s_neB ?_ | refine s_eqA ?_ | refine s_neA ?_ | refine s_shr ?_ | refine s_shl ?_ | refine s_or ?_ | refine s_xor ?_ | refine s_eqNil (fun b hnil => ?_) | fail)) | ((with_reducible refine is_load ?_); (first | refine s_loadF1 ?_ | refine s_loadB1 ?_ | refine s_loadFA ?_ | refine s_loadBA ?_ | fail)) | ((with_reducible refine is_index ?_); (first | refine s_indexD ?_ (hel := (by first | exact rfl)) | refine s_indexA ?_ | refine s_indexVF ?_ | refine s_indexVB ?_ | fail)) | ((with_reducible refine is_call ?_); (first | refine s_call (awake06_c) ?_ | refine s_call (c1) ?_ | refine s_call (c2) ?_ | refine s_call (c3) ?_ | refine s_call (s1) ?_ | fail)) | ((with_reducible refine is_pick ?_); (first | refine s_pick ?_ | refine s_pickB ?_ | fail)) | ((with_reducible refine is_built ?_); (first | refine s_lenD ?_ | refine s_lenE ?_ | refine s_lenS ?_ | refine s_lenA ?_ | refine s_appE ?_ | refine s_appA ?_ | refine s_min ?_ | refine s_max ?_ | fail)) | ((with_reducible refine is_bslice ?_); (first | refine s_bslice0 ?_ | refine s_bslice ?_ | fail)) | ((with_reducible refine is_extract ?_); (first | refine s_extract ?_ | fail)) | ((with_reducible refine is_slice ?_); (first | refine s_sliceD ?_ | refine s_sliceS ?_ | refine s_sliceE ?_ | refine s_sliceA ?_ | fail)) | ((with_reducible refine is_guard ?_); first | refine s_kT ?_ | refine s_kF ?_ | refine s_split rfl rfl (fun hb => ?_) (fun hb => ?_)) | ((with_reducible refine is_fin ?_); first | refine f_ret1 def_nil ?_ | refine f_ret2 def_nil ?_ ?_ | refine f_ret3 def_nil ?_ ?_ ?_ | refine f_end1 def_nil ?_) | ((with_reducible refine is_res ?_); first | refine t_tmp ?_ | refine t_tmpE ?_ | refine t_tmpA rfl rfl ?_ ?_ | refine d_tmpG rfl ?_ | refine t_cell (P := Try.prog) ?_ | refine t_cellG ?_) | ((with_reducible refine is_cfs ?_); first | exact cfs_nil | refine cfs_cons ?_ ?_) | ((with_reducible refine is_cf ?_); first | refine cf_d ?_ | refine cf_emp ?_ | refine cf_arr rfl ?_ ?_))
      all_goals rfl
end Go.Proofs.Ytgfachlcocjdbaa
