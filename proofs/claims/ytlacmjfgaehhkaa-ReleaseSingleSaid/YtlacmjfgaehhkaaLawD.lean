/-
  ReleaseHides.
-/
import Derived.Test.YtlacmjfgaehhkaaLawC
namespace Go.Proofs.Ytlacmjfgaehhkaa
open Go.Abs Go.RowKit
attribute [local irreducible] ARun kont MCall PCall HCall resVal SF CF CFs defersOk slotsIn memIn fin finM VLe
set_option linter.unusedSimpArgs false
set_option maxRecDepth 100000
set_option maxHeartbeats 4000000

theorem cnt_nat (x : Nat) (h : x < 1024) : cnt x = x := by
  have h2 : andInt .i64 (x : Int) 1023 = (((BitVec.ofInt 64 (x : Int) &&& BitVec.ofInt 64 (1023 : Int)).toNat : Nat) : Int) := by
    show IntKind.i64.wrap (((BitVec.ofInt 64 (x : Int) &&& BitVec.ofInt 64 (1023 : Int)).toNat : Nat) : Int) = _
    refine wrap_i64 (by omega) ?_
    have : (BitVec.ofInt 64 (x : Int) &&& BitVec.ofInt 64 (1023 : Int)).toNat ≤ 1023 := by
      rw [BitVec.toNat_and]; exact Nat.and_le_right
    omega
  have h3 : (BitVec.ofInt 64 (x : Int)).toNat = x := by
    rw [BitVec.toNat_ofInt]; omega
  rw [cnt, h2, BitVec.toNat_and, h3, show (BitVec.ofInt 64 (1023 : Int)).toNat = 2 ^ 10 - 1 from rfl, Nat.and_two_pow_sub_one_eq_mod, Nat.mod_eq_of_lt h]

theorem cnt_small {x : Int} (h : 0 ≤ x ∧ x < 1024) : cnt x = x := by
  obtain ⟨n, rfl⟩ := Int.eq_ofNat_of_zero_le h.1
  exact cnt_nat n (by omega)

/-- Two counts that reach the same multiples. -/
def Alike (t a b : Int) : Prop := a = b ∨ ∃ c z : Int, 0 ≤ c ∧ c ≤ 511 ∧ 0 ≤ z ∧ z < t ∧ a = c ∧ b = c - c.tmod t + z

theorem tmod_alike (t c z : Int) (ht : 1 ≤ t) (hc : 0 ≤ c) (hz : 0 ≤ z ∧ z < t) : (c - c.tmod t + z).tmod t = z ∧ (t ≤ c ↔ t ≤ c - c.tmod t + z) := by
  have e1 : c.tmod t = c % t := Int.tmod_eq_emod_of_nonneg hc
  have h1 := Int.emod_nonneg c (show t ≠ 0 by omega)
  have h2 := Int.emod_lt_of_pos c (show 0 < t by omega)
  have h3 := Int.emod_add_mul_ediv c t
  have h4 : c - c.tmod t = t * (c / t) := by rw [e1]; omega
  have h5 : 0 ≤ c / t := Int.ediv_nonneg hc (by omega)
  have h6 : 0 ≤ t * (c / t) := Int.mul_nonneg (by omega) h5
  constructor
  · rw [h4, Int.tmod_eq_emod_of_nonneg (by omega), Int.add_comm, Int.add_mul_emod_self_left, Int.emod_eq_of_lt hz.1 hz.2]
  · rw [h4]
    by_cases h0 : c / t = 0
    · rw [h0] at h3 ⊢; simp at h3 ⊢; omega
    · have : t * 1 ≤ t * (c / t) := Int.mul_le_mul_of_nonneg_left (by omega) (by omega)
      omega

theorem pubG_alike {t : Int} (ht : 1 ≤ t ∧ t ≤ 16) {us vs : List Int} {i : Nat} (h : Alike t (us.getD i 0) (vs.getD i 0)) : pubG t us i = pubG t vs i := by
  rcases h with h | ⟨c, z, h1, h2, h3, h4, h5, h6⟩
  · rw [pubG, pubG, h]
  · have hm := tmod_alike t c z ht.1 h1 ⟨h3, h4⟩
    have hb1 : 0 ≤ c.tmod t := Int.tmod_nonneg _ h1
    have hb2 : c.tmod t ≤ c := by rw [Int.tmod_eq_emod_of_nonneg h1]; have := Int.emod_add_mul_ediv c t; have := Int.mul_nonneg (show 0 ≤ t by omega) (Int.ediv_nonneg h1 (show 0 ≤ t by omega)); omega
    rw [pubG, pubG, h5, h6, cnt_small ⟨h1, by omega⟩, cnt_small (x := c - c.tmod t + z) ⟨by omega, by omega⟩, hm.1]
    by_cases hc : t ≤ c
    · rw [if_pos ⟨by omega, hc⟩, if_pos ⟨by have := hm.2.1 hc; omega, hm.2.1 hc⟩]
      congr 2; omega
    · rw [if_neg (by omega), if_neg (fun h => hc (hm.2.2 h.2))]

theorem pubsG_alike {t : Int} (ht : 1 ≤ t ∧ t ≤ 16) {us vs : List Int} (hl : us.length = vs.length) (h : ∀ i, Alike t (us.getD i 0) (vs.getD i 0)) : pubsG t us = pubsG t vs := by
  rw [pubsG, pubsG, hl]; exact fm_congr fun i _ => pubG_alike ht (h i)

theorem u64_eq (z : Int) : IntKind.u64.wrap z = z % 18446744073709551616 := by
  simp only [IntKind.wrap, IntKind.signed, IntKind.bits]
  simp
theorem u64_nn (z : Int) : 0 ≤ IntKind.u64.wrap z := by rw [u64_eq]; omega
theorem u64_small {z : Int} (h1 : 0 ≤ z) (h2 : z < 18446744073709551616) : IntKind.u64.wrap z = z := by rw [u64_eq]; omega

theorem lawHides_c (n : Int) (counts noise : List Int) (hc : counts.length ≤ 17592186044416) (hn : noise.length ≤ 17592186044416) : PCall Try.prog 5 [.one (.lit (.int .i64 n)), .one (intsD counts), .one (intsD noise)] (.v (.one (.lit (.bool true)))) := by
  obtain ⟨hl1, hl2⟩ := lim_bd n
  refine pcallS hT Try.func5 rfl (by kernel_rfl) _ [.tmp 6] Try.ntmps5 rfl rfl (by repeat' (first | exact nfNil rfl | apply nfCons (a := ((_, SVal.c _) : Nat × SVal)) rfl | apply nfCons (a := ((_, SVal.agg _) : Nat × SVal)) rfl)) fun B => ?_
  repeat' (first | (with_reducible (first | refine k_seq ?_ | refine k_block ?_ | refine k_skip ?_ | refine k_exit ?_ | refine k_ret ?_ | refine n_seq ?_ | refine n_block ?_ | refine e_seq ?_ | refine e_here ?_ | refine r_seq ?_ | refine r_block ?_ | refine o_exit ?_ | refine o_ret ?_)) | ((with_reducible refine is_region ?_); refine s_reg ?_) | ((with_reducible refine is_cond ?_); first | refine s_ifT ?_ | refine s_ifF ?_ | refine s_if rfl (fun hb => ?_) (fun hb => ?_)) | ((with_reducible refine is_exit ?_); refine s_past ?_) | ((with_reducible refine is_end ?_); first | refine r_end ?_ | refine s_endD ?_) | ((with_reducible refine is_guard ?_); first | refine s_skipS ?_ | refine s_skipU ?_ | refine s_skipN ?_ | refine s_skipUN ?_) | ((with_reducible refine is_move ?_); (first | refine s_move ?_ | fail)) | ((with_reducible refine is_assign ?_); (first | refine s_assign ?_ | fail)) | ((with_reducible refine is_bin ?_); (first | refine s_int ?_ | refine s_str ?_ | refine s_eqB ?_ | refine s_neB ?_ | refine s_eqA ?_ | refine s_neA ?_ | refine s_shr ?_ | refine s_shl ?_ | refine s_or ?_ | refine s_xor ?_ | refine s_eqNil (fun b hnil => ?_) | fail)) | ((with_reducible refine is_load ?_); (first | refine s_loadF1 ?_ | refine s_loadB1 ?_ | refine s_loadFA ?_ | refine s_loadBA ?_ | fail)) | ((with_reducible refine is_index ?_); (first | refine s_indexD ?_ (hel := (by first | exact rfl)) | refine s_indexA ?_ | refine s_indexVF ?_ | refine s_indexVB ?_ | fail)) | ((with_reducible refine is_field ?_); (first | refine s_fieldF ?_ | refine s_fieldB ?_ | refine s_fieldA ?_ | fail)) | ((with_reducible refine is_call ?_); (first | refine s_call (limit_c _) ?_ | fail)) | ((with_reducible refine is_pick ?_); (first | refine s_pick ?_ | refine s_pickB ?_ | fail)) | ((with_reducible refine is_built ?_); (first | refine s_lenD ?_ | refine s_lenE ?_ | refine s_lenS ?_ | refine s_lenA ?_ | refine s_appE ?_ | refine s_appA ?_ | refine s_min ?_ | refine s_max ?_ | fail)) | ((with_reducible refine is_store ?_); (first | refine s_storeB ?_ | fail)) | ((with_reducible refine is_bslice ?_); (first | refine s_bslice0 ?_ | refine s_bslice ?_ | fail)) | ((with_reducible refine is_alloc ?_); (first | refine s_alloc ?_ | fail)) | ((with_reducible refine is_conv ?_); (first | refine s_conv ?_ | refine s_convSB ?_ | refine s_convBSd ?_ | refine s_convBSa ?_ | fail)) | ((with_reducible refine is_slice ?_); (first | refine s_sliceD ?_ | refine s_sliceS ?_ | refine s_sliceE ?_ | refine s_sliceA ?_ | fail)) | ((with_reducible refine is_guard ?_); first | refine s_kT ?_ | refine s_kF ?_ | refine s_split rfl rfl (fun hb => ?_) (fun hb => ?_)) | ((with_reducible refine is_fin ?_); first | refine f_ret1 def_nil ?_ | refine f_ret2 def_nil ?_ ?_ | refine f_ret3 def_nil ?_ ?_ ?_ | refine f_end1 def_nil ?_) | ((with_reducible refine is_res ?_); first | refine t_tmp ?_ | refine t_tmpE ?_ | refine t_tmpA rfl rfl ?_ ?_ | refine d_tmpG rfl ?_ | refine t_cell (P := Try.prog) ?_ | refine t_cellG ?_) | ((with_reducible refine is_cfs ?_); first | exact cfs_nil | refine cfs_cons ?_ ?_) | ((with_reducible refine is_cf ?_); first | refine cf_d ?_ | refine cf_emp ?_ | refine cf_arr rfl ?_ ?_))
  refine s_lp (X := Nat × List Int × List Int) [1, 9, 10, 16, 17, 18, 19, 20, 21, 22, 23, 24, 25, 26, 27, 28, 29, 30, 31, 32, 33, 34, 35, 36, 37, 38, 39, 40, 41, 42, 43, 44, 45, 46, 47, 48, 49, 50, 51, 52, 53, 54, 55, 56, 57, 58, 59, 60, 61, 62, 63, 64, 65] (fun x => x.1 ≤ counts.length ∧ x.1 ≤ noise.length ∧ x.2.1.length = counts.length ∧ x.2.2.length = counts.length ∧ ∀ j, Alike (lim n) (x.2.1.getD j 0) (x.2.2.getD j 0)) (fun x lz => (1, .c (.d (intsD x.2.1))) :: (9, (.c (.d (.lit (.int .i64 x.1))))) :: lz) (fun x => [.box 1 [.d (.lit (.string ⟨#[]⟩)), .d (.lit (.string ⟨#[]⟩)), .d (.lit (.int .i64 (lim n)))], .arr 2 3 1 (x.2.2.map intD)]) (fun x => counts.length - x.1) ((0, counts, counts)) ?_ ?_ ?_ ?_
  repeat' (first | exact slots_nil | refine w1 ?_ | refine w2 ?_ ?_ | refine w3 ?_ ?_ | refine w4 ?_ ?_ | refine w5 ?_ ?_ | refine w6 ?_ ?_ | refine w7 ?_ | exact memIn_nil | refine memIn_same ?_ | refine m1 ?_ ?_ | refine m2 ?_ ?_ | refine m3 ?_ ?_ ?_ ?_ | refine m4 ?_ ?_ | refine memIn_dead ?_ | omega)
  · exact ⟨by simp, by simp, rfl, rfl, fun j => .inl rfl⟩
  rintro ⟨i, us, vs⟩ c h
  dsimp only at h ⊢
  obtain ⟨h1, h2, h3, h4, h5⟩ := h
  by_cases hlt : i < counts.length ∧ i < noise.length
  · have hv : vs[i]? = some vs[i] := List.getElem?_eq_getElem (by omega)
    have hw : noise[i]? = some noise[i] := List.getElem?_eq_getElem (by omega)
    generalize vs[i] = a at hv
    generalize noise[i] = z at hw
    have hm : 0 ≤ andInt .i64 a 511 ∧ andInt .i64 a 511 ≤ 511 := and_mask a 511 (by omega)
    have hu : IntKind.u64.wrap (lim n) = lim n := u64_small (by omega) (by omega)
    have hu2 : 0 ≤ (IntKind.u64.wrap z).tmod (IntKind.u64.wrap (lim n)) ∧ (IntKind.u64.wrap z).tmod (IntKind.u64.wrap (lim n)) < lim n := by
      rw [hu, Int.tmod_eq_emod_of_nonneg (u64_nn z)]
      exact ⟨Int.emod_nonneg _ (by omega), Int.emod_lt_of_pos _ (by omega)⟩
    have hm2 : 0 ≤ (andInt .i64 a 511).tmod (lim n) ∧ (andInt .i64 a 511).tmod (lim n) ≤ andInt .i64 a 511 := by
      refine ⟨Int.tmod_nonneg _ hm.1, ?_⟩
      rw [Int.tmod_eq_emod_of_nonneg hm.1]
      have := Int.emod_add_mul_ediv (andInt .i64 a 511) (lim n)
      have := Int.mul_nonneg (show 0 ≤ lim n by omega) (Int.ediv_nonneg hm.1 (show 0 ≤ lim n by omega))
      omega
    have hv1 : (vs.map intD)[i]? = some (intD a) := by rw [List.getElem?_map, hv]; rfl
    have f1 : List.take ((us.take i).length + [intD (andInt .i64 a 511)].length + ((us.drop (i + 1)).map intD).length) ((us.take i).map intD ++ [intD (andInt .i64 a 511)] ++ (us.drop (i + 1)).map intD) = (us.take i ++ [andInt .i64 a 511] ++ us.drop (i + 1)).map intD := by
      rw [List.map_append, List.map_append]; exact take_ge (by simp; omega)
    repeat' (first | refine s_freeze 1 ?_ (hes := f1) | (with_reducible (first | refine k_seq ?_ | refine k_block ?_ | refine k_skip ?_ | refine k_exit ?_ | refine k_ret ?_ | refine n_seq ?_ | refine n_block ?_ | refine e_seq ?_ | refine e_here ?_ | refine r_seq ?_ | refine r_block ?_ | refine o_exit ?_ | refine o_ret ?_)) | ((with_reducible refine is_region ?_); refine s_reg ?_) | ((with_reducible refine is_cond ?_); first | refine s_ifT ?_ | refine s_ifF ?_ | refine s_if rfl (fun hb => ?_) (fun hb => ?_)) | ((with_reducible refine is_exit ?_); refine s_past ?_) | ((with_reducible refine is_end ?_); first | refine r_end ?_ | refine s_endD ?_) | ((with_reducible refine is_guard ?_); first | refine s_skipS ?_ | refine s_skipU ?_ | refine s_skipN ?_ | refine s_skipUN ?_) | ((with_reducible refine is_move ?_); (first | refine s_move ?_ | fail)) | ((with_reducible refine is_assign ?_); (first | refine s_assign ?_ | fail)) | ((with_reducible refine is_bin ?_); (first | refine s_int ?_ | refine s_str ?_ | refine s_eqB ?_ | refine s_neB ?_ | refine s_eqA ?_ | refine s_neA ?_ | refine s_shr ?_ | refine s_shl ?_ | refine s_or ?_ | refine s_xor ?_ | refine s_eqNil (fun b hnil => ?_) | fail)) | ((with_reducible refine is_load ?_); (first | refine s_loadF1 ?_ | refine s_loadB1 ?_ | refine s_loadFA ?_ | refine s_loadBA ?_ | refine s_loadA1 ?_ (he' := (by first | exact rfl | exact hv1 | exact hw)) | refine s_loadAA ?_ (he' := (by first | exact rfl | exact hv1 | exact hw)) | fail)) | ((with_reducible refine is_index ?_); (first | refine s_indexD ?_ (hel := (by first | exact rfl | exact idx_map hv1 (by omega) | exact idx_map hw (by omega) | exact hv1 | exact hw)) | refine s_indexA ?_ | refine s_indexVF ?_ | refine s_indexVB ?_ | fail)) | ((with_reducible refine is_field ?_); (first | refine s_fieldF ?_ | refine s_fieldB ?_ | refine s_fieldA ?_ | fail)) | ((with_reducible refine is_pick ?_); (first | refine s_pick ?_ | refine s_pickB ?_ | fail)) | ((with_reducible refine is_built ?_); (first | refine s_lenD ?_ | refine s_lenE ?_ | refine s_lenS ?_ | refine s_lenA ?_ | refine s_appE ?_ | refine s_appA ?_ | refine s_min ?_ | refine s_max ?_ | fail)) | ((with_reducible refine is_store ?_); (first | refine s_storeB ?_ | refine s_storeA ?_ (hj := (by first | exact rfl | exact hv1 | exact hw)) | fail)) | ((with_reducible refine is_bslice ?_); (first | refine s_bslice0 ?_ | refine s_bslice ?_ | fail)) | ((with_reducible refine is_alloc ?_); (first | refine s_alloc ?_ | fail)) | ((with_reducible refine is_conv ?_); (first | refine s_conv ?_ | refine s_convSB ?_ | refine s_convBSd ?_ | refine s_convBSa ?_ | fail)) | ((with_reducible refine is_slice ?_); (first | refine s_sliceD ?_ | refine s_sliceS ?_ | refine s_sliceE ?_ | refine s_sliceA ?_ | fail)) | ((with_reducible refine is_guard ?_); first | refine s_kT ?_ | refine s_kF ?_ | refine s_split rfl rfl (fun hb => ?_) (fun hb => ?_)) | ((with_reducible refine is_fin ?_); first | refine f_ret1 def_nil ?_ | refine f_ret2 def_nil ?_ ?_ | refine f_ret3 def_nil ?_ ?_ ?_ | refine f_end1 def_nil ?_) | ((with_reducible refine is_res ?_); first | refine t_tmp ?_ | refine t_tmpE ?_ | refine t_tmpA rfl rfl ?_ ?_ | refine d_tmpG rfl ?_ | refine t_cell (P := Try.prog) ?_ | refine t_cellG ?_) | ((with_reducible refine is_cfs ?_); first | exact cfs_nil | refine cfs_cons ?_ ?_) | ((with_reducible refine is_cf ?_); first | refine cf_d ?_ | refine cf_emp ?_ | refine cf_arr rfl ?_ ?_))
    (apply s_round ((i + 1, us.take i ++ [andInt .i64 a 511] ++ us.drop (i + 1), vs.set i (andInt .i64 a 511 - (andInt .i64 a 511).tmod (lim n) + (IntKind.u64.wrap z).tmod (IntKind.u64.wrap (lim n))))); all_goals (try dsimp only); all_goals (try (repeat' (first | exact slots_nil | refine w1 ?_ | refine w2 ?_ ?_ | refine w3 ?_ ?_ | refine w4 ?_ ?_ | refine w5 ?_ ?_ | refine w6 ?_ ?_ | refine w7 ?_ | exact memIn_nil | refine memIn_same ?_ | refine m1 ?_ ?_ | refine m2 ?_ ?_ | refine m3 ?_ ?_ ?_ ?_ | refine m4 ?_ ?_ | refine memIn_dead ?_ | omega))))
    · rw [List.map_set]; rfl
    · refine ⟨by omega, by omega, by simp; omega, by simpa using h4, fun j => ?_⟩
      by_cases hj : j = i
      · subst hj
        refine .inr ⟨andInt .i64 a 511, (IntKind.u64.wrap z).tmod (IntKind.u64.wrap (lim n)), hm.1, hm.2, hu2.1, hu2.2, ?_, ?_⟩
        · rw [List.getD_eq_getElem?_getD, List.append_assoc, List.getElem?_append_right (by simp; omega)]; simp [Nat.min_eq_left (show j ≤ us.length by omega)]
        · rw [List.getD_eq_getElem?_getD, List.getElem?_set_self (by omega)]; rfl
      · have e1 : (us.take i ++ [andInt .i64 a 511] ++ us.drop (i + 1)).getD j 0 = us.getD j 0 := by
          rw [List.getD_eq_getElem?_getD, List.getD_eq_getElem?_getD, List.append_assoc]
          by_cases hji : j < i
          · rw [List.getElem?_append_left (by simp; omega), List.getElem?_take_of_lt hji]
          · rw [List.getElem?_append_right (by simp; omega), List.getElem?_append_right (by simp; omega), List.getElem?_drop]
            congr 2; simp; omega
        have e2 : (vs.set i (andInt .i64 a 511 - (andInt .i64 a 511).tmod (lim n) + (IntKind.u64.wrap z).tmod (IntKind.u64.wrap (lim n)))).getD j 0 = vs.getD j 0 := by
          rw [List.getD_eq_getElem?_getD, List.getD_eq_getElem?_getD, List.getElem?_set_ne (by omega)]
        rw [e1, e2]; exact h5 j
  · have f8 : List.take counts.length (vs.map intD) = vs.map intD := take_ge (by simp; omega)
    have e1 := publish_groups (limR n) hl1 us
    have e2 := publish_groups (limR n) hl1 vs
    rw [← pubsG_alike (t := (limR n).thr) ⟨hl1, hl2⟩ (h3.trans h4.symm) h5] at e2
    have p1 := publish_c (limR n) 1 (groups us)
    have p2 := publish_c (limR n) 1 (groups vs)
    rw [e1] at p1
    rw [e2] at p2
    have s2 := same35_c (pubsG (limR n).thr us) (pubsG (limR n).thr us)
    rw [samePub_refl] at s2
    repeat' (first | refine s_freeze 8 ?_ (hes := f8) | (with_reducible (first | refine k_seq ?_ | refine k_block ?_ | refine k_skip ?_ | refine k_exit ?_ | refine k_ret ?_ | refine n_seq ?_ | refine n_block ?_ | refine e_seq ?_ | refine e_here ?_ | refine r_seq ?_ | refine r_block ?_ | refine o_exit ?_ | refine o_ret ?_)) | ((with_reducible refine is_region ?_); refine s_reg ?_) | ((with_reducible refine is_cond ?_); first | refine s_ifT ?_ | refine s_ifF ?_ | refine s_if rfl (fun hb => ?_) (fun hb => ?_)) | ((with_reducible refine is_exit ?_); refine s_past ?_) | ((with_reducible refine is_end ?_); first | refine r_end ?_ | refine s_endD ?_) | ((with_reducible refine is_guard ?_); first | refine s_skipS ?_ | refine s_skipU ?_ | refine s_skipN ?_ | refine s_skipUN ?_) | ((with_reducible refine is_move ?_); (first | refine s_move ?_ | fail)) | ((with_reducible refine is_assign ?_); (first | refine s_assign ?_ | fail)) | ((with_reducible refine is_bin ?_); (first | refine s_int ?_ | refine s_str ?_ | refine s_eqB ?_ | refine s_neB ?_ | refine s_eqA ?_ | refine s_neA ?_ | refine s_shr ?_ | refine s_shl ?_ | refine s_or ?_ | refine s_xor ?_ | refine s_eqNil (fun b hnil => ?_) | fail)) | ((with_reducible refine is_load ?_); (first | refine s_loadF1 ?_ | refine s_loadB1 ?_ | refine s_loadFA ?_ | refine s_loadBA ?_ | fail)) | ((with_reducible refine is_index ?_); (first | refine s_indexD ?_ (hel := (by first | exact rfl)) | refine s_indexA ?_ | refine s_indexVF ?_ | refine s_indexVB ?_ | fail)) | ((with_reducible refine is_field ?_); (first | refine s_fieldF ?_ | refine s_fieldB ?_ | refine s_fieldA ?_ | fail)) | ((with_reducible refine is_call ?_); (first | refine s_call (awake_c) ?_ | refine s_call (groups_c _) ?_ | refine s_call (p1) ?_ | refine s_call (p2) ?_ | refine s_call (s2) ?_ | fail)) | ((with_reducible refine is_pick ?_); (first | refine s_pick ?_ | refine s_pickB ?_ | fail)) | ((with_reducible refine is_built ?_); (first | refine s_lenD ?_ | refine s_lenE ?_ | refine s_lenS ?_ | refine s_lenA ?_ | refine s_appE ?_ | refine s_appA ?_ | refine s_min ?_ | refine s_max ?_ | fail)) | ((with_reducible refine is_store ?_); (first | refine s_storeB ?_ | fail)) | ((with_reducible refine is_bslice ?_); (first | refine s_bslice0 ?_ | refine s_bslice ?_ | fail)) | ((with_reducible refine is_alloc ?_); (first | refine s_alloc ?_ | fail)) | ((with_reducible refine is_conv ?_); (first | refine s_conv ?_ | refine s_convSB ?_ | refine s_convBSd ?_ | refine s_convBSa ?_ | fail)) | ((with_reducible refine is_slice ?_); (first | refine s_sliceD ?_ | refine s_sliceS ?_ | refine s_sliceE ?_ | refine s_sliceA ?_ | fail)) | ((with_reducible refine is_guard ?_); first | refine s_kT ?_ | refine s_kF ?_ | refine s_split rfl rfl (fun hb => ?_) (fun hb => ?_)) | ((with_reducible refine is_fin ?_); first | refine f_ret1 def_nil ?_ | refine f_ret2 def_nil ?_ ?_ | refine f_ret3 def_nil ?_ ?_ ?_ | refine f_end1 def_nil ?_) | ((with_reducible refine is_res ?_); first | refine t_tmp ?_ | refine t_tmpE ?_ | refine t_tmpA rfl rfl ?_ ?_ | refine d_tmpG rfl ?_ | refine t_cell (P := Try.prog) ?_ | refine t_cellG ?_) | ((with_reducible refine is_cfs ?_); first | exact cfs_nil | refine cfs_cons ?_ ?_) | ((with_reducible refine is_cf ?_); first | refine cf_d ?_ | refine cf_emp ?_ | refine cf_arr rfl ?_ ?_))
    all_goals rfl
end Go.Proofs.Ytlacmjfgaehhkaa
