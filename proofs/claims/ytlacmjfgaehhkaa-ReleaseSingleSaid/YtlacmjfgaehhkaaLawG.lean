/-
  ReleaseSingle.
-/
import Derived.Test.YtlacmjfgaehhkaaDik
namespace Go.Proofs.Ytlacmjfgaehhkaa
open Go.Abs Go.RowKit
attribute [local irreducible] ARun kont MCall PCall HCall resVal SF CF CFs defersOk slotsIn memIn fin finM VLe
set_option linter.unusedSimpArgs false
set_option maxRecDepth 100000
set_option maxHeartbeats 4000000

theorem gv_eq (thr : Int) (ht : 1 ≤ thr) (counts : List Int) (i : Nat) (h : 0 ≤ counts.getD i 0 ∧ counts.getD i 0 < 1024) : gv thr counts i = counts.getD i 0 - (counts.getD i 0).tmod thr := by
  unfold gv pubG
  rw [cnt_small h]
  split
  · rfl
  · rename_i hn
    have : counts.getD i 0 < thr := by
      by_cases h0 : 0 < counts.getD i 0
      · by_cases h1 : thr ≤ counts.getD i 0
        · exact absurd ⟨h0, h1⟩ hn
        · omega
      · omega
    rw [Int.tmod_eq_emod_of_nonneg h.1, Int.emod_eq_of_lt h.1 this]
    simp

theorem step_mod (c t : Int) (hc : 0 ≤ c) (ht : 1 ≤ t) : ((c + 1) - (c + 1).tmod t) - (c - c.tmod t) = 0 ∨ ((c + 1) - (c + 1).tmod t) - (c - c.tmod t) = t := by
  rw [Int.tmod_eq_emod_of_nonneg hc, Int.tmod_eq_emod_of_nonneg (by omega)]
  have h1 := Int.emod_nonneg c (show t ≠ 0 by omega)
  have h2 := Int.emod_lt_of_pos c (show 0 < t by omega)
  have h3 := Int.emod_add_mul_ediv c t
  by_cases h : c % t + 1 < t
  · left
    have : (c + 1) % t = c % t + 1 := by
      have e : c + 1 = (c % t + 1) + t * (c / t) := by omega
      rw [e, Int.add_mul_emod_self_left, Int.emod_eq_of_lt (by omega) h]
    omega
  · right
    have : (c + 1) % t = 0 := by
      have e : c + 1 = 0 + t * (c / t + 1) := by rw [Int.mul_add]; omega
      rw [e, Int.add_mul_emod_self_left, Int.zero_emod]
    omega

theorem LP_one {f : Nat → Int} {k : Nat} (hk : k < 40) (h : ∀ j, j ≠ k → f j = 0) : LP f = if f k = 0 then [] else [⟨[Val.ofInt k], f k⟩] := by
  refine sorted_unique pR_irr pR_tr (LP_sorted f) (by split <;> simp) fun p => ?_
  rw [LP_mem]
  constructor
  · rintro ⟨i, hi, hne, rfl⟩
    by_cases hik : i = k
    · subst hik
      rw [if_neg hne]; simp
    · exact absurd (h i hik) hne
  · intro hp
    split at hp
    · cases hp
    · rename_i hne
      exact ⟨k, hk, hne, by simpa using hp⟩

theorem set_getD {l : List Int} {k j : Nat} {v : Int} (hk : k < l.length) : (l.set k v).getD j 0 = if j = k then v else l.getD j 0 := by
  rw [List.getD_eq_getElem?_getD, List.getD_eq_getElem?_getD]
  split
  · rename_i h; subst h; rw [List.getElem?_set_self hk]; rfl
  · rw [List.getElem?_set_ne (by omega)]

theorem gv_congr {thr : Int} {us vs : List Int} {i : Nat} (h : us.getD i 0 = vs.getD i 0) : gv thr us i = gv thr vs i := by
  unfold gv pubG; rw [h]

theorem lawSingle_c (n : Int) (counts : List Int) (at_ : Int) : PCall Try.prog 8 [.one (.lit (.int .i64 n)), .one (intsD counts), .one (.lit (.int .i64 at_))] (.v (.one (.lit (.bool true)))) := by
  obtain ⟨hl1, hl2⟩ := lim_bd n
  by_cases h0 : counts.length = 0
  · refine pcallS hT Try.func8 rfl (by kernel_rfl) _ [.tmp 6] Try.ntmps8 rfl rfl (by repeat' (first | exact nfNil rfl | apply nfCons (a := ((_, SVal.c _) : Nat × SVal)) rfl | apply nfCons (a := ((_, SVal.agg _) : Nat × SVal)) rfl)) fun B => ?_
    repeat' (first | (with_reducible (first | refine k_seq ?_ | refine k_block ?_ | refine k_skip ?_ | refine k_exit ?_ | refine k_ret ?_ | refine n_seq ?_ | refine n_block ?_ | refine e_seq ?_ | refine e_here ?_ | refine r_seq ?_ | refine r_block ?_ | refine o_exit ?_ | refine o_ret ?_)) | ((with_reducible refine is_region ?_); refine s_reg ?_) | ((with_reducible refine is_cond ?_); first | refine s_ifT ?_ | refine s_ifF ?_ | refine s_if rfl (fun hb => ?_) (fun hb => ?_)) | ((with_reducible refine is_exit ?_); refine s_past ?_) | ((with_reducible refine is_end ?_); first | refine r_end ?_ | refine s_endD ?_) | ((with_reducible refine is_guard ?_); first | refine s_skipS ?_ | refine s_skipU ?_ | refine s_skipN ?_ | refine s_skipUN ?_) | ((with_reducible refine is_move ?_); (first | refine s_move ?_ | fail)) | ((with_reducible refine is_assign ?_); (first | refine s_assign ?_ | fail)) | ((with_reducible refine is_bin ?_); (first | refine s_int ?_ | refine s_str ?_ | refine s_eqB ?_ | refine s_neB ?_ | refine s_eqA ?_ | refine s_neA ?_ | refine s_shr ?_ | refine s_shl ?_ | refine s_or ?_ | refine s_xor ?_ | refine s_eqNil (fun b hnil => ?_) | fail)) | ((with_reducible refine is_load ?_); (first | refine s_loadF1 ?_ | refine s_loadB1 ?_ | refine s_loadFA ?_ | refine s_loadBA ?_ | fail)) | ((with_reducible refine is_index ?_); (first | refine s_indexD ?_ (hel := (by first | exact rfl)) | refine s_indexA ?_ | refine s_indexVF ?_ | refine s_indexVB ?_ | fail)) | ((with_reducible refine is_field ?_); (first | refine s_fieldF ?_ | refine s_fieldB ?_ | refine s_fieldA ?_ | fail)) | ((with_reducible refine is_call ?_); (first | refine s_call (awake_c) ?_ | fail)) | ((with_reducible refine is_pick ?_); (first | refine s_pick ?_ | refine s_pickB ?_ | fail)) | ((with_reducible refine is_built ?_); (first | refine s_lenD ?_ | refine s_lenE ?_ | refine s_lenS ?_ | refine s_lenA ?_ | refine s_appE ?_ | refine s_appA ?_ | refine s_min ?_ | refine s_max ?_ | fail)) | ((with_reducible refine is_store ?_); (first | refine s_storeB ?_ | fail)) | ((with_reducible refine is_bslice ?_); (first | refine s_bslice0 ?_ | refine s_bslice ?_ | fail)) | ((with_reducible refine is_alloc ?_); (first | refine s_alloc ?_ | fail)) | ((with_reducible refine is_conv ?_); (first | refine s_conv ?_ | refine s_convSB ?_ | refine s_convBSd ?_ | refine s_convBSa ?_ | fail)) | ((with_reducible refine is_guard ?_); first | refine s_kT ?_ | refine s_kF ?_ | refine s_split rfl rfl (fun hb => ?_) (fun hb => ?_)) | ((with_reducible refine is_fin ?_); first | refine f_ret1 def_nil ?_ | refine f_ret2 def_nil ?_ ?_ | refine f_ret3 def_nil ?_ ?_ ?_ | refine f_end1 def_nil ?_) | ((with_reducible refine is_res ?_); first | refine t_tmp ?_ | refine t_tmpE ?_ | refine t_tmpA rfl rfl ?_ ?_ | refine d_tmpG rfl ?_ | refine t_cell (P := Try.prog) ?_ | refine t_cellG ?_) | ((with_reducible refine is_cfs ?_); first | exact cfs_nil | refine cfs_cons ?_ ?_) | ((with_reducible refine is_cf ?_); first | refine cf_d ?_ | refine cf_emp ?_ | refine cf_arr rfl ?_ ?_))
    all_goals rfl
  by_cases h4 : 40 < counts.length
  · refine pcallS hT Try.func8 rfl (by kernel_rfl) _ [.tmp 6] Try.ntmps8 rfl rfl (by repeat' (first | exact nfNil rfl | apply nfCons (a := ((_, SVal.c _) : Nat × SVal)) rfl | apply nfCons (a := ((_, SVal.agg _) : Nat × SVal)) rfl)) fun B => ?_
    repeat' (first | (with_reducible (first | refine k_seq ?_ | refine k_block ?_ | refine k_skip ?_ | refine k_exit ?_ | refine k_ret ?_ | refine n_seq ?_ | refine n_block ?_ | refine e_seq ?_ | refine e_here ?_ | refine r_seq ?_ | refine r_block ?_ | refine o_exit ?_ | refine o_ret ?_)) | ((with_reducible refine is_region ?_); refine s_reg ?_) | ((with_reducible refine is_cond ?_); first | refine s_ifT ?_ | refine s_ifF ?_ | refine s_if rfl (fun hb => ?_) (fun hb => ?_)) | ((with_reducible refine is_exit ?_); refine s_past ?_) | ((with_reducible refine is_end ?_); first | refine r_end ?_ | refine s_endD ?_) | ((with_reducible refine is_guard ?_); first | refine s_skipS ?_ | refine s_skipU ?_ | refine s_skipN ?_ | refine s_skipUN ?_) | ((with_reducible refine is_move ?_); (first | refine s_move ?_ | fail)) | ((with_reducible refine is_assign ?_); (first | refine s_assign ?_ | fail)) | ((with_reducible refine is_bin ?_); (first | refine s_int ?_ | refine s_str ?_ | refine s_eqB ?_ | refine s_neB ?_ | refine s_eqA ?_ | refine s_neA ?_ | refine s_shr ?_ | refine s_shl ?_ | refine s_or ?_ | refine s_xor ?_ | refine s_eqNil (fun b hnil => ?_) | fail)) | ((with_reducible refine is_load ?_); (first | refine s_loadF1 ?_ | refine s_loadB1 ?_ | refine s_loadFA ?_ | refine s_loadBA ?_ | fail)) | ((with_reducible refine is_index ?_); (first | refine s_indexD ?_ (hel := (by first | exact rfl)) | refine s_indexA ?_ | refine s_indexVF ?_ | refine s_indexVB ?_ | fail)) | ((with_reducible refine is_field ?_); (first | refine s_fieldF ?_ | refine s_fieldB ?_ | refine s_fieldA ?_ | fail)) | ((with_reducible refine is_call ?_); (first | refine s_call (awake_c) ?_ | fail)) | ((with_reducible refine is_pick ?_); (first | refine s_pick ?_ | refine s_pickB ?_ | fail)) | ((with_reducible refine is_built ?_); (first | refine s_lenD ?_ | refine s_lenE ?_ | refine s_lenS ?_ | refine s_lenA ?_ | refine s_appE ?_ | refine s_appA ?_ | refine s_min ?_ | refine s_max ?_ | fail)) | ((with_reducible refine is_store ?_); (first | refine s_storeB ?_ | fail)) | ((with_reducible refine is_bslice ?_); (first | refine s_bslice0 ?_ | refine s_bslice ?_ | fail)) | ((with_reducible refine is_alloc ?_); (first | refine s_alloc ?_ | fail)) | ((with_reducible refine is_conv ?_); (first | refine s_conv ?_ | refine s_convSB ?_ | refine s_convBSd ?_ | refine s_convBSa ?_ | fail)) | ((with_reducible refine is_guard ?_); first | refine s_kT ?_ | refine s_kF ?_ | refine s_split rfl rfl (fun hb => ?_) (fun hb => ?_)) | ((with_reducible refine is_fin ?_); first | refine f_ret1 def_nil ?_ | refine f_ret2 def_nil ?_ ?_ | refine f_ret3 def_nil ?_ ?_ ?_ | refine f_end1 def_nil ?_) | ((with_reducible refine is_res ?_); first | refine t_tmp ?_ | refine t_tmpE ?_ | refine t_tmpA rfl rfl ?_ ?_ | refine d_tmpG rfl ?_ | refine t_cell (P := Try.prog) ?_ | refine t_cellG ?_) | ((with_reducible refine is_cfs ?_); first | exact cfs_nil | refine cfs_cons ?_ ?_) | ((with_reducible refine is_cf ?_); first | refine cf_d ?_ | refine cf_emp ?_ | refine cf_arr rfl ?_ ?_))
    all_goals rfl
  have hul : IntKind.u64.wrap (counts.length : Int) = counts.length := u64_small (by omega) (by omega)
  have hk0 : 0 ≤ (IntKind.u64.wrap at_).tmod (IntKind.u64.wrap (counts.length : Int)) ∧ (IntKind.u64.wrap at_).tmod (IntKind.u64.wrap (counts.length : Int)) < counts.length := by
    rw [hul, Int.tmod_eq_emod_of_nonneg (u64_nn at_)]
    exact ⟨Int.emod_nonneg _ (by omega), Int.emod_lt_of_pos _ (by omega)⟩
  refine pcallS hT Try.func8 rfl (by kernel_rfl) _ [.tmp 6] Try.ntmps8 rfl rfl (by repeat' (first | exact nfNil rfl | apply nfCons (a := ((_, SVal.c _) : Nat × SVal)) rfl | apply nfCons (a := ((_, SVal.agg _) : Nat × SVal)) rfl)) fun B => ?_
  repeat' (first | (with_reducible (first | refine k_seq ?_ | refine k_block ?_ | refine k_skip ?_ | refine k_exit ?_ | refine k_ret ?_ | refine n_seq ?_ | refine n_block ?_ | refine e_seq ?_ | refine e_here ?_ | refine r_seq ?_ | refine r_block ?_ | refine o_exit ?_ | refine o_ret ?_)) | ((with_reducible refine is_region ?_); refine s_reg ?_) | ((with_reducible refine is_cond ?_); first | refine s_ifT ?_ | refine s_ifF ?_ | refine s_if rfl (fun hb => ?_) (fun hb => ?_)) | ((with_reducible refine is_exit ?_); refine s_past ?_) | ((with_reducible refine is_end ?_); first | refine r_end ?_ | refine s_endD ?_) | ((with_reducible refine is_guard ?_); first | refine s_skipS ?_ | refine s_skipU ?_ | refine s_skipN ?_ | refine s_skipUN ?_) | ((with_reducible refine is_move ?_); (first | refine s_move ?_ | fail)) | ((with_reducible refine is_assign ?_); (first | refine s_assign ?_ | fail)) | ((with_reducible refine is_bin ?_); (first | refine s_int ?_ | refine s_str ?_ | refine s_eqB ?_ | refine s_neB ?_ | refine s_eqA ?_ | refine s_neA ?_ | refine s_shr ?_ | refine s_shl ?_ | refine s_or ?_ | refine s_xor ?_ | refine s_eqNil (fun b hnil => ?_) | fail)) | ((with_reducible refine is_load ?_); (first | refine s_loadF1 ?_ | refine s_loadB1 ?_ | refine s_loadFA ?_ | refine s_loadBA ?_ | fail)) | ((with_reducible refine is_index ?_); (first | refine s_indexD ?_ (hel := (by first | exact rfl)) | refine s_indexA ?_ | refine s_indexVF ?_ | refine s_indexVB ?_ | fail)) | ((with_reducible refine is_field ?_); (first | refine s_fieldF ?_ | refine s_fieldB ?_ | refine s_fieldA ?_ | fail)) | ((with_reducible refine is_call ?_); (first | refine s_call (limit_c _) ?_ | fail)) | ((with_reducible refine is_pick ?_); (first | refine s_pick ?_ | refine s_pickB ?_ | fail)) | ((with_reducible refine is_built ?_); (first | refine s_lenD ?_ | refine s_lenE ?_ | refine s_lenS ?_ | refine s_lenA ?_ | refine s_appE ?_ | refine s_appA ?_ | refine s_min ?_ | refine s_max ?_ | fail)) | ((with_reducible refine is_store ?_); (first | refine s_storeB ?_ | fail)) | ((with_reducible refine is_bslice ?_); (first | refine s_bslice0 ?_ | refine s_bslice ?_ | fail)) | ((with_reducible refine is_alloc ?_); (first | refine s_alloc ?_ | fail)) | ((with_reducible refine is_conv ?_); (first | refine s_conv ?_ | refine s_convSB ?_ | refine s_convBSd ?_ | refine s_convBSa ?_ | fail)) | ((with_reducible refine is_guard ?_); first | refine s_kT ?_ | refine s_kF ?_ | refine s_split rfl rfl (fun hb => ?_) (fun hb => ?_)) | ((with_reducible refine is_fin ?_); first | refine f_ret1 def_nil ?_ | refine f_ret2 def_nil ?_ ?_ | refine f_ret3 def_nil ?_ ?_ ?_ | refine f_end1 def_nil ?_) | ((with_reducible refine is_res ?_); first | refine t_tmp ?_ | refine t_tmpE ?_ | refine t_tmpA rfl rfl ?_ ?_ | refine d_tmpG rfl ?_ | refine t_cell (P := Try.prog) ?_ | refine t_cellG ?_) | ((with_reducible refine is_cfs ?_); first | exact cfs_nil | refine cfs_cons ?_ ?_) | ((with_reducible refine is_cf ?_); first | refine cf_d ?_ | refine cf_emp ?_ | refine cf_arr rfl ?_ ?_))
  clear hul
  generalize (IntKind.u64.wrap at_).tmod (IntKind.u64.wrap (counts.length : Int)) = K at hk0 ⊢
  obtain ⟨k, rfl⟩ := Int.eq_ofNat_of_zero_le hk0.1
  have hkl : k < counts.length := by omega
  have hv : counts[k]? = some counts[k] := List.getElem?_eq_getElem hkl
  generalize counts[k] = a at hv
  have hm : 0 ≤ andInt .i64 a 511 ∧ andInt .i64 a 511 ≤ 511 := and_mask a 511 (by omega)
  have hv1 : (counts.map intD)[k]? = some (intD a) := by rw [List.getElem?_map, hv]; rfl
  have f9 : List.take counts.length ((counts.map intD).set k (intD (andInt .i64 a 511 + 1))) = (counts.set k (andInt .i64 a 511 + 1)).map intD := by
    rw [List.map_set]; exact take_ge (by simp)
  have f10 : List.take counts.length ((counts.map intD).set k (intD (andInt .i64 a 511))) = (counts.set k (andInt .i64 a 511)).map intD := by
    rw [List.map_set]; exact take_ge (by simp)
  have e1 := publish_groups (limR n) hl1 (counts.set k (andInt .i64 a 511))
  have e2 := publish_groups (limR n) hl1 (counts.set k (andInt .i64 a 511 + 1))
  rw [show (limR n).thr = lim n from rfl, pubsG_LP _ hl1] at e1 e2
  have p1 := publish_c (limR n) 1 (groups (counts.set k (andInt .i64 a 511)))
  have p2 := publish_c (limR n) 1 (groups (counts.set k (andInt .i64 a 511 + 1)))
  rw [e1] at p1
  rw [e2] at p2
  have sf := gv_small (lim n) hl1 (counts.set k (andInt .i64 a 511))
  have sg := gv_small (lim n) hl1 (counts.set k (andInt .i64 a 511 + 1))
  have hne : ∀ j, j ≠ k → gv (lim n) (counts.set k (andInt .i64 a 511 + 1)) j - gv (lim n) (counts.set k (andInt .i64 a 511)) j = 0 := fun j hj => by
    rw [gv_congr (us := counts.set k (andInt .i64 a 511 + 1)) (vs := counts.set k (andInt .i64 a 511)) (i := j) (by rw [set_getD hkl, set_getD hkl, if_neg hj, if_neg hj])]
    omega
  have hst : gv (lim n) (counts.set k (andInt .i64 a 511 + 1)) k - gv (lim n) (counts.set k (andInt .i64 a 511)) k = 0 ∨ gv (lim n) (counts.set k (andInt .i64 a 511 + 1)) k - gv (lim n) (counts.set k (andInt .i64 a 511)) k = lim n := by
    have g1 := gv_eq (lim n) hl1 (counts.set k (andInt .i64 a 511 + 1)) k (by rw [set_getD hkl, if_pos rfl]; omega)
    have g2 := gv_eq (lim n) hl1 (counts.set k (andInt .i64 a 511)) k (by rw [set_getD hkl, if_pos rfl]; omega)
    rw [set_getD hkl, if_pos rfl] at g1 g2
    rw [g1, g2]
    exact step_mod _ _ hm.1 hl1
  generalize gv (lim n) (counts.set k (andInt .i64 a 511)) = f at *
  generalize gv (lim n) (counts.set k (andInt .i64 a 511 + 1)) = g at *
  have hd := differences_c (LP f) (LP g) (Nat.le_trans (LP_len f) (by omega)) (Nat.le_trans (LP_len g) (by omega)) (LP_keys f) (LP_keys g)
  rw [diff_LP sf sg, LP_one (show k < 40 by omega) hne] at hd
  by_cases hz : g k - f k = 0
  · rw [if_pos hz] at hd
    repeat' (first | refine s_freeze 9 ?_ (hes := f9) | refine s_freeze 10 ?_ (hes := f10) | (with_reducible (first | refine k_seq ?_ | refine k_block ?_ | refine k_skip ?_ | refine k_exit ?_ | refine k_ret ?_ | refine n_seq ?_ | refine n_block ?_ | refine e_seq ?_ | refine e_here ?_ | refine r_seq ?_ | refine r_block ?_ | refine o_exit ?_ | refine o_ret ?_)) | ((with_reducible refine is_region ?_); refine s_reg ?_) | ((with_reducible refine is_cond ?_); first | refine s_ifT ?_ | refine s_ifF ?_ | refine s_if rfl (fun hb => ?_) (fun hb => ?_)) | ((with_reducible refine is_exit ?_); refine s_past ?_) | ((with_reducible refine is_end ?_); first | refine r_end ?_ | refine s_endD ?_) | ((with_reducible refine is_guard ?_); first | refine s_skipS ?_ | refine s_skipU ?_ | refine s_skipN ?_ | refine s_skipUN ?_) | ((with_reducible refine is_move ?_); (first | refine s_move ?_ | fail)) | ((with_reducible refine is_assign ?_); (first | refine s_assign ?_ | fail)) | ((with_reducible refine is_bin ?_); (first | refine s_int ?_ | refine s_str ?_ | refine s_eqB ?_ | refine s_neB ?_ | refine s_eqA ?_ | refine s_neA ?_ | refine s_shr ?_ | refine s_shl ?_ | refine s_or ?_ | refine s_xor ?_ | refine s_eqNil (fun b hnil => ?_) | fail)) | ((with_reducible refine is_load ?_); (first | refine s_loadF1 ?_ | refine s_loadB1 ?_ | refine s_loadFA ?_ | refine s_loadBA ?_ | refine s_loadA1 ?_ (he' := (by first | exact rfl | exact hv | exact hv1)) | refine s_loadAA ?_ (he' := (by first | exact rfl | exact hv | exact hv1)) | fail)) | ((with_reducible refine is_index ?_); (first | refine s_indexD ?_ (hel := (by first | exact rfl | exact idx_map hv (by omega) | exact idx_map hv1 (by omega) | exact hv | exact hv1)) | refine s_indexA ?_ | refine s_indexVF ?_ | refine s_indexVB ?_ | fail)) | ((with_reducible refine is_field ?_); (first | refine s_fieldF ?_ | refine s_fieldB ?_ | refine s_fieldA ?_ | fail)) | ((with_reducible refine is_call ?_); (first | refine s_call (groups_c _) ?_ | refine s_call (p1) ?_ | refine s_call (p2) ?_ | refine s_call (hd) ?_ | refine s_call (awake_c) ?_ | fail)) | ((with_reducible refine is_pick ?_); (first | refine s_pick ?_ | refine s_pickB ?_ | fail)) | ((with_reducible refine is_built ?_); (first | refine s_lenD ?_ | refine s_lenE ?_ | refine s_lenS ?_ | refine s_lenA ?_ | refine s_appE ?_ | refine s_appA ?_ | refine s_min ?_ | refine s_max ?_ | fail)) | ((with_reducible refine is_store ?_); (first | refine s_storeB ?_ | refine s_storeA ?_ (hj := (by first | exact rfl | exact hv | exact hv1)) | fail)) | ((with_reducible refine is_bslice ?_); (first | refine s_bslice0 ?_ | refine s_bslice ?_ | fail)) | ((with_reducible refine is_alloc ?_); (first | refine s_alloc ?_ | fail)) | ((with_reducible refine is_conv ?_); (first | refine s_conv ?_ | refine s_convSB ?_ | refine s_convBSd ?_ | refine s_convBSa ?_ | fail)) | ((with_reducible refine is_guard ?_); first | refine s_kT ?_ | refine s_kF ?_ | refine s_split rfl rfl (fun hb => ?_) (fun hb => ?_)) | ((with_reducible refine is_fin ?_); first | refine f_ret1 def_nil ?_ | refine f_ret2 def_nil ?_ ?_ | refine f_ret3 def_nil ?_ ?_ ?_ | refine f_end1 def_nil ?_) | ((with_reducible refine is_res ?_); first | refine t_tmp ?_ | refine t_tmpE ?_ | refine t_tmpA rfl rfl ?_ ?_ | refine d_tmpG rfl ?_ | refine t_cell (P := Try.prog) ?_ | refine t_cellG ?_) | ((with_reducible refine is_cfs ?_); first | exact cfs_nil | refine cfs_cons ?_ ?_) | ((with_reducible refine is_cf ?_); first | refine cf_d ?_ | refine cf_emp ?_ | refine cf_arr rfl ?_ ?_))
    rfl
  · rw [if_neg hz, hst.resolve_left hz] at hd
    have hlr := lits_refl (Val.ofInt k)
    repeat' (first | refine s_freeze 9 ?_ (hes := f9) | refine s_freeze 10 ?_ (hes := f10) | (with_reducible (first | refine k_seq ?_ | refine k_block ?_ | refine k_skip ?_ | refine k_exit ?_ | refine k_ret ?_ | refine n_seq ?_ | refine n_block ?_ | refine e_seq ?_ | refine e_here ?_ | refine r_seq ?_ | refine r_block ?_ | refine o_exit ?_ | refine o_ret ?_)) | ((with_reducible refine is_region ?_); refine s_reg ?_) | ((with_reducible refine is_cond ?_); first | refine s_ifT ?_ | refine s_ifF ?_ | refine s_if rfl (fun hb => ?_) (fun hb => ?_)) | ((with_reducible refine is_exit ?_); refine s_past ?_) | ((with_reducible refine is_end ?_); first | refine r_end ?_ | refine s_endD ?_) | ((with_reducible refine is_guard ?_); first | refine s_skipS ?_ | refine s_skipU ?_ | refine s_skipN ?_ | refine s_skipUN ?_) | ((with_reducible refine is_move ?_); (first | refine s_move ?_ | fail)) | ((with_reducible refine is_assign ?_); (first | refine s_assign ?_ | fail)) | ((with_reducible refine is_bin ?_); (first | refine s_int ?_ | refine s_str ?_ | refine s_eqB ?_ | refine s_neB ?_ | refine s_eqA ?_ | refine s_neA ?_ | refine s_shr ?_ | refine s_shl ?_ | refine s_or ?_ | refine s_xor ?_ | refine s_eqNil (fun b hnil => ?_) | fail)) | ((with_reducible refine is_load ?_); (first | refine s_loadF1 ?_ | refine s_loadB1 ?_ | refine s_loadFA ?_ | refine s_loadBA ?_ | refine s_loadA1 ?_ (he' := (by first | exact rfl | exact hv | exact hv1)) | refine s_loadAA ?_ (he' := (by first | exact rfl | exact hv | exact hv1)) | fail)) | ((with_reducible refine is_index ?_); (first | refine s_indexD ?_ (hel := (by first | exact rfl | exact idx_map hv (by omega) | exact idx_map hv1 (by omega) | exact hv | exact hv1)) | refine s_indexA ?_ | refine s_indexVF ?_ | refine s_indexVB ?_ | fail)) | ((with_reducible refine is_field ?_); (first | refine s_fieldF ?_ | refine s_fieldB ?_ | refine s_fieldA ?_ | fail)) | ((with_reducible refine is_call ?_); (first | refine s_call (groups_c _) ?_ | refine s_call (p1) ?_ | refine s_call (p2) ?_ | refine s_call (hd) ?_ | refine s_call (awake_c) ?_ | refine s_call (refInt_c _) ?_ | fail)) | ((with_reducible refine is_pick ?_); (first | refine s_pick ?_ | refine s_pickB ?_ | fail)) | ((with_reducible refine is_built ?_); (first | refine s_lenD ?_ | refine s_lenE ?_ | refine s_lenS ?_ | refine s_lenA ?_ | refine s_appE ?_ | refine s_appA ?_ | refine s_min ?_ | refine s_max ?_ | fail)) | ((with_reducible refine is_store ?_); (first | refine s_storeB ?_ | refine s_storeA ?_ (hj := (by first | exact rfl | exact hv | exact hv1)) | fail)) | ((with_reducible refine is_bslice ?_); (first | refine s_bslice0 ?_ | refine s_bslice ?_ | fail)) | ((with_reducible refine is_alloc ?_); (first | refine s_alloc ?_ | fail)) | ((with_reducible refine is_conv ?_); (first | refine s_conv ?_ | refine s_convSB ?_ | refine s_convBSd ?_ | refine s_convBSa ?_ | fail)) | ((with_reducible refine is_guard ?_); first | refine s_kT ?_ | refine s_kF ?_ | refine s_split rfl rfl (fun hb => ?_) (fun hb => ?_)) | ((with_reducible refine is_fin ?_); first | refine f_ret1 def_nil ?_ | refine f_ret2 def_nil ?_ ?_ | refine f_ret3 def_nil ?_ ?_ ?_ | refine f_end1 def_nil ?_) | ((with_reducible refine is_res ?_); first | refine t_tmp ?_ | refine t_tmpE ?_ | refine t_tmpA rfl rfl ?_ ?_ | refine d_tmpG rfl ?_ | refine t_cell (P := Try.prog) ?_ | refine t_cellG ?_) | ((with_reducible refine is_cfs ?_); first | exact cfs_nil | refine cfs_cons ?_ ?_) | ((with_reducible refine is_cf ?_); first | refine cf_d ?_ | refine cf_emp ?_ | refine cf_arr rfl ?_ ?_))
    · rfl
    · exact absurd rfl hb
end Go.Proofs.Ytlacmjfgaehhkaa
