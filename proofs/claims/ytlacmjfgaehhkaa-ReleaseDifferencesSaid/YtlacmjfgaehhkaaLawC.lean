/-
  ReleaseKeys and ReleaseHides.
-/
import Derived.Test.YtlacmjfgaehhkaaLawB
namespace Go.Proofs.Ytlacmjfgaehhkaa
open Go.Abs Go.RowKit
attribute [local irreducible] ARun kont MCall PCall HCall resVal SF CF CFs defersOk slotsIn memIn fin finM VLe
set_option linter.unusedSimpArgs false
set_option maxRecDepth 100000
set_option maxHeartbeats 4000000

theorem clean_clean (v : Val) : v.clean.clean = v.clean := by
  conv => lhs; rw [Val.clean]
  rw [if_pos (clean_valid v)]

theorem map_clean_clean (r : List Val) : (r.map Val.clean).map Val.clean = r.map Val.clean := by
  rw [List.map_map]; exact List.map_congr_left fun v _ => clean_clean v

theorem bagValid_one (row : List Val) (c : Int) (hl : row.length ≤ 16) (hv : ∀ v ∈ row, v.valid = true) (hc : c = 1 ∨ c = 2) : bagValid [⟨row, c⟩] = true := by
  have h1 : rowOK row = true := by
    simp only [rowOK, Bool.and_eq_true, decide_eq_true_eq, List.all_eq_true]; exact ⟨hl, hv⟩
  rcases hc with rfl | rfl <;> simp [bagValid, goodFrom, Entry.ok, h1, countOK]

/-- What is published of one row. -/
theorem pub_one (ks tail : List Val) (n : Int) (hk : ks.length ≤ 7) (ht : tail.length ≤ 7) (hv : ∀ v ∈ tail, v.valid = true) : publishAll ⟨⟨#[]⟩, ⟨#[]⟩, 10⟩ ks.length [⟨ks.map Val.clean ++ Val.ofInt (cnt n) :: tail, 1⟩] = if 10 ≤ cnt n then [⟨ks.map Val.clean, cnt n - (cnt n).tmod 10⟩] else [] := by
  have hb := cnt_bd n
  have hval : bagValid [⟨ks.map Val.clean ++ Val.ofInt (cnt n) :: tail, 1⟩] = true := by
    refine bagValid_one _ _ (by simp; omega) (fun v hm => ?_) (.inl rfl)
    rcases List.mem_append.1 hm with hm | hm
    · obtain ⟨u, _, rfl⟩ := List.mem_map.1 hm; exact clean_valid u
    · rcases List.mem_cons.1 hm with rfl | hm
      · exact ofInt_valid _
      · exact hv v hm
  rw [publishAll, if_pos ⟨by decide, by omega, hval⟩, Int.toNat_natCast, publish, List.filterMap_cons, List.filterMap_nil]
  have hg : (ks.map Val.clean ++ Val.ofInt (cnt n) :: tail)[ks.length]? = some (Val.ofInt (cnt n)) := by
    rw [List.getElem?_append_right (by simp)]; simp
  have htk : ((ks.map Val.clean ++ Val.ofInt (cnt n) :: tail).take ks.length).map Val.clean = ks.map Val.clean := by
    rw [List.take_append_of_le_length (by simp), take_ge (by simp), map_clean_clean]
  simp only [pub1, if_true, hg, htk]
  rw [ofInt_eq (show -4294967296 ≤ cnt n by omega) (by omega)]
  by_cases h10 : 10 ≤ cnt n
  · simp [h10]
  · simp [h10]

theorem pub_two (ks : List Val) (n : Int) (row : List Val) : publishAll ⟨⟨#[]⟩, ⟨#[]⟩, 10⟩ ks.length [⟨row, 2⟩] = [] := by
  rw [publishAll]
  split
  · simp [publish, List.filterMap_cons, pub1]
  · rfl

theorem lawKeys_c (keys : List Val) (n : Int) (more : List Val) : PCall Try.prog 6 [.one (rowD keys), .one (.lit (.int .i64 n)), .one (rowD more)] (.v (.one (.lit (.bool true)))) := by
  by_cases hk : keys.length ≤ 7 ∧ more.length ≤ 7
  · obtain ⟨hk, hm⟩ := hk
    have hb := cnt_bd n
    have c1 := cleanRow_c keys (by omega)
    have c2 := cleanRow_c more (by omega)
    have p1 := publish_c ⟨⟨#[]⟩, ⟨#[]⟩, 10⟩ keys.length [⟨keys.map Val.clean ++ [Val.ofInt (cnt n)], 1⟩]
    have p2 := publish_c ⟨⟨#[]⟩, ⟨#[]⟩, 10⟩ keys.length [⟨keys.map Val.clean ++ [Val.ofInt (cnt n)] ++ more.map Val.clean, 1⟩]
    have p3 := publish_c ⟨⟨#[]⟩, ⟨#[]⟩, 10⟩ keys.length [⟨keys.map Val.clean ++ [Val.ofInt (cnt n)], 2⟩]
    rw [pub_one keys [] n hk (by simp) (by simp)] at p1
    rw [List.append_assoc, List.singleton_append, pub_one keys (more.map Val.clean) n hk (by simpa using hm) (fun v hv => by obtain ⟨u, _, rfl⟩ := List.mem_map.1 hv; exact clean_valid u)] at p2
    rw [pub_two keys n] at p3
    have s1 := sameRow_c (keys.map Val.clean) (keys.map Val.clean)
    rw [sameRow_refl] at s1
    have s2 := same35_c [⟨keys.map Val.clean, cnt n - (cnt n).tmod 10⟩] [⟨keys.map Val.clean, cnt n - (cnt n).tmod 10⟩]
    rw [samePub_refl] at s2
    have f7 : List.take ((keys.map Val.clean).length + [(Val.ofInt (cnt n)).d].length) ((keys.map Val.clean).map Val.d ++ [(Val.ofInt (cnt n)).d]) = (keys.map Val.clean ++ [Val.ofInt (cnt n)]).map Val.d := by
      rw [List.map_append]; exact take_ge (by simp; try omega)
    have f8 : List.take ((keys.map Val.clean ++ [Val.ofInt (cnt n)]).length + ((more.map Val.clean).map Val.d).length) ((keys.map Val.clean ++ [Val.ofInt (cnt n)]).map Val.d ++ (more.map Val.clean).map Val.d) = (keys.map Val.clean ++ Val.ofInt (cnt n) :: more.map Val.clean).map Val.d := by
      rw [← List.map_append, List.append_assoc, List.singleton_append]; exact take_ge (by simp; try omega)
    by_cases h10 : 10 ≤ cnt n
    · rw [if_pos h10] at p1 p2
      refine pcallS hT Try.func6 rfl (by kernel_rfl) _ [.tmp 6] Try.ntmps6 rfl rfl (by repeat' (first | exact nfNil rfl | apply nfCons (a := ((_, SVal.c _) : Nat × SVal)) rfl | apply nfCons (a := ((_, SVal.agg _) : Nat × SVal)) rfl)) fun B => ?_
      repeat' (first | refine s_freeze 7 ?_ (hes := f7) | refine s_freeze 8 ?_ (hes := f8) | (with_reducible (first | refine k_seq ?_ | refine k_block ?_ | refine k_skip ?_ | refine k_exit ?_ | refine k_ret ?_ | refine n_seq ?_ | refine n_block ?_ | refine e_seq ?_ | refine e_here ?_ | refine r_seq ?_ | refine r_block ?_ | refine o_exit ?_ | refine o_ret ?_)) | ((with_reducible refine is_region ?_); refine s_reg ?_) | ((with_reducible refine is_cond ?_); first | refine s_ifT ?_ | refine s_ifF ?_ | refine s_if rfl (fun hb => ?_) (fun hb => ?_)) | ((with_reducible refine is_exit ?_); refine s_past ?_) | ((with_reducible refine is_end ?_); first | refine r_end ?_ | refine s_endD ?_) | ((with_reducible refine is_guard ?_); first | refine s_skipS ?_ | refine s_skipU ?_ | refine s_skipN ?_ | refine s_skipUN ?_) | ((with_reducible refine is_move ?_); (first | refine s_move ?_ | fail)) | ((with_reducible refine is_assign ?_); (first | refine s_assign ?_ | fail)) | ((with_reducible refine is_bin ?_); (first | refine s_int ?_ | refine s_str ?_ | refine s_eqB ?_ | refine s_neB ?_ | refine s_eqA ?_ | refine s_neA ?_ | refine s_shr ?_ | refine s_shl ?_ | refine s_or ?_ | refine s_xor ?_ | refine s_eqNil (fun b hnil => ?_) | fail)) | ((with_reducible refine is_load ?_); (first | refine s_loadF1 ?_ | refine s_loadB1 ?_ | refine s_loadFA ?_ | refine s_loadBA ?_ | fail)) | ((with_reducible refine is_index ?_); (first | refine s_indexD ?_ (hel := (by first | exact rfl)) | refine s_indexA ?_ | refine s_indexVF ?_ | refine s_indexVB ?_ | fail)) | ((with_reducible refine is_field ?_); (first | refine s_fieldF ?_ | refine s_fieldB ?_ | refine s_fieldA ?_ | fail)) | ((with_reducible refine is_call ?_); (first | refine s_call (c1) ?_ | refine s_call (c2) ?_ | refine s_call (refInt_c _) ?_ | refine s_call (p1) ?_ | refine s_call (p2) ?_ | refine s_call (p3) ?_ | refine s_call (s1) ?_ | refine s_call (s2) ?_ | refine s_call (awake_c) ?_ | fail)) | ((with_reducible refine is_pick ?_); (first | refine s_pick ?_ | refine s_pickB ?_ | fail)) | ((with_reducible refine is_built ?_); (first | refine s_lenD ?_ | refine s_lenE ?_ | refine s_lenS ?_ | refine s_lenA ?_ | refine s_appE ?_ | refine s_appA ?_ | refine s_min ?_ | refine s_max ?_ | fail)) | ((with_reducible refine is_store ?_); (first | refine s_storeB ?_ | fail)) | ((with_reducible refine is_bslice ?_); (first | refine s_bslice0 ?_ | refine s_bslice ?_ | fail)) | ((with_reducible refine is_alloc ?_); (first | refine s_alloc ?_ | fail)) | ((with_reducible refine is_build ?_); (first | refine s_build ?_ | fail)) | ((with_reducible refine is_guard ?_); first | refine s_kT ?_ | refine s_kF ?_ | refine s_split rfl rfl (fun hb => ?_) (fun hb => ?_)) | ((with_reducible refine is_fin ?_); first | refine f_ret1 def_nil ?_ | refine f_ret2 def_nil ?_ ?_ | refine f_ret3 def_nil ?_ ?_ ?_ | refine f_end1 def_nil ?_) | ((with_reducible refine is_res ?_); first | refine t_tmp ?_ | refine t_tmpE ?_ | refine t_tmpA rfl rfl ?_ ?_ | refine d_tmpG rfl ?_ | refine t_cell (P := Try.prog) ?_ | refine t_cellG ?_) | ((with_reducible refine is_cfs ?_); first | exact cfs_nil | refine cfs_cons ?_ ?_) | ((with_reducible refine is_cf ?_); first | refine cf_d ?_ | refine cf_emp ?_ | refine cf_arr rfl ?_ ?_))
      all_goals first | rfl | (exfalso; rename_i hb; exact h10 hb)
    · rw [if_neg h10] at p1 p2
      refine pcallS hT Try.func6 rfl (by kernel_rfl) _ [.tmp 6] Try.ntmps6 rfl rfl (by repeat' (first | exact nfNil rfl | apply nfCons (a := ((_, SVal.c _) : Nat × SVal)) rfl | apply nfCons (a := ((_, SVal.agg _) : Nat × SVal)) rfl)) fun B => ?_
      repeat' (first | refine s_freeze 7 ?_ (hes := f7) | refine s_freeze 8 ?_ (hes := f8) | (with_reducible (first | refine k_seq ?_ | refine k_block ?_ | refine k_skip ?_ | refine k_exit ?_ | refine k_ret ?_ | refine n_seq ?_ | refine n_block ?_ | refine e_seq ?_ | refine e_here ?_ | refine r_seq ?_ | refine r_block ?_ | refine o_exit ?_ | refine o_ret ?_)) | ((with_reducible refine is_region ?_); refine s_reg ?_) | ((with_reducible refine is_cond ?_); first | refine s_ifT ?_ | refine s_ifF ?_ | refine s_if rfl (fun hb => ?_) (fun hb => ?_)) | ((with_reducible refine is_exit ?_); refine s_past ?_) | ((with_reducible refine is_end ?_); first | refine r_end ?_ | refine s_endD ?_) | ((with_reducible refine is_guard ?_); first | refine s_skipS ?_ | refine s_skipU ?_ | refine s_skipN ?_ | refine s_skipUN ?_) | ((with_reducible refine is_move ?_); (first | refine s_move ?_ | fail)) | ((with_reducible refine is_assign ?_); (first | refine s_assign ?_ | fail)) | ((with_reducible refine is_bin ?_); (first | refine s_int ?_ | refine s_str ?_ | refine s_eqB ?_ | refine s_neB ?_ | refine s_eqA ?_ | refine s_neA ?_ | refine s_shr ?_ | refine s_shl ?_ | refine s_or ?_ | refine s_xor ?_ | refine s_eqNil (fun b hnil => ?_) | fail)) | ((with_reducible refine is_load ?_); (first | refine s_loadF1 ?_ | refine s_loadB1 ?_ | refine s_loadFA ?_ | refine s_loadBA ?_ | fail)) | ((with_reducible refine is_index ?_); (first | refine s_indexD ?_ (hel := (by first | exact rfl)) | refine s_indexA ?_ | refine s_indexVF ?_ | refine s_indexVB ?_ | fail)) | ((with_reducible refine is_field ?_); (first | refine s_fieldF ?_ | refine s_fieldB ?_ | refine s_fieldA ?_ | fail)) | ((with_reducible refine is_call ?_); (first | refine s_call (c1) ?_ | refine s_call (c2) ?_ | refine s_call (refInt_c _) ?_ | refine s_call (p1) ?_ | refine s_call (p2) ?_ | refine s_call (p3) ?_ | refine s_call (s1) ?_ | refine s_call (s2) ?_ | refine s_call (awake_c) ?_ | fail)) | ((with_reducible refine is_pick ?_); (first | refine s_pick ?_ | refine s_pickB ?_ | fail)) | ((with_reducible refine is_built ?_); (first | refine s_lenD ?_ | refine s_lenE ?_ | refine s_lenS ?_ | refine s_lenA ?_ | refine s_appE ?_ | refine s_appA ?_ | refine s_min ?_ | refine s_max ?_ | fail)) | ((with_reducible refine is_store ?_); (first | refine s_storeB ?_ | fail)) | ((with_reducible refine is_bslice ?_); (first | refine s_bslice0 ?_ | refine s_bslice ?_ | fail)) | ((with_reducible refine is_alloc ?_); (first | refine s_alloc ?_ | fail)) | ((with_reducible refine is_build ?_); (first | refine s_build ?_ | fail)) | ((with_reducible refine is_guard ?_); first | refine s_kT ?_ | refine s_kF ?_ | refine s_split rfl rfl (fun hb => ?_) (fun hb => ?_)) | ((with_reducible refine is_fin ?_); first | refine f_ret1 def_nil ?_ | refine f_ret2 def_nil ?_ ?_ | refine f_ret3 def_nil ?_ ?_ ?_ | refine f_end1 def_nil ?_) | ((with_reducible refine is_res ?_); first | refine t_tmp ?_ | refine t_tmpE ?_ | refine t_tmpA rfl rfl ?_ ?_ | refine d_tmpG rfl ?_ | refine t_cell (P := Try.prog) ?_ | refine t_cellG ?_) | ((with_reducible refine is_cfs ?_); first | exact cfs_nil | refine cfs_cons ?_ ?_) | ((with_reducible refine is_cf ?_); first | refine cf_d ?_ | refine cf_emp ?_ | refine cf_arr rfl ?_ ?_))
      all_goals first | rfl | (exfalso; rename_i hb; exact h10 hb)
  · refine pcallS hT Try.func6 rfl (by kernel_rfl) _ [.tmp 6] Try.ntmps6 rfl rfl (by repeat' (first | exact nfNil rfl | apply nfCons (a := ((_, SVal.c _) : Nat × SVal)) rfl | apply nfCons (a := ((_, SVal.agg _) : Nat × SVal)) rfl)) fun B => ?_
    repeat' (first | (with_reducible (first | refine k_seq ?_ | refine k_block ?_ | refine k_skip ?_ | refine k_exit ?_ | refine k_ret ?_ | refine n_seq ?_ | refine n_block ?_ | refine e_seq ?_ | refine e_here ?_ | refine r_seq ?_ | refine r_block ?_ | refine o_exit ?_ | refine o_ret ?_)) | ((with_reducible refine is_region ?_); refine s_reg ?_) | ((with_reducible refine is_cond ?_); first | refine s_ifT ?_ | refine s_ifF ?_ | refine s_if rfl (fun hb => ?_) (fun hb => ?_)) | ((with_reducible refine is_exit ?_); refine s_past ?_) | ((with_reducible refine is_end ?_); first | refine r_end ?_ | refine s_endD ?_) | ((with_reducible refine is_guard ?_); first | refine s_skipS ?_ | refine s_skipU ?_ | refine s_skipN ?_ | refine s_skipUN ?_) | ((with_reducible refine is_move ?_); (first | refine s_move ?_ | fail)) | ((with_reducible refine is_assign ?_); (first | refine s_assign ?_ | fail)) | ((with_reducible refine is_bin ?_); (first | refine s_int ?_ | refine s_str ?_ | refine s_eqB ?_ | refine s_neB ?_ | refine s_eqA ?_ | refine s_neA ?_ | refine s_shr ?_ | refine s_shl ?_ | refine s_or ?_ | refine s_xor ?_ | refine s_eqNil (fun b hnil => ?_) | fail)) | ((with_reducible refine is_load ?_); (first | refine s_loadF1 ?_ | refine s_loadB1 ?_ | refine s_loadFA ?_ | refine s_loadBA ?_ | fail)) | ((with_reducible refine is_index ?_); (first | refine s_indexD ?_ (hel := (by first | exact rfl)) | refine s_indexA ?_ | refine s_indexVF ?_ | refine s_indexVB ?_ | fail)) | ((with_reducible refine is_field ?_); (first | refine s_fieldF ?_ | refine s_fieldB ?_ | refine s_fieldA ?_ | fail)) | ((with_reducible refine is_call ?_); (first | refine s_call (awake_c) ?_ | fail)) | ((with_reducible refine is_pick ?_); (first | refine s_pick ?_ | refine s_pickB ?_ | fail)) | ((with_reducible refine is_built ?_); (first | refine s_lenD ?_ | refine s_lenE ?_ | refine s_lenS ?_ | refine s_lenA ?_ | refine s_appE ?_ | refine s_appA ?_ | refine s_min ?_ | refine s_max ?_ | fail)) | ((with_reducible refine is_store ?_); (first | refine s_storeB ?_ | fail)) | ((with_reducible refine is_bslice ?_); (first | refine s_bslice0 ?_ | refine s_bslice ?_ | fail)) | ((with_reducible refine is_alloc ?_); (first | refine s_alloc ?_ | fail)) | ((with_reducible refine is_build ?_); (first | refine s_build ?_ | fail)) | ((with_reducible refine is_guard ?_); first | refine s_kT ?_ | refine s_kF ?_ | refine s_split rfl rfl (fun hb => ?_) (fun hb => ?_)) | ((with_reducible refine is_fin ?_); first | refine f_ret1 def_nil ?_ | refine f_ret2 def_nil ?_ ?_ | refine f_ret3 def_nil ?_ ?_ ?_ | refine f_end1 def_nil ?_) | ((with_reducible refine is_res ?_); first | refine t_tmp ?_ | refine t_tmpE ?_ | refine t_tmpA rfl rfl ?_ ?_ | refine d_tmpG rfl ?_ | refine t_cell (P := Try.prog) ?_ | refine t_cellG ?_) | ((with_reducible refine is_cfs ?_); first | exact cfs_nil | refine cfs_cons ?_ ?_) | ((with_reducible refine is_cf ?_); first | refine cf_d ?_ | refine cf_emp ?_ | refine cf_arr rfl ?_ ?_))
    all_goals first | rfl | (exfalso; omega)
end Go.Proofs.Ytlacmjfgaehhkaa
