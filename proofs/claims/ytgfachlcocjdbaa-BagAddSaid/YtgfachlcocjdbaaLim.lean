/-
  BagLimits.
-/
import Derived.Test.YtgfachlcocjdbaaAdd
namespace Go.Proofs.Ytgfachlcocjdbaa
open Go.Abs Go.RowKit
attribute [local irreducible] ARun kont MCall PCall HCall resVal SF CF CFs defersOk slotsIn memIn fin finM VLe
set_option linter.unusedSimpArgs false
set_option maxRecDepth 100000
set_option maxHeartbeats 4000000

theorem map_sc1 (l : List Entry) : l.map (sc 1) = l := by
  conv => rhs; rw [← List.map_id l]
  apply List.map_congr_left
  intro e _
  show (⟨e.row, 1 * e.count⟩ : Entry) = e
  rw [Int.one_mul]

theorem valid_within {l : List Entry} (h : bagValid l = true) : within 1152921504606846976 l := fun e he => by
  have := ((valid_mem h).2 e he).2.1
  omega

theorem refAdd_c (a b : List Entry) : PCall Try.prog 23 [.one (bagD a), .one (bagD b)] (.tup [.one (bagD (addE 1 a b).1), .one (.lit (.int .i64 (addE 1 a b).2))]) := by
  have h1 := refBagValid_c a
  have h2 := refBagValid_c b
  by_cases ha : bagValid a = true
  · by_cases hb : bagValid b = true
    · have l1 := (valid_mem ha).1
      have l2 := (valid_mem hb).1
      have hm := merge_c a b (by omega) (by omega) (valid_within ha) (valid_within hb)
      have he : addE 1 a b = fitsE (mergeE a b) := by rw [addE, if_pos ⟨ha, hb⟩, map_sc1]
      have hf := fits_c (mergeE a b)
      rw [he]
      generalize mergeE a b = M at hm hf
      generalize fitsE M = R at hf
      obtain ⟨r, er⟩ := R
      dsimp only at hf ⊢
      rw [ha] at h1
      rw [hb] at h2
      refine pcallS hT Try.func23 rfl (by kernel_rfl) _ [.tmp 4, .tmp 5] Try.ntmps23 rfl rfl (by repeat' (first | exact nfNil rfl | apply nfCons (a := ((_, SVal.c _) : Nat × SVal)) rfl | apply nfCons (a := ((_, SVal.agg _) : Nat × SVal)) rfl)) fun B => ?_
      repeat' (first | (with_reducible (first | refine k_seq ?_ | refine k_block ?_ | refine k_skip ?_ | refine k_exit ?_ | refine k_ret ?_ | refine n_seq ?_ | refine n_block ?_ | refine e_seq ?_ | refine e_here ?_ | refine r_seq ?_ | refine r_block ?_ | refine o_exit ?_ | refine o_ret ?_)) | ((with_reducible refine is_region ?_); refine s_reg ?_) | ((with_reducible refine is_cond ?_); first | refine s_ifT ?_ | refine s_ifF ?_ | refine s_if rfl (fun hb => ?_) (fun hb => ?_)) | ((with_reducible refine is_exit ?_); refine s_past ?_) | ((with_reducible refine is_end ?_); first | refine r_end ?_ | refine s_endD ?_) | ((with_reducible refine is_guard ?_); first | refine s_skipS ?_ | refine s_skipU ?_ | refine s_skipN ?_ | refine s_skipUN ?_) | ((with_reducible refine is_move ?_); (first | refine s_move ?_ | fail)) | ((with_reducible refine is_assign ?_); (first | refine s_assign ?_ | fail)) | ((with_reducible refine is_call ?_); (first | refine s_call (h1) ?_ | refine s_call (h2) ?_ | refine s_call (hm) ?_ | refine s_call (hf) ?_ | fail)) | ((with_reducible refine is_pick ?_); (first | refine s_pick ?_ | refine s_pickB ?_ | fail)) | ((with_reducible refine is_extract ?_); (first | refine s_extract ?_ | fail)) | ((with_reducible refine is_un ?_); (first | refine s_not ?_ | refine s_neg ?_ | fail)) | ((with_reducible refine is_guard ?_); first | refine s_kT ?_ | refine s_kF ?_ | refine s_split rfl rfl (fun hb => ?_) (fun hb => ?_)) | ((with_reducible refine is_fin ?_); first | refine f_ret1 def_nil ?_ | refine f_ret2 def_nil ?_ ?_ | refine f_ret3 def_nil ?_ ?_ ?_ | refine f_end1 def_nil ?_) | ((with_reducible refine is_res ?_); first | refine t_tmp ?_ | refine t_tmpE ?_ | refine t_tmpA rfl rfl ?_ ?_ | refine d_tmpG rfl ?_ | refine t_cell (P := Try.prog) ?_ | refine t_cellG ?_) | ((with_reducible refine is_cfs ?_); first | exact cfs_nil | refine cfs_cons ?_ ?_) | ((with_reducible refine is_cf ?_); first | refine cf_d ?_ | refine cf_emp ?_ | refine cf_arr rfl ?_ ?_))
      all_goals rfl
    · have he : addE 1 a b = ([], 1) := if_neg (fun q => hb q.2)
      rw [he]
      rw [ha] at h1
      rw [show bagValid b = false by simpa using hb] at h2
      refine pcallS hT Try.func23 rfl (by kernel_rfl) _ [.tmp 4, .tmp 5] Try.ntmps23 rfl rfl (by repeat' (first | exact nfNil rfl | apply nfCons (a := ((_, SVal.c _) : Nat × SVal)) rfl | apply nfCons (a := ((_, SVal.agg _) : Nat × SVal)) rfl)) fun B => ?_
      repeat' (first | (with_reducible (first | refine k_seq ?_ | refine k_block ?_ | refine k_skip ?_ | refine k_exit ?_ | refine k_ret ?_ | refine n_seq ?_ | refine n_block ?_ | refine e_seq ?_ | refine e_here ?_ | refine r_seq ?_ | refine r_block ?_ | refine o_exit ?_ | refine o_ret ?_)) | ((with_reducible refine is_region ?_); refine s_reg ?_) | ((with_reducible refine is_cond ?_); first | refine s_ifT ?_ | refine s_ifF ?_ | refine s_if rfl (fun hb => ?_) (fun hb => ?_)) | ((with_reducible refine is_exit ?_); refine s_past ?_) | ((with_reducible refine is_end ?_); first | refine r_end ?_ | refine s_endD ?_) | ((with_reducible refine is_guard ?_); first | refine s_skipS ?_ | refine s_skipU ?_ | refine s_skipN ?_ | refine s_skipUN ?_) | ((with_reducible refine is_move ?_); (first | refine s_move ?_ | fail)) | ((with_reducible refine is_assign ?_); (first | refine s_assign ?_ | fail)) | ((with_reducible refine is_call ?_); (first | refine s_call (h1) ?_ | refine s_call (h2) ?_ | fail)) | ((with_reducible refine is_pick ?_); (first | refine s_pick ?_ | refine s_pickB ?_ | fail)) | ((with_reducible refine is_extract ?_); (first | refine s_extract ?_ | fail)) | ((with_reducible refine is_un ?_); (first | refine s_not ?_ | refine s_neg ?_ | fail)) | ((with_reducible refine is_guard ?_); first | refine s_kT ?_ | refine s_kF ?_ | refine s_split rfl rfl (fun hb => ?_) (fun hb => ?_)) | ((with_reducible refine is_fin ?_); first | refine f_ret1 def_nil ?_ | refine f_ret2 def_nil ?_ ?_ | refine f_ret3 def_nil ?_ ?_ ?_ | refine f_end1 def_nil ?_) | ((with_reducible refine is_res ?_); first | refine t_tmp ?_ | refine t_tmpE ?_ | refine t_tmpA rfl rfl ?_ ?_ | refine d_tmpG rfl ?_ | refine t_cell (P := Try.prog) ?_ | refine t_cellG ?_) | ((with_reducible refine is_cfs ?_); first | exact cfs_nil | refine cfs_cons ?_ ?_) | ((with_reducible refine is_cf ?_); first | refine cf_d ?_ | refine cf_emp ?_ | refine cf_arr rfl ?_ ?_))
      all_goals rfl
  · have he : addE 1 a b = ([], 1) := if_neg (fun q => ha q.1)
    rw [he]
    rw [show bagValid a = false by simpa using ha] at h1
    refine pcallS hT Try.func23 rfl (by kernel_rfl) _ [.tmp 4, .tmp 5] Try.ntmps23 rfl rfl (by repeat' (first | exact nfNil rfl | apply nfCons (a := ((_, SVal.c _) : Nat × SVal)) rfl | apply nfCons (a := ((_, SVal.agg _) : Nat × SVal)) rfl)) fun B => ?_
    repeat' (first | (with_reducible (first | refine k_seq ?_ | refine k_block ?_ | refine k_skip ?_ | refine k_exit ?_ | refine k_ret ?_ | refine n_seq ?_ | refine n_block ?_ | refine e_seq ?_ | refine e_here ?_ | refine r_seq ?_ | refine r_block ?_ | refine o_exit ?_ | refine o_ret ?_)) | ((with_reducible refine is_region ?_); refine s_reg ?_) | ((with_reducible refine is_cond ?_); first | refine s_ifT ?_ | refine s_ifF ?_ | refine s_if rfl (fun hb => ?_) (fun hb => ?_)) | ((with_reducible refine is_exit ?_); refine s_past ?_) | ((with_reducible refine is_end ?_); first | refine r_end ?_ | refine s_endD ?_) | ((with_reducible refine is_guard ?_); first | refine s_skipS ?_ | refine s_skipU ?_ | refine s_skipN ?_ | refine s_skipUN ?_) | ((with_reducible refine is_move ?_); (first | refine s_move ?_ | fail)) | ((with_reducible refine is_assign ?_); (first | refine s_assign ?_ | fail)) | ((with_reducible refine is_call ?_); (first | refine s_call (h1) ?_ | refine s_call (h2) ?_ | fail)) | ((with_reducible refine is_pick ?_); (first | refine s_pick ?_ | refine s_pickB ?_ | fail)) | ((with_reducible refine is_extract ?_); (first | refine s_extract ?_ | fail)) | ((with_reducible refine is_un ?_); (first | refine s_not ?_ | refine s_neg ?_ | fail)) | ((with_reducible refine is_guard ?_); first | refine s_kT ?_ | refine s_kF ?_ | refine s_split rfl rfl (fun hb => ?_) (fun hb => ?_)) | ((with_reducible refine is_fin ?_); first | refine f_ret1 def_nil ?_ | refine f_ret2 def_nil ?_ ?_ | refine f_ret3 def_nil ?_ ?_ ?_ | refine f_end1 def_nil ?_) | ((with_reducible refine is_res ?_); first | refine t_tmp ?_ | refine t_tmpE ?_ | refine t_tmpA rfl rfl ?_ ?_ | refine d_tmpG rfl ?_ | refine t_cell (P := Try.prog) ?_ | refine t_cellG ?_) | ((with_reducible refine is_cfs ?_); first | exact cfs_nil | refine cfs_cons ?_ ?_) | ((with_reducible refine is_cf ?_); first | refine cf_d ?_ | refine cf_emp ?_ | refine cf_arr rfl ?_ ?_))
    all_goals rfl

def numE (i : Nat) : Entry := ⟨[Val.ofInt i], 1⟩
def numL (k : Nat) : List Entry := (List.range k).map numE

theorem numE_ok (i : Nat) : (numE i).ok = true := by
  have : (Val.ofInt i).valid = true := clean_valid' _
  simp [numE, Entry.ok, rowOK, this, countOK]

theorem num_lt {i j : Nat} (h : i < j) (hj : j < 5000) : rowCmp [Val.ofInt i] [Val.ofInt j] < 0 := by
  have e : ∀ n : Nat, n < 5000 → Val.ofInt n = ⟨1, n, ⟨#[]⟩⟩ := fun n hn => by
    unfold Val.ofInt Val.clean
    rw [if_pos]
    unfold Val.valid
    simp
    omega
  have hl : (Val.mk 1 (i : Int) ⟨#[]⟩).less (Val.mk 1 (j : Int) ⟨#[]⟩) = true := by
    rw [less_iff (by rw [← e i (by omega)]; exact clean_valid' _) (by rw [← e j hj]; exact clean_valid' _)]
    exact .inr ⟨rfl, .inl (by simp only; omega)⟩
  have hs : (Val.mk 1 (i : Int) ⟨#[]⟩).same (Val.mk 1 (j : Int) ⟨#[]⟩) = false := by
    cases hq : (Val.mk 1 (i : Int) ⟨#[]⟩).same (Val.mk 1 (j : Int) ⟨#[]⟩) with
    | false => rfl
    | true =>
      have := same_iff.1 hq
      injection this with _ h2 _
      omega
  have hc : (Val.ofInt i).cmp (Val.ofInt j) = -1 := by
    rw [e i (by omega), e j hj]
    have c1 : (Val.mk 1 (i : Int) ⟨#[]⟩).clean = Val.mk 1 (i : Int) ⟨#[]⟩ := by rw [Val.clean, if_pos (by rw [← e i (by omega)]; exact clean_valid' _)]
    have c2 : (Val.mk 1 (j : Int) ⟨#[]⟩).clean = Val.mk 1 (j : Int) ⟨#[]⟩ := by rw [Val.clean, if_pos (by rw [← e j hj]; exact clean_valid' _)]
    unfold Val.cmp
    simp only [c1, c2, hs, hl]
    rfl
  rw [rowCmp, hc]; decide

theorem numL_sorted {k : Nat} (hk : k ≤ 5000) : (numL k).Pairwise eR := by
  unfold numL
  rw [List.pairwise_map]
  have hr : (List.range k).Pairwise fun i j => i < j := List.pairwise_lt_range
  refine (List.Pairwise.and_mem.1 hr).imp ?_
  rintro i j ⟨_, hj, hij⟩
  exact num_lt hij (by have := List.mem_range.1 hj; omega)

theorem valid_of {l : List Entry} (h : l.Pairwise eR) (ho : ∀ e ∈ l, e.ok = true) : bagValid l = decide (l.length ≤ 4096) := by
  rw [bagValid, good_of ho h (by simp), Bool.and_true]

theorem numL_valid {k : Nat} (hk : k ≤ 5000) : bagValid (numL k) = decide (k ≤ 4096) := by
  rw [valid_of (numL_sorted hk) (fun e he => by obtain ⟨i, _, rfl⟩ := List.mem_map.1 he; exact numE_ok i)]
  simp [numL]
theorem numL_snoc (i : Nat) : numL (i + 1) = numL i ++ [numE i] := by
  unfold numL; rw [List.range_succ, List.map_append]; rfl
theorem numL_len (k : Nat) : (numL k).length = k := by simp [numL]

theorem numL_zero : numL 0 = [] := rfl
theorem numE_d (i : Nat) : (numE i).d = [rowD [Val.ofInt i], .lit (.int .i64 1)] := rfl
attribute [local irreducible] numL numE

theorem lawLimits_c (n : Int) (h0 : 0 ≤ n) (h1 : n ≤ 255) : PCall Try.prog 5 [.one (.lit (.int .u8 n))] (.v (.one (.lit (.bool true)))) := by
  have hmod : n.tmod 3 = n % 3 := Int.tmod_eq_emod_of_nonneg h0
  obtain ⟨d, hd⟩ := Int.eq_ofNat_of_zero_le (show 0 ≤ n % 3 by omega)
  have hd3 : d ≤ 2 := by omega
  have vL := numL_valid (k := 4095 + d) (by omega)
  have nL := normalizes_c (numL (4095 + d)) (by rw [numL_len]; omega)
  have bL := bagValid_c (numL (4095 + d))
  rw [vL] at bL
  have lL := numL_len (4095 + d)
  have f4 : List.take (4095 + d) ((numL (4095 + d)).map Entry.d) = (numL (4095 + d)).map Entry.d := take_ge (by simp [numL_len])
  have o1 : PCall Try.prog 21 [.one (.lit (.string ⟨#[97]⟩))] (.v (.one (rowD [tA]))) := one_c _
  have nM := normalizes_c [⟨[tA], 262144⟩, ⟨[tA], (d : Int) - 1⟩] (by simp)
  have hva : tA.valid = true := clean_valid' _
  have ha : rowOK [tA] = true := by simp [rowOK, hva]
  have v1 : bagValid [⟨[tA], 262144⟩] = true := by simp [bagValid, goodFrom, Entry.ok, ha, countOK]
  have v2 : bagValid [⟨[tA], 1⟩] = true := by simp [bagValid, goodFrom, Entry.ok, ha, countOK]
  have hov : addE 1 [⟨[tA], 262144⟩] [⟨[tA], 1⟩] = ([], 9) := by
    rw [addE, if_pos ⟨v1, v2⟩, map_sc1, mergeE, rowCmp_ok.refl]
    simp [mergeE, fitsE, countOK]
  have c1 := add_c [⟨[tA], 262144⟩] [⟨[tA], 1⟩]
  rw [hov] at c1
  have c2 := add_c ((numL (4095 + d)).take 4095) ((numL (4095 + d)).drop 4094)
  have c3 := refAdd_c ((numL (4095 + d)).take 4095) ((numL (4095 + d)).drop 4094)
  generalize addE 1 ((numL (4095 + d)).take 4095) ((numL (4095 + d)).drop 4094) = R at c2 c3
  obtain ⟨rb, re⟩ := R
  dsimp only at c2 c3
  have s1 := same06_c rb rb
  rw [sameBag_refl] at s1
  clear hva ha v1 v2 hov
  generalize tA = A at *
  have htd : n.tmod 3 = (d : Int) := hmod.trans hd
  have hdec : decide (4095 + d ≤ 4096) = decide ((d : Int) - 1 ≤ 0) := by
    rw [decide_eq_decide]; omega
  rw [hdec] at bL
  refine pcallS hT Try.func5 rfl (by kernel_rfl) _ [.tmp 2] Try.ntmps5 rfl rfl (by repeat' (first | exact nfNil rfl | apply nfCons (a := ((_, SVal.c _) : Nat × SVal)) rfl | apply nfCons (a := ((_, SVal.agg _) : Nat × SVal)) rfl)) fun B => ?_
  repeat' (first | (with_reducible (first | refine k_seq ?_ | refine k_block ?_ | refine k_skip ?_ | refine k_exit ?_ | refine k_ret ?_ | refine n_seq ?_ | refine n_block ?_ | refine e_seq ?_ | refine e_here ?_ | refine r_seq ?_ | refine r_block ?_ | refine o_exit ?_ | refine o_ret ?_)) | ((with_reducible refine is_region ?_); refine s_reg ?_) | ((with_reducible refine is_cond ?_); first | refine s_ifT ?_ | refine s_ifF ?_ | refine s_if rfl (fun hb => ?_) (fun hb => ?_)) | ((with_reducible refine is_exit ?_); refine s_past ?_) | ((with_reducible refine is_end ?_); first | refine r_end ?_ | refine s_endD ?_) | ((with_reducible refine is_guard ?_); first | refine s_skipS ?_ | refine s_skipU ?_ | refine s_skipN ?_ | refine s_skipUN ?_) | ((with_reducible refine is_move ?_); (first | refine s_move ?_ | fail)) | ((with_reducible refine is_assign ?_); (first | refine s_assign ?_ | fail)) | ((with_reducible refine is_bin ?_); (first | refine s_int ?_ | refine s_str ?_ | refine s_eqB ?_ | refine s_neB ?_ | refine s_eqA ?_ | refine s_neA ?_ | refine s_shr ?_ | refine s_shl ?_ | refine s_or ?_ | refine s_xor ?_ | refine s_eqNil (fun b hnil => ?_) | fail)) | ((with_reducible refine is_pick ?_); (first | refine s_pick ?_ | refine s_pickB ?_ | fail)) | ((with_reducible refine is_built ?_); (first | refine s_lenD ?_ | refine s_lenE ?_ | refine s_lenS ?_ | refine s_lenA ?_ | refine s_appE ?_ | refine s_appA ?_ | refine s_min ?_ | refine s_max ?_ | fail)) | ((with_reducible refine is_bslice ?_); (first | refine s_bslice0 ?_ | refine s_bslice ?_ | fail)) | ((with_reducible refine is_extract ?_); (first | refine s_extract ?_ | fail)) | ((with_reducible refine is_un ?_); (first | refine s_not ?_ | refine s_neg ?_ | fail)) | ((with_reducible refine is_conv ?_); (first | refine s_conv ?_ | refine s_convSB ?_ | refine s_convBSd ?_ | refine s_convBSa ?_ | fail)) | ((with_reducible refine is_build ?_); (first | refine s_build ?_ | fail)) | ((with_reducible refine is_slice ?_); (first | refine s_sliceD ?_ | refine s_sliceS ?_ | refine s_sliceE ?_ | refine s_sliceA ?_ | fail)) | ((with_reducible refine is_guard ?_); first | refine s_kT ?_ | refine s_kF ?_ | refine s_split rfl rfl (fun hb => ?_) (fun hb => ?_)) | ((with_reducible refine is_fin ?_); first | refine f_ret1 def_nil ?_ | refine f_ret2 def_nil ?_ ?_ | refine f_ret3 def_nil ?_ ?_ ?_ | refine f_end1 def_nil ?_) | ((with_reducible refine is_res ?_); first | refine t_tmp ?_ | refine t_tmpE ?_ | refine t_tmpA rfl rfl ?_ ?_ | refine d_tmpG rfl ?_ | refine t_cell (P := Try.prog) ?_ | refine t_cellG ?_) | ((with_reducible refine is_cfs ?_); first | exact cfs_nil | refine cfs_cons ?_ ?_) | ((with_reducible refine is_cf ?_); first | refine cf_d ?_ | refine cf_emp ?_ | refine cf_arr rfl ?_ ?_))
  rw [htd]
  clear htd hmod hd vL hdec
  refine s_own 4 34 2 ?_
  refine s_lp (X := Nat × Nat) [4, 5, 17, 18, 19, 20, 21, 22, 23, 24, 25, 26, 27, 28, 29] (fun x => x.1 ≤ 4095 + d) (fun x lz => (4, .c (.arr 0 x.2 x.1)) :: (5, (.c (.d (.lit (.int .i64 x.1))))) :: lz) (fun x => [.arr x.2 34 2 ((numL x.1).map Entry.d)]) (fun x => 4095 + d - x.1) ((0, 1)) ?_ ?_ ?_ ?_
  repeat' (first | exact slots_nil | refine w1 ?_ | refine w2 ?_ ?_ | refine w3 ?_ ?_ | refine w4 ?_ ?_ | refine w5 ?_ ?_ | refine w6 ?_ ?_ | refine w7 ?_ | exact memIn_nil | refine memIn_same ?_ | refine m1 ?_ ?_ | refine m2 ?_ ?_ | refine m3 ?_ ?_ ?_ ?_ | refine m4 ?_ ?_ | refine memIn_dead ?_ | omega)
  · rw [numL_zero]; rfl
  rintro ⟨i, k⟩ c hi
  dsimp only at hi ⊢
  have li := numL_len i
  by_cases hlt : i < 4095 + d
  · repeat' (first | (with_reducible (first | refine k_seq ?_ | refine k_block ?_ | refine k_skip ?_ | refine k_exit ?_ | refine k_ret ?_ | refine n_seq ?_ | refine n_block ?_ | refine e_seq ?_ | refine e_here ?_ | refine r_seq ?_ | refine r_block ?_ | refine o_exit ?_ | refine o_ret ?_)) | ((with_reducible refine is_region ?_); refine s_reg ?_) | ((with_reducible refine is_cond ?_); first | refine s_ifT ?_ | refine s_ifF ?_ | refine s_if rfl (fun hb => ?_) (fun hb => ?_)) | ((with_reducible refine is_exit ?_); refine s_past ?_) | ((with_reducible refine is_end ?_); first | refine r_end ?_ | refine s_endD ?_) | ((with_reducible refine is_guard ?_); first | refine s_skipS ?_ | refine s_skipU ?_ | refine s_skipN ?_ | refine s_skipUN ?_) | ((with_reducible refine is_move ?_); (first | refine s_move ?_ | fail)) | ((with_reducible refine is_assign ?_); (first | refine s_assign ?_ | fail)) | ((with_reducible refine is_bin ?_); (first | refine s_int ?_ | refine s_str ?_ | refine s_eqB ?_ | refine s_neB ?_ | refine s_eqA ?_ | refine s_neA ?_ | refine s_shr ?_ | refine s_shl ?_ | refine s_or ?_ | refine s_xor ?_ | refine s_eqNil (fun b hnil => ?_) | fail)) | ((with_reducible refine is_call ?_); (first | refine s_call (refInt_c _) ?_ | fail)) | ((with_reducible refine is_pick ?_); (first | refine s_pick ?_ | refine s_pickB ?_ | fail)) | ((with_reducible refine is_built ?_); (first | refine s_lenD ?_ | refine s_lenE ?_ | refine s_lenS ?_ | refine s_lenA ?_ | refine s_appE ?_ | refine s_appA ?_ | refine s_min ?_ | refine s_max ?_ | fail)) | ((with_reducible refine is_bslice ?_); (first | refine s_bslice0 ?_ | refine s_bslice ?_ | fail)) | ((with_reducible refine is_extract ?_); (first | refine s_extract ?_ | fail)) | ((with_reducible refine is_un ?_); (first | refine s_not ?_ | refine s_neg ?_ | fail)) | ((with_reducible refine is_conv ?_); (first | refine s_conv ?_ | refine s_convSB ?_ | refine s_convBSd ?_ | refine s_convBSa ?_ | fail)) | ((with_reducible refine is_build ?_); (first | refine s_build ?_ | fail)) | ((with_reducible refine is_slice ?_); (first | refine s_sliceD ?_ | refine s_sliceS ?_ | refine s_sliceE ?_ | refine s_sliceA ?_ | fail)) | ((with_reducible refine is_guard ?_); first | refine s_kT ?_ | refine s_kF ?_ | refine s_split rfl rfl (fun hb => ?_) (fun hb => ?_)) | ((with_reducible refine is_fin ?_); first | refine f_ret1 def_nil ?_ | refine f_ret2 def_nil ?_ ?_ | refine f_ret3 def_nil ?_ ?_ ?_ | refine f_end1 def_nil ?_) | ((with_reducible refine is_res ?_); first | refine t_tmp ?_ | refine t_tmpE ?_ | refine t_tmpA rfl rfl ?_ ?_ | refine d_tmpG rfl ?_ | refine t_cell (P := Try.prog) ?_ | refine t_cellG ?_) | ((with_reducible refine is_cfs ?_); first | exact cfs_nil | refine cfs_cons ?_ ?_) | ((with_reducible refine is_cf ?_); first | refine cf_d ?_ | refine cf_emp ?_ | refine cf_arr rfl ?_ ?_))
    (apply s_round ((i + 1, _)); all_goals (try dsimp only); all_goals (try (repeat' (first | exact slots_nil | refine w1 ?_ | refine w2 ?_ ?_ | refine w3 ?_ ?_ | refine w4 ?_ ?_ | refine w5 ?_ ?_ | refine w6 ?_ ?_ | refine w7 ?_ | exact memIn_nil | refine memIn_same ?_ | refine m1 ?_ ?_ | refine m2 ?_ ?_ | refine m3 ?_ ?_ ?_ ?_ | refine m4 ?_ ?_ | refine memIn_dead ?_ | omega))))
    rw [numL_snoc, List.map_append, List.map_cons, List.map_nil, numE_d]; rfl
  · obtain rfl : i = 4095 + d := by omega
    repeat' (first | refine s_freeze 4 ?_ (hes := f4) | (with_reducible (first | refine k_seq ?_ | refine k_block ?_ | refine k_skip ?_ | refine k_exit ?_ | refine k_ret ?_ | refine n_seq ?_ | refine n_block ?_ | refine e_seq ?_ | refine e_here ?_ | refine r_seq ?_ | refine r_block ?_ | refine o_exit ?_ | refine o_ret ?_)) | ((with_reducible refine is_region ?_); refine s_reg ?_) | ((with_reducible refine is_cond ?_); first | refine s_ifT ?_ | refine s_ifF ?_ | refine s_if rfl (fun hb => ?_) (fun hb => ?_)) | ((with_reducible refine is_exit ?_); refine s_past ?_) | ((with_reducible refine is_end ?_); first | refine r_end ?_ | refine s_endD ?_) | ((with_reducible refine is_guard ?_); first | refine s_skipS ?_ | refine s_skipU ?_ | refine s_skipN ?_ | refine s_skipUN ?_) | ((with_reducible refine is_move ?_); (first | refine s_move ?_ | fail)) | ((with_reducible refine is_assign ?_); (first | refine s_assign ?_ | fail)) | ((with_reducible refine is_bin ?_); (first | refine s_int ?_ | refine s_str ?_ | refine s_eqB ?_ | refine s_neB ?_ | refine s_eqA ?_ | refine s_neA ?_ | refine s_shr ?_ | refine s_shl ?_ | refine s_or ?_ | refine s_xor ?_ | refine s_eqNil (fun b hnil => ?_) | fail)) | ((with_reducible refine is_call ?_); (first | refine s_call (o1) ?_ | refine s_call (nL) ?_ | refine s_call (nM) ?_ | refine s_call (bL) ?_ | refine s_call (c1) ?_ | refine s_call (c2) ?_ | refine s_call (c3) ?_ | refine s_call (s1) ?_ | refine s_call (awake06_c) ?_ | fail)) | ((with_reducible refine is_pick ?_); (first | refine s_pick ?_ | refine s_pickB ?_ | fail)) | ((with_reducible refine is_built ?_); (first | refine s_lenD ?_ | refine s_lenE ?_ | refine s_lenS ?_ | refine s_lenA ?_ | refine s_appE ?_ | refine s_appA ?_ | refine s_min ?_ | refine s_max ?_ | fail)) | ((with_reducible refine is_bslice ?_); (first | refine s_bslice0 ?_ | refine s_bslice ?_ | fail)) | ((with_reducible refine is_extract ?_); (first | refine s_extract ?_ | fail)) | ((with_reducible refine is_un ?_); (first | refine s_not ?_ | refine s_neg ?_ | fail)) | ((with_reducible refine is_conv ?_); (first | refine s_conv ?_ | refine s_convSB ?_ | refine s_convBSd ?_ | refine s_convBSa ?_ | fail)) | ((with_reducible refine is_build ?_); (first | refine s_build ?_ | fail)) | ((with_reducible refine is_slice ?_); (first | refine s_sliceD ?_ | refine s_sliceS ?_ | refine s_sliceE ?_ | refine s_sliceA ?_ | fail)) | ((with_reducible refine is_guard ?_); first | refine s_kT ?_ | refine s_kF ?_ | refine s_split rfl rfl (fun hb => ?_) (fun hb => ?_)) | ((with_reducible refine is_fin ?_); first | refine f_ret1 def_nil ?_ | refine f_ret2 def_nil ?_ ?_ | refine f_ret3 def_nil ?_ ?_ ?_ | refine f_end1 def_nil ?_) | ((with_reducible refine is_res ?_); first | refine t_tmp ?_ | refine t_tmpE ?_ | refine t_tmpA rfl rfl ?_ ?_ | refine d_tmpG rfl ?_ | refine t_cell (P := Try.prog) ?_ | refine t_cellG ?_) | ((with_reducible refine is_cfs ?_); first | exact cfs_nil | refine cfs_cons ?_ ?_) | ((with_reducible refine is_cf ?_); first | refine cf_d ?_ | refine cf_emp ?_ | refine cf_arr rfl ?_ ?_))
    all_goals rfl
end Go.Proofs.Ytgfachlcocjdbaa
