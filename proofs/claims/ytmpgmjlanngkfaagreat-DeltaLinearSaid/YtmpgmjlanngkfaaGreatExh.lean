/-
  Expressions: the program's operators on numbers.
-/
import Derived.Test.YtmpgmjlanngkfaaGreatExf
namespace Go.Proofs.YtmpgmjlanngkfaaGreat
open Go.Abs Go.RowKit
attribute [local irreducible] ARun kont MCall PCall HCall resVal SF CF CFs defersOk slotsIn memIn fin finM VLe
set_option linter.unusedSimpArgs false
set_option maxRecDepth 100000
set_option maxHeartbeats 4000000

theorem mul_bd {a b : Int} {M x y : Nat} (ha : a.natAbs ≤ x) (hb : b.natAbs ≤ y) (h : x * y ≤ M) : -(M : Int) ≤ a * b ∧ a * b ≤ M := by
  have h3 : (a * b).natAbs ≤ M := by rw [Int.natAbs_mul]; exact Nat.le_trans (Nat.mul_le_mul ha hb) h
  omega
theorem int_big {n : Int} (h : n < -4294967296 ∨ 4294967296 < n) : Val.ofInt n = Val.null := by
  have h' : (Val.mk 1 n ⟨#[]⟩).valid = false := by
    unfold Val.valid
    rw [if_neg (show ¬ (1 : Int) = 0 by omega), if_pos rfl]
    have : (decide (-4294967296 ≤ n) && decide (n ≤ 4294967296)) = false := by
      rw [Bool.and_eq_false_iff, decide_eq_false_iff_not, decide_eq_false_iff_not]; omega
    rw [show (Val.mk 1 n ⟨#[]⟩).int = n from rfl, this, Bool.false_and]
  unfold Val.ofInt Val.clean
  rw [h']; rfl
theorem absMax' (a : Int) : (if a < -a then -a else a) = (a.natAbs : Int) := by split <;> omega
/-- One bound for a product, in terms of a quotient. -/
theorem prod_iff {a b : Nat} (ha : 0 < a) : 4294967296 / a < b ↔ 4294967296 < a * b := by
  rw [Nat.div_lt_iff_lt_mul ha, Nat.mul_comm]

theorem product_c (a b : Int) (ha : -4294967296 ≤ a ∧ a ≤ 4294967296) (hb : -4294967296 ≤ b ∧ b ≤ 4294967296) : PCall Tryz.prog 208 [.one (.lit (.int .i64 a)), .one (.lit (.int .i64 b))] (.v (.agg (Val.ofInt (a * b)).d)) := by
  have h1 := number_c (a * b)
  obtain ⟨m1, m2⟩ := mul_bd (M := 18446744073709551616) (show a.natAbs ≤ 4294967296 by omega) (show b.natAbs ≤ 4294967296 by omega) (by decide)
  by_cases h0 : a = 0
  · subst h0
    refine pcallN hT Tryz.func208 Tryz.ntmps208 [.cell 4 73] fun B => ?_
    repeat' (first | (with_reducible (first | refine k_seq ?_ | refine k_skip ?_ | refine k_ret ?_ | refine n_seq ?_ | refine r_seq ?_)) | refine s_reg ?_ | refine s_ifT ?_ | refine s_ifF ?_ | refine r_end ?_ | refine s_skipS ?_ | refine s_move ?_ | refine s_int ?_ | refine s_call (h1) ?_ | refine s_pick ?_ | refine s_max ?_ | refine s_storeB ?_ | refine s_alloc ?_ | refine s_neg ?_ | refine s_build ?_ | refine s_kT ?_ | refine f_ret1 def_nil ?_ | refine t_cellG ?_ | exact cfs_nil | refine cfs_cons ?_ ?_ | refine cf_d ?_)
    all_goals rfl
  · have hq := prod_iff (b := b.natAbs) (show 0 < a.natAbs by omega)
    have e1 : IntKind.i64.wrap (Int.tdiv 4294967296 (if a < -a then -a else a)) = ((4294967296 / a.natAbs : Nat) : Int) := by
      rw [absMax', show (4294967296 : Int) = ((4294967296 : Nat) : Int) from rfl, ← Int.ofNat_tdiv]
      have := Nat.div_le_self 4294967296 a.natAbs
      generalize 4294967296 / a.natAbs = d at this ⊢
      exact wrap_i64 (by omega) (by omega)
    have e2 := absMax' b
    generalize 4294967296 / a.natAbs = d at e1 hq
    by_cases hbig : 4294967296 < a.natAbs * b.natAbs
    · have hz : Val.ofInt (a * b) = Val.null := int_big (by
        rw [← Int.natAbs_mul] at hbig; omega)
      rw [hz]
      have hq := hq.2 hbig
      refine pcallN hT Tryz.func208 Tryz.ntmps208 [.cell 4 73] fun B => ?_
      repeat' (first | (with_reducible (first | refine k_seq ?_ | refine k_skip ?_ | refine k_ret ?_ | refine n_seq ?_ | refine r_seq ?_)) | refine s_reg ?_ | refine s_ifT ?_ | refine s_ifF ?_ | refine r_end ?_ | refine s_skipS ?_ | refine s_move ?_ | refine s_int ?_ | refine s_call (h1) ?_ | refine s_pick ?_ | refine s_max ?_ | refine s_storeB ?_ | refine s_alloc ?_ | refine s_neg ?_ | refine s_build ?_ | refine s_kT ?_ | refine f_ret1 def_nil ?_ | refine t_cellG ?_ | exact cfs_nil | refine cfs_cons ?_ ?_ | refine cf_d ?_)
      all_goals first | rfl | (exfalso; rw [e1, e2] at hb; omega)
    · have hs : -4294967296 ≤ a * b ∧ a * b ≤ 4294967296 := by
        rw [← Int.natAbs_mul] at hbig; omega
      have hq : ¬ d < b.natAbs := fun q => hbig (hq.1 q)
      refine pcallN hT Tryz.func208 Tryz.ntmps208 [.cell 4 73] fun B => ?_
      repeat' (first | (with_reducible (first | refine k_seq ?_ | refine k_skip ?_ | refine k_ret ?_ | refine n_seq ?_ | refine r_seq ?_)) | refine s_reg ?_ | refine s_ifT ?_ | refine s_ifF ?_ | refine r_end ?_ | refine s_skipS ?_ | refine s_move ?_ | refine s_int ?_ | refine s_call (h1) ?_ | refine s_pick ?_ | refine s_max ?_ | refine s_storeB ?_ | refine s_alloc ?_ | refine s_neg ?_ | refine s_build ?_ | refine s_kT ?_ | refine f_ret1 def_nil ?_ | refine t_cellG ?_ | exact cfs_nil | refine cfs_cons ?_ ?_ | refine cf_d ?_)
      all_goals first | rfl | (exfalso; rw [e1, e2] at hb; omega)

theorem tdiv_bd {a b : Int} (h : -4294967296 ≤ a ∧ a ≤ 4294967296) : -4294967296 ≤ a.tdiv b ∧ a.tdiv b ≤ 4294967296 := by
  have h1 : (a.tdiv b).natAbs = a.natAbs / b.natAbs := Int.natAbs_tdiv a b
  have h2 := Nat.div_le_self a.natAbs b.natAbs
  generalize a.natAbs / b.natAbs = d at h1 h2
  omega
theorem quotient_c (a b : Int) (ha : -4294967296 ≤ a ∧ a ≤ 4294967296) : PCall Tryz.prog 209 [.one (.lit (.int .i64 a)), .one (.lit (.int .i64 b))] (.v (.agg (quotE a b).d)) := by
  by_cases h0 : b = 0
  · subst h0
    rw [show quotE a 0 = Val.null from if_pos rfl]
    refine pcallN hT Tryz.func209 Tryz.ntmps209 [.cell 4 73] fun B => ?_
    repeat' (first | (with_reducible (first | refine k_seq ?_ | refine k_skip ?_ | refine k_ret ?_ | refine n_seq ?_ | refine r_seq ?_)) | refine s_reg ?_ | refine s_ifT ?_ | refine s_ifF ?_ | refine s_if rfl (fun hb => ?_) (fun hb => ?_) | refine r_end ?_ | refine s_skipS ?_ | refine s_move ?_ | refine s_assign ?_ | refine s_int ?_ | refine s_neB ?_ | refine s_pick ?_ | refine s_storeB ?_ | refine s_alloc ?_ | refine s_build ?_ | refine s_kT ?_ | refine s_split rfl rfl (fun hb => ?_) (fun hb => ?_) | refine f_ret1 def_nil ?_ | refine t_cellG ?_ | exact cfs_nil | refine cfs_cons ?_ ?_ | refine cf_d ?_)
    all_goals rfl
  · obtain ⟨b1, b2⟩ := tdiv_bd (b := b) ha
    have hw : IntKind.i64.wrap (a.tdiv b) = a.tdiv b := wrap_i64 (by omega) (by omega)
    rw [show quotE a b = Val.ofInt (quotZ a b) from if_neg h0]
    by_cases hc : a.tmod b ≠ 0 ∧ decide (a < 0) ≠ decide (b < 0)
    · rw [show quotZ a b = IntKind.i64.wrap (a.tdiv b) - 1 by rw [hw, quotZ, if_pos hc]]
      refine pcallN hT Tryz.func209 Tryz.ntmps209 [.cell 4 73] fun B => ?_
      repeat' (first | (with_reducible (first | refine k_seq ?_ | refine k_skip ?_ | refine k_ret ?_ | refine n_seq ?_ | refine r_seq ?_)) | refine s_reg ?_ | refine s_ifT ?_ | refine s_ifF ?_ | refine s_if rfl (fun hb => ?_) (fun hb => ?_) | refine r_end ?_ | refine s_skipS ?_ | refine s_move ?_ | refine s_assign ?_ | refine s_int ?_ | refine s_neB ?_ | refine s_call (number_c _) ?_ | refine s_pick ?_ | refine s_storeB ?_ | refine s_alloc ?_ | refine s_build ?_ | refine s_kT ?_ | refine s_split rfl rfl (fun hb => ?_) (fun hb => ?_) | refine f_ret1 def_nil ?_ | refine t_cellG ?_ | exact cfs_nil | refine cfs_cons ?_ ?_ | refine cf_d ?_)
      all_goals first | rfl | (exfalso; simp_all; done)
    · rw [show quotZ a b = IntKind.i64.wrap (a.tdiv b) by rw [hw, quotZ, if_neg hc]]
      refine pcallN hT Tryz.func209 Tryz.ntmps209 [.cell 4 73] fun B => ?_
      repeat' (first | (with_reducible (first | refine k_seq ?_ | refine k_skip ?_ | refine k_ret ?_ | refine n_seq ?_ | refine r_seq ?_)) | refine s_reg ?_ | refine s_ifT ?_ | refine s_ifF ?_ | refine s_if rfl (fun hb => ?_) (fun hb => ?_) | refine r_end ?_ | refine s_skipS ?_ | refine s_move ?_ | refine s_assign ?_ | refine s_int ?_ | refine s_neB ?_ | refine s_call (number_c _) ?_ | refine s_pick ?_ | refine s_storeB ?_ | refine s_alloc ?_ | refine s_build ?_ | refine s_kT ?_ | refine s_split rfl rfl (fun hb => ?_) (fun hb => ?_) | refine f_ret1 def_nil ?_ | refine t_cellG ?_ | exact cfs_nil | refine cfs_cons ?_ ?_ | refine cf_d ?_)
      all_goals first | rfl | (exfalso; simp_all; done)

theorem ofNumbers_c (op : Int) (a b : Val) (ha : a.valid = true) (hb : b.valid = true) : PCall Tryz.prog 161 [.one (.lit (.int .i64 op)), .agg a.d, .agg b.d] (.v (.agg (arE op a b).d)) := by
  by_cases k : a.kind ≠ 1 ∨ b.kind ≠ 1
  · rw [show arE op a b = Val.null from if_pos k]
    rcases k with k | k
    · refine pcallN hT Tryz.func161 Tryz.ntmps161 [.cell 6 73] fun B => ?_
      repeat' (first | (with_reducible (first | refine k_seq ?_ | refine k_block ?_ | refine k_skip ?_ | refine k_ret ?_ | refine n_seq ?_ | refine n_block ?_ | refine r_seq ?_ | refine r_block ?_)) | refine s_reg ?_ | refine s_ifT ?_ | refine s_ifF ?_ | refine r_end ?_ | refine s_skipS ?_ | refine s_move ?_ | refine s_assign ?_ | refine s_int ?_ | refine s_loadB1 ?_ | refine s_fieldB ?_ | refine s_pick ?_ | refine s_storeB ?_ | refine s_alloc ?_ | refine s_neg ?_ | refine s_box ?_ | refine s_build ?_ | refine s_kT ?_ | refine s_kF ?_ | refine s_split rfl rfl (fun hb => ?_) (fun hb => ?_) | refine f_ret1 def_nil ?_ | refine t_cellG ?_ | exact cfs_nil | refine cfs_cons ?_ ?_ | refine cf_d ?_)
      all_goals rfl
    · refine pcallN hT Tryz.func161 Tryz.ntmps161 [.cell 6 73] fun B => ?_
      repeat' (first | (with_reducible (first | refine k_seq ?_ | refine k_block ?_ | refine k_skip ?_ | refine k_ret ?_ | refine n_seq ?_ | refine n_block ?_ | refine r_seq ?_ | refine r_block ?_)) | refine s_reg ?_ | refine s_ifT ?_ | refine s_ifF ?_ | refine r_end ?_ | refine s_skipS ?_ | refine s_move ?_ | refine s_assign ?_ | refine s_int ?_ | refine s_loadB1 ?_ | refine s_fieldB ?_ | refine s_pick ?_ | refine s_storeB ?_ | refine s_alloc ?_ | refine s_neg ?_ | refine s_box ?_ | refine s_build ?_ | refine s_kT ?_ | refine s_kF ?_ | refine s_split rfl rfl (fun hb => ?_) (fun hb => ?_) | refine f_ret1 def_nil ?_ | refine t_cellG ?_ | exact cfs_nil | refine cfs_cons ?_ ?_ | refine cf_d ?_)
      all_goals rfl
  have ka : a.kind = 1 := Classical.byContradiction fun q => k (.inl q)
  have kb : b.kind = 1 := Classical.byContradiction fun q => k (.inr q)
  have ia : -4294967296 ≤ a.int ∧ a.int ≤ 4294967296 := by
    rcases valid_kinds ha with h | h | h
    · omega
    · exact ⟨h.2.1, h.2.2.1⟩
    · omega
  have ib : -4294967296 ≤ b.int ∧ b.int ≤ 4294967296 := by
    rcases valid_kinds hb with h | h | h
    · omega
    · exact ⟨h.2.1, h.2.2.1⟩
    · omega
  have h1 := product_c a.int b.int ia ib
  have h2 := quotient_c a.int b.int ia
  have h3 := exTruth_c (a.int == 0)
  have e : arE op a b = if op = 3 then Val.ofInt (-a.int) else if op = 13 then truthE (a.int == 0) else if op = 4 then Val.ofInt (a.int + b.int) else if op = 5 then Val.ofInt (a.int - b.int) else if op = 6 then Val.ofInt (a.int * b.int) else quotE a.int b.int := by
    rw [arE, if_neg k, beq_dec]
  rw [e]
  clear e k ha hb
  by_cases o3 : op = 3
  · rw [if_pos o3]
    refine pcallN hT Tryz.func161 Tryz.ntmps161 [.cell 6 73] fun B => ?_
    repeat' (first | (with_reducible (first | refine k_seq ?_ | refine k_block ?_ | refine k_skip ?_ | refine k_ret ?_ | refine n_seq ?_ | refine n_block ?_ | refine r_seq ?_ | refine r_block ?_)) | refine s_reg ?_ | refine s_ifT ?_ | refine s_ifF ?_ | refine r_end ?_ | refine s_skipS ?_ | refine s_move ?_ | refine s_assign ?_ | refine s_int ?_ | refine s_loadB1 ?_ | refine s_fieldB ?_ | refine s_call (number_c _) ?_ | refine s_pick ?_ | refine s_storeB ?_ | refine s_alloc ?_ | refine s_neg ?_ | refine s_box ?_ | refine s_build ?_ | refine s_kT ?_ | refine s_kF ?_ | refine s_split rfl rfl (fun hb => ?_) (fun hb => ?_) | refine f_ret1 def_nil ?_ | refine t_cellG ?_ | exact cfs_nil | refine cfs_cons ?_ ?_ | refine cf_d ?_)
    all_goals rfl
  rw [if_neg o3]
  by_cases o13 : op = 13
  · rw [if_pos o13]
    refine pcallN hT Tryz.func161 Tryz.ntmps161 [.cell 6 73] fun B => ?_
    repeat' (first | (with_reducible (first | refine k_seq ?_ | refine k_block ?_ | refine k_skip ?_ | refine k_ret ?_ | refine n_seq ?_ | refine n_block ?_ | refine r_seq ?_ | refine r_block ?_)) | refine s_reg ?_ | refine s_ifT ?_ | refine s_ifF ?_ | refine r_end ?_ | refine s_skipS ?_ | refine s_move ?_ | refine s_assign ?_ | refine s_int ?_ | refine s_loadB1 ?_ | refine s_fieldB ?_ | refine s_call (h3) ?_ | refine s_pick ?_ | refine s_storeB ?_ | refine s_alloc ?_ | refine s_neg ?_ | refine s_box ?_ | refine s_build ?_ | refine s_kT ?_ | refine s_kF ?_ | refine s_split rfl rfl (fun hb => ?_) (fun hb => ?_) | refine f_ret1 def_nil ?_ | refine t_cellG ?_ | exact cfs_nil | refine cfs_cons ?_ ?_ | refine cf_d ?_)
    all_goals rfl
  rw [if_neg o13]
  by_cases o4 : op = 4
  · rw [if_pos o4]
    refine pcallN hT Tryz.func161 Tryz.ntmps161 [.cell 6 73] fun B => ?_
    repeat' (first | (with_reducible (first | refine k_seq ?_ | refine k_block ?_ | refine k_skip ?_ | refine k_ret ?_ | refine n_seq ?_ | refine n_block ?_ | refine r_seq ?_ | refine r_block ?_)) | refine s_reg ?_ | refine s_ifT ?_ | refine s_ifF ?_ | refine r_end ?_ | refine s_skipS ?_ | refine s_move ?_ | refine s_assign ?_ | refine s_int ?_ | refine s_loadB1 ?_ | refine s_fieldB ?_ | refine s_call (number_c _) ?_ | refine s_pick ?_ | refine s_storeB ?_ | refine s_alloc ?_ | refine s_neg ?_ | refine s_box ?_ | refine s_build ?_ | refine s_kT ?_ | refine s_kF ?_ | refine s_split rfl rfl (fun hb => ?_) (fun hb => ?_) | refine f_ret1 def_nil ?_ | refine t_cellG ?_ | exact cfs_nil | refine cfs_cons ?_ ?_ | refine cf_d ?_)
    all_goals rfl
  rw [if_neg o4]
  by_cases o5 : op = 5
  · rw [if_pos o5]
    refine pcallN hT Tryz.func161 Tryz.ntmps161 [.cell 6 73] fun B => ?_
    repeat' (first | (with_reducible (first | refine k_seq ?_ | refine k_block ?_ | refine k_skip ?_ | refine k_ret ?_ | refine n_seq ?_ | refine n_block ?_ | refine r_seq ?_ | refine r_block ?_)) | refine s_reg ?_ | refine s_ifT ?_ | refine s_ifF ?_ | refine r_end ?_ | refine s_skipS ?_ | refine s_move ?_ | refine s_assign ?_ | refine s_int ?_ | refine s_loadB1 ?_ | refine s_fieldB ?_ | refine s_call (number_c _) ?_ | refine s_pick ?_ | refine s_storeB ?_ | refine s_alloc ?_ | refine s_neg ?_ | refine s_box ?_ | refine s_build ?_ | refine s_kT ?_ | refine s_kF ?_ | refine s_split rfl rfl (fun hb => ?_) (fun hb => ?_) | refine f_ret1 def_nil ?_ | refine t_cellG ?_ | exact cfs_nil | refine cfs_cons ?_ ?_ | refine cf_d ?_)
    all_goals rfl
  rw [if_neg o5]
  by_cases o6 : op = 6
  · rw [if_pos o6]
    refine pcallN hT Tryz.func161 Tryz.ntmps161 [.cell 6 73] fun B => ?_
    repeat' (first | (with_reducible (first | refine k_seq ?_ | refine k_block ?_ | refine k_skip ?_ | refine k_ret ?_ | refine n_seq ?_ | refine n_block ?_ | refine r_seq ?_ | refine r_block ?_)) | refine s_reg ?_ | refine s_ifT ?_ | refine s_ifF ?_ | refine r_end ?_ | refine s_skipS ?_ | refine s_move ?_ | refine s_assign ?_ | refine s_int ?_ | refine s_loadB1 ?_ | refine s_fieldB ?_ | refine s_call (h1) ?_ | refine s_pick ?_ | refine s_storeB ?_ | refine s_alloc ?_ | refine s_neg ?_ | refine s_box ?_ | refine s_build ?_ | refine s_kT ?_ | refine s_kF ?_ | refine s_split rfl rfl (fun hb => ?_) (fun hb => ?_) | refine f_ret1 def_nil ?_ | refine t_cellG ?_ | exact cfs_nil | refine cfs_cons ?_ ?_ | refine cf_d ?_)
    all_goals rfl
  rw [if_neg o6]
  refine pcallN hT Tryz.func161 Tryz.ntmps161 [.cell 6 73] fun B => ?_
  repeat' (first | (with_reducible (first | refine k_seq ?_ | refine k_block ?_ | refine k_skip ?_ | refine k_ret ?_ | refine n_seq ?_ | refine n_block ?_ | refine r_seq ?_ | refine r_block ?_)) | refine s_reg ?_ | refine s_ifT ?_ | refine s_ifF ?_ | refine r_end ?_ | refine s_skipS ?_ | refine s_move ?_ | refine s_assign ?_ | refine s_int ?_ | refine s_loadB1 ?_ | refine s_fieldB ?_ | refine s_call (h2) ?_ | refine s_pick ?_ | refine s_storeB ?_ | refine s_alloc ?_ | refine s_neg ?_ | refine s_box ?_ | refine s_build ?_ | refine s_kT ?_ | refine s_kF ?_ | refine s_split rfl rfl (fun hb => ?_) (fun hb => ?_) | refine f_ret1 def_nil ?_ | refine t_cellG ?_ | exact cfs_nil | refine cfs_cons ?_ ?_ | refine cf_d ?_)
  all_goals rfl
end Go.Proofs.YtmpgmjlanngkfaaGreat
