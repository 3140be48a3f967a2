/-
  Expressions: the document's operators, put together.
-/
import Derived.Test.YtiidgbfdghplhaaGreatExh
section
namespace Go.Proofs.YtiidgbfdghplhaaGreat
open Go.Abs Go.RowKit
attribute [local irreducible] ARun kont MCall PCall HCall resVal SF CF CFs defersOk slotsIn memIn fin finM VLe
set_option linter.unusedSimpArgs false
set_option maxRecDepth 100000
set_option maxHeartbeats 4000000

def truthR (v : Val) : Int := if v.kind ≠ 1 then -1 else if v.int = 0 then 0 else 1
theorem refTruth_c (v : Val) : PCall Tryz.prog 77 [.agg v.d] (.v (.one (.lit (.int .i64 (truthR v))))) := by
  by_cases k : v.kind = 1
  · by_cases z : v.int = 0
    · rw [show truthR v = 0 by rw [truthR, if_neg (by omega), if_pos z]]
      refine pcallN hT Tryz.func77 Tryz.ntmps77 [.tmp 2] fun B => ?_
      repeat' (first | (with_reducible (first | refine k_seq ?_ | refine k_block ?_ | refine k_skip ?_ | refine k_ret ?_ | refine n_seq ?_ | refine n_block ?_ | refine r_seq ?_ | refine r_block ?_)) | refine s_reg ?_ | refine s_ifT ?_ | refine s_ifF ?_ | refine r_end ?_ | refine s_assign ?_ | refine s_int ?_ | refine s_loadB1 ?_ | refine s_fieldB ?_ | refine s_box ?_ | refine f_ret1 def_nil ?_ | refine t_tmp ?_)
      all_goals rfl
    · rw [show truthR v = 1 by rw [truthR, if_neg (by omega), if_neg z]]
      refine pcallN hT Tryz.func77 Tryz.ntmps77 [.tmp 2] fun B => ?_
      repeat' (first | (with_reducible (first | refine k_seq ?_ | refine k_block ?_ | refine k_skip ?_ | refine k_ret ?_ | refine n_seq ?_ | refine n_block ?_ | refine r_seq ?_ | refine r_block ?_)) | refine s_reg ?_ | refine s_ifT ?_ | refine s_ifF ?_ | refine r_end ?_ | refine s_assign ?_ | refine s_int ?_ | refine s_loadB1 ?_ | refine s_fieldB ?_ | refine s_box ?_ | refine f_ret1 def_nil ?_ | refine t_tmp ?_)
      all_goals rfl
  · rw [show truthR v = -1 from if_pos k]
    refine pcallN hT Tryz.func77 Tryz.ntmps77 [.tmp 2] fun B => ?_
    repeat' (first | (with_reducible (first | refine k_seq ?_ | refine k_block ?_ | refine k_skip ?_ | refine k_ret ?_ | refine n_seq ?_ | refine n_block ?_ | refine r_seq ?_ | refine r_block ?_)) | refine s_reg ?_ | refine s_ifT ?_ | refine s_ifF ?_ | refine r_end ?_ | refine s_assign ?_ | refine s_int ?_ | refine s_loadB1 ?_ | refine s_fieldB ?_ | refine s_box ?_ | refine f_ret1 def_nil ?_ | refine t_tmp ?_)
    all_goals rfl
theorem refBit_c (b : Bool) : PCall Tryz.prog 153 [.one (.lit (.bool b))] (.v (.agg (truthE b).d)) := by
  cases b
  · refine pcallN hT Tryz.func153 Tryz.ntmps153 [.cell 2 61] fun B => ?_
    repeat' (first | (with_reducible (first | refine k_seq ?_ | refine k_skip ?_ | refine k_ret ?_ | refine n_seq ?_ | refine r_seq ?_)) | refine s_reg ?_ | refine s_ifT ?_ | refine s_ifF ?_ | refine r_end ?_ | refine s_move ?_ | refine s_call (refInt_c _) ?_ | refine s_storeB ?_ | refine s_alloc ?_ | refine f_ret1 def_nil ?_ | refine t_cellG ?_ | exact cfs_nil | refine cfs_cons ?_ ?_ | refine cf_d ?_)
    all_goals rfl
  · refine pcallN hT Tryz.func153 Tryz.ntmps153 [.cell 2 61] fun B => ?_
    repeat' (first | (with_reducible (first | refine k_seq ?_ | refine k_skip ?_ | refine k_ret ?_ | refine n_seq ?_ | refine r_seq ?_)) | refine s_reg ?_ | refine s_ifT ?_ | refine s_ifF ?_ | refine r_end ?_ | refine s_move ?_ | refine s_call (refInt_c _) ?_ | refine s_storeB ?_ | refine s_alloc ?_ | refine f_ret1 def_nil ?_ | refine t_cellG ?_ | exact cfs_nil | refine cfs_cons ?_ ?_ | refine cf_d ?_)
    all_goals rfl

def three14 (a b : Int) : Val := if a = 0 ∨ b = 0 then truthE false else if a < 0 ∨ b < 0 then Val.null else truthE true
def three15 (a b : Int) : Val := if a = 1 ∨ b = 1 then truthE true else if a < 0 ∨ b < 0 then Val.null else truthE false
theorem isF_iff (v : Val) : isF v = true ↔ truthR v = 0 := by
  unfold isF truthR
  simp only [Bool.and_eq_true, decide_eq_true_eq]
  split
  · omega
  · split <;> omega
theorem isT_iff (v : Val) : isT v = true ↔ truthR v = 1 := by
  unfold isT truthR
  simp only [Bool.and_eq_true, decide_eq_true_eq]
  split
  · omega
  · split <;> omega
theorem truthR_bd (v : Val) : truthR v = -1 ∨ truthR v = 0 ∨ truthR v = 1 := by
  unfold truthR
  split
  · omega
  · split <;> omega
theorem three_and (a b : Val) : three14 (truthR a) (truthR b) = andE a b := by
  unfold three14 andE
  simp only [Bool.or_eq_true, Bool.and_eq_true, isF_iff, isT_iff]
  rcases truthR_bd a with h | h | h <;> rcases truthR_bd b with g | g | g <;> simp [h, g]
theorem three_or (a b : Val) : three15 (truthR a) (truthR b) = orE a b := by
  unfold three15 orE
  simp only [Bool.or_eq_true, Bool.and_eq_true, isF_iff, isT_iff]
  rcases truthR_bd a with h | h | h <;> rcases truthR_bd b with g | g | g <;> simp [h, g]

theorem refThree14_c (a b : Val) : PCall Tryz.prog 152 [.one (.lit (.int .i64 14)), .one (.lit (.int .i64 (truthR a))), .one (.lit (.int .i64 (truthR b)))] (.v (.agg (andE a b).d)) := by
  rw [← three_and]
  have t0 := refBit_c false
  have t1 := refBit_c true
  rcases truthR_bd a with h | h | h <;> rcases truthR_bd b with g | g | g <;> rw [h, g]
  all_goals
    refine pcallN hT Tryz.func152 Tryz.ntmps152 [.cell 6 61] fun B => ?_
    repeat' (first | (with_reducible (first | refine k_seq ?_ | refine k_block ?_ | refine k_skip ?_ | refine k_ret ?_ | refine n_seq ?_ | refine n_block ?_ | refine r_seq ?_ | refine r_block ?_)) | refine s_reg ?_ | refine s_ifT ?_ | refine s_ifF ?_ | refine r_end ?_ | refine s_skipS ?_ | refine s_move ?_ | refine s_assign ?_ | refine s_int ?_ | refine s_call (t0) ?_ | refine s_call (t1) ?_ | refine s_pick ?_ | refine s_storeB ?_ | refine s_alloc ?_ | refine s_build ?_ | refine f_ret1 def_nil ?_ | refine t_cellG ?_ | exact cfs_nil | refine cfs_cons ?_ ?_ | refine cf_d ?_)
    all_goals rfl
theorem refThree15_c (a b : Val) : PCall Tryz.prog 152 [.one (.lit (.int .i64 15)), .one (.lit (.int .i64 (truthR a))), .one (.lit (.int .i64 (truthR b)))] (.v (.agg (orE a b).d)) := by
  rw [← three_or]
  have t0 := refBit_c false
  have t1 := refBit_c true
  rcases truthR_bd a with h | h | h <;> rcases truthR_bd b with g | g | g <;> rw [h, g]
  all_goals
    refine pcallN hT Tryz.func152 Tryz.ntmps152 [.cell 6 61] fun B => ?_
    repeat' (first | (with_reducible (first | refine k_seq ?_ | refine k_block ?_ | refine k_skip ?_ | refine k_ret ?_ | refine n_seq ?_ | refine n_block ?_ | refine r_seq ?_ | refine r_block ?_)) | refine s_reg ?_ | refine s_ifT ?_ | refine s_ifF ?_ | refine r_end ?_ | refine s_skipS ?_ | refine s_move ?_ | refine s_assign ?_ | refine s_int ?_ | refine s_call (t0) ?_ | refine s_call (t1) ?_ | refine s_pick ?_ | refine s_storeB ?_ | refine s_alloc ?_ | refine s_build ?_ | refine f_ret1 def_nil ?_ | refine t_cellG ?_ | exact cfs_nil | refine cfs_cons ?_ ?_ | refine cf_d ?_)
    all_goals rfl

theorem refProduct_c (a b : Int) (ha : -4294967296 ≤ a ∧ a ≤ 4294967296) (hb : -4294967296 ≤ b ∧ b ≤ 4294967296) : PCall Tryz.prog 164 [.one (.lit (.int .i64 a)), .one (.lit (.int .i64 b))] (.v (.agg (Val.ofInt (a * b)).d)) := by
  have h1 := refInt_c (a * b)
  obtain ⟨m1, m2⟩ := mul_bd (M := 18446744073709551616) (show a.natAbs ≤ 4294967296 by omega) (show b.natAbs ≤ 4294967296 by omega) (by decide)
  by_cases h0 : a = 0
  · subst h0
    refine pcallN hT Tryz.func164 Tryz.ntmps164 [.cell 4 61] fun B => ?_
    repeat' (first | (with_reducible (first | refine k_seq ?_ | refine k_skip ?_ | refine k_ret ?_ | refine n_seq ?_ | refine r_seq ?_)) | refine s_reg ?_ | refine s_ifT ?_ | refine s_ifF ?_ | refine r_end ?_ | refine s_skipS ?_ | refine s_move ?_ | refine s_int ?_ | refine s_call (h1) ?_ | refine s_pick ?_ | refine s_max ?_ | refine s_storeB ?_ | refine s_alloc ?_ | refine s_neg ?_ | refine s_build ?_ | refine s_kT ?_ | refine f_ret1 def_nil ?_ | refine t_cellG ?_ | exact cfs_nil | refine cfs_cons ?_ ?_ | refine cf_d ?_)
    all_goals rfl
  by_cases h0' : b = 0
  · subst h0'
    refine pcallN hT Tryz.func164 Tryz.ntmps164 [.cell 4 61] fun B => ?_
    repeat' (first | (with_reducible (first | refine k_seq ?_ | refine k_skip ?_ | refine k_ret ?_ | refine n_seq ?_ | refine r_seq ?_)) | refine s_reg ?_ | refine s_ifT ?_ | refine s_ifF ?_ | refine r_end ?_ | refine s_skipS ?_ | refine s_move ?_ | refine s_int ?_ | refine s_call (h1) ?_ | refine s_pick ?_ | refine s_max ?_ | refine s_storeB ?_ | refine s_alloc ?_ | refine s_neg ?_ | refine s_build ?_ | refine s_kT ?_ | refine f_ret1 def_nil ?_ | refine t_cellG ?_ | exact cfs_nil | refine cfs_cons ?_ ?_ | refine cf_d ?_)
    all_goals rfl
  · have hq := prod_iff (a := b.natAbs) (b := a.natAbs) (by omega)
    have e1 : IntKind.i64.wrap (Int.tdiv 4294967296 (if b < -b then -b else b)) = ((4294967296 / b.natAbs : Nat) : Int) := by
      rw [absMax', show (4294967296 : Int) = ((4294967296 : Nat) : Int) from rfl, ← Int.ofNat_tdiv]
      have := Nat.div_le_self 4294967296 b.natAbs
      generalize 4294967296 / b.natAbs = d at this ⊢
      exact wrap_i64 (by omega) (by omega)
    have e2 := absMax' a
    rw [Nat.mul_comm] at hq
    generalize 4294967296 / b.natAbs = d at e1 hq
    by_cases hbig : 4294967296 < a.natAbs * b.natAbs
    · have hz : Val.ofInt (a * b) = Val.null := int_big (by
        rw [← Int.natAbs_mul] at hbig; omega)
      rw [hz]
      have hq := hq.2 hbig
      refine pcallN hT Tryz.func164 Tryz.ntmps164 [.cell 4 61] fun B => ?_
      repeat' (first | (with_reducible (first | refine k_seq ?_ | refine k_skip ?_ | refine k_ret ?_ | refine n_seq ?_ | refine r_seq ?_)) | refine s_reg ?_ | refine s_ifT ?_ | refine s_ifF ?_ | refine r_end ?_ | refine s_skipS ?_ | refine s_move ?_ | refine s_int ?_ | refine s_call (h1) ?_ | refine s_pick ?_ | refine s_max ?_ | refine s_storeB ?_ | refine s_alloc ?_ | refine s_neg ?_ | refine s_build ?_ | refine s_kT ?_ | refine f_ret1 def_nil ?_ | refine t_cellG ?_ | exact cfs_nil | refine cfs_cons ?_ ?_ | refine cf_d ?_)
      all_goals first | rfl | (exfalso; rw [e1, e2] at hb; omega)
    · have hs : -4294967296 ≤ a * b ∧ a * b ≤ 4294967296 := by
        rw [← Int.natAbs_mul] at hbig; omega
      have hq : ¬ d < a.natAbs := fun q => hbig (hq.1 q)
      refine pcallN hT Tryz.func164 Tryz.ntmps164 [.cell 4 61] fun B => ?_
      repeat' (first | (with_reducible (first | refine k_seq ?_ | refine k_skip ?_ | refine k_ret ?_ | refine n_seq ?_ | refine r_seq ?_)) | refine s_reg ?_ | refine s_ifT ?_ | refine s_ifF ?_ | refine r_end ?_ | refine s_skipS ?_ | refine s_move ?_ | refine s_int ?_ | refine s_call (h1) ?_ | refine s_pick ?_ | refine s_max ?_ | refine s_storeB ?_ | refine s_alloc ?_ | refine s_neg ?_ | refine s_build ?_ | refine s_kT ?_ | refine f_ret1 def_nil ?_ | refine t_cellG ?_ | exact cfs_nil | refine cfs_cons ?_ ?_ | refine cf_d ?_)
      all_goals first | rfl | (exfalso; rw [e1, e2] at hb; omega)

theorem tmod_zero (a b : Int) : a.tdiv b * b = a ↔ a.tmod b = 0 := by
  have := Int.tmod_add_tdiv_mul a b
  omega
theorem refQuotient_c (a b : Int) (ha : -4294967296 ≤ a ∧ a ≤ 4294967296) : PCall Tryz.prog 165 [.one (.lit (.int .i64 a)), .one (.lit (.int .i64 b))] (.v (.agg (quotE a b).d)) := by
  by_cases h0 : b = 0
  · subst h0
    rw [show quotE a 0 = Val.null from if_pos rfl]
    refine pcallN hT Tryz.func165 Tryz.ntmps165 [.cell 4 61] fun B => ?_
    repeat' (first | (with_reducible (first | refine k_seq ?_ | refine k_skip ?_ | refine k_ret ?_ | refine n_seq ?_ | refine r_seq ?_)) | refine s_reg ?_ | refine s_ifT ?_ | refine s_ifF ?_ | refine s_if rfl (fun hb => ?_) (fun hb => ?_) | refine r_end ?_ | refine s_skipS ?_ | refine s_move ?_ | refine s_assign ?_ | refine s_int ?_ | refine s_neB ?_ | refine s_pick ?_ | refine s_storeB ?_ | refine s_alloc ?_ | refine s_build ?_ | refine s_kT ?_ | refine s_split rfl rfl (fun hb => ?_) (fun hb => ?_) | refine f_ret1 def_nil ?_ | refine t_cellG ?_ | exact cfs_nil | refine cfs_cons ?_ ?_ | refine cf_d ?_)
    all_goals rfl
  · obtain ⟨b1, b2⟩ := tdiv_bd (b := b) ha
    have hw : IntKind.i64.wrap (a.tdiv b) = a.tdiv b := wrap_i64 (by omega) (by omega)
    have hm : IntKind.i64.wrap (a.tdiv b) * b = a ↔ a.tmod b = 0 := by rw [hw]; exact tmod_zero a b
    have hpb : -9223372036854775808 ≤ IntKind.i64.wrap (a.tdiv b) * b ∧ IntKind.i64.wrap (a.tdiv b) * b ≤ 9223372036854775807 := by
      rw [hw]
      have h1 : (a.tdiv b * b).natAbs ≤ 4294967296 := by
        rw [Int.natAbs_mul, show (a.tdiv b).natAbs = a.natAbs / b.natAbs from Int.natAbs_tdiv a b]
        exact Nat.le_trans (Nat.div_mul_le_self _ _) (by omega)
      omega
    rw [show quotE a b = Val.ofInt (quotZ a b) from if_neg h0]
    by_cases hc : a.tmod b ≠ 0 ∧ decide (a < 0) ≠ decide (b < 0)
    · rw [show quotZ a b = IntKind.i64.wrap (a.tdiv b) - 1 by rw [hw, quotZ, if_pos hc]]
      refine pcallN hT Tryz.func165 Tryz.ntmps165 [.cell 4 61] fun B => ?_
      repeat' (first | (with_reducible (first | refine k_seq ?_ | refine k_skip ?_ | refine k_ret ?_ | refine n_seq ?_ | refine r_seq ?_)) | refine s_reg ?_ | refine s_ifT ?_ | refine s_ifF ?_ | refine s_if rfl (fun hb => ?_) (fun hb => ?_) | refine r_end ?_ | refine s_skipS ?_ | refine s_move ?_ | refine s_assign ?_ | refine s_int ?_ | refine s_neB ?_ | refine s_call (refInt_c _) ?_ | refine s_pick ?_ | refine s_storeB ?_ | refine s_alloc ?_ | refine s_build ?_ | refine s_kT ?_ | refine s_split rfl rfl (fun hb => ?_) (fun hb => ?_) | refine f_ret1 def_nil ?_ | refine t_cellG ?_ | exact cfs_nil | refine cfs_cons ?_ ?_ | refine cf_d ?_)
      all_goals first | rfl | (exfalso; simp_all; done)
    · rw [show quotZ a b = IntKind.i64.wrap (a.tdiv b) by rw [hw, quotZ, if_neg hc]]
      refine pcallN hT Tryz.func165 Tryz.ntmps165 [.cell 4 61] fun B => ?_
      repeat' (first | (with_reducible (first | refine k_seq ?_ | refine k_skip ?_ | refine k_ret ?_ | refine n_seq ?_ | refine r_seq ?_)) | refine s_reg ?_ | refine s_ifT ?_ | refine s_ifF ?_ | refine s_if rfl (fun hb => ?_) (fun hb => ?_) | refine r_end ?_ | refine s_skipS ?_ | refine s_move ?_ | refine s_assign ?_ | refine s_int ?_ | refine s_neB ?_ | refine s_call (refInt_c _) ?_ | refine s_pick ?_ | refine s_storeB ?_ | refine s_alloc ?_ | refine s_build ?_ | refine s_kT ?_ | refine s_split rfl rfl (fun hb => ?_) (fun hb => ?_) | refine f_ret1 def_nil ?_ | refine t_cellG ?_ | exact cfs_nil | refine cfs_cons ?_ ?_ | refine cf_d ?_)
      all_goals first | rfl | (exfalso; simp_all; done)
end Go.Proofs.YtiidgbfdghplhaaGreat
end
section
namespace Go.Proofs.YtiidgbfdghplhaaGreat
open Go.Abs Go.RowKit
attribute [local irreducible] ARun kont MCall PCall HCall resVal SF CF CFs defersOk slotsIn memIn fin finM VLe
set_option linter.unusedSimpArgs false
set_option maxRecDepth 100000
set_option maxHeartbeats 4000000

def numsE (op a b : Int) : Val := if op = 4 then Val.ofInt (a + b) else if op = 5 then Val.ofInt (a - b) else if op = 6 then Val.ofInt (a * b) else quotE a b
theorem refNumbers_c (op a b : Int) (hop : op = 4 ∨ op = 5 ∨ op = 6 ∨ op = 7) (ha : -4294967296 ≤ a ∧ a ≤ 4294967296) (hb : -4294967296 ≤ b ∧ b ≤ 4294967296) : PCall Tryz.prog 162 [.one (.lit (.int .i64 op)), .one (.lit (.int .i64 a)), .one (.lit (.int .i64 b))] (.v (.agg (numsE op a b).d)) := by
  have h1 := refProduct_c a b ha hb
  have h2 := refQuotient_c a b ha
  unfold numsE
  rcases hop with rfl | rfl | rfl | rfl
  · refine pcallN hT Tryz.func162 Tryz.ntmps162 [.cell 6 61] fun B => ?_
    repeat' (first | (with_reducible (first | refine k_seq ?_ | refine k_block ?_ | refine k_skip ?_ | refine k_ret ?_ | refine n_seq ?_ | refine n_block ?_ | refine r_seq ?_ | refine r_block ?_)) | refine s_reg ?_ | refine s_ifT ?_ | refine s_ifF ?_ | refine r_end ?_ | refine s_move ?_ | refine s_assign ?_ | refine s_int ?_ | refine s_call (refInt_c _) ?_ | refine s_storeB ?_ | refine s_alloc ?_ | refine f_ret1 def_nil ?_ | refine t_cellG ?_ | exact cfs_nil | refine cfs_cons ?_ ?_ | refine cf_d ?_)
    all_goals rfl
  · refine pcallN hT Tryz.func162 Tryz.ntmps162 [.cell 6 61] fun B => ?_
    repeat' (first | (with_reducible (first | refine k_seq ?_ | refine k_block ?_ | refine k_skip ?_ | refine k_ret ?_ | refine n_seq ?_ | refine n_block ?_ | refine r_seq ?_ | refine r_block ?_)) | refine s_reg ?_ | refine s_ifT ?_ | refine s_ifF ?_ | refine r_end ?_ | refine s_move ?_ | refine s_assign ?_ | refine s_int ?_ | refine s_call (refInt_c _) ?_ | refine s_storeB ?_ | refine s_alloc ?_ | refine f_ret1 def_nil ?_ | refine t_cellG ?_ | exact cfs_nil | refine cfs_cons ?_ ?_ | refine cf_d ?_)
    all_goals rfl
  · refine pcallN hT Tryz.func162 Tryz.ntmps162 [.cell 6 61] fun B => ?_
    repeat' (first | (with_reducible (first | refine k_seq ?_ | refine k_block ?_ | refine k_skip ?_ | refine k_ret ?_ | refine n_seq ?_ | refine n_block ?_ | refine r_seq ?_ | refine r_block ?_)) | refine s_reg ?_ | refine s_ifT ?_ | refine s_ifF ?_ | refine r_end ?_ | refine s_move ?_ | refine s_assign ?_ | refine s_int ?_ | refine s_call (h1) ?_ | refine s_storeB ?_ | refine s_alloc ?_ | refine f_ret1 def_nil ?_ | refine t_cellG ?_ | exact cfs_nil | refine cfs_cons ?_ ?_ | refine cf_d ?_)
    all_goals rfl
  · refine pcallN hT Tryz.func162 Tryz.ntmps162 [.cell 6 61] fun B => ?_
    repeat' (first | (with_reducible (first | refine k_seq ?_ | refine k_block ?_ | refine k_skip ?_ | refine k_ret ?_ | refine n_seq ?_ | refine n_block ?_ | refine r_seq ?_ | refine r_block ?_)) | refine s_reg ?_ | refine s_ifT ?_ | refine s_ifF ?_ | refine r_end ?_ | refine s_move ?_ | refine s_assign ?_ | refine s_int ?_ | refine s_call (h2) ?_ | refine s_storeB ?_ | refine s_alloc ?_ | refine f_ret1 def_nil ?_ | refine t_cellG ?_ | exact cfs_nil | refine cfs_cons ?_ ?_ | refine cf_d ?_)
    all_goals rfl

theorem int_bd {a : Val} (ha : a.valid = true) (k : a.kind = 1) : -4294967296 ≤ a.int ∧ a.int ≤ 4294967296 := by
  rcases valid_kinds ha with h | h | h
  · omega
  · exact ⟨h.2.1, h.2.2.1⟩
  · omega

theorem txt_bd {a : Val} (ha : a.valid = true) (k : a.kind = 2) : a.text.size ≤ 32 := by
  rcases valid_kinds ha with h | h | h
  · omega
  · omega
  · exact h.2.1

theorem strictN_c (op : Int) (hop : op = 4 ∨ op = 5 ∨ op = 6 ∨ op = 7) (a b : Val) (va : a.valid = true) (vb : b.valid = true) : PCall Tryz.prog 154 [.one (.lit (.int .i64 op)), .one (rowD [a, b])] (.v (.agg (arE op a b).d)) := by
  by_cases ka : a.kind = 1
  · by_cases kb : b.kind = 1
    · have h1 := refNumbers_c op a.int b.int hop (int_bd va ka) (int_bd vb kb)
      rw [show arE op a b = numsE op a.int b.int by rw [arE, if_neg (by omega), if_neg (by omega), if_neg (by omega)]; rfl]
      refine pcallN hT Tryz.func154 Tryz.ntmps154 [.cell 4 61] fun B => ?_
      repeat' (first | (with_reducible (first | refine k_seq ?_ | refine k_block ?_ | refine k_skip ?_ | refine k_ret ?_ | refine n_seq ?_ | refine n_block ?_ | refine r_seq ?_ | refine r_block ?_)) | refine s_reg ?_ | refine s_ifT ?_ | refine s_ifF ?_ | refine s_if rfl (fun hb => ?_) (fun hb => ?_) | refine r_end ?_ | refine s_endD ?_ | refine s_skipS ?_ | refine s_move ?_ | refine s_assign ?_ | refine s_int ?_ | refine s_loadF1 ?_ | refine s_indexD ?_ (hel := (by first | exact rfl)) | refine s_fieldF ?_ | refine s_call (h1) ?_ | refine s_pick ?_ | refine s_storeB ?_ | refine s_alloc ?_ | refine s_build ?_ | refine s_kT ?_ | refine s_kF ?_ | refine f_ret1 def_nil ?_ | refine t_cellG ?_ | exact cfs_nil | refine cfs_cons ?_ ?_ | refine cf_d ?_)
      all_goals rfl
    · rw [show arE op a b = Val.null from if_pos (.inr kb)]
      refine pcallN hT Tryz.func154 Tryz.ntmps154 [.cell 4 61] fun B => ?_
      repeat' (first | (with_reducible (first | refine k_seq ?_ | refine k_block ?_ | refine k_skip ?_ | refine k_ret ?_ | refine n_seq ?_ | refine n_block ?_ | refine r_seq ?_ | refine r_block ?_)) | refine s_reg ?_ | refine s_ifT ?_ | refine s_ifF ?_ | refine s_if rfl (fun hb => ?_) (fun hb => ?_) | refine r_end ?_ | refine s_endD ?_ | refine s_skipS ?_ | refine s_move ?_ | refine s_assign ?_ | refine s_int ?_ | refine s_loadF1 ?_ | refine s_indexD ?_ (hel := (by first | exact rfl)) | refine s_fieldF ?_ | refine s_pick ?_ | refine s_storeB ?_ | refine s_alloc ?_ | refine s_build ?_ | refine s_kT ?_ | refine s_kF ?_ | refine f_ret1 def_nil ?_ | refine t_cellG ?_ | exact cfs_nil | refine cfs_cons ?_ ?_ | refine cf_d ?_)
      all_goals rfl
  · rw [show arE op a b = Val.null from if_pos (.inl ka)]
    refine pcallN hT Tryz.func154 Tryz.ntmps154 [.cell 4 61] fun B => ?_
    repeat' (first | (with_reducible (first | refine k_seq ?_ | refine k_block ?_ | refine k_skip ?_ | refine k_ret ?_ | refine n_seq ?_ | refine n_block ?_ | refine r_seq ?_ | refine r_block ?_)) | refine s_reg ?_ | refine s_ifT ?_ | refine s_ifF ?_ | refine s_if rfl (fun hb => ?_) (fun hb => ?_) | refine r_end ?_ | refine s_endD ?_ | refine s_skipS ?_ | refine s_move ?_ | refine s_assign ?_ | refine s_int ?_ | refine s_loadF1 ?_ | refine s_indexD ?_ (hel := (by first | exact rfl)) | refine s_fieldF ?_ | refine s_pick ?_ | refine s_storeB ?_ | refine s_alloc ?_ | refine s_build ?_ | refine s_kT ?_ | refine s_kF ?_ | refine f_ret1 def_nil ?_ | refine t_cellG ?_ | exact cfs_nil | refine cfs_cons ?_ ?_ | refine cf_d ?_)
    all_goals rfl
theorem strict3_c (a : Val) (va : a.valid = true) : PCall Tryz.prog 154 [.one (.lit (.int .i64 3)), .one (rowD [a])] (.v (.agg (arE 3 a a).d)) := by
  by_cases ka : a.kind = 1
  · have := int_bd va ka
    rw [show arE 3 a a = Val.ofInt (-a.int) by rw [arE, if_neg (by omega), if_pos rfl]]
    refine pcallN hT Tryz.func154 Tryz.ntmps154 [.cell 4 61] fun B => ?_
    repeat' (first | (with_reducible (first | refine k_seq ?_ | refine k_block ?_ | refine k_skip ?_ | refine k_ret ?_ | refine n_seq ?_ | refine n_block ?_ | refine r_seq ?_ | refine r_block ?_)) | refine s_reg ?_ | refine s_ifT ?_ | refine s_ifF ?_ | refine r_end ?_ | refine s_move ?_ | refine s_assign ?_ | refine s_int ?_ | refine s_loadF1 ?_ | refine s_indexD ?_ (hel := (by first | exact rfl)) | refine s_fieldF ?_ | refine s_call (refInt_c _) ?_ | refine s_storeB ?_ | refine s_alloc ?_ | refine s_neg ?_ | refine s_build ?_ | refine f_ret1 def_nil ?_ | refine t_cellG ?_ | exact cfs_nil | refine cfs_cons ?_ ?_ | refine cf_d ?_)
    all_goals rfl
  · rw [show arE 3 a a = Val.null from if_pos (.inl ka)]
    refine pcallN hT Tryz.func154 Tryz.ntmps154 [.cell 4 61] fun B => ?_
    repeat' (first | (with_reducible (first | refine k_seq ?_ | refine k_block ?_ | refine k_skip ?_ | refine k_ret ?_ | refine n_seq ?_ | refine n_block ?_ | refine r_seq ?_ | refine r_block ?_)) | refine s_reg ?_ | refine s_ifT ?_ | refine s_ifF ?_ | refine r_end ?_ | refine s_move ?_ | refine s_assign ?_ | refine s_int ?_ | refine s_loadF1 ?_ | refine s_indexD ?_ (hel := (by first | exact rfl)) | refine s_fieldF ?_ | refine s_storeB ?_ | refine s_alloc ?_ | refine s_neg ?_ | refine s_build ?_ | refine f_ret1 def_nil ?_ | refine t_cellG ?_ | exact cfs_nil | refine cfs_cons ?_ ?_ | refine cf_d ?_)
    all_goals rfl
theorem strict13_c (a : Val) : PCall Tryz.prog 154 [.one (.lit (.int .i64 13)), .one (rowD [a])] (.v (.agg (arE 13 a a).d)) := by
  by_cases ka : a.kind = 1
  · rw [show arE 13 a a = truthE (a.int == 0) by rw [arE, if_neg (by omega), if_neg (by omega), if_pos rfl, beq_dec]]
    refine pcallN hT Tryz.func154 Tryz.ntmps154 [.cell 4 61] fun B => ?_
    repeat' (first | (with_reducible (first | refine k_seq ?_ | refine k_block ?_ | refine k_skip ?_ | refine k_ret ?_ | refine n_seq ?_ | refine n_block ?_ | refine r_seq ?_ | refine r_block ?_)) | refine s_reg ?_ | refine s_ifT ?_ | refine s_ifF ?_ | refine r_end ?_ | refine s_move ?_ | refine s_assign ?_ | refine s_int ?_ | refine s_loadF1 ?_ | refine s_indexD ?_ (hel := (by first | exact rfl)) | refine s_fieldF ?_ | refine s_call (refBit_c _) ?_ | refine s_storeB ?_ | refine s_alloc ?_ | refine s_build ?_ | refine f_ret1 def_nil ?_ | refine t_cellG ?_ | exact cfs_nil | refine cfs_cons ?_ ?_ | refine cf_d ?_)
    all_goals rfl
  · rw [show arE 13 a a = Val.null from if_pos (.inl ka)]
    refine pcallN hT Tryz.func154 Tryz.ntmps154 [.cell 4 61] fun B => ?_
    repeat' (first | (with_reducible (first | refine k_seq ?_ | refine k_block ?_ | refine k_skip ?_ | refine k_ret ?_ | refine n_seq ?_ | refine n_block ?_ | refine r_seq ?_ | refine r_block ?_)) | refine s_reg ?_ | refine s_ifT ?_ | refine s_ifF ?_ | refine r_end ?_ | refine s_move ?_ | refine s_assign ?_ | refine s_int ?_ | refine s_loadF1 ?_ | refine s_indexD ?_ (hel := (by first | exact rfl)) | refine s_fieldF ?_ | refine s_storeB ?_ | refine s_alloc ?_ | refine s_build ?_ | refine f_ret1 def_nil ?_ | refine t_cellG ?_ | exact cfs_nil | refine cfs_cons ?_ ?_ | refine cf_d ?_)
    all_goals rfl
theorem strict8_c (a b : Val) (va : a.valid = true) (vb : b.valid = true) : PCall Tryz.prog 154 [.one (.lit (.int .i64 8)), .one (rowD [a, b])] (.v (.agg (txtE 8 a b).d)) := by
  by_cases ka : a.kind = 2
  · by_cases kb : b.kind = 2
    · have la := txt_bd va ka
      have lb := txt_bd vb kb
      rw [show txtE 8 a b = Val.ofText (a.text ++ b.text) by rw [txtE, if_neg (by omega), if_neg (by omega), if_pos ⟨rfl, kb⟩]]
      refine pcallN hT Tryz.func154 Tryz.ntmps154 [.cell 4 61] fun B => ?_
      repeat' (first | (with_reducible (first | refine k_seq ?_ | refine k_block ?_ | refine k_skip ?_ | refine k_ret ?_ | refine n_seq ?_ | refine n_block ?_ | refine r_seq ?_ | refine r_block ?_)) | refine s_reg ?_ | refine s_ifT ?_ | refine s_ifF ?_ | refine r_end ?_ | refine s_endD ?_ | refine s_skipS ?_ | refine s_move ?_ | refine s_assign ?_ | refine s_int ?_ | refine s_str ?_ | refine s_loadF1 ?_ | refine s_indexD ?_ (hel := (by first | exact rfl)) | refine s_fieldF ?_ | refine s_call (refText_c _) ?_ | refine s_pick ?_ | refine s_storeB ?_ | refine s_alloc ?_ | refine s_build ?_ | refine s_kT ?_ | refine s_kF ?_ | refine f_ret1 def_nil ?_ | refine t_cellG ?_ | exact cfs_nil | refine cfs_cons ?_ ?_ | refine cf_d ?_)
      all_goals rfl
    · rw [show txtE 8 a b = Val.null by rw [txtE, if_neg (by omega), if_neg (by omega), if_neg (fun q => kb q.2), if_neg (fun q => by omega)]]
      refine pcallN hT Tryz.func154 Tryz.ntmps154 [.cell 4 61] fun B => ?_
      repeat' (first | (with_reducible (first | refine k_seq ?_ | refine k_block ?_ | refine k_skip ?_ | refine k_ret ?_ | refine n_seq ?_ | refine n_block ?_ | refine r_seq ?_ | refine r_block ?_)) | refine s_reg ?_ | refine s_ifT ?_ | refine s_ifF ?_ | refine r_end ?_ | refine s_endD ?_ | refine s_skipS ?_ | refine s_move ?_ | refine s_assign ?_ | refine s_int ?_ | refine s_str ?_ | refine s_loadF1 ?_ | refine s_indexD ?_ (hel := (by first | exact rfl)) | refine s_fieldF ?_ | refine s_pick ?_ | refine s_storeB ?_ | refine s_alloc ?_ | refine s_build ?_ | refine s_kT ?_ | refine s_kF ?_ | refine f_ret1 def_nil ?_ | refine t_cellG ?_ | exact cfs_nil | refine cfs_cons ?_ ?_ | refine cf_d ?_)
      all_goals rfl
  · rw [show txtE 8 a b = Val.null from if_pos ka]
    refine pcallN hT Tryz.func154 Tryz.ntmps154 [.cell 4 61] fun B => ?_
    repeat' (first | (with_reducible (first | refine k_seq ?_ | refine k_block ?_ | refine k_skip ?_ | refine k_ret ?_ | refine n_seq ?_ | refine n_block ?_ | refine r_seq ?_ | refine r_block ?_)) | refine s_reg ?_ | refine s_ifT ?_ | refine s_ifF ?_ | refine r_end ?_ | refine s_endD ?_ | refine s_skipS ?_ | refine s_move ?_ | refine s_assign ?_ | refine s_int ?_ | refine s_str ?_ | refine s_loadF1 ?_ | refine s_indexD ?_ (hel := (by first | exact rfl)) | refine s_fieldF ?_ | refine s_pick ?_ | refine s_storeB ?_ | refine s_alloc ?_ | refine s_build ?_ | refine s_kT ?_ | refine s_kF ?_ | refine f_ret1 def_nil ?_ | refine t_cellG ?_ | exact cfs_nil | refine cfs_cons ?_ ?_ | refine cf_d ?_)
    all_goals rfl
theorem strict9_c (a b : Val) : PCall Tryz.prog 154 [.one (.lit (.int .i64 9)), .one (rowD [a])] (.v (.agg (txtE 9 a b).d)) := by
  by_cases ka : a.kind = 2
  · rw [show txtE 9 a b = Val.ofInt a.text.size by rw [txtE, if_neg (by omega), if_pos rfl]]
    refine pcallN hT Tryz.func154 Tryz.ntmps154 [.cell 4 61] fun B => ?_
    repeat' (first | (with_reducible (first | refine k_seq ?_ | refine k_block ?_ | refine k_skip ?_ | refine k_ret ?_ | refine n_seq ?_ | refine n_block ?_ | refine r_seq ?_ | refine r_block ?_)) | refine s_reg ?_ | refine s_ifT ?_ | refine s_ifF ?_ | refine r_end ?_ | refine s_move ?_ | refine s_assign ?_ | refine s_int ?_ | refine s_loadF1 ?_ | refine s_indexD ?_ (hel := (by first | exact rfl)) | refine s_fieldF ?_ | refine s_call (refInt_c _) ?_ | refine s_lenS ?_ | refine s_storeB ?_ | refine s_alloc ?_ | refine s_build ?_ | refine f_ret1 def_nil ?_ | refine t_cellG ?_ | exact cfs_nil | refine cfs_cons ?_ ?_ | refine cf_d ?_)
    all_goals rfl
  · rw [show txtE 9 a b = Val.null from if_pos ka]
    refine pcallN hT Tryz.func154 Tryz.ntmps154 [.cell 4 61] fun B => ?_
    repeat' (first | (with_reducible (first | refine k_seq ?_ | refine k_block ?_ | refine k_skip ?_ | refine k_ret ?_ | refine n_seq ?_ | refine n_block ?_ | refine r_seq ?_ | refine r_block ?_)) | refine s_reg ?_ | refine s_ifT ?_ | refine s_ifF ?_ | refine r_end ?_ | refine s_move ?_ | refine s_assign ?_ | refine s_int ?_ | refine s_loadF1 ?_ | refine s_indexD ?_ (hel := (by first | exact rfl)) | refine s_fieldF ?_ | refine s_lenS ?_ | refine s_storeB ?_ | refine s_alloc ?_ | refine s_build ?_ | refine f_ret1 def_nil ?_ | refine t_cellG ?_ | exact cfs_nil | refine cfs_cons ?_ ?_ | refine cf_d ?_)
    all_goals rfl
theorem strict10_c (a b : Val) : PCall Tryz.prog 154 [.one (.lit (.int .i64 10)), .one (rowD [a, b])] (.v (.agg (txtE 10 a b).d)) := by
  by_cases ka : a.kind = 2
  · by_cases kb : b.kind = 1 ∧ 0 ≤ b.int
    · obtain ⟨k1, k2⟩ := kb
      rw [show txtE 10 a b = Val.ofText (a.text.extract 0 (min b.int a.text.size).toNat) by rw [txtE, if_neg (by omega), if_neg (by omega), if_neg (fun q => by omega), if_pos ⟨rfl, k1, k2⟩]]
      have hm : (min b.int a.text.size).toNat ≤ a.text.size := by omega
      rw [show min b.int (a.text.size : Int) = (if (a.text.size : Int) < b.int then (a.text.size : Int) else b.int) by split <;> omega] at hm ⊢
      refine pcallN hT Tryz.func154 Tryz.ntmps154 [.cell 4 61] fun B => ?_
      repeat' (first | (with_reducible (first | refine k_seq ?_ | refine k_block ?_ | refine k_skip ?_ | refine k_ret ?_ | refine n_seq ?_ | refine n_block ?_ | refine r_seq ?_ | refine r_block ?_)) | refine s_reg ?_ | refine s_ifT ?_ | refine s_ifF ?_ | refine r_end ?_ | refine s_endD ?_ | refine s_skipS ?_ | refine s_move ?_ | refine s_assign ?_ | refine s_int ?_ | refine s_loadF1 ?_ | refine s_indexD ?_ (hel := (by first | exact rfl)) | refine s_fieldF ?_ | refine s_call (refText_c _) ?_ | refine s_pick ?_ | refine s_lenS ?_ | refine s_min ?_ | refine s_storeB ?_ | refine s_alloc ?_ | refine s_build ?_ | refine s_sliceS ?_ | refine s_kT ?_ | refine s_kF ?_ | refine s_split rfl rfl (fun hb => ?_) (fun hb => ?_) | refine f_ret1 def_nil ?_ | refine t_cellG ?_ | exact cfs_nil | refine cfs_cons ?_ ?_ | refine cf_d ?_)
      all_goals rfl
    · rw [show txtE 10 a b = Val.null by rw [txtE, if_neg (by omega), if_neg (by omega), if_neg (fun q => by omega), if_neg (fun q => kb q.2)]]
      refine pcallN hT Tryz.func154 Tryz.ntmps154 [.cell 4 61] fun B => ?_
      repeat' (first | (with_reducible (first | refine k_seq ?_ | refine k_block ?_ | refine k_skip ?_ | refine k_ret ?_ | refine n_seq ?_ | refine n_block ?_ | refine r_seq ?_ | refine r_block ?_)) | refine s_reg ?_ | refine s_ifT ?_ | refine s_ifF ?_ | refine r_end ?_ | refine s_endD ?_ | refine s_skipS ?_ | refine s_move ?_ | refine s_assign ?_ | refine s_int ?_ | refine s_loadF1 ?_ | refine s_indexD ?_ (hel := (by first | exact rfl)) | refine s_fieldF ?_ | refine s_pick ?_ | refine s_lenS ?_ | refine s_min ?_ | refine s_storeB ?_ | refine s_alloc ?_ | refine s_build ?_ | refine s_sliceS ?_ | refine s_kT ?_ | refine s_kF ?_ | refine s_split rfl rfl (fun hb => ?_) (fun hb => ?_) | refine f_ret1 def_nil ?_ | refine t_cellG ?_ | exact cfs_nil | refine cfs_cons ?_ ?_ | refine cf_d ?_)
      all_goals first | rfl | omega
  · rw [show txtE 10 a b = Val.null from if_pos ka]
    refine pcallN hT Tryz.func154 Tryz.ntmps154 [.cell 4 61] fun B => ?_
    repeat' (first | (with_reducible (first | refine k_seq ?_ | refine k_block ?_ | refine k_skip ?_ | refine k_ret ?_ | refine n_seq ?_ | refine n_block ?_ | refine r_seq ?_ | refine r_block ?_)) | refine s_reg ?_ | refine s_ifT ?_ | refine s_ifF ?_ | refine r_end ?_ | refine s_endD ?_ | refine s_skipS ?_ | refine s_move ?_ | refine s_assign ?_ | refine s_int ?_ | refine s_loadF1 ?_ | refine s_indexD ?_ (hel := (by first | exact rfl)) | refine s_fieldF ?_ | refine s_pick ?_ | refine s_lenS ?_ | refine s_min ?_ | refine s_storeB ?_ | refine s_alloc ?_ | refine s_build ?_ | refine s_sliceS ?_ | refine s_kT ?_ | refine s_kF ?_ | refine s_split rfl rfl (fun hb => ?_) (fun hb => ?_) | refine f_ret1 def_nil ?_ | refine t_cellG ?_ | exact cfs_nil | refine cfs_cons ?_ ?_ | refine cf_d ?_)
    all_goals rfl
theorem strict11_c (a b : Val) (ka : a.kind ≠ 0) : PCall Tryz.prog 154 [.one (.lit (.int .i64 11)), .one (rowD [a, b])] (.v (.agg (cmpE 11 a b).d)) := by
  by_cases k : a.kind = b.kind
  · rw [show cmpE 11 a b = truthE (a.same b) by rw [cmpE, if_neg (by omega), if_pos rfl], ← litsV]
    refine pcallN hT Tryz.func154 Tryz.ntmps154 [.cell 4 61] fun B => ?_
    repeat' (first | (with_reducible (first | refine k_seq ?_ | refine k_block ?_ | refine k_skip ?_ | refine k_ret ?_ | refine n_seq ?_ | refine n_block ?_ | refine r_seq ?_ | refine r_block ?_)) | refine s_reg ?_ | refine s_ifT ?_ | refine s_ifF ?_ | refine r_end ?_ | refine s_endD ?_ | refine s_move ?_ | refine s_assign ?_ | refine s_int ?_ | refine s_eqA ?_ | refine s_loadF1 ?_ | refine s_loadFA ?_ | refine s_indexD ?_ (hel := (by first | exact rfl)) | refine s_fieldF ?_ | refine s_call (refBit_c _) ?_ | refine s_storeB ?_ | refine s_alloc ?_ | refine s_build ?_ | refine f_ret1 def_nil ?_ | refine t_cellG ?_ | exact cfs_nil | refine cfs_cons ?_ ?_ | refine cf_d ?_)
    all_goals rfl
  · rw [show cmpE 11 a b = Val.null from if_pos (.inr k)]
    refine pcallN hT Tryz.func154 Tryz.ntmps154 [.cell 4 61] fun B => ?_
    repeat' (first | (with_reducible (first | refine k_seq ?_ | refine k_block ?_ | refine k_skip ?_ | refine k_ret ?_ | refine n_seq ?_ | refine n_block ?_ | refine r_seq ?_ | refine r_block ?_)) | refine s_reg ?_ | refine s_ifT ?_ | refine s_ifF ?_ | refine r_end ?_ | refine s_endD ?_ | refine s_move ?_ | refine s_assign ?_ | refine s_int ?_ | refine s_eqA ?_ | refine s_loadF1 ?_ | refine s_loadFA ?_ | refine s_indexD ?_ (hel := (by first | exact rfl)) | refine s_fieldF ?_ | refine s_storeB ?_ | refine s_alloc ?_ | refine s_build ?_ | refine f_ret1 def_nil ?_ | refine t_cellG ?_ | exact cfs_nil | refine cfs_cons ?_ ?_ | refine cf_d ?_)
    all_goals rfl
theorem strict12_c (a b : Val) (ka : a.kind ≠ 0) : PCall Tryz.prog 154 [.one (.lit (.int .i64 12)), .one (rowD [a, b])] (.v (.agg (cmpE 12 a b).d)) := by
  have h1 := refCompare_c a b
  by_cases k : a.kind = b.kind
  · rw [show cmpE 12 a b = truthE (decide (a.cmp b < 0)) by rw [cmpE, if_neg (by omega), if_neg (by omega)]]
    refine pcallN hT Tryz.func154 Tryz.ntmps154 [.cell 4 61] fun B => ?_
    repeat' (first | (with_reducible (first | refine k_seq ?_ | refine k_block ?_ | refine k_skip ?_ | refine k_ret ?_ | refine n_seq ?_ | refine n_block ?_ | refine r_seq ?_ | refine r_block ?_)) | refine s_reg ?_ | refine s_ifT ?_ | refine s_ifF ?_ | refine r_end ?_ | refine s_endD ?_ | refine s_move ?_ | refine s_assign ?_ | refine s_int ?_ | refine s_loadF1 ?_ | refine s_loadFA ?_ | refine s_indexD ?_ (hel := (by first | exact rfl)) | refine s_fieldF ?_ | refine s_call (h1) ?_ | refine s_call (refBit_c _) ?_ | refine s_storeB ?_ | refine s_alloc ?_ | refine s_build ?_ | refine f_ret1 def_nil ?_ | refine t_cellG ?_ | exact cfs_nil | refine cfs_cons ?_ ?_ | refine cf_d ?_)
    all_goals rfl
  · rw [show cmpE 12 a b = Val.null from if_pos (.inr k)]
    refine pcallN hT Tryz.func154 Tryz.ntmps154 [.cell 4 61] fun B => ?_
    repeat' (first | (with_reducible (first | refine k_seq ?_ | refine k_block ?_ | refine k_skip ?_ | refine k_ret ?_ | refine n_seq ?_ | refine n_block ?_ | refine r_seq ?_ | refine r_block ?_)) | refine s_reg ?_ | refine s_ifT ?_ | refine s_ifF ?_ | refine r_end ?_ | refine s_endD ?_ | refine s_move ?_ | refine s_assign ?_ | refine s_int ?_ | refine s_loadF1 ?_ | refine s_loadFA ?_ | refine s_indexD ?_ (hel := (by first | exact rfl)) | refine s_fieldF ?_ | refine s_storeB ?_ | refine s_alloc ?_ | refine s_build ?_ | refine f_ret1 def_nil ?_ | refine t_cellG ?_ | exact cfs_nil | refine cfs_cons ?_ ?_ | refine cf_d ?_)
    all_goals rfl

theorem sameNull_iff {v : Val} (h : v.valid = true) : v.same Val.null = decide (v.kind = 0) := by
  rw [Bool.eq_iff_iff, same_iff, decide_eq_true_eq]
  constructor
  · intro e; rw [e]; rfl
  · intro e
    rcases valid_kinds h with q | q | q
    · exact q.2
    · omega
    · omega

/-- The operators all of whose operands have to have a value. -/
theorem refApplyS_c (op : Int) (hop : 3 ≤ op ∧ op ≤ 13) (vs : List Val) (R : Val) (hs : (∀ v ∈ vs, v.kind ≠ 0) → PCall Tryz.prog 154 [.one (.lit (.int .i64 op)), .one (rowD vs)] (.v (.agg R.d)))
    (hn : (∃ v ∈ vs, v.kind = 0) → R = Val.null) (hv : ∀ v ∈ vs, v.valid = true) : PCall Tryz.prog 129 [.one (.lit (.int .i64 op)), .one (rowD vs)] (.v (.agg R.d)) := by
  refine pcallN hT Tryz.func129 Tryz.ntmps129 [.cell 4 61] fun B => ?_
  refine k_len 1 rfl fun hlr => ?_
  simp only [List.length_map, maxLen] at hlr
  repeat' (first | (with_reducible (first | refine k_seq ?_ | refine k_block ?_ | refine k_skip ?_ | refine k_exit ?_ | refine k_ret ?_ | refine n_seq ?_ | refine n_block ?_ | refine e_seq ?_ | refine e_here ?_ | refine r_seq ?_ | refine r_block ?_ | refine o_exit ?_ | refine o_ret ?_)) | refine s_reg ?_ | refine s_ifT ?_ | refine s_ifF ?_ | refine r_end ?_ | refine s_endD ?_ | refine s_move ?_ | refine s_assign ?_ | refine s_int ?_ | refine s_eqA ?_ | refine s_loadFA ?_ | refine s_loadBA ?_ | refine s_indexD ?_ (hel := (by first | exact rfl)) | refine s_lenD ?_ | refine s_storeB ?_ | refine s_alloc ?_ | refine s_build ?_ | refine f_ret1 def_nil ?_ | refine t_cellG ?_ | exact cfs_nil | refine cfs_cons ?_ ?_ | refine cf_d ?_)
  refine s_lp (X := Nat) [6, 56, 57, 58, 59, 60, 61, 62, 63, 64, 65, 66, 67, 68] (fun x => x ≤ vs.length ∧ ∀ (i : Nat) v, i < x → vs[i]? = some v → v.kind ≠ 0) (fun x lz => (6, (.c (.d (.lit (.int .i64 x))))) :: lz) (fun x => [.box 1 (Val.null.d.map .d), .box 2 (Val.null.d.map .d)]) (fun x => vs.length - x) (0) ?_ ?_ ?_ ?_
  repeat' (first | exact slots_nil | refine w1 ?_ | exact memIn_nil | refine memIn_same ?_ | omega)
  · exact ⟨by simp, fun i v h => absurd h (Nat.not_lt_zero _)⟩
  rintro i c ⟨hi, hinv⟩
  by_cases hlt : i < vs.length
  · have hx : vs[i]? = some vs[i] := List.getElem?_eq_getElem hlt
    generalize vs[i] = v at hx
    have vv := hv v (List.mem_of_getElem? hx)
    have hsn := sameNull_iff vv
    rw [← litsV] at hsn
    by_cases k : v.kind = 0
    · rw [hn ⟨v, List.mem_of_getElem? hx, k⟩]
      rw [decide_eq_true k] at hsn
      clear hs hn hinv
      repeat' (first | (with_reducible (first | refine k_seq ?_ | refine k_block ?_ | refine k_skip ?_ | refine k_exit ?_ | refine k_ret ?_ | refine n_seq ?_ | refine n_block ?_ | refine e_seq ?_ | refine e_here ?_ | refine r_seq ?_ | refine r_block ?_ | refine o_exit ?_ | refine o_ret ?_)) | refine s_reg ?_ | refine s_ifT ?_ | refine s_ifF ?_ | refine r_end ?_ | refine s_endD ?_ | refine s_move ?_ | refine s_assign ?_ | refine s_int ?_ | refine s_eqA ?_ | refine s_loadFA ?_ | refine s_loadBA ?_ | refine s_indexD ?_ (hel := (by first | exact idx_map hx (by omega) | exact hx | exact rfl)) | refine s_lenD ?_ | refine s_storeB ?_ | refine s_alloc ?_ | refine s_build ?_ | refine f_ret1 def_nil ?_ | refine t_cellG ?_ | exact cfs_nil | refine cfs_cons ?_ ?_ | refine cf_d ?_)
      all_goals first | rfl | (exfalso; simp_all; done)
    · rw [decide_eq_false k] at hsn
      have hin : ∀ (j : Nat) u, j < i + 1 → vs[j]? = some u → u.kind ≠ 0 := fun j u hj hu => by
        by_cases e : j = i
        · subst e; rw [hx] at hu; cases hu; exact k
        · exact hinv j u (by omega) hu
      clear hs hn hinv
      repeat' (first | (with_reducible (first | refine k_seq ?_ | refine k_block ?_ | refine k_skip ?_ | refine k_exit ?_ | refine k_ret ?_ | refine n_seq ?_ | refine n_block ?_ | refine e_seq ?_ | refine e_here ?_ | refine r_seq ?_ | refine r_block ?_ | refine o_exit ?_ | refine o_ret ?_)) | refine s_reg ?_ | refine s_ifT ?_ | refine s_ifF ?_ | refine r_end ?_ | refine s_endD ?_ | refine s_move ?_ | refine s_assign ?_ | refine s_int ?_ | refine s_eqA ?_ | refine s_loadFA ?_ | refine s_loadBA ?_ | refine s_indexD ?_ (hel := (by first | exact idx_map hx (by omega) | exact hx | exact rfl)) | refine s_lenD ?_ | refine s_storeB ?_ | refine s_alloc ?_ | refine s_build ?_ | refine f_ret1 def_nil ?_ | refine t_cellG ?_ | exact cfs_nil | refine cfs_cons ?_ ?_ | refine cf_d ?_)
      all_goals first | (exfalso; simp_all; done) | skip
      (apply s_round (i + 1); all_goals (try dsimp only); all_goals (try (repeat' (first | exact slots_nil | refine w1 ?_ | exact memIn_nil | refine memIn_same ?_ | omega))))
      all_goals exact ⟨by omega, hin⟩
  · have h1 := hs fun v hv' => by
      obtain ⟨j, hj, rfl⟩ := List.mem_iff_getElem.1 hv'
      exact hinv j _ (by omega) (List.getElem?_eq_getElem hj)
    clear hs hn hinv
    repeat' (first | (with_reducible (first | refine k_seq ?_ | refine k_block ?_ | refine k_skip ?_ | refine k_exit ?_ | refine k_ret ?_ | refine n_seq ?_ | refine n_block ?_ | refine e_seq ?_ | refine e_here ?_ | refine r_seq ?_ | refine r_block ?_ | refine o_exit ?_ | refine o_ret ?_)) | refine s_reg ?_ | refine s_ifT ?_ | refine s_ifF ?_ | refine r_end ?_ | refine s_endD ?_ | refine s_move ?_ | refine s_assign ?_ | refine s_int ?_ | refine s_eqA ?_ | refine s_loadFA ?_ | refine s_loadBA ?_ | refine s_indexD ?_ (hel := (by first | exact rfl)) | refine s_call (h1) ?_ | refine s_lenD ?_ | refine s_storeB ?_ | refine s_alloc ?_ | refine s_build ?_ | refine f_ret1 def_nil ?_ | refine t_cellG ?_ | exact cfs_nil | refine cfs_cons ?_ ?_ | refine cf_d ?_)
    all_goals rfl
end Go.Proofs.YtiidgbfdghplhaaGreat
end
