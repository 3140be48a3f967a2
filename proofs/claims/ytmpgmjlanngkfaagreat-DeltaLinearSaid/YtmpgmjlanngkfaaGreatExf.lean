/-
  Expressions: the program's operators.
-/
import Derived.Test.YtmpgmjlanngkfaaGreatExb
import Derived.Test.YtmpgmjlanngkfaaGreatSum
namespace Go.Proofs.YtmpgmjlanngkfaaGreat
open Go.Abs Go.RowKit
attribute [local irreducible] ARun kont MCall PCall HCall resVal SF CF CFs defersOk slotsIn memIn fin finM VLe
set_option linter.unusedSimpArgs false
set_option maxRecDepth 100000
set_option maxHeartbeats 4000000

theorem number_c (n : Int) : PCall Tryz.prog 207 [.one (.lit (.int .i64 n))] (.v (.agg (Val.ofInt n).d)) := by
  refine pcallN hT Tryz.func207 Tryz.ntmps207 [.cell 2 73] fun B => ?_
  repeat' (first | (with_reducible (first | refine k_seq ?_ | refine k_ret ?_ | refine n_seq ?_)) | refine s_reg ?_ | refine r_end ?_ | refine s_move ?_ | refine s_call (clean_c ⟨1, n, ⟨#[]⟩⟩) ?_ | refine s_storeB ?_ | refine s_alloc ?_ | refine s_build ?_ | refine f_ret1 def_nil ?_ | refine t_cellG ?_ | exact cfs_nil | refine cfs_cons ?_ ?_ | refine cf_d ?_)
  all_goals rfl
theorem exTruth_c (b : Bool) : PCall Tryz.prog 206 [.one (.lit (.bool b))] (.v (.agg (truthE b).d)) := by
  cases b
  · refine pcallN hT Tryz.func206 Tryz.ntmps206 [.cell 2 73] fun B => ?_
    repeat' (first | (with_reducible (first | refine k_seq ?_ | refine k_skip ?_ | refine k_ret ?_ | refine n_seq ?_ | refine r_seq ?_)) | refine s_reg ?_ | refine s_ifT ?_ | refine s_ifF ?_ | refine r_end ?_ | refine s_move ?_ | refine s_call (number_c _) ?_ | refine s_storeB ?_ | refine s_alloc ?_ | refine f_ret1 def_nil ?_ | refine t_cellG ?_ | exact cfs_nil | refine cfs_cons ?_ ?_ | refine cf_d ?_)
    all_goals rfl
  · refine pcallN hT Tryz.func206 Tryz.ntmps206 [.cell 2 73] fun B => ?_
    repeat' (first | (with_reducible (first | refine k_seq ?_ | refine k_skip ?_ | refine k_ret ?_ | refine n_seq ?_ | refine r_seq ?_)) | refine s_reg ?_ | refine s_ifT ?_ | refine s_ifF ?_ | refine r_end ?_ | refine s_move ?_ | refine s_call (number_c _) ?_ | refine s_storeB ?_ | refine s_alloc ?_ | refine f_ret1 def_nil ?_ | refine t_cellG ?_ | exact cfs_nil | refine cfs_cons ?_ ?_ | refine cf_d ?_)
    all_goals rfl
theorem isTrue_c (v : Val) : PCall Tryz.prog 153 [.agg v.d] (.v (.one (.lit (.bool (isT v))))) := by
  refine pcallN hT Tryz.func153 Tryz.ntmps153 [.tmp 2] fun B => ?_
  repeat' (first | (with_reducible (first | refine k_seq ?_ | refine k_ret ?_ | refine n_seq ?_)) | refine s_reg ?_ | refine r_end ?_ | refine s_skipS ?_ | refine s_move ?_ | refine s_assign ?_ | refine s_int ?_ | refine s_loadB1 ?_ | refine s_fieldB ?_ | refine s_pick ?_ | refine s_box ?_ | refine s_split rfl rfl (fun hb => ?_) (fun hb => ?_) | refine f_ret1 def_nil ?_ | refine t_tmp ?_)
  all_goals (refine congrArg Dat.lit (congrArg Value.bool ?_); rw [Bool.eq_iff_iff]; simp_all [isT])
theorem isFalse_c (v : Val) : PCall Tryz.prog 242 [.agg v.d] (.v (.one (.lit (.bool (isF v))))) := by
  refine pcallN hT Tryz.func242 Tryz.ntmps242 [.tmp 2] fun B => ?_
  repeat' (first | (with_reducible (first | refine k_seq ?_ | refine k_ret ?_ | refine n_seq ?_)) | refine s_reg ?_ | refine r_end ?_ | refine s_skipS ?_ | refine s_move ?_ | refine s_assign ?_ | refine s_int ?_ | refine s_loadB1 ?_ | refine s_fieldB ?_ | refine s_pick ?_ | refine s_box ?_ | refine s_split rfl rfl (fun hb => ?_) (fun hb => ?_) | refine f_ret1 def_nil ?_ | refine t_tmp ?_)
  all_goals (refine congrArg Dat.lit (congrArg Value.bool ?_); rw [Bool.eq_iff_iff]; simp_all [isF])

theorem exAnd_c (a b : Val) : PCall Tryz.prog 204 [.agg a.d, .agg b.d] (.v (.agg (andE a b).d)) := by
  have h1 := isFalse_c a
  have h2 := isFalse_c b
  have h3 := isTrue_c a
  have h4 := isTrue_c b
  unfold andE
  generalize isF a = p at *
  generalize isF b = q at *
  generalize isT a = r at *
  generalize isT b = s at *
  have t0 := exTruth_c false
  have t1 := exTruth_c true
  cases p <;> cases q <;> cases r <;> cases s
  all_goals
    refine pcallN hT Tryz.func204 Tryz.ntmps204 [.cell 4 73] fun B => ?_
    repeat' (first | (with_reducible (first | refine k_seq ?_ | refine k_block ?_ | refine k_skip ?_ | refine k_ret ?_ | refine n_seq ?_ | refine n_block ?_ | refine r_seq ?_ | refine r_block ?_)) | refine s_reg ?_ | refine s_ifT ?_ | refine s_ifF ?_ | refine r_end ?_ | refine s_skipS ?_ | refine s_move ?_ | refine s_assign ?_ | refine s_loadBA ?_ | refine s_call (h1) ?_ | refine s_call (h2) ?_ | refine s_call (h3) ?_ | refine s_call (h4) ?_ | refine s_call (t0) ?_ | refine s_call (t1) ?_ | refine s_pick ?_ | refine s_storeB ?_ | refine s_alloc ?_ | refine s_box ?_ | refine s_build ?_ | refine f_ret1 def_nil ?_ | refine t_cellG ?_ | exact cfs_nil | refine cfs_cons ?_ ?_ | refine cf_d ?_)
    all_goals rfl
theorem exOr_c (a b : Val) : PCall Tryz.prog 205 [.agg a.d, .agg b.d] (.v (.agg (orE a b).d)) := by
  have h1 := isFalse_c a
  have h2 := isFalse_c b
  have h3 := isTrue_c a
  have h4 := isTrue_c b
  unfold orE
  generalize isF a = p at *
  generalize isF b = q at *
  generalize isT a = r at *
  generalize isT b = s at *
  have t0 := exTruth_c false
  have t1 := exTruth_c true
  cases p <;> cases q <;> cases r <;> cases s
  all_goals
    refine pcallN hT Tryz.func205 Tryz.ntmps205 [.cell 4 73] fun B => ?_
    repeat' (first | (with_reducible (first | refine k_seq ?_ | refine k_block ?_ | refine k_skip ?_ | refine k_ret ?_ | refine n_seq ?_ | refine n_block ?_ | refine r_seq ?_ | refine r_block ?_)) | refine s_reg ?_ | refine s_ifT ?_ | refine s_ifF ?_ | refine r_end ?_ | refine s_skipS ?_ | refine s_move ?_ | refine s_assign ?_ | refine s_loadBA ?_ | refine s_call (h1) ?_ | refine s_call (h2) ?_ | refine s_call (h3) ?_ | refine s_call (h4) ?_ | refine s_call (t0) ?_ | refine s_call (t1) ?_ | refine s_pick ?_ | refine s_storeB ?_ | refine s_alloc ?_ | refine s_box ?_ | refine s_build ?_ | refine f_ret1 def_nil ?_ | refine t_cellG ?_ | exact cfs_nil | refine cfs_cons ?_ ?_ | refine cf_d ?_)
    all_goals rfl

theorem lenient_c (op : Int) (a b c : Val) : PCall Tryz.prog 158 [.one (.lit (.int .i64 op)), .agg a.d, .agg b.d, .agg c.d] (.v (.agg (lenE op a b c).d)) := by
  have h1 := exAnd_c a b
  have h2 := exOr_c a b
  have h3 := isTrue_c a
  have h4 := exTruth_c (decide (a.kind = 0))
  unfold lenE
  refine pcallN hT Tryz.func158 Tryz.ntmps158 [.cell 8 73] fun B => ?_
  repeat' (first | (with_reducible (first | refine k_seq ?_ | refine k_block ?_ | refine k_skip ?_ | refine k_ret ?_ | refine n_seq ?_ | refine n_block ?_ | refine r_seq ?_ | refine r_block ?_)) | refine s_reg ?_ | refine s_if rfl (fun hb => ?_) (fun hb => ?_) | refine r_end ?_ | refine s_move ?_ | refine s_assign ?_ | refine s_int ?_ | refine s_loadB1 ?_ | refine s_loadBA ?_ | refine s_fieldB ?_ | refine s_call (h1) ?_ | refine s_call (h2) ?_ | refine s_call (h3) ?_ | refine s_call (h4) ?_ | refine s_storeB ?_ | refine s_alloc ?_ | refine s_box ?_ | refine f_ret1 def_nil ?_ | refine t_cellG ?_ | exact cfs_nil | refine cfs_cons ?_ ?_ | refine cf_d ?_)
  all_goals simp_all

theorem text_of {s : ByteArray} (h : s.size ≤ 32) : Val.ofText s = ⟨2, 0, s⟩ := by
  simp [Val.ofText, Val.clean, Val.valid, h]
theorem text_big {s : ByteArray} (h : 32 < s.size) : Val.ofText s = Val.null := by
  have h' : ¬ s.size ≤ 32 := by omega
  simp [Val.ofText, Val.clean, Val.valid, h']

theorem ofText_c (op : Int) (a b : Val) (ha : a.valid = true) (hb : b.valid = true) : PCall Tryz.prog 159 [.one (.lit (.int .i64 op)), .agg a.d, .agg b.d] (.v (.agg (txtE op a b).d)) := by
  have h1 := number_c (a.text.size : Int)
  have la : a.kind = 2 → a.text.size ≤ 32 := fun h => by
    rcases valid_kinds ha with h2 | h2 | h2
    · omega
    · omega
    · exact h2.2.1
  have lb : b.kind = 2 → b.text.size ≤ 32 := fun h => by
    rcases valid_kinds hb with h2 | h2 | h2
    · omega
    · omega
    · exact h2.2.1
  by_cases ka : a.kind = 2
  · have la := la ka
    by_cases o9 : op = 9
    · have e : txtE op a b = Val.ofInt a.text.size := by rw [txtE, if_neg (by omega), if_pos o9]
      rw [e]
      refine pcallN hT Tryz.func159 Tryz.ntmps159 [.cell 6 73] fun B => ?_
      repeat' (first | (with_reducible (first | refine k_seq ?_ | refine k_block ?_ | refine k_skip ?_ | refine k_ret ?_ | refine n_seq ?_ | refine n_block ?_ | refine r_seq ?_ | refine r_block ?_)) | refine s_reg ?_ | refine s_ifT ?_ | refine s_ifF ?_ | refine r_end ?_ | refine s_skipS ?_ | refine s_move ?_ | refine s_assign ?_ | refine s_int ?_ | refine s_str ?_ | refine s_loadB1 ?_ | refine s_fieldB ?_ | refine s_call (h1) ?_ | refine s_pick ?_ | refine s_lenS ?_ | refine s_min ?_ | refine s_storeB ?_ | refine s_alloc ?_ | refine s_box ?_ | refine s_build ?_ | refine s_sliceS ?_ | refine s_kT ?_ | refine s_kF ?_ | refine s_split rfl rfl (fun hb => ?_) (fun hb => ?_) | refine f_ret1 def_nil ?_ | refine t_cellG ?_ | exact cfs_nil | refine cfs_cons ?_ ?_ | refine cf_d ?_)
      all_goals rfl
    by_cases o8 : op = 8
    · by_cases kb : b.kind = 2
      · have lb := lb kb
        have e : txtE op a b = Val.ofText (a.text ++ b.text) := by rw [txtE, if_neg (by omega), if_neg o9, if_pos ⟨o8, kb⟩]
        rw [e]
        have hz : (a.text ++ b.text).size = a.text.size + b.text.size := ByteArray.size_append
        by_cases hl : a.text.size + b.text.size ≤ 32
        · rw [text_of (by omega)]
          refine pcallN hT Tryz.func159 Tryz.ntmps159 [.cell 6 73] fun B => ?_
          repeat' (first | (with_reducible (first | refine k_seq ?_ | refine k_block ?_ | refine k_skip ?_ | refine k_ret ?_ | refine n_seq ?_ | refine n_block ?_ | refine r_seq ?_ | refine r_block ?_)) | refine s_reg ?_ | refine s_ifT ?_ | refine s_ifF ?_ | refine r_end ?_ | refine s_skipS ?_ | refine s_move ?_ | refine s_assign ?_ | refine s_int ?_ | refine s_str ?_ | refine s_loadB1 ?_ | refine s_fieldB ?_ | refine s_pick ?_ | refine s_lenS ?_ | refine s_min ?_ | refine s_storeB ?_ | refine s_alloc ?_ | refine s_box ?_ | refine s_build ?_ | refine s_sliceS ?_ | refine s_kT ?_ | refine s_kF ?_ | refine s_split rfl rfl (fun hb => ?_) (fun hb => ?_) | refine f_ret1 def_nil ?_ | refine t_cellG ?_ | exact cfs_nil | refine cfs_cons ?_ ?_ | refine cf_d ?_)
          all_goals rfl
        · rw [text_big (by omega)]
          refine pcallN hT Tryz.func159 Tryz.ntmps159 [.cell 6 73] fun B => ?_
          repeat' (first | (with_reducible (first | refine k_seq ?_ | refine k_block ?_ | refine k_skip ?_ | refine k_ret ?_ | refine n_seq ?_ | refine n_block ?_ | refine r_seq ?_ | refine r_block ?_)) | refine s_reg ?_ | refine s_ifT ?_ | refine s_ifF ?_ | refine r_end ?_ | refine s_skipS ?_ | refine s_move ?_ | refine s_assign ?_ | refine s_int ?_ | refine s_str ?_ | refine s_loadB1 ?_ | refine s_fieldB ?_ | refine s_pick ?_ | refine s_lenS ?_ | refine s_min ?_ | refine s_storeB ?_ | refine s_alloc ?_ | refine s_box ?_ | refine s_build ?_ | refine s_sliceS ?_ | refine s_kT ?_ | refine s_kF ?_ | refine s_split rfl rfl (fun hb => ?_) (fun hb => ?_) | refine f_ret1 def_nil ?_ | refine t_cellG ?_ | exact cfs_nil | refine cfs_cons ?_ ?_ | refine cf_d ?_)
          all_goals rfl
      · have e : txtE op a b = Val.null := by rw [txtE, if_neg (by omega), if_neg o9, if_neg (fun q => kb q.2), if_neg (fun q => by omega)]
        rw [e]
        refine pcallN hT Tryz.func159 Tryz.ntmps159 [.cell 6 73] fun B => ?_
        repeat' (first | (with_reducible (first | refine k_seq ?_ | refine k_block ?_ | refine k_skip ?_ | refine k_ret ?_ | refine n_seq ?_ | refine n_block ?_ | refine r_seq ?_ | refine r_block ?_)) | refine s_reg ?_ | refine s_ifT ?_ | refine s_ifF ?_ | refine r_end ?_ | refine s_skipS ?_ | refine s_move ?_ | refine s_assign ?_ | refine s_int ?_ | refine s_str ?_ | refine s_loadB1 ?_ | refine s_fieldB ?_ | refine s_pick ?_ | refine s_lenS ?_ | refine s_min ?_ | refine s_storeB ?_ | refine s_alloc ?_ | refine s_box ?_ | refine s_build ?_ | refine s_sliceS ?_ | refine s_kT ?_ | refine s_kF ?_ | refine s_split rfl rfl (fun hb => ?_) (fun hb => ?_) | refine f_ret1 def_nil ?_ | refine t_cellG ?_ | exact cfs_nil | refine cfs_cons ?_ ?_ | refine cf_d ?_)
        all_goals rfl
    by_cases o10 : op = 10 ∧ b.kind = 1 ∧ 0 ≤ b.int
    · obtain ⟨p1, p2, p3⟩ := o10
      have hm : (min b.int a.text.size).toNat ≤ a.text.size := by omega
      have e : txtE op a b = Val.ofText (a.text.extract 0 (min b.int a.text.size).toNat) := by rw [txtE, if_neg (by omega), if_neg o9, if_neg (fun q => o8 q.1), if_pos ⟨p1, p2, p3⟩]
      rw [e, text_of (by rw [ByteArray.size_extract]; omega)]
      refine pcallN hT Tryz.func159 Tryz.ntmps159 [.cell 6 73] fun B => ?_
      repeat' (first | (with_reducible (first | refine k_seq ?_ | refine k_block ?_ | refine k_skip ?_ | refine k_ret ?_ | refine n_seq ?_ | refine n_block ?_ | refine r_seq ?_ | refine r_block ?_)) | refine s_reg ?_ | refine s_ifT ?_ | refine s_ifF ?_ | refine r_end ?_ | refine s_skipS ?_ | refine s_move ?_ | refine s_assign ?_ | refine s_int ?_ | refine s_str ?_ | refine s_loadB1 ?_ | refine s_fieldB ?_ | refine s_pick ?_ | refine s_lenS ?_ | refine s_min ?_ | refine s_storeB ?_ | refine s_alloc ?_ | refine s_box ?_ | refine s_build ?_ | refine s_sliceS ?_ | refine s_kT ?_ | refine s_kF ?_ | refine s_split rfl rfl (fun hb => ?_) (fun hb => ?_) | refine f_ret1 def_nil ?_ | refine t_cellG ?_ | exact cfs_nil | refine cfs_cons ?_ ?_ | refine cf_d ?_)
      all_goals first | rfl | (rw [show ∀ x y : Int, (if x < y then x else y) = min y x from fun x y => by split <;> omega]; rfl)
    · have e : txtE op a b = Val.null := by rw [txtE, if_neg (by omega), if_neg o9, if_neg (fun q => o8 q.1), if_neg o10]
      rw [e]
      refine pcallN hT Tryz.func159 Tryz.ntmps159 [.cell 6 73] fun B => ?_
      repeat' (first | (with_reducible (first | refine k_seq ?_ | refine k_block ?_ | refine k_skip ?_ | refine k_ret ?_ | refine n_seq ?_ | refine n_block ?_ | refine r_seq ?_ | refine r_block ?_)) | refine s_reg ?_ | refine s_ifT ?_ | refine s_ifF ?_ | refine r_end ?_ | refine s_skipS ?_ | refine s_move ?_ | refine s_assign ?_ | refine s_int ?_ | refine s_str ?_ | refine s_loadB1 ?_ | refine s_fieldB ?_ | refine s_pick ?_ | refine s_lenS ?_ | refine s_min ?_ | refine s_storeB ?_ | refine s_alloc ?_ | refine s_box ?_ | refine s_build ?_ | refine s_sliceS ?_ | refine s_kT ?_ | refine s_kF ?_ | refine s_split rfl rfl (fun hb => ?_) (fun hb => ?_) | refine f_ret1 def_nil ?_ | refine t_cellG ?_ | exact cfs_nil | refine cfs_cons ?_ ?_ | refine cf_d ?_)
      all_goals first | rfl | omega
  · have e : txtE op a b = Val.null := by rw [txtE, if_pos ka]
    rw [e]
    refine pcallN hT Tryz.func159 Tryz.ntmps159 [.cell 6 73] fun B => ?_
    repeat' (first | (with_reducible (first | refine k_seq ?_ | refine k_block ?_ | refine k_skip ?_ | refine k_ret ?_ | refine n_seq ?_ | refine n_block ?_ | refine r_seq ?_ | refine r_block ?_)) | refine s_reg ?_ | refine s_ifT ?_ | refine s_ifF ?_ | refine r_end ?_ | refine s_skipS ?_ | refine s_move ?_ | refine s_assign ?_ | refine s_int ?_ | refine s_str ?_ | refine s_loadB1 ?_ | refine s_fieldB ?_ | refine s_pick ?_ | refine s_lenS ?_ | refine s_min ?_ | refine s_storeB ?_ | refine s_alloc ?_ | refine s_box ?_ | refine s_build ?_ | refine s_sliceS ?_ | refine s_kT ?_ | refine s_kF ?_ | refine s_split rfl rfl (fun hb => ?_) (fun hb => ?_) | refine f_ret1 def_nil ?_ | refine t_cellG ?_ | exact cfs_nil | refine cfs_cons ?_ ?_ | refine cf_d ?_)
    all_goals rfl

theorem litsV (a b : Val) : litsEq [.int .i64 a.kind, .int .i64 a.int, .string a.text] [.int .i64 b.kind, .int .i64 b.int, .string b.text] = a.same b := by
  simp [litsEq, litEq, Val.same]
theorem exCompare_c (op : Int) (a b : Val) : PCall Tryz.prog 160 [.one (.lit (.int .i64 op)), .agg a.d, .agg b.d] (.v (.agg (cmpE op a b).d)) := by
  have h1 := compare_c a b
  by_cases k : a.kind = 0 ∨ a.kind ≠ b.kind
  · rw [show cmpE op a b = Val.null from if_pos k]
    rcases k with k | k
    · refine pcallN hT Tryz.func160 Tryz.ntmps160 [.cell 6 73] fun B => ?_
      repeat' (first | (with_reducible (first | refine k_seq ?_ | refine k_block ?_ | refine k_skip ?_ | refine k_ret ?_ | refine n_seq ?_ | refine n_block ?_ | refine r_seq ?_ | refine r_block ?_)) | refine s_reg ?_ | refine s_ifT ?_ | refine s_ifF ?_ | refine r_end ?_ | refine s_skipS ?_ | refine s_move ?_ | refine s_assign ?_ | refine s_int ?_ | refine s_eqA ?_ | refine s_loadB1 ?_ | refine s_loadBA ?_ | refine s_fieldB ?_ | refine s_pick ?_ | refine s_storeB ?_ | refine s_alloc ?_ | refine s_box ?_ | refine s_build ?_ | refine s_kT ?_ | refine s_kF ?_ | refine s_split rfl rfl (fun hb => ?_) (fun hb => ?_) | refine f_ret1 def_nil ?_ | refine t_cellG ?_ | exact cfs_nil | refine cfs_cons ?_ ?_ | refine cf_d ?_)
      all_goals rfl
    · refine pcallN hT Tryz.func160 Tryz.ntmps160 [.cell 6 73] fun B => ?_
      repeat' (first | (with_reducible (first | refine k_seq ?_ | refine k_block ?_ | refine k_skip ?_ | refine k_ret ?_ | refine n_seq ?_ | refine n_block ?_ | refine r_seq ?_ | refine r_block ?_)) | refine s_reg ?_ | refine s_ifT ?_ | refine s_ifF ?_ | refine r_end ?_ | refine s_skipS ?_ | refine s_move ?_ | refine s_assign ?_ | refine s_int ?_ | refine s_eqA ?_ | refine s_loadB1 ?_ | refine s_loadBA ?_ | refine s_fieldB ?_ | refine s_pick ?_ | refine s_storeB ?_ | refine s_alloc ?_ | refine s_box ?_ | refine s_build ?_ | refine s_kT ?_ | refine s_kF ?_ | refine s_split rfl rfl (fun hb => ?_) (fun hb => ?_) | refine f_ret1 def_nil ?_ | refine t_cellG ?_ | exact cfs_nil | refine cfs_cons ?_ ?_ | refine cf_d ?_)
      all_goals rfl
  · have k1 : ¬ a.kind = 0 := fun q => k (.inl q)
    have k2 : a.kind = b.kind := Classical.byContradiction fun q => k (.inr q)
    by_cases o : op = 11
    · rw [show cmpE op a b = truthE (a.same b) by rw [cmpE, if_neg k, if_pos o], ← litsV]
      refine pcallN hT Tryz.func160 Tryz.ntmps160 [.cell 6 73] fun B => ?_
      repeat' (first | (with_reducible (first | refine k_seq ?_ | refine k_block ?_ | refine k_skip ?_ | refine k_ret ?_ | refine n_seq ?_ | refine n_block ?_ | refine r_seq ?_ | refine r_block ?_)) | refine s_reg ?_ | refine s_ifT ?_ | refine s_ifF ?_ | refine r_end ?_ | refine s_skipS ?_ | refine s_move ?_ | refine s_assign ?_ | refine s_int ?_ | refine s_eqA ?_ | refine s_loadB1 ?_ | refine s_loadBA ?_ | refine s_fieldB ?_ | refine s_call (h1) ?_ | refine s_call (exTruth_c _) ?_ | refine s_pick ?_ | refine s_storeB ?_ | refine s_alloc ?_ | refine s_box ?_ | refine s_build ?_ | refine s_kT ?_ | refine s_kF ?_ | refine s_split rfl rfl (fun hb => ?_) (fun hb => ?_) | refine f_ret1 def_nil ?_ | refine t_cellG ?_ | exact cfs_nil | refine cfs_cons ?_ ?_ | refine cf_d ?_)
      all_goals rfl
    · rw [show cmpE op a b = truthE (decide (a.cmp b < 0)) by rw [cmpE, if_neg k, if_neg o]]
      refine pcallN hT Tryz.func160 Tryz.ntmps160 [.cell 6 73] fun B => ?_
      repeat' (first | (with_reducible (first | refine k_seq ?_ | refine k_block ?_ | refine k_skip ?_ | refine k_ret ?_ | refine n_seq ?_ | refine n_block ?_ | refine r_seq ?_ | refine r_block ?_)) | refine s_reg ?_ | refine s_ifT ?_ | refine s_ifF ?_ | refine r_end ?_ | refine s_skipS ?_ | refine s_move ?_ | refine s_assign ?_ | refine s_int ?_ | refine s_eqA ?_ | refine s_loadB1 ?_ | refine s_loadBA ?_ | refine s_fieldB ?_ | refine s_call (h1) ?_ | refine s_call (exTruth_c _) ?_ | refine s_pick ?_ | refine s_storeB ?_ | refine s_alloc ?_ | refine s_box ?_ | refine s_build ?_ | refine s_kT ?_ | refine s_kF ?_ | refine s_split rfl rfl (fun hb => ?_) (fun hb => ?_) | refine f_ret1 def_nil ?_ | refine t_cellG ?_ | exact cfs_nil | refine cfs_cons ?_ ?_ | refine cf_d ?_)
      all_goals rfl
end Go.Proofs.YtmpgmjlanngkfaaGreat
