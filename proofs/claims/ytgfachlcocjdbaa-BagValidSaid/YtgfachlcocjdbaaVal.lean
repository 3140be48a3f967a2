/-
  Values: what they are as data, and the program's own functions on them.
-/
import Derived.Test.YtgfachlcocjdbaaTypes
namespace Go.Proofs.Ytgfachlcocjdbaa
open Go.Abs Go.RowKit
attribute [local irreducible] ARun kont MCall PCall HCall resVal SF CF CFs defersOk slotsIn memIn fin finM VLe
set_option linter.unusedSimpArgs false
set_option maxRecDepth 100000

structure Val where
  kind : Int
  int : Int
  text : ByteArray

def Val.d (v : Val) : List Dat := [.lit (.int .i64 v.kind), .lit (.int .i64 v.int), .lit (.string v.text)]

def Val.valid (v : Val) : Bool :=
  if v.kind = 0 then decide (v.int = 0) && v.text.toList.isEmpty
  else if v.kind = 1 then decide (-4294967296 ≤ v.int) && decide (v.int ≤ 4294967296) && v.text.toList.isEmpty
  else if v.kind = 2 then decide (v.int = 0) && decide (v.text.size ≤ 32)
  else false

theorem bytes_nil (s : ByteArray) : (s.toList == ({ data := #[] } : ByteArray).toList) = s.toList.isEmpty := by
  have : ({ data := #[] } : ByteArray).toList = [] := by rw [ByteArray.toList_eq]
  rw [this]
  cases s.toList <;> rfl

theorem valid_c (v : Val) : PCall Try.prog 83 [.agg v.d] (.v (.one (.lit (.bool v.valid)))) := by
  refine pcallN hT Try.func83 Try.ntmps83 [.tmp 2] fun B => ?_
  repeat' (first | (with_reducible (first | refine k_seq ?_ | refine k_block ?_ | refine k_skip ?_ | refine k_ret ?_ | refine n_seq ?_ | refine n_block ?_ | refine r_seq ?_ | refine r_block ?_)) | refine s_reg ?_ | refine s_if rfl (fun hb => ?_) (fun hb => ?_) | refine r_end ?_ | refine s_skipS ?_ | refine s_move ?_ | refine s_assign ?_ | refine s_int ?_ | refine s_str ?_ | refine s_loadB1 ?_ | refine s_fieldB ?_ | refine s_pick ?_ | refine s_lenS ?_ | refine s_box ?_ | refine s_split rfl rfl (fun hb => ?_) (fun hb => ?_) | refine f_ret1 def_nil ?_ | refine t_tmp ?_)
  all_goals (refine congrArg Dat.lit (congrArg Value.bool ?_); simp_all [Val.valid, bytes_nil])
  all_goals (intros; omega)

def Val.null : Val := ⟨0, 0, ⟨#[]⟩⟩
def Val.clean (v : Val) : Val := if v.valid then v else Val.null

theorem clean_c (v : Val) : PCall Try.prog 70 [.agg v.d] (.v (.agg v.clean.d)) := by
  refine pcallN hT Try.func70 Try.ntmps70 [.cell 2 41] fun B => ?_
  repeat' (first | (with_reducible (first | refine k_seq ?_ | refine k_skip ?_ | refine k_ret ?_ | refine n_seq ?_ | refine r_seq ?_)) | refine s_reg ?_ | refine s_if rfl (fun hb => ?_) (fun hb => ?_) | refine r_end ?_ | refine s_loadBA ?_ | refine s_call (valid_c _) ?_ | refine s_storeB ?_ | refine s_alloc ?_ | refine s_box ?_ | refine s_build ?_ | refine f_ret1 def_nil ?_ | refine t_cellG ?_ | exact cfs_nil | refine cfs_cons ?_ ?_ | refine cf_d ?_)
  all_goals simp_all [Val.clean, Val.null]

theorem refValid_c (v : Val) : PCall Try.prog 77 [.agg v.d] (.v (.one (.lit (.bool v.valid)))) := by
  refine pcallN hT Try.func77 Try.ntmps77 [.tmp 2] fun B => ?_
  repeat' (first | (with_reducible (first | refine k_seq ?_ | refine k_block ?_ | refine k_skip ?_ | refine k_ret ?_ | refine n_seq ?_ | refine n_block ?_ | refine r_seq ?_ | refine r_block ?_)) | refine s_reg ?_ | refine s_if rfl (fun hb => ?_) (fun hb => ?_) | refine r_end ?_ | refine s_skipS ?_ | refine s_move ?_ | refine s_assign ?_ | refine s_int ?_ | refine s_str ?_ | refine s_loadB1 ?_ | refine s_fieldB ?_ | refine s_pick ?_ | refine s_lenS ?_ | refine s_box ?_ | refine s_split rfl rfl (fun hb => ?_) (fun hb => ?_) | refine f_ret1 def_nil ?_ | refine t_tmp ?_)
  all_goals (refine congrArg Dat.lit (congrArg Value.bool ?_); simp_all [Val.valid, bytes_nil])
  all_goals (intros; omega)

theorem refClean_c (v : Val) : PCall Try.prog 49 [.agg v.d] (.v (.agg v.clean.d)) := by
  refine pcallN hT Try.func49 Try.ntmps49 [.cell 2 41] fun B => ?_
  repeat' (first | (with_reducible (first | refine k_seq ?_ | refine k_skip ?_ | refine k_ret ?_ | refine n_seq ?_ | refine r_seq ?_)) | refine s_reg ?_ | refine s_if rfl (fun hb => ?_) (fun hb => ?_) | refine r_end ?_ | refine s_loadBA ?_ | refine s_call (refValid_c _) ?_ | refine s_storeB ?_ | refine s_alloc ?_ | refine s_box ?_ | refine s_build ?_ | refine f_ret1 def_nil ?_ | refine t_cellG ?_ | exact cfs_nil | refine cfs_cons ?_ ?_ | refine cf_d ?_)
  all_goals simp_all [Val.clean, Val.null]

def Val.ofInt (n : Int) : Val := Val.clean ⟨1, n, ⟨#[]⟩⟩

theorem refInt_c (n : Int) : PCall Try.prog 20 [.one (.lit (.int .i64 n))] (.v (.agg (Val.ofInt n).d)) := by
  refine pcallN hT Try.func20 Try.ntmps20 [.cell 2 41] fun B => ?_
  repeat' (first | (with_reducible (first | refine k_seq ?_ | refine k_ret ?_ | refine n_seq ?_)) | refine s_reg ?_ | refine r_end ?_ | refine s_move ?_ | refine s_call (refClean_c ⟨1, n, ⟨#[]⟩⟩) ?_ | refine s_storeB ?_ | refine s_alloc ?_ | refine s_build ?_ | refine f_ret1 def_nil ?_ | refine t_cellG ?_ | exact cfs_nil | refine cfs_cons ?_ ?_ | refine cf_d ?_)
  all_goals rfl

def icmp (a b : Int) : Int := if a < b then -1 else if a > b then 1 else 0

theorem isNaN_c (a : Int) : PCall Try.prog 98 [.one (.lit (.int .i64 a))] (.v (.one (.lit (.bool false)))) := by
  refine pcallN hT Try.func98 Try.ntmps98 [.tmp 2] fun B => ?_
  repeat' (first | (with_reducible (first | refine k_seq ?_ | refine k_ret ?_ | refine n_seq ?_)) | refine s_reg ?_ | refine r_end ?_ | refine s_move ?_ | refine s_assign ?_ | refine s_int ?_ | refine f_ret1 def_nil ?_ | refine t_tmp ?_)
  all_goals simp
theorem isNaN64_c (a : Int) : PCall Try.prog 104 [.one (.lit (.int .i64 a))] (.v (.one (.lit (.bool false)))) := by
  refine pcallN hT Try.func104 Try.ntmps104 [.tmp 2] fun B => ?_
  repeat' (first | (with_reducible (first | refine k_seq ?_ | refine k_ret ?_ | refine n_seq ?_)) | refine s_reg ?_ | refine r_end ?_ | refine s_move ?_ | refine s_assign ?_ | refine s_int ?_ | refine f_ret1 def_nil ?_ | refine t_tmp ?_)
  all_goals simp
theorem cmpInt_c (a b : Int) : PCall Try.prog 76 [.one (.lit (.int .i64 a)), .one (.lit (.int .i64 b))] (.v (.one (.lit (.int .i64 (icmp a b))))) := by
  refine pcallN hT Try.func76 Try.ntmps76 [.tmp 4] fun B => ?_
  repeat' (first | (with_reducible (first | refine k_seq ?_ | refine k_skip ?_ | refine k_ret ?_ | refine n_seq ?_ | refine r_seq ?_)) | refine s_reg ?_ | refine s_ifF ?_ | refine s_if rfl (fun hb => ?_) (fun hb => ?_) | refine r_end ?_ | refine s_move ?_ | refine s_assign ?_ | refine s_int ?_ | refine s_call (isNaN_c _) ?_ | refine f_ret1 def_nil ?_ | refine t_tmp ?_)
  all_goals (refine congrArg Dat.lit (congrArg (Value.int _) ?_); simp_all [icmp])
  all_goals omega
theorem cmpInt64_c (a b : Int) : PCall Try.prog 96 [.one (.lit (.int .i64 a)), .one (.lit (.int .i64 b))] (.v (.one (.lit (.int .i64 (icmp a b))))) := by
  refine pcallN hT Try.func96 Try.ntmps96 [.tmp 4] fun B => ?_
  repeat' (first | (with_reducible (first | refine k_seq ?_ | refine k_skip ?_ | refine k_ret ?_ | refine n_seq ?_ | refine r_seq ?_)) | refine s_reg ?_ | refine s_ifF ?_ | refine s_if rfl (fun hb => ?_) (fun hb => ?_) | refine r_end ?_ | refine s_move ?_ | refine s_assign ?_ | refine s_int ?_ | refine s_call (isNaN64_c _) ?_ | refine f_ret1 def_nil ?_ | refine t_tmp ?_)
  all_goals (refine congrArg Dat.lit (congrArg (Value.int _) ?_); simp_all [icmp])
  all_goals omega
end Go.Proofs.Ytgfachlcocjdbaa
