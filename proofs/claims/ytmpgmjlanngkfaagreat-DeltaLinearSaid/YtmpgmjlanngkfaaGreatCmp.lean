/-
  How values and rows are compared.
-/
import Derived.Test.YtmpgmjlanngkfaaGreatTypes
import Derived.Lib.Strings
import Derived.Lib.Slices
import Derived.Lib.Walk
import Derived.Lib.Bytealg
section
namespace Go.Proofs.YtmpgmjlanngkfaaGreat
open Go.Abs Go.RowKit
attribute [local irreducible] ARun kont MCall PCall HCall resVal SF CF CFs defersOk slotsIn memIn fin finM VLe
set_option linter.unusedSimpArgs false
set_option maxRecDepth 100000

structure Val where
  kind : Int
  int : Int
  text : ByteArray

def Val.d (v : Val) : List Dat := [.lit (.int .i64 v.kind), .lit (.int .i64 v.int), .lit (.string v.text)]

def Val.valid (v : Val) : Bool :=
  if v.kind = 0 then decide (v.int = 0) && v.text.toList.isEmpty
  else if v.kind = 1 then decide (-4294967296 ≤ v.int) && decide (v.int ≤ 4294967296) && v.text.toList.isEmpty
  else if v.kind = 2 then decide (v.int = 0) && decide (v.text.size ≤ 32)
  else false

theorem bytes_nil (s : ByteArray) : (s.toList == ({ data := #[] } : ByteArray).toList) = s.toList.isEmpty := by
  have : ({ data := #[] } : ByteArray).toList = [] := by rw [ByteArray.toList_eq]
  rw [this]
  cases s.toList <;> rfl

theorem valid_c (v : Val) : PCall Tryz.prog 179 [.agg v.d] (.v (.one (.lit (.bool v.valid)))) := by
  refine pcallN hT Tryz.func179 Tryz.ntmps179 [.tmp 2] fun B => ?_
  repeat' (first | (with_reducible (first | refine k_seq ?_ | refine k_block ?_ | refine k_skip ?_ | refine k_ret ?_ | refine n_seq ?_ | refine n_block ?_ | refine r_seq ?_ | refine r_block ?_)) | refine s_reg ?_ | refine s_if rfl (fun hb => ?_) (fun hb => ?_) | refine r_end ?_ | refine s_skipS ?_ | refine s_move ?_ | refine s_assign ?_ | refine s_int ?_ | refine s_str ?_ | refine s_loadB1 ?_ | refine s_fieldB ?_ | refine s_pick ?_ | refine s_lenS ?_ | refine s_box ?_ | refine s_split rfl rfl (fun hb => ?_) (fun hb => ?_) | refine f_ret1 def_nil ?_ | refine t_tmp ?_)
  all_goals (refine congrArg Dat.lit (congrArg Value.bool ?_); simp_all [Val.valid, bytes_nil])
  all_goals (intros; omega)

def Val.null : Val := ⟨0, 0, ⟨#[]⟩⟩
def Val.clean (v : Val) : Val := if v.valid then v else Val.null

theorem clean_c (v : Val) : PCall Tryz.prog 172 [.agg v.d] (.v (.agg v.clean.d)) := by
  refine pcallN hT Tryz.func172 Tryz.ntmps172 [.cell 2 73] fun B => ?_
  repeat' (first | (with_reducible (first | refine k_seq ?_ | refine k_skip ?_ | refine k_ret ?_ | refine n_seq ?_ | refine r_seq ?_)) | refine s_reg ?_ | refine s_if rfl (fun hb => ?_) (fun hb => ?_) | refine r_end ?_ | refine s_loadBA ?_ | refine s_call (valid_c _) ?_ | refine s_storeB ?_ | refine s_alloc ?_ | refine s_box ?_ | refine s_build ?_ | refine f_ret1 def_nil ?_ | refine t_cellG ?_ | exact cfs_nil | refine cfs_cons ?_ ?_ | refine cf_d ?_)
  all_goals simp_all [Val.clean, Val.null]

theorem refValid_c (v : Val) : PCall Tryz.prog 130 [.agg v.d] (.v (.one (.lit (.bool v.valid)))) := by
  refine pcallN hT Tryz.func130 Tryz.ntmps130 [.tmp 2] fun B => ?_
  repeat' (first | (with_reducible (first | refine k_seq ?_ | refine k_block ?_ | refine k_skip ?_ | refine k_ret ?_ | refine n_seq ?_ | refine n_block ?_ | refine r_seq ?_ | refine r_block ?_)) | refine s_reg ?_ | refine s_if rfl (fun hb => ?_) (fun hb => ?_) | refine r_end ?_ | refine s_skipS ?_ | refine s_move ?_ | refine s_assign ?_ | refine s_int ?_ | refine s_str ?_ | refine s_loadB1 ?_ | refine s_fieldB ?_ | refine s_pick ?_ | refine s_lenS ?_ | refine s_box ?_ | refine s_split rfl rfl (fun hb => ?_) (fun hb => ?_) | refine f_ret1 def_nil ?_ | refine t_tmp ?_)
  all_goals (refine congrArg Dat.lit (congrArg Value.bool ?_); simp_all [Val.valid, bytes_nil])
  all_goals (intros; omega)

theorem refClean_c (v : Val) : PCall Tryz.prog 140 [.agg v.d] (.v (.agg v.clean.d)) := by
  refine pcallN hT Tryz.func140 Tryz.ntmps140 [.cell 2 73] fun B => ?_
  repeat' (first | (with_reducible (first | refine k_seq ?_ | refine k_skip ?_ | refine k_ret ?_ | refine n_seq ?_ | refine r_seq ?_)) | refine s_reg ?_ | refine s_if rfl (fun hb => ?_) (fun hb => ?_) | refine r_end ?_ | refine s_loadBA ?_ | refine s_call (refValid_c _) ?_ | refine s_storeB ?_ | refine s_alloc ?_ | refine s_box ?_ | refine s_build ?_ | refine f_ret1 def_nil ?_ | refine t_cellG ?_ | exact cfs_nil | refine cfs_cons ?_ ?_ | refine cf_d ?_)
  all_goals simp_all [Val.clean, Val.null]

def Val.ofInt (n : Int) : Val := Val.clean ⟨1, n, ⟨#[]⟩⟩

theorem refInt_c (n : Int) : PCall Tryz.prog 86 [.one (.lit (.int .i64 n))] (.v (.agg (Val.ofInt n).d)) := by
  refine pcallN hT Tryz.func86 Tryz.ntmps86 [.cell 2 73] fun B => ?_
  repeat' (first | (with_reducible (first | refine k_seq ?_ | refine k_ret ?_ | refine n_seq ?_)) | refine s_reg ?_ | refine r_end ?_ | refine s_move ?_ | refine s_call (refClean_c ⟨1, n, ⟨#[]⟩⟩) ?_ | refine s_storeB ?_ | refine s_alloc ?_ | refine s_build ?_ | refine f_ret1 def_nil ?_ | refine t_cellG ?_ | exact cfs_nil | refine cfs_cons ?_ ?_ | refine cf_d ?_)
  all_goals rfl

def icmp (a b : Int) : Int := if a < b then -1 else if a > b then 1 else 0

theorem isNaN_c (a : Int) : PCall Tryz.prog 175 [.one (.lit (.int .i64 a))] (.v (.one (.lit (.bool false)))) := by
  refine pcallN hT Tryz.func175 Tryz.ntmps175 [.tmp 2] fun B => ?_
  repeat' (first | (with_reducible (first | refine k_seq ?_ | refine k_ret ?_ | refine n_seq ?_)) | refine s_reg ?_ | refine r_end ?_ | refine s_move ?_ | refine s_assign ?_ | refine s_int ?_ | refine f_ret1 def_nil ?_ | refine t_tmp ?_)
  all_goals simp
theorem isNaN64_c (a : Int) : PCall Tryz.prog 215 [.one (.lit (.int .i64 a))] (.v (.one (.lit (.bool false)))) := by
  refine pcallN hT Tryz.func215 Tryz.ntmps215 [.tmp 2] fun B => ?_
  repeat' (first | (with_reducible (first | refine k_seq ?_ | refine k_ret ?_ | refine n_seq ?_)) | refine s_reg ?_ | refine r_end ?_ | refine s_move ?_ | refine s_assign ?_ | refine s_int ?_ | refine f_ret1 def_nil ?_ | refine t_tmp ?_)
  all_goals simp
theorem cmpInt_c (a b : Int) : PCall Tryz.prog 112 [.one (.lit (.int .i64 a)), .one (.lit (.int .i64 b))] (.v (.one (.lit (.int .i64 (icmp a b))))) := by
  refine pcallN hT Tryz.func112 Tryz.ntmps112 [.tmp 4] fun B => ?_
  repeat' (first | (with_reducible (first | refine k_seq ?_ | refine k_skip ?_ | refine k_ret ?_ | refine n_seq ?_ | refine r_seq ?_)) | refine s_reg ?_ | refine s_ifF ?_ | refine s_if rfl (fun hb => ?_) (fun hb => ?_) | refine r_end ?_ | refine s_move ?_ | refine s_assign ?_ | refine s_int ?_ | refine s_call (isNaN_c _) ?_ | refine f_ret1 def_nil ?_ | refine t_tmp ?_)
  all_goals (refine congrArg Dat.lit (congrArg (Value.int _) ?_); simp_all [icmp])
  all_goals omega
theorem cmpInt64_c (a b : Int) : PCall Tryz.prog 173 [.one (.lit (.int .i64 a)), .one (.lit (.int .i64 b))] (.v (.one (.lit (.int .i64 (icmp a b))))) := by
  refine pcallN hT Tryz.func173 Tryz.ntmps173 [.tmp 4] fun B => ?_
  repeat' (first | (with_reducible (first | refine k_seq ?_ | refine k_skip ?_ | refine k_ret ?_ | refine n_seq ?_ | refine r_seq ?_)) | refine s_reg ?_ | refine s_ifF ?_ | refine s_if rfl (fun hb => ?_) (fun hb => ?_) | refine r_end ?_ | refine s_move ?_ | refine s_assign ?_ | refine s_int ?_ | refine s_call (isNaN64_c _) ?_ | refine f_ret1 def_nil ?_ | refine t_tmp ?_)
  all_goals (refine congrArg Dat.lit (congrArg (Value.int _) ?_); simp_all [icmp])
  all_goals omega
end Go.Proofs.YtmpgmjlanngkfaaGreat
end
section
namespace Go.Proofs.YtmpgmjlanngkfaaGreat
open Go.Abs Go.RowKit
set_option linter.unusedSimpArgs false
set_option maxRecDepth 100000

set_option maxHeartbeats 1000000 in
theorem compareString_c0 (a b : ByteArray) (w : World) :
    Calls Tryz.prog 216 #[.string a, .string b] w fun e w' => e = .returned (.int .i64 (Lib.compareBytes a.data.toList b.data.toList)) ∧ w' = w := by
  go_enter Tryz.func216, Tryz.ntmps216
  go_wp2
  rw [run_callFunc_extern Tryz.func244 (by kernel_rfl) (by kernel_rfl) (by kernel_rfl) (e := Extern.BytealgCompare.compare) (by kernel_rfl), Lib.run_compareString]
  simp only [Result.andThen]
  rw [Oper.upon_value]
  go_wp2
  go_ret
  exact ⟨rfl, rfl⟩

def bcmp (a b : ByteArray) : Int := Lib.compareBytes a.toList b.toList

theorem compareString_c (a b : ByteArray) : PCall Tryz.prog 216 [.one (.lit (.string a)), .one (.lit (.string b))] (.v (.one (.lit (.int .i64 (bcmp a b))))) := by
  refine ⟨⟨_, Tryz.func216, by kernel_rfl, by kernel_rfl⟩, fun F w vs hF hl hv => ?_⟩
  match vs, hl with
  | [x, y], _ =>
    clear hl
    have h1 := (hv 0 x _ rfl rfl)
    have h2 := (hv 1 y _ rfl rfl)
    clear hv
    obtain rfl := h1.lit_inv
    obtain rfl := h2.lit_inv
    refine Calls.mono (compareString_c0 a b w) fun e w' he => ?_
    obtain ⟨rfl, rfl⟩ := he
    refine ⟨_, rfl, Bel.refl _ _, .c (.d ?_)⟩
    rw [bcmp, ByteArray.toList_eq, ByteArray.toList_eq]
    exact .lit _ rfl

attribute [local irreducible] ARun kont MCall PCall HCall resVal SF CF CFs defersOk slotsIn memIn fin finM VLe

theorem stringsCompare_c (a b : ByteArray) : PCall Tryz.prog 174 [.one (.lit (.string a)), .one (.lit (.string b))] (.v (.one (.lit (.int .i64 (bcmp a b))))) := by
  refine pcallN hT Tryz.func174 Tryz.ntmps174 [.tmp 4] fun B => ?_
  repeat' (first | (with_reducible (first | refine k_seq ?_ | refine k_ret ?_ | refine n_seq ?_)) | refine s_reg ?_ | refine r_end ?_ | refine s_move ?_ | refine s_assign ?_ | refine s_call (compareString_c _ _) ?_ | refine f_ret1 def_nil ?_ | refine t_tmp ?_)
  all_goals rfl

theorem compareBytes_eq : ∀ (x y : List UInt8), Lib.compareBytes x y = if x == y then 0 else if Op.bytesLess x y then -1 else 1
  | [], [] => by simp [Lib.compareBytes]
  | [], _ :: _ => by simp [Lib.compareBytes, Op.bytesLess]
  | _ :: _, [] => by simp [Lib.compareBytes, Op.bytesLess]
  | a :: x, b :: y => by
    simp only [Lib.compareBytes, Op.bytesLess, compareBytes_eq x y, List.cons_beq_cons, beq_iff_eq]
    by_cases h : a < b
    · have : ¬ a = b := fun e => by subst e; exact absurd h (UInt8.lt_irrefl a)
      simp [h, this]
    · by_cases h2 : b < a
      · have : ¬ a = b := fun e => by subst e; exact absurd h2 (UInt8.lt_irrefl a)
        simp [h, h2, this]
      · have : a = b := UInt8.le_antisymm (UInt8.not_lt.1 h2) (UInt8.not_lt.1 h)
        subst this
        simp [h]

def Val.same (a b : Val) : Bool := (a.kind == b.kind) && ((a.int == b.int) && (a.text.toList == b.text.toList))
def Val.less (a b : Val) : Bool := decide (a.kind < b.kind) || ((a.kind == b.kind) && (decide (a.int < b.int) || Op.bytesLess a.text.toList b.text.toList))
def Val.cmp (a b : Val) : Int := if a.clean.same b.clean then 0 else if a.clean.less b.clean then -1 else 1

theorem clean_valid (v : Val) : v.clean.valid = true := by
  unfold Val.clean
  split
  · assumption
  · simp [Val.null, Val.valid]

theorem valid_text {v : Val} (h : v.valid = true) (hk : v.kind ≠ 2) : v.text.toList = [] := by
  unfold Val.valid at h
  split at h
  · simp at h; exact h.2
  · split at h
    · simp at h; exact h.2
    · simp [hk] at h

theorem valid_int {v : Val} (h : v.valid = true) (hk : v.kind ≠ 1) : v.int = 0 := by
  unfold Val.valid at h
  rw [if_neg hk] at h
  split at h
  · simp at h; exact h.1
  · split at h
    · simp at h; exact h.1
    · simp at h

theorem icmp_kind {x y : Val} (h : ¬ x.kind = y.kind) : icmp x.kind y.kind = if x.same y = true then 0 else if x.less y = true then -1 else 1 := by
  simp only [icmp, Val.same, Val.less, beq_false_of_ne h, Bool.false_and, Bool.or_false, decide_eq_true_eq, Bool.false_eq_true, if_false]
  split
  · rfl
  · rw [if_pos (by omega)]

theorem icmp_int {x y : Val} (hx : x.valid = true) (hy : y.valid = true) (hk : x.kind = 1) (h : x.kind = y.kind) : icmp x.int y.int = if x.same y = true then 0 else if x.less y = true then -1 else 1 := by
  simp only [icmp, Val.same, Val.less, valid_text hx (by omega), valid_text hy (by omega), h]
  simp [Op.bytesLess]
  by_cases h1 : x.int < y.int
  · simp [h1, show ¬ x.int = y.int by omega]
  · by_cases h2 : y.int < x.int
    · simp [h1, h2, show ¬ x.int = y.int by omega]
    · simp [h1, h2, show x.int = y.int by omega]

theorem icmp_text {x y : Val} (hx : x.valid = true) (hy : y.valid = true) (hk : x.kind = 2) (h : x.kind = y.kind) : bcmp x.text y.text = if x.same y = true then 0 else if x.less y = true then -1 else 1 := by
  simp only [bcmp, Val.same, Val.less, valid_int hx (by omega), valid_int hy (by omega), h, compareBytes_eq]
  simp

theorem icmp_null {x y : Val} (hx : x.valid = true) (hy : y.valid = true) (h1 : ¬ x.kind = 1) (h2 : ¬ x.kind = 2) (h : x.kind = y.kind) : (0 : Int) = if x.same y = true then 0 else if x.less y = true then -1 else 1 := by
  have : x.same y = true := by
    simp only [Val.same, valid_text hx (by omega), valid_text hy (by omega), valid_int hx (by omega), valid_int hy (by omega), h]
    simp
  rw [if_pos this]

theorem refCompare_c (a b : Val) : PCall Tryz.prog 225 [.agg a.d, .agg b.d] (.v (.one (.lit (.int .i64 (a.cmp b))))) := by
  refine pcallN hT Tryz.func225 Tryz.ntmps225 [.tmp 4] fun B => ?_
  repeat' (first | (with_reducible (first | refine k_seq ?_ | refine k_skip ?_ | refine k_ret ?_ | refine n_seq ?_ | refine r_seq ?_)) | refine s_reg ?_ | refine s_ifT ?_ | refine s_ifF ?_ | refine s_if rfl (fun hb => ?_) (fun hb => ?_) | refine r_end ?_ | refine s_endD ?_ | refine s_skipS ?_ | refine s_skipU ?_ | refine s_move ?_ | refine s_assign ?_ | refine s_int ?_ | refine s_str ?_ | refine s_eqA ?_ | refine s_loadB1 ?_ | refine s_loadBA ?_ | refine s_fieldB ?_ | refine s_call (refClean_c _) ?_ | refine s_pick ?_ | refine s_storeB ?_ | refine s_box ?_ | refine s_split rfl rfl (fun hb => ?_) (fun hb => ?_) | refine f_ret1 def_nil ?_ | refine t_tmp ?_)
  all_goals (refine congrArg Dat.lit (congrArg (Value.int _) ?_))
  all_goals unfold Val.cmp
  all_goals (generalize a.clean = x at *; generalize b.clean = y at *)
  all_goals simp_all [Val.cmp, Val.same, Val.less, litsEq, litEq]
  · rw [if_neg (by rintro ⟨h1, h2⟩; exact absurd h2 (by simp_all)), if_neg (by omega)]

theorem compare_c (a b : Val) : PCall Tryz.prog 111 [.agg a.d, .agg b.d] (.v (.one (.lit (.int .i64 (a.cmp b))))) := by
  refine pcallN hT Tryz.func111 Tryz.ntmps111 [.tmp 4] fun B => ?_
  repeat' (first | (with_reducible (first | refine k_seq ?_ | refine k_block ?_ | refine k_skip ?_ | refine k_ret ?_ | refine n_seq ?_ | refine n_block ?_ | refine r_seq ?_ | refine r_block ?_)) | refine s_reg ?_ | refine s_if rfl (fun hb => ?_) (fun hb => ?_) | refine r_end ?_ | refine s_endD ?_ | refine s_assign ?_ | refine s_int ?_ | refine s_loadB1 ?_ | refine s_loadBA ?_ | refine s_fieldB ?_ | refine s_call (clean_c _) ?_ | refine s_call (cmpInt_c _ _) ?_ | refine s_call (cmpInt64_c _ _) ?_ | refine s_call (stringsCompare_c _ _) ?_ | refine s_storeB ?_ | refine s_box ?_ | refine f_ret1 def_nil ?_ | refine t_tmp ?_)
  all_goals (refine congrArg Dat.lit (congrArg (Value.int _) ?_))
  all_goals unfold Val.cmp
  all_goals (have hx := clean_valid a; have hy := clean_valid b; generalize a.clean = x at *; generalize b.clean = y at *)
  · exact icmp_kind (by simpa using hb)
  · exact icmp_int hx hy (by simp_all) (by simp_all)
  · exact icmp_text hx hy (by simp_all) (by simp_all)
  · exact icmp_null hx hy (by simp_all) (by simp_all) (by simp_all)
end Go.Proofs.YtmpgmjlanngkfaaGreat
end
