/-
  How values and rows are compared.
-/
import Derived.Test.YtgfachlcocjdbaaVal
import Derived.Lib.Strings
import Derived.Lib.Slices
import Derived.Lib.Walk
import Derived.Lib.Bytealg
namespace Go.Proofs.Ytgfachlcocjdbaa
open Go.Abs Go.RowKit
set_option linter.unusedSimpArgs false
set_option maxRecDepth 100000

set_option maxHeartbeats 1000000 in
theorem compareString_c0 (a b : ByteArray) (w : World) :
    Calls Try.prog 105 #[.string a, .string b] w fun e w' => e = .returned (.int .i64 (Lib.compareBytes a.data.toList b.data.toList)) ∧ w' = w := by
  go_enter Try.func105, Try.ntmps105
  go_wp2
  rw [run_callFunc_extern Try.func107 (by kernel_rfl) (by kernel_rfl) (by kernel_rfl) (e := Extern.BytealgCompare.compare) (by kernel_rfl), Lib.run_compareString]
  simp only [Result.andThen]
  rw [Oper.upon_value]
  go_wp2
  go_ret
  exact ⟨rfl, rfl⟩

def bcmp (a b : ByteArray) : Int := Lib.compareBytes a.toList b.toList

theorem compareString_c (a b : ByteArray) : PCall Try.prog 105 [.one (.lit (.string a)), .one (.lit (.string b))] (.v (.one (.lit (.int .i64 (bcmp a b))))) := by
  refine ⟨⟨_, Try.func105, by kernel_rfl, by kernel_rfl⟩, fun F w vs hF hl hv => ?_⟩
  match vs, hl with
  | [x, y], _ =>
    clear hl
    have h1 := (hv 0 x _ rfl rfl)
    have h2 := (hv 1 y _ rfl rfl)
    clear hv
    obtain rfl := h1.lit_inv
    obtain rfl := h2.lit_inv
    refine Calls.mono (compareString_c0 a b w) fun e w' he => ?_
    obtain ⟨rfl, rfl⟩ := he
    refine ⟨_, rfl, Bel.refl _ _, .c (.d ?_)⟩
    rw [bcmp, ByteArray.toList_eq, ByteArray.toList_eq]
    exact .lit _ rfl

attribute [local irreducible] ARun kont MCall PCall HCall resVal SF CF CFs defersOk slotsIn memIn fin finM VLe

theorem stringsCompare_c (a b : ByteArray) : PCall Try.prog 97 [.one (.lit (.string a)), .one (.lit (.string b))] (.v (.one (.lit (.int .i64 (bcmp a b))))) := by
  refine pcallN hT Try.func97 Try.ntmps97 [.tmp 4] fun B => ?_
  repeat' (first | (with_reducible (first | refine k_seq ?_ | refine k_ret ?_ | refine n_seq ?_)) | refine s_reg ?_ | refine r_end ?_ | refine s_move ?_ | refine s_assign ?_ | refine s_call (compareString_c _ _) ?_ | refine f_ret1 def_nil ?_ | refine t_tmp ?_)
  all_goals rfl

theorem compareBytes_eq : ∀ (x y : List UInt8), Lib.compareBytes x y = if x == y then 0 else if Op.bytesLess x y then -1 else 1
  | [], [] => by simp [Lib.compareBytes]
  | [], _ :: _ => by simp [Lib.compareBytes, Op.bytesLess]
  | _ :: _, [] => by simp [Lib.compareBytes, Op.bytesLess]
  | a :: x, b :: y => by
    simp only [Lib.compareBytes, Op.bytesLess, compareBytes_eq x y, List.cons_beq_cons, beq_iff_eq]
    by_cases h : a < b
    · have : ¬ a = b := fun e => by subst e; exact absurd h (UInt8.lt_irrefl a)
      simp [h, this]
    · by_cases h2 : b < a
      · have : ¬ a = b := fun e => by subst e; exact absurd h2 (UInt8.lt_irrefl a)
        simp [h, h2, this]
      · have : a = b := UInt8.le_antisymm (UInt8.not_lt.1 h2) (UInt8.not_lt.1 h)
        subst this
        simp [h]

def Val.same (a b : Val) : Bool := (a.kind == b.kind) && ((a.int == b.int) && (a.text.toList == b.text.toList))
def Val.less (a b : Val) : Bool := decide (a.kind < b.kind) || ((a.kind == b.kind) && (decide (a.int < b.int) || Op.bytesLess a.text.toList b.text.toList))
def Val.cmp (a b : Val) : Int := if a.clean.same b.clean then 0 else if a.clean.less b.clean then -1 else 1

theorem clean_valid (v : Val) : v.clean.valid = true := by
  unfold Val.clean
  split
  · assumption
  · simp [Val.null, Val.valid]

theorem valid_text {v : Val} (h : v.valid = true) (hk : v.kind ≠ 2) : v.text.toList = [] := by
  unfold Val.valid at h
  split at h
  · simp at h; exact h.2
  · split at h
    · simp at h; exact h.2
    · simp [hk] at h

theorem valid_int {v : Val} (h : v.valid = true) (hk : v.kind ≠ 1) : v.int = 0 := by
  unfold Val.valid at h
  rw [if_neg hk] at h
  split at h
  · simp at h; exact h.1
  · split at h
    · simp at h; exact h.1
    · simp at h

theorem icmp_kind {x y : Val} (h : ¬ x.kind = y.kind) : icmp x.kind y.kind = if x.same y = true then 0 else if x.less y = true then -1 else 1 := by
  simp only [icmp, Val.same, Val.less, beq_false_of_ne h, Bool.false_and, Bool.or_false, decide_eq_true_eq, Bool.false_eq_true, if_false]
  split
  · rfl
  · rw [if_pos (by omega)]

theorem icmp_int {x y : Val} (hx : x.valid = true) (hy : y.valid = true) (hk : x.kind = 1) (h : x.kind = y.kind) : icmp x.int y.int = if x.same y = true then 0 else if x.less y = true then -1 else 1 := by
  simp only [icmp, Val.same, Val.less, valid_text hx (by omega), valid_text hy (by omega), h]
  simp [Op.bytesLess]
  by_cases h1 : x.int < y.int
  · simp [h1, show ¬ x.int = y.int by omega]
  · by_cases h2 : y.int < x.int
    · simp [h1, h2, show ¬ x.int = y.int by omega]
    · simp [h1, h2, show x.int = y.int by omega]

theorem icmp_text {x y : Val} (hx : x.valid = true) (hy : y.valid = true) (hk : x.kind = 2) (h : x.kind = y.kind) : bcmp x.text y.text = if x.same y = true then 0 else if x.less y = true then -1 else 1 := by
  simp only [bcmp, Val.same, Val.less, valid_int hx (by omega), valid_int hy (by omega), h, compareBytes_eq]
  simp

theorem icmp_null {x y : Val} (hx : x.valid = true) (hy : y.valid = true) (h1 : ¬ x.kind = 1) (h2 : ¬ x.kind = 2) (h : x.kind = y.kind) : (0 : Int) = if x.same y = true then 0 else if x.less y = true then -1 else 1 := by
  have : x.same y = true := by
    simp only [Val.same, valid_text hx (by omega), valid_text hy (by omega), valid_int hx (by omega), valid_int hy (by omega), h]
    simp
  rw [if_pos this]

theorem refCompare_c (a b : Val) : PCall Try.prog 81 [.agg a.d, .agg b.d] (.v (.one (.lit (.int .i64 (a.cmp b))))) := by
  refine pcallN hT Try.func81 Try.ntmps81 [.tmp 4] fun B => ?_
  repeat' (first | (with_reducible (first | refine k_seq ?_ | refine k_skip ?_ | refine k_ret ?_ | refine n_seq ?_ | refine r_seq ?_)) | refine s_reg ?_ | refine s_ifT ?_ | refine s_ifF ?_ | refine s_if rfl (fun hb => ?_) (fun hb => ?_) | refine r_end ?_ | refine s_endD ?_ | refine s_skipS ?_ | refine s_skipU ?_ | refine s_move ?_ | refine s_assign ?_ | refine s_int ?_ | refine s_str ?_ | refine s_eqA ?_ | refine s_loadB1 ?_ | refine s_loadBA ?_ | refine s_fieldB ?_ | refine s_call (refClean_c _) ?_ | refine s_pick ?_ | refine s_storeB ?_ | refine s_box ?_ | refine s_split rfl rfl (fun hb => ?_) (fun hb => ?_) | refine f_ret1 def_nil ?_ | refine t_tmp ?_)
  all_goals (refine congrArg Dat.lit (congrArg (Value.int _) ?_))
  all_goals unfold Val.cmp
  all_goals (generalize a.clean = x at *; generalize b.clean = y at *)
  all_goals simp_all [Val.cmp, Val.same, Val.less, litsEq, litEq]
  · rw [if_neg (by rintro ⟨h1, h2⟩; exact absurd h2 (by simp_all)), if_neg (by omega)]

theorem compare_c (a b : Val) : PCall Try.prog 75 [.agg a.d, .agg b.d] (.v (.one (.lit (.int .i64 (a.cmp b))))) := by
  refine pcallN hT Try.func75 Try.ntmps75 [.tmp 4] fun B => ?_
  repeat' (first | (with_reducible (first | refine k_seq ?_ | refine k_block ?_ | refine k_skip ?_ | refine k_ret ?_ | refine n_seq ?_ | refine n_block ?_ | refine r_seq ?_ | refine r_block ?_)) | refine s_reg ?_ | refine s_if rfl (fun hb => ?_) (fun hb => ?_) | refine r_end ?_ | refine s_endD ?_ | refine s_assign ?_ | refine s_int ?_ | refine s_loadB1 ?_ | refine s_loadBA ?_ | refine s_fieldB ?_ | refine s_call (clean_c _) ?_ | refine s_call (cmpInt_c _ _) ?_ | refine s_call (cmpInt64_c _ _) ?_ | refine s_call (stringsCompare_c _ _) ?_ | refine s_storeB ?_ | refine s_box ?_ | refine f_ret1 def_nil ?_ | refine t_tmp ?_)
  all_goals (refine congrArg Dat.lit (congrArg (Value.int _) ?_))
  all_goals unfold Val.cmp
  all_goals (have hx := clean_valid a; have hy := clean_valid b; generalize a.clean = x at *; generalize b.clean = y at *)
  · exact icmp_kind (by simpa using hb)
  · exact icmp_int hx hy (by simp_all) (by simp_all)
  · exact icmp_text hx hy (by simp_all) (by simp_all)
  · exact icmp_null hx hy (by simp_all) (by simp_all) (by simp_all)
end Go.Proofs.Ytgfachlcocjdbaa
