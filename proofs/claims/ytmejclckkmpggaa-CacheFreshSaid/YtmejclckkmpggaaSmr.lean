/-
  Equal rows and bags.
-/
import Derived.Test.YtmejclckkmpggaaBag
import Derived.Test.YtmejclckkmpggaaEqs
import Derived.Test.YtmejclckkmpggaaDefer
namespace Go.Proofs.Ytmejclckkmpggaa
open Go.Abs Go.RowKit
attribute [local irreducible] ARun kont MCall PCall HCall resVal SF CF CFs defersOk slotsIn memIn fin finM VLe
set_option linter.unusedSimpArgs false
set_option maxRecDepth 100000
set_option maxHeartbeats 4000000

def sameVal (a b : Val) : Bool := (a.kind == b.kind) && ((a.int == b.int) && (a.text.toList == b.text.toList))
def sameRow : List Val → List Val → Bool
  | [], [] => true
  | a :: x, b :: y => sameVal a b && sameRow x y
  | _, _ => false
theorem sameVal_refl (a : Val) : sameVal a a = true := by simp [sameVal]
theorem sameRow_refl : ∀ r : List Val, sameRow r r = true
  | [] => rfl
  | a :: r => by simp [sameRow, sameVal_refl, sameRow_refl r]
theorem sameRow_len : ∀ {r s : List Val}, sameRow r s = true → r.length = s.length
  | [], [], _ => rfl
  | a :: x, b :: y, h => by simp [sameRow] at h; simp [sameRow_len h.2]
  | [], _ :: _, h => by cases h
  | _ :: _, [], h => by cases h
theorem lits_same (a b : Val) : litsEq [.int .i64 a.kind, .int .i64 a.int, .string a.text] [.int .i64 b.kind, .int .i64 b.int, .string b.text] = sameVal a b := by
  simp [litsEq, litEq, sameVal]

theorem same22Row_c (r s : List Val) : PCall Try.prog 70 [.one (rowD r), .one (rowD s)] (.v (.one (.lit (.bool (sameRow r s))))) := by
  refine pcallN hT Try.func70 Try.ntmps70 [.tmp 4] fun B => ?_
  refine k_len 0 rfl fun hlr => ?_
  simp only [List.length_map, maxLen] at hlr
  repeat' (first | (with_reducible (first | refine k_seq ?_ | refine k_block ?_ | refine k_skip ?_ | refine k_exit ?_ | refine k_ret ?_ | refine n_seq ?_ | refine n_block ?_ | refine e_seq ?_ | refine e_here ?_ | refine r_seq ?_ | refine r_block ?_ | refine o_exit ?_ | refine o_ret ?_)) | refine s_reg ?_ | refine s_ifT ?_ | refine s_ifF ?_ | refine s_if rfl (fun hb => ?_) (fun hb => ?_) | refine r_end ?_ | refine s_endD ?_ | refine s_move ?_ | refine s_assign ?_ | refine s_int ?_ | refine s_neA ?_ | refine s_loadFA ?_ | refine s_indexD ?_ (hel := (by first | exact rfl)) | refine s_lenD ?_ | refine f_ret1 def_nil ?_ | refine t_tmp ?_)
  · refine congrArg Dat.lit (congrArg Value.bool ?_)
    cases h : sameRow r s with
    | false => rfl
    | true => have := sameRow_len h; omega
  · have hl : r.length = s.length := by omega
    refine s_lp (X := Nat) [4, 5, 11, 12, 13, 14, 15, 16, 17, 18, 19, 20, 21, 22, 23, 24, 25] (fun x => x ≤ r.length ∧ sameRow r s = sameRow (r.drop x) (s.drop x)) (fun x lz => (5, (.c (.d (.lit (.int .i64 x))))) :: lz) (fun x => []) (fun x => r.length - x) (0) ?_ ?_ ?_ ?_
    repeat' (first | exact slots_nil | refine w1 ?_ | exact memIn_nil | omega)
    · exact ⟨by simp, by simp⟩
    rintro i c ⟨hi, hinv⟩
    by_cases hlt : i < r.length
    · have hv : r[i]? = some r[i] := List.getElem?_eq_getElem hlt
      generalize r[i] = a at hv
      have hu : s[i]? = some s[i] := List.getElem?_eq_getElem (by omega)
      generalize s[i] = b at hu
      rw [drop_cons hv, drop_cons hu, sameRow] at hinv
      have hls := lits_same a b
      repeat' (first | (with_reducible (first | refine k_seq ?_ | refine k_block ?_ | refine k_skip ?_ | refine k_exit ?_ | refine k_ret ?_ | refine n_seq ?_ | refine n_block ?_ | refine e_seq ?_ | refine e_here ?_ | refine r_seq ?_ | refine r_block ?_ | refine o_exit ?_ | refine o_ret ?_)) | refine s_reg ?_ | refine s_ifT ?_ | refine s_ifF ?_ | refine s_if rfl (fun hb => ?_) (fun hb => ?_) | refine r_end ?_ | refine s_endD ?_ | refine s_move ?_ | refine s_assign ?_ | refine s_int ?_ | refine s_neA ?_ | refine s_loadFA ?_ | refine s_indexD ?_ (hel := (by first | exact idx_map hv (by omega) | exact idx_map hu (by omega) | exact hv | exact hu | exact rfl)) | refine s_lenD ?_ | refine f_ret1 def_nil ?_ | refine t_tmp ?_)
      all_goals first
        | (refine congrArg Dat.lit (congrArg Value.bool ?_); rw [hinv]; simp_all <;> done)
        | ((apply s_round (i + 1); all_goals (try dsimp only); all_goals (try (repeat' (first | exact slots_nil | refine w1 ?_ | exact memIn_nil | omega)))); (try exact ⟨by omega, by rw [hinv]; simp_all⟩))
    · repeat' (first | (with_reducible (first | refine k_seq ?_ | refine k_block ?_ | refine k_skip ?_ | refine k_exit ?_ | refine k_ret ?_ | refine n_seq ?_ | refine n_block ?_ | refine e_seq ?_ | refine e_here ?_ | refine r_seq ?_ | refine r_block ?_ | refine o_exit ?_ | refine o_ret ?_)) | refine s_reg ?_ | refine s_ifT ?_ | refine s_ifF ?_ | refine s_if rfl (fun hb => ?_) (fun hb => ?_) | refine r_end ?_ | refine s_endD ?_ | refine s_move ?_ | refine s_assign ?_ | refine s_int ?_ | refine s_neA ?_ | refine s_loadFA ?_ | refine s_indexD ?_ (hel := (by first | exact rfl)) | refine s_lenD ?_ | refine f_ret1 def_nil ?_ | refine t_tmp ?_)
      refine congrArg Dat.lit (congrArg Value.bool ?_)
      rw [List.drop_eq_nil_of_le (by omega), List.drop_eq_nil_of_le (by omega)] at hinv
      rw [hinv]; rfl

def sameBag : List Entry → List Entry → Bool
  | [], [] => true
  | a :: x, b :: y => (a.count == b.count) && sameRow a.row b.row && sameBag x y
  | _, _ => false
theorem sameBag_refl : ∀ r : List Entry, sameBag r r = true
  | [] => rfl
  | a :: r => by simp [sameBag, sameRow_refl, sameBag_refl r]
theorem sameBag_len : ∀ {r s : List Entry}, sameBag r s = true → r.length = s.length
  | [], [], _ => rfl
  | a :: x, b :: y, h => by simp [sameBag] at h; simp [sameBag_len h.2]
  | [], _ :: _, h => by cases h
  | _ :: _, [], h => by cases h

theorem same22Bag_c (r s : List Entry) : PCall Try.prog 39 [.one (bagD r), .one (bagD s)] (.v (.one (.lit (.bool (sameBag r s))))) := by
  refine pcallN hT Try.func39 Try.ntmps39 [.tmp 4] fun B => ?_
  refine k_len 0 rfl fun hlr => ?_
  simp only [List.length_map, maxLen] at hlr
  repeat' (first | (with_reducible (first | refine k_seq ?_ | refine k_block ?_ | refine k_skip ?_ | refine k_exit ?_ | refine k_ret ?_ | refine n_seq ?_ | refine n_block ?_ | refine e_seq ?_ | refine e_here ?_ | refine r_seq ?_ | refine r_block ?_ | refine o_exit ?_ | refine o_ret ?_)) | refine s_reg ?_ | refine s_ifT ?_ | refine s_ifF ?_ | refine s_if rfl (fun hb => ?_) (fun hb => ?_) | refine r_end ?_ | refine s_endD ?_ | refine s_skipS ?_ | refine s_move ?_ | refine s_assign ?_ | refine s_int ?_ | refine s_loadF1 ?_ | refine s_indexD ?_ (hel := (by first | exact rfl)) | refine s_fieldF ?_ | refine s_pick ?_ | refine s_lenD ?_ | refine s_not ?_ | refine s_split rfl rfl (fun hb => ?_) (fun hb => ?_) | refine f_ret1 def_nil ?_ | refine t_tmp ?_)
  · refine congrArg Dat.lit (congrArg Value.bool ?_)
    cases h : sameBag r s with
    | false => rfl
    | true => have := sameBag_len h; omega
  · have hl : r.length = s.length := by omega
    refine s_lp (X := Nat) [4, 5, 11, 12, 13, 14, 15, 16, 17, 18, 19, 20, 21, 22, 23, 24, 25, 26, 27, 28, 29, 30, 31, 32, 33, 34, 35, 36, 37, 38, 39, 40, 41] (fun x => x ≤ r.length ∧ sameBag r s = sameBag (r.drop x) (s.drop x)) (fun x lz => (5, (.c (.d (.lit (.int .i64 x))))) :: lz) (fun x => []) (fun x => r.length - x) (0) ?_ ?_ ?_ ?_
    repeat' (first | exact slots_nil | refine w1 ?_ | exact memIn_nil | omega)
    · exact ⟨by simp, by simp⟩
    rintro i c ⟨hi, hinv⟩
    by_cases hlt : i < r.length
    · have hv : r[i]? = some r[i] := List.getElem?_eq_getElem hlt
      generalize r[i] = a at hv
      have hu : s[i]? = some s[i] := List.getElem?_eq_getElem (by omega)
      generalize s[i] = b at hu
      rw [drop_cons hv, drop_cons hu, sameBag] at hinv
      repeat' (first | (with_reducible (first | refine k_seq ?_ | refine k_block ?_ | refine k_skip ?_ | refine k_exit ?_ | refine k_ret ?_ | refine n_seq ?_ | refine n_block ?_ | refine e_seq ?_ | refine e_here ?_ | refine r_seq ?_ | refine r_block ?_ | refine o_exit ?_ | refine o_ret ?_)) | refine s_reg ?_ | refine s_ifT ?_ | refine s_ifF ?_ | refine s_if rfl (fun hb => ?_) (fun hb => ?_) | refine r_end ?_ | refine s_endD ?_ | refine s_skipS ?_ | refine s_move ?_ | refine s_assign ?_ | refine s_int ?_ | refine s_loadF1 ?_ | refine s_indexD ?_ (hel := (by first | exact idx_map hv (by omega) | exact idx_map hu (by omega) | exact hv | exact hu | exact rfl)) | refine s_fieldF ?_ | refine s_call (same22Row_c _ _) ?_ | refine s_pick ?_ | refine s_lenD ?_ | refine s_not ?_ | refine s_split rfl rfl (fun hb => ?_) (fun hb => ?_) | refine f_ret1 def_nil ?_ | refine t_tmp ?_)
      all_goals first
        | (refine congrArg Dat.lit (congrArg Value.bool ?_); rw [hinv]; simp_all <;> done)
        | ((apply s_round (i + 1); all_goals (try dsimp only); all_goals (try (repeat' (first | exact slots_nil | refine w1 ?_ | exact memIn_nil | omega)))); (try exact ⟨by omega, by rw [hinv]; simp_all⟩))
    · repeat' (first | (with_reducible (first | refine k_seq ?_ | refine k_block ?_ | refine k_skip ?_ | refine k_exit ?_ | refine k_ret ?_ | refine n_seq ?_ | refine n_block ?_ | refine e_seq ?_ | refine e_here ?_ | refine r_seq ?_ | refine r_block ?_ | refine o_exit ?_ | refine o_ret ?_)) | refine s_reg ?_ | refine s_ifT ?_ | refine s_ifF ?_ | refine s_if rfl (fun hb => ?_) (fun hb => ?_) | refine r_end ?_ | refine s_endD ?_ | refine s_skipS ?_ | refine s_move ?_ | refine s_assign ?_ | refine s_int ?_ | refine s_loadF1 ?_ | refine s_indexD ?_ (hel := (by first | exact rfl)) | refine s_fieldF ?_ | refine s_pick ?_ | refine s_lenD ?_ | refine s_not ?_ | refine s_split rfl rfl (fun hb => ?_) (fun hb => ?_) | refine f_ret1 def_nil ?_ | refine t_tmp ?_)
      refine congrArg Dat.lit (congrArg Value.bool ?_)
      rw [List.drop_eq_nil_of_le (by omega), List.drop_eq_nil_of_le (by omega)] at hinv
      rw [hinv]; rfl

theorem clone_c (r : List Val) (hr : r.length ≤ 1000000) : PCall Try.prog 43 [.one (rowD r)] (.v (.one (rowD r))) := by
  refine pcallN hT Try.func43 Try.ntmps43 [.tmp 2] fun B => ?_
  repeat' (first | (with_reducible (first | refine k_seq ?_ | refine k_skip ?_ | refine k_ret ?_ | refine n_seq ?_ | refine r_seq ?_)) | refine s_reg ?_ | refine s_if rfl (fun hb => ?_) (fun hb => ?_) | refine r_end ?_ | refine s_move ?_ | refine s_assign ?_ | refine s_eqNil (fun b hnil => ?_) | refine s_appE ?_ | refine s_bslice0 ?_ | refine s_eqNil (fun b hnil => ?_) | refine f_ret1 def_nil ?_ | refine t_tmpE ?_ | refine t_tmpA rfl rfl ?_ ?_)
  · have h := hnil hb
    have : r = [] := by simpa using h
    rw [this]; rfl
  · simp
  · rw [take_ge (by simp)]; rfl

theorem sameBag26_c (r s : List Entry) : PCall Try.prog 14 [.one (bagD r), .one (bagD s)] (.v (.one (.lit (.bool (sameBag r s))))) := by
  refine pcallN hT Try.func14 Try.ntmps14 [.tmp 4] fun B => ?_
  repeat' (first | (with_reducible (first | refine k_seq ?_ | refine k_ret ?_ | refine n_seq ?_)) | refine s_reg ?_ | refine r_end ?_ | refine s_move ?_ | refine s_assign ?_ | refine s_call (same22Bag_c _ _) ?_ | refine f_ret1 def_nil ?_ | refine t_tmp ?_)
  all_goals rfl

theorem good_row : ∀ {l : List Entry} {p : Option Entry}, goodFrom p l = true → ∀ e ∈ l, e.ok = true
  | [], _, _, e, he => by cases he
  | x :: l, p, h, e, he => by
    simp only [goodFrom, Bool.and_eq_true] at h
    rcases List.mem_cons.1 he with rfl | he
    · exact h.1.1
    · exact good_row h.2 e he
theorem valid_mem {l : List Entry} (h : bagValid l = true) : l.length ≤ 4096 ∧ ∀ e ∈ l, rowOK e.row = true ∧ (-262144 ≤ e.count ∧ e.count ≤ 262144) ∧ e.count ≠ 0 := by
  simp only [bagValid, Bool.and_eq_true, decide_eq_true_eq] at h
  refine ⟨h.1, fun e he => ?_⟩
  have := good_row h.2 e he
  simp only [Entry.ok, countOK, Bool.and_eq_true, decide_eq_true_eq] at this
  exact ⟨this.1.1, this.1.2, this.2⟩
theorem rowOK_len {r : List Val} (h : rowOK r = true) : r.length ≤ 16 := by
  simp only [rowOK, Bool.and_eq_true, decide_eq_true_eq] at h; exact h.1

theorem text_inj {a b : ByteArray} (h : a.toList = b.toList) : a = b := by
  rw [ByteArray.toList_eq, ByteArray.toList_eq] at h
  cases a; cases b
  simpa using h
theorem sameVal_iff {a b : Val} : sameVal a b = true ↔ a = b := by
  refine ⟨fun h => ?_, fun h => by rw [h]; exact sameVal_refl _⟩
  simp only [sameVal, Bool.and_eq_true, beq_iff_eq] at h
  obtain ⟨h1, h2, h3⟩ := h
  have := text_inj h3
  cases a; cases b; simp_all
end Go.Proofs.Ytmejclckkmpggaa
