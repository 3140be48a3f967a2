/-
  Positive, the program's and the document's.
-/
import Derived.Test.YtojfhaoleedmkaaGreatNrm
import Derived.Test.YtojfhaoleedmkaaGreatTyB
import Derived.Test.YtojfhaoleedmkaaGreatEnc
section
section
namespace Go.Proofs.YtojfhaoleedmkaaGreat
open Go.Abs Go.RowKit
attribute [local irreducible] ARun kont MCall PCall HCall resVal SF CF CFs defersOk slotsIn memIn fin finM VLe
set_option linter.unusedSimpArgs false
set_option maxRecDepth 100000
set_option maxHeartbeats 4000000
def sameVal (a b : Val) : Bool := (a.kind == b.kind) && ((a.int == b.int) && (a.text.toList == b.text.toList))
def sameRow : List Val → List Val → Bool
  | [], [] => true
  | a :: x, b :: y => sameVal a b && sameRow x y
  | _, _ => false
theorem sameVal_refl (a : Val) : sameVal a a = true := by simp [sameVal]
theorem sameRow_refl : ∀ r : List Val, sameRow r r = true
  | [] => rfl
  | a :: r => by simp [sameRow, sameVal_refl, sameRow_refl r]
theorem sameRow_len : ∀ {r s : List Val}, sameRow r s = true → r.length = s.length
  | [], [], _ => rfl
  | a :: x, b :: y, h => by simp [sameRow] at h; simp [sameRow_len h.2]
  | [], _ :: _, h => by cases h
  | _ :: _, [], h => by cases h
theorem lits_same (a b : Val) : litsEq [.int .i64 a.kind, .int .i64 a.int, .string a.text] [.int .i64 b.kind, .int .i64 b.int, .string b.text] = sameVal a b := by
  simp [litsEq, litEq, sameVal]
theorem same01_c (r s : List Val) : PCall Tryz.prog 26 [.one (rowD r), .one (rowD s)] (.v (.one (.lit (.bool (sameRow r s))))) := by
  refine pcallN hT Tryz.func26 Tryz.ntmps26 [.tmp 4] fun B => ?_
  refine k_len 0 rfl fun hlr => ?_
  simp only [List.length_map, maxLen] at hlr
  repeat' (first | refine ks ?_ | refine ko ?_ | refine s_if rfl (fun hb => ?_) (fun hb => ?_) | refine s_indexD ?_ (hel := (by first | exact rfl)) | refine f_ret1 def_nil ?_ | refine t_tmp ?_)
  · refine congrArg Dat.lit (congrArg Value.bool ?_)
    cases h : sameRow r s with
    | false => rfl
    | true => have := sameRow_len h; omega
  · have hl : r.length = s.length := by omega
    refine s_lp (X := Nat) [4, 5, 11, 12, 13, 14, 15, 16, 17, 18, 19, 20, 21, 22, 23, 24, 25] (fun x => x ≤ r.length ∧ sameRow r s = sameRow (r.drop x) (s.drop x)) (fun x lz => (5, (.c (.d (.lit (.int .i64 x))))) :: lz) (fun x => []) (fun x => r.length - x) (0) ?_ ?_ ?_ ?_
    repeat' (first | exact slots_nil | refine kw ?_ | exact memIn_nil | omega)
    · exact ⟨by simp, by simp⟩
    rintro i c ⟨hi, hinv⟩
    by_cases hlt : i < r.length
    · have hv : r[i]? = some r[i] := List.getElem?_eq_getElem hlt
      generalize r[i] = a at hv
      have hu : s[i]? = some s[i] := List.getElem?_eq_getElem (by omega)
      generalize s[i] = b at hu
      rw [drop_cons hv, drop_cons hu, sameRow] at hinv
      have hls := lits_same a b
      repeat' (first | refine ks ?_ | refine ko ?_ | refine s_if rfl (fun hb => ?_) (fun hb => ?_) | refine s_indexD ?_ (hel := (by first | exact idx_map hv (by omega) | exact idx_map hu (by omega) | exact hv | exact hu | exact rfl)) | refine f_ret1 def_nil ?_ | refine t_tmp ?_)
      all_goals first
        | (refine congrArg Dat.lit (congrArg Value.bool ?_); rw [hinv]; simp_all <;> done)
        | ((apply s_round (i + 1); all_goals (try dsimp only); all_goals (try (repeat' (first | exact slots_nil | refine kw ?_ | exact memIn_nil | omega)))); (try exact ⟨by omega, by rw [hinv]; simp_all⟩))
    · repeat' (first | refine ks ?_ | refine ko ?_ | refine s_if rfl (fun hb => ?_) (fun hb => ?_) | refine s_indexD ?_ (hel := (by first | exact rfl)) | refine f_ret1 def_nil ?_ | refine t_tmp ?_)
      refine congrArg Dat.lit (congrArg Value.bool ?_)
      rw [List.drop_eq_nil_of_le (by omega), List.drop_eq_nil_of_le (by omega)] at hinv
      rw [hinv]; rfl
def sameBag : List Entry → List Entry → Bool
  | [], [] => true
  | a :: x, b :: y => (a.count == b.count) && sameRow a.row b.row && sameBag x y
  | _, _ => false
theorem sameBag_refl : ∀ r : List Entry, sameBag r r = true
  | [] => rfl
  | a :: r => by simp [sameBag, sameRow_refl, sameBag_refl r]
theorem sameBag_len : ∀ {r s : List Entry}, sameBag r s = true → r.length = s.length
  | [], [], _ => rfl
  | a :: x, b :: y, h => by simp [sameBag] at h; simp [sameBag_len h.2]
  | [], _ :: _, h => by cases h
  | _ :: _, [], h => by cases h
theorem same06_c (r s : List Entry) : PCall Tryz.prog 18 [.one (bagD r), .one (bagD s)] (.v (.one (.lit (.bool (sameBag r s))))) := by
  refine pcallN hT Tryz.func18 Tryz.ntmps18 [.tmp 4] fun B => ?_
  refine k_len 0 rfl fun hlr => ?_
  simp only [List.length_map, maxLen] at hlr
  repeat' (first | refine ks ?_ | refine ko ?_ | refine s_if rfl (fun hb => ?_) (fun hb => ?_) | refine s_indexD ?_ (hel := (by first | exact rfl)) | refine s_split rfl rfl (fun hb => ?_) (fun hb => ?_) | refine f_ret1 def_nil ?_ | refine t_tmp ?_)
  · refine congrArg Dat.lit (congrArg Value.bool ?_)
    cases h : sameBag r s with
    | false => rfl
    | true => have := sameBag_len h; omega
  · have hl : r.length = s.length := by omega
    refine s_lp (X := Nat) [4, 5, 11, 12, 13, 14, 15, 16, 17, 18, 19, 20, 21, 22, 23, 24, 25, 26, 27, 28, 29, 30, 31, 32, 33, 34, 35, 36, 37, 38, 39, 40, 41] (fun x => x ≤ r.length ∧ sameBag r s = sameBag (r.drop x) (s.drop x)) (fun x lz => (5, (.c (.d (.lit (.int .i64 x))))) :: lz) (fun x => []) (fun x => r.length - x) (0) ?_ ?_ ?_ ?_
    repeat' (first | exact slots_nil | refine kw ?_ | exact memIn_nil | omega)
    · exact ⟨by simp, by simp⟩
    rintro i c ⟨hi, hinv⟩
    by_cases hlt : i < r.length
    · have hv : r[i]? = some r[i] := List.getElem?_eq_getElem hlt
      generalize r[i] = a at hv
      have hu : s[i]? = some s[i] := List.getElem?_eq_getElem (by omega)
      generalize s[i] = b at hu
      rw [drop_cons hv, drop_cons hu, sameBag] at hinv
      repeat' (first | refine ks ?_ | refine ko ?_ | refine s_if rfl (fun hb => ?_) (fun hb => ?_) | refine s_indexD ?_ (hel := (by first | exact idx_map hv (by omega) | exact idx_map hu (by omega) | exact hv | exact hu | exact rfl)) | refine s_call (same01_c _ _) ?_ | refine s_split rfl rfl (fun hb => ?_) (fun hb => ?_) | refine f_ret1 def_nil ?_ | refine t_tmp ?_)
      all_goals first
        | (refine congrArg Dat.lit (congrArg Value.bool ?_); rw [hinv]; simp_all <;> done)
        | ((apply s_round (i + 1); all_goals (try dsimp only); all_goals (try (repeat' (first | exact slots_nil | refine kw ?_ | exact memIn_nil | omega)))); (try exact ⟨by omega, by rw [hinv]; simp_all⟩))
    · repeat' (first | refine ks ?_ | refine ko ?_ | refine s_if rfl (fun hb => ?_) (fun hb => ?_) | refine s_indexD ?_ (hel := (by first | exact rfl)) | refine s_split rfl rfl (fun hb => ?_) (fun hb => ?_) | refine f_ret1 def_nil ?_ | refine t_tmp ?_)
      refine congrArg Dat.lit (congrArg Value.bool ?_)
      rw [List.drop_eq_nil_of_le (by omega), List.drop_eq_nil_of_le (by omega)] at hinv
      rw [hinv]; rfl
theorem clone_c (r : List Val) (hr : r.length ≤ 1000000) : PCall Tryz.prog 73 [.one (rowD r)] (.v (.one (rowD r))) := by
  refine pcallN hT Tryz.func73 Tryz.ntmps73 [.tmp 2] fun B => ?_
  repeat' (first | refine ks ?_ | refine ko ?_ | refine s_if rfl (fun hb => ?_) (fun hb => ?_) | refine s_eqNil (fun b hnil => ?_) | refine f_ret1 def_nil ?_ | refine t_tmpE ?_ | refine t_tmpA rfl rfl ?_ ?_)
  · have h := hnil hb
    have : r = [] := by simpa using h
    rw [this]; rfl
  · simp
  · rw [take_ge (by simp)]; rfl
def supp (l : List Entry) : List Entry := (l.filter fun e => decide (0 < e.count)).map fun e => ⟨e.row, 1⟩
def supportE (l : List Entry) : List Entry := if bagValid l then supp l else []
theorem good_row : ∀ {l : List Entry} {p : Option Entry}, goodFrom p l = true → ∀ e ∈ l, e.ok = true
  | [], _, _, e, he => by cases he
  | x :: l, p, h, e, he => by
    simp only [goodFrom, Bool.and_eq_true] at h
    rcases List.mem_cons.1 he with rfl | he
    · exact h.1.1
    · exact good_row h.2 e he
theorem valid_mem {l : List Entry} (h : bagValid l = true) : l.length ≤ 4096 ∧ ∀ e ∈ l, rowOK e.row = true ∧ (-262144 ≤ e.count ∧ e.count ≤ 262144) ∧ e.count ≠ 0 := by
  simp only [bagValid, Bool.and_eq_true, decide_eq_true_eq] at h
  refine ⟨h.1, fun e he => ?_⟩
  have := good_row h.2 e he
  simp only [Entry.ok, countOK, Bool.and_eq_true, decide_eq_true_eq] at this
  exact ⟨this.1.1, this.1.2, this.2⟩
def total (l : List Entry) : Int := l.foldl (fun s e => s + e.count) 0
def sizeE (l : List Entry) : Int := if bagValid l then total l else 0
end Go.Proofs.YtojfhaoleedmkaaGreat
end
section
namespace Go.Proofs.YtojfhaoleedmkaaGreat
open Go.Abs Go.RowKit
set_option linter.unusedSimpArgs false
set_option maxRecDepth 100000
theorem bytes_inj {a b : ByteArray} (h : a.toList = b.toList) : a = b := by
  rw [ByteArray.toList_eq, ByteArray.toList_eq] at h
  cases a; cases b
  simp only at h
  congr
  exact Array.toList_inj.1 h
theorem sv_iff {a b : Val} : sameVal a b = true ↔ a = b := by
  refine ⟨fun h => ?_, fun h => by rw [h]; exact sameVal_refl _⟩
  simp only [sameVal, Bool.and_eq_true, beq_iff_eq] at h
  obtain ⟨h1, h2, h3⟩ := h
  have := bytes_inj h3
  cases a; cases b; simp_all
theorem sr_iff : ∀ {r s : List Val}, sameRow r s = true ↔ r = s
  | [], [] => by simp [sameRow]
  | a :: x, b :: y => by simp [sameRow, sv_iff, sr_iff (r := x) (s := y)]
  | [], _ :: _ => by simp [sameRow]
  | _ :: _, [] => by simp [sameRow]
end Go.Proofs.YtojfhaoleedmkaaGreat
end
end
section
namespace Go.Proofs.YtojfhaoleedmkaaGreat
open Go.Abs Go.RowKit
attribute [local irreducible] ARun kont MCall PCall HCall resVal SF CF CFs defersOk slotsIn memIn fin finM VLe
set_option linter.unusedSimpArgs false
set_option maxRecDepth 100000
set_option maxHeartbeats 4000000
def positiveE (l : List Entry) : Bool := bagValid l && l.all (fun e => decide (0 ≤ e.count))
theorem positive_c (l : List Entry) : PCall Tryz.prog 47 [.one (bagD l)] (.v (.one (.lit (.bool (positiveE l))))) := by
  have hvc := bagValid_c l
  cases hb : bagValid l with
  | false =>
    rw [hb] at hvc
    have he : positiveE l = false := by simp [positiveE, hb]
    rw [he]
    refine pcallN hT Tryz.func47 Tryz.ntmps47 [.tmp 2] fun B => ?_
    repeat' (first | refine ks ?_ | refine ko ?_ | refine s_indexD ?_ (hel := (by first | exact rfl)) | refine s_call (hvc) ?_ | refine f_ret1 def_nil ?_ | refine t_tmp ?_)
    all_goals rfl
  | true =>
    rw [hb] at hvc
    have he : positiveE l = l.all (fun e => decide (0 ≤ e.count)) := by simp [positiveE, hb]
    obtain ⟨hl, hm⟩ := valid_mem hb
    rw [he]
    refine pcallN hT Tryz.func47 Tryz.ntmps47 [.tmp 2] fun B => ?_
    repeat' (first | refine ks ?_ | refine ko ?_ | refine s_indexD ?_ (hel := (by first | exact rfl)) | refine s_call (hvc) ?_ | refine f_ret1 def_nil ?_ | refine t_tmp ?_)
    refine s_lp (X := Nat) [2, 4, 10, 11, 12, 13, 14, 15, 16, 17] (fun x => x ≤ l.length ∧ (l.take x).all (fun e => decide (0 ≤ e.count)) = true) (fun x lz => (10, (.c (.d (.lit (.int .i64 x))))) :: lz) (fun x => []) (fun x => l.length - x) (0) ?_ ?_ ?_ ?_
    repeat' (first | exact slots_nil | refine kw ?_ | exact memIn_nil | omega)
    · exact ⟨by simp, by simp⟩
    rintro i c ⟨hi, hinv⟩
    by_cases hlt : i < l.length
    · have hv : l[i]? = some l[i] := List.getElem?_eq_getElem hlt
      generalize l[i] = e at hv
      by_cases hr : e.count < 0
      · rw [not_all (fun e : Entry => decide (0 ≤ e.count)) hv (by simpa using hr)]
        repeat' (first | refine ks ?_ | refine ko ?_ | refine s_indexD ?_ (hel := (by first | exact idx_map hv (by omega) | exact hv | exact rfl)) | refine f_ret1 def_nil ?_ | refine t_tmp ?_)
        all_goals rfl
      · repeat' (first | refine ks ?_ | refine ko ?_ | refine s_indexD ?_ (hel := (by first | exact idx_map hv (by omega) | exact hv | exact rfl)) | refine f_ret1 def_nil ?_ | refine t_tmp ?_)
        (apply s_round (i + 1); all_goals (try dsimp only); all_goals (try (repeat' (first | exact slots_nil | refine kw ?_ | exact memIn_nil | omega))))
        exact ⟨by omega, take_all (fun e : Entry => decide (0 ≤ e.count)) hv hinv (by simp; omega)⟩
    · rw [take_ge (by omega)] at hinv
      rw [hinv]
      repeat' (first | refine ks ?_ | refine ko ?_ | refine s_indexD ?_ (hel := (by first | exact rfl)) | refine f_ret1 def_nil ?_ | refine t_tmp ?_)
      all_goals rfl
end Go.Proofs.YtojfhaoleedmkaaGreat
end
