/-
  Join and Project of small bags, in plain terms: sums, associativity, order of columns.
-/
import Derived.Test.YtiidgbfdghplhaaGreatTab
import Derived.Test.YtiidgbfdghplhaaGreatPrk
import Derived.Test.YtiidgbfdghplhaaGreatJor
namespace Go.Proofs.YtiidgbfdghplhaaGreat
open Go.Abs Go.RowKit
set_option linter.unusedSimpArgs false
set_option maxRecDepth 100000

theorem absS_map {f : Entry → Entry} {l : List Entry} {n : Nat} (h : ∀ e ∈ l, (f e).count.natAbs = n * e.count.natAbs) : absS (l.map f) = n * absS l := by
  induction l with
  | nil => rfl
  | cons e l ih =>
    rw [List.map_cons, absS, absS, h e (by simp), ih fun x hx => h x (by simp [hx]), Nat.mul_add]
theorem absS_pairs1 (x : Entry) (b : List Entry) (on : List (Int × Int)) : absS (pairs1 x b on) ≤ x.count.natAbs * absS b := by
  unfold pairs1
  rw [absS_map (n := x.count.natAbs) fun e _ => by rw [pairE, Int.natAbs_mul]]
  exact Nat.mul_le_mul_left _ (absS_filter _ _)
theorem absS_pairsE (a b : List Entry) (on : List (Int × Int)) : absS (pairsE a b on) ≤ absS a * absS b := by
  induction a with
  | nil => simp [pairsE, absS]
  | cons x a ih =>
    have h1 := absS_pairs1 x b on
    have e1 : pairsE (x :: a) b on = pairs1 x b on ++ pairsE a b on := by simp [pairsE]
    rw [e1, absS_append, absS, Nat.add_mul]
    omega

theorem wS_pairs1 (f : List Val → Int) (x : Entry) (b : List Entry) (on : List (Int × Int)) : wS f (pairs1 x b on) = x.count * wS (fun t => if meetsE x.row t on then f (x.row ++ t) else 0) b := by
  induction b with
  | nil => simp [pairs1, wS]
  | cons y b ih =>
    unfold pairs1 at ih ⊢
    rw [List.filter_cons, wS, Int.mul_add, ← ih]
    cases hm : meetsE x.row y.row on
    · simp [wS]
    · simp only [if_true, List.map_cons, wS, pairE, Int.mul_assoc]
theorem wS_pairsE (f : List Val → Int) (a b : List Entry) (on : List (Int × Int)) : wS f (pairsE a b on) = wS (fun s => wS (fun t => if meetsE s t on then f (s ++ t) else 0) b) a := by
  induction a with
  | nil => rfl
  | cons x a ih =>
    have e1 : pairsE (x :: a) b on = pairs1 x b on ++ pairsE a b on := by simp [pairsE]
    rw [e1, wS_append, wS_pairs1, wS, ih]
theorem wS_proj (f : List Val → Int) (cols : List Int) (l : List Entry) : wS f (l.map (proj1 cols)) = wS (fun s => f (cols.map (atE s))) l := by
  induction l with
  | nil => rfl
  | cons x l ih => rw [List.map_cons, wS, wS, ih]; rfl

theorem pairs_rows {a b : List Entry} {on : List (Int × Int)} {w1 w2 : Nat} (ha : ∀ e ∈ a, rowOK e.row = true ∧ e.row.length = w1) (hb : ∀ e ∈ b, rowOK e.row = true ∧ e.row.length = w2) (hw : w1 + w2 ≤ 16) : ∀ e ∈ pairsE a b on, rowOK e.row = true ∧ e.row.length = w1 + w2 := fun e he => by
  obtain ⟨x, hx, y, hy, _, rfl⟩ := pairs_mem he
  obtain ⟨h1, h2⟩ := ha x hx
  obtain ⟨h3, h4⟩ := hb y hy
  simp only [rowOK, Bool.and_eq_true, decide_eq_true_eq, pairE] at h1 h3 ⊢
  refine ⟨⟨by simp; omega, by rw [List.all_append, h1.2, h3.2]; rfl⟩, by simp; omega⟩
theorem Tiny.rows {n w : Nat} {b : List Entry} (h : Tiny n w b) : ∀ e ∈ b, rowOK e.row = true ∧ e.row.length = w := fun e he => ⟨((valid_mem h.v).2 e he).1, h.w e he⟩
theorem Tiny.narrow {n w : Nat} {b : List Entry} (h : Tiny n w b) (hw : w ≤ 8) : narrowE b = true := by
  unfold narrowE
  rw [h.v, Bool.and_true, List.all_eq_true]
  intro e he
  have := h.w e he
  simp only [decide_eq_true_eq]; omega

theorem joinT {a b : List Entry} {A B w1 w2 : Nat} (ha : Tiny A w1 a) (hb : Tiny B w2 b) (on : List (Int × Int)) (h1 : w1 ≤ 8) (h2 : w2 ≤ 8) (hn : A * B ≤ 4096) : refJoinE a b on = (sortE (pairsE a b on), 0) ∧ Tiny (A * B) (w1 + w2) (sortE (pairsE a b on)) := by
  have hp := pairs_rows (on := on) ha.rows hb.rows (by omega)
  have hs : absS (pairsE a b on) ≤ A * B := Nat.le_trans (absS_pairsE a b on) (Nat.mul_le_mul ha.s hb.s)
  obtain ⟨t1, t2⟩ := tiny_of (fun e he => (hp e he).1) (fun e he => (hp e he).2) hs hn
  refine ⟨?_, t1⟩
  have hz : ∀ e ∈ pairsE a b on, e.count ≠ 0 := fun e he => by
    obtain ⟨x, hx, y, hy, _, rfl⟩ := pairs_mem he
    intro q
    rcases Int.mul_eq_zero.1 q with q | q
    · exact ((valid_mem ha.v).2 x hx).2.2 q
    · exact ((valid_mem hb.v).2 y hy).2.2 q
  have hl := (valid_mem t1.v).1
  rw [refJoinE, ha.narrow h1, hb.narrow h2, Bool.and_self, if_pos rfl, sumR_sort _ hz, boundE, if_neg (by omega), if_pos]
  rw [List.all_eq_true]
  intro e he
  have := t2 e he
  simp only [decide_eq_true_eq]; omega

theorem atE_valid {row : List Val} (h : rowOK row = true) (c : Int) : (atE row c).valid = true := by
  simp only [rowOK, Bool.and_eq_true, List.all_eq_true] at h
  have hn : Val.null.valid = true := by decide +kernel
  unfold atE
  split
  · exact hn
  · split
    · rename_i v hv
      exact h.2 v (List.mem_of_getElem? hv)
    · exact hn
theorem proj_row {cols : List Int} (hc : cols.length ≤ 8) {e : Entry} (h : rowOK e.row = true) : rowOK (proj1 cols e).row = true := by
  simp only [rowOK, proj1, Bool.and_eq_true, decide_eq_true_eq, List.length_map, List.all_eq_true]
  refine ⟨by omega, fun v hv => ?_⟩
  obtain ⟨c, _, rfl⟩ := List.mem_map.1 hv
  exact atE_valid h c
theorem projT {b : List Entry} {A w : Nat} (hb : Tiny A w b) (cols : List Int) (hc : cols.length ≤ 8) (h0 : ∀ n ∈ cols, 0 ≤ n) (hn : A ≤ 4096) : projE b cols = (sortE (b.map (proj1 cols)), 0) ∧ Tiny A cols.length (sortE (b.map (proj1 cols))) := by
  have hr : ∀ e ∈ b.map (proj1 cols), rowOK e.row = true := fun e he => by
    obtain ⟨x, hx, rfl⟩ := List.mem_map.1 he
    exact proj_row hc (hb.rows x hx).1
  have hs : absS (b.map (proj1 cols)) ≤ A := by
    rw [absS_map (n := 1) fun e _ => by rw [Nat.one_mul]; rfl, Nat.one_mul]; exact hb.s
  obtain ⟨t1, t2⟩ := tiny_of (w := cols.length) hr (fun e he => by obtain ⟨x, _, rfl⟩ := List.mem_map.1 he; simp [proj1]) hs hn
  refine ⟨?_, t1⟩
  have hl := (valid_mem t1.v).1
  have hall : (b.map (proj1 cols)).all entryIn = true := List.all_eq_true.2 fun e he => by
    have h1 := hr e he
    obtain ⟨x, hx, rfl⟩ := List.mem_map.1 he
    have h2 := ((valid_mem hb.v).2 x hx).2.1
    have h3 : countOK x.count = true := by simp only [countOK, Bool.and_eq_true, decide_eq_true_eq]; exact h2
    rw [entryIn, h1]; exact h3
  have h0' : (cols.all fun n => decide (0 ≤ n)) = true := List.all_eq_true.2 fun n hn => by simpa using h0 n hn
  rw [projE, hb.v, h0', decide_eq_true hc, show (true && (true && true)) = true from rfl, if_pos rfl, normE, if_pos hall, fitsE, if_neg (by omega), if_pos]
  rw [List.all_eq_true]
  intro e he
  have := t2 e he
  simp only [countOK, Bool.and_eq_true, decide_eq_true_eq]; omega

theorem atE_left {s t : List Val} {k : Nat} (h : k < s.length) : atE (s ++ t) k = atE s k := by
  unfold atE
  rw [if_neg (by omega), if_neg (by omega), Int.toNat_natCast, List.getElem?_append_left h]
end Go.Proofs.YtiidgbfdghplhaaGreat
