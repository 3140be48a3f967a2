/-
  Small bags, in plain terms: sums of absolute counts, and sums over rows.
-/
import Derived.Test.YtgfachlcocjdbaaBao
namespace Go.Proofs.Ytgfachlcocjdbaa
open Go.Abs Go.RowKit
set_option linter.unusedSimpArgs false
set_option maxRecDepth 100000

/-- The sum of the absolute counts. -/
def absS : List Entry → Nat
  | [] => 0
  | e :: l => e.count.natAbs + absS l
theorem absS_append (a b : List Entry) : absS (a ++ b) = absS a + absS b := by
  induction a with
  | nil => simp [absS]
  | cons e a ih => simp only [List.cons_append, absS, ih]; omega
theorem absS_mergeE (a b : List Entry) : absS (mergeE a b) ≤ absS a + absS b := by
  induction a, b using mergeE.induct with
  | case1 b => simp [mergeE, absS]
  | case2 a h => rw [mergeE]; · omega
                 · exact h
  | case3 x a y b h ih => rw [mergeE, if_pos h]; simp only [absS] at ih ⊢; omega
  | case4 x a y b h1 h2 ih => rw [mergeE, if_neg h1, if_pos h2]; simp only [absS] at ih ⊢; omega
  | case5 x a y b h1 h2 ih =>
    rw [mergeE, if_neg h1, if_neg h2, absS_append]
    simp only [absS] at ih ⊢
    split
    · simp only [absS]; omega
    · simp only [absS]; omega
theorem absS_filter (p : Entry → Bool) (l : List Entry) : absS (l.filter p) ≤ absS l := by
  induction l with
  | nil => exact Nat.le_refl _
  | cons e l ih =>
    rw [List.filter_cons]
    split
    · simp only [absS]; omega
    · simp only [absS]; omega
theorem absS_sortE (l : List Entry) : absS (sortE l) ≤ absS l := by
  induction l using sortE.induct with
  | case1 l h => rw [sortE, dif_pos h]; exact absS_filter _ _
  | case2 l h ih1 ih2 =>
    rw [sortE, dif_neg h]
    have h1 := absS_mergeE (sortE (l.take (l.length / 2))) (sortE (l.drop (l.length / 2)))
    have h2 := absS_append (l.take (l.length / 2)) (l.drop (l.length / 2))
    rw [List.take_append_drop] at h2
    omega
theorem absS_mem {l : List Entry} {e : Entry} (h : e ∈ l) : e.count.natAbs ≤ absS l := by
  induction l with
  | nil => cases h
  | cons x l ih =>
    rcases List.mem_cons.1 h with rfl | h
    · simp only [absS]; omega
    · have := ih h; simp only [absS]; omega
theorem absS_len {l : List Entry} (h : ∀ e ∈ l, e.count ≠ 0) : l.length ≤ absS l := by
  induction l with
  | nil => exact Nat.le_refl _
  | cons e l ih =>
    have h1 := ih fun x hx => h x (by simp [hx])
    have h2 := h e (by simp)
    simp only [absS, List.length_cons]; omega
theorem absS_le {l : List Entry} {n : Nat} (h : ∀ e ∈ l, e.count.natAbs ≤ n) : absS l ≤ n * l.length := by
  induction l with
  | nil => exact Nat.zero_le _
  | cons e l ih =>
    have h1 := ih fun x hx => h x (by simp [hx])
    have h2 := h e (by simp)
    simp only [absS, List.length_cons, Nat.mul_add]; omega

/-- The sum of a function of the rows over a list, times the counts. -/
def wS (f : List Val → Int) : List Entry → Int
  | [] => 0
  | e :: l => e.count * f e.row + wS f l
def indR (r s : List Val) : Int := if rowCmp s r = 0 then 1 else 0
/-- A valid bag whose rows have w cells and whose absolute counts sum up to at most n. -/
structure Tiny (n w : Nat) (b : List Entry) : Prop where
  v : bagValid b = true
  w : ∀ e ∈ b, e.row.length = w
  s : absS b ≤ n
theorem Tiny.cl {n w : Nat} {b : List Entry} (h : Tiny n w b) : ∀ e ∈ b, rowClean e.row := fun e he => rowOK_clean ((valid_mem h.v).2 e he).1
theorem tiny_of {l : List Entry} {n w : Nat} (hr : ∀ e ∈ l, rowOK e.row = true) (hw : ∀ e ∈ l, e.row.length = w) (hs : absS l ≤ n) (hn : n ≤ 4096) : Tiny n w (sortE l) ∧ ∀ e ∈ sortE l, e.count.natAbs ≤ 4096 := by
  obtain ⟨h1, _⟩ := sortE_says l fun e he => rowOK_clean (hr e he)
  have h2 := absS_sortE l
  have h3 : ∀ e ∈ sortE l, e.count.natAbs ≤ 4096 := fun e he => by have := absS_mem he; omega
  have h4 := absS_len h1.nz
  refine ⟨⟨?_, fun e he => ?_, by omega⟩, h3⟩
  · rw [bagValid, good_of (fun e he => ?_) h1.up (by simp), Bool.and_true]
    · simp only [decide_eq_true_eq]; omega
    · obtain ⟨x, hx, q⟩ := mem_sortE l e he
      have a1 := hr x hx
      rw [q] at a1
      have a2 := h1.nz e he
      have a3 := h3 e he
      simp only [Entry.ok, a1, countOK, Bool.true_and, Bool.and_eq_true, decide_eq_true_eq]
      omega
  · obtain ⟨x, hx, q⟩ := mem_sortE l e he
    rw [← q]; exact hw x hx
end Go.Proofs.Ytgfachlcocjdbaa
