/-
  Algebra: the document's join.
-/
import Derived.Test.YtiidgbfdghplhaaGreatAlc
import Derived.Test.YtiidgbfdghplhaaGreatMpe
import Derived.Test.YtiidgbfdghplhaaGreatBao
section
namespace Go.Proofs.YtiidgbfdghplhaaGreat
open Go.Abs Go.RowKit
attribute [local irreducible] ARun kont MCall PCall HCall resVal SF CF CFs defersOk slotsIn memIn fin finM VLe
set_option linter.unusedSimpArgs false
set_option maxRecDepth 100000
set_option maxHeartbeats 4000000

/-- The sum of a list whose counts are not 0. -/
def sumR (l : List Entry) : List Entry :=
  if h : l.length < 2 then l
  else mergeE (sumR (l.take (l.length / 2))) (sumR (l.drop (l.length / 2)))
  termination_by l.length
  decreasing_by
    · simp; omega
    · simp; omega

theorem sumR_sort (l : List Entry) : (∀ e ∈ l, e.count ≠ 0) → sumR l = sortE l := by
  induction l using sumR.induct with
  | case1 l h =>
    intro hn
    rw [sumR, dif_pos h, sortE, dif_pos (by omega)]
    exact (List.filter_eq_self.2 fun e he => by simp [hn e he]).symm
  | case2 l h ih1 ih2 =>
    intro hn
    rw [sumR, dif_neg h, sortE, dif_neg (by omega), ih1 (fun e he => hn e (List.mem_of_mem_take he)), ih2 (fun e he => hn e (List.mem_of_mem_drop he))]

/-- Whether two rows agree in all pairs of columns. -/
def meetsE (x y : List Val) (on : List (Int × Int)) : Bool := on.all fun p => decide ((atE x p.1).kind ≠ 0) && sameVal (atE x p.1) (atE y p.2)

/-- Whether a bag is valid and narrow. -/
def narrowE (b : List Entry) : Bool := b.all (fun e => decide (e.row.length ≤ 8)) && bagValid b

end Go.Proofs.YtiidgbfdghplhaaGreat
end
section
namespace Go.Proofs.YtiidgbfdghplhaaGreat
open Go.Abs Go.RowKit
attribute [local irreducible] ARun kont MCall PCall HCall resVal SF CF CFs defersOk slotsIn memIn fin finM VLe
set_option linter.unusedSimpArgs false
set_option maxRecDepth 100000
set_option maxHeartbeats 4000000

def pairE (x y : Entry) : Entry := ⟨x.row ++ y.row, x.count * y.count⟩
/-- The pairs of one row. -/
def pairs1 (x : Entry) (b : List Entry) (on : List (Int × Int)) : List Entry := (b.filter fun y => meetsE x.row y.row on).map (pairE x)
def pairsE (a b : List Entry) (on : List (Int × Int)) : List Entry := a.flatMap fun x => pairs1 x b on

theorem pairs_mem {a b : List Entry} {on : List (Int × Int)} {e : Entry} (h : e ∈ pairsE a b on) : ∃ x ∈ a, ∃ y ∈ b, meetsE x.row y.row on = true ∧ e = pairE x y := by
  obtain ⟨x, hx, he⟩ := List.mem_flatMap.1 h
  obtain ⟨y, hy, rfl⟩ := List.mem_map.1 he
  obtain ⟨h1, h2⟩ := List.mem_filter.1 hy
  exact ⟨x, hx, y, h1, h2, rfl⟩
theorem narrow_mem {l : List Entry} (h : narrowE l = true) : l.length ≤ 4096 ∧ ∀ e ∈ l, rowOK e.row = true ∧ (-262144 ≤ e.count ∧ e.count ≤ 262144) ∧ e.row.length ≤ 8 ∧ e.count ≠ 0 := by
  unfold narrowE at h
  simp only [Bool.and_eq_true] at h
  obtain ⟨h1, h2⟩ := valid_mem h.2
  refine ⟨h1, fun e he => ⟨(h2 e he).1, (h2 e he).2.1, ?_, (h2 e he).2.2⟩⟩
  have := List.all_eq_true.1 h.1 e he
  simpa using this

def boundE (l : List Entry) : List Entry × Nat :=
  if 4096 < l.length then ([], 8)
  else if l.all (fun e => decide (-262144 ≤ e.count ∧ e.count ≤ 262144)) then (l, 0)
  else ([], 9)
def refJoinE (a b : List Entry) (on : List (Int × Int)) : List Entry × Nat :=
  if narrowE a && narrowE b then boundE (sumR (pairsE a b on)) else ([], 1)
def bagR (q : List Entry × Nat) : PRes := .tup [.one (bagD q.1), .one (.lit (.int .i64 q.2))]

end Go.Proofs.YtiidgbfdghplhaaGreat
end
