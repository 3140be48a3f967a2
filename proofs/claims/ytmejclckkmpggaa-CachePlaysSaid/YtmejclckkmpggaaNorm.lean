/-
  The document's Normalize: lists of entries sorted and summed.
-/
import Derived.Test.YtmejclckkmpggaaBag
namespace Go.Proofs.Ytmejclckkmpggaa
open Go.Abs Go.RowKit
attribute [local irreducible] ARun kont MCall PCall HCall resVal SF CF CFs defersOk slotsIn memIn fin finM VLe
set_option linter.unusedSimpArgs false
set_option maxRecDepth 100000

def mergeE : List Entry → List Entry → List Entry
  | [], b => b
  | a, [] => a
  | x :: a, y :: b =>
    if rowCmp x.row y.row < 0 then x :: mergeE a (y :: b)
    else if 0 < rowCmp x.row y.row then y :: mergeE (x :: a) b
    else (if x.count + y.count = 0 then [] else [⟨x.row, x.count + y.count⟩]) ++ mergeE a b
  termination_by a b => a.length + b.length

def within (M : Int) (l : List Entry) : Prop := ∀ e ∈ l, -M ≤ e.count ∧ e.count ≤ M

theorem drop_nil {α : Type} {l : List α} {i : Nat} (h : l.length ≤ i) : l.drop i = [] := List.drop_eq_nil_of_le h

def sortE (l : List Entry) : List Entry :=
  if h : l.length ≤ 1 then l.filter (fun e => decide (e.count ≠ 0))
  else mergeE (sortE (l.take (l.length / 2))) (sortE (l.drop (l.length / 2)))
  termination_by l.length
  decreasing_by
    · simp; omega
    · simp; omega

def fitsE (l : List Entry) : List Entry × Int := if 4096 < l.length then ([], 8) else if l.all (fun e => countOK e.count) then (l, 0) else ([], 9)

def entryIn (e : Entry) : Bool := rowOK e.row && countOK e.count
def normE (l : List Entry) : List Entry × Int := if l.all entryIn then fitsE (sortE l) else ([], 1)

end Go.Proofs.Ytmejclckkmpggaa
