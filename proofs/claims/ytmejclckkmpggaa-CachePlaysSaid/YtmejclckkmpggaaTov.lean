/-
  The cache: the values that a change touches, the document's.
-/
import Derived.Test.YtmejclckkmpggaaTou
namespace Go.Proofs.Ytmejclckkmpggaa
open Go.Abs Go.RowKit
attribute [local irreducible] ARun kont MCall PCall HCall resVal SF CF CFs defersOk slotsIn memIn fin finM VLe
set_option linter.unusedSimpArgs false
set_option maxRecDepth 100000
set_option maxHeartbeats 4000000

theorem mid_get {α : Type} {l : List α} {p : α} {j : Nat} (hj : j ≤ l.length) : (l.take j ++ p :: l.drop j)[j]? = some p := by
  rw [List.getElem?_append_right (by simp; omega), List.length_take, Nat.min_eq_left hj, Nat.sub_self]; rfl
theorem mid_left {α : Type} {l : List α} {p q : α} {j : Nat} (h : l[j]? = some q) : (l.take (j + 1) ++ p :: l.drop (j + 1))[j]? = some q := by
  have := lt_of_getElem? h
  rw [List.getElem?_append_left (by simp; omega), List.getElem?_take, if_pos (by omega)]; exact h
theorem mid_swap {α : Type} {l : List α} {p q : α} {j : Nat} (h : l[j]? = some q) : ((l.take (j + 1) ++ p :: l.drop (j + 1)).set j p).set (j + 1) q = l.take j ++ p :: l.drop j := by
  have hlt := lt_of_getElem? h
  have e1 : l.take (j + 1) = l.take j ++ [q] := by rw [List.take_add_one, h]; rfl
  have e2 : l.drop j = q :: l.drop (j + 1) := drop_cons h
  have hlen : (l.take j).length = j := by simp; omega
  rw [e1, e2, List.append_assoc, List.set_append_right _ _ (by omega), hlen, Nat.sub_self]
  simp only [List.singleton_append, List.set_cons_zero]
  rw [List.set_append_right _ _ (by omega), hlen, Nat.add_sub_cancel_left]
  rfl
def vLt (a b : Val) : Bool := decide (a.cmp b < 0)
def insV (out : List Val) (v : Val) : List Val := if out.any (sameVal · v) then out else bub vLt v out
def refV (l : List Val) : List Val := l.foldl insV []
end Go.Proofs.Ytmejclckkmpggaa
