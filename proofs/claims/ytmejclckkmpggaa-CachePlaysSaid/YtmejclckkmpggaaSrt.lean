/-
  slices.SortFunc as a call with one of the caller's arrays: the library's contract, seen by our walk.
-/
import Derived.Test.YtmejclckkmpggaaByt
import Derived.Shelf.SlSortCmp.WholeK
import Derived.Shelf.SlSortCmp.Whole1
import Derived.Shelf.SlSortCmp.NoneTotal
namespace Go.Abs
open Go.RowKit

section
variable {F0 : Nat → Prop} {w0 w : World} {E : Env} {mem : List Blk} {ck : Nat}

end

/-- A list by its places; beyond its end, its first one. -/
def clipI (n i : Nat) : Nat := if i < n then i else 0

noncomputable def sortIx {β : Type} (cf : β → β → Int) (l : List β) (d : β) : Array Nat := Go.Sort.pdq (Go.Proofs.ltOf fun i j : Nat => cf (l.getD (clipI l.length i) d) (l.getD (clipI l.length j) d)) (Array.range l.length) 0 l.length (Go.Lib.bitLen l.length) true true

/-- What slices.SortFunc makes of a list. -/
noncomputable def sortF {β : Type} (cf : β → β → Int) (l : List β) : List β :=
  match l with
  | [] => []
  | x :: l' => (sortIx cf (x :: l') x).toList.map fun i => (x :: l').getD (clipI (x :: l').length i) x

open Go.Sort (SWO) in
open Go.Proofs (ltOf) in
open Go.Sort (SWO) in
open Go.Proofs (ltOf) in
open Go.Sort (SWO) in
open Go.Proofs (ltOf) in
open Go.Sort (SWO) in
open Go.Proofs (ltOf) in
section
variable {P : Program} {F0 : Nat → Prop} {w0 w : World} {E : Env} {t : TypeId} {z : Nat} {es : List (List Dat)} {ck : Nat}

variable {β : Type} {enc : β → List Dat} {cf : β → β → Int} {l : List β} {x0 : β} {c : Array Value}

def encM (c : Array Value) (z n i : Nat) : List Value := (List.range z).map fun j => c.getD (clipI n i * z + j) (.int .i64 0)

open Go.Sort (SWO) in
open Go.Proofs (ltOf) in
end

section
open Go.Sort (SWO HoldsK Holds flatK putRowK putRow grow ahead)
open Go.Proofs (ltOf CmpLays CmpLays1 sortWorldK sortWorld SlLaysF0.n6 SlLaysF.n6)
variable {P : Program} {ρ : Go.Shelf.Ren} {β : Type}

def enc1 (c : Array Value) (n i : Nat) : Value := c.getD (clipI n i) (.int .i64 0)

end
end Go.Abs
