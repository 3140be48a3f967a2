/-
  Sums of entries, in plain terms: what sorting and merging make of a list is the one sorted list with the same sums.
-/
import Derived.Test.YtmejclckkmpggaaNorm
import Derived.Test.YtmejclckkmpggaaEni
import Derived.Test.YtmejclckkmpggaaSrt
namespace Go.Proofs.Ytmejclckkmpggaa
open Go.Abs Go.RowKit
set_option linter.unusedSimpArgs false
set_option maxRecDepth 100000

theorem sfs_arr {mem : List Blk} {r k m z : Nat} {ety : TypeId} {es x : List (List Dat)} (hm : mem[r]? = some (.arr k ety z es)) (hl : m ≤ es.length) (hx : es.take m = x) : SFs mem [.c (.arr r k m)] [.one (.sl x)] :=
  ⟨cf_arr hm hl (by rw [hx]), trivial⟩

def eR (a b : Entry) : Prop := rowCmp a.row b.row < 0
theorem eR_tr (a b c : Entry) (h1 : eR a b) (h2 : eR b c) : eR a c := rowCmp_ok.trans _ _ _ h1 h2

def sumK : List Entry → List Val → Int
  | [], _ => 0
  | e :: l, r => (if rowCmp e.row r = 0 then e.count else 0) + sumK l r

/-- Rows all different. -/
def apart (l : List Entry) : Prop := l.Pairwise fun a b => rowCmp a.row b.row ≠ 0

def rowClean (r : List Val) : Prop := r.map Val.clean = r
/-- A sorted list of entries: rows ascending and clean, counts not 0. -/
structure Sorted (l : List Entry) : Prop where
  up : l.Pairwise eR
  nz : ∀ e ∈ l, e.count ≠ 0
  cl : ∀ e ∈ l, rowClean e.row

def entCmp (a b : Entry) : Int := rowCmp a.row b.row
end Go.Proofs.Ytmejclckkmpggaa
