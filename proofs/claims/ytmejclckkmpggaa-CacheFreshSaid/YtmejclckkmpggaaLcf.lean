/-
  CacheBounds.
-/
import Derived.Test.YtmejclckkmpggaaCan
import Derived.Test.YtmejclckkmpggaaCaf
import Derived.Test.YtmejclckkmpggaaEqs
namespace Go.Proofs.Ytmejclckkmpggaa
open Go.Abs Go.RowKit
attribute [local irreducible] ARun kont MCall PCall HCall resVal SF CF CFs defersOk slotsIn memIn fin finM VLe
set_option linter.unusedSimpArgs false
set_option maxRecDepth 100000
set_option maxHeartbeats 4000000

def intsD (l : List Int) : Dat := .sl (l.map fun n => [.lit (.int .i64 n)])
def bcC : Conf := ⟨⟨#[]⟩, ⟨#[]⟩, 0, 1000⟩

/-- What the law's first loop has kept. -/
def Bnd (s : List Cach) (i : Nat) (last : Int) : Prop := s.length = i ∧ validC s = true ∧ ∀ e ∈ s, (∃ k : Int, (0 ≤ k ∧ k < i) ∧ e.val = Val.ofInt k) ∧ 0 ≤ e.day ∧ e.day ≤ last

end Go.Proofs.Ytmejclckkmpggaa
