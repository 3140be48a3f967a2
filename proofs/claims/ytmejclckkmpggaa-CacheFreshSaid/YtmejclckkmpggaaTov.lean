/-
  The cache: the values that a change touches, the document's.
-/
import Derived.Test.YtmejclckkmpggaaTou
namespace Go.Proofs.Ytmejclckkmpggaa
open Go.Abs Go.RowKit
attribute [local irreducible] ARun kont MCall PCall HCall resVal SF CF CFs defersOk slotsIn memIn fin finM VLe
set_option linter.unusedSimpArgs false
set_option maxRecDepth 100000
set_option maxHeartbeats 4000000

def vLt (a b : Val) : Bool := decide (a.cmp b < 0)
def insV (out : List Val) (v : Val) : List Val := if out.any (sameVal · v) then out else bub vLt v out
def refV (l : List Val) : List Val := l.foldl insV []
end Go.Proofs.Ytmejclckkmpggaa
