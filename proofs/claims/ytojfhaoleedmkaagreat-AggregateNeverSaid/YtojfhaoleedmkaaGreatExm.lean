/-
  Expressions: the document's evaluation.
-/
import Derived.Test.YtojfhaoleedmkaaGreatTex
import Derived.Test.YtojfhaoleedmkaaGreatExk
namespace Go.Proofs.YtojfhaoleedmkaaGreat
open Go.Abs Go.RowKit
attribute [local irreducible] ARun kont MCall PCall HCall resVal SF CF CFs defersOk slotsIn memIn fin finM VLe
set_option linter.unusedSimpArgs false
set_option maxRecDepth 100000
set_option maxHeartbeats 4000000
def partsD (ss : List (List Trm)) : Dat := .sl (ss.map fun s => [exprD s])
end Go.Proofs.YtojfhaoleedmkaaGreat
