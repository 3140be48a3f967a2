/-
  The cache: the document's Lookup.
-/
import Derived.Test.YtmejclckkmpggaaCaj
import Derived.Test.YtmejclckkmpggaaHoa
namespace Go.Proofs.Ytmejclckkmpggaa
open Go.Abs Go.RowKit
attribute [local irreducible] ARun kont MCall PCall HCall resVal SF CF CFs defersOk slotsIn memIn fin finM VLe
set_option linter.unusedSimpArgs false
set_option maxRecDepth 100000
set_option maxHeartbeats 4000000

end Go.Proofs.Ytmejclckkmpggaa
