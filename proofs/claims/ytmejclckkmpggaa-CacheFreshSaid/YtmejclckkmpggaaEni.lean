/-
  Different cleaned rows have different byte forms. Plain, no program.
-/
import Derived.Test.YtmejclckkmpggaaOrd
namespace Go.Proofs.Ytmejclckkmpggaa
open Go.Abs Go.RowKit
set_option linter.unusedSimpArgs false

end Go.Proofs.Ytmejclckkmpggaa
