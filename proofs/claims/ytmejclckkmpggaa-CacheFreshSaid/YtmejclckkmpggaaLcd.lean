/-
  CacheForgets.
-/
import Derived.Test.YtmejclckkmpggaaCaf
import Derived.Test.YtmejclckkmpggaaCag
import Derived.Test.YtmejclckkmpggaaTov
import Derived.Test.YtmejclckkmpggaaNmv
namespace Go.Proofs.Ytmejclckkmpggaa
open Go.Abs Go.RowKit
attribute [local irreducible] ARun kont MCall PCall HCall resVal SF CF CFs defersOk slotsIn memIn fin finM VLe
set_option linter.unusedSimpArgs false
set_option maxRecDepth 100000
set_option maxHeartbeats 4000000

def smallE (s : List Cach) : Bool := s.all (fun x => shortE x.rows) && decide (s.length ≤ 30)

end Go.Proofs.Ytmejclckkmpggaa
