/-
  CacheRaw.
-/
import Derived.Test.YtmejclckkmpggaaCan
import Derived.Test.YtmejclckkmpggaaLcd
import Derived.Test.YtmejclckkmpggaaEqs
namespace Go.Proofs.Ytmejclckkmpggaa
open Go.Abs Go.RowKit
attribute [local irreducible] ARun kont MCall PCall HCall resVal SF CF CFs defersOk slotsIn memIn fin finM VLe
set_option linter.unusedSimpArgs false
set_option maxRecDepth 100000
set_option maxHeartbeats 4000000

structure Act where
  kind : Int
  val : Val
  day : Int
  view : Int
def Act.d (a : Act) : List Dat := [.lit (.int .i64 a.kind), .lit (.int .i64 a.val.kind), .lit (.int .i64 a.val.int), .lit (.string a.val.text), .lit (.int .i64 a.day), .lit (.int .i64 a.view)]

end Go.Proofs.Ytmejclckkmpggaa
