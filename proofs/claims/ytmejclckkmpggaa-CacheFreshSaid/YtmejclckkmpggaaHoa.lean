/-
  An append to an empty literal that fills a hole, in a region of open order; fields and cells of one box.
-/
import Derived.Test.YtmejclckkmpggaaHol
section
namespace Go.Abs
open Go.RowKit
section
variable {P : Program} {T : TypeId → Option TI} {F0 : Nat → Prop} {w0 w : World} {E : Env} {mem : List Blk} {clock : Nat}

end
section
variable {P : Program} {T : TypeId → Option TI} {F0 : Nat → Prop} {w0 : World}
variable {dr : Bool} {ops rest : List Oper} {K : St → Prop} {n : Nat} {sl : List (Nat × SVal)} {mem : List Blk} {ck : Nat} {df : List (FuncId × List Cell)} {acc : List Nat}
variable {d : Tmp} {op : Op} {ty : TypeId} {pos : String} {aft : Array Edge} {g : Option (Nat × Bool)}

/-! Fields and cells of one box. -/
end
end Go.Abs
end
