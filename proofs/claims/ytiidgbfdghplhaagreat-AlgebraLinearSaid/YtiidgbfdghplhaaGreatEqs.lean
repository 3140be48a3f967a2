/-
  Comparisons of what is known to be the same: the answer is a literal.
-/
import Derived.Test.YtiidgbfdghplhaaGreatByt
namespace Go.Abs
open Go.RowKit
section
variable {P : Program} {T : TypeId → Option TI} {F0 : Nat → Prop} {w0 : World} {dr : Bool} {ops rest : List Oper} {K : St → Prop} {n : Nat} {sl : List (Nat × SVal)} {mem : List Blk} {ck : Nat} {df : List (FuncId × List Cell)} {acc : List Nat} {d : Tmp} {ty : TypeId} {pos : String} {aft : Array Edge} {g : Option (Nat × Bool)}

section
variable {B : Base} {R : Ex → St → Prop} {ks : List Fr}
/-- Ways that come together: what is known of the state there. -/
def joinR (τ0 : St) : Ex → St → Prop
  | .norm, τ => Weak τ τ0
  | _, _ => False
end
section
variable {B : Base} {m1 mem1 : List Blk} {r r1 : SVal}
end
end
end Go.Abs
