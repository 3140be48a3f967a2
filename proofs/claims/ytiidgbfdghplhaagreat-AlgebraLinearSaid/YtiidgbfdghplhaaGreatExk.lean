/-
  Expressions: the document's operators, put together.
-/
import Derived.Test.YtiidgbfdghplhaaGreatExh
section
namespace Go.Proofs.YtiidgbfdghplhaaGreat
open Go.Abs Go.RowKit
attribute [local irreducible] ARun kont MCall PCall HCall resVal SF CF CFs defersOk slotsIn memIn fin finM VLe
set_option linter.unusedSimpArgs false
set_option maxRecDepth 100000
set_option maxHeartbeats 4000000

def truthR (v : Val) : Int := if v.kind ≠ 1 then -1 else if v.int = 0 then 0 else 1
def three14 (a b : Int) : Val := if a = 0 ∨ b = 0 then truthE false else if a < 0 ∨ b < 0 then Val.null else truthE true
def three15 (a b : Int) : Val := if a = 1 ∨ b = 1 then truthE true else if a < 0 ∨ b < 0 then Val.null else truthE false
end Go.Proofs.YtiidgbfdghplhaaGreat
end
section
namespace Go.Proofs.YtiidgbfdghplhaaGreat
open Go.Abs Go.RowKit
attribute [local irreducible] ARun kont MCall PCall HCall resVal SF CF CFs defersOk slotsIn memIn fin finM VLe
set_option linter.unusedSimpArgs false
set_option maxRecDepth 100000
set_option maxHeartbeats 4000000

def numsE (op a b : Int) : Val := if op = 4 then Val.ofInt (a + b) else if op = 5 then Val.ofInt (a - b) else if op = 6 then Val.ofInt (a * b) else quotE a b
end Go.Proofs.YtiidgbfdghplhaaGreat
end
