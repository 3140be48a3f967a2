/-
  No cell of these rows narrows 'for every input' (looked for: loops, veiled, ifaces, maps, wideKeys, modest, calm, conditions, laid).
  DERIVED. THE GIVEN ROWS OF THIS SEAT. 8 by the template 'for every input the law returns true; each argument reads behind the call as it read before'; 0 by the template 'total and deterministic' (their statements: YtojfhaoleedmkaaGreatTotals.lean).
  GIVEN WITH THE SEED: the statements are not yours to turn. If you find one false, say at which input.
  Laid BY PROGRAM, IN A SANDBOX (cutbox-rows.mjs): the forced cells as the released guide's own fill.sh prints them over the translation f9c8a8effe1bdc0c… (all of the seat's roots in one cut). By AI agents, Wed Nov 11 2026. No macro, syntax, notation, axiom, sorry.
-/
import Derived.Test.YtojfhaoleedmkaaGreatChecked
import GoSem.Claim
import GoSem.ClaimJoined
import GoSem.ClaimMapViews
import Derived.JoinedTies
import Derived.KernelRfl
namespace Go.Proofs.YtojfhaoleedmkaaGreat
/- THE CELL 'sum', in the pinned program and in every row, IS THE sha256 OF THE DUMP (.gsa) THAT YtojfhaoleedmkaaGreatProg.lean LOADS. Nothing in Lean hashes anything: it is a label: what it is worth is what the hold of that sum in a sandbox is worth. -/
noncomputable def Tryz.pinned : Pinned := { name := "ytojfhaoleedmkaagreat", sum := "f9c8a8effe1bdc0c4bfd9aedb4de402a3f138c693c8baf5757bb42a6780bc165", checked := Tryz.checked }
namespace Rows
def none {H : Type} : Left H := { results := [], args := [] }

/-- 'erasurelaw09.AggregateGroup': WHATEVER THE INPUT: true; the input reads as it did. -/
def aggregateGroupSpec : ChangeSpec := { name := "aggregateGroup", fn := fun _ => fun
  | [d] => { results := [.lit (.bool true)], args := [d] }
  | _ => none }
def aggregateGroupRow : OpenClaim := { program := "ytojfhaoleedmkaagreat", sum := "f9c8a8effe1bdc0c4bfd9aedb4de402a3f138c693c8baf5757bb42a6780bc165", func := "erasure/erasurelaw09.AggregateGroup", spec := "aggregateGroup", inPlace := ["internal/bytealg.abigen_runtime_cmpstring"], unfollowed := true, recurses := true, apart := false }
def AggregateGroupSaid : Prop := aggregateGroupRow.holds Tryz.pinned (OpenSpec.ofChange aggregateGroupSpec)

/-- ITS FALSE NEIGHBOUR: 'it returns false'. Refute it at one input. -/
def aggregateGroupWrong : ChangeSpec := { name := "aggregateGroup", fn := fun _ => fun
  | [d] => { results := [.lit (.bool false)], args := [d] }
  | _ => none }
def AggregateGroupWrongFalsely : Prop := aggregateGroupRow.holds Tryz.pinned (OpenSpec.ofChange aggregateGroupWrong)

/-- 'erasurelaw09.AggregateStates': WHATEVER THE INPUT: true; the input reads as it did. -/
def aggregateStatesSpec : ChangeSpec := { name := "aggregateStates", fn := fun _ => fun
  | [d] => { results := [.lit (.bool true)], args := [d] }
  | _ => none }
def aggregateStatesRow : OpenClaim := { program := "ytojfhaoleedmkaagreat", sum := "f9c8a8effe1bdc0c4bfd9aedb4de402a3f138c693c8baf5757bb42a6780bc165", func := "erasure/erasurelaw09.AggregateStates", spec := "aggregateStates", inPlace := ["internal/bytealg.abigen_runtime_cmpstring"], unfollowed := true, recurses := true, apart := false }
def AggregateStatesSaid : Prop := aggregateStatesRow.holds Tryz.pinned (OpenSpec.ofChange aggregateStatesSpec)

/-- ITS FALSE NEIGHBOUR: 'it returns false'. Refute it at one input. -/
def aggregateStatesWrong : ChangeSpec := { name := "aggregateStates", fn := fun _ => fun
  | [d] => { results := [.lit (.bool false)], args := [d] }
  | _ => none }
def AggregateStatesWrongFalsely : Prop := aggregateStatesRow.holds Tryz.pinned (OpenSpec.ofChange aggregateStatesWrong)

/-- 'erasurelaw09.AggregateCorrect': WHATEVER THE INPUT: true; the input reads as it did. -/
def aggregateCorrectSpec : ChangeSpec := { name := "aggregateCorrect", fn := fun _ => fun
  | [d] => { results := [.lit (.bool true)], args := [d] }
  | _ => none }
def aggregateCorrectRow : OpenClaim := { program := "ytojfhaoleedmkaagreat", sum := "f9c8a8effe1bdc0c4bfd9aedb4de402a3f138c693c8baf5757bb42a6780bc165", func := "erasure/erasurelaw09.AggregateCorrect", spec := "aggregateCorrect", inPlace := ["internal/bytealg.abigen_runtime_cmpstring"], unfollowed := true, recurses := true, apart := false }
def AggregateCorrectSaid : Prop := aggregateCorrectRow.holds Tryz.pinned (OpenSpec.ofChange aggregateCorrectSpec)

/-- ITS FALSE NEIGHBOUR: 'it returns false'. Refute it at one input. -/
def aggregateCorrectWrong : ChangeSpec := { name := "aggregateCorrect", fn := fun _ => fun
  | [d] => { results := [.lit (.bool false)], args := [d] }
  | _ => none }
def AggregateCorrectWrongFalsely : Prop := aggregateCorrectRow.holds Tryz.pinned (OpenSpec.ofChange aggregateCorrectWrong)

/-- 'erasurelaw09.AggregateLocal': WHATEVER THE INPUT: true; the input reads as it did. -/
def aggregateLocalSpec : ChangeSpec := { name := "aggregateLocal", fn := fun _ => fun
  | [d] => { results := [.lit (.bool true)], args := [d] }
  | _ => none }
def aggregateLocalRow : OpenClaim := { program := "ytojfhaoleedmkaagreat", sum := "f9c8a8effe1bdc0c4bfd9aedb4de402a3f138c693c8baf5757bb42a6780bc165", func := "erasure/erasurelaw09.AggregateLocal", spec := "aggregateLocal", inPlace := ["internal/bytealg.abigen_runtime_cmpstring"], unfollowed := true, recurses := true, apart := false }
def AggregateLocalSaid : Prop := aggregateLocalRow.holds Tryz.pinned (OpenSpec.ofChange aggregateLocalSpec)

/-- ITS FALSE NEIGHBOUR: 'it returns false'. Refute it at one input. -/
def aggregateLocalWrong : ChangeSpec := { name := "aggregateLocal", fn := fun _ => fun
  | [d] => { results := [.lit (.bool false)], args := [d] }
  | _ => none }
def AggregateLocalWrongFalsely : Prop := aggregateLocalRow.holds Tryz.pinned (OpenSpec.ofChange aggregateLocalWrong)

/-- 'erasurelaw09.AggregateFold': WHATEVER THE INPUT: true; the input reads as it did. -/
def aggregateFoldSpec : ChangeSpec := { name := "aggregateFold", fn := fun _ => fun
  | [d1, d2, d3] => { results := [.lit (.bool true)], args := [d1, d2, d3] }
  | _ => none }
def aggregateFoldRow : OpenClaim := { program := "ytojfhaoleedmkaagreat", sum := "f9c8a8effe1bdc0c4bfd9aedb4de402a3f138c693c8baf5757bb42a6780bc165", func := "erasure/erasurelaw09.AggregateFold", spec := "aggregateFold", inPlace := ["internal/bytealg.abigen_runtime_cmpstring"], unfollowed := true, recurses := true, apart := false }
def AggregateFoldSaid : Prop := aggregateFoldRow.holds Tryz.pinned (OpenSpec.ofChange aggregateFoldSpec)

/-- ITS FALSE NEIGHBOUR: 'it returns false'. Refute it at one input. -/
def aggregateFoldWrong : ChangeSpec := { name := "aggregateFold", fn := fun _ => fun
  | [d1, d2, d3] => { results := [.lit (.bool false)], args := [d1, d2, d3] }
  | _ => none }
def AggregateFoldWrongFalsely : Prop := aggregateFoldRow.holds Tryz.pinned (OpenSpec.ofChange aggregateFoldWrong)

/-- 'erasurelaw09.AggregateMedian': WHATEVER THE INPUT: true; the input reads as it did. -/
def aggregateMedianSpec : ChangeSpec := { name := "aggregateMedian", fn := fun _ => fun
  | [d] => { results := [.lit (.bool true)], args := [d] }
  | _ => none }
def aggregateMedianRow : OpenClaim := { program := "ytojfhaoleedmkaagreat", sum := "f9c8a8effe1bdc0c4bfd9aedb4de402a3f138c693c8baf5757bb42a6780bc165", func := "erasure/erasurelaw09.AggregateMedian", spec := "aggregateMedian", inPlace := ["internal/bytealg.abigen_runtime_cmpstring"], unfollowed := true, recurses := true, apart := false }
def AggregateMedianSaid : Prop := aggregateMedianRow.holds Tryz.pinned (OpenSpec.ofChange aggregateMedianSpec)

/-- ITS FALSE NEIGHBOUR: 'it returns false'. Refute it at one input. -/
def aggregateMedianWrong : ChangeSpec := { name := "aggregateMedian", fn := fun _ => fun
  | [d] => { results := [.lit (.bool false)], args := [d] }
  | _ => none }
def AggregateMedianWrongFalsely : Prop := aggregateMedianRow.holds Tryz.pinned (OpenSpec.ofChange aggregateMedianWrong)

/-- 'erasurelaw09.AggregateExact': WHATEVER THE INPUT: true; the input reads as it did. -/
def aggregateExactSpec : ChangeSpec := { name := "aggregateExact", fn := fun _ => fun
  | [d] => { results := [.lit (.bool true)], args := [d] }
  | _ => none }
def aggregateExactRow : OpenClaim := { program := "ytojfhaoleedmkaagreat", sum := "f9c8a8effe1bdc0c4bfd9aedb4de402a3f138c693c8baf5757bb42a6780bc165", func := "erasure/erasurelaw09.AggregateExact", spec := "aggregateExact", inPlace := ["internal/bytealg.abigen_runtime_cmpstring"], unfollowed := true, recurses := true, apart := false }
def AggregateExactSaid : Prop := aggregateExactRow.holds Tryz.pinned (OpenSpec.ofChange aggregateExactSpec)

/-- ITS FALSE NEIGHBOUR: 'it returns false'. Refute it at one input. -/
def aggregateExactWrong : ChangeSpec := { name := "aggregateExact", fn := fun _ => fun
  | [d] => { results := [.lit (.bool false)], args := [d] }
  | _ => none }
def AggregateExactWrongFalsely : Prop := aggregateExactRow.holds Tryz.pinned (OpenSpec.ofChange aggregateExactWrong)

/-- 'erasurelaw09.AggregateNever': WHATEVER THE INPUT: true; the input reads as it did. -/
def aggregateNeverSpec : ChangeSpec := { name := "aggregateNever", fn := fun _ => fun
  | [d] => { results := [.lit (.bool true)], args := [d] }
  | _ => none }
def aggregateNeverRow : OpenClaim := { program := "ytojfhaoleedmkaagreat", sum := "f9c8a8effe1bdc0c4bfd9aedb4de402a3f138c693c8baf5757bb42a6780bc165", func := "erasure/erasurelaw09.AggregateNever", spec := "aggregateNever", inPlace := ["internal/bytealg.abigen_runtime_cmpstring"], unfollowed := true, recurses := true, apart := false }
def AggregateNeverSaid : Prop := aggregateNeverRow.holds Tryz.pinned (OpenSpec.ofChange aggregateNeverSpec)

/-- ITS FALSE NEIGHBOUR: 'it returns false'. Refute it at one input. -/
def aggregateNeverWrong : ChangeSpec := { name := "aggregateNever", fn := fun _ => fun
  | [d] => { results := [.lit (.bool false)], args := [d] }
  | _ => none }
def AggregateNeverWrongFalsely : Prop := aggregateNeverRow.holds Tryz.pinned (OpenSpec.ofChange aggregateNeverWrong)

/- THE SECOND FORM. 'bulk': how many values and letters a reading holds, each counted each time it is reached (what is shared counts as often as it is met; a slice's spare places count too). A statement '..UptoSaid' is the law's where the arguments, and the package variables that the reading takes, are together of bulk at most 1048576: NARROWER than '..Said'. Prove '..Said' where nothing that the law and all that it calls make is longer than what came in: it says more and counts as full. Else prove '..UptoSaid'. A law counts once. -/
mutual
def uptoBulk {H : Type} : DataW H → Nat
  | .lit (.string bytes) => bytes.length + 1
  | .lit _ => 1
  | .nil => 1
  | .ptr d => uptoBulk d + 1
  | .slice elems spare => uptoBulkAll elems + uptoBulkAll spare + 1
  | .agg parts => uptoBulkAll parts + 1
  | .iface _ d => uptoBulk d + 1
  | .map entries => uptoBulkEntries entries + 1
  | .held _ => 1
def uptoBulkAll {H : Type} : List (DataW H) → Nat
  | [] => 0
  | d :: r => uptoBulk d + uptoBulkAll r
def uptoBulkEntries {H : Type} : List (Lit × DataW H) → Nat
  | [] => 0
  | x :: r => uptoBulkEntry x + uptoBulkEntries r
def uptoBulkEntry {H : Type} : Lit × DataW H → Nat
  | (.string bytes, d) => bytes.length + uptoBulk d + 1
  | (_, d) => uptoBulk d + 1
 end
def uptoSmall : (H : Type) → List (DataW H) → Bool := fun _ ds => decide (uptoBulkAll ds ≤ 1048576)
def OpenSpec.upto (s : _root_.Go.ChangeSpec) : _root_.Go.OpenSpec := { _root_.Go.OpenSpec.ofChange s with cond := some uptoSmall }

/-- 'erasurelaw09.AggregateGroup', WHERE WHAT IT READS IS OF BULK AT MOST 1048576: true; the input reads as it did. -/
def aggregateGroupUptoRow : OpenClaim := { program := "ytojfhaoleedmkaagreat", sum := "f9c8a8effe1bdc0c4bfd9aedb4de402a3f138c693c8baf5757bb42a6780bc165", func := "erasure/erasurelaw09.AggregateGroup", spec := "aggregateGroup", inPlace := ["internal/bytealg.abigen_runtime_cmpstring"], unfollowed := true, recurses := true, apart := false, narrowed := true }
def AggregateGroupUptoSaid : Prop := aggregateGroupUptoRow.holds Tryz.pinned (OpenSpec.upto aggregateGroupSpec)

/-- 'erasurelaw09.AggregateStates', WHERE WHAT IT READS IS OF BULK AT MOST 1048576: true; the input reads as it did. -/
def aggregateStatesUptoRow : OpenClaim := { program := "ytojfhaoleedmkaagreat", sum := "f9c8a8effe1bdc0c4bfd9aedb4de402a3f138c693c8baf5757bb42a6780bc165", func := "erasure/erasurelaw09.AggregateStates", spec := "aggregateStates", inPlace := ["internal/bytealg.abigen_runtime_cmpstring"], unfollowed := true, recurses := true, apart := false, narrowed := true }
def AggregateStatesUptoSaid : Prop := aggregateStatesUptoRow.holds Tryz.pinned (OpenSpec.upto aggregateStatesSpec)

/-- 'erasurelaw09.AggregateCorrect', WHERE WHAT IT READS IS OF BULK AT MOST 1048576: true; the input reads as it did. -/
def aggregateCorrectUptoRow : OpenClaim := { program := "ytojfhaoleedmkaagreat", sum := "f9c8a8effe1bdc0c4bfd9aedb4de402a3f138c693c8baf5757bb42a6780bc165", func := "erasure/erasurelaw09.AggregateCorrect", spec := "aggregateCorrect", inPlace := ["internal/bytealg.abigen_runtime_cmpstring"], unfollowed := true, recurses := true, apart := false, narrowed := true }
def AggregateCorrectUptoSaid : Prop := aggregateCorrectUptoRow.holds Tryz.pinned (OpenSpec.upto aggregateCorrectSpec)

/-- 'erasurelaw09.AggregateLocal', WHERE WHAT IT READS IS OF BULK AT MOST 1048576: true; the input reads as it did. -/
def aggregateLocalUptoRow : OpenClaim := { program := "ytojfhaoleedmkaagreat", sum := "f9c8a8effe1bdc0c4bfd9aedb4de402a3f138c693c8baf5757bb42a6780bc165", func := "erasure/erasurelaw09.AggregateLocal", spec := "aggregateLocal", inPlace := ["internal/bytealg.abigen_runtime_cmpstring"], unfollowed := true, recurses := true, apart := false, narrowed := true }
def AggregateLocalUptoSaid : Prop := aggregateLocalUptoRow.holds Tryz.pinned (OpenSpec.upto aggregateLocalSpec)

/-- 'erasurelaw09.AggregateFold', WHERE WHAT IT READS IS OF BULK AT MOST 1048576: true; the input reads as it did. -/
def aggregateFoldUptoRow : OpenClaim := { program := "ytojfhaoleedmkaagreat", sum := "f9c8a8effe1bdc0c4bfd9aedb4de402a3f138c693c8baf5757bb42a6780bc165", func := "erasure/erasurelaw09.AggregateFold", spec := "aggregateFold", inPlace := ["internal/bytealg.abigen_runtime_cmpstring"], unfollowed := true, recurses := true, apart := false, narrowed := true }
def AggregateFoldUptoSaid : Prop := aggregateFoldUptoRow.holds Tryz.pinned (OpenSpec.upto aggregateFoldSpec)

/-- 'erasurelaw09.AggregateMedian', WHERE WHAT IT READS IS OF BULK AT MOST 1048576: true; the input reads as it did. -/
def aggregateMedianUptoRow : OpenClaim := { program := "ytojfhaoleedmkaagreat", sum := "f9c8a8effe1bdc0c4bfd9aedb4de402a3f138c693c8baf5757bb42a6780bc165", func := "erasure/erasurelaw09.AggregateMedian", spec := "aggregateMedian", inPlace := ["internal/bytealg.abigen_runtime_cmpstring"], unfollowed := true, recurses := true, apart := false, narrowed := true }
def AggregateMedianUptoSaid : Prop := aggregateMedianUptoRow.holds Tryz.pinned (OpenSpec.upto aggregateMedianSpec)

/-- 'erasurelaw09.AggregateExact', WHERE WHAT IT READS IS OF BULK AT MOST 1048576: true; the input reads as it did. -/
def aggregateExactUptoRow : OpenClaim := { program := "ytojfhaoleedmkaagreat", sum := "f9c8a8effe1bdc0c4bfd9aedb4de402a3f138c693c8baf5757bb42a6780bc165", func := "erasure/erasurelaw09.AggregateExact", spec := "aggregateExact", inPlace := ["internal/bytealg.abigen_runtime_cmpstring"], unfollowed := true, recurses := true, apart := false, narrowed := true }
def AggregateExactUptoSaid : Prop := aggregateExactUptoRow.holds Tryz.pinned (OpenSpec.upto aggregateExactSpec)

/-- 'erasurelaw09.AggregateNever', WHERE WHAT IT READS IS OF BULK AT MOST 1048576: true; the input reads as it did. -/
def aggregateNeverUptoRow : OpenClaim := { program := "ytojfhaoleedmkaagreat", sum := "f9c8a8effe1bdc0c4bfd9aedb4de402a3f138c693c8baf5757bb42a6780bc165", func := "erasure/erasurelaw09.AggregateNever", spec := "aggregateNever", inPlace := ["internal/bytealg.abigen_runtime_cmpstring"], unfollowed := true, recurses := true, apart := false, narrowed := true }
def AggregateNeverUptoSaid : Prop := aggregateNeverUptoRow.holds Tryz.pinned (OpenSpec.upto aggregateNeverSpec)

end Rows
end Go.Proofs.YtojfhaoleedmkaaGreat
