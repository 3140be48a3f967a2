/-
  No cell of these rows narrows 'for every input' (looked for: loops, veiled, ifaces, maps, wideKeys, modest, calm, conditions, laid).
  DERIVED. THE GIVEN ROWS OF THIS SEAT. 8 by the template 'for every input the law returns true; each argument reads behind the call as it read before'; 0 by the template 'total and deterministic' (their statements: YtlacmjfgaehhkaaTotals.lean).
  GIVEN WITH THE SEED: the statements are not yours to turn. If you find one false, say at which input.
  Laid BY PROGRAM, IN A SANDBOX (cutbox-rows.mjs): the forced cells as the released guide's own fill.sh prints them over the translation ae0a46b513b9aab1… (all of the seat's roots in one cut). By AI agents, Wed Nov 11 2026. No macro, syntax, notation, axiom, sorry.
-/
import Derived.Test.YtlacmjfgaehhkaaChecked
import GoSem.Claim
import GoSem.ClaimJoined
import GoSem.ClaimMapViews
import Derived.JoinedTies
import Derived.KernelRfl
namespace Go.Proofs.Ytlacmjfgaehhkaa
/- THE CELL 'sum', in the pinned program and in every row, IS THE sha256 OF THE DUMP (.gsa) THAT YtlacmjfgaehhkaaProg.lean LOADS. Nothing in Lean hashes anything: it is a label: what it is worth is what the hold of that sum in a sandbox is worth. -/
noncomputable def Try.pinned : Pinned := { name := "ytlacmjfgaehhkaa", sum := "ae0a46b513b9aab1da731fa444a69cad4f698d82251a910bd8db97180c824c88", checked := Try.checked }
namespace Rows
def none {H : Type} : Left H := { results := [], args := [] }

/-- 'erasurelaw35.ReleasePublishes': WHATEVER THE INPUT: true; the input reads as it did. -/
def releasePublishesSpec : ChangeSpec := { name := "releasePublishes", fn := fun _ => fun
  | [d1, d2, d3] => { results := [.lit (.bool true)], args := [d1, d2, d3] }
  | _ => none }
def releasePublishesRow : OpenClaim := { program := "ytlacmjfgaehhkaa", sum := "ae0a46b513b9aab1da731fa444a69cad4f698d82251a910bd8db97180c824c88", func := "erasure/erasurelaw35.ReleasePublishes", spec := "releasePublishes", inPlace := ["internal/bytealg.abigen_runtime_cmpstring"], unfollowed := true, recurses := true, apart := false }
def ReleasePublishesSaid : Prop := releasePublishesRow.holds Try.pinned (OpenSpec.ofChange releasePublishesSpec)

/-- ITS FALSE NEIGHBOUR: 'it returns false'. Refute it at one input. -/
def releasePublishesWrong : ChangeSpec := { name := "releasePublishes", fn := fun _ => fun
  | [d1, d2, d3] => { results := [.lit (.bool false)], args := [d1, d2, d3] }
  | _ => none }
def ReleasePublishesWrongFalsely : Prop := releasePublishesRow.holds Try.pinned (OpenSpec.ofChange releasePublishesWrong)

/-- 'erasurelaw35.ReleaseThreshold': WHATEVER THE INPUT: true; the input reads as it did. -/
def releaseThresholdSpec : ChangeSpec := { name := "releaseThreshold", fn := fun _ => fun
  | [d1, d2] => { results := [.lit (.bool true)], args := [d1, d2] }
  | _ => none }
def releaseThresholdRow : OpenClaim := { program := "ytlacmjfgaehhkaa", sum := "ae0a46b513b9aab1da731fa444a69cad4f698d82251a910bd8db97180c824c88", func := "erasure/erasurelaw35.ReleaseThreshold", spec := "releaseThreshold", inPlace := ["internal/bytealg.abigen_runtime_cmpstring"], unfollowed := true, recurses := true, apart := false }
def ReleaseThresholdSaid : Prop := releaseThresholdRow.holds Try.pinned (OpenSpec.ofChange releaseThresholdSpec)

/-- ITS FALSE NEIGHBOUR: 'it returns false'. Refute it at one input. -/
def releaseThresholdWrong : ChangeSpec := { name := "releaseThreshold", fn := fun _ => fun
  | [d1, d2] => { results := [.lit (.bool false)], args := [d1, d2] }
  | _ => none }
def ReleaseThresholdWrongFalsely : Prop := releaseThresholdRow.holds Try.pinned (OpenSpec.ofChange releaseThresholdWrong)

/-- 'erasurelaw35.ReleaseHides': WHATEVER THE INPUT: true; the input reads as it did. -/
def releaseHidesSpec : ChangeSpec := { name := "releaseHides", fn := fun _ => fun
  | [d1, d2, d3] => { results := [.lit (.bool true)], args := [d1, d2, d3] }
  | _ => none }
def releaseHidesRow : OpenClaim := { program := "ytlacmjfgaehhkaa", sum := "ae0a46b513b9aab1da731fa444a69cad4f698d82251a910bd8db97180c824c88", func := "erasure/erasurelaw35.ReleaseHides", spec := "releaseHides", inPlace := ["internal/bytealg.abigen_runtime_cmpstring"], unfollowed := true, recurses := true, apart := false }
def ReleaseHidesSaid : Prop := releaseHidesRow.holds Try.pinned (OpenSpec.ofChange releaseHidesSpec)

/-- ITS FALSE NEIGHBOUR: 'it returns false'. Refute it at one input. -/
def releaseHidesWrong : ChangeSpec := { name := "releaseHides", fn := fun _ => fun
  | [d1, d2, d3] => { results := [.lit (.bool false)], args := [d1, d2, d3] }
  | _ => none }
def ReleaseHidesWrongFalsely : Prop := releaseHidesRow.holds Try.pinned (OpenSpec.ofChange releaseHidesWrong)

/-- 'erasurelaw35.ReleaseKeys': WHATEVER THE INPUT: true; the input reads as it did. -/
def releaseKeysSpec : ChangeSpec := { name := "releaseKeys", fn := fun _ => fun
  | [d1, d2, d3] => { results := [.lit (.bool true)], args := [d1, d2, d3] }
  | _ => none }
def releaseKeysRow : OpenClaim := { program := "ytlacmjfgaehhkaa", sum := "ae0a46b513b9aab1da731fa444a69cad4f698d82251a910bd8db97180c824c88", func := "erasure/erasurelaw35.ReleaseKeys", spec := "releaseKeys", inPlace := ["internal/bytealg.abigen_runtime_cmpstring"], unfollowed := true, recurses := true, apart := false }
def ReleaseKeysSaid : Prop := releaseKeysRow.holds Try.pinned (OpenSpec.ofChange releaseKeysSpec)

/-- ITS FALSE NEIGHBOUR: 'it returns false'. Refute it at one input. -/
def releaseKeysWrong : ChangeSpec := { name := "releaseKeys", fn := fun _ => fun
  | [d1, d2, d3] => { results := [.lit (.bool false)], args := [d1, d2, d3] }
  | _ => none }
def ReleaseKeysWrongFalsely : Prop := releaseKeysRow.holds Try.pinned (OpenSpec.ofChange releaseKeysWrong)

/-- 'erasurelaw35.ReleaseValid': WHATEVER THE INPUT: true; the input reads as it did. -/
def releaseValidSpec : ChangeSpec := { name := "releaseValid", fn := fun _ => fun
  | [d1, d2, d3] => { results := [.lit (.bool true)], args := [d1, d2, d3] }
  | _ => none }
def releaseValidRow : OpenClaim := { program := "ytlacmjfgaehhkaa", sum := "ae0a46b513b9aab1da731fa444a69cad4f698d82251a910bd8db97180c824c88", func := "erasure/erasurelaw35.ReleaseValid", spec := "releaseValid", inPlace := ["internal/bytealg.abigen_runtime_cmpstring"], unfollowed := true, recurses := true, apart := false }
def ReleaseValidSaid : Prop := releaseValidRow.holds Try.pinned (OpenSpec.ofChange releaseValidSpec)

/-- ITS FALSE NEIGHBOUR: 'it returns false'. Refute it at one input. -/
def releaseValidWrong : ChangeSpec := { name := "releaseValid", fn := fun _ => fun
  | [d1, d2, d3] => { results := [.lit (.bool false)], args := [d1, d2, d3] }
  | _ => none }
def ReleaseValidWrongFalsely : Prop := releaseValidRow.holds Try.pinned (OpenSpec.ofChange releaseValidWrong)

/-- 'erasurelaw35.ReleaseSingle': WHATEVER THE INPUT: true; the input reads as it did. -/
def releaseSingleSpec : ChangeSpec := { name := "releaseSingle", fn := fun _ => fun
  | [d1, d2, d3] => { results := [.lit (.bool true)], args := [d1, d2, d3] }
  | _ => none }
def releaseSingleRow : OpenClaim := { program := "ytlacmjfgaehhkaa", sum := "ae0a46b513b9aab1da731fa444a69cad4f698d82251a910bd8db97180c824c88", func := "erasure/erasurelaw35.ReleaseSingle", spec := "releaseSingle", inPlace := ["internal/bytealg.abigen_runtime_cmpstring"], unfollowed := true, recurses := true, apart := false }
def ReleaseSingleSaid : Prop := releaseSingleRow.holds Try.pinned (OpenSpec.ofChange releaseSingleSpec)

/-- ITS FALSE NEIGHBOUR: 'it returns false'. Refute it at one input. -/
def releaseSingleWrong : ChangeSpec := { name := "releaseSingle", fn := fun _ => fun
  | [d1, d2, d3] => { results := [.lit (.bool false)], args := [d1, d2, d3] }
  | _ => none }
def ReleaseSingleWrongFalsely : Prop := releaseSingleRow.holds Try.pinned (OpenSpec.ofChange releaseSingleWrong)

/-- 'erasurelaw35.ReleaseFinds': WHATEVER THE INPUT: true; the input reads as it did. -/
def releaseFindsSpec : ChangeSpec := { name := "releaseFinds", fn := fun _ => fun
  | [d1, d2, d3] => { results := [.lit (.bool true)], args := [d1, d2, d3] }
  | _ => none }
def releaseFindsRow : OpenClaim := { program := "ytlacmjfgaehhkaa", sum := "ae0a46b513b9aab1da731fa444a69cad4f698d82251a910bd8db97180c824c88", func := "erasure/erasurelaw35.ReleaseFinds", spec := "releaseFinds", inPlace := ["internal/bytealg.abigen_runtime_cmpstring"], unfollowed := true, recurses := true, apart := false }
def ReleaseFindsSaid : Prop := releaseFindsRow.holds Try.pinned (OpenSpec.ofChange releaseFindsSpec)

/-- ITS FALSE NEIGHBOUR: 'it returns false'. Refute it at one input. -/
def releaseFindsWrong : ChangeSpec := { name := "releaseFinds", fn := fun _ => fun
  | [d1, d2, d3] => { results := [.lit (.bool false)], args := [d1, d2, d3] }
  | _ => none }
def ReleaseFindsWrongFalsely : Prop := releaseFindsRow.holds Try.pinned (OpenSpec.ofChange releaseFindsWrong)

/-- 'erasurelaw35.ReleaseDifferences': WHATEVER THE INPUT: true; the input reads as it did. -/
def releaseDifferencesSpec : ChangeSpec := { name := "releaseDifferences", fn := fun _ => fun
  | [d1, d2, d3] => { results := [.lit (.bool true)], args := [d1, d2, d3] }
  | _ => none }
def releaseDifferencesRow : OpenClaim := { program := "ytlacmjfgaehhkaa", sum := "ae0a46b513b9aab1da731fa444a69cad4f698d82251a910bd8db97180c824c88", func := "erasure/erasurelaw35.ReleaseDifferences", spec := "releaseDifferences", inPlace := ["internal/bytealg.abigen_runtime_cmpstring"], unfollowed := true, recurses := true, apart := false }
def ReleaseDifferencesSaid : Prop := releaseDifferencesRow.holds Try.pinned (OpenSpec.ofChange releaseDifferencesSpec)

/-- ITS FALSE NEIGHBOUR: 'it returns false'. Refute it at one input. -/
def releaseDifferencesWrong : ChangeSpec := { name := "releaseDifferences", fn := fun _ => fun
  | [d1, d2, d3] => { results := [.lit (.bool false)], args := [d1, d2, d3] }
  | _ => none }
def ReleaseDifferencesWrongFalsely : Prop := releaseDifferencesRow.holds Try.pinned (OpenSpec.ofChange releaseDifferencesWrong)

/- THE SECOND FORM. 'bulk': how many values and letters a reading holds, each counted each time it is reached (what is shared counts as often as it is met; a slice's spare places count too). A statement '..UptoSaid' is the law's where the arguments, and the package variables that the reading takes, are together of bulk at most 1048576: NARROWER than '..Said'. Prove '..Said' where nothing that the law and all that it calls make is longer than what came in: it says more and counts as full. Else prove '..UptoSaid'. A law counts once. -/
mutual
def uptoBulk {H : Type} : DataW H → Nat
  | .lit (.string bytes) => bytes.length + 1
  | .lit _ => 1
  | .nil => 1
  | .ptr d => uptoBulk d + 1
  | .slice elems spare => uptoBulkAll elems + uptoBulkAll spare + 1
  | .agg parts => uptoBulkAll parts + 1
  | .iface _ d => uptoBulk d + 1
  | .map entries => uptoBulkEntries entries + 1
  | .held _ => 1
def uptoBulkAll {H : Type} : List (DataW H) → Nat
  | [] => 0
  | d :: r => uptoBulk d + uptoBulkAll r
def uptoBulkEntries {H : Type} : List (Lit × DataW H) → Nat
  | [] => 0
  | x :: r => uptoBulkEntry x + uptoBulkEntries r
def uptoBulkEntry {H : Type} : Lit × DataW H → Nat
  | (.string bytes, d) => bytes.length + uptoBulk d + 1
  | (_, d) => uptoBulk d + 1
 end
def uptoSmall : (H : Type) → List (DataW H) → Bool := fun _ ds => decide (uptoBulkAll ds ≤ 1048576)
def OpenSpec.upto (s : _root_.Go.ChangeSpec) : _root_.Go.OpenSpec := { _root_.Go.OpenSpec.ofChange s with cond := some uptoSmall }

/-- 'erasurelaw35.ReleasePublishes', WHERE WHAT IT READS IS OF BULK AT MOST 1048576: true; the input reads as it did. -/
def releasePublishesUptoRow : OpenClaim := { program := "ytlacmjfgaehhkaa", sum := "ae0a46b513b9aab1da731fa444a69cad4f698d82251a910bd8db97180c824c88", func := "erasure/erasurelaw35.ReleasePublishes", spec := "releasePublishes", inPlace := ["internal/bytealg.abigen_runtime_cmpstring"], unfollowed := true, recurses := true, apart := false, narrowed := true }
def ReleasePublishesUptoSaid : Prop := releasePublishesUptoRow.holds Try.pinned (OpenSpec.upto releasePublishesSpec)

/-- 'erasurelaw35.ReleaseThreshold', WHERE WHAT IT READS IS OF BULK AT MOST 1048576: true; the input reads as it did. -/
def releaseThresholdUptoRow : OpenClaim := { program := "ytlacmjfgaehhkaa", sum := "ae0a46b513b9aab1da731fa444a69cad4f698d82251a910bd8db97180c824c88", func := "erasure/erasurelaw35.ReleaseThreshold", spec := "releaseThreshold", inPlace := ["internal/bytealg.abigen_runtime_cmpstring"], unfollowed := true, recurses := true, apart := false, narrowed := true }
def ReleaseThresholdUptoSaid : Prop := releaseThresholdUptoRow.holds Try.pinned (OpenSpec.upto releaseThresholdSpec)

/-- 'erasurelaw35.ReleaseHides', WHERE WHAT IT READS IS OF BULK AT MOST 1048576: true; the input reads as it did. -/
def releaseHidesUptoRow : OpenClaim := { program := "ytlacmjfgaehhkaa", sum := "ae0a46b513b9aab1da731fa444a69cad4f698d82251a910bd8db97180c824c88", func := "erasure/erasurelaw35.ReleaseHides", spec := "releaseHides", inPlace := ["internal/bytealg.abigen_runtime_cmpstring"], unfollowed := true, recurses := true, apart := false, narrowed := true }
def ReleaseHidesUptoSaid : Prop := releaseHidesUptoRow.holds Try.pinned (OpenSpec.upto releaseHidesSpec)

/-- 'erasurelaw35.ReleaseKeys', WHERE WHAT IT READS IS OF BULK AT MOST 1048576: true; the input reads as it did. -/
def releaseKeysUptoRow : OpenClaim := { program := "ytlacmjfgaehhkaa", sum := "ae0a46b513b9aab1da731fa444a69cad4f698d82251a910bd8db97180c824c88", func := "erasure/erasurelaw35.ReleaseKeys", spec := "releaseKeys", inPlace := ["internal/bytealg.abigen_runtime_cmpstring"], unfollowed := true, recurses := true, apart := false, narrowed := true }
def ReleaseKeysUptoSaid : Prop := releaseKeysUptoRow.holds Try.pinned (OpenSpec.upto releaseKeysSpec)

/-- 'erasurelaw35.ReleaseValid', WHERE WHAT IT READS IS OF BULK AT MOST 1048576: true; the input reads as it did. -/
def releaseValidUptoRow : OpenClaim := { program := "ytlacmjfgaehhkaa", sum := "ae0a46b513b9aab1da731fa444a69cad4f698d82251a910bd8db97180c824c88", func := "erasure/erasurelaw35.ReleaseValid", spec := "releaseValid", inPlace := ["internal/bytealg.abigen_runtime_cmpstring"], unfollowed := true, recurses := true, apart := false, narrowed := true }
def ReleaseValidUptoSaid : Prop := releaseValidUptoRow.holds Try.pinned (OpenSpec.upto releaseValidSpec)

/-- 'erasurelaw35.ReleaseSingle', WHERE WHAT IT READS IS OF BULK AT MOST 1048576: true; the input reads as it did. -/
def releaseSingleUptoRow : OpenClaim := { program := "ytlacmjfgaehhkaa", sum := "ae0a46b513b9aab1da731fa444a69cad4f698d82251a910bd8db97180c824c88", func := "erasure/erasurelaw35.ReleaseSingle", spec := "releaseSingle", inPlace := ["internal/bytealg.abigen_runtime_cmpstring"], unfollowed := true, recurses := true, apart := false, narrowed := true }
def ReleaseSingleUptoSaid : Prop := releaseSingleUptoRow.holds Try.pinned (OpenSpec.upto releaseSingleSpec)

/-- 'erasurelaw35.ReleaseFinds', WHERE WHAT IT READS IS OF BULK AT MOST 1048576: true; the input reads as it did. -/
def releaseFindsUptoRow : OpenClaim := { program := "ytlacmjfgaehhkaa", sum := "ae0a46b513b9aab1da731fa444a69cad4f698d82251a910bd8db97180c824c88", func := "erasure/erasurelaw35.ReleaseFinds", spec := "releaseFinds", inPlace := ["internal/bytealg.abigen_runtime_cmpstring"], unfollowed := true, recurses := true, apart := false, narrowed := true }
def ReleaseFindsUptoSaid : Prop := releaseFindsUptoRow.holds Try.pinned (OpenSpec.upto releaseFindsSpec)

/-- 'erasurelaw35.ReleaseDifferences', WHERE WHAT IT READS IS OF BULK AT MOST 1048576: true; the input reads as it did. -/
def releaseDifferencesUptoRow : OpenClaim := { program := "ytlacmjfgaehhkaa", sum := "ae0a46b513b9aab1da731fa444a69cad4f698d82251a910bd8db97180c824c88", func := "erasure/erasurelaw35.ReleaseDifferences", spec := "releaseDifferences", inPlace := ["internal/bytealg.abigen_runtime_cmpstring"], unfollowed := true, recurses := true, apart := false, narrowed := true }
def ReleaseDifferencesUptoSaid : Prop := releaseDifferencesUptoRow.holds Try.pinned (OpenSpec.upto releaseDifferencesSpec)

end Rows
end Go.Proofs.Ytlacmjfgaehhkaa
