/-
  No cell of these rows narrows 'for every input' (looked for: loops, veiled, ifaces, maps, wideKeys, modest, calm, conditions, laid).
  DERIVED. THE GIVEN ROWS OF THIS SEAT. 3 by the template 'for every input the law returns true; each argument reads behind the call as it read before'; 0 by the template 'total and deterministic' (their statements: YtiidgbfdghplhaaTotals.lean).
  GIVEN WITH THE SEED: the statements are not yours to turn. If you find one false, say at which input.
  Laid BY PROGRAM, IN A SANDBOX (cutbox-rows.mjs): the forced cells as the released guide's own fill.sh prints them over the translation 30a02884e78ffa99… (all of the seat's roots in one cut). By AI agents, Wed Nov 11 2026. No macro, syntax, notation, axiom, sorry.
-/
import Derived.Test.YtiidgbfdghplhaaChecked
import GoSem.Claim
import GoSem.ClaimJoined
import GoSem.ClaimMapViews
import Derived.JoinedTies
import Derived.KernelRfl
namespace Go.Proofs.Ytiidgbfdghplhaa
/- THE CELL 'sum', in the pinned program and in every row, IS THE sha256 OF THE DUMP (.gsa) THAT YtiidgbfdghplhaaProg.lean LOADS. Nothing in Lean hashes anything: it is a label: what it is worth is what the hold of that sum in a sandbox is worth. -/
noncomputable def Try.pinned : Pinned := { name := "ytiidgbfdghplhaa", sum := "30a02884e78ffa99e634dd9518f0e8245ff7aede872a44c809e726b0c9b5bdd6", checked := Try.checked }
namespace Rows
def none {H : Type} : Left H := { results := [], args := [] }

/-- 'erasurelaw08.AlgebraProject': WHATEVER THE INPUT: true; the input reads as it did. -/
def algebraProjectSpec : ChangeSpec := { name := "algebraProject", fn := fun _ => fun
  | [d1, d2, d3] => { results := [.lit (.bool true)], args := [d1, d2, d3] }
  | _ => none }
def algebraProjectRow : OpenClaim := { program := "ytiidgbfdghplhaa", sum := "30a02884e78ffa99e634dd9518f0e8245ff7aede872a44c809e726b0c9b5bdd6", func := "erasure/erasurelaw08.AlgebraProject", spec := "algebraProject", inPlace := ["internal/bytealg.abigen_runtime_cmpstring"], unfollowed := true, recurses := true, apart := false }
def AlgebraProjectSaid : Prop := algebraProjectRow.holds Try.pinned (OpenSpec.ofChange algebraProjectSpec)

/-- ITS FALSE NEIGHBOUR: 'it returns false'. Refute it at one input. -/
def algebraProjectWrong : ChangeSpec := { name := "algebraProject", fn := fun _ => fun
  | [d1, d2, d3] => { results := [.lit (.bool false)], args := [d1, d2, d3] }
  | _ => none }
def AlgebraProjectWrongFalsely : Prop := algebraProjectRow.holds Try.pinned (OpenSpec.ofChange algebraProjectWrong)

/-- 'erasurelaw08.AlgebraLimits': WHATEVER THE INPUT: true; the input reads as it did. -/
def algebraLimitsSpec : ChangeSpec := { name := "algebraLimits", fn := fun _ => fun
  | [d] => { results := [.lit (.bool true)], args := [d] }
  | _ => none }
def algebraLimitsRow : OpenClaim := { program := "ytiidgbfdghplhaa", sum := "30a02884e78ffa99e634dd9518f0e8245ff7aede872a44c809e726b0c9b5bdd6", func := "erasure/erasurelaw08.AlgebraLimits", spec := "algebraLimits", inPlace := ["internal/bytealg.abigen_runtime_cmpstring"], unfollowed := true, recurses := true, apart := false }
def AlgebraLimitsSaid : Prop := algebraLimitsRow.holds Try.pinned (OpenSpec.ofChange algebraLimitsSpec)

/-- ITS FALSE NEIGHBOUR: 'it returns false'. Refute it at one input. -/
def algebraLimitsWrong : ChangeSpec := { name := "algebraLimits", fn := fun _ => fun
  | [d] => { results := [.lit (.bool false)], args := [d] }
  | _ => none }
def AlgebraLimitsWrongFalsely : Prop := algebraLimitsRow.holds Try.pinned (OpenSpec.ofChange algebraLimitsWrong)

/-- 'erasurelaw08.AlgebraAssociates': WHATEVER THE INPUT: true; the input reads as it did. -/
def algebraAssociatesSpec : ChangeSpec := { name := "algebraAssociates", fn := fun _ => fun
  | [d] => { results := [.lit (.bool true)], args := [d] }
  | _ => none }
def algebraAssociatesRow : OpenClaim := { program := "ytiidgbfdghplhaa", sum := "30a02884e78ffa99e634dd9518f0e8245ff7aede872a44c809e726b0c9b5bdd6", func := "erasure/erasurelaw08.AlgebraAssociates", spec := "algebraAssociates", inPlace := ["internal/bytealg.abigen_runtime_cmpstring"], unfollowed := true, recurses := true, apart := false }
def AlgebraAssociatesSaid : Prop := algebraAssociatesRow.holds Try.pinned (OpenSpec.ofChange algebraAssociatesSpec)

/-- ITS FALSE NEIGHBOUR: 'it returns false'. Refute it at one input. -/
def algebraAssociatesWrong : ChangeSpec := { name := "algebraAssociates", fn := fun _ => fun
  | [d] => { results := [.lit (.bool false)], args := [d] }
  | _ => none }
def AlgebraAssociatesWrongFalsely : Prop := algebraAssociatesRow.holds Try.pinned (OpenSpec.ofChange algebraAssociatesWrong)

/- THE SECOND FORM. 'bulk': how many values and letters a reading holds, each counted each time it is reached (what is shared counts as often as it is met; a slice's spare places count too). A statement '..UptoSaid' is the law's where the arguments, and the package variables that the reading takes, are together of bulk at most 1048576: NARROWER than '..Said'. Prove '..Said' where nothing that the law and all that it calls make is longer than what came in: it says more and counts as full. Else prove '..UptoSaid'. A law counts once. -/
mutual
def uptoBulk {H : Type} : DataW H → Nat
  | .lit (.string bytes) => bytes.length + 1
  | .lit _ => 1
  | .nil => 1
  | .ptr d => uptoBulk d + 1
  | .slice elems spare => uptoBulkAll elems + uptoBulkAll spare + 1
  | .agg parts => uptoBulkAll parts + 1
  | .iface _ d => uptoBulk d + 1
  | .map entries => uptoBulkEntries entries + 1
  | .held _ => 1
def uptoBulkAll {H : Type} : List (DataW H) → Nat
  | [] => 0
  | d :: r => uptoBulk d + uptoBulkAll r
def uptoBulkEntries {H : Type} : List (Lit × DataW H) → Nat
  | [] => 0
  | x :: r => uptoBulkEntry x + uptoBulkEntries r
def uptoBulkEntry {H : Type} : Lit × DataW H → Nat
  | (.string bytes, d) => bytes.length + uptoBulk d + 1
  | (_, d) => uptoBulk d + 1
 end
def uptoSmall : (H : Type) → List (DataW H) → Bool := fun _ ds => decide (uptoBulkAll ds ≤ 1048576)
def OpenSpec.upto (s : _root_.Go.ChangeSpec) : _root_.Go.OpenSpec := { _root_.Go.OpenSpec.ofChange s with cond := some uptoSmall }

/-- 'erasurelaw08.AlgebraProject', WHERE WHAT IT READS IS OF BULK AT MOST 1048576: true; the input reads as it did. -/
def algebraProjectUptoRow : OpenClaim := { program := "ytiidgbfdghplhaa", sum := "30a02884e78ffa99e634dd9518f0e8245ff7aede872a44c809e726b0c9b5bdd6", func := "erasure/erasurelaw08.AlgebraProject", spec := "algebraProject", inPlace := ["internal/bytealg.abigen_runtime_cmpstring"], unfollowed := true, recurses := true, apart := false, narrowed := true }
def AlgebraProjectUptoSaid : Prop := algebraProjectUptoRow.holds Try.pinned (OpenSpec.upto algebraProjectSpec)

/-- 'erasurelaw08.AlgebraLimits', WHERE WHAT IT READS IS OF BULK AT MOST 1048576: true; the input reads as it did. -/
def algebraLimitsUptoRow : OpenClaim := { program := "ytiidgbfdghplhaa", sum := "30a02884e78ffa99e634dd9518f0e8245ff7aede872a44c809e726b0c9b5bdd6", func := "erasure/erasurelaw08.AlgebraLimits", spec := "algebraLimits", inPlace := ["internal/bytealg.abigen_runtime_cmpstring"], unfollowed := true, recurses := true, apart := false, narrowed := true }
def AlgebraLimitsUptoSaid : Prop := algebraLimitsUptoRow.holds Try.pinned (OpenSpec.upto algebraLimitsSpec)

/-- 'erasurelaw08.AlgebraAssociates', WHERE WHAT IT READS IS OF BULK AT MOST 1048576: true; the input reads as it did. -/
def algebraAssociatesUptoRow : OpenClaim := { program := "ytiidgbfdghplhaa", sum := "30a02884e78ffa99e634dd9518f0e8245ff7aede872a44c809e726b0c9b5bdd6", func := "erasure/erasurelaw08.AlgebraAssociates", spec := "algebraAssociates", inPlace := ["internal/bytealg.abigen_runtime_cmpstring"], unfollowed := true, recurses := true, apart := false, narrowed := true }
def AlgebraAssociatesUptoSaid : Prop := algebraAssociatesUptoRow.holds Try.pinned (OpenSpec.upto algebraAssociatesSpec)

end Rows
end Go.Proofs.Ytiidgbfdghplhaa
