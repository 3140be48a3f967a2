/-
  No cell of these rows narrows 'for every input' (looked for: loops, veiled, ifaces, maps, wideKeys, modest, calm, conditions, laid).
  DERIVED. THE GIVEN ROWS OF THIS SEAT. 5 by the template 'for every input the law returns true; each argument reads behind the call as it read before'; 0 by the template 'total and deterministic' (their statements: YtiidgbfdghplhaaGreatTotals.lean).
  GIVEN WITH THE SEED: the statements are not yours to turn. If you find one false, say at which input.
  Laid BY PROGRAM, IN A SANDBOX (cutbox-rows.mjs): the forced cells as the released guide's own fill.sh prints them over the translation 95ed8103bae6ff89… (all of the seat's roots in one cut). By AI agents, Wed Nov 11 2026. No macro, syntax, notation, axiom, sorry.
-/
import Derived.Test.YtiidgbfdghplhaaGreatChecked
import GoSem.Claim
import GoSem.ClaimJoined
import GoSem.ClaimMapViews
import Derived.JoinedTies
import Derived.KernelRfl
namespace Go.Proofs.YtiidgbfdghplhaaGreat
/- THE CELL 'sum', in the pinned program and in every row, IS THE sha256 OF THE DUMP (.gsa) THAT YtiidgbfdghplhaaGreatProg.lean LOADS. Nothing in Lean hashes anything: it is a label: what it is worth is what the hold of that sum in a sandbox is worth. -/
noncomputable def Tryz.pinned : Pinned := { name := "ytiidgbfdghplhaagreat", sum := "95ed8103bae6ff899152d11669f58a9f6a1ce8dbe5c39134e4aef8bd2359a487", checked := Tryz.checked }
namespace Rows
def none {H : Type} : Left H := { results := [], args := [] }

/-- 'erasurelaw08.AlgebraJoin': WHATEVER THE INPUT: true; the input reads as it did. -/
def algebraJoinSpec : ChangeSpec := { name := "algebraJoin", fn := fun _ => fun
  | [d1, d2, d3] => { results := [.lit (.bool true)], args := [d1, d2, d3] }
  | _ => none }
def algebraJoinRow : OpenClaim := { program := "ytiidgbfdghplhaagreat", sum := "95ed8103bae6ff899152d11669f58a9f6a1ce8dbe5c39134e4aef8bd2359a487", func := "erasure/erasurelaw08.AlgebraJoin", spec := "algebraJoin", inPlace := ["internal/bytealg.abigen_runtime_cmpstring"], unfollowed := true, recurses := true, apart := false }
def AlgebraJoinSaid : Prop := algebraJoinRow.holds Tryz.pinned (OpenSpec.ofChange algebraJoinSpec)

/-- ITS FALSE NEIGHBOUR: 'it returns false'. Refute it at one input. -/
def algebraJoinWrong : ChangeSpec := { name := "algebraJoin", fn := fun _ => fun
  | [d1, d2, d3] => { results := [.lit (.bool false)], args := [d1, d2, d3] }
  | _ => none }
def AlgebraJoinWrongFalsely : Prop := algebraJoinRow.holds Tryz.pinned (OpenSpec.ofChange algebraJoinWrong)

/-- 'erasurelaw08.AlgebraMap': WHATEVER THE INPUT: true; the input reads as it did. -/
def algebraMapSpec : ChangeSpec := { name := "algebraMap", fn := fun _ => fun
  | [d1, d2, d3] => { results := [.lit (.bool true)], args := [d1, d2, d3] }
  | _ => none }
def algebraMapRow : OpenClaim := { program := "ytiidgbfdghplhaagreat", sum := "95ed8103bae6ff899152d11669f58a9f6a1ce8dbe5c39134e4aef8bd2359a487", func := "erasure/erasurelaw08.AlgebraMap", spec := "algebraMap", inPlace := ["internal/bytealg.abigen_runtime_cmpstring"], unfollowed := true, recurses := true, apart := false }
def AlgebraMapSaid : Prop := algebraMapRow.holds Tryz.pinned (OpenSpec.ofChange algebraMapSpec)

/-- ITS FALSE NEIGHBOUR: 'it returns false'. Refute it at one input. -/
def algebraMapWrong : ChangeSpec := { name := "algebraMap", fn := fun _ => fun
  | [d1, d2, d3] => { results := [.lit (.bool false)], args := [d1, d2, d3] }
  | _ => none }
def AlgebraMapWrongFalsely : Prop := algebraMapRow.holds Tryz.pinned (OpenSpec.ofChange algebraMapWrong)

/-- 'erasurelaw08.AlgebraWhere': WHATEVER THE INPUT: true; the input reads as it did. -/
def algebraWhereSpec : ChangeSpec := { name := "algebraWhere", fn := fun _ => fun
  | [d1, d2, d3] => { results := [.lit (.bool true)], args := [d1, d2, d3] }
  | _ => none }
def algebraWhereRow : OpenClaim := { program := "ytiidgbfdghplhaagreat", sum := "95ed8103bae6ff899152d11669f58a9f6a1ce8dbe5c39134e4aef8bd2359a487", func := "erasure/erasurelaw08.AlgebraWhere", spec := "algebraWhere", inPlace := ["internal/bytealg.abigen_runtime_cmpstring"], unfollowed := true, recurses := true, apart := false }
def AlgebraWhereSaid : Prop := algebraWhereRow.holds Tryz.pinned (OpenSpec.ofChange algebraWhereSpec)

/-- ITS FALSE NEIGHBOUR: 'it returns false'. Refute it at one input. -/
def algebraWhereWrong : ChangeSpec := { name := "algebraWhere", fn := fun _ => fun
  | [d1, d2, d3] => { results := [.lit (.bool false)], args := [d1, d2, d3] }
  | _ => none }
def AlgebraWhereWrongFalsely : Prop := algebraWhereRow.holds Tryz.pinned (OpenSpec.ofChange algebraWhereWrong)

/-- 'erasurelaw08.AlgebraComposes': WHATEVER THE INPUT: true; the input reads as it did. -/
def algebraComposesSpec : ChangeSpec := { name := "algebraComposes", fn := fun _ => fun
  | [d] => { results := [.lit (.bool true)], args := [d] }
  | _ => none }
def algebraComposesRow : OpenClaim := { program := "ytiidgbfdghplhaagreat", sum := "95ed8103bae6ff899152d11669f58a9f6a1ce8dbe5c39134e4aef8bd2359a487", func := "erasure/erasurelaw08.AlgebraComposes", spec := "algebraComposes", inPlace := ["internal/bytealg.abigen_runtime_cmpstring"], unfollowed := true, recurses := true, apart := false }
def AlgebraComposesSaid : Prop := algebraComposesRow.holds Tryz.pinned (OpenSpec.ofChange algebraComposesSpec)

/-- ITS FALSE NEIGHBOUR: 'it returns false'. Refute it at one input. -/
def algebraComposesWrong : ChangeSpec := { name := "algebraComposes", fn := fun _ => fun
  | [d] => { results := [.lit (.bool false)], args := [d] }
  | _ => none }
def AlgebraComposesWrongFalsely : Prop := algebraComposesRow.holds Tryz.pinned (OpenSpec.ofChange algebraComposesWrong)

/-- 'erasurelaw08.AlgebraLinear': WHATEVER THE INPUT: true; the input reads as it did. -/
def algebraLinearSpec : ChangeSpec := { name := "algebraLinear", fn := fun _ => fun
  | [d] => { results := [.lit (.bool true)], args := [d] }
  | _ => none }
def algebraLinearRow : OpenClaim := { program := "ytiidgbfdghplhaagreat", sum := "95ed8103bae6ff899152d11669f58a9f6a1ce8dbe5c39134e4aef8bd2359a487", func := "erasure/erasurelaw08.AlgebraLinear", spec := "algebraLinear", inPlace := ["internal/bytealg.abigen_runtime_cmpstring"], unfollowed := true, recurses := true, apart := false }
def AlgebraLinearSaid : Prop := algebraLinearRow.holds Tryz.pinned (OpenSpec.ofChange algebraLinearSpec)

/-- ITS FALSE NEIGHBOUR: 'it returns false'. Refute it at one input. -/
def algebraLinearWrong : ChangeSpec := { name := "algebraLinear", fn := fun _ => fun
  | [d] => { results := [.lit (.bool false)], args := [d] }
  | _ => none }
def AlgebraLinearWrongFalsely : Prop := algebraLinearRow.holds Tryz.pinned (OpenSpec.ofChange algebraLinearWrong)

/- THE SECOND FORM. 'bulk': how many values and letters a reading holds, each counted each time it is reached (what is shared counts as often as it is met; a slice's spare places count too). A statement '..UptoSaid' is the law's where the arguments, and the package variables that the reading takes, are together of bulk at most 1048576: NARROWER than '..Said'. Prove '..Said' where nothing that the law and all that it calls make is longer than what came in: it says more and counts as full. Else prove '..UptoSaid'. A law counts once. -/
mutual
def uptoBulk {H : Type} : DataW H → Nat
  | .lit (.string bytes) => bytes.length + 1
  | .lit _ => 1
  | .nil => 1
  | .ptr d => uptoBulk d + 1
  | .slice elems spare => uptoBulkAll elems + uptoBulkAll spare + 1
  | .agg parts => uptoBulkAll parts + 1
  | .iface _ d => uptoBulk d + 1
  | .map entries => uptoBulkEntries entries + 1
  | .held _ => 1
def uptoBulkAll {H : Type} : List (DataW H) → Nat
  | [] => 0
  | d :: r => uptoBulk d + uptoBulkAll r
def uptoBulkEntries {H : Type} : List (Lit × DataW H) → Nat
  | [] => 0
  | x :: r => uptoBulkEntry x + uptoBulkEntries r
def uptoBulkEntry {H : Type} : Lit × DataW H → Nat
  | (.string bytes, d) => bytes.length + uptoBulk d + 1
  | (_, d) => uptoBulk d + 1
 end
def uptoSmall : (H : Type) → List (DataW H) → Bool := fun _ ds => decide (uptoBulkAll ds ≤ 1048576)
def OpenSpec.upto (s : _root_.Go.ChangeSpec) : _root_.Go.OpenSpec := { _root_.Go.OpenSpec.ofChange s with cond := some uptoSmall }

/-- 'erasurelaw08.AlgebraJoin', WHERE WHAT IT READS IS OF BULK AT MOST 1048576: true; the input reads as it did. -/
def algebraJoinUptoRow : OpenClaim := { program := "ytiidgbfdghplhaagreat", sum := "95ed8103bae6ff899152d11669f58a9f6a1ce8dbe5c39134e4aef8bd2359a487", func := "erasure/erasurelaw08.AlgebraJoin", spec := "algebraJoin", inPlace := ["internal/bytealg.abigen_runtime_cmpstring"], unfollowed := true, recurses := true, apart := false, narrowed := true }
def AlgebraJoinUptoSaid : Prop := algebraJoinUptoRow.holds Tryz.pinned (OpenSpec.upto algebraJoinSpec)

/-- 'erasurelaw08.AlgebraMap', WHERE WHAT IT READS IS OF BULK AT MOST 1048576: true; the input reads as it did. -/
def algebraMapUptoRow : OpenClaim := { program := "ytiidgbfdghplhaagreat", sum := "95ed8103bae6ff899152d11669f58a9f6a1ce8dbe5c39134e4aef8bd2359a487", func := "erasure/erasurelaw08.AlgebraMap", spec := "algebraMap", inPlace := ["internal/bytealg.abigen_runtime_cmpstring"], unfollowed := true, recurses := true, apart := false, narrowed := true }
def AlgebraMapUptoSaid : Prop := algebraMapUptoRow.holds Tryz.pinned (OpenSpec.upto algebraMapSpec)

/-- 'erasurelaw08.AlgebraWhere', WHERE WHAT IT READS IS OF BULK AT MOST 1048576: true; the input reads as it did. -/
def algebraWhereUptoRow : OpenClaim := { program := "ytiidgbfdghplhaagreat", sum := "95ed8103bae6ff899152d11669f58a9f6a1ce8dbe5c39134e4aef8bd2359a487", func := "erasure/erasurelaw08.AlgebraWhere", spec := "algebraWhere", inPlace := ["internal/bytealg.abigen_runtime_cmpstring"], unfollowed := true, recurses := true, apart := false, narrowed := true }
def AlgebraWhereUptoSaid : Prop := algebraWhereUptoRow.holds Tryz.pinned (OpenSpec.upto algebraWhereSpec)

/-- 'erasurelaw08.AlgebraComposes', WHERE WHAT IT READS IS OF BULK AT MOST 1048576: true; the input reads as it did. -/
def algebraComposesUptoRow : OpenClaim := { program := "ytiidgbfdghplhaagreat", sum := "95ed8103bae6ff899152d11669f58a9f6a1ce8dbe5c39134e4aef8bd2359a487", func := "erasure/erasurelaw08.AlgebraComposes", spec := "algebraComposes", inPlace := ["internal/bytealg.abigen_runtime_cmpstring"], unfollowed := true, recurses := true, apart := false, narrowed := true }
def AlgebraComposesUptoSaid : Prop := algebraComposesUptoRow.holds Tryz.pinned (OpenSpec.upto algebraComposesSpec)

/-- 'erasurelaw08.AlgebraLinear', WHERE WHAT IT READS IS OF BULK AT MOST 1048576: true; the input reads as it did. -/
def algebraLinearUptoRow : OpenClaim := { program := "ytiidgbfdghplhaagreat", sum := "95ed8103bae6ff899152d11669f58a9f6a1ce8dbe5c39134e4aef8bd2359a487", func := "erasure/erasurelaw08.AlgebraLinear", spec := "algebraLinear", inPlace := ["internal/bytealg.abigen_runtime_cmpstring"], unfollowed := true, recurses := true, apart := false, narrowed := true }
def AlgebraLinearUptoSaid : Prop := algebraLinearUptoRow.holds Tryz.pinned (OpenSpec.upto algebraLinearSpec)

end Rows
end Go.Proofs.YtiidgbfdghplhaaGreat
