/-
  No cell of these rows narrows 'for every input' (looked for: loops, veiled, ifaces, maps, wideKeys, modest, calm, conditions, laid).
  DERIVED. THE GIVEN ROWS OF THIS SEAT. 6 by the template 'for every input the law returns true; each argument reads behind the call as it read before'; 0 by the template 'total and deterministic' (their statements: YtmpgmjlanngkfaaGreatTotals.lean).
  GIVEN WITH THE SEED: the statements are not yours to turn. If you find one false, say at which input.
  Laid BY PROGRAM, IN A SANDBOX (cutbox-rows.mjs): the forced cells as the released guide's own fill.sh prints them over the translation 6412d9794cc78d88… (all of the seat's roots in one cut). By AI agents, Wed Nov 11 2026. No macro, syntax, notation, axiom, sorry.
-/
import Derived.Test.YtmpgmjlanngkfaaGreatChecked
import GoSem.Claim
import GoSem.ClaimJoined
import GoSem.ClaimMapViews
import Derived.JoinedTies
import Derived.KernelRfl
namespace Go.Proofs.YtmpgmjlanngkfaaGreat
/- THE CELL 'sum', in the pinned program and in every row, IS THE sha256 OF THE DUMP (.gsa) THAT YtmpgmjlanngkfaaGreatProg.lean LOADS. Nothing in Lean hashes anything: it is a label: what it is worth is what the hold of that sum in a sandbox is worth. -/
noncomputable def Tryz.pinned : Pinned := { name := "ytmpgmjlanngkfaagreat", sum := "6412d9794cc78d88b71119e8d6d9d23b0a1d087589d08c36e4b3f9690032ca2f", checked := Tryz.checked }
namespace Rows
def none {H : Type} : Left H := { results := [], args := [] }

/-- 'erasurelaw10.DeltaDerive': WHATEVER THE INPUT: true; the input reads as it did. -/
def deltaDeriveSpec : ChangeSpec := { name := "deltaDerive", fn := fun _ => fun
  | [d] => { results := [.lit (.bool true)], args := [d] }
  | _ => none }
def deltaDeriveRow : OpenClaim := { program := "ytmpgmjlanngkfaagreat", sum := "6412d9794cc78d88b71119e8d6d9d23b0a1d087589d08c36e4b3f9690032ca2f", func := "erasure/erasurelaw10.DeltaDerive", spec := "deltaDerive", inPlace := ["internal/bytealg.abigen_runtime_cmpstring"], unfollowed := true, recurses := true, apart := false }
def DeltaDeriveSaid : Prop := deltaDeriveRow.holds Tryz.pinned (OpenSpec.ofChange deltaDeriveSpec)

/-- ITS FALSE NEIGHBOUR: 'it returns false'. Refute it at one input. -/
def deltaDeriveWrong : ChangeSpec := { name := "deltaDerive", fn := fun _ => fun
  | [d] => { results := [.lit (.bool false)], args := [d] }
  | _ => none }
def DeltaDeriveWrongFalsely : Prop := deltaDeriveRow.holds Tryz.pinned (OpenSpec.ofChange deltaDeriveWrong)

/-- 'erasurelaw10.DeltaAdds': WHATEVER THE INPUT: true; the input reads as it did. -/
def deltaAddsSpec : ChangeSpec := { name := "deltaAdds", fn := fun _ => fun
  | [d] => { results := [.lit (.bool true)], args := [d] }
  | _ => none }
def deltaAddsRow : OpenClaim := { program := "ytmpgmjlanngkfaagreat", sum := "6412d9794cc78d88b71119e8d6d9d23b0a1d087589d08c36e4b3f9690032ca2f", func := "erasure/erasurelaw10.DeltaAdds", spec := "deltaAdds", inPlace := ["internal/bytealg.abigen_runtime_cmpstring"], unfollowed := true, recurses := true, apart := false }
def DeltaAddsSaid : Prop := deltaAddsRow.holds Tryz.pinned (OpenSpec.ofChange deltaAddsSpec)

/-- ITS FALSE NEIGHBOUR: 'it returns false'. Refute it at one input. -/
def deltaAddsWrong : ChangeSpec := { name := "deltaAdds", fn := fun _ => fun
  | [d] => { results := [.lit (.bool false)], args := [d] }
  | _ => none }
def DeltaAddsWrongFalsely : Prop := deltaAddsRow.holds Tryz.pinned (OpenSpec.ofChange deltaAddsWrong)

/-- 'erasurelaw10.DeltaChains': WHATEVER THE INPUT: true; the input reads as it did. -/
def deltaChainsSpec : ChangeSpec := { name := "deltaChains", fn := fun _ => fun
  | [d] => { results := [.lit (.bool true)], args := [d] }
  | _ => none }
def deltaChainsRow : OpenClaim := { program := "ytmpgmjlanngkfaagreat", sum := "6412d9794cc78d88b71119e8d6d9d23b0a1d087589d08c36e4b3f9690032ca2f", func := "erasure/erasurelaw10.DeltaChains", spec := "deltaChains", inPlace := ["internal/bytealg.abigen_runtime_cmpstring"], unfollowed := true, recurses := true, apart := false }
def DeltaChainsSaid : Prop := deltaChainsRow.holds Tryz.pinned (OpenSpec.ofChange deltaChainsSpec)

/-- ITS FALSE NEIGHBOUR: 'it returns false'. Refute it at one input. -/
def deltaChainsWrong : ChangeSpec := { name := "deltaChains", fn := fun _ => fun
  | [d] => { results := [.lit (.bool false)], args := [d] }
  | _ => none }
def DeltaChainsWrongFalsely : Prop := deltaChainsRow.holds Tryz.pinned (OpenSpec.ofChange deltaChainsWrong)

/-- 'erasurelaw10.DeltaLinear': WHATEVER THE INPUT: true; the input reads as it did. -/
def deltaLinearSpec : ChangeSpec := { name := "deltaLinear", fn := fun _ => fun
  | [d] => { results := [.lit (.bool true)], args := [d] }
  | _ => none }
def deltaLinearRow : OpenClaim := { program := "ytmpgmjlanngkfaagreat", sum := "6412d9794cc78d88b71119e8d6d9d23b0a1d087589d08c36e4b3f9690032ca2f", func := "erasure/erasurelaw10.DeltaLinear", spec := "deltaLinear", inPlace := ["internal/bytealg.abigen_runtime_cmpstring"], unfollowed := true, recurses := true, apart := false }
def DeltaLinearSaid : Prop := deltaLinearRow.holds Tryz.pinned (OpenSpec.ofChange deltaLinearSpec)

/-- ITS FALSE NEIGHBOUR: 'it returns false'. Refute it at one input. -/
def deltaLinearWrong : ChangeSpec := { name := "deltaLinear", fn := fun _ => fun
  | [d] => { results := [.lit (.bool false)], args := [d] }
  | _ => none }
def DeltaLinearWrongFalsely : Prop := deltaLinearRow.holds Tryz.pinned (OpenSpec.ofChange deltaLinearWrong)

/-- 'erasurelaw10.DeltaChange': WHATEVER THE INPUT: true; the input reads as it did. -/
def deltaChangeSpec : ChangeSpec := { name := "deltaChange", fn := fun _ => fun
  | [d] => { results := [.lit (.bool true)], args := [d] }
  | _ => none }
def deltaChangeRow : OpenClaim := { program := "ytmpgmjlanngkfaagreat", sum := "6412d9794cc78d88b71119e8d6d9d23b0a1d087589d08c36e4b3f9690032ca2f", func := "erasure/erasurelaw10.DeltaChange", spec := "deltaChange", inPlace := ["internal/bytealg.abigen_runtime_cmpstring"], unfollowed := true, recurses := true, apart := false }
def DeltaChangeSaid : Prop := deltaChangeRow.holds Tryz.pinned (OpenSpec.ofChange deltaChangeSpec)

/-- ITS FALSE NEIGHBOUR: 'it returns false'. Refute it at one input. -/
def deltaChangeWrong : ChangeSpec := { name := "deltaChange", fn := fun _ => fun
  | [d] => { results := [.lit (.bool false)], args := [d] }
  | _ => none }
def DeltaChangeWrongFalsely : Prop := deltaChangeRow.holds Tryz.pinned (OpenSpec.ofChange deltaChangeWrong)

/-- 'erasurelaw10.DeltaTouched': WHATEVER THE INPUT: true; the input reads as it did. -/
def deltaTouchedSpec : ChangeSpec := { name := "deltaTouched", fn := fun _ => fun
  | [d] => { results := [.lit (.bool true)], args := [d] }
  | _ => none }
def deltaTouchedRow : OpenClaim := { program := "ytmpgmjlanngkfaagreat", sum := "6412d9794cc78d88b71119e8d6d9d23b0a1d087589d08c36e4b3f9690032ca2f", func := "erasure/erasurelaw10.DeltaTouched", spec := "deltaTouched", inPlace := ["internal/bytealg.abigen_runtime_cmpstring"], unfollowed := true, recurses := true, apart := false }
def DeltaTouchedSaid : Prop := deltaTouchedRow.holds Tryz.pinned (OpenSpec.ofChange deltaTouchedSpec)

/-- ITS FALSE NEIGHBOUR: 'it returns false'. Refute it at one input. -/
def deltaTouchedWrong : ChangeSpec := { name := "deltaTouched", fn := fun _ => fun
  | [d] => { results := [.lit (.bool false)], args := [d] }
  | _ => none }
def DeltaTouchedWrongFalsely : Prop := deltaTouchedRow.holds Tryz.pinned (OpenSpec.ofChange deltaTouchedWrong)

/- THE SECOND FORM. 'bulk': how many values and letters a reading holds, each counted each time it is reached (what is shared counts as often as it is met; a slice's spare places count too). A statement '..UptoSaid' is the law's where the arguments, and the package variables that the reading takes, are together of bulk at most 1048576: NARROWER than '..Said'. Prove '..Said' where nothing that the law and all that it calls make is longer than what came in: it says more and counts as full. Else prove '..UptoSaid'. A law counts once. -/
mutual
def uptoBulk {H : Type} : DataW H → Nat
  | .lit (.string bytes) => bytes.length + 1
  | .lit _ => 1
  | .nil => 1
  | .ptr d => uptoBulk d + 1
  | .slice elems spare => uptoBulkAll elems + uptoBulkAll spare + 1
  | .agg parts => uptoBulkAll parts + 1
  | .iface _ d => uptoBulk d + 1
  | .map entries => uptoBulkEntries entries + 1
  | .held _ => 1
def uptoBulkAll {H : Type} : List (DataW H) → Nat
  | [] => 0
  | d :: r => uptoBulk d + uptoBulkAll r
def uptoBulkEntries {H : Type} : List (Lit × DataW H) → Nat
  | [] => 0
  | x :: r => uptoBulkEntry x + uptoBulkEntries r
def uptoBulkEntry {H : Type} : Lit × DataW H → Nat
  | (.string bytes, d) => bytes.length + uptoBulk d + 1
  | (_, d) => uptoBulk d + 1
 end
def uptoSmall : (H : Type) → List (DataW H) → Bool := fun _ ds => decide (uptoBulkAll ds ≤ 1048576)
def OpenSpec.upto (s : _root_.Go.ChangeSpec) : _root_.Go.OpenSpec := { _root_.Go.OpenSpec.ofChange s with cond := some uptoSmall }

/-- 'erasurelaw10.DeltaDerive', WHERE WHAT IT READS IS OF BULK AT MOST 1048576: true; the input reads as it did. -/
def deltaDeriveUptoRow : OpenClaim := { program := "ytmpgmjlanngkfaagreat", sum := "6412d9794cc78d88b71119e8d6d9d23b0a1d087589d08c36e4b3f9690032ca2f", func := "erasure/erasurelaw10.DeltaDerive", spec := "deltaDerive", inPlace := ["internal/bytealg.abigen_runtime_cmpstring"], unfollowed := true, recurses := true, apart := false, narrowed := true }
def DeltaDeriveUptoSaid : Prop := deltaDeriveUptoRow.holds Tryz.pinned (OpenSpec.upto deltaDeriveSpec)

/-- 'erasurelaw10.DeltaAdds', WHERE WHAT IT READS IS OF BULK AT MOST 1048576: true; the input reads as it did. -/
def deltaAddsUptoRow : OpenClaim := { program := "ytmpgmjlanngkfaagreat", sum := "6412d9794cc78d88b71119e8d6d9d23b0a1d087589d08c36e4b3f9690032ca2f", func := "erasure/erasurelaw10.DeltaAdds", spec := "deltaAdds", inPlace := ["internal/bytealg.abigen_runtime_cmpstring"], unfollowed := true, recurses := true, apart := false, narrowed := true }
def DeltaAddsUptoSaid : Prop := deltaAddsUptoRow.holds Tryz.pinned (OpenSpec.upto deltaAddsSpec)

/-- 'erasurelaw10.DeltaChains', WHERE WHAT IT READS IS OF BULK AT MOST 1048576: true; the input reads as it did. -/
def deltaChainsUptoRow : OpenClaim := { program := "ytmpgmjlanngkfaagreat", sum := "6412d9794cc78d88b71119e8d6d9d23b0a1d087589d08c36e4b3f9690032ca2f", func := "erasure/erasurelaw10.DeltaChains", spec := "deltaChains", inPlace := ["internal/bytealg.abigen_runtime_cmpstring"], unfollowed := true, recurses := true, apart := false, narrowed := true }
def DeltaChainsUptoSaid : Prop := deltaChainsUptoRow.holds Tryz.pinned (OpenSpec.upto deltaChainsSpec)

/-- 'erasurelaw10.DeltaLinear', WHERE WHAT IT READS IS OF BULK AT MOST 1048576: true; the input reads as it did. -/
def deltaLinearUptoRow : OpenClaim := { program := "ytmpgmjlanngkfaagreat", sum := "6412d9794cc78d88b71119e8d6d9d23b0a1d087589d08c36e4b3f9690032ca2f", func := "erasure/erasurelaw10.DeltaLinear", spec := "deltaLinear", inPlace := ["internal/bytealg.abigen_runtime_cmpstring"], unfollowed := true, recurses := true, apart := false, narrowed := true }
def DeltaLinearUptoSaid : Prop := deltaLinearUptoRow.holds Tryz.pinned (OpenSpec.upto deltaLinearSpec)

/-- 'erasurelaw10.DeltaChange', WHERE WHAT IT READS IS OF BULK AT MOST 1048576: true; the input reads as it did. -/
def deltaChangeUptoRow : OpenClaim := { program := "ytmpgmjlanngkfaagreat", sum := "6412d9794cc78d88b71119e8d6d9d23b0a1d087589d08c36e4b3f9690032ca2f", func := "erasure/erasurelaw10.DeltaChange", spec := "deltaChange", inPlace := ["internal/bytealg.abigen_runtime_cmpstring"], unfollowed := true, recurses := true, apart := false, narrowed := true }
def DeltaChangeUptoSaid : Prop := deltaChangeUptoRow.holds Tryz.pinned (OpenSpec.upto deltaChangeSpec)

/-- 'erasurelaw10.DeltaTouched', WHERE WHAT IT READS IS OF BULK AT MOST 1048576: true; the input reads as it did. -/
def deltaTouchedUptoRow : OpenClaim := { program := "ytmpgmjlanngkfaagreat", sum := "6412d9794cc78d88b71119e8d6d9d23b0a1d087589d08c36e4b3f9690032ca2f", func := "erasure/erasurelaw10.DeltaTouched", spec := "deltaTouched", inPlace := ["internal/bytealg.abigen_runtime_cmpstring"], unfollowed := true, recurses := true, apart := false, narrowed := true }
def DeltaTouchedUptoSaid : Prop := deltaTouchedUptoRow.holds Tryz.pinned (OpenSpec.upto deltaTouchedSpec)

end Rows
end Go.Proofs.YtmpgmjlanngkfaaGreat
