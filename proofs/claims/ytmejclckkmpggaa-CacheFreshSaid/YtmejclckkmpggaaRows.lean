/-
  No cell of these rows narrows 'for every input' (looked for: loops, veiled, ifaces, maps, wideKeys, modest, calm, conditions, laid).
  DERIVED. THE GIVEN ROWS OF THIS SEAT. 9 by the template 'for every input the law returns true; each argument reads behind the call as it read before'; 0 by the template 'total and deterministic' (their statements: YtmejclckkmpggaaTotals.lean).
  GIVEN WITH THE SEED: the statements are not yours to turn. If you find one false, say at which input.
  Laid BY PROGRAM, IN A SANDBOX (cutbox-rows.mjs): the forced cells as the released guide's own fill.sh prints them over the translation 8eb62e9f034f4a87… (all of the seat's roots in one cut). By AI agents, Wed Nov 11 2026. No macro, syntax, notation, axiom, sorry.
-/
import Derived.Test.YtmejclckkmpggaaChecked
import GoSem.Claim
import GoSem.ClaimJoined
import GoSem.ClaimMapViews
import Derived.JoinedTies
import Derived.KernelRfl
namespace Go.Proofs.Ytmejclckkmpggaa
/- THE CELL 'sum', in the pinned program and in every row, IS THE sha256 OF THE DUMP (.gsa) THAT YtmejclckkmpggaaProg.lean LOADS. Nothing in Lean hashes anything: it is a label: what it is worth is what the hold of that sum in a sandbox is worth. -/
noncomputable def Try.pinned : Pinned := { name := "ytmejclckkmpggaa", sum := "8eb62e9f034f4a877a249aa4fd264e7e82af35d015fe9e4ddf31c0a71c2b5871", checked := Try.checked }
namespace Rows
def none {H : Type} : Left H := { results := [], args := [] }

/-- 'erasurelaw30.CacheSelects': WHATEVER THE INPUT: true; the input reads as it did. -/
def cacheSelectsSpec : ChangeSpec := { name := "cacheSelects", fn := fun _ => fun
  | [d1, d2, d3] => { results := [.lit (.bool true)], args := [d1, d2, d3] }
  | _ => none }
def cacheSelectsRow : OpenClaim := { program := "ytmejclckkmpggaa", sum := "8eb62e9f034f4a877a249aa4fd264e7e82af35d015fe9e4ddf31c0a71c2b5871", func := "erasure/erasurelaw30.CacheSelects", spec := "cacheSelects", inPlace := ["internal/bytealg.abigen_runtime_cmpstring", "slices.overlaps[erasure/api.Cached]"], unfollowed := true, recurses := true, plainKeys := false, apart := false }
def CacheSelectsSaid : Prop := cacheSelectsRow.holds Try.pinned (OpenSpec.ofChange cacheSelectsSpec)

/-- ITS FALSE NEIGHBOUR: 'it returns false'. Refute it at one input. -/
def cacheSelectsWrong : ChangeSpec := { name := "cacheSelects", fn := fun _ => fun
  | [d1, d2, d3] => { results := [.lit (.bool false)], args := [d1, d2, d3] }
  | _ => none }
def CacheSelectsWrongFalsely : Prop := cacheSelectsRow.holds Try.pinned (OpenSpec.ofChange cacheSelectsWrong)

/-- 'erasurelaw30.CacheServes': WHATEVER THE INPUT: true; the input reads as it did. -/
def cacheServesSpec : ChangeSpec := { name := "cacheServes", fn := fun _ => fun
  | [d1, d2, d3] => { results := [.lit (.bool true)], args := [d1, d2, d3] }
  | _ => none }
def cacheServesRow : OpenClaim := { program := "ytmejclckkmpggaa", sum := "8eb62e9f034f4a877a249aa4fd264e7e82af35d015fe9e4ddf31c0a71c2b5871", func := "erasure/erasurelaw30.CacheServes", spec := "cacheServes", inPlace := ["internal/bytealg.abigen_runtime_cmpstring", "slices.overlaps[erasure/api.Cached]"], unfollowed := true, recurses := true, plainKeys := false, apart := false }
def CacheServesSaid : Prop := cacheServesRow.holds Try.pinned (OpenSpec.ofChange cacheServesSpec)

/-- ITS FALSE NEIGHBOUR: 'it returns false'. Refute it at one input. -/
def cacheServesWrong : ChangeSpec := { name := "cacheServes", fn := fun _ => fun
  | [d1, d2, d3] => { results := [.lit (.bool false)], args := [d1, d2, d3] }
  | _ => none }
def CacheServesWrongFalsely : Prop := cacheServesRow.holds Try.pinned (OpenSpec.ofChange cacheServesWrong)

/-- 'erasurelaw30.CacheBounds': WHATEVER THE INPUT: true; the input reads as it did. -/
def cacheBoundsSpec : ChangeSpec := { name := "cacheBounds", fn := fun _ => fun
  | [d1, d2] => { results := [.lit (.bool true)], args := [d1, d2] }
  | _ => none }
def cacheBoundsRow : OpenClaim := { program := "ytmejclckkmpggaa", sum := "8eb62e9f034f4a877a249aa4fd264e7e82af35d015fe9e4ddf31c0a71c2b5871", func := "erasure/erasurelaw30.CacheBounds", spec := "cacheBounds", inPlace := ["internal/bytealg.abigen_runtime_cmpstring", "slices.overlaps[erasure/api.Cached]"], unfollowed := true, recurses := true, plainKeys := false, apart := false }
def CacheBoundsSaid : Prop := cacheBoundsRow.holds Try.pinned (OpenSpec.ofChange cacheBoundsSpec)

/-- ITS FALSE NEIGHBOUR: 'it returns false'. Refute it at one input. -/
def cacheBoundsWrong : ChangeSpec := { name := "cacheBounds", fn := fun _ => fun
  | [d1, d2] => { results := [.lit (.bool false)], args := [d1, d2] }
  | _ => none }
def CacheBoundsWrongFalsely : Prop := cacheBoundsRow.holds Try.pinned (OpenSpec.ofChange cacheBoundsWrong)

/-- 'erasurelaw30.CachePlays': WHATEVER THE INPUT: true; the input reads as it did. -/
def cachePlaysSpec : ChangeSpec := { name := "cachePlays", fn := fun _ => fun
  | [d1, d2, d3] => { results := [.lit (.bool true)], args := [d1, d2, d3] }
  | _ => none }
def cachePlaysRow : OpenClaim := { program := "ytmejclckkmpggaa", sum := "8eb62e9f034f4a877a249aa4fd264e7e82af35d015fe9e4ddf31c0a71c2b5871", func := "erasure/erasurelaw30.CachePlays", spec := "cachePlays", inPlace := ["internal/bytealg.abigen_runtime_cmpstring", "slices.overlaps[erasure/api.Cached]"], unfollowed := true, recurses := true, plainKeys := false, apart := false }
def CachePlaysSaid : Prop := cachePlaysRow.holds Try.pinned (OpenSpec.ofChange cachePlaysSpec)

/-- ITS FALSE NEIGHBOUR: 'it returns false'. Refute it at one input. -/
def cachePlaysWrong : ChangeSpec := { name := "cachePlays", fn := fun _ => fun
  | [d1, d2, d3] => { results := [.lit (.bool false)], args := [d1, d2, d3] }
  | _ => none }
def CachePlaysWrongFalsely : Prop := cachePlaysRow.holds Try.pinned (OpenSpec.ofChange cachePlaysWrong)

/-- 'erasurelaw30.CacheRaw': WHATEVER THE INPUT: true; the input reads as it did. -/
def cacheRawSpec : ChangeSpec := { name := "cacheRaw", fn := fun _ => fun
  | [d1, d2, d3] => { results := [.lit (.bool true)], args := [d1, d2, d3] }
  | _ => none }
def cacheRawRow : OpenClaim := { program := "ytmejclckkmpggaa", sum := "8eb62e9f034f4a877a249aa4fd264e7e82af35d015fe9e4ddf31c0a71c2b5871", func := "erasure/erasurelaw30.CacheRaw", spec := "cacheRaw", inPlace := ["internal/bytealg.abigen_runtime_cmpstring", "slices.overlaps[erasure/api.Cached]"], unfollowed := true, recurses := true, plainKeys := false, apart := false }
def CacheRawSaid : Prop := cacheRawRow.holds Try.pinned (OpenSpec.ofChange cacheRawSpec)

/-- ITS FALSE NEIGHBOUR: 'it returns false'. Refute it at one input. -/
def cacheRawWrong : ChangeSpec := { name := "cacheRaw", fn := fun _ => fun
  | [d1, d2, d3] => { results := [.lit (.bool false)], args := [d1, d2, d3] }
  | _ => none }
def CacheRawWrongFalsely : Prop := cacheRawRow.holds Try.pinned (OpenSpec.ofChange cacheRawWrong)

/-- 'erasurelaw30.CacheParts': WHATEVER THE INPUT: true; the input reads as it did. -/
def cachePartsSpec : ChangeSpec := { name := "cacheParts", fn := fun _ => fun
  | [d1, d2] => { results := [.lit (.bool true)], args := [d1, d2] }
  | _ => none }
def cachePartsRow : OpenClaim := { program := "ytmejclckkmpggaa", sum := "8eb62e9f034f4a877a249aa4fd264e7e82af35d015fe9e4ddf31c0a71c2b5871", func := "erasure/erasurelaw30.CacheParts", spec := "cacheParts", inPlace := ["internal/bytealg.abigen_runtime_cmpstring", "slices.overlaps[erasure/api.Cached]"], unfollowed := true, recurses := true, plainKeys := false, apart := false }
def CachePartsSaid : Prop := cachePartsRow.holds Try.pinned (OpenSpec.ofChange cachePartsSpec)

/-- ITS FALSE NEIGHBOUR: 'it returns false'. Refute it at one input. -/
def cachePartsWrong : ChangeSpec := { name := "cacheParts", fn := fun _ => fun
  | [d1, d2] => { results := [.lit (.bool false)], args := [d1, d2] }
  | _ => none }
def CachePartsWrongFalsely : Prop := cachePartsRow.holds Try.pinned (OpenSpec.ofChange cachePartsWrong)

/-- 'erasurelaw30.CacheTouches': WHATEVER THE INPUT: true; the input reads as it did. -/
def cacheTouchesSpec : ChangeSpec := { name := "cacheTouches", fn := fun _ => fun
  | [d1, d2, d3] => { results := [.lit (.bool true)], args := [d1, d2, d3] }
  | _ => none }
def cacheTouchesRow : OpenClaim := { program := "ytmejclckkmpggaa", sum := "8eb62e9f034f4a877a249aa4fd264e7e82af35d015fe9e4ddf31c0a71c2b5871", func := "erasure/erasurelaw30.CacheTouches", spec := "cacheTouches", inPlace := ["internal/bytealg.abigen_runtime_cmpstring", "slices.overlaps[erasure/api.Cached]"], unfollowed := true, recurses := true, plainKeys := false, apart := false }
def CacheTouchesSaid : Prop := cacheTouchesRow.holds Try.pinned (OpenSpec.ofChange cacheTouchesSpec)

/-- ITS FALSE NEIGHBOUR: 'it returns false'. Refute it at one input. -/
def cacheTouchesWrong : ChangeSpec := { name := "cacheTouches", fn := fun _ => fun
  | [d1, d2, d3] => { results := [.lit (.bool false)], args := [d1, d2, d3] }
  | _ => none }
def CacheTouchesWrongFalsely : Prop := cacheTouchesRow.holds Try.pinned (OpenSpec.ofChange cacheTouchesWrong)

/-- 'erasurelaw30.CacheForgets': WHATEVER THE INPUT: true; the input reads as it did. -/
def cacheForgetsSpec : ChangeSpec := { name := "cacheForgets", fn := fun _ => fun
  | [d1, d2, d3] => { results := [.lit (.bool true)], args := [d1, d2, d3] }
  | _ => none }
def cacheForgetsRow : OpenClaim := { program := "ytmejclckkmpggaa", sum := "8eb62e9f034f4a877a249aa4fd264e7e82af35d015fe9e4ddf31c0a71c2b5871", func := "erasure/erasurelaw30.CacheForgets", spec := "cacheForgets", inPlace := ["internal/bytealg.abigen_runtime_cmpstring", "slices.overlaps[erasure/api.Cached]"], unfollowed := true, recurses := true, plainKeys := false, apart := false }
def CacheForgetsSaid : Prop := cacheForgetsRow.holds Try.pinned (OpenSpec.ofChange cacheForgetsSpec)

/-- ITS FALSE NEIGHBOUR: 'it returns false'. Refute it at one input. -/
def cacheForgetsWrong : ChangeSpec := { name := "cacheForgets", fn := fun _ => fun
  | [d1, d2, d3] => { results := [.lit (.bool false)], args := [d1, d2, d3] }
  | _ => none }
def CacheForgetsWrongFalsely : Prop := cacheForgetsRow.holds Try.pinned (OpenSpec.ofChange cacheForgetsWrong)

/-- 'erasurelaw30.CacheFresh': WHATEVER THE INPUT: true; the input reads as it did. -/
def cacheFreshSpec : ChangeSpec := { name := "cacheFresh", fn := fun _ => fun
  | [d1, d2, d3] => { results := [.lit (.bool true)], args := [d1, d2, d3] }
  | _ => none }
def cacheFreshRow : OpenClaim := { program := "ytmejclckkmpggaa", sum := "8eb62e9f034f4a877a249aa4fd264e7e82af35d015fe9e4ddf31c0a71c2b5871", func := "erasure/erasurelaw30.CacheFresh", spec := "cacheFresh", inPlace := ["internal/bytealg.abigen_runtime_cmpstring", "slices.overlaps[erasure/api.Cached]"], unfollowed := true, recurses := true, plainKeys := false, apart := false }
def CacheFreshSaid : Prop := cacheFreshRow.holds Try.pinned (OpenSpec.ofChange cacheFreshSpec)

/-- ITS FALSE NEIGHBOUR: 'it returns false'. Refute it at one input. -/
def cacheFreshWrong : ChangeSpec := { name := "cacheFresh", fn := fun _ => fun
  | [d1, d2, d3] => { results := [.lit (.bool false)], args := [d1, d2, d3] }
  | _ => none }
def CacheFreshWrongFalsely : Prop := cacheFreshRow.holds Try.pinned (OpenSpec.ofChange cacheFreshWrong)

/- THE SECOND FORM. 'bulk': how many values and letters a reading holds, each counted each time it is reached (what is shared counts as often as it is met; a slice's spare places count too). A statement '..UptoSaid' is the law's where the arguments, and the package variables that the reading takes, are together of bulk at most 1048576: NARROWER than '..Said'. Prove '..Said' where nothing that the law and all that it calls make is longer than what came in: it says more and counts as full. Else prove '..UptoSaid'. A law counts once. -/
mutual
def uptoBulk {H : Type} : DataW H → Nat
  | .lit (.string bytes) => bytes.length + 1
  | .lit _ => 1
  | .nil => 1
  | .ptr d => uptoBulk d + 1
  | .slice elems spare => uptoBulkAll elems + uptoBulkAll spare + 1
  | .agg parts => uptoBulkAll parts + 1
  | .iface _ d => uptoBulk d + 1
  | .map entries => uptoBulkEntries entries + 1
  | .held _ => 1
def uptoBulkAll {H : Type} : List (DataW H) → Nat
  | [] => 0
  | d :: r => uptoBulk d + uptoBulkAll r
def uptoBulkEntries {H : Type} : List (Lit × DataW H) → Nat
  | [] => 0
  | x :: r => uptoBulkEntry x + uptoBulkEntries r
def uptoBulkEntry {H : Type} : Lit × DataW H → Nat
  | (.string bytes, d) => bytes.length + uptoBulk d + 1
  | (_, d) => uptoBulk d + 1
 end
def uptoSmall : (H : Type) → List (DataW H) → Bool := fun _ ds => decide (uptoBulkAll ds ≤ 1048576)
def OpenSpec.upto (s : _root_.Go.ChangeSpec) : _root_.Go.OpenSpec := { _root_.Go.OpenSpec.ofChange s with cond := some uptoSmall }

/-- 'erasurelaw30.CacheSelects', WHERE WHAT IT READS IS OF BULK AT MOST 1048576: true; the input reads as it did. -/
def cacheSelectsUptoRow : OpenClaim := { program := "ytmejclckkmpggaa", sum := "8eb62e9f034f4a877a249aa4fd264e7e82af35d015fe9e4ddf31c0a71c2b5871", func := "erasure/erasurelaw30.CacheSelects", spec := "cacheSelects", inPlace := ["internal/bytealg.abigen_runtime_cmpstring", "slices.overlaps[erasure/api.Cached]"], unfollowed := true, recurses := true, plainKeys := false, apart := false, narrowed := true }
def CacheSelectsUptoSaid : Prop := cacheSelectsUptoRow.holds Try.pinned (OpenSpec.upto cacheSelectsSpec)

/-- 'erasurelaw30.CacheServes', WHERE WHAT IT READS IS OF BULK AT MOST 1048576: true; the input reads as it did. -/
def cacheServesUptoRow : OpenClaim := { program := "ytmejclckkmpggaa", sum := "8eb62e9f034f4a877a249aa4fd264e7e82af35d015fe9e4ddf31c0a71c2b5871", func := "erasure/erasurelaw30.CacheServes", spec := "cacheServes", inPlace := ["internal/bytealg.abigen_runtime_cmpstring", "slices.overlaps[erasure/api.Cached]"], unfollowed := true, recurses := true, plainKeys := false, apart := false, narrowed := true }
def CacheServesUptoSaid : Prop := cacheServesUptoRow.holds Try.pinned (OpenSpec.upto cacheServesSpec)

/-- 'erasurelaw30.CacheBounds', WHERE WHAT IT READS IS OF BULK AT MOST 1048576: true; the input reads as it did. -/
def cacheBoundsUptoRow : OpenClaim := { program := "ytmejclckkmpggaa", sum := "8eb62e9f034f4a877a249aa4fd264e7e82af35d015fe9e4ddf31c0a71c2b5871", func := "erasure/erasurelaw30.CacheBounds", spec := "cacheBounds", inPlace := ["internal/bytealg.abigen_runtime_cmpstring", "slices.overlaps[erasure/api.Cached]"], unfollowed := true, recurses := true, plainKeys := false, apart := false, narrowed := true }
def CacheBoundsUptoSaid : Prop := cacheBoundsUptoRow.holds Try.pinned (OpenSpec.upto cacheBoundsSpec)

/-- 'erasurelaw30.CachePlays', WHERE WHAT IT READS IS OF BULK AT MOST 1048576: true; the input reads as it did. -/
def cachePlaysUptoRow : OpenClaim := { program := "ytmejclckkmpggaa", sum := "8eb62e9f034f4a877a249aa4fd264e7e82af35d015fe9e4ddf31c0a71c2b5871", func := "erasure/erasurelaw30.CachePlays", spec := "cachePlays", inPlace := ["internal/bytealg.abigen_runtime_cmpstring", "slices.overlaps[erasure/api.Cached]"], unfollowed := true, recurses := true, plainKeys := false, apart := false, narrowed := true }
def CachePlaysUptoSaid : Prop := cachePlaysUptoRow.holds Try.pinned (OpenSpec.upto cachePlaysSpec)

/-- 'erasurelaw30.CacheRaw', WHERE WHAT IT READS IS OF BULK AT MOST 1048576: true; the input reads as it did. -/
def cacheRawUptoRow : OpenClaim := { program := "ytmejclckkmpggaa", sum := "8eb62e9f034f4a877a249aa4fd264e7e82af35d015fe9e4ddf31c0a71c2b5871", func := "erasure/erasurelaw30.CacheRaw", spec := "cacheRaw", inPlace := ["internal/bytealg.abigen_runtime_cmpstring", "slices.overlaps[erasure/api.Cached]"], unfollowed := true, recurses := true, plainKeys := false, apart := false, narrowed := true }
def CacheRawUptoSaid : Prop := cacheRawUptoRow.holds Try.pinned (OpenSpec.upto cacheRawSpec)

/-- 'erasurelaw30.CacheParts', WHERE WHAT IT READS IS OF BULK AT MOST 1048576: true; the input reads as it did. -/
def cachePartsUptoRow : OpenClaim := { program := "ytmejclckkmpggaa", sum := "8eb62e9f034f4a877a249aa4fd264e7e82af35d015fe9e4ddf31c0a71c2b5871", func := "erasure/erasurelaw30.CacheParts", spec := "cacheParts", inPlace := ["internal/bytealg.abigen_runtime_cmpstring", "slices.overlaps[erasure/api.Cached]"], unfollowed := true, recurses := true, plainKeys := false, apart := false, narrowed := true }
def CachePartsUptoSaid : Prop := cachePartsUptoRow.holds Try.pinned (OpenSpec.upto cachePartsSpec)

/-- 'erasurelaw30.CacheTouches', WHERE WHAT IT READS IS OF BULK AT MOST 1048576: true; the input reads as it did. -/
def cacheTouchesUptoRow : OpenClaim := { program := "ytmejclckkmpggaa", sum := "8eb62e9f034f4a877a249aa4fd264e7e82af35d015fe9e4ddf31c0a71c2b5871", func := "erasure/erasurelaw30.CacheTouches", spec := "cacheTouches", inPlace := ["internal/bytealg.abigen_runtime_cmpstring", "slices.overlaps[erasure/api.Cached]"], unfollowed := true, recurses := true, plainKeys := false, apart := false, narrowed := true }
def CacheTouchesUptoSaid : Prop := cacheTouchesUptoRow.holds Try.pinned (OpenSpec.upto cacheTouchesSpec)

/-- 'erasurelaw30.CacheForgets', WHERE WHAT IT READS IS OF BULK AT MOST 1048576: true; the input reads as it did. -/
def cacheForgetsUptoRow : OpenClaim := { program := "ytmejclckkmpggaa", sum := "8eb62e9f034f4a877a249aa4fd264e7e82af35d015fe9e4ddf31c0a71c2b5871", func := "erasure/erasurelaw30.CacheForgets", spec := "cacheForgets", inPlace := ["internal/bytealg.abigen_runtime_cmpstring", "slices.overlaps[erasure/api.Cached]"], unfollowed := true, recurses := true, plainKeys := false, apart := false, narrowed := true }
def CacheForgetsUptoSaid : Prop := cacheForgetsUptoRow.holds Try.pinned (OpenSpec.upto cacheForgetsSpec)

/-- 'erasurelaw30.CacheFresh', WHERE WHAT IT READS IS OF BULK AT MOST 1048576: true; the input reads as it did. -/
def cacheFreshUptoRow : OpenClaim := { program := "ytmejclckkmpggaa", sum := "8eb62e9f034f4a877a249aa4fd264e7e82af35d015fe9e4ddf31c0a71c2b5871", func := "erasure/erasurelaw30.CacheFresh", spec := "cacheFresh", inPlace := ["internal/bytealg.abigen_runtime_cmpstring", "slices.overlaps[erasure/api.Cached]"], unfollowed := true, recurses := true, plainKeys := false, apart := false, narrowed := true }
def CacheFreshUptoSaid : Prop := cacheFreshUptoRow.holds Try.pinned (OpenSpec.upto cacheFreshSpec)

end Rows
end Go.Proofs.Ytmejclckkmpggaa
