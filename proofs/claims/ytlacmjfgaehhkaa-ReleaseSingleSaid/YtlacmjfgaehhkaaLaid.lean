/-
  The contract of the library's slices.SortFunc, laid at this program by the kit's own tool; and what our walk makes of it.
-/
import Derived.Test.YtlacmjfgaehhkaaSrt
import Derived.Test.YtlacmjfgaehhkaaTypes
namespace Go.Proofs
open Go.Shelf
def Try.srt47_ren : Go.Shelf.Ren := ⟨fun | 6 => 47 | 15 => 59 | 14 => 58 | 28 => 75 | 29 => 76 | 20 => 67 | 21 => 68 | 22 => 69 | 23 => 70 | 24 => 71 | 25 => 72 | 26 => 73 | 27 => 74 | 46 => 79 | 47 => 80 | 48 => 81 | 49 => 82 | 50 => 83 | 57 => 85 | n => n, fun | 22 => 68 | 24 => 39 | 25 => 65 | 3 => 3 | 39 => 45 | 0 => 0 | 53 => 92 | 55 => 94 | 4 => 4 | 46 => 85 | 45 => 84 | 50 => 89 | 5 => 5 | 9 => 9 | 66 => 95 | 70 => 99 | 76 => 101 | 77 => 102 | n => n, fun | n => n⟩
theorem Try.srt47 : Go.Proofs.SlLaysF.n6 Try.prog Try.srt47_ren := {
  mixed := by kernel_rfl
  f6 := ⟨Try.f47.name, by decide, Try.func47.trans (congrArg some (by kernel_rfl))⟩
  f14 := ⟨Try.f58.name, by decide, Try.func58.trans (congrArg some (by kernel_rfl))⟩
  f15 := Try.func59.trans (congrArg some (by kernel_rfl))
  f20 := ⟨Try.f67.name, by decide, Try.func67.trans (congrArg some (by kernel_rfl))⟩
  f21 := ⟨Try.f68.name, by decide, Try.func68.trans (congrArg some (by kernel_rfl))⟩
  f22 := ⟨Try.f69.name, by decide, Try.func69.trans (congrArg some (by kernel_rfl))⟩
  f23 := ⟨Try.f70.name, by decide, Try.func70.trans (congrArg some (by kernel_rfl))⟩
  f24 := ⟨Try.f71.name, by decide, Try.func71.trans (congrArg some (by kernel_rfl))⟩
  f25 := ⟨Try.f72.name, by decide, Try.func72.trans (congrArg some (by kernel_rfl))⟩
  f26 := ⟨Try.f73.name, by decide, Try.func73.trans (congrArg some (by kernel_rfl))⟩
  f27 := ⟨Try.f74.name, by decide, Try.func74.trans (congrArg some (by kernel_rfl))⟩
  f28 := Try.func75.trans (congrArg some (by kernel_rfl))
  f29 := Try.func76.trans (congrArg some (by kernel_rfl))
  f46 := ⟨Try.f79.name, by decide, Try.func79.trans (congrArg some (by kernel_rfl))⟩
  f47 := Try.func80.trans (congrArg some (by kernel_rfl))
  f48 := Try.func81.trans (congrArg some (by kernel_rfl))
  f49 := ⟨Try.f82.name, by decide, Try.func82.trans (congrArg some (by kernel_rfl))⟩
  f50 := ⟨Try.f83.name, by decide, Try.func83.trans (congrArg some (by kernel_rfl))⟩
  f57 := ⟨Try.f85.name, by decide, Try.func85.trans (congrArg some (by kernel_rfl))⟩
  t0 := Try.underlying0
  a0 := Try.isAgg0
  z0 := Try.sizeOf0
  v0 := Try.zeroValue0
  t3 := Try.underlying3
  a3 := Try.isAgg3
  z3 := Try.sizeOf3
  v3 := Try.zeroValue3
  t4 := Try.underlying4
  a4 := Try.isAgg4
  z4 := Try.sizeOf4
  v4 := Try.zeroValue4
  t5 := Try.underlying5
  a5 := Try.isAgg5
  z5 := Try.sizeOf5
  v5 := Try.zeroValue5
  t9 := Try.underlying9
  a9 := Try.isAgg9
  z9 := Try.sizeOf9
  v9 := Try.zeroValue9
  t22 := Try.underlying68
  a22 := Try.isAgg68
  z22 := Try.sizeOf68
  v22 := Try.zeroValue68
  a24 := Try.isAgg39
  z24 := Try.sizeOf39
  t25 := Try.underlying65
  a25 := Try.isAgg65
  z25 := Try.sizeOf65
  v25 := Try.zeroValue65
  t39 := Try.underlying45
  a39 := Try.isAgg45
  z39 := Try.sizeOf45
  v39 := Try.zeroValue45
  t45 := Try.underlying84
  a45 := Try.isAgg84
  z45 := Try.sizeOf84
  v45 := Try.zeroValue84
  t46 := Try.underlying85
  a46 := Try.isAgg85
  z46 := Try.sizeOf85
  v46 := Try.zeroValue85
  t50 := Try.underlying89
  a50 := Try.isAgg89
  z50 := Try.sizeOf89
  v50 := Try.zeroValue89
  t53 := Try.underlying92
  a53 := Try.isAgg92
  z53 := Try.sizeOf92
  v53 := Try.zeroValue92
  t55 := Try.underlying94
  a55 := Try.isAgg94
  z55 := Try.sizeOf94
  v55 := Try.zeroValue94
  t66 := Try.underlying95
  a66 := Try.isAgg95
  z66 := Try.sizeOf95
  v66 := Try.zeroValue95
  t70 := Try.underlying99
  a70 := Try.isAgg99
  z70 := Try.sizeOf99
  v70 := Try.zeroValue99
  t76 := Try.underlying101
  a76 := Try.isAgg101
  z76 := Try.sizeOf101
  v76 := Try.zeroValue101
  t77 := Try.underlying102
  a77 := Try.isAgg102
  z77 := Try.sizeOf102
  v77 := Try.zeroValue102 }
end Go.Proofs
namespace Go.Proofs.Ytlacmjfgaehhkaa
open Go.Abs Go.RowKit
/-- slices.SortFunc of api.Value. -/
theorem sortF47_h {β : Type} (enc : β → Dat) (cf : β → β → Int) (hO : Go.Sort.SWO (Go.Proofs.ltOf cf)) (g : Nat) (l : List β) (hl : l.length < 4611686018427387904)
    (hcmp : ∀ x ∈ l, ∀ y ∈ l, PCall Try.prog g [.one (enc x), .one (enc y)] (.v (.one (.lit (.int .i64 (cf x y)))))) :
    HCall Try.prog 47 [.c (.arr 0 0 l.length), .c (.d (.lit (.func (.func g) #[] #[])))] [.arr 0 39 1 (l.map fun x => [enc x])] (.tup []) [.arr 0 39 1 ((sortF cf l).map fun x => [enc x])] :=
  sort1_h Try.srt47 ⟨⟨_, Try.func47, by kernel_rfl, by kernel_rfl⟩⟩ 39 enc cf hO g l hl hcmp
end Go.Proofs.Ytlacmjfgaehhkaa
