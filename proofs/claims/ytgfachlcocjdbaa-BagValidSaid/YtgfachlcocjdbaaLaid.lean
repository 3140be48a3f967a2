/-
  The contract of the library's slices.SortFunc, laid at this program by the kit's own tool; and what our walk makes of it.
-/
import Derived.Test.YtgfachlcocjdbaaSrt
import Derived.Test.YtgfachlcocjdbaaTypes
namespace Go.Proofs
open Go.Shelf
def Try.srt44_ren : Go.Shelf.Ren := ⟨fun | 6 => 44 | 15 => 74 | 14 => 73 | 28 => 94 | 29 => 95 | 20 => 86 | 21 => 87 | 22 => 88 | 23 => 89 | 24 => 90 | 25 => 91 | 26 => 92 | 27 => 93 | 46 => 99 | 47 => 100 | 48 => 101 | 49 => 102 | 50 => 103 | 57 => 106 | n => n, fun | 22 => 23 | 24 => 34 | 25 => 65 | 3 => 3 | 39 => 56 | 0 => 0 | 53 => 94 | 55 => 96 | 4 => 4 | 46 => 88 | 45 => 87 | 50 => 73 | 5 => 5 | 9 => 9 | 66 => 101 | 70 => 105 | 76 => 107 | 77 => 108 | n => n, fun | n => n⟩
theorem Try.srt44 : Go.Proofs.SlLaysF0.n6 Try.prog Try.srt44_ren := {
  mixed := by kernel_rfl
  f6 := ⟨Try.f44.name, by decide, Try.func44.trans (congrArg some (by kernel_rfl))⟩
  f14 := ⟨Try.f73.name, by decide, Try.func73.trans (congrArg some (by kernel_rfl))⟩
  f15 := Try.func74.trans (congrArg some (by kernel_rfl))
  f20 := ⟨Try.f86.name, by decide, Try.func86.trans (congrArg some (by kernel_rfl))⟩
  f21 := ⟨Try.f87.name, by decide, Try.func87.trans (congrArg some (by kernel_rfl))⟩
  f22 := ⟨Try.f88.name, by decide, Try.func88.trans (congrArg some (by kernel_rfl))⟩
  f23 := ⟨Try.f89.name, by decide, Try.func89.trans (congrArg some (by kernel_rfl))⟩
  f24 := ⟨Try.f90.name, by decide, Try.func90.trans (congrArg some (by kernel_rfl))⟩
  f25 := ⟨Try.f91.name, by decide, Try.func91.trans (congrArg some (by kernel_rfl))⟩
  f26 := ⟨Try.f92.name, by decide, Try.func92.trans (congrArg some (by kernel_rfl))⟩
  f27 := ⟨Try.f93.name, by decide, Try.func93.trans (congrArg some (by kernel_rfl))⟩
  f28 := Try.func94.trans (congrArg some (by kernel_rfl))
  f29 := Try.func95.trans (congrArg some (by kernel_rfl))
  f46 := ⟨Try.f99.name, by decide, Try.func99.trans (congrArg some (by kernel_rfl))⟩
  f47 := Try.func100.trans (congrArg some (by kernel_rfl))
  f48 := Try.func101.trans (congrArg some (by kernel_rfl))
  f49 := ⟨Try.f102.name, by decide, Try.func102.trans (congrArg some (by kernel_rfl))⟩
  f50 := ⟨Try.f103.name, by decide, Try.func103.trans (congrArg some (by kernel_rfl))⟩
  f57 := ⟨Try.f106.name, by decide, Try.func106.trans (congrArg some (by kernel_rfl))⟩
  t0 := Try.underlying0
  a0 := Try.isAgg0
  z0 := Try.sizeOf0
  v0 := Try.zeroValue0
  t3 := Try.underlying3
  a3 := Try.isAgg3
  z3 := Try.sizeOf3
  v3 := Try.zeroValue3
  t4 := Try.underlying4
  a4 := Try.isAgg4
  z4 := Try.sizeOf4
  v4 := Try.zeroValue4
  t5 := Try.underlying5
  a5 := Try.isAgg5
  z5 := Try.sizeOf5
  v5 := Try.zeroValue5
  t9 := Try.underlying9
  a9 := Try.isAgg9
  z9 := Try.sizeOf9
  v9 := Try.zeroValue9
  t22 := Try.underlying23
  a22 := Try.isAgg23
  z22 := Try.sizeOf23
  v22 := Try.zeroValue23
  t25 := Try.underlying65
  a25 := Try.isAgg65
  z25 := Try.sizeOf65
  v25 := Try.zeroValue65
  t39 := Try.underlying56
  a39 := Try.isAgg56
  z39 := Try.sizeOf56
  v39 := Try.zeroValue56
  t45 := Try.underlying87
  a45 := Try.isAgg87
  z45 := Try.sizeOf87
  v45 := Try.zeroValue87
  t46 := Try.underlying88
  a46 := Try.isAgg88
  z46 := Try.sizeOf88
  v46 := Try.zeroValue88
  t50 := Try.underlying73
  a50 := Try.isAgg73
  z50 := Try.sizeOf73
  v50 := Try.zeroValue73
  t53 := Try.underlying94
  a53 := Try.isAgg94
  z53 := Try.sizeOf94
  v53 := Try.zeroValue94
  t55 := Try.underlying96
  a55 := Try.isAgg96
  z55 := Try.sizeOf96
  v55 := Try.zeroValue96
  t66 := Try.underlying101
  a66 := Try.isAgg101
  z66 := Try.sizeOf101
  v66 := Try.zeroValue101
  t70 := Try.underlying105
  a70 := Try.isAgg105
  z70 := Try.sizeOf105
  v70 := Try.zeroValue105
  t76 := Try.underlying107
  a76 := Try.isAgg107
  z76 := Try.sizeOf107
  v76 := Try.zeroValue107
  t77 := Try.underlying108
  a77 := Try.isAgg108
  z77 := Try.sizeOf108
  v77 := Try.zeroValue108 }
end Go.Proofs
namespace Go.Proofs.Ytgfachlcocjdbaa
open Go.Abs Go.RowKit
/-- slices.SortFunc of api.Entry. -/
theorem sortF44_h {β : Type} (enc : β → List Dat) (hk : ∀ x, (enc x).length = 2) (cf : β → β → Int) (hO : Go.Sort.SWO (Go.Proofs.ltOf cf)) (g : Nat) (l : List β) (hl : l.length < 4611686018427387904)
    (hcmp : ∀ x ∈ l, ∀ y ∈ l, PCall Try.prog g [.agg (enc x), .agg (enc y)] (.v (.one (.lit (.int .i64 (cf x y)))))) :
    HCall Try.prog 44 [.c (.arr 0 0 l.length), .c (.d (.lit (.func (.func g) #[] #[])))] [.arr 0 34 2 (l.map enc)] (.tup []) [.arr 0 34 2 ((sortF cf l).map enc)] :=
  sortK_h Try.srt44 ⟨⟨_, Try.func44, by kernel_rfl, by kernel_rfl⟩⟩ 34 2 (by decide) Try.isAgg34 Try.sizeOf34 enc hk cf hO g l hl hcmp
end Go.Proofs.Ytgfachlcocjdbaa
