/-
  The contract of the library's slices.SortFunc, laid at this program by the kit's own tool; and what our walk makes of it.
-/
import Derived.Test.YtmpgmjlanngkfaaGreatSrt
import Derived.Test.YtmpgmjlanngkfaaGreatTypes
namespace Go.Proofs
open Go.Shelf
def Tryz.srt58_ren : Go.Shelf.Ren := ⟨fun | 6 => 58 | 15 => 110 | 14 => 109 | 28 => 170 | 29 => 171 | 20 => 162 | 21 => 163 | 22 => 164 | 23 => 165 | 24 => 166 | 25 => 167 | 26 => 168 | 27 => 169 | 46 => 210 | 47 => 211 | 48 => 212 | 49 => 213 | 50 => 214 | 57 => 243 | n => n, fun | 22 => 51 | 24 => 54 | 25 => 92 | 3 => 3 | 39 => 106 | 0 => 0 | 53 => 177 | 55 => 179 | 4 => 4 | 46 => 171 | 45 => 170 | 50 => 140 | 5 => 5 | 9 => 9 | 66 => 217 | 70 => 221 | 76 => 241 | 77 => 163 | n => n, fun | n => n⟩
def Tryz.srt115_ren : Go.Shelf.Ren := ⟨fun | 6 => 115 | 15 => 110 | 14 => 177 | 28 => 170 | 29 => 171 | 20 => 217 | 21 => 218 | 22 => 219 | 23 => 220 | 24 => 221 | 25 => 222 | 26 => 223 | 27 => 224 | 46 => 245 | 47 => 211 | 48 => 212 | 49 => 246 | 50 => 247 | 57 => 264 | n => n, fun | 22 => 95 | 24 => 98 | 25 => 142 | 3 => 3 | 39 => 106 | 0 => 0 | 53 => 177 | 55 => 179 | 4 => 4 | 46 => 171 | 45 => 170 | 50 => 140 | 5 => 5 | 9 => 9 | 66 => 217 | 70 => 221 | 76 => 241 | 77 => 163 | n => n, fun | n => n⟩
def Tryz.srt201_ren : Go.Shelf.Ren := ⟨fun | 6 => 201 | 15 => 110 | 14 => 241 | 28 => 170 | 29 => 171 | 20 => 256 | 21 => 257 | 22 => 258 | 23 => 259 | 24 => 260 | 25 => 261 | 26 => 262 | 27 => 263 | 46 => 277 | 47 => 211 | 48 => 212 | 49 => 278 | 50 => 279 | 57 => 284 | n => n, fun | 22 => 32 | 24 => 56 | 25 => 212 | 3 => 3 | 39 => 106 | 0 => 0 | 53 => 177 | 55 => 179 | 4 => 4 | 46 => 171 | 45 => 170 | 50 => 140 | 5 => 5 | 9 => 9 | 66 => 217 | 70 => 221 | 76 => 241 | 77 => 163 | n => n, fun | n => n⟩
theorem Tryz.srt201 : Go.Proofs.SlLaysF0.n6 Tryz.prog Tryz.srt201_ren := {
  mixed := by kernel_rfl
  f6 := ⟨Tryz.f201.name, by decide, Tryz.func201.trans (congrArg some (by kernel_rfl))⟩
  f14 := ⟨Tryz.f241.name, by decide, Tryz.func241.trans (congrArg some (by kernel_rfl))⟩
  f15 := Tryz.func110.trans (congrArg some (by kernel_rfl))
  f20 := ⟨Tryz.f256.name, by decide, Tryz.func256.trans (congrArg some (by kernel_rfl))⟩
  f21 := ⟨Tryz.f257.name, by decide, Tryz.func257.trans (congrArg some (by kernel_rfl))⟩
  f22 := ⟨Tryz.f258.name, by decide, Tryz.func258.trans (congrArg some (by kernel_rfl))⟩
  f23 := ⟨Tryz.f259.name, by decide, Tryz.func259.trans (congrArg some (by kernel_rfl))⟩
  f24 := ⟨Tryz.f260.name, by decide, Tryz.func260.trans (congrArg some (by kernel_rfl))⟩
  f25 := ⟨Tryz.f261.name, by decide, Tryz.func261.trans (congrArg some (by kernel_rfl))⟩
  f26 := ⟨Tryz.f262.name, by decide, Tryz.func262.trans (congrArg some (by kernel_rfl))⟩
  f27 := ⟨Tryz.f263.name, by decide, Tryz.func263.trans (congrArg some (by kernel_rfl))⟩
  f28 := Tryz.func170.trans (congrArg some (by kernel_rfl))
  f29 := Tryz.func171.trans (congrArg some (by kernel_rfl))
  f46 := ⟨Tryz.f277.name, by decide, Tryz.func277.trans (congrArg some (by kernel_rfl))⟩
  f47 := Tryz.func211.trans (congrArg some (by kernel_rfl))
  f48 := Tryz.func212.trans (congrArg some (by kernel_rfl))
  f49 := ⟨Tryz.f278.name, by decide, Tryz.func278.trans (congrArg some (by kernel_rfl))⟩
  f50 := ⟨Tryz.f279.name, by decide, Tryz.func279.trans (congrArg some (by kernel_rfl))⟩
  f57 := ⟨Tryz.f284.name, by decide, Tryz.func284.trans (congrArg some (by kernel_rfl))⟩
  t0 := Tryz.underlying0
  a0 := Tryz.isAgg0
  z0 := Tryz.sizeOf0
  v0 := Tryz.zeroValue0
  t3 := Tryz.underlying3
  a3 := Tryz.isAgg3
  z3 := Tryz.sizeOf3
  v3 := Tryz.zeroValue3
  t4 := Tryz.underlying4
  a4 := Tryz.isAgg4
  z4 := Tryz.sizeOf4
  v4 := Tryz.zeroValue4
  t5 := Tryz.underlying5
  a5 := Tryz.isAgg5
  z5 := Tryz.sizeOf5
  v5 := Tryz.zeroValue5
  t9 := Tryz.underlying9
  a9 := Tryz.isAgg9
  z9 := Tryz.sizeOf9
  v9 := Tryz.zeroValue9
  t22 := Tryz.underlying32
  a22 := Tryz.isAgg32
  z22 := Tryz.sizeOf32
  v22 := Tryz.zeroValue32
  t25 := Tryz.underlying212
  a25 := Tryz.isAgg212
  z25 := Tryz.sizeOf212
  v25 := Tryz.zeroValue212
  t39 := Tryz.underlying106
  a39 := Tryz.isAgg106
  z39 := Tryz.sizeOf106
  v39 := Tryz.zeroValue106
  t45 := Tryz.underlying170
  a45 := Tryz.isAgg170
  z45 := Tryz.sizeOf170
  v45 := Tryz.zeroValue170
  t46 := Tryz.underlying171
  a46 := Tryz.isAgg171
  z46 := Tryz.sizeOf171
  v46 := Tryz.zeroValue171
  t50 := Tryz.underlying140
  a50 := Tryz.isAgg140
  z50 := Tryz.sizeOf140
  v50 := Tryz.zeroValue140
  t53 := Tryz.underlying177
  a53 := Tryz.isAgg177
  z53 := Tryz.sizeOf177
  v53 := Tryz.zeroValue177
  t55 := Tryz.underlying179
  a55 := Tryz.isAgg179
  z55 := Tryz.sizeOf179
  v55 := Tryz.zeroValue179
  t66 := Tryz.underlying217
  a66 := Tryz.isAgg217
  z66 := Tryz.sizeOf217
  v66 := Tryz.zeroValue217
  t70 := Tryz.underlying221
  a70 := Tryz.isAgg221
  z70 := Tryz.sizeOf221
  v70 := Tryz.zeroValue221
  t76 := Tryz.underlying241
  a76 := Tryz.isAgg241
  z76 := Tryz.sizeOf241
  v76 := Tryz.zeroValue241
  t77 := Tryz.underlying163
  a77 := Tryz.isAgg163
  z77 := Tryz.sizeOf163
  v77 := Tryz.zeroValue163 }
def Tryz.srt237_ren : Go.Shelf.Ren := ⟨fun | 6 => 237 | 15 => 110 | 14 => 253 | 28 => 170 | 29 => 171 | 20 => 269 | 21 => 270 | 22 => 271 | 23 => 272 | 24 => 273 | 25 => 274 | 26 => 275 | 27 => 276 | 46 => 281 | 47 => 211 | 48 => 212 | 49 => 282 | 50 => 283 | 57 => 287 | n => n, fun | 22 => 145 | 24 => 186 | 25 => 238 | 3 => 3 | 39 => 106 | 0 => 0 | 53 => 177 | 55 => 179 | 4 => 4 | 46 => 171 | 45 => 170 | 50 => 140 | 5 => 5 | 9 => 9 | 66 => 217 | 70 => 221 | 76 => 241 | 77 => 163 | n => n, fun | n => n⟩
end Go.Proofs
namespace Go.Proofs.YtmpgmjlanngkfaaGreat
open Go.Abs Go.RowKit
/-- slices.SortFunc of api.Entry. -/
theorem sortF201_h {β : Type} (enc : β → List Dat) (hk : ∀ x, (enc x).length = 2) (cf : β → β → Int) (hO : Go.Sort.SWO (Go.Proofs.ltOf cf)) (g : Nat) (l : List β) (hl : l.length < 4611686018427387904)
    (hcmp : ∀ x ∈ l, ∀ y ∈ l, PCall Tryz.prog g [.agg (enc x), .agg (enc y)] (.v (.one (.lit (.int .i64 (cf x y)))))) :
    HCall Tryz.prog 201 [.c (.arr 0 0 l.length), .c (.d (.lit (.func (.func g) #[] #[])))] [.arr 0 56 2 (l.map enc)] (.tup []) [.arr 0 56 2 ((sortF cf l).map enc)] :=
  sortK_h Tryz.srt201 ⟨⟨_, Tryz.func201, by kernel_rfl, by kernel_rfl⟩⟩ 56 2 (by decide) Tryz.isAgg56 Tryz.sizeOf56 enc hk cf hO g l hl hcmp
end Go.Proofs.YtmpgmjlanngkfaaGreat
