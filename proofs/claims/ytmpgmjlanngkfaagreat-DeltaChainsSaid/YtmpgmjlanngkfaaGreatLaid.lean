/-
  The contract of the library's slices.SortFunc, laid at this program by the kit's own tool; and what our walk makes of it.
-/
import Derived.Test.YtmpgmjlanngkfaaGreatRowc
import Derived.Test.YtmpgmjlanngkfaaGreatSrt
import Derived.Test.YtmpgmjlanngkfaaGreatTypes
section
namespace Go.Proofs.YtmpgmjlanngkfaaGreat
open Go.Abs Go.RowKit
attribute [local irreducible] ARun Au MCall PCall HCall Ak SF CF CFs Af Ag Ar fin AP VLe
set_option linter.unusedSimpArgs false
set_option maxRecDepth 100000
set_option maxHeartbeats 4000000
def IN (z : Int) : UInt8 := UInt8.ofNat (z.emod 256).toNat
theorem HU (z : Int) : IntKind.u8.wrap z = ((IN z).toNat : Nat) := by
 have h1 := Int.emod_nonneg z (show (256 : Int) ≠ 0 by decide)
 have h2 := Int.emod_lt_of_pos z (show (0 : Int) < 256 by decide)
 have e : (IN z).toNat = (z.emod 256).toNat := by
  unfold IN
  rw [UInt8.toNat_ofNat']
  have : (z.emod 256).toNat < 256 := by
   have : z.emod 256 = z % 256 := rfl
   omega
  omega
 rw [e]
 have : z.emod 256 = z % 256 := rfl
 simp [IntKind.wrap, IntKind.bits, IntKind.signed]
 omega
def Bj (n : Int) : List UInt8 := [2, IN (Cm .i64 n 32), IN (Cm .i64 n 24), IN (Cm .i64 n 16), IN (Cm .i64 n 8), IN n]
def DQ (b : UInt8) : List UInt8 := if b = 0 then [0, 255] else [b]
def Cq (l : List UInt8) : List UInt8 := l.flatMap DQ
def AL (v : Val) : List UInt8 :=
 if v.kind = 1 then Bj (v.int + 4294967296)
 else if v.kind = 2 then 3 :: (Cq v.text.data.toList ++ [0, 0])
 else [1]
theorem NA {l : List UInt8} {i : Nat} {b : UInt8} (h : l[i]? = some b) : Cq (l.take (i + 1)) = Cq (l.take i) ++ DQ b := by
 rw [IU, h, Cq, Cq, List.flatMap_append]
 simp
theorem L5 (l : List UInt8) : (Cq l).length ≤ 2 * l.length := by
 induction l with
 | nil => simp [Cq]
 | cons b l ih =>
   have : Cq (b :: l) = DQ b ++ Cq l := by simp [Cq]
   rw [this, CP, List.length_cons]
   have : (DQ b).length ≤ 2 := by unfold DQ; split <;> simp
   omega
theorem JF (v : Val) (h : v.valid = true) : (AL v).length ≤ 80 := by
 unfold AL
 split
 ·simp [Bj]
 ·split
  ·rename_i h1 h2
   have hs : v.text.size ≤ 32 := by
    unfold Val.valid at h
    rw [if_neg (by omega), if_neg h1, if_pos h2] at h
    simp at h
    exact h.2
   have := L5 v.text.data.toList
   have e : v.text.data.toList.length = v.text.size := by simp
   simp only [List.length_cons, CP, List.length_nil]
   omega
  ·simp
theorem Kz (out : List UInt8) (v : Val) (ho : out.length ≤ 1000000) (hv : v.valid = true) :
  HC 176 [.c (.arr 0 0 out.length), .agg (v.d.map .d)] [.arr 0 5 1 (out.map Mu)] (.c (.arr 0 1 (out ++ AL v).length)) [.arr 1 5 1 ((out ++ AL v).map Mu)] := by
 by_cases hk1 : v.kind = 1
 ·have hb1 : -4294967296 ≤ v.int ∧ v.int ≤ 4294967296 := by
   unfold Val.valid at hv
   rw [if_neg (by omega), if_pos hk1] at hv
   simp at hv
   exact ⟨hv.1.1, hv.1.2⟩
  obtain ⟨hb1, hb2⟩ := hb1
  have he : AL v = Bj (v.int + 4294967296) := by rw [AL, if_pos hk1]
  refine AI hT Tryz.func176 Tryz.ntmps176 [.tmp 4] fun B => ?_
  repeat' first | refine kz ?_ | refine AN rfl (fun hb => ?_) (fun hb => ?_) | refine Aw ?_ | refine kg ?_ ?_ | exact k0 | refine m1 ?_ ?_ | refine JQ ?_
  ·rw [he, Ah']
   simp only [HU, Bj, List.map_cons, List.map_nil, Mu]
   rfl
  ·rw [he]; simp [Bj]
 ·by_cases hk2 : v.kind = 2
  ·have hs : v.text.size ≤ 32 := by
    unfold Val.valid at hv
    rw [if_neg (by omega), if_neg hk1, if_pos hk2] at hv
    simp at hv
    exact hv.2
   have he : AL v = 3 :: (Cq v.text.data.toList ++ [0, 0]) := by rw [AL, if_neg hk1, if_pos hk2]
   have hl : v.text.data.toList.length = v.text.size := by simp
   generalize hL : v.text.data.toList = l at he hl
   refine AI hT Tryz.func176 Tryz.ntmps176 [.tmp 4] fun B => ?_
   repeat' first | refine kz ?_ | refine AN rfl (fun hb => ?_) (fun hb => ?_) | refine Aw ?_ | refine kg ?_ ?_ | exact k0 | refine m1 ?_ ?_ | refine JQ ?_
   rw [hL]
   refine A0 (X := Nat × Nat) ([0, 7] ++ List.range' 41 14) (fun x => x.1 ≤ l.length) (fun x lz => (0, .c (.arr 0 x.2 (out ++ 3 :: Cq (l.take x.1)).length)) :: (41, (iC x.1)) :: lz) (fun x => [.arr x.2 5 1 ((out ++ 3 :: Cq (l.take x.1)).map Mu)]) (fun x => l.length - x.1) ((0, 2)) ?_ ?_ ?_ ?_
   repeat' first | exact k0 | refine kw ?_ | refine kv ?_ ?_ | omega
   ·simp [Cq]
   ·simp [Cq]; rfl
   rintro ⟨i, k⟩ c hi
   dsimp only at hi ⊢
   have hel := L5 (l.take i)
   have htl : (l.take i).length = i := by simp; omega
   by_cases hlt : i < l.length
   ·obtain ⟨b, hv⟩ := gx hlt
    have hsn := NA hv
    repeat' first | refine kz ?_ | refine AN rfl (fun hb => ?_) (fun hb => ?_) | refine AX hv ?_ | refine Aw ?_ | refine kg ?_ ?_ | exact k0 | refine m1 ?_ ?_ | refine JQ ?_
    ·have hb0 : b = 0 := by apply UInt8.toNat_inj.1; simpa using hb
     subst hb0
     apply Ad ((i + 1, _)) <;> (try dsimp only) <;> try repeat' first | exact k0 | refine w1 ?_ | refine w5 ?_ ?_ | refine m1 ?_ ?_ | omega
     ·rw [hsn]; simp [DQ]; omega
     ·rw [hsn]; simp [DQ, Mu]
    ·have hb0 : ¬ b = 0 := by intro q; subst q; exact hb rfl
     apply Ad ((i + 1, _)) <;> (try dsimp only) <;> try repeat' first | exact k0 | refine w1 ?_ | refine w5 ?_ ?_ | refine m1 ?_ ?_ | omega
     ·rw [hsn]; simp [DQ, hb0]; omega
     ·rw [hsn]; simp [DQ, Mu, hb0]
   ·repeat' first | refine kz ?_ | refine AN rfl (fun hb => ?_) (fun hb => ?_) | refine Aw ?_ | refine kg ?_ ?_ | exact k0 | refine m1 ?_ ?_ | refine JQ ?_
    ·rw [he, Ao (by omega)]; simp [Mu]
    ·rw [he, Ao (by omega)]; simp; omega
  ·have he : AL v = [1] := by rw [AL, if_neg hk1, if_neg hk2]
   refine AI hT Tryz.func176 Tryz.ntmps176 [.tmp 4] fun B => ?_
   repeat' first | refine kz ?_ | refine AN rfl (fun hb => ?_) (fun hb => ?_) | refine Aw ?_ | refine kg ?_ ?_ | exact k0 | refine m1 ?_ ?_ | refine JQ ?_
   ·rw [he, Ah']; rfl
   ·rw [he]; simp
def Al (r : List Val) : List UInt8 := r.flatMap fun v => AL v.clean
theorem Dt (v : Val) : v.clean.valid = true := by
 unfold Val.clean
 split
 ·assumption
 ·simp [Val.null, Val.valid, ByteArray.toList_eq]
theorem NB {r : List Val} {i : Nat} {v : Val} (h : r[i]? = some v) : Al (r.take (i + 1)) = Al (r.take i) ++ AL v.clean := by
 rw [IU, h, Al, Al, List.flatMap_append]
 simp
theorem Gw (r : List Val) : (Al r).length ≤ 80 * r.length := by
 induction r with
 | nil => simp [Al]
 | cons v r ih =>
   have : Al (v :: r) = AL v.clean ++ Al r := by simp [Al]
   rw [this, CP, List.length_cons]
   have := JF v.clean (Dt v)
   omega
theorem Cg (r : List Val) (hr : r.length ≤ 10000) : PC 114 [.one (BP r)] (.v (.one (.lit (.string ⟨(Al r).toArray⟩)))) := by
 refine Ac hT Tryz.func114 Tryz.ntmps114 [.tmp 2] fun B => ?_
 repeat' first | refine kz ?_ | refine Aw ?_ | refine kf ?_ | fail
 refine Cr 3 5 1 ?_
 refine A0 (X := Nat × Nat) ([3, 5] ++ List.range' 8 9) (fun x => x.1 ≤ r.length) (fun x lz => (3, .c (.arr 0 x.2 (Al (r.take x.1)).length)) :: (8, (iC x.1)) :: lz) (fun x => [.arr x.2 5 1 ((Al (r.take x.1)).map Mu)]) (fun x => r.length - x.1) ((0, 1)) ?_ ?_ ?_ ?_
 repeat' first | exact k0 | refine kw ?_ | refine kv ?_ ?_ | omega
 rintro ⟨i, k⟩ c hi
 dsimp only at hi ⊢
 have hel := Gw (r.take i)
 have htl : (r.take i).length = i := by simp; omega
 by_cases hlt : i < r.length
 ·obtain ⟨v, hv⟩ := gx hlt
  have hsn := NB hv
  repeat' first | refine kz ?_ | refine AX hv ?_ | refine Aw ?_ | refine Aa (Hu _) ?_ | refine Ah [0] (Kz (Al (r.take i)) v.clean (by omega) (Dt v)) ?_ | refine kf ?_ | fail
  apply Ad ((i + 1, _)) <;> (try dsimp only) <;> try repeat' first | exact k0 | refine w1 ?_ | refine w5 ?_ ?_ | refine Ab ?_ | refine m1 ?_ ?_ | omega
  all_goals rw [hsn]
 ·repeat' first | refine kz ?_ | refine Aw ?_ | refine kf ?_ | fail
  all_goals (rw [Ao (by omega)])
end Go.Proofs.YtmpgmjlanngkfaaGreat
end
section
namespace Go.Proofs
open Go.Shelf
def Tryz.srt58_ren : Go.Shelf.Ren := ⟨fun | 6 => 58 | 15 => 110 | 14 => 109 | 28 => 170 | 29 => 171 | 20 => 162 | 21 => 163 | 22 => 164 | 23 => 165 | 24 => 166 | 25 => 167 | 26 => 168 | 27 => 169 | 46 => 210 | 47 => 211 | 48 => 212 | 49 => 213 | 50 => 214 | 57 => 243 | n => n, fun | 22 => 51 | 24 => 54 | 25 => 92 | 3 => 3 | 39 => 106 | 0 => 0 | 53 => 177 | 55 => 179 | 4 => 4 | 46 => 171 | 45 => 170 | 50 => 140 | 5 => 5 | 9 => 9 | 66 => 217 | 70 => 221 | 76 => 241 | 77 => 163 | n => n, fun | n => n⟩
def Tryz.srt115_ren : Go.Shelf.Ren := ⟨fun | 6 => 115 | 15 => 110 | 14 => 177 | 28 => 170 | 29 => 171 | 20 => 217 | 21 => 218 | 22 => 219 | 23 => 220 | 24 => 221 | 25 => 222 | 26 => 223 | 27 => 224 | 46 => 245 | 47 => 211 | 48 => 212 | 49 => 246 | 50 => 247 | 57 => 264 | n => n, fun | 22 => 95 | 24 => 98 | 25 => 142 | 3 => 3 | 39 => 106 | 0 => 0 | 53 => 177 | 55 => 179 | 4 => 4 | 46 => 171 | 45 => 170 | 50 => 140 | 5 => 5 | 9 => 9 | 66 => 217 | 70 => 221 | 76 => 241 | 77 => 163 | n => n, fun | n => n⟩
theorem Tryz.srt115 : Go.Proofs.SlLaysF0.n6 Tryz.prog Tryz.srt115_ren := {
 mixed := by kernel_rfl
 f6 := ⟨Tryz.f115.name, by decide, Tryz.func115.trans (congrArg some (by kernel_rfl))⟩
 f14 := ⟨Tryz.f177.name, by decide, Tryz.func177.trans (congrArg some (by kernel_rfl))⟩
 f15 := Tryz.func110.trans (congrArg some (by kernel_rfl))
 f20 := ⟨Tryz.f217.name, by decide, Tryz.func217.trans (congrArg some (by kernel_rfl))⟩
 f21 := ⟨Tryz.f218.name, by decide, Tryz.func218.trans (congrArg some (by kernel_rfl))⟩
 f22 := ⟨Tryz.f219.name, by decide, Tryz.func219.trans (congrArg some (by kernel_rfl))⟩
 f23 := ⟨Tryz.f220.name, by decide, Tryz.func220.trans (congrArg some (by kernel_rfl))⟩
 f24 := ⟨Tryz.f221.name, by decide, Tryz.func221.trans (congrArg some (by kernel_rfl))⟩
 f25 := ⟨Tryz.f222.name, by decide, Tryz.func222.trans (congrArg some (by kernel_rfl))⟩
 f26 := ⟨Tryz.f223.name, by decide, Tryz.func223.trans (congrArg some (by kernel_rfl))⟩
 f27 := ⟨Tryz.f224.name, by decide, Tryz.func224.trans (congrArg some (by kernel_rfl))⟩
 f28 := Tryz.func170.trans (congrArg some (by kernel_rfl))
 f29 := Tryz.func171.trans (congrArg some (by kernel_rfl))
 f46 := ⟨Tryz.f245.name, by decide, Tryz.func245.trans (congrArg some (by kernel_rfl))⟩
 f47 := Tryz.func211.trans (congrArg some (by kernel_rfl))
 f48 := Tryz.func212.trans (congrArg some (by kernel_rfl))
 f49 := ⟨Tryz.f246.name, by decide, Tryz.func246.trans (congrArg some (by kernel_rfl))⟩
 f50 := ⟨Tryz.f247.name, by decide, Tryz.func247.trans (congrArg some (by kernel_rfl))⟩
 f57 := ⟨Tryz.f264.name, by decide, Tryz.func264.trans (congrArg some (by kernel_rfl))⟩
 t0 := Tryz.underlying0
 a0 := Tryz.isAgg0
 z0 := Tryz.sizeOf0
 v0 := Tryz.zeroValue0
 t3 := Tryz.underlying3
 a3 := Tryz.isAgg3
 z3 := Tryz.sizeOf3
 v3 := Tryz.zeroValue3
 t4 := Tryz.underlying4
 a4 := Tryz.isAgg4
 z4 := Tryz.sizeOf4
 v4 := Tryz.zeroValue4
 t5 := Tryz.underlying5
 a5 := Tryz.isAgg5
 z5 := Tryz.sizeOf5
 v5 := Tryz.zeroValue5
 t9 := Tryz.underlying9
 a9 := Tryz.isAgg9
 z9 := Tryz.sizeOf9
 v9 := Tryz.zeroValue9
 t22 := Tryz.underlying95
 a22 := Tryz.isAgg95
 z22 := Tryz.sizeOf95
 v22 := Tryz.zeroValue95
 t25 := Tryz.underlying142
 a25 := Tryz.isAgg142
 z25 := Tryz.sizeOf142
 v25 := Tryz.zeroValue142
 t39 := Tryz.underlying106
 a39 := Tryz.isAgg106
 z39 := Tryz.sizeOf106
 v39 := Tryz.zeroValue106
 t45 := Tryz.underlying170
 a45 := Tryz.isAgg170
 z45 := Tryz.sizeOf170
 v45 := Tryz.zeroValue170
 t46 := Tryz.underlying171
 a46 := Tryz.isAgg171
 z46 := Tryz.sizeOf171
 v46 := Tryz.zeroValue171
 t50 := Tryz.underlying140
 a50 := Tryz.isAgg140
 z50 := Tryz.sizeOf140
 v50 := Tryz.zeroValue140
 t53 := Tryz.underlying177
 a53 := Tryz.isAgg177
 z53 := Tryz.sizeOf177
 v53 := Tryz.zeroValue177
 t55 := Tryz.underlying179
 a55 := Tryz.isAgg179
 z55 := Tryz.sizeOf179
 v55 := Tryz.zeroValue179
 t66 := Tryz.underlying217
 a66 := Tryz.isAgg217
 z66 := Tryz.sizeOf217
 v66 := Tryz.zeroValue217
 t70 := Tryz.underlying221
 a70 := Tryz.isAgg221
 z70 := Tryz.sizeOf221
 v70 := Tryz.zeroValue221
 t76 := Tryz.underlying241
 a76 := Tryz.isAgg241
 z76 := Tryz.sizeOf241
 v76 := Tryz.zeroValue241
 t77 := Tryz.underlying163
 a77 := Tryz.isAgg163
 z77 := Tryz.sizeOf163
 v77 := Tryz.zeroValue163 }
def Tryz.srt201_ren : Go.Shelf.Ren := ⟨fun | 6 => 201 | 15 => 110 | 14 => 241 | 28 => 170 | 29 => 171 | 20 => 256 | 21 => 257 | 22 => 258 | 23 => 259 | 24 => 260 | 25 => 261 | 26 => 262 | 27 => 263 | 46 => 277 | 47 => 211 | 48 => 212 | 49 => 278 | 50 => 279 | 57 => 284 | n => n, fun | 22 => 32 | 24 => 56 | 25 => 212 | 3 => 3 | 39 => 106 | 0 => 0 | 53 => 177 | 55 => 179 | 4 => 4 | 46 => 171 | 45 => 170 | 50 => 140 | 5 => 5 | 9 => 9 | 66 => 217 | 70 => 221 | 76 => 241 | 77 => 163 | n => n, fun | n => n⟩
theorem Tryz.srt201 : Go.Proofs.SlLaysF0.n6 Tryz.prog Tryz.srt201_ren := {
 mixed := by kernel_rfl
 f6 := ⟨Tryz.f201.name, by decide, Tryz.func201.trans (congrArg some (by kernel_rfl))⟩
 f14 := ⟨Tryz.f241.name, by decide, Tryz.func241.trans (congrArg some (by kernel_rfl))⟩
 f15 := Tryz.func110.trans (congrArg some (by kernel_rfl))
 f20 := ⟨Tryz.f256.name, by decide, Tryz.func256.trans (congrArg some (by kernel_rfl))⟩
 f21 := ⟨Tryz.f257.name, by decide, Tryz.func257.trans (congrArg some (by kernel_rfl))⟩
 f22 := ⟨Tryz.f258.name, by decide, Tryz.func258.trans (congrArg some (by kernel_rfl))⟩
 f23 := ⟨Tryz.f259.name, by decide, Tryz.func259.trans (congrArg some (by kernel_rfl))⟩
 f24 := ⟨Tryz.f260.name, by decide, Tryz.func260.trans (congrArg some (by kernel_rfl))⟩
 f25 := ⟨Tryz.f261.name, by decide, Tryz.func261.trans (congrArg some (by kernel_rfl))⟩
 f26 := ⟨Tryz.f262.name, by decide, Tryz.func262.trans (congrArg some (by kernel_rfl))⟩
 f27 := ⟨Tryz.f263.name, by decide, Tryz.func263.trans (congrArg some (by kernel_rfl))⟩
 f28 := Tryz.func170.trans (congrArg some (by kernel_rfl))
 f29 := Tryz.func171.trans (congrArg some (by kernel_rfl))
 f46 := ⟨Tryz.f277.name, by decide, Tryz.func277.trans (congrArg some (by kernel_rfl))⟩
 f47 := Tryz.func211.trans (congrArg some (by kernel_rfl))
 f48 := Tryz.func212.trans (congrArg some (by kernel_rfl))
 f49 := ⟨Tryz.f278.name, by decide, Tryz.func278.trans (congrArg some (by kernel_rfl))⟩
 f50 := ⟨Tryz.f279.name, by decide, Tryz.func279.trans (congrArg some (by kernel_rfl))⟩
 f57 := ⟨Tryz.f284.name, by decide, Tryz.func284.trans (congrArg some (by kernel_rfl))⟩
 t0 := Tryz.underlying0
 a0 := Tryz.isAgg0
 z0 := Tryz.sizeOf0
 v0 := Tryz.zeroValue0
 t3 := Tryz.underlying3
 a3 := Tryz.isAgg3
 z3 := Tryz.sizeOf3
 v3 := Tryz.zeroValue3
 t4 := Tryz.underlying4
 a4 := Tryz.isAgg4
 z4 := Tryz.sizeOf4
 v4 := Tryz.zeroValue4
 t5 := Tryz.underlying5
 a5 := Tryz.isAgg5
 z5 := Tryz.sizeOf5
 v5 := Tryz.zeroValue5
 t9 := Tryz.underlying9
 a9 := Tryz.isAgg9
 z9 := Tryz.sizeOf9
 v9 := Tryz.zeroValue9
 t22 := Tryz.underlying32
 a22 := Tryz.isAgg32
 z22 := Tryz.sizeOf32
 v22 := Tryz.zeroValue32
 t25 := Tryz.underlying212
 a25 := Tryz.isAgg212
 z25 := Tryz.sizeOf212
 v25 := Tryz.zeroValue212
 t39 := Tryz.underlying106
 a39 := Tryz.isAgg106
 z39 := Tryz.sizeOf106
 v39 := Tryz.zeroValue106
 t45 := Tryz.underlying170
 a45 := Tryz.isAgg170
 z45 := Tryz.sizeOf170
 v45 := Tryz.zeroValue170
 t46 := Tryz.underlying171
 a46 := Tryz.isAgg171
 z46 := Tryz.sizeOf171
 v46 := Tryz.zeroValue171
 t50 := Tryz.underlying140
 a50 := Tryz.isAgg140
 z50 := Tryz.sizeOf140
 v50 := Tryz.zeroValue140
 t53 := Tryz.underlying177
 a53 := Tryz.isAgg177
 z53 := Tryz.sizeOf177
 v53 := Tryz.zeroValue177
 t55 := Tryz.underlying179
 a55 := Tryz.isAgg179
 z55 := Tryz.sizeOf179
 v55 := Tryz.zeroValue179
 t66 := Tryz.underlying217
 a66 := Tryz.isAgg217
 z66 := Tryz.sizeOf217
 v66 := Tryz.zeroValue217
 t70 := Tryz.underlying221
 a70 := Tryz.isAgg221
 z70 := Tryz.sizeOf221
 v70 := Tryz.zeroValue221
 t76 := Tryz.underlying241
 a76 := Tryz.isAgg241
 z76 := Tryz.sizeOf241
 v76 := Tryz.zeroValue241
 t77 := Tryz.underlying163
 a77 := Tryz.isAgg163
 z77 := Tryz.sizeOf163
 v77 := Tryz.zeroValue163 }
def Tryz.srt237_ren : Go.Shelf.Ren := ⟨fun | 6 => 237 | 15 => 110 | 14 => 253 | 28 => 170 | 29 => 171 | 20 => 269 | 21 => 270 | 22 => 271 | 23 => 272 | 24 => 273 | 25 => 274 | 26 => 275 | 27 => 276 | 46 => 281 | 47 => 211 | 48 => 212 | 49 => 282 | 50 => 283 | 57 => 287 | n => n, fun | 22 => 145 | 24 => 186 | 25 => 238 | 3 => 3 | 39 => 106 | 0 => 0 | 53 => 177 | 55 => 179 | 4 => 4 | 46 => 171 | 45 => 170 | 50 => 140 | 5 => 5 | 9 => 9 | 66 => 217 | 70 => 221 | 76 => 241 | 77 => 163 | n => n, fun | n => n⟩
theorem Tryz.srt237 : Go.Proofs.SlLaysF0.n6 Tryz.prog Tryz.srt237_ren := {
 mixed := by kernel_rfl
 f6 := ⟨Tryz.f237.name, by decide, Tryz.func237.trans (congrArg some (by kernel_rfl))⟩
 f14 := ⟨Tryz.f253.name, by decide, Tryz.func253.trans (congrArg some (by kernel_rfl))⟩
 f15 := Tryz.func110.trans (congrArg some (by kernel_rfl))
 f20 := ⟨Tryz.f269.name, by decide, Tryz.func269.trans (congrArg some (by kernel_rfl))⟩
 f21 := ⟨Tryz.f270.name, by decide, Tryz.func270.trans (congrArg some (by kernel_rfl))⟩
 f22 := ⟨Tryz.f271.name, by decide, Tryz.func271.trans (congrArg some (by kernel_rfl))⟩
 f23 := ⟨Tryz.f272.name, by decide, Tryz.func272.trans (congrArg some (by kernel_rfl))⟩
 f24 := ⟨Tryz.f273.name, by decide, Tryz.func273.trans (congrArg some (by kernel_rfl))⟩
 f25 := ⟨Tryz.f274.name, by decide, Tryz.func274.trans (congrArg some (by kernel_rfl))⟩
 f26 := ⟨Tryz.f275.name, by decide, Tryz.func275.trans (congrArg some (by kernel_rfl))⟩
 f27 := ⟨Tryz.f276.name, by decide, Tryz.func276.trans (congrArg some (by kernel_rfl))⟩
 f28 := Tryz.func170.trans (congrArg some (by kernel_rfl))
 f29 := Tryz.func171.trans (congrArg some (by kernel_rfl))
 f46 := ⟨Tryz.f281.name, by decide, Tryz.func281.trans (congrArg some (by kernel_rfl))⟩
 f47 := Tryz.func211.trans (congrArg some (by kernel_rfl))
 f48 := Tryz.func212.trans (congrArg some (by kernel_rfl))
 f49 := ⟨Tryz.f282.name, by decide, Tryz.func282.trans (congrArg some (by kernel_rfl))⟩
 f50 := ⟨Tryz.f283.name, by decide, Tryz.func283.trans (congrArg some (by kernel_rfl))⟩
 f57 := ⟨Tryz.f287.name, by decide, Tryz.func287.trans (congrArg some (by kernel_rfl))⟩
 t0 := Tryz.underlying0
 a0 := Tryz.isAgg0
 z0 := Tryz.sizeOf0
 v0 := Tryz.zeroValue0
 t3 := Tryz.underlying3
 a3 := Tryz.isAgg3
 z3 := Tryz.sizeOf3
 v3 := Tryz.zeroValue3
 t4 := Tryz.underlying4
 a4 := Tryz.isAgg4
 z4 := Tryz.sizeOf4
 v4 := Tryz.zeroValue4
 t5 := Tryz.underlying5
 a5 := Tryz.isAgg5
 z5 := Tryz.sizeOf5
 v5 := Tryz.zeroValue5
 t9 := Tryz.underlying9
 a9 := Tryz.isAgg9
 z9 := Tryz.sizeOf9
 v9 := Tryz.zeroValue9
 t22 := Tryz.underlying145
 a22 := Tryz.isAgg145
 z22 := Tryz.sizeOf145
 v22 := Tryz.zeroValue145
 t25 := Tryz.underlying238
 a25 := Tryz.isAgg238
 z25 := Tryz.sizeOf238
 v25 := Tryz.zeroValue238
 t39 := Tryz.underlying106
 a39 := Tryz.isAgg106
 z39 := Tryz.sizeOf106
 v39 := Tryz.zeroValue106
 t45 := Tryz.underlying170
 a45 := Tryz.isAgg170
 z45 := Tryz.sizeOf170
 v45 := Tryz.zeroValue170
 t46 := Tryz.underlying171
 a46 := Tryz.isAgg171
 z46 := Tryz.sizeOf171
 v46 := Tryz.zeroValue171
 t50 := Tryz.underlying140
 a50 := Tryz.isAgg140
 z50 := Tryz.sizeOf140
 v50 := Tryz.zeroValue140
 t53 := Tryz.underlying177
 a53 := Tryz.isAgg177
 z53 := Tryz.sizeOf177
 v53 := Tryz.zeroValue177
 t55 := Tryz.underlying179
 a55 := Tryz.isAgg179
 z55 := Tryz.sizeOf179
 v55 := Tryz.zeroValue179
 t66 := Tryz.underlying217
 a66 := Tryz.isAgg217
 z66 := Tryz.sizeOf217
 v66 := Tryz.zeroValue217
 t70 := Tryz.underlying221
 a70 := Tryz.isAgg221
 z70 := Tryz.sizeOf221
 v70 := Tryz.zeroValue221
 t76 := Tryz.underlying241
 a76 := Tryz.isAgg241
 z76 := Tryz.sizeOf241
 v76 := Tryz.zeroValue241
 t77 := Tryz.underlying163
 a77 := Tryz.isAgg163
 z77 := Tryz.sizeOf163
 v77 := Tryz.zeroValue163 }
end Go.Proofs
end
section
namespace Go.Proofs.YtmpgmjlanngkfaaGreat
open Go.Abs Go.RowKit
theorem Pp {β : Type} (enc : β → List Dat) (hk : ∀ x, (enc x).length = 2) (cf : β → β → Int) (hO : Go.Sort.SWO (Go.Proofs.ltOf cf)) (g : Nat) (l : List β) (hl : l.length < 4611686018427387904)
  (hcmp : ∀ x ∈ l, ∀ y ∈ l, PC g [.agg (enc x), .agg (enc y)] (.v (.one (.lit (.int .i64 (cf x y)))))) :
  HC 115 [.c (.arr 0 0 l.length), .c (.d (.lit (.func (.func g) #[] #[])))] [.arr 0 98 2 (l.map enc)] (.tup []) [.arr 0 98 2 ((sortF cf l).map enc)] :=
 Mj Tryz.srt115 ⟨⟨_, Tryz.func115, by kernel_rfl, by kernel_rfl⟩⟩ 98 2 (by decide) Tryz.isAgg98 Tryz.sizeOf98 enc hk cf hO g l hl hcmp
theorem JZ {β : Type} (enc : β → List Dat) (hk : ∀ x, (enc x).length = 2) (cf : β → β → Int) (hO : Go.Sort.SWO (Go.Proofs.ltOf cf)) (g : Nat) (l : List β) (hl : l.length < 4611686018427387904)
  (hcmp : ∀ x ∈ l, ∀ y ∈ l, PC g [.agg (enc x), .agg (enc y)] (.v (.one (.lit (.int .i64 (cf x y)))))) :
  HC 201 [.c (.arr 0 0 l.length), .c (.d (.lit (.func (.func g) #[] #[])))] [.arr 0 56 2 (l.map enc)] (.tup []) [.arr 0 56 2 ((sortF cf l).map enc)] :=
 Mj Tryz.srt201 ⟨⟨_, Tryz.func201, by kernel_rfl, by kernel_rfl⟩⟩ 56 2 (by decide) Tryz.isAgg56 Tryz.sizeOf56 enc hk cf hO g l hl hcmp
theorem Pq {β : Type} (enc : β → List Dat) (hk : ∀ x, (enc x).length = 4) (cf : β → β → Int) (hO : Go.Sort.SWO (Go.Proofs.ltOf cf)) (g : Nat) (l : List β) (hl : l.length < 4611686018427387904)
  (hcmp : ∀ x ∈ l, ∀ y ∈ l, PC g [.agg (enc x), .agg (enc y)] (.v (.one (.lit (.int .i64 (cf x y)))))) :
  HC 237 [.c (.arr 0 0 l.length), .c (.d (.lit (.func (.func g) #[] #[])))] [.arr 0 186 4 (l.map enc)] (.tup []) [.arr 0 186 4 ((sortF cf l).map enc)] :=
 Mj Tryz.srt237 ⟨⟨_, Tryz.func237, by kernel_rfl, by kernel_rfl⟩⟩ 186 4 (by decide) Tryz.isAgg186 Tryz.sizeOf186 enc hk cf hO g l hl hcmp
end Go.Proofs.YtmpgmjlanngkfaaGreat
end
