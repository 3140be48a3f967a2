/-
  The byte form of rows, read back.
-/
import Derived.Test.YtmpgmjlanngkfaaGreatSum
import Derived.Test.YtmpgmjlanngkfaaGreatDex
section
namespace Go.Proofs.YtmpgmjlanngkfaaGreat
open Go.Abs Go.RowKit
attribute [local irreducible] ARun Au MCall PCall HCall Ak SF CF CFs Af Ag Ar fin AP VLe
set_option linter.unusedSimpArgs false
set_option maxRecDepth 100000
set_option maxHeartbeats 4000000
variable {b : UInt8} {i : Nat}
theorem Nc (L : List UInt8) (a b : Nat) : (⟨L.toArray⟩ : ByteArray).extract a b = ⟨((L.drop a).take (b - a)).toArray⟩ := by
 apply ByteArray.ext
 rw [ByteArray.data_extract]
 simp [List.extract_toArray, List.extract_eq_take_drop]
theorem G3 {L : List UInt8} (h : L[i]? = some b) : (⟨L.toArray⟩ : ByteArray)[i]? = some b := by
 have hlt := lt_of_getElem? h
 have hs : (⟨L.toArray⟩ : ByteArray).size = L.length := by simp [ByteArray.size]
 rw [getElem?_pos _ i (by rw [hs]; exact hlt)]
 rw [Bh hlt] at h
 simp only [Option.some.injEq] at h ⊢
 rw [← h]; rfl
section
variable {P : Program} {T : TypeId → Option TI} {F0 : Nat → Prop} {w0 : World}
variable {dr : Bool} {ops rest : List Oper} {K : St → Prop} {n : Nat} {sl : List (Nat × SVal)} {mem : List Blk} {ck : Nat} {df : List (FuncId × List Cell)} {acc : List Nat}
variable {d : Tmp} {op : Op} {ty : TypeId} {pos : String} {aft : Array Edge} {g : Option (Nat × Bool)}
theorem FU [tc : TC P T] {x y : Operand} {t : TypeId} {i : TI} {k : IntKind} {s : ByteArray} {z : Int} 
  (h : Reg P F0 w0 dr ops K rest ⟨n, (d, .c (.d (.lit (.int .u8 b.toNat)))) :: sl, mem, ck, df⟩ (0 :: acc)) (hw : GW ops g sl := by first | exact trivial | exact rfl) (hx : AH sl x = .c (.d (.lit (.string s))) := by exact rfl) (hy : AH sl y = .c (.d (.lit (.int k z))) := by exact rfl) (ht : T t = some i := by exact rfl) (hi : i.desc = .str := by exact rfl) (hb : 0 ≤ z ∧ s[z.toNat]? = some b) :
  Reg P F0 w0 dr ops K (⟨some d, .index t x y, ty, pos, aft, g⟩ :: rest) ⟨n, sl, mem, ck, df⟩ acc :=
 UH h hb hw hx hy ht hi
end
theorem ch {n : Int} (h0 : 0 ≤ n) (h1 : n < 4294967296) : J6 .i64 n 8 = n * 256 := by
 unfold J6
 have : (2 : Int) ^ min (8 : Int).toNat IntKind.i64.bits = 256 := by decide
 rw [this]
 exact BZ (by omega) (by omega)
theorem du {n : Int} (h0 : 0 ≤ n) (h1 : n < 4294967296) : Om .i64 (n * 256) b.toNat = n * 256 + b.toNat := by
 obtain ⟨m, rfl⟩ := UY h0
 have hb := b.toNat_lt
 have e1 : (m : Int) * 256 = ((m * 256 : Nat) : Int) := by omega
 unfold Om
 rw [e1, BitVec.ofInt_natCast, BitVec.ofInt_natCast, BitVec.toNat_or, BitVec.toNat_ofNat, BitVec.toNat_ofNat, show IntKind.i64.bits = 64 from rfl, ZA (by omega), ZA (by omega)]
 have e2 : m * 256 ||| b.toNat = m * 256 + b.toNat := by
  have := Nat.shiftLeft_add_eq_or_of_lt (i := 8) (b := b.toNat) (by omega) m
  rw [Nat.shiftLeft_eq] at this
  exact this.symm
 rw [e2, BZ (by omega) (by omega)]
 omega
def be (l : List UInt8) : Int := l.foldl (fun n b => n * 256 + (b.toNat : Nat)) 0
theorem VI {l : List UInt8} (h : l[i]? = some b) : be (l.take (i + 1)) = be (l.take i) * 256 + (b.toNat : Nat) := by
 rw [IU, h, be, List.foldl_append]; rfl
theorem W4 : ∀ (l : List UInt8) (s k : Int), 0 ≤ s → s < k → 0 ≤ l.foldl (fun (n : Int) (b : UInt8) => n * 256 + (b.toNat : Nat)) s ∧ l.foldl (fun (n : Int) (b : UInt8) => n * 256 + (b.toNat : Nat)) s < k * 256 ^ l.length
 | [], s, k, h1, h2 => by simpa using ⟨h1, h2⟩
 | b :: l, s, k, h1, h2 => by
   have hb := b.toNat_lt
   have := W4 l (s * 256 + (b.toNat : Nat)) (k * 256) (by omega) (by omega)
   rw [WR, List.length_cons, Int.pow_succ]
   rw [Int.mul_assoc, Int.mul_comm 256] at this
   exact this
theorem Td (z : Int) : ((IN z).toNat : Int) = z % 256 := by
 have h1 := Int.emod_nonneg z (show (256 : Int) ≠ 0 by decide)
 have h2 := Int.emod_lt_of_pos z (show (0 : Int) < 256 by decide)
 unfold IN
 rw [UInt8.toNat_ofNat']
 have : z.emod 256 = z % 256 := rfl
 omega
theorem Ym {n : Int} (h0 : 0 ≤ n) (h1 : n ≤ 8589934592) : be (Bj n).tail = n := by
 simp only [Bj, List.tail_cons, be, WR, List.foldl_nil, TN, TO, TP, YB, Td]
 omega
theorem Nd (n : Int) (h0 : 0 ≤ n) (h1 : n ≤ 8589934592) (L : List UInt8) : PC 254 [.one (.lit (.string ⟨(Bj n ++ L).toArray⟩))] (.tup [.agg (Val.d ⟨1, n - 4294967296, ⟨#[]⟩⟩), .one (.lit (.int .i64 6))]) := by
 have hsz : (⟨(Bj n ++ L).toArray⟩ : ByteArray).size = 6 + L.length := by simp [ByteArray.size, Bj]; omega
 have hex : ((⟨(Bj n ++ L).toArray⟩ : ByteArray).extract 1 6).data.toList = (Bj n).tail := by
  rw [Nc]; simp [Bj]
 have hval : (Val.mk 1 (n - 4294967296) ⟨#[]⟩).valid = true := by
  unfold Val.valid
  simp
  omega
 have hvc := I6 ⟨1, n - 4294967296, ⟨#[]⟩⟩
 rw [hval] at hvc
 have hben := Ym h0 h1
 have hl : (Bj n).tail.length = 5 := rfl
 generalize (⟨(Bj n ++ L).toArray⟩ : ByteArray) = s at hsz hex
 generalize (Bj n).tail = bs at hex hben hl
 refine Ac hT Tryz.func254 Tryz.ntmps254 [.cell 2 73, .tmp 3] fun B => ?_
 have hxs : ((s.extract 1 6).size : Int) ≤ 9223372036854775807 := by
  have : (s.extract 1 6).size = (s.extract 1 6).data.toList.length := rfl
  rw [this, hex, hl]; omega
 repeat' first | refine kz ?_ | refine Aw ?_ | refine Jx ?_ (hb := hxs) | refine kg ?_ ?_ | refine kf ?_ | exact k0 | fail
 change ARun _ _ _ ⟨_, (_, _) :: (_, _) :: (_, .c (.d (Ta (s.extract 1 6).data.toList))) :: _, _, _, _⟩ _
 rw [hex]
 refine A0 (X := Nat) ([4, 6] ++ List.range' 16 10) (fun x => x ≤ bs.length) (fun x lz => (4, (iC (be (bs.take x)))) :: (16, (iC x)) :: lz) (fun x => [.box 1 [.d (.lit (.int .i64 0)), .d (.lit (.int .i64 0)), .d (.lit (.string ⟨#[]⟩))]]) (fun x => bs.length - x) (0) ?_ ?_ ?_ ?_
 repeat' first | exact k0 | refine kw ?_ | refine kv ?_ ?_ | omega
 rintro i c hi
 by_cases hlt : i < bs.length
 ·obtain ⟨b, hv⟩ := gx hlt
  have hbn := b.toNat_lt
  have hbd : 0 ≤ be (bs.take i) ∧ be (bs.take i) < 4294967296 := by
   have := W4 (bs.take i) 0 1 (by omega) (by omega)
   refine ⟨this.1, Int.lt_of_lt_of_le this.2 ?_⟩
   have hli : (bs.take i).length ≤ 4 := by simp; omega
   generalize (bs.take i).length = m at hli
   match m, hli with
   | 0, _ => decide
   | 1, _ => decide
   | 2, _ => decide
   | 3, _ => decide
   | 4, _ => decide
  have hsn := VI hv
  repeat' first | refine kz ?_ | refine AX hv ?_ | refine Aw ?_ | refine kg ?_ ?_ | refine kf ?_ | exact k0 | fail
  apply Ad (i + 1) <;> (try dsimp only) <;> try repeat' first | exact k0 | refine kw ?_ | refine kv ?_ ?_ | omega
  rw [hsn, ch hbd.1 hbd.2, du hbd.1 hbd.2]
 ·rw [Ao (show bs.length ≤ i by omega), hben]
  repeat' first | refine kz ?_ | refine Aw ?_ | refine Aa (hvc) ?_ | refine kg ?_ ?_ | refine kf ?_ | exact k0 | fail
  all_goals rfl
theorem HK (t : List UInt8) (j : Nat) : Cq t = Cq (t.take j) ++ Cq (t.drop j) := by
 unfold Cq
 rw [← List.flatMap_append, XM]
theorem Yn {t : List UInt8} {j : Nat} (_ : j ≤ t.length) (L : List UInt8) (k : Nat) : (3 :: (Cq t ++ L))[1 + (Cq (t.take j)).length + k]? = (Cq (t.drop j) ++ L)[k]? := by
 have e := HK t j
 rw [show 1 + (Cq (t.take j)).length + k = ((Cq (t.take j)).length + k) + 1 by omega, List.getElem?_cons_succ, e, GR, LB (by omega), Nat.add_sub_cancel_left]
theorem Jy (b : UInt8) (t : List UInt8) : Cq (b :: t) = DQ b ++ Cq t := by simp [Cq]
theorem LV (t : List UInt8) (ht : t.length ≤ 32) (L : List UInt8) (hL : L.length ≤ 1000000000) : PC 255 [.one (.lit (.string ⟨(3 :: (Cq t ++ 0 :: 0 :: L)).toArray⟩))] (.tup [.agg (Val.d ⟨2, 0, ⟨t.toArray⟩⟩), .one (.lit (.int .i64 ((Cq t).length + 3 : Nat)))]) := by
 have hel := L5 t
 have hsz : (⟨(3 :: (Cq t ++ 0 :: 0 :: L)).toArray⟩ : ByteArray).size = (Cq t).length + 3 + L.length := by simp [ByteArray.size]; omega
 have hat : ∀ j k b, j ≤ t.length → (Cq (t.drop j) ++ 0 :: 0 :: L)[k]? = some b → (⟨(3 :: (Cq t ++ 0 :: 0 :: L)).toArray⟩ : ByteArray)[1 + (Cq (t.take j)).length + k]? = some b := fun j k b hj h => G3 (by rw [Yn hj]; exact h)
 generalize (⟨(3 :: (Cq t ++ 0 :: 0 :: L)).toArray⟩ : ByteArray) = s at hsz hat
 refine Ac hT Tryz.func255 Tryz.ntmps255 [.cell 2 73, .tmp 3] fun B => ?_
 repeat' first | refine kz ?_ | refine kh ?_ ?_ | exact ⟨⟩ | fail
 refine Cr 4 5 1 ?_
 refine A0 (X := Nat × Nat) (List.range' 3 49) (fun x => x.1 ≤ t.length) (fun x lz => (4, .c (.arr 1 x.2 (t.take x.1).length)) :: (5, (.c (.d (.lit (.int .i64 ((1 + (Cq (t.take x.1)).length : Nat) : Int)))))) :: lz) (fun x => [.box 1 [.d (.lit (.int .i64 0)), .d (.lit (.int .i64 0)), .d (.lit (.string ⟨#[]⟩))], .arr x.2 5 1 ((t.take x.1).map Mu)]) (fun x => t.length - x.1) ((0, 2)) ?_ ?_ ?_ ?_
 repeat' first | exact k0 | refine kw ?_ | refine kv ?_ ?_ | omega
 rintro ⟨j, k⟩ c hj
 dsimp only at hj ⊢
 have hle : (Cq (t.take j)).length ≤ (Cq t).length := by
  have e := HK t j
  rw [e, CP]; omega
 have htl : (t.take j).length = j := by simp; omega
 by_cases hlt : j < t.length
 ·obtain ⟨b, hv⟩ := gx hlt
  have hdr := Ay hv
  have hsn := NA hv
  have hel2 := congrArg List.length hsn
  have hle2 : (Cq (t.take (j + 1))).length ≤ (Cq t).length := by
   have e := HK t (j + 1)
   rw [e, CP]; omega
  rw [CP] at hel2
  have hmp := Hn Mu hv
  by_cases hb0 : b = 0
  ·subst hb0
   obtain ⟨z0, hz0, hx0⟩ : ∃ z : UInt8, z.toNat = 0 ∧ s[1 + (Cq (t.take j)).length + 0]? = some z := ⟨0, rfl, hat j 0 0 hj (by rw [hdr, Jy]; rfl)⟩
   obtain ⟨z1, hz1, hx1⟩ : ∃ z : UInt8, z.toNat = 255 ∧ s[1 + (Cq (t.take j)).length + 1]? = some z := ⟨255, rfl, hat j 1 255 hj (by rw [hdr, Jy]; rfl)⟩
   have hl2 : (DQ 0).length = 2 := rfl
   repeat' first | refine kz ?_ | refine FU ?_ (hb := by first | exact Fz hx0 (by omega) | exact Fz hx1 (by omega)) | refine kh ?_ ?_ | exact ⟨⟩ | fail
   apply Ad ((j + 1, _)) <;> (try dsimp only) <;> try repeat' first | exact k0 | refine w1 ?_ | refine Ab ?_ | refine m1 ?_ ?_ | omega
   rw [hmp]; rfl
  ·have he1 : DQ b = [b] := by simp [DQ, hb0]
   have hx0 := hat j 0 b hj (by rw [hdr, Jy, he1]; rfl)
   have hbn : b.toNat ≠ 0 := fun h => hb0 (UInt8.toNat_inj.1 h)
   rw [he1] at hel2
   repeat' first | refine kz ?_ | refine FU ?_ (hb := by first | exact Fz hx0 (by omega)) | refine kh ?_ ?_ | exact ⟨⟩ | fail
   simp only [List.length_cons, List.length_nil] at hel2
   apply Ad ((j + 1, _)) <;> (try dsimp only) <;> try repeat' first | exact k0 | refine w1 ?_ | refine Ab ?_ | refine m1 ?_ ?_ | omega
   rw [hmp]; rfl
 ·obtain rfl : j = t.length := by omega
  obtain ⟨z0, hz0, hx0⟩ : ∃ z : UInt8, z.toNat = 0 ∧ s[1 + (Cq (t.take t.length)).length + 0]? = some z := ⟨0, rfl, hat t.length 0 0 hj (by rw [XR]; rfl)⟩
  obtain ⟨z1, hz1, hx1⟩ : ∃ z : UInt8, z.toNat = 0 ∧ s[1 + (Cq (t.take t.length)).length + 1]? = some z := ⟨0, rfl, hat t.length 1 0 hj (by rw [XR]; rfl)⟩
  rw [Ao (Nat.le_refl _)] at *
  repeat' first | refine kz ?_ | refine FU ?_ (hb := by first | exact Fz hx0 (by omega) | exact Fz hx1 (by omega)) | refine kh ?_ ?_ | exact ⟨⟩ | fail
  ·rfl
  ·rfl
  ·rfl
  ·refine congrArg Dat.lit (congrArg (Value.int IntKind.i64) ?_)
   omega
theorem Kv (v : Val) (hv : v.valid = true) (L : List UInt8) (hL : L.length ≤ 1000000000) : PC 240 [.one (.lit (.string ⟨(AL v ++ L).toArray⟩))] (.tup [.agg v.d, .one (.lit (.int .i64 (AL v).length))]) := by
 rcases Ch hv with ⟨hk, he⟩ | ⟨hk, h1, h2, he⟩ | ⟨hk, hs, he⟩
 ·have e : AL v = [1] := by rw [AL, if_neg (by omega), if_neg (by omega)]
  obtain ⟨z0, hz0, hx0⟩ : ∃ z : UInt8, z.toNat = 1 ∧ (⟨(AL v ++ L).toArray⟩ : ByteArray)[0]? = some z := ⟨1, rfl, G3 (by rw [e]; rfl)⟩
  rw [he] at hx0 ⊢
  generalize (⟨(AL Val.null ++ L).toArray⟩ : ByteArray) = s at hx0
  have e0 : (AL Val.null).length = 1 := by rw [← he, e]; rfl
  rw [e0]
  refine Ac hT Tryz.func240 Tryz.ntmps240 [.cell 2 73, .tmp 3] fun B => ?_
  repeat' first | refine kz ?_ | refine FU ?_ (hb := by first | exact Fz hx0 (by omega)) | refine kg ?_ ?_ | refine kf ?_ | exact k0 | fail
  all_goals rfl
 ·have e : AL v = Bj (v.int + 4294967296) := by rw [AL, if_pos hk]
  obtain ⟨z0, hz0, hx0⟩ : ∃ z : UInt8, z.toNat = 2 ∧ (⟨(AL v ++ L).toArray⟩ : ByteArray)[0]? = some z := ⟨2, rfl, G3 (by rw [e]; rfl)⟩
  have hc := Nd (v.int + 4294967296) (by omega) (by omega) L
  rw [← e, Int.add_sub_cancel, ← he] at hc
  have e0 : (AL v).length = 6 := by rw [e]; rfl
  rw [e0]
  generalize (⟨(AL v ++ L).toArray⟩ : ByteArray) = s at hx0 hc
  refine Ac hT Tryz.func240 Tryz.ntmps240 [.cell 2 73, .tmp 3] fun B => ?_
  repeat' first | refine kz ?_ | refine Aa (hc) ?_ | refine FU ?_ (hb := by first | exact Fz hx0 (by omega)) | refine kg ?_ ?_ | refine kf ?_ | exact k0 | fail
  all_goals rfl
 ·have e : AL v ++ L = 3 :: (Cq v.text.data.toList ++ 0 :: 0 :: L) := by rw [AL, if_neg (by omega), if_pos hk]; simp
  have el : (AL v).length = (Cq v.text.data.toList).length + 3 := by rw [AL, if_neg (by omega), if_pos hk]; simp
  obtain ⟨z0, hz0, hx0⟩ : ∃ z : UInt8, z.toNat = 3 ∧ (⟨(AL v ++ L).toArray⟩ : ByteArray)[0]? = some z := ⟨3, rfl, G3 (by rw [e]; rfl)⟩
  have hc := LV v.text.data.toList (by simpa using hs) L hL
  rw [← e, ← el, show (⟨v.text.data.toList.toArray⟩ : ByteArray) = v.text from by simp, ← he] at hc
  generalize (⟨(AL v ++ L).toArray⟩ : ByteArray) = s at hx0 hc
  refine Ac hT Tryz.func240 Tryz.ntmps240 [.cell 2 73, .tmp 3] fun B => ?_
  repeat' first | refine kz ?_ | refine Aa (hc) ?_ | refine FU ?_ (hb := by first | exact Fz hx0 (by omega)) | refine kg ?_ ?_ | refine kf ?_ | exact k0 | fail
  all_goals rfl
theorem EX : DeferOk Tryz.prog 239 0 := by
 refine ⟨⟨_, Tryz.func239, by kernel_rfl, by kernel_rfl⟩, fun vs w hl => ?_⟩
 match vs, hl with
 | [], _ =>
   refine callsD_of_wpS Tryz.func239 rfl fun c₀ cs hu => ?_
   apply wpS_region
   simp [wpOpsS, go_sem, recoverD, hu, Tryz.ntmps239, Exit.thenS]
   cases c₀
   simp_all [bodyPostS, results, Tryz.results239]
theorem Nf {r : List Val} {v : Val} (h : r[i]? = some v) : Al (r.drop i) = AL v.clean ++ Al (r.drop (i + 1)) := by
 rw [Ay h]; rfl
theorem FA (r : List Val) (hr : AD r = true) : PC 200 [.one (.lit (.string ⟨(Al r).toArray⟩))] (.tup [.one (BP r), .one (.lit (.int .i64 0))]) := by
 simp only [AD, Bi, decide_eq_true_eq, CN] at hr
 obtain ⟨hlen, hall⟩ := hr
 refine Ac hT Tryz.func200 Tryz.ntmps200 [.tmp 2, .tmp 3] fun B => ?_
 repeat' first | refine kz ?_ | refine kf ?_ | refine AA (by repeat (first | exact Ae | refine As EX ?_)) ?_ ?_ | refine kg ?_ ?_ | fail
 refine Cr 4 73 3 ?_
 refine A0 (X := Nat × Nat) ([0] ++ List.range' 2 27) (fun x => x.1 ≤ r.length) (fun x lz => (0, .c (.d (.lit (.string ⟨(Al (r.drop x.1)).toArray⟩)))) :: (4, .c (.arr 0 x.2 (r.take x.1).length)) :: lz) (fun x => [.arr x.2 73 3 ((r.take x.1).map Val.d)]) (fun x => r.length - x.1) ((0, 1)) ?_ ?_ ?_ ?_
 repeat' first | exact k0 | refine kw ?_ | refine kv ?_ ?_ | omega
 rintro ⟨i, k⟩ c hi
 dsimp only at hi ⊢
 have htl : (r.take i).length = i := by simp; omega
 have hsz : (⟨(Al (r.drop i)).toArray⟩ : ByteArray).size = (Al (r.drop i)).length := by simp [ByteArray.size]
 have hel := Gw (r.drop i)
 have hdl : (r.drop i).length ≤ 16 := by simp; omega
 by_cases hlt : i < r.length
 ·have hv : r[i]? = some r[i] := Bh hlt
  have hvv := hall _ (Fp hlt)
  generalize r[i] = v at hv hvv
  have hd := Nf hv
  have hcl : v.clean = v := by rw [Val.clean, if_pos hvv]
  rw [hcl] at hd
  have hne : 1 ≤ (AL v).length := by
   have := FY v
   cases hq : AL v with
   | nil => exact absurd hq this
   | cons x y => simp
  have hell := JF v hvv
  have hlen2 : (Al (r.drop i)).length = (AL v).length + (Al (r.drop (i + 1))).length := by rw [hd, CP]
  have hc := Kv v hvv (Al (r.drop (i + 1))) (by omega)
  rw [← hd] at hc
  have hmp := Hn Val.d hv
  repeat' first | refine kz ?_ | refine Aa (hc) ?_ | refine kf ?_ | refine AA (by repeat (first | exact Ae | refine As EX ?_)) ?_ ?_ | refine kg ?_ ?_ | fail
  apply Ad ((i + 1, _)) <;> (try dsimp only) <;> try repeat' first | exact k0 | refine w1 ?_ | refine w3 ?_ ?_ | refine Ab ?_ | refine m1 ?_ ?_ | omega
  ·refine congrArg Dat.lit (congrArg Value.string ?_)
   rw [Nc, hd]
   congr 2
   simp [ByteArray.size]
   exact Ao (by omega)
  ·rw [hmp]; rfl
 ·obtain rfl : i = r.length := by omega
  have hnil : Al (r.drop r.length) = [] := by rw [XR]; rfl
  have hsz0 : (⟨([] : List UInt8).toArray⟩ : ByteArray).size = 0 := rfl
  rw [hnil]
  repeat' first | refine kz ?_ | refine kf ?_ | refine AA (by repeat (first | exact Ae | refine As EX ?_)) ?_ ?_ | refine kg ?_ ?_ | fail
  ·simp
  ·rw [Ao (Nat.le_refl r.length), Ao (by simp)]; rfl
  ·rfl
end Go.Proofs.YtmpgmjlanngkfaaGreat
end
