/-
  The byte form of rows, read back.
-/
import Derived.Test.YtmpgmjlanngkfaaGreatAlc
import Derived.Test.YtmpgmjlanngkfaaGreatTyB
section
namespace Go.Proofs.YtmpgmjlanngkfaaGreat
open Go.Abs Go.RowKit
attribute [local irreducible] ARun At MCall PCall HCall Am SF CF CFs Ah Aj Ar fin AW VLe
set_option linter.unusedSimpArgs false
set_option maxRecDepth 100000
set_option maxHeartbeats 4000000
theorem MP (L : List UInt8) (a b : Nat) : (⟨L.toArray⟩ : ByteArray).extract a b = ⟨((L.drop a).take (b - a)).toArray⟩ := by
 apply ByteArray.ext
 rw [ByteArray.data_extract]
 simp [List.extract_toArray, List.extract_eq_take_drop]
theorem Ho {L : List UInt8} {i : Nat} {b : UInt8} (h : L[i]? = some b) : (⟨L.toArray⟩ : ByteArray)[i]? = some b := by
 have hlt := lt_of_getElem? h
 have hs : (⟨L.toArray⟩ : ByteArray).size = L.length := by simp [ByteArray.size]
 rw [getElem?_pos _ i (by rw [hs]; exact hlt)]
 rw [List.getElem?_eq_getElem hlt] at h
 simp only [Option.some.injEq] at h ⊢
 rw [← h]; rfl
section
variable {P : Program} {T : TypeId → Option TI} {F0 : Nat → Prop} {w0 : World}
variable {dr : Bool} {ops rest : List Oper} {K : St → Prop} {n : Nat} {sl : List (Nat × SVal)} {mem : List Blk} {ck : Nat} {df : List (FuncId × List Cell)} {acc : List Nat}
variable {d : Tmp} {op : Op} {ty : TypeId} {pos : String} {aft : Array Edge} {g : Option (Nat × Bool)}
theorem Gd [tc : TC P T] {x y : Operand} {t : TypeId} {i : TI} {k : IntKind} {s : ByteArray} {z : Int} {b : UInt8}
  (h : Reg P F0 w0 dr ops K rest ⟨n, (d, .c (.d (.lit (.int .u8 b.toNat)))) :: sl, mem, ck, df⟩ (0 :: acc)) (hw : GW ops g sl := by first | exact trivial | exact rfl) (hx : AC sl x = .c (.d (.lit (.string s))) := by exact rfl) (hy : AC sl y = .c (.d (.lit (.int k z))) := by exact rfl) (ht : T t = some i := by exact rfl) (hi : i.desc = .str := by exact rfl) (hb : 0 ≤ z ∧ s[z.toNat]? = some b) :
  Reg P F0 w0 dr ops K (⟨some d, .index t x y, ty, pos, aft, g⟩ :: rest) ⟨n, sl, mem, ck, df⟩ acc :=
 Ua h hb hw hx hy ht hi
end
theorem ZN {n : Int} (h0 : 0 ≤ n) (h1 : n < 4294967296) : J2 .i64 n 8 = n * 256 := by
 unfold J2
 have : (2 : Int) ^ min (8 : Int).toNat IntKind.i64.bits = 256 := by decide
 rw [this]
 exact BE (by omega) (by omega)
theorem aw {n : Int} {b : UInt8} (h0 : 0 ≤ n) (h1 : n < 4294967296) : N2 .i64 (n * 256) b.toNat = n * 256 + b.toNat := by
 obtain ⟨m, rfl⟩ := Int.eq_ofNat_of_zero_le h0
 have hb := b.toNat_lt
 have e1 : (m : Int) * 256 = ((m * 256 : Nat) : Int) := by omega
 unfold N2
 rw [e1, BitVec.ofInt_natCast, BitVec.ofInt_natCast, BitVec.toNat_or, BitVec.toNat_ofNat, BitVec.toNat_ofNat, show IntKind.i64.bits = 64 from rfl, Nat.mod_eq_of_lt (by omega), Nat.mod_eq_of_lt (by omega)]
 have e2 : m * 256 ||| b.toNat = m * 256 + b.toNat := by
  have := Nat.shiftLeft_add_eq_or_of_lt (i := 8) (b := b.toNat) (by omega) m
  rw [Nat.shiftLeft_eq] at this
  exact this.symm
 rw [e2, BE (by omega) (by omega)]
 omega
def be (l : List UInt8) : Int := l.foldl (fun n b => n * 256 + (b.toNat : Nat)) 0
theorem U2 {l : List UInt8} {i : Nat} {b : UInt8} (h : l[i]? = some b) : be (l.take (i + 1)) = be (l.take i) * 256 + (b.toNat : Nat) := by
 rw [List.take_add_one, h, be, List.foldl_append]; rfl
theorem Wb : ∀ (l : List UInt8) (s k : Int), 0 ≤ s → s < k → 0 ≤ l.foldl (fun (n : Int) (b : UInt8) => n * 256 + (b.toNat : Nat)) s ∧ l.foldl (fun (n : Int) (b : UInt8) => n * 256 + (b.toNat : Nat)) s < k * 256 ^ l.length
 | [], s, k, h1, h2 => by simpa using ⟨h1, h2⟩
 | b :: l, s, k, h1, h2 => by
   have hb := b.toNat_lt
   have := Wb l (s * 256 + (b.toNat : Nat)) (k * 256) (by omega) (by omega)
   rw [List.foldl_cons, List.length_cons, Int.pow_succ]
   rw [Int.mul_assoc, Int.mul_comm 256] at this
   exact this
theorem SL (z : Int) : ((IX z).toNat : Int) = z % 256 := by
 have h1 := Int.emod_nonneg z (show (256 : Int) ≠ 0 by decide)
 have h2 := Int.emod_lt_of_pos z (show (0 : Int) < 256 by decide)
 unfold IX
 rw [UInt8.toNat_ofNat']
 have : z.emod 256 = z % 256 := rfl
 omega
theorem Xk {n : Int} (h0 : 0 ≤ n) (h1 : n ≤ 8589934592) : be (Bm n).tail = n := by
 simp only [Bm, List.tail_cons, be, List.foldl_cons, List.foldl_nil, Tb, Tc, Td, Xz, SL]
 omega
theorem MQ (n : Int) (h0 : 0 ≤ n) (h1 : n ≤ 8589934592) (L : List UInt8) : PCall Tryz.prog 254 [.one (.lit (.string ⟨(Bm n ++ L).toArray⟩))] (.tup [.agg (Val.d ⟨1, n - 4294967296, ⟨#[]⟩⟩), .one (.lit (.int .i64 6))]) := by
 have hsz : (⟨(Bm n ++ L).toArray⟩ : ByteArray).size = 6 + L.length := by simp [ByteArray.size, Bm]; omega
 have hex : ((⟨(Bm n ++ L).toArray⟩ : ByteArray).extract 1 6).data.toList = (Bm n).tail := by
  rw [MP]; simp [Bm]
 have hval : (Val.mk 1 (n - 4294967296) ⟨#[]⟩).valid = true := by
  unfold Val.valid
  simp
  omega
 have hvc := Ja ⟨1, n - 4294967296, ⟨#[]⟩⟩
 rw [hval] at hvc
 have hben := Xk h0 h1
 have hl : (Bm n).tail.length = 5 := rfl
 generalize (⟨(Bm n ++ L).toArray⟩ : ByteArray) = s at hsz hex
 generalize (Bm n).tail = bs at hex hben hl
 refine Ac hT Tryz.func254 Tryz.ntmps254 [.cell 2 73, .tmp 3] fun B => ?_
 have hxs : ((s.extract 1 6).size : Int) ≤ 9223372036854775807 := by
  have : (s.extract 1 6).size = (s.extract 1 6).data.toList.length := rfl
  rw [this, hex, hl]; omega
 repeat' (first | refine kz ?_ | refine ki ?_ | refine Jy ?_ (hb := hxs) | refine kg ?_ ?_ | refine kf ?_ | exact k0 | fail)
 change ARun _ _ _ ⟨_, (_, _) :: (_, _) :: (_, .c (.d (SI (s.extract 1 6).data.toList))) :: _, _, _, _⟩ _
 rw [hex]
 refine AO (X := Nat) [4, 6, 16, 17, 18, 19, 20, 21, 22, 23, 24, 25] (fun x => x ≤ bs.length) (fun x lz => (4, (.c (.d (.lit (.int .i64 (be (bs.take x))))))) :: (16, (.c (.d (.lit (.int .i64 x))))) :: lz) (fun x => [.box 1 [.d (.lit (.int .i64 0)), .d (.lit (.int .i64 0)), .d (.lit (.string ⟨#[]⟩))]]) (fun x => bs.length - x) (0) ?_ ?_ ?_ ?_
 repeat' (first | exact k0 | refine kw ?_ | refine kv ?_ ?_ | omega)
 rintro i c hi
 by_cases hlt : i < bs.length
 ·have hv : bs[i]? = some bs[i] := List.getElem?_eq_getElem hlt
  generalize bs[i] = b at hv
  have hbn := b.toNat_lt
  have hbd : 0 ≤ be (bs.take i) ∧ be (bs.take i) < 4294967296 := by
    have := Wb (bs.take i) 0 1 (by omega) (by omega)
    refine ⟨this.1, Int.lt_of_lt_of_le this.2 ?_⟩
    have hli : (bs.take i).length ≤ 4 := by simp; omega
    generalize (bs.take i).length = m at hli
    match m, hli with
    | 0, _ => decide
    | 1, _ => decide
    | 2, _ => decide
    | 3, _ => decide
    | 4, _ => decide
  have hsn := U2 hv
  repeat' (first | refine kz ?_ | refine kx hv ?_ | refine ki ?_ | refine kg ?_ ?_ | refine kf ?_ | exact k0 | fail)
  (apply Ae (i + 1); all_goals (try dsimp only); all_goals (try (repeat' (first | exact k0 | refine kw ?_ | refine kv ?_ ?_ | omega))))
  rw [hsn, ZN hbd.1 hbd.2, aw hbd.1 hbd.2]
 ·rw [Ag (show bs.length ≤ i by omega), hben]
  repeat' (first | refine kz ?_ | refine ki ?_ | refine Aa (hvc) ?_ | refine kg ?_ ?_ | refine kf ?_ | exact k0 | fail)
  all_goals rfl
theorem H3 (t : List UInt8) (j : Nat) : Cv t = Cv (t.take j) ++ Cv (t.drop j) := by
 unfold Cv
 rw [← List.flatMap_append, List.take_append_drop]
theorem Xl {t : List UInt8} {j : Nat} (_ : j ≤ t.length) (L : List UInt8) (k : Nat) : (3 :: (Cv t ++ L))[1 + (Cv (t.take j)).length + k]? = (Cv (t.drop j) ++ L)[k]? := by
 have e := H3 t j
 rw [show 1 + (Cv (t.take j)).length + k = ((Cv (t.take j)).length + k) + 1 by omega, List.getElem?_cons_succ, e, List.append_assoc, List.getElem?_append_right (by omega), Nat.add_sub_cancel_left]
theorem Jz (b : UInt8) (t : List UInt8) : Cv (b :: t) = D3 b ++ Cv t := by simp [Cv]
theorem LG (t : List UInt8) (ht : t.length ≤ 32) (L : List UInt8) (hL : L.length ≤ 1000000000) : PCall Tryz.prog 255 [.one (.lit (.string ⟨(3 :: (Cv t ++ 0 :: 0 :: L)).toArray⟩))] (.tup [.agg (Val.d ⟨2, 0, ⟨t.toArray⟩⟩), .one (.lit (.int .i64 ((Cv t).length + 3 : Nat)))]) := by
 have hel := LN t
 have hsz : (⟨(3 :: (Cv t ++ 0 :: 0 :: L)).toArray⟩ : ByteArray).size = (Cv t).length + 3 + L.length := by simp [ByteArray.size]; omega
 have hat : ∀ j k b, j ≤ t.length → (Cv (t.drop j) ++ 0 :: 0 :: L)[k]? = some b → (⟨(3 :: (Cv t ++ 0 :: 0 :: L)).toArray⟩ : ByteArray)[1 + (Cv (t.take j)).length + k]? = some b := fun j k b hj h => Ho (by rw [Xl hj]; exact h)
 generalize (⟨(3 :: (Cv t ++ 0 :: 0 :: L)).toArray⟩ : ByteArray) = s at hsz hat
 refine Ac hT Tryz.func255 Tryz.ntmps255 [.cell 2 73, .tmp 3] fun B => ?_
 repeat' (first | refine kz ?_ | refine kf ?_ | refine kg ?_ ?_ | exact k0 | fail)
 refine BA 4 5 1 ?_
 refine AO (X := Nat × Nat) [3, 4, 5, 6, 7, 8, 9, 10, 11, 12, 13, 14, 15, 16, 17, 18, 19, 20, 21, 22, 23, 24, 25, 26, 27, 28, 29, 30, 31, 32, 33, 34, 35, 36, 37, 38, 39, 40, 41, 42, 43, 44, 45, 46, 47, 48, 49, 50, 51] (fun x => x.1 ≤ t.length) (fun x lz => (4, .c (.arr 1 x.2 (t.take x.1).length)) :: (5, (.c (.d (.lit (.int .i64 ((1 + (Cv (t.take x.1)).length : Nat) : Int)))))) :: lz) (fun x => [.box 1 [.d (.lit (.int .i64 0)), .d (.lit (.int .i64 0)), .d (.lit (.string ⟨#[]⟩))], .arr x.2 5 1 ((t.take x.1).map Mg)]) (fun x => t.length - x.1) ((0, 2)) ?_ ?_ ?_ ?_
 repeat' (first | exact k0 | refine kw ?_ | refine kv ?_ ?_ | omega)
 rintro ⟨j, k⟩ c hj
 dsimp only at hj ⊢
 have hle : (Cv (t.take j)).length ≤ (Cv t).length := by
  have e := H3 t j
  rw [e, List.length_append]; omega
 have htl : (t.take j).length = j := by simp; omega
 by_cases hlt : j < t.length
 ·have hv : t[j]? = some t[j] := List.getElem?_eq_getElem hlt
  generalize t[j] = b at hv
  have hdr := AD hv
  have hsn := M9 hv
  have hel2 := congrArg List.length hsn
  have hle2 : (Cv (t.take (j + 1))).length ≤ (Cv t).length := by
   have e := H3 t (j + 1)
   rw [e, List.length_append]; omega
  rw [List.length_append] at hel2
  have hmp := EU Mg hv
  by_cases hb0 : b = 0
  ·subst hb0
   obtain ⟨z0, hz0, hx0⟩ : ∃ z : UInt8, z.toNat = 0 ∧ s[1 + (Cv (t.take j)).length + 0]? = some z := ⟨0, rfl, hat j 0 0 hj (by rw [hdr, Jz]; rfl)⟩
   obtain ⟨z1, hz1, hx1⟩ : ∃ z : UInt8, z.toNat = 255 ∧ s[1 + (Cv (t.take j)).length + 1]? = some z := ⟨255, rfl, hat j 1 255 hj (by rw [hdr, Jz]; rfl)⟩
   have hl2 : (D3 0).length = 2 := rfl
   repeat' (first | refine kz ?_ | refine Gd ?_ (hb := by first | exact FO hx0 (by omega) | exact FO hx1 (by omega)) | refine kf ?_ | refine kg ?_ ?_ | exact k0 | fail)
   (apply Ae ((j + 1, _)); all_goals (try dsimp only); all_goals (try (repeat' (first | exact k0 | refine w1 ?_ | refine Ab ?_ | refine m1 ?_ ?_ | omega))))
   rw [hmp]; rfl
  ·have he1 : D3 b = [b] := by simp [D3, hb0]
   have hx0 := hat j 0 b hj (by rw [hdr, Jz, he1]; rfl)
   have hbn : b.toNat ≠ 0 := fun h => hb0 (UInt8.toNat_inj.1 h)
   rw [he1] at hel2
   repeat' (first | refine kz ?_ | refine Gd ?_ (hb := by first | exact FO hx0 (by omega)) | refine kf ?_ | refine kg ?_ ?_ | exact k0 | fail)
   simp only [List.length_cons, List.length_nil] at hel2
   (apply Ae ((j + 1, _)); all_goals (try dsimp only); all_goals (try (repeat' (first | exact k0 | refine w1 ?_ | refine Ab ?_ | refine m1 ?_ ?_ | omega))))
   rw [hmp]; rfl
 ·obtain rfl : j = t.length := by omega
  obtain ⟨z0, hz0, hx0⟩ : ∃ z : UInt8, z.toNat = 0 ∧ s[1 + (Cv (t.take t.length)).length + 0]? = some z := ⟨0, rfl, hat t.length 0 0 hj (by rw [List.drop_length]; rfl)⟩
  obtain ⟨z1, hz1, hx1⟩ : ∃ z : UInt8, z.toNat = 0 ∧ s[1 + (Cv (t.take t.length)).length + 1]? = some z := ⟨0, rfl, hat t.length 1 0 hj (by rw [List.drop_length]; rfl)⟩
  rw [Ag (Nat.le_refl _)] at *
  repeat' (first | refine kz ?_ | refine Gd ?_ (hb := by first | exact FO hx0 (by omega) | exact FO hx1 (by omega)) | refine kf ?_ | refine kg ?_ ?_ | exact k0 | fail)
  ·rfl
  ·rfl
  ·rfl
  ·refine congrArg Dat.lit (congrArg (Value.int IntKind.i64) ?_)
   omega
theorem Kh (v : Val) (hv : v.valid = true) (L : List UInt8) (hL : L.length ≤ 1000000000) : PCall Tryz.prog 240 [.one (.lit (.string ⟨(AJ v ++ L).toArray⟩))] (.tup [.agg v.d, .one (.lit (.int .i64 (AJ v).length))]) := by
 rcases BB hv with ⟨hk, he⟩ | ⟨hk, h1, h2, he⟩ | ⟨hk, hs, he⟩
 ·have e : AJ v = [1] := by rw [AJ, if_neg (by omega), if_neg (by omega)]
  obtain ⟨z0, hz0, hx0⟩ : ∃ z : UInt8, z.toNat = 1 ∧ (⟨(AJ v ++ L).toArray⟩ : ByteArray)[0]? = some z := ⟨1, rfl, Ho (by rw [e]; rfl)⟩
  rw [he] at hx0 ⊢
  generalize (⟨(AJ Val.null ++ L).toArray⟩ : ByteArray) = s at hx0
  have e0 : (AJ Val.null).length = 1 := by rw [← he, e]; rfl
  rw [e0]
  refine Ac hT Tryz.func240 Tryz.ntmps240 [.cell 2 73, .tmp 3] fun B => ?_
  repeat' (first | refine kz ?_ | refine Gd ?_ (hb := by first | exact FO hx0 (by omega)) | refine kg ?_ ?_ | refine kf ?_ | exact k0 | fail)
  all_goals rfl
 ·have e : AJ v = Bm (v.int + 4294967296) := by rw [AJ, if_pos hk]
  obtain ⟨z0, hz0, hx0⟩ : ∃ z : UInt8, z.toNat = 2 ∧ (⟨(AJ v ++ L).toArray⟩ : ByteArray)[0]? = some z := ⟨2, rfl, Ho (by rw [e]; rfl)⟩
  have hc := MQ (v.int + 4294967296) (by omega) (by omega) L
  rw [← e, Int.add_sub_cancel, ← he] at hc
  have e0 : (AJ v).length = 6 := by rw [e]; rfl
  rw [e0]
  generalize (⟨(AJ v ++ L).toArray⟩ : ByteArray) = s at hx0 hc
  refine Ac hT Tryz.func240 Tryz.ntmps240 [.cell 2 73, .tmp 3] fun B => ?_
  repeat' (first | refine kz ?_ | refine Aa (hc) ?_ | refine Gd ?_ (hb := by first | exact FO hx0 (by omega)) | refine kg ?_ ?_ | refine kf ?_ | exact k0 | fail)
  all_goals rfl
 ·have e : AJ v ++ L = 3 :: (Cv v.text.data.toList ++ 0 :: 0 :: L) := by rw [AJ, if_neg (by omega), if_pos hk]; simp
  have el : (AJ v).length = (Cv v.text.data.toList).length + 3 := by rw [AJ, if_neg (by omega), if_pos hk]; simp
  obtain ⟨z0, hz0, hx0⟩ : ∃ z : UInt8, z.toNat = 3 ∧ (⟨(AJ v ++ L).toArray⟩ : ByteArray)[0]? = some z := ⟨3, rfl, Ho (by rw [e]; rfl)⟩
  have hc := LG v.text.data.toList (by simpa using hs) L hL
  rw [← e, ← el, show (⟨v.text.data.toList.toArray⟩ : ByteArray) = v.text from by simp, ← he] at hc
  generalize (⟨(AJ v ++ L).toArray⟩ : ByteArray) = s at hx0 hc
  refine Ac hT Tryz.func240 Tryz.ntmps240 [.cell 2 73, .tmp 3] fun B => ?_
  repeat' (first | refine kz ?_ | refine Aa (hc) ?_ | refine Gd ?_ (hb := by first | exact FO hx0 (by omega)) | refine kg ?_ ?_ | refine kf ?_ | exact k0 | fail)
  all_goals rfl
theorem E4 : DeferOk Tryz.prog 239 0 := by
 refine ⟨⟨_, Tryz.func239, by kernel_rfl, by kernel_rfl⟩, fun vs w hl => ?_⟩
 match vs, hl with
 | [], _ =>
   refine callsD_of_wpS Tryz.func239 rfl fun c₀ cs hu => ?_
   apply wpS_region
   simp [wpOpsS, go_sem, recoverD, hu, Tryz.ntmps239, Exit.thenS]
   cases c₀
   simp_all [bodyPostS, results, Tryz.results239]
theorem MR {r : List Val} {i : Nat} {v : Val} (h : r[i]? = some v) : Ao (r.drop i) = AJ v.clean ++ Ao (r.drop (i + 1)) := by
 rw [AD h]; rfl
theorem FP (r : List Val) (hr : AQ r = true) : PCall Tryz.prog 200 [.one (.lit (.string ⟨(Ao r).toArray⟩))] (.tup [.one (AU r), .one (.lit (.int .i64 0))]) := by
 simp only [AQ, Bool.and_eq_true, decide_eq_true_eq, List.all_eq_true] at hr
 obtain ⟨hlen, hall⟩ := hr
 refine Ac hT Tryz.func200 Tryz.ntmps200 [.tmp 2, .tmp 3] fun B => ?_
 repeat' (first | refine kz ?_ | refine kf ?_ | refine Ay (by repeat (first | exact Af | refine Aq E4 ?_)) ?_ ?_ | refine kg ?_ ?_ | fail)
 refine BA 4 73 3 ?_
 refine AO (X := Nat × Nat) [0, 2, 3, 4, 5, 6, 7, 8, 9, 10, 11, 12, 13, 14, 15, 16, 17, 18, 19, 20, 21, 22, 23, 24, 25, 26, 27, 28] (fun x => x.1 ≤ r.length) (fun x lz => (0, .c (.d (.lit (.string ⟨(Ao (r.drop x.1)).toArray⟩)))) :: (4, .c (.arr 0 x.2 (r.take x.1).length)) :: lz) (fun x => [.arr x.2 73 3 ((r.take x.1).map Val.d)]) (fun x => r.length - x.1) ((0, 1)) ?_ ?_ ?_ ?_
 repeat' (first | exact k0 | refine kw ?_ | refine kv ?_ ?_ | omega)
 rintro ⟨i, k⟩ c hi
 dsimp only at hi ⊢
 have htl : (r.take i).length = i := by simp; omega
 have hsz : (⟨(Ao (r.drop i)).toArray⟩ : ByteArray).size = (Ao (r.drop i)).length := by simp [ByteArray.size]
 have hel := GV (r.drop i)
 have hdl : (r.drop i).length ≤ 16 := by simp; omega
 by_cases hlt : i < r.length
 ·have hv : r[i]? = some r[i] := List.getElem?_eq_getElem hlt
  have hvv := hall _ (List.getElem_mem hlt)
  generalize r[i] = v at hv hvv
  have hd := MR hv
  have hcl : v.clean = v := by rw [Val.clean, if_pos hvv]
  rw [hcl] at hd
  have hne : 1 ≤ (AJ v).length := by
    have := Gh v
    cases hq : AJ v with
    | nil => exact absurd hq this
    | cons x y => simp
  have hell := JF v hvv
  have hlen2 : (Ao (r.drop i)).length = (AJ v).length + (Ao (r.drop (i + 1))).length := by rw [hd, List.length_append]
  have hc := Kh v hvv (Ao (r.drop (i + 1))) (by omega)
  rw [← hd] at hc
  have hmp := EU Val.d hv
  repeat' (first | refine kz ?_ | refine Aa (hc) ?_ | refine kf ?_ | refine Ay (by repeat (first | exact Af | refine Aq E4 ?_)) ?_ ?_ | refine kg ?_ ?_ | fail)
  (apply Ae ((i + 1, _)); all_goals (try dsimp only); all_goals (try (repeat' (first | exact k0 | refine w1 ?_ | refine w3 ?_ ?_ | refine Ab ?_ | refine m1 ?_ ?_ | omega))))
  · refine congrArg Dat.lit (congrArg Value.string ?_)
    rw [MP, hd]
    congr 2
    simp [ByteArray.size]
    exact Ag (by omega)
  · rw [hmp]; rfl
 ·obtain rfl : i = r.length := by omega
  have hnil : Ao (r.drop r.length) = [] := by rw [List.drop_length]; rfl
  have hsz0 : (⟨([] : List UInt8).toArray⟩ : ByteArray).size = 0 := rfl
  rw [hnil]
  repeat' (first | refine kz ?_ | refine kf ?_ | refine Ay (by repeat (first | exact Af | refine Aq E4 ?_)) ?_ ?_ | refine kg ?_ ?_ | fail)
  · simp
  · rw [Ag (Nat.le_refl r.length), Ag (by simp)]; rfl
  · rfl
end Go.Proofs.YtmpgmjlanngkfaaGreat
end
