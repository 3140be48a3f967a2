/-
  The byte form of rows, read back.
-/
import Derived.Test.YtmpgmjlanngkfaaGreatExi
import Derived.Test.YtmpgmjlanngkfaaGreatSum
import Derived.Test.YtmpgmjlanngkfaaGreatTap
section
namespace Go.Proofs.YtmpgmjlanngkfaaGreat
open Go.Abs Go.RowKit
attribute [local irreducible] ARun Av MCall PCall HCall Ap SF CF CFs Ag Ai As fin AY VLe
set_option linter.unusedSimpArgs false
set_option maxRecDepth 100000
set_option maxHeartbeats 4000000
variable {b : UInt8} {i : Nat}
def WB (op a b : Int) : Val := if op = 4 then Val.ofInt (a + b) else if op = 5 then Val.ofInt (a - b) else if op = 6 then Val.ofInt (a * b) else HN a b
theorem N5 (op a b : Int) (kS : op = 4 ∨ op = 5 ∨ op = 6 ∨ op = 7) (ha : -4294967296 ≤ a ∧ a ≤ 4294967296) (hb : -4294967296 ≤ b ∧ b ≤ 4294967296) : PC 280 [.one (.lit (.int .i64 op)), .one (.lit (.int .i64 a)), .one (.lit (.int .i64 b))] (.v (.agg (WB op a b).d)) := by
 have h1 := N4 a b ha hb
 have h2 := L6 a b ha
 unfold WB
 rcases kS with rfl | rfl | rfl | rfl
 ·refine Ac hT Tryz.func280 Tryz.ntmps280 [.cell 6 73] fun B => ?_
  repeat' first | refine kz ?_ | refine Aa (Bw _) ?_ | refine kh ?_ ?_ | exact ⟨⟩ | fail
  all_goals rfl
 ·refine Ac hT Tryz.func280 Tryz.ntmps280 [.cell 6 73] fun B => ?_
  repeat' first | refine kz ?_ | refine Aa (Bw _) ?_ | refine kh ?_ ?_ | exact ⟨⟩ | fail
  all_goals rfl
 ·refine Ac hT Tryz.func280 Tryz.ntmps280 [.cell 6 73] fun B => ?_
  repeat' first | refine kz ?_ | refine Aa (h1) ?_ | refine kh ?_ ?_ | exact ⟨⟩ | fail
  all_goals rfl
 ·refine Ac hT Tryz.func280 Tryz.ntmps280 [.cell 6 73] fun B => ?_
  repeat' first | refine kz ?_ | refine Aa (h2) ?_ | refine kh ?_ ?_ | exact ⟨⟩ | fail
  all_goals rfl
theorem Rv {a : Val} (ha : a.valid = true) (k : a.kind = 1) : -4294967296 ≤ a.int ∧ a.int ≤ 4294967296 := by
 rcases BT ha with h | h | h
 ·omega
 ·exact ⟨h.2.1, h.2.2.1⟩
 ·omega
theorem WC {a : Val} (ha : a.valid = true) (k : a.kind = 2) : a.text.size ≤ 32 := by
 rcases BT ha with h | h | h
 ·omega
 ·omega
 ·exact h.2.1
theorem Hq (op : Int) (kS : op = 4 ∨ op = 5 ∨ op = 6 ∨ op = 7) (a b : Val) (va : a.valid = true) (vb : b.valid = true) : PC 268 [.one (.lit (.int .i64 op)), .one (A0 [a, b])] (.v (.agg (H8 op a b).d)) := by
 by_cases ka : a.kind = 1
 ·by_cases kb : b.kind = 1
  ·have h1 := N5 op a.int b.int kS (Rv va ka) (Rv vb kb)
   rw [show H8 op a b = WB op a.int b.int by rw [H8, if_neg (by omega), if_neg (by omega), if_neg (by omega)]; rfl]
   refine Ac hT Tryz.func268 Tryz.ntmps268 [.cell 4 73] fun B => ?_
   repeat' first | refine kz ?_ | refine Az rfl (fun hb => ?_) (fun hb => ?_) | refine Ao ?_ | refine Aa (h1) ?_ | refine kh ?_ ?_ | exact ⟨⟩ | fail
   all_goals rfl
  ·rw [show H8 op a b = Val.null from if_pos (.inr kb)]
   refine Ac hT Tryz.func268 Tryz.ntmps268 [.cell 4 73] fun B => ?_
   repeat' first | refine kz ?_ | refine Az rfl (fun hb => ?_) (fun hb => ?_) | refine Ao ?_ | refine kh ?_ ?_ | exact ⟨⟩ | fail
   all_goals rfl
 ·rw [show H8 op a b = Val.null from if_pos (.inl ka)]
  refine Ac hT Tryz.func268 Tryz.ntmps268 [.cell 4 73] fun B => ?_
  repeat' first | refine kz ?_ | refine Az rfl (fun hb => ?_) (fun hb => ?_) | refine Ao ?_ | refine kh ?_ ?_ | exact ⟨⟩ | fail
  all_goals rfl
theorem Uc (a : Val) (va : a.valid = true) : PC 268 [.one (.lit (.int .i64 3)), .one (A0 [a])] (.v (.agg (H8 3 a a).d)) := by
 by_cases ka : a.kind = 1
 ·have := Rv va ka
  rw [show H8 3 a a = Val.ofInt (-a.int) by rw [H8, if_neg (by omega), if_pos rfl]]
  refine Ac hT Tryz.func268 Tryz.ntmps268 [.cell 4 73] fun B => ?_
  repeat' first | refine kz ?_ | refine Ao ?_ | refine Aa (Bw _) ?_ | refine kh ?_ ?_ | exact ⟨⟩ | fail
  all_goals rfl
 ·rw [show H8 3 a a = Val.null from if_pos (.inl ka)]
  refine Ac hT Tryz.func268 Tryz.ntmps268 [.cell 4 73] fun B => ?_
  repeat' first | refine kz ?_ | refine Ao ?_ | refine kh ?_ ?_ | exact ⟨⟩ | fail
  all_goals rfl
theorem Rw (a : Val) : PC 268 [.one (.lit (.int .i64 13)), .one (A0 [a])] (.v (.agg (H8 13 a a).d)) := by
 by_cases ka : a.kind = 1
 ·rw [show H8 13 a a = BO (a.int == 0) by rw [H8, if_neg (by omega), if_neg (by omega), if_pos rfl, Kn]]
  refine Ac hT Tryz.func268 Tryz.ntmps268 [.cell 4 73] fun B => ?_
  repeat' first | refine kz ?_ | refine Ao ?_ | refine Aa (DY _) ?_ | refine kh ?_ ?_ | exact ⟨⟩ | fail
  all_goals rfl
 ·rw [show H8 13 a a = Val.null from if_pos (.inl ka)]
  refine Ac hT Tryz.func268 Tryz.ntmps268 [.cell 4 73] fun B => ?_
  repeat' first | refine kz ?_ | refine Ao ?_ | refine kh ?_ ?_ | exact ⟨⟩ | fail
  all_goals rfl
theorem Ud (a b : Val) (va : a.valid = true) (vb : b.valid = true) : PC 268 [.one (.lit (.int .i64 8)), .one (A0 [a, b])] (.v (.agg (Ct 8 a b).d)) := by
 by_cases ka : a.kind = 2
 ·by_cases kb : b.kind = 2
  ·have la := WC va ka
   have lb := WC vb kb
   rw [show Ct 8 a b = Val.ofText (a.text ++ b.text) by rw [Ct, if_neg (by omega), if_neg (by omega), if_pos ⟨rfl, kb⟩]]
   refine Ac hT Tryz.func268 Tryz.ntmps268 [.cell 4 73] fun B => ?_
   repeat' first | refine kz ?_ | refine Ao ?_ | refine Aa (HA _) ?_ | refine kh ?_ ?_ | exact ⟨⟩ | fail
   all_goals rfl
  ·rw [show Ct 8 a b = Val.null by rw [Ct, if_neg (by omega), if_neg (by omega), if_neg (fun q => kb q.2), if_neg (fun q => by omega)]]
   refine Ac hT Tryz.func268 Tryz.ntmps268 [.cell 4 73] fun B => ?_
   repeat' first | refine kz ?_ | refine Ao ?_ | refine kh ?_ ?_ | exact ⟨⟩ | fail
   all_goals rfl
 ·rw [show Ct 8 a b = Val.null from if_pos ka]
  refine Ac hT Tryz.func268 Tryz.ntmps268 [.cell 4 73] fun B => ?_
  repeat' first | refine kz ?_ | refine Ao ?_ | refine kh ?_ ?_ | exact ⟨⟩ | fail
  all_goals rfl
theorem Ue (a b : Val) : PC 268 [.one (.lit (.int .i64 9)), .one (A0 [a])] (.v (.agg (Ct 9 a b).d)) := by
 by_cases ka : a.kind = 2
 ·rw [show Ct 9 a b = Val.ofInt a.text.size by rw [Ct, if_neg (by omega), if_pos rfl]]
  refine Ac hT Tryz.func268 Tryz.ntmps268 [.cell 4 73] fun B => ?_
  repeat' first | refine kz ?_ | refine Ao ?_ | refine Aa (Bw _) ?_ | refine kh ?_ ?_ | exact ⟨⟩ | fail
  all_goals rfl
 ·rw [show Ct 9 a b = Val.null from if_pos ka]
  refine Ac hT Tryz.func268 Tryz.ntmps268 [.cell 4 73] fun B => ?_
  repeat' first | refine kz ?_ | refine Ao ?_ | refine kh ?_ ?_ | exact ⟨⟩ | fail
  all_goals rfl
theorem Rx (a b : Val) : PC 268 [.one (.lit (.int .i64 10)), .one (A0 [a, b])] (.v (.agg (Ct 10 a b).d)) := by
 by_cases ka : a.kind = 2
 ·by_cases kb : b.kind = 1 ∧ 0 ≤ b.int
  ·obtain ⟨k1, k2⟩ := kb
   rw [show Ct 10 a b = Val.ofText (a.text.extract 0 (min b.int a.text.size).toNat) by rw [Ct, if_neg (by omega), if_neg (by omega), if_neg (fun q => by omega), if_pos ⟨rfl, k1, k2⟩]]
   have hm : (min b.int a.text.size).toNat ≤ a.text.size := by omega
   rw [show min b.int (a.text.size : Int) = (if (a.text.size : Int) < b.int then (a.text.size : Int) else b.int) by split <;> omega] at hm ⊢
   refine Ac hT Tryz.func268 Tryz.ntmps268 [.cell 4 73] fun B => ?_
   repeat' first | refine kz ?_ | refine Ao ?_ | refine Aa (HA _) ?_ | refine kf ?_ | refine Al rfl rfl (fun hb => ?_) (fun hb => ?_) | exact k0 | refine kg ?_ ?_ | fail
   all_goals rfl
  ·rw [show Ct 10 a b = Val.null by rw [Ct, if_neg (by omega), if_neg (by omega), if_neg (fun q => by omega), if_neg (fun q => kb q.2)]]
   refine Ac hT Tryz.func268 Tryz.ntmps268 [.cell 4 73] fun B => ?_
   repeat' first | refine kz ?_ | refine Ao ?_ | refine kf ?_ | refine Al rfl rfl (fun hb => ?_) (fun hb => ?_) | exact k0 | refine kg ?_ ?_ | fail
   all_goals first | rfl | omega
 ·rw [show Ct 10 a b = Val.null from if_pos ka]
  refine Ac hT Tryz.func268 Tryz.ntmps268 [.cell 4 73] fun B => ?_
  repeat' first | refine kz ?_ | refine Ao ?_ | refine kf ?_ | refine Al rfl rfl (fun hb => ?_) (fun hb => ?_) | exact k0 | refine kg ?_ ?_ | fail
  all_goals rfl
theorem Ry (a b : Val) (ka : a.kind ≠ 0) : PC 268 [.one (.lit (.int .i64 11)), .one (A0 [a, b])] (.v (.agg (Fz 11 a b).d)) := by
 by_cases k : a.kind = b.kind
 ·rw [show Fz 11 a b = BO (a.same b) by rw [Fz, if_neg (by omega), if_pos rfl], ← PX]
  refine Ac hT Tryz.func268 Tryz.ntmps268 [.cell 4 73] fun B => ?_
  repeat' first | refine kz ?_ | refine Ao ?_ | refine Aa (DY _) ?_ | refine kh ?_ ?_ | exact ⟨⟩ | fail
  all_goals rfl
 ·rw [show Fz 11 a b = Val.null from if_pos (.inr k)]
  refine Ac hT Tryz.func268 Tryz.ntmps268 [.cell 4 73] fun B => ?_
  repeat' first | refine kz ?_ | refine Ao ?_ | refine kh ?_ ?_ | exact ⟨⟩ | fail
  all_goals rfl
theorem Rz (a b : Val) (ka : a.kind ≠ 0) : PC 268 [.one (.lit (.int .i64 12)), .one (A0 [a, b])] (.v (.agg (Fz 12 a b).d)) := by
 have h1 := IB a b
 by_cases k : a.kind = b.kind
 ·rw [show Fz 12 a b = BO (decide (a.cmp b < 0)) by rw [Fz, if_neg (by omega), if_neg (by omega)]]
  refine Ac hT Tryz.func268 Tryz.ntmps268 [.cell 4 73] fun B => ?_
  repeat' first | refine kz ?_ | refine Ao ?_ | refine Aa (h1) ?_ | refine Aa (DY _) ?_ | refine kh ?_ ?_ | exact ⟨⟩ | fail
  all_goals rfl
 ·rw [show Fz 12 a b = Val.null from if_pos (.inr k)]
  refine Ac hT Tryz.func268 Tryz.ntmps268 [.cell 4 73] fun B => ?_
  repeat' first | refine kz ?_ | refine Ao ?_ | refine kh ?_ ?_ | exact ⟨⟩ | fail
  all_goals rfl
theorem F1 {v : Val} (h : v.valid = true) : v.same Val.null = decide (v.kind = 0) := by
 rw [Q2, G5, decide_eq_true_eq]
 constructor
 ·intro e; rw [e]; rfl
 ·intro e
  rcases BT h with q | q | q
  ·exact q.2
  ·omega
  ·omega
theorem BE (op : Int) (kS : 3 ≤ op ∧ op ≤ 13) (vs : List Val) (R : Val) (hs : (∀ v ∈ vs, v.kind ≠ 0) → PC 268 [.one (.lit (.int .i64 op)), .one (A0 vs)] (.v (.agg R.d)))
  (hn : (∃ v ∈ vs, v.kind = 0) → R = Val.null) (hv : ∀ v ∈ vs, v.valid = true) : PC 250 [.one (.lit (.int .i64 op)), .one (A0 vs)] (.v (.agg R.d)) := by
 refine Ac hT Tryz.func250 Tryz.ntmps250 [.cell 4 73] fun B => ?_
 refine GM 1 rfl fun mI => ?_
 simp only [BR, maxLen] at mI
 repeat' first | refine kz ?_ | refine Ao ?_ | refine kh ?_ ?_ | exact ⟨⟩ | fail
 refine AK (X := Nat) ([6] ++ List.range' 56 13) (fun x => x ≤ vs.length ∧ ∀ (i : Nat) v, i < x → vs[i]? = some v → v.kind ≠ 0) (fun x lz => (6, (iC x)) :: lz) (fun x => [.box 1 (Val.null.d.map .d), .box 2 (Val.null.d.map .d)]) (fun x => vs.length - x) (0) ?_ ?_ ?_ ?_
 repeat' first | exact k0 | refine kw ?_ | omega
 ·exact ⟨by simp, fun i v h => absurd h (Nat.not_lt_zero _)⟩
 rintro i c ⟨hi, hinv⟩
 by_cases i7 : i < vs.length
 ·obtain ⟨v, hx⟩ := gx i7
  have vv := hv v (Cb hx)
  have jc := F1 vv
  rw [← PX] at jc
  by_cases k : v.kind = 0
  · rw [hn ⟨v, Cb hx, k⟩]
    rw [decide_eq_true k] at jc
    clear hs hn hinv
    repeat' first | refine kz ?_ | refine AF hx ?_ | refine Ao ?_ | refine kh ?_ ?_ | exact ⟨⟩ | fail
    all_goals first | rfl | (exfalso; simp_all; done)
  · rw [decide_eq_false k] at jc
    have jG : ∀ (j : Nat) u, j < i + 1 → vs[j]? = some u → u.kind ≠ 0 := fun j u hj hu => by
     by_cases e : j = i
     ·subst e; rw [hx] at hu; cases hu; exact k
     ·exact hinv j u (by omega) hu
    clear hs hn hinv
    repeat' first | refine kz ?_ | refine AF hx ?_ | refine Ao ?_ | refine kh ?_ ?_ | exact ⟨⟩ | fail
    all_goals first | (exfalso; simp_all; done) | skip
    apply Af (i + 1) <;> (try dsimp only) <;> try repeat' first | exact k0 | refine kw ?_ | omega
    all_goals exact ⟨by omega, jG⟩
 ·have h1 := hs fun v jE => by
    obtain ⟨j, hj, rfl⟩ := aW.1 jE
    exact hinv j _ (by omega) (Bo hj)
  clear hs hn hinv
  repeat' first | refine kz ?_ | refine Ao ?_ | refine Aa (h1) ?_ | refine kh ?_ ?_ | exact ⟨⟩ | fail
  all_goals rfl
theorem Pa (L : List UInt8) (a b : Nat) : (⟨L.toArray⟩ : ByteArray).extract a b = ⟨((L.drop a).take (b - a)).toArray⟩ := by
 apply ByteArray.ext
 rw [ByteArray.data_extract]
 simp [List.extract_toArray, List.extract_eq_take_drop]
theorem IC {L : List UInt8} (h : L[i]? = some b) : (⟨L.toArray⟩ : ByteArray)[i]? = some b := by
 have i7 := lt_of_getElem? h
 have hs : (⟨L.toArray⟩ : ByteArray).size = L.length := by simp [ByteArray.size]
 rw [getElem?_pos _ i (by rw [hs]; exact i7)]
 rw [Bo i7] at h
 simp only [Option.some.injEq] at h ⊢
 rw [← h]; rfl
section
variable {P : Program} {T : TypeId → Option TI} {F0 : Nat → Prop} {w0 : World}
variable {dr : Bool} {ops rest : List Oper} {K : St → Prop} {n : Nat} {sl : List (Nat × SVal)} {mem : List Blk} {ck : Nat} {df : List (FuncId × List Cell)} {acc : List Nat}
variable {d : Tmp} {op : Op} {ty : TypeId} {pos : String} {iU : Array Edge} {g : Option (Nat × Bool)}
theorem Hh [tc : TC P T] {x y : Operand} {t : TypeId} {i : TI} {k : IntKind} {s : ByteArray} {z : Int} 
  (h : Reg P F0 w0 dr ops K rest ⟨n, (d, .c (.d (.lit (.int .u8 b.toNat)))) :: sl, mem, ck, df⟩ (0 :: acc)) (hw : GW ops g sl := by first | exact trivial | exact rfl) (hx : AH sl x = .c (.d (.lit (.string s))) := by exact rfl) (hy : AH sl y = .c (.d (.lit (.int k z))) := by exact rfl) (ht : T t = some i := by exact rfl) (hi : i.desc = .str := by exact rfl) (hb : 0 ≤ z ∧ s[z.toNat]? = some b) :
  Reg P F0 w0 dr ops K (⟨some d, .index t x y, ty, pos, iU, g⟩ :: rest) ⟨n, sl, mem, ck, df⟩ acc :=
 Xk h hb hw hx hy ht hi
end
theorem gB {n : Int} (h0 : 0 ≤ n) (h1 : n < 4294967296) : Lv .i64 n 8 = n * 256 := by
 unfold Lv
 have : (2 : Int) ^ min (8 : Int).toNat IntKind.i64.bits = 256 := by decide
 rw [this]
 exact BW (by omega) (by omega)
theorem iF {n : Int} (h0 : 0 ≤ n) (h1 : n < 4294967296) : Qs .i64 (n * 256) b.toNat = n * 256 + b.toNat := by
 obtain ⟨m, rfl⟩ := R8 h0
 have hb := b.toNat_lt
 have e1 : (m : Int) * 256 = ((m * 256 : Nat) : Int) := by omega
 unfold Qs
 rw [e1, BitVec.ofInt_natCast, BitVec.ofInt_natCast, BitVec.toNat_or, BitVec.toNat_ofNat, BitVec.toNat_ofNat, show IntKind.i64.bits = 64 from rfl, dH (by omega), dH (by omega)]
 have e2 : m * 256 ||| b.toNat = m * 256 + b.toNat := by
  have := Nat.shiftLeft_add_eq_or_of_lt (i := 8) (b := b.toNat) (by omega) m
  rw [Nat.shiftLeft_eq] at this
  exact this.symm
 rw [e2, BW (by omega) (by omega)]
 omega
def be (l : List UInt8) : Int := l.foldl (fun n b => n * 256 + (b.toNat : Nat)) 0
theorem Yn {l : List UInt8} (h : l[i]? = some b) : be (l.take (i + 1)) = be (l.take i) * 256 + (b.toNat : Nat) := by
 rw [Gm, h, be, List.foldl_append]; rfl
theorem ZR : ∀ (l : List UInt8) (s k : Int), 0 ≤ s → s < k → 0 ≤ l.foldl (fun (n : Int) (b : UInt8) => n * 256 + (b.toNat : Nat)) s ∧ l.foldl (fun (n : Int) (b : UInt8) => n * 256 + (b.toNat : Nat)) s < k * 256 ^ l.length
 | [], s, k, h1, h2 => by simpa using ⟨h1, h2⟩
 | b :: l, s, k, h1, h2 => by
   have hb := b.toNat_lt
   have := ZR l (s * 256 + (b.toNat : Nat)) (k * 256) (by omega) (by omega)
   rw [XU, List.length_cons, Int.pow_succ]
   rw [Int.mul_assoc, Int.mul_comm 256] at this
   exact this
theorem VX (z : Int) : ((Kb z).toNat : Int) = z % 256 := by
 have h1 := Int.emod_nonneg z (show (256 : Int) ≠ 0 by decide)
 have h2 := Int.emod_lt_of_pos z (show (0 : Int) < 256 by decide)
 unfold Kb
 rw [UInt8.toNat_ofNat']
 have : z.emod 256 = z % 256 := rfl
 omega
theorem bH {n : Int} (h0 : 0 ≤ n) (h1 : n ≤ 8589934592) : be (BI n).tail = n := by
 simp only [BI, List.tail_cons, be, XU, List.foldl_nil, Wn, Wo, Wp, bV, VX]
 omega
theorem Pb (n : Int) (h0 : 0 ≤ n) (h1 : n ≤ 8589934592) (L : List UInt8) : PC 254 [.one (.lit (.string ⟨(BI n ++ L).toArray⟩))] (.tup [.agg (Val.d ⟨1, n - 4294967296, ⟨#[]⟩⟩), .one (.lit (.int .i64 6))]) := by
 have j3 : (⟨(BI n ++ L).toArray⟩ : ByteArray).size = 6 + L.length := by simp [ByteArray.size, BI]; omega
 have hex : ((⟨(BI n ++ L).toArray⟩ : ByteArray).extract 1 6).data.toList = (BI n).tail := by
  rw [Pa]; simp [BI]
 have jQ : (Val.mk 1 (n - 4294967296) ⟨#[]⟩).valid = true := by
  unfold Val.valid
  simp
  omega
 have l6 := Ks ⟨1, n - 4294967296, ⟨#[]⟩⟩
 rw [jQ] at l6
 have tp := bH h0 h1
 have hl : (BI n).tail.length = 5 := rfl
 generalize (⟨(BI n ++ L).toArray⟩ : ByteArray) = s at j3 hex
 generalize (BI n).tail = bs at hex tp hl
 refine Ac hT Tryz.func254 Tryz.ntmps254 [.cell 2 73, .tmp 3] fun B => ?_
 have sQ : ((s.extract 1 6).size : Int) ≤ 9223372036854775807 := by
  have : (s.extract 1 6).size = (s.extract 1 6).data.toList.length := rfl
  rw [this, hex, hl]; omega
 repeat' first | refine kz ?_ | refine Ao ?_ | refine KR ?_ (hb := sQ) | refine kg ?_ ?_ | refine kf ?_ | exact k0 | fail
 change ARun _ _ _ ⟨_, (_, _) :: (_, _) :: (_, .c (.d (VT (s.extract 1 6).data.toList))) :: _, _, _, _⟩ _
 rw [hex]
 refine AK (X := Nat) ([4, 6] ++ List.range' 16 10) (fun x => x ≤ bs.length) (fun x lz => (4, (iC (be (bs.take x)))) :: (16, (iC x)) :: lz) (fun x => [.box 1 [.d (.lit (.int .i64 0)), .d (.lit (.int .i64 0)), .d (.lit (.string ⟨#[]⟩))]]) (fun x => bs.length - x) (0) ?_ ?_ ?_ ?_
 repeat' first | exact k0 | refine kw ?_ | refine kv ?_ ?_ | omega
 rintro i c hi
 by_cases i7 : i < bs.length
 ·obtain ⟨b, hv⟩ := gx i7
  have yJ := b.toNat_lt
  have qg : 0 ≤ be (bs.take i) ∧ be (bs.take i) < 4294967296 := by
   have := ZR (bs.take i) 0 1 (by omega) (by omega)
   refine ⟨this.1, Int.lt_of_lt_of_le this.2 ?_⟩
   have xb : (bs.take i).length ≤ 4 := by simp; omega
   generalize (bs.take i).length = m at xb
   match m, xb with
   | 0, _ => decide
   | 1, _ => decide
   | 2, _ => decide
   | 3, _ => decide
   | 4, _ => decide
  have jc := Yn hv
  repeat' first | refine kz ?_ | refine AF hv ?_ | refine Ao ?_ | refine kg ?_ ?_ | refine kf ?_ | exact k0 | fail
  apply Af (i + 1) <;> (try dsimp only) <;> try repeat' first | exact k0 | refine kw ?_ | refine kv ?_ ?_ | omega
  rw [jc, gB qg.1 qg.2, iF qg.1 qg.2]
 ·rw [Ah (show bs.length ≤ i by omega), tp]
  repeat' first | refine kz ?_ | refine Ao ?_ | refine Aa (l6) ?_ | refine kg ?_ ?_ | refine kf ?_ | exact k0 | fail
  all_goals rfl
theorem Jc (t : List UInt8) (j : Nat) : CV t = CV (t.take j) ++ CV (t.drop j) := by
 unfold CV
 rw [← gk, aT]
theorem bI {t : List UInt8} {j : Nat} (_ : j ≤ t.length) (L : List UInt8) (k : Nat) : (3 :: (CV t ++ L))[1 + (CV (t.take j)).length + k]? = (CV (t.drop j) ++ L)[k]? := by
 have e := Jc t j
 rw [show 1 + (CV (t.take j)).length + k = ((CV (t.take j)).length + k) + 1 by omega, List.getElem?_cons_succ, e, Hc, Oy (by omega), Nat.add_sub_cancel_left]
theorem KX (b : UInt8) (t : List UInt8) : CV (b :: t) = EM b ++ CV t := by simp [CV]
theorem NL (t : List UInt8) (ht : t.length ≤ 32) (L : List UInt8) (hL : L.length ≤ 1000000000) : PC 255 [.one (.lit (.string ⟨(3 :: (CV t ++ 0 :: 0 :: L)).toArray⟩))] (.tup [.agg (Val.d ⟨2, 0, ⟨t.toArray⟩⟩), .one (.lit (.int .i64 ((CV t).length + 3 : Nat)))]) := by
 have jo := NV t
 have j3 : (⟨(3 :: (CV t ++ 0 :: 0 :: L)).toArray⟩ : ByteArray).size = (CV t).length + 3 + L.length := by simp [ByteArray.size]; omega
 have lI : ∀ j k b, j ≤ t.length → (CV (t.drop j) ++ 0 :: 0 :: L)[k]? = some b → (⟨(3 :: (CV t ++ 0 :: 0 :: L)).toArray⟩ : ByteArray)[1 + (CV (t.take j)).length + k]? = some b := fun j k b hj h => IC (by rw [bI hj]; exact h)
 generalize (⟨(3 :: (CV t ++ 0 :: 0 :: L)).toArray⟩ : ByteArray) = s at j3 lI
 refine Ac hT Tryz.func255 Tryz.ntmps255 [.cell 2 73, .tmp 3] fun B => ?_
 repeat' first | refine kz ?_ | refine kh ?_ ?_ | exact ⟨⟩ | fail
 refine Bv 4 5 1 ?_
 refine AK (X := Nat × Nat) (List.range' 3 49) (fun x => x.1 ≤ t.length) (fun x lz => (4, .c (.arr 1 x.2 (t.take x.1).length)) :: (5, (.c (.d (.lit (.int .i64 ((1 + (CV (t.take x.1)).length : Nat) : Int)))))) :: lz) (fun x => [.box 1 [.d (.lit (.int .i64 0)), .d (.lit (.int .i64 0)), .d (.lit (.string ⟨#[]⟩))], .arr x.2 5 1 ((t.take x.1).map OA)]) (fun x => t.length - x.1) ((0, 2)) ?_ ?_ ?_ ?_
 repeat' first | exact k0 | refine kw ?_ | refine kv ?_ ?_ | omega
 rintro ⟨j, k⟩ c hj
 dsimp only at hj ⊢
 have hle : (CV (t.take j)).length ≤ (CV t).length := by
  have e := Jc t j
  rw [e, CR]; omega
 have qk : (t.take j).length = j := by simp; omega
 by_cases i7 : j < t.length
 ·obtain ⟨b, hv⟩ := gx i7
  have kV := AB hv
  have jc := Pv hv
  have rG := congrArg List.length jc
  have yK : (CV (t.take (j + 1))).length ≤ (CV t).length := by
   have e := Jc t (j + 1)
   rw [e, CR]; omega
  rw [CR] at rG
  have sv := D3 OA hv
  by_cases n9 : b = 0
  ·subst n9
   obtain ⟨z0, lY, jj⟩ : ∃ z : UInt8, z.toNat = 0 ∧ s[1 + (CV (t.take j)).length + 0]? = some z := ⟨0, rfl, lI j 0 0 hj (by rw [kV, KX]; rfl)⟩
   obtain ⟨z1, lj, nI⟩ : ∃ z : UInt8, z.toNat = 255 ∧ s[1 + (CV (t.take j)).length + 1]? = some z := ⟨255, rfl, lI j 1 255 hj (by rw [kV, KX]; rfl)⟩
   have mh : (EM 0).length = 2 := rfl
   repeat' first | refine kz ?_ | refine Hh ?_ (hb := by first | exact GF jj (by omega) | exact GF nI (by omega)) | refine kh ?_ ?_ | exact ⟨⟩ | fail
   apply Af ((j + 1, _)) <;> (try dsimp only) <;> try repeat' first | exact k0 | refine w1 ?_ | refine Ab ?_ | refine m1 ?_ ?_ | omega
   rw [sv]; rfl
  ·have oq : EM b = [b] := by simp [EM, n9]
   have jj := lI j 0 b hj (by rw [kV, KX, oq]; rfl)
   have yJ : b.toNat ≠ 0 := fun h => n9 (UInt8.toNat_inj.1 h)
   rw [oq] at rG
   repeat' first | refine kz ?_ | refine Hh ?_ (hb := by first | exact GF jj (by omega)) | refine kh ?_ ?_ | exact ⟨⟩ | fail
   simp only [List.length_cons, List.length_nil] at rG
   apply Af ((j + 1, _)) <;> (try dsimp only) <;> try repeat' first | exact k0 | refine w1 ?_ | refine Ab ?_ | refine m1 ?_ ?_ | omega
   rw [sv]; rfl
 ·obtain rfl : j = t.length := by omega
  obtain ⟨z0, lY, jj⟩ : ∃ z : UInt8, z.toNat = 0 ∧ s[1 + (CV (t.take t.length)).length + 0]? = some z := ⟨0, rfl, lI t.length 0 0 hj (by rw [aX]; rfl)⟩
  obtain ⟨z1, lj, nI⟩ : ∃ z : UInt8, z.toNat = 0 ∧ s[1 + (CV (t.take t.length)).length + 1]? = some z := ⟨0, rfl, lI t.length 1 0 hj (by rw [aX]; rfl)⟩
  rw [Ah (Nat.le_refl _)] at *
  repeat' first | refine kz ?_ | refine Hh ?_ (hb := by first | exact GF jj (by omega) | exact GF nI (by omega)) | refine kh ?_ ?_ | exact ⟨⟩ | fail
  ·rfl
  ·rfl
  ·rfl
  ·refine congrArg Dat.lit (congrArg (Value.int IntKind.i64) ?_)
   omega
theorem L4 (v : Val) (hv : v.valid = true) (L : List UInt8) (hL : L.length ≤ 1000000000) : PC 240 [.one (.lit (.string ⟨(AT v ++ L).toArray⟩))] (.tup [.agg v.d, .one (.lit (.int .i64 (AT v).length))]) := by
 rcases BT hv with ⟨hk, he⟩ | ⟨hk, h1, h2, he⟩ | ⟨hk, hs, he⟩
 ·have e : AT v = [1] := by rw [AT, if_neg (by omega), if_neg (by omega)]
  obtain ⟨z0, lY, jj⟩ : ∃ z : UInt8, z.toNat = 1 ∧ (⟨(AT v ++ L).toArray⟩ : ByteArray)[0]? = some z := ⟨1, rfl, IC (by rw [e]; rfl)⟩
  rw [he] at jj ⊢
  generalize (⟨(AT Val.null ++ L).toArray⟩ : ByteArray) = s at jj
  have e0 : (AT Val.null).length = 1 := by rw [← he, e]; rfl
  rw [e0]
  refine Ac hT Tryz.func240 Tryz.ntmps240 [.cell 2 73, .tmp 3] fun B => ?_
  repeat' first | refine kz ?_ | refine Hh ?_ (hb := by first | exact GF jj (by omega)) | refine kg ?_ ?_ | refine kf ?_ | exact k0 | fail
  all_goals rfl
 ·have e : AT v = BI (v.int + 4294967296) := by rw [AT, if_pos hk]
  obtain ⟨z0, lY, jj⟩ : ∃ z : UInt8, z.toNat = 2 ∧ (⟨(AT v ++ L).toArray⟩ : ByteArray)[0]? = some z := ⟨2, rfl, IC (by rw [e]; rfl)⟩
  have hc := Pb (v.int + 4294967296) (by omega) (by omega) L
  rw [← e, Int.add_sub_cancel, ← he] at hc
  have e0 : (AT v).length = 6 := by rw [e]; rfl
  rw [e0]
  generalize (⟨(AT v ++ L).toArray⟩ : ByteArray) = s at jj hc
  refine Ac hT Tryz.func240 Tryz.ntmps240 [.cell 2 73, .tmp 3] fun B => ?_
  repeat' first | refine kz ?_ | refine Aa (hc) ?_ | refine Hh ?_ (hb := by first | exact GF jj (by omega)) | refine kg ?_ ?_ | refine kf ?_ | exact k0 | fail
  all_goals rfl
 ·have e : AT v ++ L = 3 :: (CV v.text.data.toList ++ 0 :: 0 :: L) := by rw [AT, if_neg (by omega), if_pos hk]; simp
  have el : (AT v).length = (CV v.text.data.toList).length + 3 := by rw [AT, if_neg (by omega), if_pos hk]; simp
  obtain ⟨z0, lY, jj⟩ : ∃ z : UInt8, z.toNat = 3 ∧ (⟨(AT v ++ L).toArray⟩ : ByteArray)[0]? = some z := ⟨3, rfl, IC (by rw [e]; rfl)⟩
  have hc := NL v.text.data.toList (by simpa using hs) L hL
  rw [← e, ← el, show (⟨v.text.data.toList.toArray⟩ : ByteArray) = v.text from by simp, ← he] at hc
  generalize (⟨(AT v ++ L).toArray⟩ : ByteArray) = s at jj hc
  refine Ac hT Tryz.func240 Tryz.ntmps240 [.cell 2 73, .tmp 3] fun B => ?_
  repeat' first | refine kz ?_ | refine Aa (hc) ?_ | refine Hh ?_ (hb := by first | exact GF jj (by omega)) | refine kg ?_ ?_ | refine kf ?_ | exact k0 | fail
  all_goals rfl
theorem FU : DeferOk Tryz.prog 239 0 := by
 refine ⟨⟨_, Tryz.func239, by kernel_rfl, by kernel_rfl⟩, fun vs w hl => ?_⟩
 match vs, hl with
 | [], _ =>
   refine callsD_of_wpS Tryz.func239 rfl fun c₀ cs hu => ?_
   apply wpS_region
   simp [wpOpsS, go_sem, recoverD, hu, Tryz.ntmps239, Exit.thenS]
   cases c₀
   simp_all [bodyPostS, results, Tryz.results239]
theorem Pc {r : List Val} {v : Val} (h : r[i]? = some v) : Ar (r.drop i) = AT v.clean ++ Ar (r.drop (i + 1)) := by
 rw [AB h]; rfl
theorem GH (r : List Val) (hr : AR r = true) : PC 200 [.one (.lit (.string ⟨(Ar r).toArray⟩))] (.tup [.one (A0 r), .one (.lit (.int .i64 0))]) := by
 simp only [AR, BM, decide_eq_true_eq, Eg] at hr
 obtain ⟨hlen, j9⟩ := hr
 refine Ac hT Tryz.func200 Tryz.ntmps200 [.tmp 2, .tmp 3] fun B => ?_
 repeat' first | refine kz ?_ | refine kf ?_ | refine Aw (by repeat (first | exact Ad | refine Aq FU ?_)) ?_ ?_ | refine kg ?_ ?_ | fail
 refine Bv 4 73 3 ?_
 refine AK (X := Nat × Nat) ([0] ++ List.range' 2 27) (fun x => x.1 ≤ r.length) (fun x lz => (0, .c (.d (.lit (.string ⟨(Ar (r.drop x.1)).toArray⟩)))) :: (4, .c (.arr 0 x.2 (r.take x.1).length)) :: lz) (fun x => [.arr x.2 73 3 ((r.take x.1).map Val.d)]) (fun x => r.length - x.1) ((0, 1)) ?_ ?_ ?_ ?_
 repeat' first | exact k0 | refine kw ?_ | refine kv ?_ ?_ | omega
 rintro ⟨i, k⟩ c hi
 dsimp only at hi ⊢
 have qk : (r.take i).length = i := by simp; omega
 have j3 : (⟨(Ar (r.drop i)).toArray⟩ : ByteArray).size = (Ar (r.drop i)).length := by simp [ByteArray.size]
 have jo := H5 (r.drop i)
 have lR : (r.drop i).length ≤ 16 := by simp; omega
 by_cases i7 : i < r.length
 ·have hv : r[i]? = some r[i] := Bo i7
  have qG := j9 _ (Fo i7)
  generalize r[i] = v at hv qG
  have hd := Pc hv
  have jz : v.clean = v := by rw [Val.clean, if_pos qG]
  rw [jz] at hd
  have j2 : 1 ≤ (AT v).length := by
   have := Hl v
   cases hq : AT v with
   | nil => exact absurd hq this
   | cons x y => simp
  have yL := K3 v qG
  have xc : (Ar (r.drop i)).length = (AT v).length + (Ar (r.drop (i + 1))).length := by rw [hd, CR]
  have hc := L4 v qG (Ar (r.drop (i + 1))) (by omega)
  rw [← hd] at hc
  have sv := D3 Val.d hv
  repeat' first | refine kz ?_ | refine Aa (hc) ?_ | refine kf ?_ | refine Aw (by repeat (first | exact Ad | refine Aq FU ?_)) ?_ ?_ | refine kg ?_ ?_ | fail
  apply Af ((i + 1, _)) <;> (try dsimp only) <;> try repeat' first | exact k0 | refine w1 ?_ | refine w3 ?_ ?_ | refine Ab ?_ | refine m1 ?_ ?_ | omega
  ·refine congrArg Dat.lit (congrArg Value.string ?_)
   rw [Pa, hd]
   congr 2
   simp [ByteArray.size]
   exact Ah (by omega)
  ·rw [sv]; rfl
 ·obtain rfl : i = r.length := by omega
  have jP : Ar (r.drop r.length) = [] := by rw [aX]; rfl
  have sV : (⟨([] : List UInt8).toArray⟩ : ByteArray).size = 0 := rfl
  rw [jP]
  repeat' first | refine kz ?_ | refine kf ?_ | refine Aw (by repeat (first | exact Ad | refine Aq FU ?_)) ?_ ?_ | refine kg ?_ ?_ | fail
  ·simp
  ·rw [Ah (Nat.le_refl r.length), Ah (by simp)]; rfl
  ·rfl
end Go.Proofs.YtmpgmjlanngkfaaGreat
end
