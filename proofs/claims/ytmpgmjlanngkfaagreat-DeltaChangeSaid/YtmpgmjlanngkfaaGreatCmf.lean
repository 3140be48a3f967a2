/-
  slices.CompactFunc of rows.
-/
import Derived.Test.YtmpgmjlanngkfaaGreatAgh
import Derived.Test.YtmpgmjlanngkfaaGreatArc
import Derived.Test.YtmpgmjlanngkfaaGreatDex
import Derived.Test.YtmpgmjlanngkfaaGreatTap
import Derived.Test.YtmpgmjlanngkfaaGreatArx
section
namespace Go.Proofs.YtmpgmjlanngkfaaGreat
open Go.Abs Go.RowKit
set_option linter.unusedSimpArgs false
set_option maxRecDepth 100000
variable {l : List Entry}
theorem Ms (h : l.all Bb = true) : ∀ e ∈ l, AE e.row := fun e he => by
 have := Eg.1 h e he
 simp only [Bb, BM] at this
 exact Bu this.1
theorem Hg (l : List Entry) : ∀ e, e ∈ sortE l → ∃ x ∈ l, x.row = e.row := by
 induction l using sortE.induct with
 | case1 l h => intro e he; rw [sortE, dif_pos h] at he; exact ⟨e, (L1.1 he).1, rfl⟩
 | case2 l h mi lU =>
   intro e he
   rw [sortE, dif_neg h] at he
   obtain ⟨x, hx, hr⟩ := DK _ _ e he
   rcases hx with hx | hx
   ·obtain ⟨y, hy, hq⟩ := mi x hx
    exact ⟨y, I0 hy, hq.trans hr⟩
   ·obtain ⟨y, hy, hq⟩ := lU x hx
    exact ⟨y, Tn hy, hq.trans hr⟩
theorem Kl : ∀ {l : List Entry} {p : Option Entry}, (∀ e ∈ l, e.ok = true) → l.Pairwise eR → (∀ q, p = some q → ∀ e ∈ l, eR q e) → goodFrom p l = true
 | [], _, _, _, _ => rfl
 | x :: l, p, h, hs, hp => by
   obtain ⟨h1, h2⟩ := LW.1 hs
   have ih := Kl (p := some x) (fun e he => h e (by simp [he])) h2 (fun q hq => by cases hq; exact h1)
   simp only [goodFrom, BM]
   refine ⟨⟨h x (by simp), ?_⟩, ih⟩
   cases p with
   | none => rfl
   | some q => exact decide_eq_true (hp q rfl x (by simp))
theorem Fw (h : (Bh l).2 = 0) : (Bh l).1 = sortE l ∧ Sorted (sortE l) ∧ Am (sortE l) = true ∧ ∀ r, Bn (sortE l) r = Bn l r := by
 unfold Bh at *
 split at h
 ·rename_i j9
  rw [if_pos j9]
  obtain ⟨p1, p2⟩ := B5 l (Ms j9)
  refine ⟨Od h, p1, ?_, p2⟩
  unfold AU at h
  split at h
  ·cases h
  ·split at h
   ·rename_i hl hc
    simp only [Am, BM, decide_eq_true_eq]
    refine ⟨by omega, Kl (fun e he => ?_) p1.up (by simp)⟩
    have h1 := Eg.1 hc e he
    obtain ⟨x, hx, hr⟩ := Hg l e he
    have h2 := Eg.1 j9 x hx
    simp only [Bb, BM] at h2
    simp only [Entry.ok, BM, decide_eq_true_eq]
    rw [← hr]
    exact ⟨⟨h2.1, h1⟩, p1.nz e he⟩
   ·cases h
 ·cases h
theorem BH (h : Am l = true) : Sorted l := by
 obtain ⟨_, hm⟩ := AP h
 refine ⟨?_, fun e he => (hm e he).2.2, fun e he => Bu (hm e he).1⟩
 simp only [Am, BM] at h
 have key : ∀ {l : List Entry} {p : Option Entry}, goodFrom p l = true → l.Pairwise eR ∧ ∀ q, p = some q → ∀ e ∈ l, eR q e := by
  intro l
  induction l with
  | nil => intro p _; exact ⟨.nil, by simp⟩
  | cons x l ih =>
    intro p hp
    simp only [goodFrom, BM] at hp
    obtain ⟨i1, i2⟩ := ih hp.2
    refine ⟨LW.2 ⟨i2 x rfl, i1⟩, fun q hq e he => ?_⟩
    subst hq
    have x8 : eR q x := by simpa [eR] using hp.1.2
    rcases FL.1 he with rfl | he
    ·exact x8
    ·exact aq _ _ _ x8 (i2 x rfl e he)
 exact (key h.2).1
theorem Rl (h : Am l = true) : Bh l = (l, 0) := by
 have hs := BH h
 obtain ⟨hlen, hm⟩ := AP h
 have j9 : l.all Bb = true := Eg.2 fun e he => by
  obtain ⟨h1, h2, _⟩ := hm e he
  simp only [Bb, AD, BM, decide_eq_true_eq]
  exact ⟨h1, h2.1, h2.2⟩
 obtain ⟨p1, p2⟩ := B5 l (Ms j9)
 have : sortE l = l := p1.unique hs p2
 rw [Bh, if_pos j9, this, AU, if_neg (by omega), if_pos]
 refine Eg.2 fun e he => ?_
 obtain ⟨_, h2, _⟩ := hm e he
 simp only [AD, BM, decide_eq_true_eq]
 exact h2
end Go.Proofs.YtmpgmjlanngkfaaGreat
end
section
namespace Go.Abs
open Go.RowKit
section
variable {P : Program} {T : TypeId → Option TI} {F0 : Nat → Prop} {w0 : World}
variable {dr : Bool} {ops rest : List Oper} {K : St → Prop} {n : Nat} {sl : List (Nat × SVal)} {mem : List Blk} {ck : Nat} {df : List (FuncId × List Cell)} {acc : List Nat}
variable {d : Tmp} {op : Op} {ty : TypeId} {pos : String} {iU : Array Edge} {g : Option (Nat × Bool)}
theorem Fv [tc : TC P T] {t e : TypeId} {x y : Operand} {i ei : TI} {kk : IntKind} {z : Int} {m c' r k b c off j q : Nat} {iX : TypeId} {es : List (List Dat)} (h : Reg P F0 w0 dr ops K rest ⟨n, (d, .c (.ap r k ei.size q 0)) :: sl, mem, ck, df⟩ (1 :: acc)) (hm : mem[r]? = some (.arrc k iX ei.size es b c)) (hz : 0 ≤ z) (nK : z < (m : Int)) (ho : off = j * ei.size) (hq : q = j + z.toNat) (hw : GW ops g sl := by first | exact trivial | exact rfl)
  (hx : AH sl x = .c (.d (.lit (.slice (some ⟨b, off, none⟩) m c'))) := by exact rfl) (hy : AH sl y = .c (.d (.lit (.int kk z))) := by exact rfl) (ht : T t = some i := by exact rfl) (hi : i.desc = .slice e := by exact rfl) (jg : T e = some ei := by exact rfl) :
  Reg P F0 w0 dr ops K (⟨some d, .indexAddr t x y, ty, pos, iU, g⟩ :: rest) ⟨n, sl, mem, ck, df⟩ acc := by
 subst ho; subst hq
 refine Dh hw hm (fun mem ck hm => BF fun E w ρ j0 hρ => ?_) h
 have e1 := hρ x (by simp [Op.operands])
 have e2 := hρ y (by simp [Op.operands])
 rw [hx] at e1; rw [hy] at e2
 have e1 := e1.lit_inv
 have e2 := e2.lit_inv
 obtain ⟨⟨o1, o2, o3, o4, o5, o6⟩, o7, o8⟩ := j0.mem.ok r _ hm
 have hu : P.underlying t = some (.slice e) := by have := (tc.ok t i ht).desc; rw [hi] at this; exact this
 have j3 := (tc.ok e ei jg).sizeOf (w := w)
 refine ⟨.pointer (some ⟨b, j * ei.size + z.toNat * ei.size, none⟩), w, E, ?_, EnvLe.refl _ _, j0, .c (.ap r k ei.size (j + z.toNat) 0 _ rfl (by omega) (fun _ => by rw [o8, Gg]; rfl))⟩
 simp [execOp, e1, e2, Instr.indexAt, asIntOf, run_underlying hu, hz, nK, j3, Addr.add_lit]
theorem Iz [tc : TC P T] {t : TypeId} {x : Operand} {i : TI} {r k i6 j o b c : Nat} {iX : TypeId} {es : List (List Dat)} {e : List Dat} {y : Dat} (h : Reg P F0 w0 dr ops K rest ⟨n, (d, .c (.d y)) :: sl, mem, ck, df⟩ (1 :: acc)) (hm : mem[r]? = some (.arrc k iX i6 es b c)) (kd : es[j]? = some e) (hw : GW ops g sl := by first | exact trivial | exact rfl)
  (hx : AH sl x = .c (.ap r k i6 j o) := by exact rfl) (ht : T t = some i := by exact rfl) (ha : i.desc.agg = false := by exact rfl) (hs : i.size = 1 := by exact rfl) (hy : e[o]? = some y := by exact rfl) :
  Reg P F0 w0 dr ops K (⟨some d, .load t x, ty, pos, iU, g⟩ :: rest) ⟨n, sl, mem, ck, df⟩ acc := by
 refine Dh hw hm (fun mem ck hm => BF fun E w ρ j0 hρ => ?_) h
 have e1 := hρ x (by simp [Op.operands])
 rw [hx] at e1
 have i7 := lt_of_getElem? hy
 have e2 : (e.drop o).take 1 = [y] := by
  rw [aQ i7]
  rw [Bo i7] at hy
  simp at hy
  simp [hy]
 have si : Du T ⟨0, [], mem.set r (.arr k iX i6 es), ck, []⟩ t (.c (.ap r k i6 j o)) fun s => s = .c (.d y) := by
  simp only [Du, ht, ha, hs, BV hm]
  refine ⟨.inr trivial, trivial, trivial, Cg kd ⟨i7, ?_⟩⟩
  rw [e2]; rfl
 obtain ⟨v, s, q1, q2, rfl⟩ := Ns (P := P) tc.ok (σ := ⟨0, [], mem.set r (.arr k iX i6 es), ck, []⟩) (j0.toArr hm) e1 si
 exact ⟨v, w, E, by simp [execOp, q1], EnvLe.refl _ _, j0, q2⟩
end
end Go.Abs
end
section
namespace Go.Proofs.YtmpgmjlanngkfaaGreat
open Go.Abs Go.RowKit
attribute [local irreducible] ARun Av MCall PCall HCall Ap SF CF CFs Ag Ai As fin AY VLe
set_option linter.unusedSimpArgs false
set_option maxRecDepth 100000
set_option maxHeartbeats 4000000
def Ay (l : List Entry) : Bool := Am l && l.all (fun e => decide (0 ≤ e.count))
theorem ET (l : List Entry) : PC 87 [.one (Ak l)] (.v (.one (.lit (.bool (Ay l))))) := by
 have l6 := Ck l
 cases hb : Am l with
 | false =>
   rw [hb] at l6
   have he : Ay l = false := by simp [Ay, hb]
   rw [he]
   refine Ac hT Tryz.func87 Tryz.ntmps87 [.tmp 2] fun B => ?_
   repeat' first | refine kz ?_ | refine Ao ?_ | refine Aa (l6) ?_ | refine kf ?_ | fail
   all_goals rfl
 | true =>
   rw [hb] at l6
   have he : Ay l = l.all (fun e => decide (0 ≤ e.count)) := by simp [Ay, hb]
   obtain ⟨hl, hm⟩ := AP hb
   rw [he]
   refine Ac hT Tryz.func87 Tryz.ntmps87 [.tmp 2] fun B => ?_
   repeat' first | refine kz ?_ | refine Ao ?_ | refine Aa (l6) ?_ | refine kf ?_ | fail
   refine AK (X := Nat) ([2, 4] ++ List.range' 10 8) (fun x => x ≤ l.length ∧ (l.take x).all (fun e => decide (0 ≤ e.count)) = true) (fun x lz => (10, (iC x)) :: lz) (fun x => []) (fun x => l.length - x) (0) ?_ ?_ ?_ ?_
   repeat' first | exact k0 | refine kw ?_ | omega
   ·exact ⟨by simp, by simp⟩
   rintro i c ⟨hi, hinv⟩
   by_cases i7 : i < l.length
   ·obtain ⟨e, hv⟩ := gx i7
    by_cases hr : e.count < 0
    ·rw [Ey (fun e : Entry => decide (0 ≤ e.count)) hv (by simpa using hr)]
     repeat' first | refine kz ?_ | refine AF hv ?_ | refine Ao ?_ | refine kf ?_ | fail
     all_goals rfl
    ·repeat' first | refine kz ?_ | refine AF hv ?_ | refine Ao ?_ | refine kf ?_ | fail
     apply Af (i + 1) <;> (try dsimp only) <;> try repeat' first | exact k0 | refine kw ?_ | omega
     exact ⟨by omega, CX (fun e : Entry => decide (0 ≤ e.count)) hv hinv (by simp; omega)⟩
   ·rw [Ah (by omega)] at hinv
    rw [hinv]
    repeat' first | refine kz ?_ | refine Ao ?_ | refine kf ?_ | fail
    all_goals rfl
theorem CW (l : List Entry) : PC 132 [.one (Ak l)] (.v (.one (.lit (.bool (Ay l))))) := by
 have l6 := Bz l
 refine Ac hT Tryz.func132 Tryz.ntmps132 [.tmp 2] fun B => ?_
 refine GM 0 rfl fun mj => ?_
 simp only [BR, maxLen] at mj
 repeat' first | refine kz ?_ | refine Ao ?_ | refine kf ?_ | fail
 refine AK (X := Nat) (List.range' 2 14) (fun x => x ≤ l.length ∧ (l.take x).all (fun e => decide (0 ≤ e.count)) = true) (fun x lz => (3, (iC x)) :: lz) (fun x => []) (fun x => l.length - x) (0) ?_ ?_ ?_ ?_
 repeat' first | exact k0 | refine kw ?_ | omega
 ·exact ⟨by simp, by simp⟩
 rintro i c ⟨hi, hinv⟩
 by_cases i7 : i < l.length
 ·obtain ⟨e, hv⟩ := gx i7
  by_cases hr : e.count < 0
  ·rw [Ay, Ey (fun e : Entry => decide (0 ≤ e.count)) hv (by simpa using hr), Bool.and_false]
   repeat' first | refine kz ?_ | refine AF hv ?_ | refine Ao ?_ | refine kf ?_ | fail
   all_goals rfl
  ·repeat' first | refine kz ?_ | refine AF hv ?_ | refine Ao ?_ | refine kf ?_ | fail
   apply Af (i + 1) <;> (try dsimp only) <;> try repeat' first | exact k0 | refine kw ?_ | omega
   exact ⟨by omega, CX (fun e : Entry => decide (0 ≤ e.count)) hv hinv (by simp; omega)⟩
 ·rw [Ah (by omega)] at hinv
  rw [Ay, hinv, Bool.and_true]
  repeat' first | refine kz ?_ | refine Ao ?_ | refine Aa (l6) ?_ | refine kf ?_ | fail
  all_goals rfl
def Rn {β : Type} (q : β → β → Bool) (l : List β) : Nat → Bool
 | 0 => false
 | j + 1 => match l[j + 1]?, l[j]? with
   | some x, some y => q x y
   | _, _ => false
theorem KT {β : Type} {q : β → β → Bool} {l : List β} {j : Nat} {x y : β} (hx : l[j + 1]? = some x) (hy : l[j]? = some y) : Rn q l (j + 1) = q x y := by
 show (match l[j + 1]?, l[j]? with
  | some x, some y => q x y
  | _, _ => false) = q x y
 rw [hx, hy]
def CH {β : Type} (q : β → β → Bool) (l : List β) : Nat → List β
 | 0 => []
 | i + 1 => CH q l i ++ (if Rn q l i = true then [] else (l[i]?).toList)
theorem KU {β : Type} {q : β → β → Bool} {l : List β} {i : Nat} {x y : β} (hi : 1 ≤ i) (hx : l[i]? = some x) (hy : l[i - 1]? = some y) (h : q x y = true) : CH q l (i + 1) = CH q l i := by
 obtain ⟨j, rfl⟩ : ∃ j, i = j + 1 := ⟨i - 1, by omega⟩
 rw [Nat.add_sub_cancel] at hy
 have hd : Rn q l (j + 1) = true := (KT hx hy).trans h
 show CH q l (j + 1) ++ _ = _
 rw [if_pos hd, List.append_nil]
theorem KV {β : Type} {q : β → β → Bool} {l : List β} {i : Nat} {x y : β} (hi : 1 ≤ i) (hx : l[i]? = some x) (hy : l[i - 1]? = some y) (h : q x y = false) : CH q l (i + 1) = CH q l i ++ [x] := by
 obtain ⟨j, rfl⟩ : ∃ j, i = j + 1 := ⟨i - 1, by omega⟩
 rw [Nat.add_sub_cancel] at hy
 have hd : Rn q l (j + 1) = false := (KT hx hy).trans h
 show CH q l (j + 1) ++ _ = _
 rw [hd, if_neg (by decide), hx]; rfl
theorem KW {β : Type} (q : β → β → Bool) (l : List β) : CH q l 1 = l.take 1 := by
 show [] ++ (if Rn q l 0 = true then [] else (l[0]?).toList) = _
 rw [if_neg (by simp [Rn]), List.nil_append]
 cases l <;> rfl
theorem VU {β : Type} {q : β → β → Bool} {l : List β} (hq : ∀ x ∈ l, ∀ y ∈ l, q x y = true → x = y) (n : Nat) : n ≤ l.length → ∀ i x, i < n → l[i]? = some x → x ∈ CH q l n := by
 induction n with
 | zero => intro _ i x hi; omega
 | succ n ih =>
   intro hn i x hi hx
   show x ∈ CH q l n ++ _
   by_cases kF : i < n
   ·exact EY.2 (.inl (ih (by omega) i x kF hx))
   ·obtain rfl : i = n := by omega
    by_cases hd : Rn q l i = true
    ·match i, hd, hx with
     | j + 1, hd, hx =>
       have hy : l[j]? = some l[j] := Bo (by omega)
       rw [KT hx hy] at hd
       have h1 := hq x (Cb hx) _ (Cb hy) hd
       have h2 := ih (by omega) j l[j] (by omega) hy
       rw [← h1] at h2
       exact EY.2 (.inl h2)
    ·rw [if_neg hd, hx]
     exact EY.2 (.inr (by simp))
theorem eJ {P : Program} {B : Base} {os : Array Oper} {d : Bool} {σ : St} {Q : Ex → St → Prop} (h : ARun P B (.region 7 os d) σ Q) : ARun P B (.region 7 os d) σ Q := h
theorem TP {β : Type} (enc : β → Dat) (q : β → β → Bool) (g : Nat) (l : List β) (hl : l.length ≤ 1000000) (hg : ∀ x ∈ l, ∀ y ∈ l, PC g [.one (enc x), .one (enc y)] (.v (.one (.lit (.bool (q x y)))))) :
  HC 60 [.c (.arr 0 0 l.length), .c (.d (.lit (.func (.func g) #[] #[])))] [.arr 0 54 1 (l.map fun x => [enc x])] (.c (.arr 0 0 (CH q l l.length).length)) [.arr 0 54 1 ((CH q l l.length).map fun x => [enc x])] := by
 by_cases h2 : l.length < 2
 ·have hc : CH q l l.length = l := by
   match l, h2 with
   | [], _ => rfl
   | [x], _ => exact KW q [x]
  rw [hc]
  refine Au hT Tryz.func60 Tryz.ntmps60 [.tmp 4] fun B => ?_
  repeat' first | refine kz ?_ | refine kg ?_ ?_ | exact k0 | refine Ab ?_ | refine DE ?_
  all_goals rfl
 have hL : (l.map fun x => [enc x]).length = l.length := BR _
 have jI : ∀ i x, l[i]? = some x → (l.map fun x => [enc x])[i]? = some [enc x] := fun i x h => by rw [BU, h]; rfl
 refine Au hT Tryz.func60 Tryz.ntmps60 [.tmp 4] fun B => ?_
 repeat' first | refine kz ?_ | refine kg ?_ ?_ | exact k0 | refine Ab ?_ | refine DE ?_
 refine AK (X := Nat) (List.range' 4 4 ++ List.range' 12 53) (fun x => 1 ≤ x ∧ x ≤ l.length ∧ CH q l x = l.take x) (fun x lz => (5, (iC x)) :: lz) (fun x => [.arr 0 54 1 (l.map fun x => [enc x])]) (fun x => l.length - x) (1) ?_ ?_ ?_ ?_
 repeat' first | exact k0 | refine kw ?_ | omega
 all_goals try (first | rfl | exact ⟨Nat.le_refl _, by omega, KW q l⟩)
 rintro k c ⟨mZ, nZ, hinv⟩
 try dsimp only at mZ nZ hinv ⊢
 by_cases i7 : k < l.length
 ·have hv : l[k]? = some l[k] := Bo i7
  have hu : l[k - 1]? = some l[k - 1] := Bo (by omega)
  have ox := hg _ (Fo i7) _ (Fo (show k - 1 < l.length by omega))
  generalize l[k] = x at hv ox
  generalize l[k - 1] = y at hu ox
  have jN := jI _ _ hv
  have x9 : (l.map fun x => [enc x])[((k : Int) - 1).toNat]? = some [enc y] := by rw [show ((k : Int) - 1).toNat = k - 1 by omega]; exact jI _ _ hu
  cases hq : q x y
  ·rw [hq] at ox
   have mY := KV mZ hv hu hq
   rw [hinv, show l.take k ++ [x] = l.take (k + 1) by rw [Gm, hv]; rfl] at mY
   clear hg jI
   repeat' first | refine kz ?_ | refine AF jN ?_ | refine AF x9 ?_ | refine Ao ?_ | refine Aa (ox) ?_ | refine kg ?_ ?_ | exact k0 | refine Ab ?_ | refine DE ?_
   apply Af (k + 1) <;> (try dsimp only) <;> try repeat' first | exact k0 | refine kw ?_ | omega
   all_goals exact ⟨by omega, by omega, mY⟩
  ·rw [hq] at ox
   have mY := KU mZ hv hu hq
   rw [hinv] at mY
   repeat' first | ((with_reducible (refine eJ ?_)); refine ZQ 0 rfl rfl (fun h _ => absurd h ?_) (fun b c' lh me mo => ?_)) | (refine GC (ei := HG) (off := 0) (c := c') (a := (k : Int)) (b := (l.length : Int)) (nH := k * 1) (m' := l.length - k) (c' := c' - k) ?_ (by omega) (by omega) (by omega) (by rw [if_neg (by omega)]; simp [HG]) (by omega) (by omega)) | refine kz ?_ | refine AF jN ?_ | refine AF x9 ?_ | refine Ao ?_ | refine Aa (ox) ?_ | refine AO Ad ?_ ?_ | exact k0 | refine Ab ?_ | refine DE ?_
   · intro h
     have := congrArg List.length h
     simp at this
     omega
   rw [hL] at me
   refine AK (X := Nat × Nat × List (List Dat)) ([5, 7] ++ List.range' 32 27) (fun x => 1 ≤ x.1 ∧ k + x.1 ≤ l.length ∧ x.2.1 = (CH q l (k + x.1)).length ∧ x.2.1 + 1 ≤ k + x.1 ∧ x.2.2.length = l.length ∧ (∀ e ∈ x.2.2, e.length = 1) ∧ x.2.2.take x.2.1 = (CH q l (k + x.1)).map (fun x => [enc x]) ∧ x.2.2.drop (k + x.1 - 1) = (l.map fun x => [enc x]).drop (k + x.1 - 1)) (fun x lz => (7, (iC x.1)) :: (5, (iC x.2.1)) :: lz) (fun x => [.arrc 0 54 1 x.2.2 b c']) (fun x => l.length - x.1) ((1, k, l.map fun x => [enc x])) ?_ ?_ ?_ ?_
   repeat' first | exact k0 | refine kw ?_ | omega
   · refine ⟨Nat.le_refl _, by dsimp only; omega, ?_, by dsimp only; omega, hL, fun e he => by obtain ⟨u, _, rfl⟩ := List.mem_map.1 he; rfl, ?_, rfl⟩
     ·dsimp only; rw [mY]; simp; omega
     ·dsimp only; rw [mY, List.map_take]
   rintro ⟨j, m, es⟩ c2 ⟨ot, ky, hm, yI, jo, oq, ju, kV⟩
   dsimp only at ot ky hm yI jo oq ju kV ⊢
   by_cases xa : k + j < l.length
   · have hv : l[k + j]? = some l[k + j] := Bo xa
     have hu : l[k + j - 1]? = some l[k + j - 1] := Bo (by omega)
     have ox := hg _ (Fo xa) _ (Fo (show k + j - 1 < l.length by omega))
     generalize l[k + j] = x2 at hv ox
     generalize l[k + j - 1] = y2 at hu ox
     have e1 : es[k + j]? = some [enc x2] := by
      have h := congrArg (·[1]?) kV
      simp only [ZA] at h
      rw [show k + j - 1 + 1 = k + j by omega] at h
      rw [h]; exact jI _ _ hv
     have e2 : es[k + j - 1]? = some [enc y2] := by
      have h := congrArg (·[0]?) kV
      simp only [ZA, Nat.add_zero] at h
      rw [h]; exact jI _ _ hu
     cases kU : q x2 y2
     ·rw [kU] at ox
      have kK := KV (by omega) hv hu kU
      have e3 : es[m]? = some es[m] := Bo (by omega)
      have mP := oq _ (Fo (show m < es.length by omega))
      generalize es[m] = old at e3 mP
      obtain ⟨ov, rfl⟩ : ∃ ov, old = [ov] := by
       match old, mP with
       | [ov], _ => exact ⟨ov, rfl⟩
      have lu : ∀ e ∈ es.set m [enc x2], e.length = 1 := fun e he => by
       rcases aP he with h | rfl
       · exact oq e h
       · rfl
      have jy : (es.set m [enc x2]).length = l.length := by rw [JG]; exact jo
      have kp : (es.set m [enc x2]).take (m + 1) = (CH q l (k + (j + 1))).map fun x => [enc x] := by
       rw [show k + (j + 1) = k + j + 1 by omega, kK, Ag', ← ju, Gm, J5 (by omega), List.take_set_of_le (Nat.le_refl _)]
       rfl
      have oM : (es.set m [enc x2]).drop (k + (j + 1) - 1) = (l.map fun x => [enc x]).drop (k + (j + 1) - 1) := by
       rw [List.drop_set_of_lt (by omega)]
       have h := congrArg (List.drop 1) kV
       rw [Tr, Tr, show k + j - 1 + 1 = k + (j + 1) - 1 by omega] at h
       exact h
      clear hg jI kV ju
      repeat' first | refine NI ?_ | refine Fv (ei := HG) (r := 0) (j := k) (q := k + j) (z := (j : Int)) (m := l.length - k) (off := k * 1) (es := es) ?_ rfl (by omega) (by omega) rfl (by omega) | refine Fv (ei := HG) (r := 0) (j := k) (q := k + j - 1) (z := (j : Int) - 1) (m := l.length - k) (off := k * 1) (es := es) ?_ rfl (by omega) (by omega) rfl (by omega) | refine Fv (ei := HG) (r := 0) (j := 0) (q := m) (z := (m : Int)) (m := l.length) (off := 0) (es := es) ?_ rfl (by omega) (by omega) rfl (by omega) | refine Iz (r := 0) ?_ rfl e1 | refine Iz (r := 0) ?_ rfl e2 | refine Pd (r := 0) (j := m) (e' := [enc x2]) (f' := _ :: _) ?_ (by exact rfl) e3 (j6 := rfl) (iZ := rfl) | refine kz ?_ | refine Aa (ox) ?_ | refine AO Ad ?_ ?_ | exact k0 | refine Ab ?_ | refine DE ?_
      apply Af ((j + 1, m + 1, es.set m [enc x2])) <;> (try dsimp only) <;> try repeat' first | exact k0 | refine kw ?_ | omega
      all_goals first
       | exact ⟨by omega, by omega, by rw [show k + (j + 1) = k + j + 1 by omega, kK]; simp; omega, by omega, jy, lu, kp, oM⟩
       | skip
     ·rw [kU] at ox
      have kK := KU (by omega) hv hu kU
      have oM : es.drop (k + (j + 1) - 1) = (l.map fun x => [enc x]).drop (k + (j + 1) - 1) := by
       have h := congrArg (List.drop 1) kV
       rw [Tr, Tr, show k + j - 1 + 1 = k + (j + 1) - 1 by omega] at h
       exact h
      rw [← kK, ZG] at hm ju
      clear hg jI kV
      repeat' first | refine NI ?_ | refine Fv (ei := HG) (r := 0) (j := k) (q := k + j) (z := (j : Int)) (m := l.length - k) (off := k * 1) (es := es) ?_ rfl (by omega) (by omega) rfl (by omega) | refine Fv (ei := HG) (r := 0) (j := k) (q := k + j - 1) (z := (j : Int) - 1) (m := l.length - k) (off := k * 1) (es := es) ?_ rfl (by omega) (by omega) rfl (by omega) | refine Fv (ei := HG) (r := 0) (j := 0) (q := m) (z := (m : Int)) (m := l.length) (off := 0) (es := es) ?_ rfl (by omega) (by omega) rfl (by omega) | refine Iz (r := 0) ?_ rfl e1 | refine Iz (r := 0) ?_ rfl e2 | refine kz ?_ | refine Aa (ox) ?_ | refine AO Ad ?_ ?_ | exact k0 | refine Ab ?_ | refine DE ?_
      apply Af ((j + 1, m, es)) <;> (try dsimp only) <;> try repeat' first | exact k0 | refine kw ?_ | omega
      all_goals first
       | exact ⟨by omega, by omega, hm, by omega, jo, oq, ju, oM⟩
       | skip
   · have ui : k + j = l.length := by omega
     rw [ui] at hm ju
     clear hg jI kV
     repeat' first | refine NI ?_ | (refine GC (ei := HG) (off := 0) (c := c') (a := (m : Int)) (b := (l.length : Int)) (nH := m * 1) (m' := l.length - m) (c' := c' - m) ?_ (by omega) (by omega) (by omega) (by rw [if_neg (by omega)]; simp [HG]) (by omega) (by omega)) | refine OY (ei := HG) (f' := [.arrc 0 54 1 ((CH q l l.length).map fun x => [enc x]) b c']) (r := 0) (o := m) (m := l.length - m) (c := c') (off := m * 1) (es := es) (ji := (CH q l l.length).map fun x => [enc x]) ?_ rfl lh (by omega) (by omega) (.inr (by simp only [HG])) ju | (refine GC (ei := HG) (off := 0) (c := c') (a := 0) (b := (m : Int)) (nH := 0) (m' := m) (c' := c') ?_ (by omega) (by omega) (by omega) (by rw [if_neg (by omega)]; simp [HG]) (by omega) (by omega)) | ((with_reducible (refine NJ ?_)); refine Sp (r := 0) 4 ?_ rfl lh) | refine kz ?_ | refine AO Ad ?_ ?_ | exact k0 | refine Ab ?_ | refine DE ?_
     all_goals exact hm
 ·obtain rfl : k = l.length := by omega
  rw [Ir] at hinv
  rw [hinv]
  clear hg jI
  repeat' first | refine kz ?_ | refine kg ?_ ?_ | exact k0 | refine Ab ?_ | refine DE ?_
  all_goals rfl
end Go.Proofs.YtmpgmjlanngkfaaGreat
end
