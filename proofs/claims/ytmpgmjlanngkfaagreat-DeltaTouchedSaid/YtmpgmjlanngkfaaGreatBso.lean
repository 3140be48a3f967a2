/-
  A literal of a slice as an array of the function's own (to which it appends).
-/
import Derived.Test.YtmpgmjlanngkfaaGreatTab
import Derived.Test.YtmpgmjlanngkfaaGreatDex
import Derived.Test.YtmpgmjlanngkfaaGreatOrd
import Derived.Test.YtmpgmjlanngkfaaGreatBag
import Derived.Test.YtmpgmjlanngkfaaGreatSum
import Derived.Test.YtmpgmjlanngkfaaGreatOpa
import Derived.Test.YtmpgmjlanngkfaaGreatByt
section
namespace Go.Abs
open Go.RowKit
variable {cs : List Cell} {es : List (List Dat)} {esz k m r : Nat} {ety t : TypeId} {i : TI} {m1 : List Blk}
variable {P : Program} {T : TypeId → Option TI} {F0 : Nat → Prop} {w0 : World}
variable {dr : Bool} {ops rest : List Oper} {K : St → Prop} {n : Nat} {sl : List (Nat × SVal)} {mem : List Blk} {ck : Nat} {df : List (FuncId × List Cell)} {acc : List Nat}
variable {d : Tmp} {op : Op} {ty : TypeId} {pos : String} {aft : Array Edge} {g : Option (Nat × Bool)}
theorem Qs [tc : TC P T] (r : Nat) {e : TypeId} {l c : Operand} {ei : TI} {k k' : IntKind} {z : Int} {kk : Nat} {zd : List Dat} {mem' : List Blk}
  (h : Reg P F0 w0 dr ops K rest ⟨n, (d, .c (.arr r kk m)) :: sl, mem', ck, df⟩ (B3 r false :: acc)) (h0 : 0 ≤ z) (hm : z.toNat = m) (hmx : z ≤ 9223372036854775807) (hby : (ei.bytes : Int) * z ≤ 140737488355328) (hzd : DF (ei.zero.map BP) = some zd) (hh : mem[r]? = some (.hole kk)) (hle : kk ≤ ck) (hw : GW ops g sl := by first | exact trivial | exact rfl)
  (hl : AO sl l = .c (.d (.lit (.int k z))) := by exact rfl) (hc : AO sl c = .c (.d (.lit (.int k' z))) := by exact rfl) (ht : T t = some i := by exact rfl) (hi : i.desc = .slice e := by exact rfl) (hei : T e = some ei := by exact rfl) (hk : (Nat.blt 0 ei.size && Nat.beq ei.zero.length ei.size) = true := by exact rfl) (hm' : mem.set r (.arr kk e ei.size (List.replicate m zd)) = mem' := by exact rfl) :
  Reg P F0 w0 dr ops K (⟨some d, .makeSlice t l c, ty, pos, aft, g⟩ :: rest) ⟨n, sl, mem, ck, df⟩ acc := by
 subst hm; subst hm'
 refine ZN hw hh hle (fun M ck hM hcc => B6 fun E w ρ hw' hρ => ?_) h
 have e1 := hρ l (by simp [Op.operands])
 have e2 := hρ c (by simp [Op.operands])
 rw [hl] at e1; rw [hc] at e2
 have e1 := e1.lit_inv
 have e2 := e2.lit_inv
 simp only [BO, PS, KM, Nat.blt, QI] at hk
 have hu : P.underlying t = some (.slice e) := by have := (tc.ok t i ht).desc; rw [hi] at this; exact this
 obtain ⟨fi, zv, hi1, hi2, hi3, hi4, hi5⟩ := (tc.ok e ei hei).info
 have hr := run_make (P := P) w t e fi zv hu hi1 hi4 k k' z z h0 (Int.le_refl _) (by rw [hi3]; omega) hmx
 rw [hi2] at hr
 have hzlen := Dh hzd
 have hzs : zv.cells.size = ei.size := by rw [hi5]; simpa using hk.2
 have hn := hw'.holeArr (w' := w.alloc (.cells (madeCells zv.cells (z.toNat * ei.size)) e)) hM hcc e ei.size z.toNat (List.replicate z.toNat zd) hk.1 (fun e' he' => by rw [ZW he', hzlen]; simpa using hk.2) (by simp) (by simp [maxLen]; omega)
  ((Bel.refl _ w).alloc hw'.le0 _) (fun i hi => Bel.heap_alloc w _ i hi) (.inr ⟨_, RV w _, by simp [size_madeCells], fun v hv => (tc.ok e ei hei).ones v (by have := EO (by omega) hv; rw [hi5] at this; simpa using this), fun i j e' v x q1 q2 q3 => by
    have hi := lt_of_getElem? q1
    simp only [Jh] at hi
    rw [Yf, if_pos hi] at q1
    simp only [Option.some.injEq] at q1
    subst q1
    have hj := lt_of_getElem? q2
    rw [hzlen] at hj
    simp only [BT, hk.2] at hj
    have hlt : i * ei.size + j < z.toNat * ei.size := by
     have : (i + 1) * ei.size ≤ z.toNat * ei.size := FO _ (by omega)
     rw [Ff, HQ] at this
     omega
    have hmod : (i * ei.size + j) % ei.size = j := by rw [MB, Nat.mul_add_mod, Wt hj]
    have hget : (madeCells zv.cells (z.toNat * ei.size))[i * ei.size + j]? = zv.cells[j]? := by
     unfold madeCells
     rw [ZK]
     have hjs : j < zv.cells.size := by rw [hzs]; exact hj
     simp only [Array.getElem?_range, hlt, if_true, Option.map_some, hzs, hmod]
     rw [getElem!_pos zv.cells j hjs, I0 hjs]
    rw [hget, hi5] at q3
    exact Di (E := E) (v := v) hzd (fun y hy => Ee (tc.ok e ei hei) j v y q3 hy) q2⟩)
 refine ⟨.slice (some ⟨w.heap.size, 0, none⟩) z.toNat z.toNat, _, _, by simp [execOp, e1, e2, hr], hn.2, hn.1, .c (.arr r kk z.toNat _ rfl (by simp [Env.upd]) (fun _ => ?_))⟩
 rcases Ud z.toNat with hm0 | hm0
 ·exact .inl ⟨by simp [Env.upd, hm0], hm0, some ⟨w.heap.size, 0, none⟩, by rw [hm0]⟩
 ·exact .inr ⟨by simp [Env.upd]; omega, by simp [Env.upd]⟩
theorem Tq [tc : TC P T] {x y : Operand} {j o : Nat} {es' : List (List Dat)} {e e' : List Dat} {v : SVal} {ds : List Dat} {mem' : List Blk} (h : Reg P F0 w0 dr ops K rest ⟨n, sl, mem', ck, df⟩ (B3 r false :: acc)) (hw : GW ops g sl := by first | exact trivial | exact rfl) (hx : AO sl x = .c (.ap r k esz j o) := by exact rfl) (hy : AO sl y = v := by first | exact (rfl : _ = SVal.c _) | exact (rfl : _ = SVal.agg _) | exact rfl) (hc : v.cells = some cs := by exact rfl) (hds : DF cs = some ds := by exact rfl) (ht : T t = some i := by exact rfl) (hl : cs.length = i.size := by exact rfl) (hm : mem[r]? = some (.arr k ety esz es) := by exact rfl) (hs : decide (o + i.size ≤ esz) = true := by exact rfl) (hj : es[j]? = some e) (he' : e.take o ++ ds ++ e.drop (o + i.size) = e' := by exact rfl) (hes : es.set j e' = es' := by exact rfl) (hm' : mem.set r (.arr k ety esz es') = mem' := by exact rfl) : Reg P F0 w0 dr ops K (⟨none, .store t x y, ty, pos, aft, g⟩ :: rest) ⟨n, sl, mem, ck, df⟩ acc := by
 subst hm'; subst hes; subst he'
 exact YF (v := .junk) hw hm (fun M c hM => Does.of tc.ok fun τ he hmm hck Kk hK => by
  subst hmm; subst hck
  have ex := he x (by simp [Op.operands])
  have ey := he y (by simp [Op.operands])
  rw [hx] at ex
  rw [hy] at ey
  simp only [AP, EM, ht, ex, ey, hc, hM, hds]
  exact ⟨hl, trivial, trivial, by simpa using hs, Ct hj (hK _ _ _ _ ⟨rfl, rfl, rfl, rfl⟩)⟩) h
theorem Tr [tc : TC P T] {e : TypeId} {x y : Operand} {ei : TI} {kk : IntKind} {z : Int} {j : Nat} (h : Reg P F0 w0 dr ops K rest ⟨n, (d, .c (.ap r k esz j 0)) :: sl, mem, ck, df⟩ (B3 r true :: acc)) (hw : GW ops g sl := by first | exact trivial | exact rfl) (hx : AO sl x = .c (.arr r k m) := by exact rfl) (hy : AO sl y = .c (.d (.lit (.int kk z))) := by exact rfl) (ht : T t = some i := by exact rfl) (hi : i.desc = .slice e := by exact rfl) (he' : T e = some ei := by exact rfl) (hm : mem[r]? = some (.arr k ety esz es) := by exact rfl) (hsz : esz = ei.size := by exact rfl) (hz : 0 ≤ z := by omega) (hzm : z < (m : Int) := by omega) (hml : m ≤ es.length := by first | omega | exact Nat.le_refl _ | (simp only [BT, Hn, Dg, List.length_cons, List.length_nil, Jj, Gm, Jh]; omega)) (hj : z.toNat = j := by first | exact QH _ | exact rfl) : Reg P F0 w0 dr ops K (⟨some d, .indexAddr t x y, ty, pos, aft, g⟩ :: rest) ⟨n, sl, mem, ck, df⟩ acc :=
 SJ hw hm (fun mem ck hm => Does.of tc.ok fun τ he hmm hc Kk hK => by
  subst hmm; subst hc; subst hj
  have ex := he x (by simp [Op.operands])
  have ey := he y (by simp [Op.operands])
  rw [hx] at ex
  rw [hy] at ey
  obtain ⟨a1, a2, a3, a4, a5⟩ := i
  simp only at hi
  subst hi
  simp only [AP, Fg, ht, he', ex, ey, hm]
  exact ⟨hz, hzm, trivial, hsz, hml, hK _ _ _ _ ⟨rfl, rfl, rfl, rfl⟩⟩) h
variable {B : Base} {Q : Ex → St → Prop}
theorem E7 (s o r : Nat) {k0 : Nat} {es1 : List (List Dat)} {c : Code} (h : ARun P B c ⟨n, sl, m1, ck, df⟩ Q) (hs : mem[s]? = some (.box k0 cs)) (ho : cs[o]? = some (.arr r k m)) (hm : mem[r]? = some (.arr k ety esz es)) (hl : m ≤ es.length) (hes : es.take m = es1) (hm1 : (mem.set r .dead).set s (.box k0 (cs.set o (.d (.sl es1)))) = m1) : ARun P B c ⟨n, sl, mem, ck, df⟩ Q := by
 subst hes; subst hm1
 rintro a w ⟨E, ⟨hw, hsz', hdf, hsl⟩, hle⟩
 have hf := hw.freeze r k ety esz es hm
 have hsr : s ≠ r := by
  rintro rfl
  rw [hs] at hm; cases hm
 have hs' : (mem.set r .dead)[s]? = some (.box k0 cs) := by rw [OO (Ne.symm hsr)]; exact hs
 obtain ⟨p1, p2, p3, cc, ety', p4, p5, p6⟩ := hf.1.mem.ok s _ hs'
 obtain ⟨q1, q2, q3, cd, ety'', q4, q5, q6⟩ := hw.mem.ok s _ hs
 have hcc : cd = cc := by
  have p4' : w.heap[E.blk s]? = some (.cells cc ety' (0, 0)) := p4
  rw [q4] at p4'
  simp only [Option.some.injEq, Obj.cells.injEq] at p4'
  exact p4'.1
 subst hcc
 refine h a w ⟨_, ⟨hf.1.swap s _ _ hs' (fun q => q) ⟨p1, p2, p3, cd, ety', p4, by simpa using p5, fun j v x hj hx => ?_⟩, hsz', hdf.le hf.2, fun s => (hsl s).le hf.2⟩, hle.trans hf.2⟩
 by_cases hjo : j = o
 ·subst hjo
  rw [ON (lt_of_getElem? ho)] at hx
  simp only [Option.some.injEq] at hx
  subst hx
  exact .d (EC (F := fun i => E.F i ∨ (i = E.blk r ∧ E.cap r ≠ 0)) hw hm hl (q6 j v _ hj ho) (fun b hb => .inl hb) (fun hz => .inr ⟨rfl, hz⟩))
 ·rw [OO (Ne.symm hjo)] at hx
  exact p6 j v x hj hx
theorem WOk.freezeV {E : Env} {w : World} (h : WOk F0 w0 E w mem ck) (r k : Nat) (cs : List Cell) (hr : mem[r]? = some (.box k cs)) :
  let E' : Env := { E with F := fun i => E.F i ∨ i = E.blk r }
  WOk F0 w0 E' w (mem.set r .dead) ck ∧ EnvLe E w E' w := by
 intro E'
 have ho := h.mem.ok r _ hr
 have hle : EnvLe E w E' w := ⟨fun _ hk => .inl hk, fun k hk => rfl, fun _ => Nat.le_refl _, fun _ _ => ⟨rfl, rfl⟩, fun _ hk => ⟨hk, rfl⟩⟩
 have hlt := ho.lt (show Blk.has E r (.box k cs) from trivial)
 refine ⟨⟨h.below, fun k hk => .inl (h.base k hk), fun i hi => ?_, ⟨h.mem.clock, fun s x hx => ?_, fun s s' x x' hx hx' h1 h2 hne => ?_⟩, fun k hk => ⟨(h.N k hk).1, ?_⟩⟩, hle⟩
 ·rcases hi with hi | rfl
  ·exact h.F i hi
  ·exact ⟨hlt.1, .inr hlt.2.1⟩
 ·rcases AX r _ s x hx with ⟨rfl, rfl⟩ | ⟨e, hx0⟩
  ·trivial
  ·have ho' := h.mem.ok s x hx0
   refine ho'.le hle (fun _ => rfl) (fun _ => rfl) (fun hh => ?_)
   rintro ((hk | hk) | hk)
   ·exact (ho'.lt hh).2.2 (.inl hk)
   ·exact h.mem.apart s r x _ hx0 hr hh (show Blk.has E r (.box k cs) from trivial) e hk
   ·exact (ho'.lt hh).2.2 (.inr hk)
 ·rcases AX r _ s x hx with ⟨rfl, rfl⟩ | ⟨e, hx0⟩
  ·exact h1.elim
  ·rcases AX r _ s' x' hx' with ⟨rfl, rfl⟩ | ⟨e', hx0'⟩
   ·exact h2.elim
   ·refine h.mem.apart s s' x x' hx0 hx0' ?_ ?_ hne
    ·cases x <;> exact h1
    ·cases x' <;> exact h2
 ·rintro (h1 | rfl)
  ·exact (h.N k hk).2 h1
  ·exact hlt.2.2 (.inr hk)
theorem Rp (t : Nat) {ds : List Dat} {c : Code} (h : ARun P B c ⟨n, (t, .c (.fp ds 0)) :: sl, m1, ck, df⟩ Q) (ht : look sl t = .c (.bp r k 0) := by exact rfl) (hm : mem[r]? = some (.box k cs) := by exact rfl) (hds : DF cs = some ds := by exact rfl) (hm1 : mem.set r .dead = m1 := by exact rfl) : ARun P B c ⟨n, sl, mem, ck, df⟩ Q := by
 subst hm1
 rintro a w ⟨E, ⟨hw, hsz, hdf, hsl⟩, hle⟩
 have e1 : SRep E w (a.tmps.getD t undef) (.c (.bp r k 0)) := by rw [← ht]; exact hsl t
 obtain ⟨o1, o2, o3, cc, ety, o4, o5, o6⟩ := hw.mem.ok r _ hm
 have hf := hw.freezeV r k cs hm
 refine h a w ⟨_, ⟨hf.1, hsz, hdf.le hf.2, D7 (fun s => (hsl s).le hf.2) ?_⟩, hle.trans hf.2⟩
 have hv : a.tmps.getD t undef = .pointer (some ⟨E.blk r, 0 + 0, none⟩) := by
  generalize a.tmps.getD t undef = q at e1
  cases e1 with | c q => cases q with | bp _ _ _ _ _ _ hh => exact hh o1
 rw [hv]
 have hdl := Dh hds
 refine .c (.fp ds 0 (E.blk r) 0 (fun j => cc.getD j undef) (.inr rfl) (fun j hj => ?_) (fun j x hx => ?_))
 ·rw [Be o4, Nat.zero_add]
  have : j < cc.size := by omega
  rw [I0 this, T1, I0 this]; rfl
 ·have hj := lt_of_getElem? hx
  have : j < cc.size := by omega
  refine (Di (E := E) (w := w) (v := cc.getD j undef) hds (fun y hy => o6 j _ y ?_ hy) hx).le hf.2
  rw [T1, I0 this]; rfl
theorem Ts {r1 r : SVal} {mem1 : List Blk} {a t rr : Nat} (hd : Af P df) (h : Ap mem m1) (ha : AM (.agg cs) r) (hk : IM mem mem1 0) (hl : look sl a = .c (.bp rr k 0)) (hmm : mem[rr]? = some (.box k cs)) (ht : T t = some i) (hag : i.desc.agg = true) (hsz : cs.length = i.size) (hr : r1.up id (CP mem) = r) (hm : He id (CP mem) mem1 0 = m1) : Aq P B (AW P T [.cell a t] (fun r m _ => HR m mem1 r r1)) [] .ret ⟨n, sl, mem, ck, df⟩ := by
 refine ⟨hd, ?_⟩
 simp only [Pk, Am, St.get, hl, Dq, ht, hag, hmm]
 refine ⟨.inl trivial, trivial, by omega, ?_⟩
 rw [List.drop_zero, ← hsz, PQ]
 exact Ob hm hr h ha hk
end Go.Abs
end
section
namespace Go.Proofs.YtmpgmjlanngkfaaGreat
open Go.Abs Go.RowKit
attribute [local irreducible] ARun Aq MCall PCall HCall Am SF CF CFs Af Al Ap B5 AW VLe
set_option linter.unusedSimpArgs false
set_option maxRecDepth 100000
set_option maxHeartbeats 4000000
def T5 (row : List Val) (col : Int) : Val := if col < 0 then Val.null else match row[col.toNat]? with | some v => v | none => Val.null
theorem WO {row : List Val} {col : Int} (h : (row.length : Int) ≤ col) : T5 row col = Val.null := by
 unfold T5
 split
 ·rfl
 ·rw [Ub (by omega)]
theorem WQ {row : List Val} {k : Nat} {v : Val} (h : row[k]? = some v) : T5 row k = v := by
 unfold T5
 rw [if_neg (by omega), QH, h]
def ZY (a b : ByteArray) : Bool := decide (b.size ≤ a.size) && ((a.extract 0 b.size).toList == b.toList)
def YA (l : List UInt8) : Dat := .lit (.string ⟨l.toArray⟩)
def ZZ (on : List (Int × Int)) : Dat := .sl (on.map fun p => [.lit (.int .i64 p.1), .lit (.int .i64 p.2)])
def Z0 (row : List Val) : List Int → Option (List Val)
 | [] => some []
 | c :: cs => if (T5 row c).kind = 0 then none else (Z0 row cs).map ((T5 row c) :: ·)
def aQ (o : Option (List Val)) : PRes := match o with
 | some l => .tup [.one (YA (AD l)), .one (.lit (.bool true))]
 | none => .tup [.one (YA []), .one (.lit (.bool false))]
end Go.Proofs.YtmpgmjlanngkfaaGreat
end
section
namespace Go.Abs
open Go.RowKit
section
variable {P : Program} {B : Base} {n : Nat} {sl : List (Nat × SVal)} {mem : List Blk} {ck : Nat} {df : List (FuncId × List Cell)} {Q : Ex → St → Prop}
theorem Tm {a : Act} {w : World} (h : Rel B ⟨n, sl, mem, ck, df⟩ a w) : Rel B ⟨n, sl, mem, ck + 1, df⟩ a w := by
 obtain ⟨E, ⟨h1, h2, h3, h4⟩, hB⟩ := h
 exact ⟨E, ⟨⟨h1.below, h1.base, h1.F, ⟨fun r => Nat.le_succ_of_le (h1.mem.clock r), h1.mem.ok, h1.mem.apart⟩, h1.N⟩, h2, h3, h4⟩, hB⟩
theorem Tn {c : Code} (h : ARun P B c ⟨n, sl, mem, ck + 1, df⟩ Q) : ARun P B c ⟨n, sl, mem, ck, df⟩ Q :=
 L3 (τ := ⟨n, sl, mem, ck + 1, df⟩) rfl (fun _ _ hr => Tm hr) h
theorem V3 (r : Nat) {k : Nat} {ety : TypeId} {esz : Nat} {es : List (List Dat)} {c : Code} (h : k ≤ ck → ARun P B c ⟨n, sl, mem, ck, df⟩ Q) (hm : mem[r]? = some (.arr k ety esz es) := by exact rfl) : ARun P B c ⟨n, sl, mem, ck, df⟩ Q := by
 intro a w hr
 refine h ?_ a w hr
 obtain ⟨E, ⟨h1, _⟩, _⟩ := hr
 have h2 : E.ver r = k := (h1.mem.ok r _ hm).1
 have h3 : E.ver r ≤ ck := h1.mem.clock r
 omega
end
section
variable {P : Program} {T : TypeId → Option TI} {F0 : Nat → Prop} {w0 : World}
variable {dr : Bool} {ops rest : List Oper} {K : St → Prop} {n : Nat} {sl : List (Nat × SVal)} {mem : List Blk} {ck : Nat} {df : List (FuncId × List Cell)} {acc : List Nat}
variable {d : Tmp} {op : Op} {ty : TypeId} {pos : String} {aft : Array Edge} {g : Option (Nat × Bool)}
theorem To [tc : TC P T] (r kn : Nat) {t e : TypeId} {x y : Operand} {i ei : TI} {u : SVal} {ys es es' : List (List Dat)} {k j m : Nat} {mem' : List Blk} (h : Reg P F0 w0 dr ops K rest ⟨n, (d, .c (.arr r kn m)) :: sl, mem', ck, df⟩ (B3 r false :: acc)) (hkn : kn ≤ ck) (hlt : k < kn) (hj : j ≤ es.length) (hl : j + ys.length = m) (hmx : m ≤ maxLen) (hby : m * ei.bytes ≤ 140737488355328) (hsz : ∀ el ∈ ys, el.length = ei.size) (hes : es.take j ++ ys = es') (hm : mem[r]? = some (.arr k e ei.size es) := by exact rfl) (hw : GW ops g sl := by first | exact trivial | exact rfl)
  (hx : AO sl x = .c (.arr r k j) := by exact rfl) (hy : AO sl y = u := by exact (rfl : _ = SVal.c _)) (hs : FQ u = some ys := by exact rfl) (ht : T t = some i := by exact rfl) (hi : i.desc = .slice e := by exact rfl) (hei : T e = some ei := by exact rfl) (hkk : Nat.beq ei.zero.length ei.size = true := by exact rfl) (hm' : mem.set r (.arr kn e ei.size es') = mem' := by exact rfl) :
  Reg P F0 w0 dr ops K (⟨some d, .call ⟨.builtin .append, #[x, y], #[t, t]⟩, ty, pos, aft, g⟩ :: rest) ⟨n, sl, mem, ck, df⟩ acc := by
 subst hm'; subst hes; subst hl
 refine ZN hw hm hkn (fun M c hM hc => B6 fun E w ρ hw' hρ => ?_) h
 have e1 := hρ x (by simp [Op.operands, Call.operands])
 have e2 := hρ y (by simp [Op.operands, Call.operands])
 rw [hx] at e1; rw [hy] at e2
 have hrep := LM e2 hs
 have hv : E.ver r < kn := by have := (hw'.mem.ok r _ hM).1; omega
 have hs1 : CRep E w (ρ x) (.arr r k j) := by
  generalize ρ x = vx at e1
  cases e1 with | c h => exact h
 obtain ⟨v', w', E', q1, q2, q3, q4⟩ := Jo tc.ok (ty := ty) hw' ht hi hei (by simpa using hkk) hsz hrep hM hs1 hj hmx hby hv (Nat.le_refl _) hc
 exact ⟨v', w', E', by simp [execOp, resolve, invoke, builtin, q1], q2, q3, .c q4⟩
end
section
variable {P : Program} {T : TypeId → Option TI} {F0 : Nat → Prop} {w0 : World}
variable {dr : Bool} {ops rest : List Oper} {K : St → Prop} {n : Nat} {sl : List (Nat × SVal)} {mem : List Blk} {ck : Nat} {df : List (FuncId × List Cell)} {acc : List Nat}
variable {d : Tmp} {ty : TypeId} {pos : String} {aft : Array Edge} {g : Option (Nat × Bool)}
theorem HZ [tc : TC P T] {t e : TypeId} {len : Nat} {parts : Array (Nat × Operand)} {i ei : TI} {es es' : List (List Dat)} {r : Nat} {mem' : List Blk} (h : Reg P F0 w0 dr ops K rest ⟨n, (d, .c (.arr r (ck + 1) len)) :: sl, mem', ck + 1, df⟩ (2 :: acc)) (hw : GW ops g sl := by first | exact trivial | exact rfl) (ht : T t = some i := by exact rfl) (hi : i.desc = .slice e := by exact rfl) (hei : T e = some ei := by exact rfl)
  (hc : (Nat.blt 0 len && Nat.blt 0 ei.size && Nat.beq ei.zero.length ei.size && Nat.ble (len * ei.size) 16777216 && Nat.beq parts.size len) = true := by exact rfl) (hp : JW sl ei.size parts.toList 0 = some es := by exact rfl) (hn : es = es' := by repeat' (first | exact A0 rfl | apply AI rfl)) (hr : mem.length = r := by exact rfl) (hm' : mem ++ [.arr (ck + 1) e ei.size es'] = mem' := by repeat' (first | exact A0 rfl | apply AI rfl)) :
  Reg P F0 w0 dr ops K (⟨some d, .buildSlice t len parts, ty, pos, aft, g⟩ :: rest) ⟨n, sl, mem, ck, df⟩ acc := by
 subst hm'; subst hn; subst hr
 refine RS (df' := []) hw (fun B σ E a w hF hw0 he hmm hck hr hB hd next Q hnx => ?_) h
 subst hF; subst hw0; subst hmm; subst hck
 obtain ⟨a1, a2, a3, a4, a5⟩ := i
 simp only at hi
 subst hi
 have hu : P.underlying t = some (.slice e) := (tc.ok t _ ht).desc
 simp only [BO, PS, KM, Nat.blt, QI] at hc
 obtain ⟨⟨⟨⟨h1, h2⟩, h3⟩, h4⟩, h5⟩ := hc
 have h5' : parts.toList.length = len := by simpa using h5
 have hq := Ib (τ := σ) parts.toList _ (fun p hp => he p.2 (by simp only [Op.operands]; simp; exact ⟨p.1, by simpa using hp⟩)) es hp
 have hsz := (tc.ok e ei hei).sizeOf (w := w)
 obtain ⟨fi, z, hi1, hi2, hi3, hi4, hi5⟩ := (tc.ok e ei hei).info
 obtain ⟨cells', q1, q2, q3, q4, q5, q6⟩ := G2 (fun x => hr.ev x) ei.size parts.toList 0 es ((Array.range (len * ei.size)).map (z.cells[· % z.cells.size]!)) hq (by simp [h5'])
 have hcs : cells'.size = len * ei.size := by rw [q2]; simp
 have hrep : ∀ (i j : Nat) el v x, es[i]? = some el → el[j]? = some x → cells'[i * ei.size + j]? = some v → DRep E.F w v x := fun i j el v x b1 b2 b3 => q6 i j el v x b1 b2 (by simpa using b3)
 have hone : ∀ v ∈ cells', v.oneCell' = true := fun v hv => by
  obtain ⟨q, hq1, hq2⟩ := Array.getElem_of_mem hv
  have hqd := Yp q ei.size
  have hlt : q % ei.size < ei.size := VP _ h2
  have hdl : q / ei.size < len := by
    rw [Nat.div_lt_iff_lt_mul h2, ← hcs]; exact hq1
  have e1 : es[q / ei.size]? = some (es[q / ei.size]'(by omega)) := Bi _
  have l1 := q4 _ (Df e1)
  have e2 : (es[q / ei.size]'(by omega))[q % ei.size]? = some ((es[q / ei.size]'(by omega))[q % ei.size]'(by omega)) := Bi _
  exact CRep.one (CRep.d (E := E) (hrep _ _ _ v _ e1 e2 (by rw [MB, hqd, ← hq2]; simp [hq1])))
 have hnz : len * ei.size ≠ 0 := by
  have : 0 < len * ei.size := Nat.mul_pos h1 h2
  omega
 have hlm : len ≤ maxLen := by
  have : len ≤ len * ei.size := Nat.le_mul_of_pos_right _ h2
  simp only [maxLen]; omega
 have hnew := hr.1.newArr (w' := w.alloc (.cells cells' e)) e ei.size len es h2 q4 (by omega) hlm ((Bel.refl _ w).alloc hr.1.le0 _) (fun k hk => Bel.heap_alloc w _ k hk) (.inr ⟨cells', RV w _, hcs, hone, hrep⟩)
 have hmap : (parts.map fun (i, x) => (i, a.eval x)).toList = parts.toList.map fun p => (p.1, a.eval p.2) := by simp
 have hrun : (Instr.buildSlice t len (parts.map fun (i, x) => (i, a.eval x))).run P w = .ok (.slice (some ⟨w.heap.size, 0, none⟩) len len) (w.alloc (.cells cells' e)) := by
  simp only [Instr.buildSlice, Sem.run_bind, run_underlying hu, Result.andThen_ok, hsz, hmap]
  rw [if_neg (show ¬ len * ei.size > 2 ^ 24 by omega)]
  simp only [Sem.run_pure, Result.andThen_ok, if_neg hnz, Sem.run_bind, zeroValue, typeInfo, run_program, hi1, hi4]
  rw [q1]
  simp only [Sem.run_bind, newRow, run_newObj, Result.andThen_ok, Sem.run_pure, World.alloc_eq]
 unfold Oper.wp
 rw [show (execOp a.eval ⟨some d, .buildSlice t len parts, ty, pos, aft, g⟩).run P w = .ok (.value (.slice (some ⟨w.heap.size, 0, none⟩) len len)) (w.alloc (.cells cells' e)) by simp at hrun; simp [execOp, hrun]]
 refine hnx _ _ _ [] _ _ ⟨rfl, rfl, rfl, rfl⟩ ⟨_, ?_, hB.trans hnew.2⟩
 rw [Gc]
 exact hr.putOE hnew.2 hnew.1 hd (.c (.arr _ _ _ _ rfl (by simp [Env.upd]) (fun _ => .inr (by simp [Env.upd]; exact h1))))
end
end Go.Abs
end
