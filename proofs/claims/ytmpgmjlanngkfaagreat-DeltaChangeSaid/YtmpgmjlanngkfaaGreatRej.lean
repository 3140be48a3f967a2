/-
  Algebra: the document's join.
-/
import Derived.Test.YtmpgmjlanngkfaaGreatAgm
import Derived.Test.YtmpgmjlanngkfaaGreatRga
import Derived.Test.YtmpgmjlanngkfaaGreatNrm
import Derived.Test.YtmpgmjlanngkfaaGreatAgi
import Derived.Test.YtmpgmjlanngkfaaGreatExb
import Derived.Test.YtmpgmjlanngkfaaGreatSum
import Derived.Test.YtmpgmjlanngkfaaGreatCmf
section
namespace Go.Proofs.YtmpgmjlanngkfaaGreat
open Go.Abs Go.RowKit
attribute [local irreducible] ARun Av MCall PCall HCall Ap SF CF CFs Ag Ai As fin AY VLe
set_option linter.unusedSimpArgs false
set_option maxRecDepth 100000
set_option maxHeartbeats 4000000
def eC (s : Sta) : Bool := !s.zero
def Kj (b : List Entry) (keys : List Itm) (ag : List Agg) : List Sta × Int :=
 if Am b = true ∧ keys.length + ag.length ≤ 8 ∧ bu ag = true then (((Iv b (AQ keys)).map (iz ag)).filter eC, 0) else ([], 1)
def iN (c : Int) (t : Agg × Int × Int) : Val := if t.1.func = 0 then Val.ofInt c else if t.2.2 = 0 then Val.null else Val.ofInt t.2.1
def fe (ag : List Agg) (s : Sta) : List Val := s.key ++ (gV ag s).map (iN s.count)
def iT (ag : List Agg) (s : Sta) : Entry := ⟨fe ag s, 1⟩
end Go.Proofs.YtmpgmjlanngkfaaGreat
end
section
namespace Go.Proofs.YtmpgmjlanngkfaaGreat
open Go.Abs Go.RowKit
set_option linter.unusedSimpArgs false
set_option maxRecDepth 100000
def gv (z : Int) : Int := IntKind.i64.wrap z
def fb (s t : Sta) : Sta := ⟨s.key, gv (s.count + t.count), List.zipWith (fun x y => gv (x + y)) s.sums t.sums, List.zipWith (fun x y => gv (x + y)) s.some t.some⟩
def Jy : List Sta → List Sta → List Sta
 | [], d => d
 | g, [] => g
 | x :: g, y :: d => if Aj x.key y.key < 0 then x :: Jy g (y :: d) else if 0 < Aj x.key y.key then y :: Jy (x :: g) d else fb x y :: Jy g d
termination_by g d => g.length + d.length
def sR (x y : Sta) : Prop := Aj x.key y.key < 0
def iS (l : List Sta) : Prop := ∀ s ∈ l, AE s.key
def gK (kf : List Val → List Val) (k : List Val) (f : List Val → Int) (r : List Val) : Int := if Aj (kf r) k = 0 then f r else 0
def iI (x : Agg) (r : List Val) : Int := if x.func = 1 then (if (EC x.expr r).kind = 1 then (EC x.expr r).int else 0) else 0
def iJ (x : Agg) (r : List Val) : Int := if x.func = 1 then (if (EC x.expr r).kind = 1 then 1 else 0) else 0
def iK (ag : List Agg) (kf : List Val → List Val) (b : List Entry) (k : List Val) : Sta :=
 ⟨k, wS (gK kf k fun _ => 1) b, ag.map fun x => wS (gK kf k (iI x)) b, ag.map fun x => wS (gK kf k (iJ x)) b⟩
def iL (ag : List Agg) (kf : List Val → List Val) (b : List Entry) : List Sta := ((Dg b kf).map (iK ag kf b)).filter eC
def gL (n : Int) : Prop := -4611686018427387904 ≤ n ∧ n ≤ 4611686018427387903
def iM (s : Sta) : Prop := gL s.count ∧ (∀ n ∈ s.sums, gL n) ∧ ∀ n ∈ s.some, gL n
end Go.Proofs.YtmpgmjlanngkfaaGreat
end
section
namespace Go.Abs
open Go.RowKit
section
variable {P : Program} {B : Base} {n : Nat} {sl : List (Nat × SVal)} {mem : List Blk} {ck : Nat} {df : List (FuncId × List Cell)} {Q : Ex → St → Prop}
theorem WM {a : Act} {w : World} (h : Rel B ⟨n, sl, mem, ck, df⟩ a w) : Rel B ⟨n, sl, mem, ck + 1, df⟩ a w := by
 obtain ⟨E, ⟨h1, h2, h3, h4⟩, hB⟩ := h
 exact ⟨E, ⟨⟨h1.below, h1.base, h1.F, ⟨fun r => Nat.le_succ_of_le (h1.mem.clock r), h1.mem.ok, h1.mem.apart⟩, h1.N⟩, h2, h3, h4⟩, hB⟩
theorem F2 {c : Code} (h : ARun P B c ⟨n, sl, mem, ck + 1, df⟩ Q) : ARun P B c ⟨n, sl, mem, ck, df⟩ Q :=
 NR (τ := ⟨n, sl, mem, ck + 1, df⟩) rfl (fun _ _ hr => WM hr) h
theorem SZ (r : Nat) {k : Nat} {iX : TypeId} {i6 : Nat} {es : List (List Dat)} {c : Code} (h : k ≤ ck → ARun P B c ⟨n, sl, mem, ck, df⟩ Q) (hm : mem[r]? = some (.arr k iX i6 es) := by exact rfl) : ARun P B c ⟨n, sl, mem, ck, df⟩ Q := by
 intro a w hr
 refine h ?_ a w hr
 obtain ⟨E, ⟨h1, _⟩, _⟩ := hr
 have h2 : E.ver r = k := (h1.mem.ok r _ hm).1
 have h3 : E.ver r ≤ ck := h1.mem.clock r
 omega
end
section
variable {P : Program} {T : TypeId → Option TI} {F0 : Nat → Prop} {w0 : World}
variable {dr : Bool} {ops rest : List Oper} {K : St → Prop} {n : Nat} {sl : List (Nat × SVal)} {mem : List Blk} {ck : Nat} {df : List (FuncId × List Cell)} {acc : List Nat}
variable {d : Tmp} {op : Op} {ty : TypeId} {pos : String} {iU : Array Edge} {g : Option (Nat × Bool)}
theorem GZ [tc : TC P T] (r kn : Nat) {t e : TypeId} {x y : Operand} {i ei : TI} {u : SVal} {ys es ji : List (List Dat)} {k j m : Nat} {f' : List Blk} (h : Reg P F0 w0 dr ops K rest ⟨n, (d, .c (.arr r kn m)) :: sl, f', ck, df⟩ (BS r false :: acc)) (tW : kn ≤ ck) (i7 : k < kn) (hj : j ≤ es.length) (hl : j + ys.length = m) (mG : m ≤ maxLen) (lp : m * ei.bytes ≤ 140737488355328) (j3 : ∀ el ∈ ys, el.length = ei.size) (j6 : es.take j ++ ys = ji) (hm : mem[r]? = some (.arr k e ei.size es) := by exact rfl) (hw : GW ops g sl := by first | exact trivial | exact rfl)
  (hx : AH sl x = .c (.arr r k j) := by exact rfl) (hy : AH sl y = u := by exact (rfl : _ = SVal.c _)) (hs : Gh u = some ys := by exact rfl) (ht : T t = some i := by exact rfl) (hi : i.desc = .slice e := by exact rfl) (jg : T e = some ei := by exact rfl) (np : Nat.beq ei.zero.length ei.size = true := by exact rfl) (iZ : mem.set r (.arr kn e ei.size ji) = f' := by exact rfl) :
  Reg P F0 w0 dr ops K (⟨some d, .call ⟨.builtin .append, #[x, y], #[t, t]⟩, ty, pos, iU, g⟩ :: rest) ⟨n, sl, mem, ck, df⟩ acc := by
 subst iZ; subst j6; subst hl
 refine eM hw hm tW (fun M c hM hc => BF fun E w ρ j0 hρ => ?_) h
 have e1 := hρ x (by simp [Op.operands, Call.operands])
 have e2 := hρ y (by simp [Op.operands, Call.operands])
 rw [hx] at e1; rw [hy] at e2
 have j4 := Kg e2 hs
 have hv : E.ver r < kn := by have := (j0.mem.ok r _ hM).1; omega
 have lu : CRep E w (ρ x) (.arr r k j) := by
  generalize ρ x = vx at e1
  cases e1 with | c h => exact h
 obtain ⟨v', w', E', q1, q2, q3, q4⟩ := Kw tc.ok (ty := ty) j0 ht hi jg (by simpa using np) j3 j4 hM lu hj mG lp hv (Nat.le_refl _) hc
 exact ⟨v', w', E', by simp [execOp, resolve, invoke, builtin, q1], q2, q3, .c q4⟩
end
end Go.Abs
end
section
namespace Go.Proofs.YtmpgmjlanngkfaaGreat
open Go.Abs Go.RowKit
attribute [local irreducible] ARun Av MCall PCall HCall Ap SF CF CFs Ag Ai As fin AY VLe
set_option linter.unusedSimpArgs false
set_option maxRecDepth 100000
set_option maxHeartbeats 4000000
theorem Gd {b : List Entry} {i : Nat} (e : Entry) : List.take b.length ((b.map Entry.d).set i e.d) = (b.set i e).map Entry.d := by
 rw [Sb]; exact Ah (by simp)
theorem Zh (t : Tape) (b : List Entry) (ht : t.ok) (hb : b.length ≤ 1000) : ∃ (b' : List Entry) (t' : Tape), t'.ok ∧ b'.length ≤ b.length + 1 ∧ HC 12 [.c (.bp 0 0 0), .c (.d (Ak b))] [(tB t)] (.c (.d (Ak b'))) [(tB t')] := by
 by_cases h0 : b.length = 0
 ·obtain ⟨r, t', nP, hr, hc⟩ := ff t 2 ht (by omega)
  have hf : List.take r.length (r.map Val.d) = r.map Val.d := Ah (by simp)
  refine ⟨[⟨r, 0⟩], t', nP, by simp, ?_⟩
  refine Au hT Tryz.func12 Tryz.ntmps12 [.tmp 4] fun B => ?_
  repeat' first | refine GK 14 rfl rfl (by simp) hf rfl ?_ | refine kz ?_ | refine Ao ?_ | refine Ae [0] (hc) ?_ | refine AO Ad ?_ ?_ | exact k0 | refine Ab ?_
 have kQ := Ee t (b.length : Int) ht (by omega) (by omega)
 obtain ⟨p1, p2⟩ := t.nx_bd (b.length : Int)
 have jv := ht.go (b.length : Int)
 obtain ⟨i, hi⟩ := R8 p1
 rw [hi] at kQ p1 p2
 generalize t.go (b.length : Int) = t1 at kQ jv
 have kJ : i < b.length := by omega
 obtain ⟨e, hv⟩ := gx kJ
 have jN : (b.map Entry.d)[i]? = some e.d := by rw [BU, hv]; rfl
 have kK := Ee t1 6 jv (by omega) (by omega)
 obtain ⟨q1, q2⟩ := t1.nx_bd 6
 have jr := jv.go 6
 generalize t1.nx 6 = z at kK q1 q2
 generalize t1.go 6 = t2 at kK jr
 have f5 : List.take b.length ((b.map Entry.d).set i (Entry.d ⟨e.row, 0⟩)) = (b.set i ⟨e.row, 0⟩).map Entry.d := Gd ⟨e.row, 0⟩
 by_cases z0 : z = 0
 ·refine ⟨b.set i ⟨e.row, 0⟩, t2, jr, by simp, ?_⟩
  refine Au hT Tryz.func12 Tryz.ntmps12 [.tmp 4] fun B => ?_
  repeat' first | refine Ax 5 ?_ (j6 := f5) | refine kz ?_ | refine AF jN ?_ | refine Ao ?_ | refine Ae [0] (kQ) ?_ | refine Ae [0] (kK) ?_ | refine AO Ad ?_ ?_ | exact k0 | refine Ab ?_
 by_cases z1 : z = 1
 ·have oD := Ee t2 3 jr (by omega) (by omega)
  obtain ⟨r1, r2⟩ := t2.nx_bd 3
  have kl := jr.go 3
  generalize t2.nx 3 = y at oD r1 r2
  generalize t2.go 3 = t3 at oD kl
  obtain ⟨v, hw⟩ : ∃ v, (([262144, 262145, -262145] : List Int).map iD)[y.toNat]? = some (iD v) := by
   have hq : y.toNat < ([262144, 262145, -262145] : List Int).length := by simp; omega
   exact ⟨([262144, 262145, -262145] : List Int)[y.toNat], by rw [BU, Bo hq]; rfl⟩
  have f5 : List.take b.length ((b.map Entry.d).set i (Entry.d ⟨e.row, v⟩)) = (b.set i ⟨e.row, v⟩).map Entry.d := Gd ⟨e.row, v⟩
  refine ⟨b.set i ⟨e.row, v⟩, t3, kl, by simp, ?_⟩
  refine Au hT Tryz.func12 Tryz.ntmps12 [.tmp 4] fun B => ?_
  repeat' first | refine Ax 5 ?_ (j6 := f5) | refine kz ?_ | refine AF jN ?_ | refine AF hw ?_ | refine Ao ?_ | refine Ae [0] (kQ) ?_ | refine Ae [0] (kK) ?_ | refine Ae [0] (oD) ?_ | refine AO Ad ?_ ?_ | exact k0 | refine Ab ?_
 by_cases z2 : z = 2
 ·have hf : List.take (b.length + [e.d].length) (b.map Entry.d ++ [e.d]) = (b ++ [e]).map Entry.d := by
   rw [Ag']; exact Ah (by simp)
  refine ⟨b ++ [e], t2, jr, by simp, ?_⟩
  refine Au hT Tryz.func12 Tryz.ntmps12 [.tmp 4] fun B => ?_
  repeat' first | refine GK 56 rfl rfl (by simp) hf rfl ?_ | refine kz ?_ | refine AF jN ?_ | refine Ao ?_ | refine Ae [0] (kQ) ?_ | refine Ae [0] (kK) ?_ | refine AO Ad ?_ ?_ | exact k0 | refine Ab ?_
 by_cases z3 : z = 3
 ·have f5 : List.take b.length ((b.map Entry.d).set i (Entry.d ⟨[⟨1, 1, ⟨#[120]⟩⟩], e.count⟩)) = (b.set i ⟨[⟨1, 1, ⟨#[120]⟩⟩], e.count⟩).map Entry.d := Gd _
  refine ⟨b.set i ⟨[⟨1, 1, ⟨#[120]⟩⟩], e.count⟩, t2, jr, by simp, ?_⟩
  refine Au hT Tryz.func12 Tryz.ntmps12 [.tmp 4] fun B => ?_
  repeat' first | refine Ax 5 ?_ (j6 := f5) | refine kz ?_ | refine AF jN ?_ | refine Ao ?_ | refine Ae [0] (kQ) ?_ | refine Ae [0] (kK) ?_ | refine AO Ad ?_ ?_ | exact k0 | refine Ab ?_
 by_cases z4 : z = 4
 ·obtain ⟨e0, wv⟩ := gx (l := b) (i := 0) (by omega)
  have pZ : (b.map Entry.d)[0]? = some e0.d := by rw [BU, wv]; rfl
  have qD : ((b.map Entry.d).set i e0.d)[0]? = some e0.d := by
   by_cases hq : i = 0
   ·subst hq; rw [J5 (by simpa using kJ)]
   ·rw [J7 hq]; exact pZ
  have f5 : List.take b.length (((b.map Entry.d).set i e0.d).set 0 e.d) = ((b.set i e0).set 0 e).map Entry.d := by
   rw [Sb, Sb]; exact Ah (by simp)
  refine ⟨(b.set i e0).set 0 e, t2, jr, by simp, ?_⟩
  refine Au hT Tryz.func12 Tryz.ntmps12 [.tmp 4] fun B => ?_
  repeat' first | refine Ax 5 ?_ (j6 := f5) | refine kz ?_ | refine AF jN ?_ | refine AF pZ ?_ | refine AF qD ?_ | refine Ao ?_ | refine Ae [0] (kQ) ?_ | refine Ae [0] (kK) ?_ | refine AO Ad ?_ ?_ | exact k0 | refine Ab ?_
 have oD := Ee t2 2 jr (by omega) (by omega)
 obtain ⟨r1, r2⟩ := t2.nx_bd 2
 have kl := jr.go 2
 obtain ⟨k, hk⟩ := R8 r1
 rw [hk] at oD r1 r2
 generalize t2.go 2 = t3 at oD kl
 have hf : List.take (16 + k) (List.replicate (16 + k) Val.null.d) = (List.replicate (16 + k) Val.null).map Val.d := by
  rw [List.map_replicate]; exact Ah (by simp)
 have f6 : List.take b.length ((b.map Entry.d).set i (Entry.d ⟨List.replicate (16 + k) Val.null, e.count⟩)) = (b.set i ⟨List.replicate (16 + k) Val.null, e.count⟩).map Entry.d := Gd _
 refine ⟨b.set i ⟨List.replicate (16 + k) Val.null, e.count⟩, t3, kl, by simp, ?_⟩
 refine Au hT Tryz.func12 Tryz.ntmps12 [.tmp 4] fun B => ?_
 repeat' first | refine GK 28 rfl rfl (by simp) hf rfl ?_ | refine Ax 5 ?_ (j6 := f6) | refine kz ?_ | refine AF jN ?_ | refine Ao ?_ | refine Ae [0] (kQ) ?_ | refine Ae [0] (kK) ?_ | refine Ae [0] (oD) ?_ | refine AO Ad ?_ ?_ | exact k0 | refine Ab ?_
def sumR (l : List Entry) : List Entry :=
 if h : l.length < 2 then l
 else mergeE (sumR (l.take (l.length / 2))) (sumR (l.drop (l.length / 2)))
 termination_by l.length
 decreasing_by
  ·simp; omega
  ·simp; omega
theorem M8 (l : List Entry) : (∀ e ∈ l, e.count ≠ 0) → sumR l = sortE l := by
 induction l using sumR.induct with
 | case1 l h =>
   intro hn
   rw [sumR, dif_pos h, sortE, dif_pos (by omega)]
   exact (dU.2 fun e he => by simp [hn e he]).symm
 | case2 l h mi lU =>
   intro hn
   rw [sumR, dif_neg h, sortE, dif_neg (by omega), mi (fun e he => hn e (I0 he)), lU (fun e he => hn e (Tn he))]
theorem IV (l : List Entry) : (sumR l).length ≤ l.length := by
 induction l using sumR.induct with
 | case1 l h => rw [sumR, dif_pos h]; exact Nat.le_refl _
 | case2 l h mi lU =>
   rw [sumR, dif_neg h]
   have := DJ (sumR (l.take (l.length / 2))) (sumR (l.drop (l.length / 2)))
   simp at mi lU ⊢
   omega
theorem JZ (l : List Entry) : Ba 68719476736 l → Ba (68719476736 * l.length) (sumR l) := by
 induction l using sumR.induct with
 | case1 l h =>
   intro hw
   rw [sumR, dif_pos h]
   intro e he
   have := hw e he
   have hl : 1 ≤ l.length := by cases l <;> simp at he ⊢
   omega
 | case2 l h mi lU =>
   intro hw
   rw [sumR, dif_neg h]
   have q1 := mi (fun e he => hw e (I0 he))
   have q2 := lU (fun e he => hw e (Tn he))
   refine Bt (Fk (by omega) (by omega) _ _ q1 q2) ?_
   simp; omega
theorem e6 (a : List Entry) : mergeE a [] = a := by cases a <;> simp [mergeE]
theorem cr (b : List Entry) : mergeE [] b = b := by simp [mergeE]
theorem e7 : ∀ (n : Nat) (l : List Entry), l.length ≤ n → l.length ≤ 16777216 → Ba 68719476736 l → PC 185 [.one (Ak l)] (.v (.one (Ak (sumR l)))) := by
 intro n
 induction n with
 | zero =>
   intro l hl _ _
   have : l = [] := XP (by omega)
   subst this
   refine Ac hT Tryz.func185 Tryz.ntmps185 [.tmp 2] fun B => ?_
   repeat' first | refine kz ?_ | refine Az rfl (fun hb => ?_) (fun hb => ?_) | refine Ao ?_ | refine kh ?_ ?_ | exact ⟨⟩ | fail
   rw [sumR]; rfl
 | succ n ih =>
   intro l hl kX hw
   by_cases h1 : l.length < 2
   ·rw [sumR, dif_pos h1]
    refine Ac hT Tryz.func185 Tryz.ntmps185 [.tmp 2] fun B => ?_
    repeat' first | refine kz ?_ | refine Az rfl (fun hb => ?_) (fun hb => ?_) | refine Ao ?_ | refine kh ?_ ?_ | exact ⟨⟩ | fail
    all_goals rfl
   ·rw [sumR, dif_neg h1]
    have i7 : (l.take (l.length / 2)).length = l.length / 2 := by simp; omega
    have hld : (l.drop (l.length / 2)).length = l.length - l.length / 2 := by simp
    have c1 := ih (l.take (l.length / 2)) (by omega) (by omega) (fun e he => hw e (I0 he))
    have c2 := ih (l.drop (l.length / 2)) (by omega) (by omega) (fun e he => hw e (Tn he))
    have w1 := JZ (l.take (l.length / 2)) (fun e he => hw e (I0 he))
    have w2 := JZ (l.drop (l.length / 2)) (fun e he => hw e (Tn he))
    have l1 := IV (l.take (l.length / 2))
    have l2 := IV (l.drop (l.length / 2))
    generalize sumR (l.take (l.length / 2)) = a at *
    generalize sumR (l.drop (l.length / 2)) = b at *
    have wa : Ba 1152921504606846976 a := Bt w1 (by omega)
    have wb : Ba 1152921504606846976 b := Bt w2 (by omega)
    refine Ac hT Tryz.func185 Tryz.ntmps185 [.tmp 2] fun B => ?_
    repeat' first | refine kz ?_ | refine Az rfl (fun hb => ?_) (fun hb => ?_) | refine Ao ?_ | refine Aa (c1) ?_ | refine Aa (c2) ?_ | refine kh ?_ ?_ | exact ⟨⟩ | fail
    clear ih c1 c2 w1 w2 hw
    refine Bv 5 56 2 ?_
    refine AK (X := List Entry × List Entry × Nat × List Entry) (List.range' 3 5 ++ List.range' 24 63) (fun x => Ba 1152921504606846976 x.1 ∧ Ba 1152921504606846976 x.2.1 ∧ x.2.2.2.length + x.1.length + x.2.1.length ≤ 16777216 ∧ x.2.2.2 ++ mergeE x.1 x.2.1 = mergeE a b) (fun x lz => (3, .c (.d (Ak x.1))) :: (4, .c (.d (Ak x.2.1))) :: (5, .c (.arr 0 x.2.2.1 x.2.2.2.length)) :: lz) (fun x => [.arr x.2.2.1 56 2 (x.2.2.2.map Entry.d)]) (fun x => x.1.length + x.2.1.length) ((a, b, 1, [])) ?_ ?_ ?_ ?_
    repeat' first | exact k0 | refine kw ?_ | omega
    ·exact ⟨wa, wb, by simp; omega, rfl⟩
    rintro ⟨a', b', k, out⟩ c ⟨h3, h4, h5, hinv⟩
    dsimp only at h3 h4 h5 hinv ⊢
    by_cases kT : a'.length = 0 ∨ b'.length = 0
    ·have hM : out ++ a' ++ b' = mergeE a b := by
      rw [← hinv]
      rcases kT with h | h
      · obtain rfl := XR.1 h
        rw [cr, List.append_nil]
      · obtain rfl := XR.1 h
        rw [e6, List.append_nil]
     have kT : a'.length = 0 ∨ (0 < a'.length ∧ b'.length = 0) := by omega
     rw [← hM]
     rcases kT with kT | kT
     all_goals
      repeat' first | refine kz ?_ | refine Az rfl (fun hb => ?_) (fun hb => ?_) | refine Ao ?_ | refine kh ?_ ?_ | exact ⟨⟩ | fail
      · simp; omega
      · simp only [CR, BR, Ag', Ak]
        rw [JF (by simp; omega)]
    ·obtain ⟨x, a2, rfl⟩ : ∃ x a2, a' = x :: a2 := by
      cases a' with
      | nil => exact absurd (.inl rfl) kT
      | cons x a2 => exact ⟨x, a2, rfl⟩
     obtain ⟨y, b2, rfl⟩ : ∃ y b2, b' = y :: b2 := by
      cases b' with
      | nil => exact absurd (.inr rfl) kT
      | cons y b2 => exact ⟨y, b2, rfl⟩
     obtain ⟨lu, om⟩ := h3 x (by simp)
     obtain ⟨pG, uw⟩ := h4 y (by simp)
     have wx : Ba 1152921504606846976 a2 := fun e he => h3 e (by simp [he])
     have wy : Ba 1152921504606846976 b2 := fun e he => h4 e (by simp [he])
     simp only [List.length_cons] at h5
     have hv : (x :: a2)[0]? = some x := rfl
     have hu : (y :: b2)[0]? = some y := rfl
     rw [mergeE] at hinv
     have ta : List.take (List.map Entry.d a2).length a2 = a2 := by simp
     have tb : List.take (List.map Entry.d b2).length b2 = b2 := by simp
     have da : Dat.sl (List.map Entry.d a2) = Ak a2 := rfl
     have db : Dat.sl (List.map Entry.d b2) = Ak b2 := rfl
     have o1 : ∀ z : Entry, out.length + [[A0 z.row, Dat.lit (Value.int IntKind.i64 z.count)]].length = (out ++ [z]).length := fun z => by simp
     have o2 : ∀ z : Entry, out.map Entry.d ++ [[A0 z.row, Dat.lit (Value.int IntKind.i64 z.count)]] = (out ++ [z]).map Entry.d := fun z => by rw [Ag']; rfl
     repeat' first | refine kz ?_ | refine Az rfl (fun hb => ?_) (fun hb => ?_) | refine AF hv ?_ | refine AF hu ?_ | refine Ao ?_ | refine Aa (Bd _ _) ?_ | refine kh ?_ ?_ | exact ⟨⟩ | fail
     ·rw [if_pos hb] at hinv
      rw [ta, da, o1 x, o2 x]
      have hq : (out ++ [x]) ++ mergeE a2 (y :: b2) = mergeE a b := by rw [← hinv, Hc]; rfl
      have o0 : (out ++ [x]).length = out.length + 1 := by simp
      generalize out ++ [x] = pD at hq o0 ⊢
      apply Af ((a2, y :: b2, _, pD)) <;> (try dsimp only) <;> try repeat' first | exact k0 | refine w1 ?_ | refine Ab ?_ | omega
      · exact ⟨wx, h4, by simp only [List.length_cons]; omega, hq⟩
      · simp only [List.length_cons]; omega
     ·rw [if_neg (by omega), if_pos hb] at hinv
      rw [tb, db, o1 y, o2 y]
      have hq : (out ++ [y]) ++ mergeE (x :: a2) b2 = mergeE a b := by rw [← hinv, Hc]; rfl
      have o0 : (out ++ [y]).length = out.length + 1 := by simp
      generalize out ++ [y] = pD at hq o0 ⊢
      apply Af ((x :: a2, b2, _, pD)) <;> (try dsimp only) <;> try repeat' first | exact k0 | refine w1 ?_ | refine Ab ?_ | omega
      · exact ⟨h3, wy, by simp only [List.length_cons]; omega, hq⟩
      · simp only [List.length_cons]; omega
     ·rw [if_neg (by omega), if_neg (by omega), if_neg hb] at hinv
      rw [ta, da, tb, db, o1 ⟨x.row, x.count + y.count⟩, o2 ⟨x.row, x.count + y.count⟩]
      have hq : (out ++ [⟨x.row, x.count + y.count⟩]) ++ mergeE a2 b2 = mergeE a b := by rw [← hinv, Hc]
      have o0 : (out ++ [(⟨x.row, x.count + y.count⟩ : Entry)]).length = out.length + 1 := by simp
      generalize out ++ [(⟨x.row, x.count + y.count⟩ : Entry)] = pD at hq o0 ⊢
      apply Af ((a2, b2, _, pD)) <;> (try dsimp only) <;> try repeat' first | exact k0 | refine w1 ?_ | refine Ab ?_ | omega
      · exact ⟨wx, wy, by omega, hq⟩
      · simp only [List.length_cons]; omega
     ·rw [if_neg (by omega), if_neg (by omega), if_pos hb] at hinv
      rw [ta, da, tb, db]
      apply Af ((a2, b2, _, out)) <;> (try dsimp only) <;> try repeat' first | exact k0 | refine w1 ?_ | refine Ab ?_ | omega
      · exact ⟨wx, wy, by omega, by rw [← hinv]; rfl⟩
      · simp only [List.length_cons]; omega
def Co (x y : List Val) (on : List (Int × Int)) : Bool := on.all fun p => decide ((Fs x p.1).kind ≠ 0) && CP (Fs x p.1) (Fs y p.2)
theorem Zf (u y : List Val) (on : List (Int × Int)) : PC 184 [.one (A0 u), .one (A0 y), .one (TG on)] (.v (.one (.lit (.bool (Co u y on))))) := by
 refine Ac hT Tryz.func184 Tryz.ntmps184 [.tmp 6] fun B => ?_
 refine GM 2 rfl fun mI => ?_
 simp only [BR, maxLen] at mI
 repeat' first | refine kz ?_ | refine Az rfl (fun hb => ?_) (fun hb => ?_) | refine Ao ?_ | refine Al rfl rfl (fun hb => ?_) (fun hb => ?_) | refine kf ?_ | fail
 refine AK (X := Nat) (List.range' 6 30) (fun x => x ≤ on.length ∧ (on.take x).all (fun p => decide ((Fs u p.1).kind ≠ 0) && CP (Fs u p.1) (Fs y p.2)) = true) (fun x lz => (7, (iC x)) :: lz) (fun x => []) (fun x => on.length - x) (0) ?_ ?_ ?_ ?_
 repeat' first | exact k0 | refine kw ?_ | omega
 ·exact ⟨by simp, by simp⟩
 rintro i c ⟨hi, hinv⟩
 by_cases i7 : i < on.length
 ·obtain ⟨p, hv⟩ := gx i7
  have ju : ∀ f : Int × Int → Bool, (on.take (i + 1)).all f = ((on.take i).all f && f p) := fun f => by rw [Gm, hv, dJ]; simp
  have kY : (decide ((Fs u p.1).kind ≠ 0) && CP (Fs u p.1) (Fs y p.2)) = false → Co u y on = false := fun h => by
   unfold Co
   rw [dZ]
   intro hh
   have := Eg.1 hh p (Cb hv)
   rw [h] at this; cases this
  have lh := OV u p.1
  have me := OV y p.2
  generalize zP : Fs u p.1 = v at lh kY
  generalize zQ : Fs y p.2 = w at me kY
  have re := Nc v w
  repeat' first | refine kz ?_ | refine Az rfl (fun hb => ?_) (fun hb => ?_) | refine AF hv ?_ | refine Ao ?_ | refine Aa (lh) ?_ | refine Aa (me) ?_ | refine Al rfl rfl (fun hb => ?_) (fun hb => ?_) | refine kf ?_ | fail
  ·rw [kY (by simp [hb])]
  ·rw [re] at hb
   rw [kY (by simp [hb])]
  ·rename_i hk
   rw [re] at hb
   apply Af (i + 1) <;> (try dsimp only) <;> try repeat' first | exact k0 | refine kw ?_ | omega
   exact ⟨by omega, by rw [ju, hinv]; simp [hk, hb, zP, zQ]⟩
 ·have k8 : i = on.length := by omega
  subst k8
  rw [Ir] at hinv
  have hm : Co u y on = true := hinv
  rw [hm]
  repeat' first | refine kz ?_ | refine Az rfl (fun hb => ?_) (fun hb => ?_) | refine Ao ?_ | refine Al rfl rfl (fun hb => ?_) (fun hb => ?_) | refine kf ?_ | fail
  all_goals rfl
def A4 (b : List Entry) : Bool := b.all (fun e => decide (e.row.length ≤ 8)) && Am b
theorem Qy (b : List Entry) : PC 183 [.one (Ak b)] (.v (.one (.lit (.bool (A4 b))))) := by
 have jQ := Bz b
 refine Ac hT Tryz.func183 Tryz.ntmps183 [.tmp 2] fun B => ?_
 refine GM 0 rfl fun mI => ?_
 simp only [BR, maxLen] at mI
 repeat' first | refine kz ?_ | refine Az rfl (fun hb => ?_) (fun hb => ?_) | refine Ao ?_ | refine kf ?_ | fail
 refine AK (X := Nat) (List.range' 2 15) (fun x => x ≤ b.length ∧ (b.take x).all (fun e => decide (e.row.length ≤ 8)) = true) (fun x lz => (3, (iC x)) :: lz) (fun x => []) (fun x => b.length - x) (0) ?_ ?_ ?_ ?_
 repeat' first | exact k0 | refine kw ?_ | omega
 ·exact ⟨by simp, by simp⟩
 rintro i c ⟨hi, hinv⟩
 by_cases i7 : i < b.length
 ·obtain ⟨e, hv⟩ := gx i7
  have ju : ∀ f : Entry → Bool, (b.take (i + 1)).all f = ((b.take i).all f && f e) := fun f => by rw [Gm, hv, dJ]; simp
  repeat' first | refine kz ?_ | refine Az rfl (fun hb => ?_) (fun hb => ?_) | refine AF hv ?_ | refine Ao ?_ | refine kf ?_ | fail
  ·have hm : A4 b = false := by
    unfold A4
    have : b.all (fun e => decide (e.row.length ≤ 8)) = false := by
     rw [dZ]
     intro hh
     have := Eg.1 hh e (Cb hv)
     simp at this; omega
    rw [this]; rfl
   rw [hm]
  ·apply Af (i + 1) <;> (try dsimp only) <;> try repeat' first | exact k0 | refine kw ?_ | omega
   exact ⟨by omega, by rw [ju, hinv]; simp; omega⟩
 ·have k8 : i = b.length := by omega
  subst k8
  rw [Ir] at hinv
  have hm : A4 b = Am b := by unfold A4; rw [hinv]; rfl
  rw [hm]
  repeat' first | refine kz ?_ | refine Az rfl (fun hb => ?_) (fun hb => ?_) | refine Ao ?_ | refine Aa (jQ) ?_ | refine kf ?_ | fail
  all_goals rfl
end Go.Proofs.YtmpgmjlanngkfaaGreat
end
