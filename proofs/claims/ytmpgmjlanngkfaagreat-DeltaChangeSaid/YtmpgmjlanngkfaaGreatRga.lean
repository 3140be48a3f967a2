/-
  Aggregates, the document's: first, integers, nth, fold, Fold.
-/
import Derived.Test.YtmpgmjlanngkfaaGreatCmf
import Derived.Test.YtmpgmjlanngkfaaGreatAgi
import Derived.Test.YtmpgmjlanngkfaaGreatLaid
import Derived.Test.YtmpgmjlanngkfaaGreatDex
import Derived.Test.YtmpgmjlanngkfaaGreatTap
section
namespace Go.Proofs.YtmpgmjlanngkfaaGreat
open Go.Abs Go.RowKit
attribute [local irreducible] ARun Av MCall PCall HCall Ap SF CF CFs Ag Ai As fin AY VLe
set_option linter.unusedSimpArgs false
set_option maxRecDepth 100000
set_option maxHeartbeats 4000000
theorem LL : Val.null.valid = true := by decide +kernel
theorem cM {α β : Type} {f g : α → β} {l : List α} {i : Nat} {e : α} (h : l[i]? = some e) : ((l.take i).map f ++ (l.drop i).map g)[i]? = some (g e) := by
 have i7 := lt_of_getElem? h
 rw [Oy (by simp; omega), BR, Gu, Nat.min_eq_left (by omega), Ts, AB h]; rfl
theorem map_set {α β : Type} {f g : α → β} {l : List α} {i : Nat} {e : α} (h : l[i]? = some e) : ((l.take i).map f ++ (l.drop i).map g).set i (f e) = (l.take (i + 1)).map f ++ (l.drop (i + 1)).map g := by
 have i7 := lt_of_getElem? h
 have hl : ((l.take i).map f).length = i := by simp; omega
 rw [D3 f h, AB h, aR _ _ (by omega), hl, Ts, Hc]; rfl
theorem XC {β : Type} {l : List β} {i : Nat} {v : β} (h : l[i]? = some v) : l.set i v = l := by
 apply Sa
 intro j
 by_cases hj : i = j
 ·subst hj; rw [J5 (lt_of_getElem? h), h]
 ·rw [J7 hj]
theorem QM (t : Tape) : t.short.valid = true := by
 have h : ∀ v ∈ shortVals, v.valid = true := by
   intro v hv
   simp only [shortVals, FL, List.not_mem_nil, or_false] at hv
   rcases hv with rfl | rfl | rfl | rfl | rfl | rfl
   ·exact LL
   all_goals exact FX _
 unfold Tape.short
 rw [QW]
 cases hq : shortVals[(t.nx 6).toNat]? with
 | none => exact LL
 | some v => exact h v (Cb hq)
theorem cN (t : Tape) : -3 ≤ t.num ∧ t.num ≤ 3 := by
 have h : ∀ z ∈ entNums, -3 ≤ z ∧ z ≤ 3 := by decide
 unfold Tape.num
 rw [QW]
 cases hq : entNums[(t.nx 8).toNat]? with
 | none => decide
 | some v => exact h v (Cb hq)
theorem LM (t : Tape) : ∀ j, ∀ v ∈ (Dt t j).1, v.valid = true
 | 0 => by simp [Dt]
 | j + 1 => by
   intro v hv
   rw [Dt] at hv
   rcases EY.1 hv with hv | hv
   ·exact LM t j v hv
   ·obtain rfl := Ke.1 hv; exact QM _
theorem LN (t : Tape) : ∀ j, (Dt t j).1.length = j
 | 0 => rfl
 | j + 1 => by rw [Dt]; simp [LN t j]
theorem Nj (t : Tape) (w : Nat) (hw : w ≤ 16) : ∀ m, ∀ e ∈ (D6 t w m).1, AR e.row = true ∧ -3 ≤ e.count ∧ e.count ≤ 3
 | 0 => by simp [D6]
 | m + 1 => by
   intro e he
   rw [D6] at he
   rcases EY.1 he with he | he
   ·exact Nj t w hw m e he
   ·obtain rfl := Ke.1 he
    refine ⟨?_, cN _⟩
    simp only [AR, BM, decide_eq_true_eq, Eg]
    exact ⟨by rw [LN]; exact hw, LM _ _⟩
theorem QN (t : Tape) (w : Nat) : ∀ m, ∀ e ∈ (D6 t w m).1, e.row.length = w
 | 0 => by simp [D6]
 | m + 1 => by
   intro e he
   rw [D6] at he
   rcases EY.1 he with he | he
   ·exact QN t w m e he
   ·obtain rfl := Ke.1 he
    exact LN _ _
theorem Ma (M : Int) (hM : 0 ≤ M) (l : List Entry) : Ba M l → Ba (M * l.length) (sortE l) := by
 induction l using sortE.induct with
 | case1 l h =>
   intro hw
   rw [sortE, dif_pos h]
   intro e he
   have hm := (L1.1 he).1
   have := hw e hm
   have hl : l.length = 1 := by cases l <;> simp at hm h ⊢; omega
   rw [hl]; omega
 | case2 l h mi lU =>
   intro hw
   rw [sortE, dif_neg h]
   have q1 := mi (fun e he => hw e (I0 he))
   have q2 := lU (fun e he => hw e (Tn he))
   have p1 := ep hM (show (0 : Int) ≤ ((l.take (l.length / 2)).length : Int) by omega)
   have p2 := ep hM (show (0 : Int) ≤ ((l.drop (l.length / 2)).length : Int) by omega)
   refine Bt (Fk p1 p2 _ _ q1 q2) ?_
   rw [← Int.mul_add]
   refine Int.mul_le_mul_of_nonneg_left ?_ hM
   simp; omega
theorem LO {l : List Entry} (h : ∀ e ∈ l, AR e.row = true ∧ -3 ≤ e.count ∧ e.count ≤ 3) (hl : l.length ≤ 1000) : (Bh l).2 = 0 ∧ Am (Bh l).1 = true ∧ Ba 3000 (Bh l).1 ∧ (Bh l).1.length ≤ l.length := by
 have j9 : l.all Bb = true := Eg.2 fun e he => by
  obtain ⟨h1, h2, h3⟩ := h e he
  simp only [Bb, AD, BM, decide_eq_true_eq]
  exact ⟨h1, by omega, by omega⟩
 have hw : Ba (3 * l.length) (sortE l) := Ma 3 (by omega) l (fun e he => (h e he).2)
 have mU : Ba 3000 (sortE l) := Bt hw (by omega)
 have hlen := Hy l
 have hz : (Bh l).2 = 0 := by
  rw [Bh, if_pos j9, AU, if_neg (by omega), if_pos]
  refine Eg.2 fun e he => ?_
  have := mU e he
  simp only [AD, BM, decide_eq_true_eq]
  omega
 obtain ⟨g1, g2, g3, g4⟩ := Fw hz
 rw [g1]
 exact ⟨hz, g3, mU, hlen⟩
def DL (sg : Bool) (e : Entry) : Entry := if sg = false ∧ e.count < 0 then ⟨e.row, -e.count⟩ else e
end Go.Proofs.YtmpgmjlanngkfaaGreat
end
section
namespace Go.Abs
open Go.RowKit
variable {es : List (List Dat)} {i6 k : Nat} {iX : TypeId}
variable {P : Program} {T : TypeId → Option TI} {F0 : Nat → Prop} {w0 : World}
variable {dr : Bool} {ops rest : List Oper} {K : St → Prop} {n : Nat} {sl : List (Nat × SVal)} {mem : List Blk} {ck : Nat} {df : List (FuncId × List Cell)} {acc : List Nat}
variable {d : Tmp} {op : Op} {ty : TypeId} {pos : String} {iU : Array Edge} {g : Option (Nat × Bool)}
theorem WQ [tc : TC P T] {t : TypeId} {x y : Operand} {i : TI} {r j o : Nat} {ji : List (List Dat)} {e e' : List Dat} {v : SVal} {cs : List Cell} {ds : List Dat} {f' : List Blk} (h : Reg P F0 w0 dr ops K rest ⟨n, sl, f', ck, df⟩ (BS r false :: acc)) (hw : GW ops g sl := by first | exact trivial | exact rfl) (hx : AH sl x = .c (.ap r k i6 j o) := by exact rfl) (hy : AH sl y = v := by first | exact (rfl : _ = SVal.c _) | exact (rfl : _ = SVal.agg _) | exact rfl) (hc : v.cells = some cs := by exact rfl) (nw : Eh cs = some ds := by exact rfl) (ht : T t = some i := by exact rfl) (hl : cs.length = i.size := by exact rfl) (hm : mem[r]? = some (.arr k iX i6 es) := by exact rfl) (hs : decide (o + i.size ≤ i6) = true := by exact rfl) (hj : es[j]? = some e) (kd : e.take o ++ ds ++ e.drop (o + i.size) = e' := by exact rfl) (j6 : es.set j e' = ji := by exact rfl) (iZ : mem.set r (.arr k iX i6 ji) = f' := by exact rfl) : Reg P F0 w0 dr ops K (⟨none, .store t x y, ty, pos, iU, g⟩ :: rest) ⟨n, sl, mem, ck, df⟩ acc := by
 subst iZ; subst j6; subst kd
 exact eN (v := .junk) hw hm (fun M c hM => Does.of tc.ok fun τ he jn je Kk hK => by
  subst jn; subst je
  have ex := he x (by simp [Op.operands])
  have ey := he y (by simp [Op.operands])
  rw [hx] at ex
  rw [hy] at ey
  simp only [AV, Fe, ht, ex, ey, hc, hM, nw]
  exact ⟨hl, trivial, trivial, by simpa using hs, Cg hj (hK _ _ _ _ ⟨rfl, rfl, rfl, rfl⟩)⟩) h
theorem WR [tc : TC P T] {t e : TypeId} {x y : Operand} {i ei : TI} {kk : IntKind} {z : Int} {r m j : Nat} (h : Reg P F0 w0 dr ops K rest ⟨n, (d, .c (.ap r k i6 j 0)) :: sl, mem, ck, df⟩ (BS r true :: acc)) (hw : GW ops g sl := by first | exact trivial | exact rfl) (hx : AH sl x = .c (.arr r k m) := by exact rfl) (hy : AH sl y = .c (.d (.lit (.int kk z))) := by exact rfl) (ht : T t = some i := by exact rfl) (hi : i.desc = .slice e := by exact rfl) (kd : T e = some ei := by exact rfl) (hm : mem[r]? = some (.arr k iX i6 es) := by exact rfl) (j3 : i6 = ei.size := by exact rfl) (hz : 0 ≤ z := by omega) (nK : z < (m : Int) := by omega) (mK : m ≤ es.length := by first | omega | exact Nat.le_refl _ | (simp only [BR, Gu, CR, List.length_cons, List.length_nil, JG, Fm, J6]; omega)) (hj : z.toNat = j := by first | exact To _ | exact rfl) : Reg P F0 w0 dr ops K (⟨some d, .indexAddr t x y, ty, pos, iU, g⟩ :: rest) ⟨n, sl, mem, ck, df⟩ acc :=
 NP hw hm (fun mem ck hm => Does.of tc.ok fun τ he jn hc Kk hK => by
  subst jn; subst hc; subst hj
  have ex := he x (by simp [Op.operands])
  have ey := he y (by simp [Op.operands])
  rw [hx] at ex
  rw [hy] at ey
  obtain ⟨a1, a2, a3, a4, a5⟩ := i
  simp only at hi
  subst hi
  simp only [AV, Ff, ht, kd, ex, ey, hm]
  exact ⟨hz, nK, trivial, j3, mK, hK _ _ _ _ ⟨rfl, rfl, rfl, rfl⟩⟩) h
variable {B : Base} {Q : Ex → St → Prop}
theorem Ht (s o r : Nat) {k0 m : Nat} {lH : List (List Dat)} {cs : List Cell} {m1 : List Blk} {c : Code} (h : ARun P B c ⟨n, sl, m1, ck, df⟩ Q) (hs : mem[s]? = some (.box k0 cs)) (ho : cs[o]? = some (.arr r k m)) (hm : mem[r]? = some (.arr k iX i6 es)) (hl : m ≤ es.length) (j6 : es.take m = lH) (lq : (mem.set r .dead).set s (.box k0 (cs.set o (.d (.sl lH)))) = m1) : ARun P B c ⟨n, sl, mem, ck, df⟩ Q := by
 subst j6; subst lq
 rintro a w ⟨E, ⟨hw, kO, ml, jy⟩, hle⟩
 have hf := hw.freeze r k iX i6 es hm
 have uv : s ≠ r := by
  rintro rfl
  rw [hs] at hm; cases hm
 have kE : (mem.set r .dead)[s]? = some (.box k0 cs) := by rw [J7 (Ne.symm uv)]; exact hs
 obtain ⟨p1, p2, p3, cc, tT, p4, p5, p6⟩ := hf.1.mem.ok s _ kE
 obtain ⟨q1, q2, q3, cd, xV, q4, q5, q6⟩ := hw.mem.ok s _ hs
 have su : cd = cc := by
  have wz : w.heap[E.blk s]? = some (.cells cc tT (0, 0)) := p4
  rw [q4] at wz
  simp only [Option.some.injEq, Obj.cells.injEq] at wz
  exact wz.1
 subst su
 refine h a w ⟨_, ⟨hf.1.swap s _ _ kE (fun q => q) ⟨p1, p2, p3, cd, tT, p4, by simpa using p5, fun j v x hj hx => ?_⟩, kO, ml.le hf.2, fun s => (jy s).le hf.2⟩, hle.trans hf.2⟩
 by_cases xW : j = o
 ·subst xW
  rw [J5 (lt_of_getElem? ho)] at hx
  simp only [Option.some.injEq] at hx
  subst hx
  exact .d (Ek (F := fun i => E.F i ∨ (i = E.blk r ∧ E.cap r ≠ 0)) hw hm hl (q6 j v _ hj ho) (fun b hb => .inl hb) (fun hz => .inr ⟨rfl, hz⟩))
 ·rw [J7 (Ne.symm xW)] at hx
  exact p6 j v x hj hx
end Go.Abs
end
section
namespace Go.Proofs.YtmpgmjlanngkfaaGreat
open Go.Abs Go.RowKit
attribute [local irreducible] ARun Av MCall PCall HCall Ap SF CF CFs Ag Ai As fin AY VLe
set_option linter.unusedSimpArgs false
set_option maxRecDepth 100000
set_option maxHeartbeats 4000000
variable {L : List (Val × Int)} {i : Nat}
theorem X6 (f : Int) (L : List (Val × Int)) (hf : f = 2 ∨ f = 3 ∨ f = 4) : foldE f L = rkE f L := by
 unfold foldE rkE
 rcases hf with rfl | rfl | rfl
 ·rw [if_neg (by decide), if_neg (by decide), if_pos rfl]; simp
 ·rw [if_neg (by decide), if_neg (by decide), if_neg (by decide), if_pos rfl]; simp
 ·rw [if_neg (by decide), if_neg (by decide), if_neg (by decide), if_neg (by decide), if_pos rfl]; simp
theorem bt (f : Int) (L : List (Val × Int)) (hb : Nv L) (hp : Ea L) : PC 145 [.one (.lit (.int .i64 f)), .one (E1 L)] (.v (.agg (foldE f L).d)) := by
 have hl := hb.1
 by_cases h0 : f = 0
 ·subst h0
  have hn := JK (Dx L)
  have he : foldE 0 L = Val.ofInt (Dx L) := by unfold foldE; rw [if_pos rfl]
  rw [he]
  refine Ac hT Tryz.func145 Tryz.ntmps145 [.cell 4 73] fun B => ?_
  repeat' first | refine kz ?_ | refine Ao ?_ | refine kh ?_ ?_ | exact ⟨⟩ | fail
  refine AK (X := Nat × Int) ([5, 7] ++ List.range' 15 9) (fun x => x.1 ≤ L.length ∧ x.2 = Dx (L.take x.1)) (fun x lz => (15, (iC x.1)) :: (5, .c (.d (.lit (.int .i64 x.2)))) :: lz) (fun x => [.box 1 (Val.null.d.map .d)]) (fun x => L.length - x.1) ((0, 0)) ?_ ?_ ?_ ?_
  repeat' first | exact k0 | refine kw ?_ | omega
  ·exact ⟨by simp, rfl⟩
  rintro ⟨k, m⟩ c ⟨hk, hm⟩
  dsimp only at hk hm ⊢
  by_cases nZ : k < L.length
  ·obtain ⟨x, hv⟩ := gx (l := L) (i := k) (by omega)
   have jL : (L.map CU)[k]? = some (CU x) := by rw [BU, hv]; rfl
   have e1 := KE hv
   have b1 := I4 hb (k + 1)
   rw [← hm] at e1
   repeat' first | refine kz ?_ | refine AF jL ?_ | refine Ao ?_ | refine kh ?_ ?_ | exact ⟨⟩ | fail
   apply Af ((k + 1, m + x.2)) <;> (try dsimp only) <;> try repeat' first | exact k0 | refine kw ?_ | omega
   all_goals exact ⟨by omega, e1.symm⟩
  ·rw [Ah (show L.length ≤ k by omega)] at hm
   rw [← hm] at hn ⊢
   repeat' first | refine kz ?_ | refine Ao ?_ | refine Aa (hn) ?_ | refine kh ?_ ?_ | exact ⟨⟩ | fail
   all_goals rfl
 by_cases h1 : f = 1
 ·subst h1
  have hs := Vm L hb
  have hn := JK (Gz L)
  by_cases hc : Gn L = 0
  ·have he : foldE 1 L = Val.null := by unfold foldE; rw [if_neg (by decide), if_pos rfl, if_pos hc]
   rw [he]
   rw [hc] at hs
   refine Ac hT Tryz.func145 Tryz.ntmps145 [.cell 4 73] fun B => ?_
   repeat' first | refine kz ?_ | refine Ao ?_ | refine Aa (hs) ?_ | refine kh ?_ ?_ | exact ⟨⟩ | fail
   all_goals rfl
  ·have he : foldE 1 L = Val.ofInt (Gz L) := by unfold foldE; rw [if_neg (by decide), if_pos rfl, if_neg hc]
   rw [he]
   generalize Gn L = n at hs hc
   refine Ac hT Tryz.func145 Tryz.ntmps145 [.cell 4 73] fun B => ?_
   repeat' first | refine kz ?_ | refine Ao ?_ | refine Aa (hs) ?_ | refine Aa (hn) ?_ | refine kh ?_ ?_ | exact ⟨⟩ | fail
   all_goals rfl
 by_cases h2 : f = 2 ∨ f = 3 ∨ f = 4
 ·have hr := Vs L hb hp f h2
  rw [X6 f L h2]
  rcases h2 with rfl | rfl | rfl
  all_goals
   refine Ac hT Tryz.func145 Tryz.ntmps145 [.cell 4 73] fun B => ?_
   repeat' first | refine kz ?_ | refine Ao ?_ | refine Aa (hr) ?_ | refine kh ?_ ?_ | exact ⟨⟩ | fail
   all_goals rfl
 ·have he : foldE f L = Val.null := by unfold foldE; rw [if_neg h0, if_neg h1, if_neg (by omega), if_neg (by omega), if_neg (by omega)]
  rw [he]
  refine Ac hT Tryz.func145 Tryz.ntmps145 [.cell 4 73] fun B => ?_
  repeat' first | refine kz ?_ | refine Ao ?_ | refine kh ?_ ?_ | exact ⟨⟩ | fail
  all_goals first
   | rfl
   | (exfalso; simp at hb; omega)
structure Agg where
 name : ByteArray
 func : Int
 expr : List Trm
def Agg.d (x : Agg) : List Dat := [.lit (.string x.name), .lit (.int .i64 x.func), AW x.expr]
def Tz (l : List Agg) : Dat := .sl (l.map Agg.d)
def X7 (x : Agg) (e : Entry) : Val × Int := (if x.func = 0 then Val.null else EC x.expr e.row, e.count)
def CG (x : Agg) (es : List Entry) : List (Val × Int) := es.map (X7 x)
theorem Rc {ag : Agg} {es : List Entry} {y : Entry} (h : es[i]? = some y) : (CG ag (es.take i)).map CU ++ [CU (X7 ag y)] = (CG ag (es.take (i + 1))).map CU := by
 rw [Bp h]; simp [CG]
theorem I5 (ag : Agg) (es : List Entry) : (CG ag es).length = es.length := by simp [CG]
theorem Vt (g : List Val × List Entry) (ag : Agg) (hl : g.2.length ≤ 4096) : PC 118 [.agg (U5 g), .agg ag.d] (.v (.one (E1 (CG ag g.2)))) := by
 obtain ⟨key, es⟩ := g
 dsimp only at hl ⊢
 refine Ac hT Tryz.func118 Tryz.ntmps118 [.tmp 4] fun B => ?_
 repeat' first | refine kz ?_ | refine Ao ?_ | refine kf ?_ | fail
 refine Bv 5 186 4 ?_
 refine AK (X := Nat × Nat) ([5, 7, 8] ++ List.range' 12 20) (fun x => x.1 ≤ es.length) (fun x lz => (12, (iC x.1)) :: (5, .c (.arr 2 x.2 x.1)) :: lz) (fun x => [.box 1 [.d (Fq key), .d (Ak es)], .box 2 (ag.d.map .d), .arr x.2 186 4 ((CG ag (es.take x.1)).map CU)]) (fun x => es.length - x.1) ((0, 3)) ?_ ?_ ?_ ?_
 repeat' first | exact k0 | refine kw ?_ | refine kv ?_ ?_ | omega
 rintro ⟨i, k⟩ c hi
 dsimp only at hi ⊢
 by_cases i7 : i < es.length
 ·obtain ⟨y, hv⟩ := gx i7
  have hs := Rc (ag := ag) hv
  have jM : ((CG ag (es.take i)).map CU).length = i := by simp [CG]; omega
  have jL : (es.map Entry.d)[i]? = some y.d := by rw [BU, hv]; rfl
  generalize (CG ag (es.take i)).map CU = A at hs jM ⊢
  by_cases hf : ag.func = 0
  ·have hy : CU (X7 ag y) = Val.null.d ++ [.lit (.int .i64 y.count)] := by unfold X7 CU; rw [if_pos hf]; rfl
   rw [hy] at hs
   repeat' first | refine kz ?_ | refine AF jL ?_ | refine Ao ?_ | refine kf ?_ | fail
   apply Af ((i + 1, c + 3)) <;> (try dsimp only) <;> try repeat' first | exact k0 | refine kw ?_ | refine kv ?_ ?_ | omega
   all_goals first
    | omega
    | (rw [Ah (by omega)]; exact hs)
  ·have qe := GU ag.expr y.row
   have hy : CU (X7 ag y) = (EC ag.expr y.row).d ++ [.lit (.int .i64 y.count)] := by unfold X7 CU; rw [if_neg hf]; rfl
   rw [hy] at hs
   repeat' first | refine kz ?_ | refine AF jL ?_ | refine Ao ?_ | refine Aa (qe) ?_ | refine kf ?_ | fail
   apply Af ((i + 1, c + 3)) <;> (try dsimp only) <;> try repeat' first | exact k0 | refine kw ?_ | refine kv ?_ ?_ | omega
   all_goals first
    | omega
    | (rw [Ah (by omega)]; exact hs)
 ·obtain rfl : i = es.length := by omega
  rw [Ah (Nat.le_refl _)]
  refine Ax (m := es.length) (r := 2) (es := (CG ag es).map CU) 5 ?_ (hl := by rw [BR, I5]; omega) (j6 := Ah (by rw [BR, I5]; omega))
  repeat' first | refine kz ?_ | refine Ao ?_ | refine kf ?_ | fail
  all_goals rfl
def Ik : List Val → Val
 | [] => Val.null
 | v :: _ => v
def vc (e : Entry) : Val × Int := (Ik e.row, e.count)
def Dp (l : List Entry) : List (Val × Int) := l.map vc
theorem F7 (l : List Entry) : (Dp l).length = l.length := by simp [Dp]
theorem Ew {l : List Entry} {e : Entry} (h : l[i]? = some e) : (Dp l)[i]? = some (vc e) := by unfold Dp; rw [BU, h]; rfl
theorem Oh (r : List Val) : PC 187 [.one (A0 r)] (.v (.agg (Ik r).d)) := by
 cases r with
 | nil =>
   refine Ac hT Tryz.func187 Tryz.ntmps187 [.cell 2 73] fun B => ?_
   repeat' first | refine kz ?_ | refine Ao ?_ | refine kh ?_ ?_ | exact ⟨⟩ | fail
   all_goals rfl
 | cons v r =>
   have hv : ((v :: r).map Val.d)[0]? = some v.d := rfl
   have hl : ((v :: r).map Val.d).length = r.length + 1 := by simp
   unfold A0
   generalize (v :: r).map Val.d = M at hv hl
   refine Ac hT Tryz.func187 Tryz.ntmps187 [.cell 2 73] fun B => ?_
   repeat' first | refine kz ?_ | refine AF hv ?_ | refine Ao ?_ | refine kh ?_ ?_ | exact ⟨⟩ | fail
   all_goals rfl
theorem RY (l : List Entry) (h : Nv (Dp l)) : PC 188 [.one (Ak l)] (.tup [.one (.lit (.int .i64 (Gz (Dp l)))), .one (.lit (.int .i64 (Gn (Dp l))))]) := by
 have hl := h.1
 rw [F7] at hl
 refine Ac hT Tryz.func188 Tryz.ntmps188 [.tmp 2, .tmp 3] fun B => ?_
 repeat' first | refine kz ?_ | refine Ao ?_ | refine kh ?_ ?_ | exact ⟨⟩ | fail
 refine AK (X := Nat × Int × Int) (List.range' 4 36) (fun x => x.1 ≤ l.length ∧ x.2.1 = Gz ((Dp l).take x.1) ∧ x.2.2 = Gn ((Dp l).take x.1)) (fun x lz => (6, (iC x.1)) :: (4, .c (.d (.lit (.int .i64 x.2.1)))) :: (5, .c (.d (.lit (.int .i64 x.2.2)))) :: lz) (fun x => []) (fun x => l.length - x.1) ((0, 0, 0)) ?_ ?_ ?_ ?_
 repeat' first | exact k0 | refine kw ?_ | omega
 ·exact ⟨by simp, rfl, rfl⟩
 rintro ⟨i, s, m⟩ c ⟨hi, hs, hm⟩
 dsimp only at hi hs hm ⊢
 by_cases i7 : i < l.length
 ·obtain ⟨e, hv⟩ := gx i7
  have hx := h.2 _ (Cb (Ew hv))
  have jL : (l.map Entry.d)[i]? = some e.d := by rw [BU, hv]; rfl
  have b1 := Ki h i
  have b2 := Si h i
  have b3 := Ki h (i + 1)
  have b4 := Nw hx.1 hx.2
  have e1 := Ml (Ew hv)
  have e2 := Mm (Ew hv)
  rw [← hs] at b1 e1
  rw [← hm] at b2 e2
  have hf := Oh e.row
  unfold vc at e1 e2 b4 hx
  dsimp only at e1 e2 b4 hx
  generalize Ik e.row = u at hf e1 e2 b4 hx
  by_cases hk : u.kind = 1
  ·rw [if_pos hk] at e1 e2
   obtain ⟨p, hp⟩ : ∃ p, p = u.int * e.count := ⟨_, rfl⟩
   rw [← hp] at b4 e1
   repeat' first | refine kz ?_ | refine AF jL ?_ | refine Ao ?_ | refine Aa (hf) ?_ | refine kh ?_ ?_ | exact ⟨⟩ | fail
   apply Af ((i + 1, s + u.int * e.count, m + e.count)) <;> (try dsimp only) <;> try repeat' first | exact k0 | refine kw ?_ | omega
   all_goals exact ⟨by omega, by rw [e1, hp], e2.symm⟩
  ·rw [if_neg hk, Int.add_zero] at e1 e2
   repeat' first | refine kz ?_ | refine AF jL ?_ | refine Ao ?_ | refine Aa (hf) ?_ | refine kh ?_ ?_ | exact ⟨⟩ | fail
   apply Af ((i + 1, s, m)) <;> (try dsimp only) <;> try repeat' first | exact k0 | refine kw ?_ | omega
   all_goals exact ⟨by omega, e1.symm, e2.symm⟩
 ·rw [Ah (show (Dp l).length ≤ i by rw [F7]; omega)] at hs hm
  rw [← hs, ← hm]
  repeat' first | refine kz ?_ | refine Ao ?_ | refine kh ?_ ?_ | exact ⟨⟩ | fail
  all_goals rfl
theorem Xt {x : Val × Int} (h : L[i]? = some x) : Cj (L.drop i) = (if QX x then [x] else []) ++ Cj (L.drop (i + 1)) := by
 rw [AB h, Ny, ZE]
 split <;> rfl
theorem Lz (l : List Entry) (i0 : Int) (h : Nv (Dp l)) (hp : Ea (Dp l)) (h0 : 0 ≤ i0) (h1 : i0 ≤ 1099511627776) : PC 189 [.one (Ak l), .one (.lit (.int .i64 i0))] (.v (.agg (Cs (Cj (Dp l)) i0).d)) := by
 have hl := h.1
 rw [F7] at hl
 refine Ac hT Tryz.func189 Tryz.ntmps189 [.cell 4 73] fun B => ?_
 repeat' first | refine kz ?_ | refine Ao ?_ | refine kh ?_ ?_ | exact ⟨⟩ | fail
 refine AK (X := Nat × Int) ([1] ++ List.range' 5 30) (fun x => x.1 ≤ l.length ∧ 0 ≤ x.2 ∧ x.2 ≤ 1099511627776 ∧ Cs (Cj (Dp l)) i0 = Cs (Cj ((Dp l).drop x.1)) x.2) (fun x lz => (5, (iC x.1)) :: (1, .c (.d (.lit (.int .i64 x.2)))) :: lz) (fun x => [.box 1 (Val.null.d.map .d)]) (fun x => l.length - x.1) ((0, i0)) ?_ ?_ ?_ ?_
 repeat' first | exact k0 | refine kw ?_ | omega
 ·exact ⟨by simp, h0, h1, rfl⟩
 rintro ⟨i, m⟩ c ⟨hi, mg, lq, hinv⟩
 dsimp only at hi mg lq hinv ⊢
 by_cases i7 : i < l.length
 ·obtain ⟨e, hv⟩ := gx i7
  have hx := h.2 _ (Cb (Ew hv))
  have tg := hp _ (Cb (Ew hv))
  have jL : (l.map Entry.d)[i]? = some e.d := by rw [BU, hv]; rfl
  have hf := Oh e.row
  rw [Xt (Ew hv)] at hinv
  unfold vc QX at hinv
  unfold vc at hx tg
  dsimp only at hinv hx tg
  generalize Ik e.row = u at hf hinv hx
  by_cases hk : u.kind = 0
  ·rw [if_neg (by simp [hk]), List.nil_append] at hinv
   repeat' first | refine GX ?_ | refine kz ?_ | refine AF jL ?_ | refine Ao ?_ | refine Aa (hf) ?_ | refine Bg Ad ?_ | refine Cl ?_ | exact k0 | refine BX ?_ ?_ | refine HD ?_
   apply Af ((i + 1, m)) <;> (try dsimp only) <;> try repeat' first | exact k0 | refine kw ?_ | omega
   all_goals exact ⟨by omega, mg, lq, hinv⟩
  ·rw [if_pos (by simp [hk]), dR, Cs] at hinv
   dsimp only at hinv
   by_cases hc : m < e.count
   ·rw [if_pos hc] at hinv
    rw [hinv]
    repeat' first | refine GX ?_ | refine kz ?_ | refine AF jL ?_ | refine Ao ?_ | refine Aa (hf) ?_ | refine Bg Ad ?_ | refine Cl ?_ | exact k0 | refine BX ?_ ?_ | refine HD ?_
    all_goals rfl
   ·rw [if_neg hc] at hinv
    repeat' first | refine GX ?_ | refine kz ?_ | refine AF jL ?_ | refine Ao ?_ | refine Aa (hf) ?_ | refine Bg Ad ?_ | refine Cl ?_ | exact k0 | refine BX ?_ ?_ | refine HD ?_
    apply Af ((i + 1, m - e.count)) <;> (try dsimp only) <;> try repeat' first | exact k0 | refine kw ?_ | omega
    all_goals exact ⟨by omega, by omega, by omega, hinv⟩
 ·rw [R9 (show (Dp l).length ≤ i by rw [F7]; omega)] at hinv
  rw [hinv]
  repeat' first | refine kz ?_ | refine Ao ?_ | refine kh ?_ ?_ | exact ⟨⟩ | fail
  all_goals rfl
theorem ct (hp : Ea L) : (Dx (Cj L) = 0 ↔ Cj L = []) ∧ (Cj L ≠ [] → 0 < Dx (Cj L)) := by
 have hP : Ea (Cj L) := fun x hx => hp x (L1.1 hx).1
 refine ⟨⟨fun h => ?_, fun h => by rw [h]; rfl⟩, fun h => Ix hP h⟩
 by_cases hn : Cj L = []
 ·exact hn
 ·have := Ix hP hn; omega
theorem M9 (h : Nv L) (i : Nat) : -1073741824 ≤ Dx (Cj (L.take i)) ∧ Dx (Cj (L.take i)) ≤ 1073741824 := by
 have hB : Nv (Cj (L.take i)) := ⟨LX (Nz _) (by rw [Gu]; have := h.1; omega), fun x hx => h.2 x (I0 (L1.1 hx).1)⟩
 have := I4 hB (Cj (L.take i)).length
 rw [Ir] at this
 exact this
def UL (L : List (Val × Int)) : Prop := ∀ x ∈ L, x.1.clean = x.1
theorem Oi (ha : NA L) (hp : Ea L) (hc : UL L) {i : Int} (h0 : 0 ≤ i) (h1 : i < Dx (Cj L)) : Cs (Cj L) i = Cs (ascE L) i :=
 OS (ha.sublist List.filter_sublist) (KI L) (fun x hx => hp x (L1.1 hx).1) (Cv L).symm (fun x hx => hc x (L1.1 hx).1) h0 h1
theorem Zg (f : Int) (l : List Entry) (h : Nv (Dp l)) (hp : Ea (Dp l)) (ha : NA (Dp l)) (hc : UL (Dp l)) : PC 137 [.one (.lit (.int .i64 f)), .one (Ak l)] (.v (.agg (foldE f (Dp l)).d)) := by
 have hl := h.1
 rw [F7] at hl
 refine Ac hT Tryz.func137 Tryz.ntmps137 [.cell 4 73] fun B => ?_
 repeat' first | refine kz ?_ | refine Ao ?_ | refine kh ?_ ?_ | exact ⟨⟩ | fail
 refine AK (X := Nat × Int × Int) ([5, 6, 7] ++ List.range' 10 28) (fun x => x.1 ≤ l.length ∧ x.2.1 = Dx ((Dp l).take x.1) ∧ x.2.2 = Dx (Cj ((Dp l).take x.1))) (fun x lz => (7, (iC x.1)) :: (5, .c (.d (.lit (.int .i64 x.2.1)))) :: (6, .c (.d (.lit (.int .i64 x.2.2)))) :: lz) (fun x => [.box 1 (Val.null.d.map .d)]) (fun x => l.length - x.1) ((0, 0, 0)) ?_ ?_ ?_ ?_
 repeat' first | exact k0 | refine kw ?_ | omega
 ·exact ⟨by simp, rfl, rfl⟩
 rintro ⟨i, s, m⟩ c ⟨hi, hs, hm⟩
 dsimp only at hi hs hm ⊢
 by_cases i7 : i < l.length
 ·obtain ⟨e, hv⟩ := gx i7
  have hx := h.2 _ (Cb (Ew hv))
  have jL : (l.map Entry.d)[i]? = some e.d := by rw [BU, hv]; rfl
  have b1 := I4 h i
  have b2 := M9 h i
  have e1 := KE (Ew hv)
  have e2 : Dx (Cj ((Dp l).take (i + 1))) = Dx (Cj ((Dp l).take i)) + (if (Ik e.row).kind = 0 then 0 else e.count) := by
   rw [KF (Ew hv)]
   unfold QX vc
   by_cases hk : (Ik e.row).kind = 0 <;> simp [hk, Dx]
  rw [← hs] at b1 e1
  rw [← hm] at b2 e2
  have hf := Oh e.row
  unfold vc at e1 hx
  dsimp only at e1 hx
  generalize Ik e.row = u at hf e1 e2 hx
  by_cases hk : u.kind = 0
  ·rw [if_pos hk, Int.add_zero] at e2
   repeat' first | refine GX ?_ | refine kz ?_ | refine AF jL ?_ | refine Ao ?_ | refine Aa (hf) ?_ | refine Bg Ad ?_ | refine Cl ?_ | exact k0 | refine BX ?_ ?_ | refine HD ?_
   apply Af ((i + 1, s + e.count, m)) <;> (try dsimp only) <;> try repeat' first | exact k0 | refine kw ?_ | omega
   all_goals exact ⟨by omega, e1.symm, e2.symm⟩
  ·rw [if_neg hk] at e2
   repeat' first | refine GX ?_ | refine kz ?_ | refine AF jL ?_ | refine Ao ?_ | refine Aa (hf) ?_ | refine Bg Ad ?_ | refine Cl ?_ | exact k0 | refine BX ?_ ?_ | refine HD ?_
   apply Af ((i + 1, s + e.count, m + e.count)) <;> (try dsimp only) <;> try repeat' first | exact k0 | refine kw ?_ | omega
   all_goals exact ⟨by omega, e1.symm, e2.symm⟩
 ·rw [Ah (show (Dp l).length ≤ i by rw [F7]; omega)] at hs hm
  have hb := M9 h l.length
  rw [Ah (show (Dp l).length ≤ l.length by rw [F7]; omega)] at hb
  obtain ⟨n1, n2⟩ := ct hp
  have hz := RY l h
  by_cases f0 : f = 0
  ·subst f0
   have he : foldE 0 (Dp l) = Val.ofInt s := by unfold foldE; rw [if_pos rfl, hs]
   rw [he]
   repeat' first | refine kz ?_ | refine Ao ?_ | refine Aa (Bw _) ?_ | refine kh ?_ ?_ | exact ⟨⟩ | fail
   all_goals rfl
  by_cases f1 : f = 1
  ·subst f1
   by_cases nW : Gn (Dp l) = 0
   ·have he : foldE 1 (Dp l) = Val.null := by unfold foldE; rw [if_neg (by decide), if_pos rfl, if_pos nW]
    rw [he]
    rw [nW] at hz
    repeat' first | refine kz ?_ | refine Ao ?_ | refine Aa (hz) ?_ | refine Aa (Bw _) ?_ | refine kh ?_ ?_ | exact ⟨⟩ | fail
    all_goals rfl
   ·have he : foldE 1 (Dp l) = Val.ofInt (Gz (Dp l)) := by unfold foldE; rw [if_neg (by decide), if_pos rfl, if_neg nW]
    rw [he]
    generalize Gn (Dp l) = q at hz nW
    repeat' first | refine kz ?_ | refine Ao ?_ | refine Aa (hz) ?_ | refine Aa (Bw _) ?_ | refine kh ?_ ?_ | exact ⟨⟩ | fail
    all_goals rfl
  by_cases nj : Cj (Dp l) = []
  ·have he : foldE f (Dp l) = Val.null := by unfold foldE; rw [if_neg f0, if_neg f1]; simp [nj]
   rw [he]
   rw [nj] at hm
   have iZ : m = 0 := hm
   repeat' first | refine kz ?_ | refine Ao ?_ | refine kh ?_ ?_ | exact ⟨⟩ | fail
   all_goals rfl
  have jD := n2 nj
  by_cases f2 : f = 2
  ·subst f2
   have he : foldE 2 (Dp l) = Cs (Cj (Dp l)) 0 := by
    unfold foldE; rw [if_neg (by decide), if_neg (by decide), if_pos rfl, if_neg nj, Oi ha hp hc (by omega) (by omega)]
   have hn := Lz l 0 h hp (by omega) (by omega)
   rw [he]
   generalize Cs (Cj (Dp l)) 0 = R at hn
   repeat' first | refine kz ?_ | refine Ao ?_ | refine Aa (hn) ?_ | refine kh ?_ ?_ | exact ⟨⟩ | fail
   all_goals rfl
  by_cases f3 : f = 3
  ·subst f3
   have he : foldE 3 (Dp l) = Cs (Cj (Dp l)) (m - 1) := by
    unfold foldE; rw [if_neg (by decide), if_neg (by decide), if_neg (by decide), if_pos rfl, if_neg nj, ← Oi ha hp hc (by omega) (by omega), hm]
   have hn := Lz l (m - 1) h hp (by omega) (by omega)
   rw [he]
   generalize Cs (Cj (Dp l)) (m - 1) = R at hn
   repeat' first | refine kz ?_ | refine Ao ?_ | refine Aa (hn) ?_ | refine kh ?_ ?_ | exact ⟨⟩ | fail
   all_goals rfl
  by_cases f4 : f = 4
  ·subst f4
   have hd : IntKind.i64.wrap ((m - 1).tdiv 2) = (m - 1) / 2 := by rw [Int.tdiv_eq_ediv_of_nonneg (by omega), BW (by omega) (by omega)]
   have he : foldE 4 (Dp l) = Cs (Cj (Dp l)) ((m - 1) / 2) := by
    unfold foldE; rw [if_neg (by decide), if_neg (by decide), if_neg (by decide), if_neg (by decide), if_pos rfl, if_neg nj, ← Oi ha hp hc (by omega) (by omega), hm]
   have hn := Lz l ((m - 1) / 2) h hp (by omega) (by omega)
   rw [he]
   rw [← hd] at hn ⊢
   generalize Cs (Cj (Dp l)) (IntKind.i64.wrap ((m - 1).tdiv 2)) = R at hn
   repeat' first | refine kz ?_ | refine Ao ?_ | refine Aa (hn) ?_ | refine kh ?_ ?_ | exact ⟨⟩ | fail
   all_goals rfl
  ·have he : foldE f (Dp l) = Val.null := by unfold foldE; rw [if_neg f0, if_neg f1, if_neg f2, if_neg f3, if_neg f4]
   rw [he]
   repeat' first | refine kz ?_ | refine Ao ?_ | refine kh ?_ ?_ | exact ⟨⟩ | fail
   all_goals rfl
end Go.Proofs.YtmpgmjlanngkfaaGreat
end
