/-
  Algebra: Where.
-/
import Derived.Test.YtmpgmjlanngkfaaGreatDex
import Derived.Test.YtmpgmjlanngkfaaGreatAgk
import Derived.Test.YtmpgmjlanngkfaaGreatMrg
import Derived.Test.YtmpgmjlanngkfaaGreatExg
import Derived.Test.YtmpgmjlanngkfaaGreatPos
section
namespace Go.Abs
open Go.RowKit
variable {P : Program} {T : TypeId → Option TI} {F0 : Nat → Prop} {w0 : World}
variable {dr : Bool} {ops rest : List Oper} {K : St → Prop} {n : Nat} {sl : List (Nat × SVal)} {mem : List Blk} {ck : Nat} {df : List (FuncId × List Cell)} {acc : List Nat}
variable {d : Tmp} {op : Op} {ty : TypeId} {pos : String} {aft : Array Edge} {g : Option (Nat × Bool)}
variable {B : Base} {Q : Ex → St → Prop}
theorem Rv (s o r : Nat) {k0 k m : Nat} {ety : TypeId} {esz : Nat} {es es1 : List (List Dat)} {cs : List Cell} {m1 : List Blk} {c : Code} (h : ARun P B c ⟨n, sl, m1, ck, df⟩ Q) (hs : mem[s]? = some (.box k0 cs)) (ho : cs[o]? = some (.arr r k m)) (hm : mem[r]? = some (.arr k ety esz es)) (hl : m ≤ es.length) (hes : es.take m = es1) (hm1 : (mem.set r .dead).set s (.box k0 (cs.set o (.d (.sl es1)))) = m1) : ARun P B c ⟨n, sl, mem, ck, df⟩ Q := by
 subst hes; subst hm1
 rintro a w ⟨E, ⟨hw, hsz', hdf, hsl⟩, hle⟩
 have hf := hw.freeze r k ety esz es hm
 have hsr : s ≠ r := by
  rintro rfl
  rw [hs] at hm; cases hm
 have hs' : (mem.set r .dead)[s]? = some (.box k0 cs) := by rw [Kt (Ne.symm hsr)]; exact hs
 obtain ⟨p1, p2, p3, cc, ety', p4, p5, p6⟩ := hf.1.mem.ok s _ hs'
 obtain ⟨q1, q2, q3, cd, ety'', q4, q5, q6⟩ := hw.mem.ok s _ hs
 have hcc : cd = cc := by
  have p4' : w.heap[E.blk s]? = some (.cells cc ety' (0, 0)) := p4
  rw [q4] at p4'
  simp only [Option.some.injEq, Obj.cells.injEq] at p4'
  exact p4'.1
 subst hcc
 refine h a w ⟨_, ⟨hf.1.swap s _ _ hs' (fun q => q) ⟨p1, p2, p3, cd, ety', p4, by simpa using p5, fun j v x hj hx => ?_⟩, hsz', hdf.le hf.2, fun s => (hsl s).le hf.2⟩, hle.trans hf.2⟩
 by_cases hjo : j = o
 ·subst hjo
  rw [I7 (lt_of_getElem? ho)] at hx
  simp only [Option.some.injEq] at hx
  subst hx
  exact .d (D2 (F := fun i => E.F i ∨ (i = E.blk r ∧ E.cap r ≠ 0)) hw hm hl (q6 j v _ hj ho) (fun b hb => .inl hb) (fun hz => .inr ⟨rfl, hz⟩))
 ·rw [Kt (Ne.symm hjo)] at hx
  exact p6 j v x hj hx
end Go.Abs
end
section
namespace Go.Proofs.YtmpgmjlanngkfaaGreat
open Go.Abs Go.RowKit
attribute [local irreducible] ARun Au MCall PCall HCall Ak SF CF CFs Af Ag Ar fin AP VLe
set_option linter.unusedSimpArgs false
set_option maxRecDepth 100000
set_option maxHeartbeats 4000000
def PX (l : List Int) : Dat := .sl (l.map fun n => [.lit (.int .i64 n)])
structure Sta where
 key : List Val
 count : Int
 sums : List Int
 some : List Int
def Sta.d (s : Sta) : List Dat := [BP s.key, .lit (.int .i64 s.count), PX s.sums, PX s.some]
def Sta.x (s : Sta) : List Dat := [Ez s.key, .lit (.int .i64 s.count), PX s.sums, PX s.some]
def c9 (l : List Sta) : Dat := .sl (l.map Sta.d)
def Sta.zero (s : Sta) : Bool := decide (s.count = 0) && !(s.sums.any fun n => decide (n ≠ 0)) && !(s.some.any fun n => decide (n ≠ 0))
def X8 (l : List Agg) : Bool := l.all fun x => decide (x.func = 0 ∨ x.func = 1)
def dc (es : List Entry) (x : Agg) : Int := if x.func = 1 then IJ (CE x es) else 0
def dd (es : List Entry) (x : Agg) : Int := if x.func = 1 then IK (CE x es) else 0
def nE (es : List Entry) : Int := (es.map Entry.count).sum
def dh (ag : List Agg) (g : List Val × List Entry) : Sta := ⟨g.1, nE g.2, ag.map (dc g.2), ag.map (dd g.2)⟩
def di (f : Agg → Int) (ag : List Agg) (k : Nat) : List (List Dat) := ((ag.take k).map fun x => [Dat.lit (.int .i64 (f x))]) ++ List.replicate (ag.length - k) [Dat.lit (.int .i64 0)]
theorem Ka : Val.null.valid = true := by decide +kernel
theorem UP {α β : Type} {f g : α → β} {l : List α} {i : Nat} {e : α} (h : l[i]? = some e) : ((l.take i).map f ++ (l.drop i).map g)[i]? = some (g e) := by
 have hlt := lt_of_getElem? h
 rw [LB (by simp; omega), BQ, GN, Nat.min_eq_left (by omega), U6, Ay h]; rfl
theorem map_set {α β : Type} {f g : α → β} {l : List α} {i : Nat} {e : α} (h : l[i]? = some e) : ((l.take i).map f ++ (l.drop i).map g).set i (f e) = (l.take (i + 1)).map f ++ (l.drop (i + 1)).map g := by
 have hlt := lt_of_getElem? h
 have hl : ((l.take i).map f).length = i := by simp; omega
 rw [Hn f h, Ay h, Zt _ _ (by omega), hl, U6, GR]; rfl
theorem OA {β : Type} {l : List β} {i : Nat} {v : β} (h : l[i]? = some v) : l.set i v = l := by
 apply PJ
 intro j
 by_cases hj : i = j
 ·subst hj; rw [I7 (lt_of_getElem? h), h]
 ·rw [Kt hj]
theorem OB (t : Tape) : t.short.valid = true := by
 have h : ∀ v ∈ shortVals, v.valid = true := by
   intro v hv
   simp only [shortVals, Fb, List.not_mem_nil, or_false] at hv
   rcases hv with rfl | rfl | rfl | rfl | rfl | rfl
   ·exact Ka
   all_goals exact Dt _
 unfold Tape.short
 rw [PI]
 cases hq : shortVals[(t.nx 6).toNat]? with
 | none => exact Ka
 | some v => exact h v (Cl hq)
theorem Y0 (t : Tape) : -3 ≤ t.num ∧ t.num ≤ 3 := by
 have h : ∀ z ∈ entNums, -3 ≤ z ∧ z ≤ 3 := by decide
 unfold Tape.num
 rw [PI]
 cases hq : entNums[(t.nx 8).toNat]? with
 | none => decide
 | some v => exact h v (Cl hq)
theorem Kb (t : Tape) : ∀ j, ∀ v ∈ (CM t j).1, v.valid = true
 | 0 => by simp [CM]
 | j + 1 => by
   intro v hv
   rw [CM] at hv
   rcases Ej.1 hv with hv | hv
   ·exact Kb t j v hv
   ·obtain rfl := IT.1 hv; exact OB _
theorem Kc (t : Tape) : ∀ j, (CM t j).1.length = j
 | 0 => rfl
 | j + 1 => by rw [CM]; simp [Kc t j]
theorem Ih (t : Tape) (w : Nat) (hw : w ≤ 16) : ∀ m, ∀ e ∈ (C3 t w m).1, AD e.row = true ∧ -3 ≤ e.count ∧ e.count ≤ 3
 | 0 => by simp [C3]
 | m + 1 => by
   intro e he
   rw [C3] at he
   rcases Ej.1 he with he | he
   ·exact Ih t w hw m e he
   ·obtain rfl := IT.1 he
    refine ⟨?_, Y0 _⟩
    simp only [AD, Bi, decide_eq_true_eq, CN]
    exact ⟨by rw [Kc]; exact hw, Kb _ _⟩
theorem Kd (t : Tape) (w : Nat) : ∀ m, ∀ e ∈ (C3 t w m).1, e.row.length = w
 | 0 => by simp [C3]
 | m + 1 => by
   intro e he
   rw [C3] at he
   rcases Ej.1 he with he | he
   ·exact Kd t w m e he
   ·obtain rfl := IT.1 he
    exact Kc _ _
theorem KC (M : Int) (hM : 0 ≤ M) (l : List Entry) : A2 M l → A2 (M * l.length) (sortE l) := by
 induction l using sortE.induct with
 | case1 l h =>
   intro hw
   rw [sortE, dif_pos h]
   intro e he
   have hm := (Ms.1 he).1
   have := hw e hm
   have hl : l.length = 1 := by cases l <;> simp at hm h ⊢; omega
   rw [hl]; omega
 | case2 l h ih1 ih2 =>
   intro hw
   rw [sortE, dif_neg h]
   have q1 := ih1 (fun e he => hw e (IS he))
   have q2 := ih2 (fun e he => hw e (U1 he))
   have p1 := XT hM (show (0 : Int) ≤ ((l.take (l.length / 2)).length : Int) by omega)
   have p2 := XT hM (show (0 : Int) ≤ ((l.drop (l.length / 2)).length : Int) by omega)
   refine BD (Ep p1 p2 _ _ q1 q2) ?_
   rw [← Int.mul_add]
   refine Int.mul_le_mul_of_nonneg_left ?_ hM
   simp; omega
theorem Ke {l : List Entry} (h : ∀ e ∈ l, AD e.row = true ∧ -3 ≤ e.count ∧ e.count ≤ 3) (hl : l.length ≤ 1000) : (A4 l).2 = 0 ∧ Aj (A4 l).1 = true ∧ A2 3000 (A4 l).1 ∧ (A4 l).1.length ≤ l.length := by
 have hall : l.all AU = true := CN.2 fun e he => by
  obtain ⟨h1, h2, h3⟩ := h e he
  simp only [AU, Av, Bi, decide_eq_true_eq]
  exact ⟨h1, by omega, by omega⟩
 have hw : A2 (3 * l.length) (sortE l) := KC 3 (by omega) l (fun e he => (h e he).2)
 have hw2 : A2 3000 (sortE l) := BD hw (by omega)
 have hlen := F6 l
 have hz : (A4 l).2 = 0 := by
  rw [A4, if_pos hall, AS, if_neg (by omega), if_pos]
  refine CN.2 fun e he => ?_
  have := hw2 e he
  simp only [Av, Bi, decide_eq_true_eq]
  omega
 obtain ⟨g1, g2, g3, g4⟩ := DC hz
 rw [g1]
 exact ⟨hz, g3, hw2, hlen⟩
def Bv (sg : Bool) (e : Entry) : Entry := if sg = false ∧ e.count < 0 then ⟨e.row, -e.count⟩ else e
end Go.Proofs.YtmpgmjlanngkfaaGreat
end
section
namespace Go.Abs
open Go.RowKit
section
variable {P : Program} {B : Base} {n : Nat} {sl : List (Nat × SVal)} {mem : List Blk} {ck : Nat} {df : List (FuncId × List Cell)} {Q : Ex → St → Prop}
theorem Ub {a : Act} {w : World} (h : Rel B ⟨n, sl, mem, ck, df⟩ a w) : Rel B ⟨n, sl, mem, ck + 1, df⟩ a w := by
 obtain ⟨E, ⟨h1, h2, h3, h4⟩, hB⟩ := h
 exact ⟨E, ⟨⟨h1.below, h1.base, h1.F, ⟨fun r => Nat.le_succ_of_le (h1.mem.clock r), h1.mem.ok, h1.mem.apart⟩, h1.N⟩, h2, h3, h4⟩, hB⟩
theorem Pg {c : Code} (h : ARun P B c ⟨n, sl, mem, ck + 1, df⟩ Q) : ARun P B c ⟨n, sl, mem, ck, df⟩ Q :=
 L0 (τ := ⟨n, sl, mem, ck + 1, df⟩) rfl (fun _ _ hr => Ub hr) h
theorem Uc (r : Nat) {k : Nat} {ety : TypeId} {esz : Nat} {es : List (List Dat)} {c : Code} (h : k ≤ ck → ARun P B c ⟨n, sl, mem, ck, df⟩ Q) (hm : mem[r]? = some (.arr k ety esz es) := by exact rfl) : ARun P B c ⟨n, sl, mem, ck, df⟩ Q := by
 intro a w hr
 refine h ?_ a w hr
 obtain ⟨E, ⟨h1, _⟩, _⟩ := hr
 have h2 : E.ver r = k := (h1.mem.ok r _ hm).1
 have h3 : E.ver r ≤ ck := h1.mem.clock r
 omega
end
section
variable {P : Program} {T : TypeId → Option TI} {F0 : Nat → Prop} {w0 : World}
variable {dr : Bool} {ops rest : List Oper} {K : St → Prop} {n : Nat} {sl : List (Nat × SVal)} {mem : List Blk} {ck : Nat} {df : List (FuncId × List Cell)} {acc : List Nat}
variable {d : Tmp} {op : Op} {ty : TypeId} {pos : String} {aft : Array Edge} {g : Option (Nat × Bool)}
theorem Ph [tc : TC P T] (r kn : Nat) {t e : TypeId} {x y : Operand} {i ei : TI} {u : SVal} {ys es es' : List (List Dat)} {k j m : Nat} {mem' : List Blk} (h : Reg P F0 w0 dr ops K rest ⟨n, (d, .c (.arr r kn m)) :: sl, mem', ck, df⟩ (B6 r false :: acc)) (hkn : kn ≤ ck) (hlt : k < kn) (hj : j ≤ es.length) (hl : j + ys.length = m) (hmx : m ≤ maxLen) (hby : m * ei.bytes ≤ 140737488355328) (hsz : ∀ el ∈ ys, el.length = ei.size) (hes : es.take j ++ ys = es') (hm : mem[r]? = some (.arr k e ei.size es) := by exact rfl) (hw : GW ops g sl := by first | exact trivial | exact rfl)
  (hx : AH sl x = .c (.arr r k j) := by exact rfl) (hy : AH sl y = u := by exact (rfl : _ = SVal.c _)) (hs : Ft u = some ys := by exact rfl) (ht : T t = some i := by exact rfl) (hi : i.desc = .slice e := by exact rfl) (hei : T e = some ei := by exact rfl) (hkk : Nat.beq ei.zero.length ei.size = true := by exact rfl) (hm' : mem.set r (.arr kn e ei.size es') = mem' := by exact rfl) :
  Reg P F0 w0 dr ops K (⟨some d, .call ⟨.builtin .append, #[x, y], #[t, t]⟩, ty, pos, aft, g⟩ :: rest) ⟨n, sl, mem, ck, df⟩ acc := by
 subst hm'; subst hes; subst hl
 refine cm hw hm hkn (fun M c hM hc => Bx fun E w ρ hw' hρ => ?_) h
 have e1 := hρ x (by simp [Op.operands, Call.operands])
 have e2 := hρ y (by simp [Op.operands, Call.operands])
 rw [hx] at e1; rw [hy] at e2
 have hrep := LJ e2 hs
 have hv : E.ver r < kn := by have := (hw'.mem.ok r _ hM).1; omega
 have hs1 : CRep E w (ρ x) (.arr r k j) := by
  generalize ρ x = vx at e1
  cases e1 with | c h => exact h
 obtain ⟨v', w', E', q1, q2, q3, q4⟩ := Je tc.ok (ty := ty) hw' ht hi hei (by simpa using hkk) hsz hrep hM hs1 hj hmx hby hv (Nat.le_refl _) hc
 exact ⟨v', w', E', by simp [execOp, resolve, invoke, builtin, q1], q2, q3, .c q4⟩
end
end Go.Abs
end
section
namespace Go.Proofs.YtmpgmjlanngkfaaGreat
open Go.Abs Go.RowKit
attribute [local irreducible] ARun Au MCall PCall HCall Ak SF CF CFs Af Ag Ar fin AP VLe
set_option linter.unusedSimpArgs false
set_option maxRecDepth 100000
set_option maxHeartbeats 4000000
def txts : List ByteArray := [⟨#[97]⟩, ⟨#[98]⟩, ⟨#[]⟩, ⟨#[97, 98]⟩, ⟨#[97, 32, 98]⟩, ⟨#[120, 0, 121]⟩, ⟨#[255, 34, 92]⟩, ⟨#[98, 32, 97, 32, 98]⟩, ⟨#[108, 111, 110, 103, 32, 116, 101, 120, 116, 32, 111, 102, 32, 116, 104, 105, 114, 116, 121, 45, 116, 119, 111, 32, 98, 121, 116, 101, 115, 32, 105, 116]⟩, ⟨#[66]⟩]
def sD (s : ByteArray) : List Dat := [.lit (.string s)]
def ints : List Int := [0, 1, 2, 3, -1, -2, 7, 100, 4294967296, -4294967296, 5, 4]
def Tape.text (t : Tape) : Val := Val.ofText (txts.getD (t.nx 10).toNat ⟨#[]⟩)
def Tape.int (t : Tape) : Val := Val.ofInt (ints.getD (t.nx 12).toNat 0)
theorem YX (t : Tape) (ht : t.ok) : HC 127 [.c (.bp 0 0 0)] [(tB t)] (.agg (t.text.d.map .d)) [(tB (t.go 10))] := by
 have hn := Ii t 10 ht (by omega) (by omega)
 obtain ⟨b1, b2⟩ := t.nx_bd 10
 have hv : txts[(t.nx 10).toNat]? = some (txts.getD (t.nx 10).toNat ⟨#[]⟩) := by
  rw [PI, Bh (by simp [txts]; omega)]; rfl
 have hv1 : (txts.map sD)[(t.nx 10).toNat]? = some (sD (txts.getD (t.nx 10).toNat ⟨#[]⟩)) := by rw [B2, hv]; rfl
 have hr := Lv (txts.getD (t.nx 10).toNat ⟨#[]⟩)
 change PCall _ _ _ (.v (.agg t.text.d)) at hr
 generalize txts.getD (t.nx 10).toNat ⟨#[]⟩ = s at hv hv1 hr
 generalize t.nx 10 = z at hn b1 b2 hv hv1
 generalize t.go 10 = t' at hn
 refine AI hT Tryz.func127 Tryz.ntmps127 [.cell 2 73] fun B => ?_
 repeat' first | refine kz ?_ | refine AX hv1 ?_ | refine Aw ?_ | refine Aa (hr) ?_ | refine Ah [0] (hn) ?_ | refine EL Ae ?_ ?_ | exact k0 | refine Ab ?_
theorem aC (t : Tape) (ht : t.ok) : HC 128 [.c (.bp 0 0 0)] [(tB t)] (.agg (t.int.d.map .d)) [(tB (t.go 12))] := by
 have hn := Ii t 12 ht (by omega) (by omega)
 obtain ⟨b1, b2⟩ := t.nx_bd 12
 have hv : ints[(t.nx 12).toNat]? = some (ints.getD (t.nx 12).toNat 0) := by
  rw [PI, Bh (by simp [ints]; omega)]; rfl
 have hv1 : (ints.map iD)[(t.nx 12).toNat]? = some (iD (ints.getD (t.nx 12).toNat 0)) := by rw [B2, hv]; rfl
 have hr := EM (ints.getD (t.nx 12).toNat 0)
 change PCall _ _ _ (.v (.agg t.int.d)) at hr
 generalize ints.getD (t.nx 12).toNat 0 = s at hv hv1 hr
 generalize t.nx 12 = z at hn b1 b2 hv hv1
 generalize t.go 12 = t' at hn
 refine AI hT Tryz.func128 Tryz.ntmps128 [.cell 2 73] fun B => ?_
 repeat' first | refine kz ?_ | refine AX hv1 ?_ | refine Aw ?_ | refine Aa (hr) ?_ | refine Ah [0] (hn) ?_ | refine EL Ae ?_ ?_ | exact k0 | refine Ab ?_
def Tape.val (t : Tape) : Val × Tape :=
 if t.nx 5 = 0 then (Val.null, t.go 5)
 else if t.nx 5 = 1 ∨ t.nx 5 = 2 then ((t.go 5).text, (t.go 5).go 10)
 else ((t.go 5).int, (t.go 5).go 12)
theorem FH : DeferOk Tryz.prog 104 0 := by
 refine ⟨⟨_, Tryz.func104, by kernel_rfl, by kernel_rfl⟩, fun vs w hl => ?_⟩
 match vs, hl with
 | [], _ =>
   refine callsD_of_wpS Tryz.func104 rfl fun c₀ cs hu => ?_
   apply wpS_region
   simp [wpOpsS, go_sem, recoverD, hu, Tryz.ntmps104, Exit.thenS]
   cases c₀
   simp_all [bodyPostS, results, Tryz.results104]
def keepE (e : List Trm) (x : Entry) : Bool := decide (e.length = 0) || H0 e x.row
def BE (b : List Entry) (e : List Trm) : List Entry := if Aj b then b.filter (keepE e) else []
theorem NY {α : Type} {p : α → Bool} {l : List α} {i : Nat} {x : α} (h : l[i]? = some x) : (l.take (i + 1)).filter p = (l.take i).filter p ++ if p x then [x] else [] := by
 rw [IU, h, XP]
 congr 1
 cases hp : p x <;> simp [hp]
theorem Wa (b : List Entry) (e : List Trm) : PC 56 [.one (Am b), .one (Bw e)] (.v (.one (Am (BE b e)))) := by
 have hv := BT b
 cases hb : Aj b
 ·rw [show BE b e = [] by rw [BE, hb]; rfl]
  rw [hb] at hv
  refine Ac hT Tryz.func56 Tryz.ntmps56 [.tmp 4] fun B => ?_
  repeat' first | refine kz ?_ | refine Aw ?_ | refine Aa (hv) ?_ | refine kf ?_ | refine BA (by repeat (first | exact Ae | refine As FH ?_)) ?_
  all_goals rfl
 rw [hb] at hv
 obtain ⟨bl, bm⟩ := AF hb
 rw [show BE b e = b.filter (keepE e) by rw [BE, hb, if_pos rfl]]
 have hcl : ∀ (i : Nat), ((b.take i).filter (keepE e)).length ≤ 4096 := fun i => by
  have h1 := Sl (keepE e) (b.take i)
  have h2 := List.length_take_le i b
  have h3 : (b.take i).length ≤ b.length := by simp; omega
  omega
 refine Ac hT Tryz.func56 Tryz.ntmps56 [.tmp 4] fun B => ?_
 repeat' first | refine kz ?_ | refine Aw ?_ | refine Aa (hv) ?_ | refine kf ?_ | refine BA (by repeat (first | exact Ae | refine As FH ?_)) ?_
 refine Cr 5 56 2 ?_
 refine A0 (X := Nat × Nat × List Entry) ([5, 7] ++ List.range' 13 23) (fun x => x.1 ≤ b.length ∧ x.2.2 = (b.take x.1).filter (keepE e)) (fun x lz => (5, .c (.arr 0 x.2.1 x.2.2.length)) :: (13, (iC x.1)) :: lz) (fun x => [.arr x.2.1 56 2 (x.2.2.map Entry.d)]) (fun x => b.length - x.1) ((0, 1, [])) ?_ ?_ ?_ ?_
 repeat' first | exact k0 | refine kw ?_ | refine kv ?_ ?_ | omega
 ·exact ⟨by simp, rfl⟩
 rintro ⟨i, k, out⟩ c ⟨hi, hout⟩
 dsimp only at hi hout ⊢
 have hol : out.length ≤ 4096 := by rw [hout]; exact hcl i
 by_cases hlt : i < b.length
 ·obtain ⟨x, hx⟩ := gx hlt
  have hxl : x.row.length ≤ 1000000 := by
   have := (bm x (Cl hx)).1
   simp only [AD, Bi, decide_eq_true_eq] at this
   omega
  have hsn := NY (p := keepE e) hx
  rw [← hout] at hsn
  have hcln := Mi x.row hxl
  have hh := Rr e x.row
  clear hout hv bm hb
  by_cases h0 : e.length = 0
  ·rw [show keepE e x = true by rw [keepE, decide_eq_true h0]; rfl, if_pos rfl] at hsn
   repeat' first | refine kz ?_ | refine AX hx ?_ | refine Aw ?_ | refine Aa (hcln) ?_ | refine kf ?_ | fail
   apply Ad ((i + 1, _, out ++ [x])) <;> (try dsimp only) <;> try repeat' first | exact k0 | refine w1 ?_ | refine Ab ?_ | refine m1 ?_ ?_ | omega
   all_goals first | (exact ⟨by omega, hsn.symm⟩) | (simp; done) | (rw [Ah']; rfl)
  ·cases hk : H0 e x.row with
   | true =>
     rw [show keepE e x = true by rw [keepE, hk, Bool.or_true], if_pos rfl] at hsn
     rw [hk] at hh
     repeat' first | refine kz ?_ | refine AX hx ?_ | refine Aw ?_ | refine Aa (hcln) ?_ | refine Aa (hh) ?_ | refine kf ?_ | fail
     apply Ad ((i + 1, _, out ++ [x])) <;> (try dsimp only) <;> try repeat' first | exact k0 | refine w1 ?_ | refine Ab ?_ | refine m1 ?_ ?_ | omega
     all_goals first | (exact ⟨by omega, hsn.symm⟩) | (simp; done) | (rw [Ah']; rfl)
   | false =>
     rw [show keepE e x = false by rw [keepE, hk, decide_eq_false h0]; rfl] at hsn
     simp only [Bool.false_eq_true, if_false, List.append_nil] at hsn
     rw [hk] at hh
     repeat' first | refine kz ?_ | refine AX hx ?_ | refine Aw ?_ | refine Aa (hcln) ?_ | refine Aa (hh) ?_ | refine kf ?_ | fail
     apply Ad ((i + 1, _, out)) <;> (try dsimp only) <;> try repeat' first | exact k0 | refine w1 ?_ | refine Ab ?_ | refine m1 ?_ ?_ | omega
     all_goals exact ⟨by omega, hsn.symm⟩
 ·have hie : i = b.length := by omega
  subst hie
  rw [PK] at hout
  rw [← hout]
  have hf : List.take out.length (out.map Entry.d) = out.map Entry.d := Ao (by simp)
  repeat' first | refine Bc 5 ?_ (hes := hf) | refine kz ?_ | refine Aw ?_ | refine O5 ?_ | refine JH ?_ | refine BA (by repeat (first | exact Ae | refine As FH ?_)) ?_ | refine B7 ?_ | refine Cv ?_
  all_goals rfl
end Go.Proofs.YtmpgmjlanngkfaaGreat
end
