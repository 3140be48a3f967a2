/-
  The table of the types of the program, and that it is the program's own. Printed by a program of ours out of the translation.
-/
import Derived.Test.YtmpgmjlanngkfaaGreatOpa
import Derived.Lib.ConvBytes
import Derived.Test.YtmpgmjlanngkfaaGreatProg
section
namespace Go.Abs
open Go.RowKit
variable {aS ja : List SVal} {f : FuncId} {j5 : List Blk} {k7 : List PV} {y : Dat}
def P4 (n : Nat) : List Nat → Bool
 | [] => true
 | i :: is => Nat.blt i n && (is.all (fun j => !Nat.beq i j) && P4 n is)
theorem Lb {n : Nat} : ∀ {idx : List Nat}, P4 n idx = true → idx.Nodup ∧ ∀ i ∈ idx, i < n
 | [], _ => ⟨by simp, by simp⟩
 | i :: is, h => by
   simp only [P4, BM, Eg, Nat.blt, Md] at h
   obtain ⟨h1, h2, h3⟩ := h
   obtain ⟨g1, g2⟩ := Lb h3
   refine ⟨dK.2 ⟨fun q => ?_, g1⟩, fun j hj => ?_⟩
   ·have := h2 i q
    simp at this
   ·rcases FL.1 hj with rfl | hj
    ·omega
    ·exact g2 j hj
def MN (mem : List Blk) : List Nat → List Blk
 | [] => []
 | i :: is => (match mem[i]? with | some b => b | none => .dead) :: MN mem is
theorem P5 : ∀ {idx : List Nat} {n i : Nat}, i < idx.length → idx[i]? = some (AA idx n i)
 | [], _, _, h => by simp at h
 | r :: is, n, 0, _ => by simp [AA]
 | r :: is, n, i + 1, h => by
   simp only [List.getElem?_cons_succ, AA]
   exact P5 (by simpa using h)
theorem MO {mem : List Blk} : ∀ {idx : List Nat}, (∀ i ∈ idx, i < mem.length) → ∀ (i r : Nat), idx[i]? = some r → (MN mem idx)[i]? = mem[r]?
 | [], _, i, r, h => by simp at h
 | j :: is, i7, 0, r, h => by
   simp only [List.getElem?_cons_zero, Option.some.injEq] at h
   subst h
   have := i7 j (by simp)
   simp [MN, Bo this]
 | j :: is, i7, i + 1, r, h => by
   simp only [MN, List.getElem?_cons_succ]
   exact MO (fun k hk => i7 k (by simp [hk])) i r (by simpa using h)
def Lc (m : List Blk) : List Blk → Nat → Prop
 | [], _ => True
 | b :: bs, i => (match b.vers with | some 0 => Ch m i = 0 | _ => True) ∧ Lc m bs (i + 1)
theorem MP {m : List Blk} : ∀ {bs : List Blk} {k : Nat}, Lc m bs k → ∀ i, (bs[i]?).bind Blk.vers = some 0 → Ch m (k + i) = 0
 | [], _, _, i, h => by simp at h
 | b :: bs, k, hk, 0, h => by
   simp only [List.getElem?_cons_zero, Option.bind_some] at h
   have := hk.1
   rw [h] at this
   exact this
 | b :: bs, k, hk, i + 1, h => by
   have := MP hk.2 i (by simpa using h)
   rw [show k + 1 + i = k + (i + 1) by omega] at this
   exact this
theorem SX {m iW m1 : List Blk} {v r1 r : SVal} (hm : Gj id (CK m) iW 0 = m1) (hr : r1.up id (CK m) = r) (h : As m m1) (ha : AM v r) (hk : Lc m iW 0) : HR m iW v r1 := by
 subst hm; subst hr
 exact ⟨h, ha, fun i hi => by have := MP hk i hi; simpa using this⟩
theorem DM {v : SVal} : AM v v := by
 cases v with
 | c x => exact .inl rfl
 | agg xs =>
   have : ∀ l : List Cell, CLes l l := by
    intro l
    induction l with
    | nil => trivial
    | cons a l ih => exact ⟨.inl rfl, ih⟩
   exact this xs
 | tup xs => exact rfl
 | und => exact rfl
 | junk => exact rfl
theorem WJ {c : Cell} {x : Dat} (h : c.dat = some x) (e : x = y) : AM (.c c) (.c (.d y)) := by subst e; exact .inr ⟨x, rfl, h⟩
theorem FE {x y : SVal} {xs ys : List SVal} (h : AM x y) (h' : AMs xs ys) : AMs (x :: xs) (y :: ys) := ⟨h, h'⟩
theorem DE {r k n n' : Nat} (h : n = n') : AM (.c (.arr r k n)) (.c (.arr r k n')) := by subst h; exact .inl rfl
section
variable {P : Program} {T : TypeId → Option TI} {F0 : Nat → Prop} {w0 : World} {dr : Bool} {ops rest : List Oper} {K : St → Prop} {n : Nat} {sl : List (Nat × SVal)} {mem : List Blk} {ck : Nat} {df : List (FuncId × List Cell)} {acc : List Nat}
variable {d : Tmp} {op : Op} {ty : TypeId} {pos : String} {iU : Array Edge} {g : Option (Nat × Bool)}
theorem HCall.at {iW f' : List Blk} {r1 v : SVal} {N : Nat} (idx : List Nat) (h : HCall P f ja j5 r1 iW) (hN : mem.length = N) (wK : P4 N idx = true) (hl : idx.length = j5.length)
  (hm : MN mem idx = Gj (AA idx N) (Dr mem (AA idx N) ck) j5 0) (ha : AMs aS (ja.map (SVal.up (AA idx N) (Dr mem (AA idx N) ck)))) (hv : r1.up (AA idx N) (Dr mem (AA idx N) ck) = v) (iZ : H9 mem idx (Gj (AA idx N) (Dr mem (AA idx N) ck) iW 0) = f') :
  MCall P F0 w0 f aS mem ck fun v' m c => v' = v ∧ m = f' ∧ c = ck + 1 := by
 subst hN; subst hv; subst iZ
 obtain ⟨g1, g2⟩ := Lb wK
 refine h.frame idx g1 g2 hl (fun i b0 hb => ?_) ha
 have hi : i < idx.length := by rw [hl]; exact lt_of_getElem? hb
 have h1 := P5 (n := mem.length) hi
 have h2 := MO g2 i _ h1
 rw [hm, CC, hb] at h2
 simpa using h2.symm
theorem Ae [tc : TC P T] (idx : List Nat) {f : Operand} {fv : SVal} {args : Array Operand} {mT : Array TypeId} {mw : FuncId} {js : List Cell} {iW f' : List Blk} {r1 v : SVal} {N : Nat} (hp : HCall P mw ja j5 r1 iW)
  (h : Reg P F0 w0 dr ops K rest ⟨n, (d, v) :: sl, f', ck + 1, df⟩ (2 :: acc)) (hw : GW ops g sl := by first | exact trivial | exact rfl) (hf : AH sl f = fv := by exact rfl) (hc : Cr fv = some (mw, js) := by exact rfl) (has : args.toList.map (AH sl) ++ js.map .c = aS := by exact rfl) (hN : mem.length = N := by first | exact (rfl : _ = 0) | exact (rfl : _ = 1) | exact (rfl : _ = 2) | exact (rfl : _ = 3) | exact (rfl : _ = 4) | exact (rfl : _ = 5) | exact (rfl : _ = 6) | exact (rfl : _ = 7) | exact (rfl : _ = 8) | exact (rfl : _ = 9) | exact (rfl : _ = 10) | exact (rfl : _ = 11) | exact (rfl : _ = 12)) (wK : P4 N idx = true := by exact rfl) (hl : idx.length = j5.length := by exact rfl)
  (hm : MN mem idx = Gj (AA idx N) (Dr mem (AA idx N) ck) j5 0 := by exact rfl) (ha : AMs aS (ja.map (SVal.up (AA idx N) (Dr mem (AA idx N) ck))) := by (repeat refine FE (by first | exact DM | exact WJ rfl rfl) ?_); exact trivial)
  (hv : r1.up (AA idx N) (Dr mem (AA idx N) ck) = v := by (try dsimp only [SVal.up, Cell.up, Cell.ups, AA, Dr, Ch, Blk.vers, List.getElem?_cons_zero, List.getElem?_cons_succ]); first | done | exact rfl)
  (iZ : H9 mem idx (Gj (AA idx N) (Dr mem (AA idx N) ck) iW 0) = f' := by (try dsimp only [H9, Gj, Blk.up, Cell.up, Cell.ups, AA, Dr, Ch, Blk.vers, List.getElem?_cons_zero, List.getElem?_cons_succ, List.set_cons_zero, List.set_cons_succ, List.nil_append, List.cons_append, List.append_nil]); first | done | exact rfl) :
  Reg P F0 w0 dr ops K (⟨some d, .call ⟨.value f, args, mT⟩, ty, pos, iU, g⟩ :: rest) ⟨n, sl, mem, ck, df⟩ acc :=
 YA tc.ok hw hf hc has (hp.at idx hN wK hl hm ha hv iZ) h
theorem bZ {T : TypeId → Option TI} (hT : AL P T) {fn : Func} {c : Code} {iW : List Blk} {r1 : SVal} {sl : List (Nat × SVal)} (hf : P.funcs[f]? = some fn) (hb : fn.body = some c) (lV : (fn.name == "runtime.NumGoroutine") = false)
  (n : Nat) (rs : List ResultVar) (lT : fn.ntmps = n) (kZ : fn.results.toList = rs) (hn : decide (ja.length ≤ n) = true) (je : RE ja j5 r1 iW = true) (jy : NT ja 0 = sl) (h : ∀ B : Base, ARun P B c ⟨n, sl, j5, 0, []⟩ (Av P B (AY P T rs (fun r m _ => HR m iW r r1)) [])) : HCall P f ja j5 r1 iW := by
 have key : ∀ F0 w0, MCall P F0 w0 f ja j5 0 fun r m _ => HR m iW r r1 := fun F0 w0 => bU hT hf hb lV n rs lT kZ hn jy fun B _ _ => h B
 exact ⟨je, (key (fun _ => False) default).1, key⟩
theorem Au {T : TypeId → Option TI} (hT : AL P T) {fn : Func} {c : Code} {iW : List Blk} {r1 : SVal} {sl : List (Nat × SVal)} {n : Nat} (hf : P.funcs[f]? = some fn) (lT : fn.ntmps = n) (rs : List ResultVar) (h : ∀ B : Base, ARun P B c ⟨n, sl, j5, 0, []⟩ (Av P B (AY P T rs (fun r m _ => HR m iW r r1)) []))
  (hb : fn.body = some c := by exact rfl) (lV : (fn.name == "runtime.NumGoroutine") = false := by kernel_rfl) (kZ : fn.results.toList = rs := by exact rfl) (hn : decide (ja.length ≤ n) = true := by exact rfl) (je : RE ja j5 r1 iW = true := by exact rfl) (jy : NT ja 0 = sl := by repeat' (first | exact A6 rfl | apply AG (a := ((_, SVal.c _) : Nat × SVal)) rfl | apply AG (a := ((_, SVal.agg _) : Nat × SVal)) rfl)) : HCall P f ja j5 r1 iW :=
 bZ hT hf hb lV n rs lT kZ hn je jy h
variable {B : Base} {iW m1 : List Blk} {r1 r v : SVal}
theorem Ep (hd : Ag P df) (h : As mem m1) (hk : Lc mem iW 0 := by repeat' (first | exact trivial | refine And.intro rfl ?_ | refine And.intro trivial ?_)) (hm : Gj id (CK mem) iW 0 = m1 := by repeat' (first | exact A6 rfl | apply AG rfl)) : Av P B (AY P T [] (fun r m _ => HR m iW r (.tup []))) [] .norm ⟨n, sl, mem, ck, df⟩ := ⟨hd, SX hm rfl h rfl hk⟩
theorem AO {t : Nat} (hd : Ag P df) (h : As mem m1) (ha : AM v r) (hk : Lc mem iW 0 := by repeat' (first | exact trivial | refine And.intro rfl ?_ | refine And.intro trivial ?_)) (hv : look sl t = v := by exact rfl) (hr : r1.up id (CK mem) = r := by exact rfl) (hm : Gj id (CK mem) iW 0 = m1 := by repeat' (first | exact A6 rfl | apply AG rfl)) : Av P B (AY P T [.tmp t] (fun r m _ => HR m iW r r1)) [] .ret ⟨n, sl, mem, ck, df⟩ :=
 ⟨hd, by simp only [TZ, Ap, St.get, hv]; exact SX hm hr h ha hk⟩
theorem SY {t t' : Nat} {v' : SVal} (hd : Ag P df) (h : As mem m1) (ha : AM (.tup [v, v']) r) (hk : Lc mem iW 0 := by repeat' (first | exact trivial | refine And.intro rfl ?_ | refine And.intro trivial ?_)) (hv : look sl t = v := by exact rfl) (jE : look sl t' = v' := by exact rfl) (hr : r1.up id (CK mem) = r := by exact rfl) (hm : Gj id (CK mem) iW 0 = m1 := by repeat' (first | exact A6 rfl | apply AG rfl)) : Av P B (AY P T [.tmp t, .tmp t'] (fun r m _ => HR m iW r r1)) [] .ret ⟨n, sl, mem, ck, df⟩ :=
 ⟨hd, by simp only [TZ, Ap, St.get, hv, jE]; exact SX hm hr h ha hk⟩
def SFs (mem : List Blk) : List SVal → List PV → Prop
 | [], [] => True
 | s :: ss, p :: ps => SF mem s p ∧ SFs mem ss ps
 | _, _ => False
theorem SFs.get {mem : List Blk} : ∀ {ss : List SVal} {ps : List PV}, SFs mem ss ps → ss.length = ps.length ∧ ∀ (i : Nat) s p, ss[i]? = some s → ps[i]? = some p → SF mem s p
 | [], [], _ => ⟨rfl, by simp⟩
 | s :: ss, p :: ps, h => by
   obtain ⟨h1, h2⟩ := SFs.get h.2
   refine ⟨by simp [h1], fun i s' p' hs hp => ?_⟩
   cases i with
   | zero => simp at hs hp; subst hs; subst hp; exact h.1
   | succ i => exact h2 i s' p' (by simpa using hs) (by simpa using hp)
 | [], _ :: _, h => h.elim
 | _ :: _, [], h => h.elim
def PRes.flat : PRes → Bool
 | .v (.one (.lit _)) => true
 | .v (.agg xs) => xs.all fun x => match x with | .lit _ => true | _ => false
 | .tup xs => xs.all fun p => match p with | .one (.lit _) => true | _ => false
 | _ => false
theorem Oa {F F' : Nat → Prop} {w w' : World} {v u : Value} (h : DRep F w v (.lit u)) : DRep F' w' v (.lit u) := by
 cases h with | lit _ h => exact .lit _ h
theorem WK {E E' : Env} {w w' : World} {v : Value} {r : PRes} (hr : r.flat = true) (h : SRep E w v r.s) : SRep E' w' v r.s := by
 cases r with
 | v p =>
   cases p with
   | one x =>
     cases x with
     | lit u => exact .c (.d (Oa h.d_inv))
     | _ => simp [PRes.flat] at hr
   | agg xs =>
     simp only [PRes.flat, Eg] at hr
     simp only [PRes.s, PV.s] at h ⊢
     cases h with | agg _ vs hl hd =>
     refine .agg _ vs hl (fun i u c hu hc => ?_)
     have := hd i u c hu hc
     rw [BU] at hc
     cases hx : xs[i]? with
     | none => rw [hx] at hc; cases hc
     | some x =>
       rw [hx] at hc
       simp only [Option.map_some, Option.some.injEq] at hc
       subst hc
       have hq := hr x (Cb hx)
       cases x with
       | lit u' => exact .d (Oa this.d_of)
       | _ => simp at hq
 | tup xs =>
   simp only [PRes.flat, Eg] at hr
   simp only [PRes.s] at h ⊢
   cases h with | tup _ vs hl hd =>
   refine .tup _ vs hl (fun i u c hu hc => ?_)
   have := hd i u c hu hc
   rw [BU] at hc
   cases hx : xs[i]? with
   | none => rw [hx] at hc; cases hc
   | some x =>
     rw [hx] at hc
     simp only [Option.map_some, Option.some.injEq] at hc
     subst hc
     have hq := hr x (Cb hx)
     cases x with
     | one x =>
       cases x with
       | lit u' => exact .c (.d (Oa this.d_inv))
       | _ => simp at hq
     | agg _ => simp at hq
theorem MCall.borrow {args : List SVal} {r : PRes} (hp : PCall P f k7 r) (ha : SFs mem args k7) (hr : r.flat = true) : MCall P F0 w0 f args mem ck fun v m c => v = r.s ∧ m = mem ∧ c = ck := by
 refine ⟨hp.1, fun E w vs hw hl hv => ?_⟩
 obtain ⟨g1, g2⟩ := ha.get
 have i7 : ∀ b, w0.heap.size ≤ b → b < w.heap.size → b < w.heap.size := fun _ _ q => q
 have jd := hp.2 (fun b => E.F b ∨ (w0.heap.size ≤ b ∧ b < w.heap.size)) w vs (fun k hk => by rcases hk with hk | hk; exact (hw.F k hk).1; exact hk.2) (by omega) (fun i v x mr hx => by
  have i7 := lt_of_getElem? mr
  have hs : args[i]? = some (args[i]'(by omega)) := Bo _
  exact SF.rep hw (g2 i _ x hs hx) (hv i v _ mr hs) (fun b hb => .inl hb) (fun b h1 h2 => .inr ⟨h1, h2⟩))
 refine Calls.mono jd fun e w' he => ?_
 obtain ⟨v, rfl, hb, j4⟩ := he
 have ke := hw.later hb (fun _ => False) (fun _ q => q.elim)
 exact ⟨v, _, r.s, mem, ck, rfl, ke.2, ke.1, WK hr j4, rfl, rfl, rfl⟩
theorem CF.later {mem M : List Blk} {c : Cell} (h : CF mem c y) (ex : Ext mem M) : CF M c y := by
 unfold CF at h ⊢
 split at h
 ·split at h
  ·rename_i hm
   rw [ex _ _ hm rfl]
   exact h
  ·exact h.elim
 ·exact h
theorem CFs.later {mem M : List Blk} (ex : Ext mem M) : ∀ {cs : List Cell} {xs : List Dat}, CFs mem cs xs → CFs M cs xs
 | [], [], _ => trivial
 | _ :: _, _ :: _, h => ⟨h.1.later ex, CFs.later ex h.2⟩
 | [], _ :: _, h => h.elim
 | _ :: _, [], h => h.elim
theorem SFs.later {mem M : List Blk} (ex : Ext mem M) : ∀ {ss : List SVal} {ps : List PV}, SFs mem ss ps → SFs M ss ps
 | [], [], _ => trivial
 | s :: ss, p :: ps, h => by
   refine ⟨?_, SFs.later ex h.2⟩
   have h1 := h.1
   unfold SF at h1 ⊢
   split at h1
   ·exact h1.later ex
   ·exact CFs.later ex h1
   ·exact h1.elim
 | [], _ :: _, h => h.elim
 | _ :: _, [], h => h.elim
theorem E6 [tc : TC P T] {f : Operand} {fv : SVal} {args : Array Operand} {mT : Array TypeId} {mw : FuncId} {js : List Cell} {r : PRes} {v : SVal} (hp : PCall P mw k7 r) (ha : SFs mem aS k7)
  (h : Reg P F0 w0 dr ops K rest ⟨n, (d, v) :: sl, mem, ck, df⟩ (1 :: acc)) (hw : GW ops g sl := by first | exact trivial | exact rfl) (hf : AH sl f = fv := by exact rfl) (hc : Cr fv = some (mw, js) := by exact rfl) (has : args.toList.map (AH sl) ++ js.map .c = aS := by exact rfl) (hr : r.flat = true := by exact rfl) (hv : r.s = v := by exact rfl) :
  Reg P F0 w0 dr ops K (⟨some d, .call ⟨.value f, args, mT⟩, ty, pos, iU, g⟩ :: rest) ⟨n, sl, mem, ck, df⟩ acc :=
 QY hw (fun _ _ ex => Does.of tc.ok fun τ he hm je Kk hK => by
  have ha := ha.later ex
  rw [← hm] at ha hK
  subst je; subst has; subst hv
  obtain ⟨e1, e2⟩ := IF he
  rw [hf] at e1
  simp only [AV, DQ, e1, hc, e2]
  obtain ⟨q1, q2⟩ := MCall.borrow (F0 := F0) (w0 := w0) (ck := τ.clock) hp ha hr
  refine ⟨q1, fun E w vs a1 a2 a3 => Calls.mono (q2 E w vs a1 a2 a3) fun _ _ ⟨v', E', r, m, c, p1, p2, p3, p4, p5, p6, p7⟩ => ⟨v', E', r, m, c, p1, p2, p3, p4, ?_⟩⟩
  subst p5; subst p6; subst p7
  exact hK _ _ _ _ ⟨rfl, rfl, rfl, rfl⟩) h
theorem HCall.pure {t : TypeId} {z m : Nat} {es : List (List Dat)} (h : HCall P f ja [] (.c (.arr 0 1 m)) [.arr 1 t z es]) (ha : ja = k7.map PV.s) (hm : m ≤ es.length) (hy : .sl (es.take m) = y) : PCall P f k7 (.v (.one y)) := by
 subst ha; subst hy
 obtain ⟨_, mS, jd⟩ := h
 refine ⟨mS, fun F w vs hF hl hv => ?_⟩
 have h0 : WOk F w (It F) w [] 0 := ⟨Bel.refl _ _, fun k hk => hk, fun k hk => ⟨hF k hk, .inl hk⟩, ⟨fun _ => Nat.le_refl _, fun s x hx => by simp at hx, fun s s' x x' hx => by simp at hx⟩, fun _ hk => hk.elim⟩
 refine Calls.mono ((jd F w).2 (It F) w vs h0 (by simpa using hl) (fun i v x mr hx => ?_)) fun e w' he => ?_
 ·rw [BU] at hx
  cases hp : k7[i]? with
  | none => rw [hp] at hx; cases hx
  | some p => rw [hp] at hx; simp only [Option.map_some, Option.some.injEq] at hx; subst hx; exact hv i v p mr hp
 ·obtain ⟨v, E', r, mm, c', rfl, hle, hw, j4, hr⟩ := he
  refine ⟨v, rfl, hw.below, .c (.d ?_)⟩
  have j4 := hr.res.rep j4
  have mg := hr.mem 0 (.arr (Ch mm 0) t z es) rfl trivial
  simp only [SVal.up, Cell.up, id] at j4
  cases j4 with | c hq =>
  refine Ek hw mg hm hq (fun b hb => ⟨(hw.F b hb).2, (hw.F b hb).1⟩) (fun hc => ?_)
  have := (hw.mem.ok 0 _ mg).lt (show Blk.has E' 0 _ from hc)
  exact ⟨.inr this.2.1, this.1⟩
end
end Go.Abs
end
section
namespace Go.Abs
variable {p q : Prop}

theorem kf (h : q) (f : q → p := by intro h; first | exact Bg Ad h | exact Bq h | exact BC h | exact Cl h | exact HD h | exact V6 h | exact H6 h | exact EW h | exact Ep Ad h | fail) : p := f h
theorem kg {r : Prop} (h : q) (g : r) (f : q → r → p := by intro h g; first | exact Aw Ad h g | exact AO Ad h g | exact SY Ad h g | exact H7 rfl rfl h g | exact BX h g | exact NS rfl h g | fail) : p := f h g
theorem kh {r : Prop} (h : q) (g : r) (f : q → r → p := by intro h g; first | (have _ : True := g; first | exact Bg Ad h | exact Bq h | exact BC h | exact Cl h | exact HD h | exact V6 h | exact H6 h | exact EW h | exact Ep Ad h) | (have _ : True := g; have _ : True := h; first | exact Sz | exact My | exact DM | exact MA) | exact Aw Ad h g | exact AO Ad h g | exact SY Ad h g | exact H7 rfl rfl h g | exact BX h g | exact NS rfl h g | fail) : p := f h g
theorem k0 (f : p := by first | exact Sz | exact My | exact DM | exact MA | fail) : p := f
theorem kz (h : q) (f : q → p := by intro h; first | with_reducible (first | exact ZK h | exact Se h | exact Vi h | exact Vj h | exact ZJ h | exact ZL h | exact Sf h | exact ZM h | exact Vk h | exact ZN h | exact Sg h | exact V4 h | exact ZT h) | ((with_reducible refine ME ?_); first | exact Z4 h) | ((with_reducible refine SG ?_); first | exact Z5 h | exact Z6 h) | ((with_reducible refine pP ?_); first | exact qW h) | ((with_reducible refine Wc ?_); first | exact ZS h | exact Wm h) | ((with_reducible refine Pu ?_); first | exact SH h | exact SI h | exact pQ h | exact oR h) | ((with_reducible refine SA ?_); first | exact Wd h) | ((with_reducible refine MB ?_); first | exact Px h) | ((with_reducible refine Wa ?_); first | exact ZV h | exact We h | exact sT h | exact ZW h | exact ZX h | exact ZY h | exact Xj h | exact ae h | exact eX h | exact af h) | ((with_reducible refine Sq ?_); first | exact Xl h | exact qX h) | ((with_reducible refine O7 ?_); first | exact Td h) | ((with_reducible refine O8 ?_); first | exact Te h) | ((with_reducible refine SC ?_); first | exact Py h | exact PA h | exact Pz h | exact PB h) | ((with_reducible refine Pn ?_); first | exact PJ h | exact MF h | exact MG h) | ((with_reducible refine Pl ?_); first | exact PG h | exact PH h | exact PI h) | ((with_reducible refine SB ?_); first | exact Wl h | exact pR h) | ((with_reducible refine Po ?_); first | exact Wg h | exact Wh h | exact Wi h | exact Wj h | exact NW h | exact NY h | exact Z1 h | exact Z2 h) | ((with_reducible refine Pm ?_); first | exact EN h) | ((with_reducible refine MC ?_); first | exact MH h | exact PN h) | ((with_reducible refine K2 ?_); first | exact MI h) | ((with_reducible refine Pr ?_); first | exact SJ h) | ((with_reducible refine ZU ?_); first | exact ZZ h | exact Z0 h) | ((with_reducible refine SE ?_); first | exact Wf h | exact KR h | exact I8 h | exact Mv h) | ((with_reducible refine Wb ?_); first | exact Z3 h) | ((with_reducible refine Pp ?_); first | exact SK h) | ((with_reducible refine Ps ?_); first | exact PK h | exact PM h | exact oS h | exact EO h) | ((with_reducible refine MD ?_); first | exact Wk h) | ((with_reducible refine Pq ?_); first | exact pS h | exact pT h | exact SL h) | ((with_reducible refine Pt ?_); first | exact SM h)) : p := f h
theorem AF {o : Prop} (x : o) (h : q) (f : o → q → p := by intro x h; first | exact K4 h (jo := by exact Yy x (by omega)) | exact K4 h (jo := by exact x) | exact PD h (kd := by exact x) | exact PE h (kd := by exact x) | exact PF h (hj := by exact x)) : p := f x h
theorem Ao (h : q) (f : q → p := by intro h; first | exact K4 h (jo := by exact rfl) | exact PD h (kd := by exact rfl) | exact PE h (kd := by exact rfl) | exact PF h (hj := by exact rfl) | fail) : p := f h
abbrev iC (z : Int) : SVal := .c (.d (.lit (.int .i64 z)))
end Go.Abs
end
section
namespace Go.Abs
open Go.RowKit
variable {cs : List Cell} {dst : Option Tmp} {e s t : TypeId} {es : List (List Dat)} {i j : TI} {k o r : Nat} {l : List UInt8} {f' : List Blk} {w : World} {x : Operand} {σ : St}
section
variable {P : Program} {B : Base} {n : Nat} {sl : List (Nat × SVal)} {mem : List Blk} {ck : Nat} {df : List (FuncId × List Cell)} {Q : Ex → St → Prop}
theorem WO {a : Act} (h : Rel B ⟨n, sl, mem, ck, df⟩ a w) : Rel B ⟨n, sl, mem ++ [.hole (ck + 1)], ck + 1, df⟩ a w := by
 obtain ⟨E, ⟨h1, h2, h3, h4⟩, hB⟩ := h
 refine ⟨E, ⟨⟨h1.below, h1.base, h1.F, ⟨fun r => ?_, fun r b hb => ?_, fun r r' b b' hb lF q q' j2 => ?_⟩, h1.N⟩, h2, h3, h4⟩, hB⟩
 ·have := h1.mem.clock r
  simp only at this ⊢; omega
 ·rcases getElem?_snoc hb with hb | ⟨_, rfl⟩
  ·exact h1.mem.ok r b hb
  ·have := h1.mem.clock r
   show E.ver r < ck + 1
   simp only at this; omega
 ·rcases getElem?_snoc hb with hb | ⟨_, rfl⟩
  ·rcases getElem?_snoc lF with lF | ⟨_, rfl⟩
   ·exact h1.mem.apart r r' b b' hb lF q q' j2
   ·exact q'.elim
  ·exact q.elim
theorem BY (m : Nat) {c : Code} (h : ARun P B c ⟨n, sl, f', ck + 1, df⟩ Q) (_ : mem.length = m := by exact rfl) (iZ : mem ++ [.hole (ck + 1)] = f' := by repeat' (first | exact A6 rfl | apply AG rfl)) : ARun P B c ⟨n, sl, mem, ck, df⟩ Q := by
 subst iZ
 exact NR (τ := ⟨n, sl, mem ++ [.hole (ck + 1)], ck + 1, df⟩) rfl (fun a w hr => WO hr) h
end
section
variable {P : Program} {T : TypeId → Option TI} {F0 : Nat → Prop} {w0 : World}
variable {dr : Bool} {ops rest : List Oper} {K : St → Prop} {n : Nat} {sl : List (Nat × SVal)} {mem : List Blk} {ck : Nat} {df : List (FuncId × List Cell)} {acc : List Nat}
variable {d : Tmp} {ty : TypeId} {pos : String} {iU : Array Edge} {g : Option (Nat × Bool)}
theorem Bl [tc : TC P T] (r : Nat) (h : Reg P F0 w0 dr ops K rest ⟨n, (d, .c (.bp r k 0)) :: sl, f', ck, df⟩ (BS r false :: acc)) (hm : mem[r]? = some (.hole k) := by exact rfl) (hk : k ≤ ck := by omega) (hw : GW ops g sl := by first | exact trivial | exact rfl) (ht : T t = some i := by exact rfl)
  (jF : i.zero.map B0 = cs := by repeat' (first | exact A6 rfl | apply AG rfl)) (iZ : mem.set r (.box k cs) = f' := by exact rfl) : Reg P F0 w0 dr ops K (⟨some d, .alloc t, ty, pos, iU, g⟩ :: rest) ⟨n, sl, mem, ck, df⟩ acc := by
 subst iZ; subst jF
 refine eM hw hm hk (fun M c hM hc => BF fun E w ρ j0 hρ => ?_) h
 have tO := tc.ok t i ht
 obtain ⟨fi, z, k6, kr, jb, kG, kq⟩ := tO.info
 have hf := j0.fresh
 have hv : E.ver r < k := j0.mem.ok r _ hM
 have hle : EnvLe E w (E.upd r w.heap.size 0 k) (w.alloc (.cells i.zero.toArray t)) := Env.upd_le _ _ _ _ hv (fun j hj => Bel.heap_alloc w _ j (j0.FN j hj))
 have nk := j0.turnV (w' := w.alloc (.cells i.zero.toArray t)) (iY := c) r w.heap.size 0 k (.box k (i.zero.map B0)) _ hv (Nat.le_refl _) hc (Bj r _) ((Bel.refl _ w).alloc j0.le0 _) (fun j hj _ => Bel.heap_alloc w _ j hj) (fun s x _ hx hh => hf.2 s x hx hh) hf.1
  ⟨by simp [Env.upd], by simp [Env.upd]; exact j0.le0, by simp only [Env.upd, if_true]; exact hf.1, i.zero.toArray, t, by simp only [Env.upd, if_true]; exact XN w _, by simp, fun j v x a b => (EH tO j v x a b).le hle⟩
 exact ⟨.pointer (some ⟨w.heap.size, 0, none⟩), _, E.upd r w.heap.size 0 k, by simp [execOp, Instr.alloc, zeroValue, typeInfo, k6, kG, newVar, newRow, kq], nk.2, nk.1, .c (.bp r k 0 _ rfl (by simp [Env.upd]) (fun _ => by simp [Env.upd]))⟩
theorem Dk [tc : TC P T] {jq : List Cell} (h : Reg P F0 w0 dr ops K rest ⟨n, (d, .agg jq) :: sl, mem, ck, df⟩ (BS r true :: acc)) (hw : GW ops g sl := by first | exact trivial | exact rfl) (hx : AH sl x = .c (.bp r k o) := by exact rfl) (ht : T t = some i := by exact rfl) (ha : i.desc.agg = true := by exact rfl) (hm : mem[r]? = some (.box k cs) := by exact rfl) (hs : decide (o + i.size ≤ cs.length) = true := by exact rfl) (jF : (cs.drop o).take i.size = jq := by repeat' (first | exact A6 rfl | apply AG rfl)) : Reg P F0 w0 dr ops K (⟨some d, .load t x, ty, pos, iU, g⟩ :: rest) ⟨n, sl, mem, ck, df⟩ acc :=
 NP hw hm (fun mem ck hm => Does.of tc.ok fun τ he jn hc Kk hK => by
  subst jn; subst hc; subst jF
  have ex := he x (by simp [Op.operands])
  rw [hx] at ex
  simp only [AV, Du, ht, ex, ha, hm]
  refine ⟨.inl trivial, trivial, by simpa using hs, ?_⟩
  exact hK _ _ _ _ ⟨rfl, rfl, rfl, rfl⟩) h
theorem Cc [tc : TC P T] {y : Operand} {v : SVal} {lg jq : List Cell} (h : Reg P F0 w0 dr ops K rest ⟨n, sl, f', ck, df⟩ (BS r false :: acc)) (hw : GW ops g sl := by first | exact trivial | exact rfl) (hx : AH sl x = .c (.bp r k o) := by exact rfl) (hy : AH sl y = v := by first | exact (rfl : _ = SVal.c _) | exact (rfl : _ = SVal.agg _) | exact (rfl : _ = SVal.tup _) | exact (rfl : _ = SVal.und) | exact rfl) (hc : v.cells = some cs := by exact rfl) (ht : T t = some i := by exact rfl) (hl : cs.length = i.size := by exact rfl) (hm : mem[r]? = some (.box k lg) := by exact rfl) (hs : decide (o + i.size ≤ lg.length) = true := by exact rfl) (jF : lg.take o ++ cs ++ lg.drop (o + i.size) = jq := by repeat' (first | exact A6 rfl | apply AG rfl)) (iZ : mem.set r (.box k jq) = f' := by repeat' (first | exact A6 rfl | apply AG rfl)) : Reg P F0 w0 dr ops K (⟨none, .store t x y, ty, pos, iU, g⟩ :: rest) ⟨n, sl, mem, ck, df⟩ acc := by
 subst iZ
 exact eN (v := .junk) hw hm (fun M c hM => Does.of tc.ok fun τ he jn je Kk hK => by
  subst jn; subst je; subst jF
  have ex := he x (by simp [Op.operands])
  have ey := he y (by simp [Op.operands])
  rw [hx] at ex
  rw [hy] at ey
  simp only [AV, Fe, ht, ex, ey, hc, hM]
  exact ⟨hl, trivial, by simpa using hs, hK _ _ _ _ ⟨rfl, rfl, rfl, rfl⟩⟩) h
theorem DF [tc : TC P T] {y : Operand} {ei : TI} {kk : IntKind} {z : Int} {m : Nat} (h : Reg P F0 w0 dr ops K rest ⟨n, (d, .c (.bp r k (o + z.toNat * ei.size))) :: sl, mem, ck, df⟩ (BS r true :: acc)) (hw : GW ops g sl := by first | exact trivial | exact rfl) (hx : AH sl x = .c (.bp r k o) := by exact rfl) (hy : AH sl y = .c (.d (.lit (.int kk z))) := by exact rfl) (ht : T t = some i := by exact rfl) (hi : i.desc = .array m e := by exact rfl) (kd : T e = some ei := by exact rfl) (hm : mem[r]? = some (.box k cs) := by exact rfl) (hz : 0 ≤ z := by omega) (nK : z < (m : Int) := by omega) : Reg P F0 w0 dr ops K (⟨some d, .indexAddr t x y, ty, pos, iU, g⟩ :: rest) ⟨n, sl, mem, ck, df⟩ acc :=
 NP hw hm (fun mem ck hm => Does.of tc.ok fun τ he jn hc Kk hK => by
  subst jn; subst hc
  have ex := he x (by simp [Op.operands])
  have ey := he y (by simp [Op.operands])
  rw [hx] at ex
  rw [hy] at ey
  obtain ⟨a1, a2, a3, a4, a5⟩ := i
  simp only at hi
  subst hi
  simp only [AV, Ff, ht, kd, ex, ey, C1, hm]
  exact ⟨hz, nK, trivial, hK _ _ _ _ ⟨rfl, rfl, rfl, rfl⟩⟩) h
end
def OA (b : UInt8) : List Dat := [.lit (.int .u8 b.toNat)]
def VT (l : List UInt8) : Dat := .sl (l.map OA)
theorem SRep.c_inv {E : Env} {v : Value} {x : Cell} (h : SRep E w v (.c x)) : CRep E w v x := by cases h; assumption
theorem JP : ∀ (l : List UInt8) (r : ByteArray), (l.map fun b => ((b.toNat : Nat) : Int)).foldl (fun r n => r.push (UInt8.ofNat n.toNat)) r = ⟨r.data ++ l.toArray⟩
 | [], r => by simp
 | b :: l, r => by
   simp only [List.map_cons, XU, To]
   rw [JP l]
   simp [ByteArray.push]
theorem Mu {P : Program} {F : Nat → Prop} {v : Value} (h : DRep F w v (VT l)) : (Conv.bytesToString v).run P w = .ok (.string ⟨l.toArray⟩) w := by
 by_cases j2 : l = []
 ·subst j2
  rcases h.sl_inv with ⟨_, a, c, rfl⟩ | ⟨b, off, cap, size, us, rfl, _⟩
  ·cases a with
   | none => simp [Conv.bytesToString]; rfl
   | some a =>
     have := run_bytesToString (P := P) w a 0 c [] (by simpa using run_loadCells_list (P := P) w a [] (by simp))
     exact this
  ·have := run_bytesToString (P := P) w ⟨b, off, none⟩ 0 cap [] (by simpa using run_loadCells_list (P := P) w ⟨b, off, none⟩ [] (by simp))
   exact this
 ·obtain ⟨b, off, cap, news, rfl, lL, mf, kQ, lE⟩ := h.flat (i6 := 1) (fun e he => by obtain ⟨x, _, rfl⟩ := List.mem_map.1 he; rfl) (by simpa using j2)
  have hn : news = (l.map fun b => ((b.toNat : Nat) : Int)).map (Value.int .u8) := by
   apply Sa
   intro i
   simp only [BR, Nat.mul_one] at lL
   by_cases hi : i < l.length
   · have hg : news[i]? = some (news[i]'(by omega)) := Bo _
     have hq := lE i 0 (OA l[i]) (news[i]'(by omega)) (.lit (.int .u8 l[i].toNat)) (by rw [BU, Bo hi]; rfl) rfl (by simp [hg])
     rw [hg]
     simp only [BU, Bo hi, Option.map_some, Option.some.injEq]
     generalize news[i]'(by omega) = u at hq
     cases hq; rfl
   · rw [XL (by omega), XL (by simp; omega)]
  have hl := run_loadCells_list (P := P) w ⟨b, off, none⟩ news (fun j u hu => mf j u hu)
  simp only [BR, Nat.mul_one] at lL
  rw [lL] at hl
  subst hn
  have := run_bytesToString (P := P) w ⟨b, off, none⟩ l.length cap _ hl
  rw [JP] at this
  simpa using this
section
variable {P : Program} {T : TypeId → Option TI} {F0 : Nat → Prop} {w0 : World}
variable {dr : Bool} {ops rest : List Oper} {K : St → Prop} {n : Nat} {sl : List (Nat × SVal)} {mem : List Blk} {ck : Nat} {df : List (FuncId × List Cell)} {acc : List Nat}
variable {d : Tmp} {op : Op} {ty : TypeId} {pos : String} {iU : Array Edge} {g : Option (Nat × Bool)}
theorem KR [tc : TC P T] {b : ByteArray} {k : TI}
  (h : Reg P F0 w0 dr ops K rest ⟨n, (d, .c (.d (VT b.data.toList))) :: sl, mem, ck, df⟩ (0 :: acc)) (hw : GW ops g sl := by first | exact trivial | exact rfl) (hx : AH sl x = .c (.d (.lit (.string b))) := by exact rfl) (hb : (b.size : Int) ≤ 9223372036854775807 := by omega)
  (hs : T s = some i := by exact rfl) (hi : i.desc = .str := by exact rfl) (ht : T t = some j := by exact rfl) (hj : j.desc = .slice e := by exact rfl) (he : T e = some k := by exact rfl) (hk : k.desc = .int .u8 := by exact rfl) :
  Reg P F0 w0 dr ops K (⟨some d, .convert s t x, ty, pos, iU, g⟩ :: rest) ⟨n, sl, mem, ck, df⟩ acc := by
 refine Gp hw (fun m c => BF fun E w ρ j0 hρ => ?_) h
 have e1 := hρ x (by simp [Op.operands])
 rw [hx] at e1
 have e1 := e1.lit_inv
 have us : P.underlying s = some .string := by have := (tc.ok s i hs).desc; rw [hi] at this; exact this
 have ut : P.underlying t = some (.slice e) := by have := (tc.ok t j ht).desc; rw [hj] at this; exact this
 have ue : P.underlying e = some (.int .u8) := by have := (tc.ok e k he).desc; rw [hk] at this; exact this
 have hr := Go.Lib.run_convert_string_bytes (P := P) w s t e b us ut ue
 have jO : Bel w.heap.size w (Go.Lib.bytesWorld w e b) := by
  refine ⟨⟨?_, ?_, ?_, ?_, fun k hk => Go.Lib.bytesWorld_at_old w e b k hk⟩, ?_⟩
  · unfold Go.Lib.bytesWorld World.freeze; split <;> rfl
  · unfold Go.Lib.bytesWorld World.freeze; split <;> rfl
  · unfold Go.Lib.bytesWorld World.freeze; split <;> rfl
  · rw [Go.Lib.bytesWorld_size]; omega
  · unfold Go.Lib.bytesWorld World.freeze; split <;> exact Nat.le_succ _
 have ke := j0.later jO (fun k => k = w.heap.size) (fun k q => by subst q; rw [Go.Lib.bytesWorld_size]; omega)
 refine ⟨.slice (some ⟨w.heap.size, 0, none⟩) b.size (grownCap w b.size 0 e), Go.Lib.bytesWorld w e b, _, by simp [execOp, e1, hr], ke.2, ke.1, .c (.d ?_)⟩
 have hm : b.size ≤ maxLen := by simp only [maxLen]; omega
 have j3 : b.data.toList.length = b.size := by simp
 have hd := DRep.sl (F := fun k => E.F k ∨ k = w.heap.size) (w := Go.Lib.bytesWorld w e b) (b.data.toList.map OA) w.heap.size 0 (grownCap w b.size 0 e) 1 (fun i _ => .int .u8 (b.data.toList.getD i 0).toNat) (.inr rfl)
  (by rw [BR, j3]; exact grownCap_ge w _ _ e) (grownCap_le_maxLen w _ _ e hm) (fun el jo => by obtain ⟨x, _, rfl⟩ := List.mem_map.1 jo; rfl)
  (fun i j hi hj => by
    have wF : j = 0 := by omega
    subst wF
    rw [BR, j3] at hi
    simpa using Go.Lib.bytesWorld_cell w e b i hi)
  (fun i j el x q1 q2 => by
    rw [BU] at q1
    cases hq : b.data.toList[i]? with
    | none => rw [hq] at q1; cases q1
    | some y =>
      rw [hq] at q1
      simp only [Option.map_some, Option.some.injEq] at q1
      subst q1
      match j with
      | 0 =>
        simp only [OA, List.getElem?_cons_zero, Option.some.injEq] at q2
        subst q2
        simp only [List.getD, hq, U4]
        exact .lit _ rfl
      | j + 1 => simp [OA] at q2)
 rw [BR, j3] at hd
 exact hd
theorem I8 [tc : TC P T] {k : TI}
  (h : Reg P F0 w0 dr ops K rest ⟨n, (d, .c (.d (.lit (.string ⟨l.toArray⟩)))) :: sl, mem, ck, df⟩ (0 :: acc)) (hw : GW ops g sl := by first | exact trivial | exact rfl) (hx : AH sl x = .c (.d (.sl es)) := by exact rfl) (j6 : es = l.map OA := by exact rfl)
  (hs : T s = some i := by exact rfl) (hi : i.desc = .slice e := by exact rfl) (ht : T t = some j := by exact rfl) (hj : j.desc = .str := by exact rfl) (he : T e = some k := by exact rfl) (hk : k.desc = .int .u8 := by exact rfl) :
  Reg P F0 w0 dr ops K (⟨some d, .convert s t x, ty, pos, iU, g⟩ :: rest) ⟨n, sl, mem, ck, df⟩ acc := by
 subst j6
 refine Gp hw (HO fun E w ρ hρ => ?_) h
 have e1 := hρ x (by simp [Op.operands])
 rw [hx] at e1
 have us : P.underlying s = some (.slice e) := by have := (tc.ok s i hs).desc; rw [hi] at this; exact this
 have ut : P.underlying t = some .string := by have := (tc.ok t j ht).desc; rw [hj] at this; exact this
 have ue : P.underlying e = some (.int .u8) := by have := (tc.ok e k he).desc; rw [hk] at this; exact this
 have hd := e1.d_inv
 have hb := Mu (P := P) (l := l) hd
 obtain ⟨a, m, c, hv⟩ : ∃ a m c, ρ x = .slice a m c := by
  rcases hd.sl_inv with ⟨_, a, c, hv⟩ | ⟨b, off, cap, size, us, hv, _⟩
  · exact ⟨_, _, _, hv⟩
  · exact ⟨_, _, _, hv⟩
 refine ⟨.string ⟨l.toArray⟩, ?_, .c (.d (.lit _ rfl))⟩
 rw [hv] at hb
 simp only [execOp, hv, Sem.run_bind, run_convert_bytes_string w s t e a m c us ue ut, hb, Result.andThen_ok, Sem.run_pure]
theorem Mv [tc : TC P T] {iX : TypeId} {k' m z : Nat} {k : TI}
  (h : Reg P F0 w0 dr ops K rest ⟨n, (d, .c (.d (.lit (.string ⟨l.toArray⟩)))) :: sl, mem, ck, df⟩ (1 :: acc)) (hw : GW ops g sl := by first | exact trivial | exact rfl) (hx : AH sl x = .c (.arr r k' m) := by exact rfl) (hm : mem[r]? = some (.arr k' iX z es) := by exact rfl) (j6 : es.take m = l.map OA ∧ m ≤ es.length := by exact And.intro IG (by simp))
  (hs : T s = some i := by exact rfl) (hi : i.desc = .slice e := by exact rfl) (ht : T t = some j := by exact rfl) (hj : j.desc = .str := by exact rfl) (he : T e = some k := by exact rfl) (hk : k.desc = .int .u8 := by exact rfl) :
  Reg P F0 w0 dr ops K (⟨some d, .convert s t x, ty, pos, iU, g⟩ :: rest) ⟨n, sl, mem, ck, df⟩ acc := by
 refine Dh hw hm (fun mem ck hm => BF fun E w ρ j0 hρ => ?_) h
 have e1 := hρ x (by simp [Op.operands])
 rw [hx] at e1
 have us : P.underlying s = some (.slice e) := by have := (tc.ok s i hs).desc; rw [hi] at this; exact this
 have ut : P.underlying t = some .string := by have := (tc.ok t j ht).desc; rw [hj] at this; exact this
 have ue : P.underlying e = some (.int .u8) := by have := (tc.ok e k he).desc; rw [hk] at this; exact this
 have hd : DRep (fun b => E.F b ∨ b = E.blk r) w (ρ x) (.sl (es.take m)) := by
  exact Ek j0 hm j6.2 e1.c_inv (fun b hb => .inl hb) (fun _ => .inr rfl)
 rw [j6.1] at hd
 have hb := Mu (P := P) (l := l) hd
 obtain ⟨a, m', c, hv⟩ : ∃ a m c, ρ x = .slice a m c := by
  rcases hd.sl_inv with ⟨_, a, c, hv⟩ | ⟨b, off, cap, size, us, hv, _⟩
  · exact ⟨_, _, _, hv⟩
  · exact ⟨_, _, _, hv⟩
 refine ⟨.string ⟨l.toArray⟩, w, E, ?_, EnvLe.refl _ _, j0, .c (.d (.lit _ rfl))⟩
 rw [hv] at hb
 simp only [execOp, hv, Sem.run_bind, run_convert_bytes_string w s t e a m' c us ue ut, hb, Result.andThen_ok, Sem.run_pure]
theorem NK [tc : TC P T] {t' : TypeId} 
  (h : ∀ b : Bool, (b = true → es = []) → Reg P F0 w0 false ops K rest ⟨n, (d, .c (.d (.lit (.bool b)))) :: sl, mem, ck, df⟩ (2 :: acc)) (hw : GW ops g sl := by first | exact trivial | exact rfl) (hx : AH sl x = .c (.d (.sl es)) := by exact rfl)
  (ht : T t = some i := by exact rfl) (hi : i.desc = .slice e := by exact rfl) :
  Reg P F0 w0 false ops K (⟨some d, .binOp .eql t x (.const (.slice none 0 0)) t', ty, pos, iU, g⟩ :: rest) ⟨n, sl, mem, ck, df⟩ acc := by
 refine Yu (R := fun v m c1 jx => (∃ b : Bool, (b = true → es = []) ∧ v = .c (.d (.lit (.bool b))) ∧ m = mem ∧ c1 = ck) ∧ jx = []) rfl hw (cn fun E w ρ hc j0 hρ => ?_) ?_
 ·have e1 := hρ x (by simp [Op.operands])
  rw [hx] at e1
  have ut : P.underlying t = some (.slice e) := by have := (tc.ok t i ht).desc; rw [hi] at this; exact this
  have hd := e1.d_inv
  obtain ⟨a, m, c, hv, hn⟩ : ∃ a m c, ρ x = .slice a m c ∧ (a.isNone = true → es = []) := by
    rcases hd.sl_inv with ⟨hq, a, c, hv⟩ | ⟨b, off, cap, size, us, hv, _⟩
    ·exact ⟨_, _, _, hv, fun _ => hq⟩
    ·exact ⟨_, _, _, hv, fun q => by cases q⟩
  have key : ∀ d, (Op.equalIn (d + 1) t (.slice a m c) (.slice none 0 0)).run P w = .ok a.isNone w := by
    intro d
    cases a <;> simp [Op.equalIn, run_underlying ut]
  refine ⟨.bool a.isNone, w, E, _, _, _, ?_, EnvLe.refl _ _, j0, .c (.d (.lit _ rfl)), a.isNone, hn, rfl, rfl, rfl⟩
  have k2 : (Op.equal t (.slice a m c) (.slice none 0 0)).run P w = .ok a.isNone w := key 9999
  simp only [execOp, hv, hc, Sem.run_bind, eqGuard_at_slice, Sem.run_pure, Result.andThen_ok, binOp, k2]
 ·rintro v m c1 jx ⟨⟨b, q1, rfl, rfl, rfl⟩, rfl⟩
  exact h b q1
theorem Sq (h : Reg P F0 w0 dr ops K (⟨dst, (.nilCheck x), ty, pos, iU, g⟩ :: rest) σ acc) : Reg P F0 w0 dr ops K (⟨dst, (.nilCheck x), ty, pos, iU, g⟩ :: rest) σ acc := h
theorem O7 {x : Option Operand} (h : Reg P F0 w0 dr ops K (⟨dst, (.makeMap t x), ty, pos, iU, g⟩ :: rest) σ acc) : Reg P F0 w0 dr ops K (⟨dst, (.makeMap t x), ty, pos, iU, g⟩ :: rest) σ acc := h
theorem O8 (h : Reg P F0 w0 dr ops K (⟨dst, (.range t x), ty, pos, iU, g⟩ :: rest) σ acc) : Reg P F0 w0 dr ops K (⟨dst, (.range t x), ty, pos, iU, g⟩ :: rest) σ acc := h
theorem GF {s : ByteArray} {b : UInt8} {z : Int} {i : Nat} (h : s[i]? = some b) (e : z = i) : 0 ≤ z ∧ s[z.toNat]? = some b := by subst e; exact ⟨by omega, by simpa using h⟩
theorem m3 {k1 : Nat} {kt vt : TypeId} {es lH : List (Value × PV)} {bs y9 : List Nat} {c c1 : Nat} {a b : List Blk} (he : es = lH) (hb : bs = y9) (hc : c = c1) (h : As a b) (hk : k = k1 := by first | exact rfl | omega) : As (.map k kt vt es bs c :: a) (.map k1 kt vt lH y9 c1 :: b) := by subst he; subst hb; subst hc; subst hk; exact Ab h
theorem m4 {k1 k' since pF : Nat} {sb ya : List Nat} {a b : List Blk} (he : sb = ya) (h : As a b) (hk : k = k1 := by exact rfl) (hs : since = pF := by first | exact rfl | omega) : As (.iter k r k' since sb :: a) (.iter k1 r k' pF ya :: b) := by subst he; subst hs; subst hk; exact Ab h
theorem eI {m m' : List Blk} (h : As m m') : As m m' := h
theorem gX {x y : SVal} (h : AM x y) : AM x y := h
end
end Go.Abs
end
section
namespace Go.Proofs.YtmpgmjlanngkfaaGreat
open Go.Abs
def il : TI := { size := 1, bytes := 8, zero := [.int .i64 0], desc := .int .i64 }
def im : TI := { size := 1, bytes := 8, zero := [.int .i64 0], desc := .int .i64 }
def iq : TI := { size := 1, bytes := 1, zero := [.bool false], desc := .bool }
def ir : TI := { size := 1, bytes := 1, zero := [.int .u8 0], desc := .int .u8 }
def iu : TI := { size := 1, bytes := 16, zero := [.string ⟨#[]⟩], desc := .str }
def fq : TI := { size := 1, bytes := 24, zero := [.slice none 0 0], desc := .slice 3 }
def fu : TI := { size := 1, bytes := 24, zero := [.slice none 0 0], desc := .slice 66 }
def fw : TI := { size := 1, bytes := 24, zero := [.slice none 0 0], desc := .slice 109 }
def fx : TI := { size := 1, bytes := 24, zero := [.slice none 0 0], desc := .slice 86 }
def fy : TI := { size := 1, bytes := 24, zero := [.slice none 0 0], desc := .slice 49 }
def fz : TI := { size := 9, bytes := 160, zero := [.string ⟨#[]⟩, .int .i64 0, .string ⟨#[]⟩, .string ⟨#[]⟩, .slice none 0 0, .slice none 0 0, .slice none 0 0, .bool false, .slice none 0 0], desc := .struct [(0, 9), (1, 3), (2, 9), (3, 9), (4, 25), (5, 26), (6, 27), (7, 4), (8, 28)] }
def fA : TI := { size := 1, bytes := 24, zero := [.slice none 0 0], desc := .slice 56 }
def fB : TI := { size := 3, bytes := 48, zero := [.string ⟨#[]⟩, .int .i64 0, .slice none 0 0], desc := .struct [(0, 9), (1, 3), (2, 26)] }
def fC : TI := { size := 1, bytes := 24, zero := [.slice none 0 0], desc := .slice 54 }
def HG : TI := { size := 1, bytes := 24, zero := [.slice none 0 0], desc := .slice 73 }
def Gt : TI := { size := 2, bytes := 32, zero := [.slice none 0 0, .int .i64 0], desc := .struct [(0, 54), (1, 2)] }
def fD : TI := { size := 1, bytes := 24, zero := [.slice none 0 0], desc := .slice 100 }
def fE : TI := { size := 2, bytes := 32, zero := [.slice none 0 0, .int .i64 0], desc := .struct [(0, 22), (1, 3)] }
def Zu : TI := { size := 2, bytes := 16, zero := [.int .i64 0, .int .i64 0], desc := .array 2 3 }
def fF : TI := { size := 1, bytes := 24, zero := [.slice none 0 0], desc := .slice 2 }
def UY : TI := { size := 3, bytes := 32, zero := [.int .i64 0, .int .i64 0, .string ⟨#[]⟩], desc := .struct [(0, 3), (1, 2), (2, 9)], eqs := true }
def Zv : TI := { size := 2, bytes := 40, zero := [.string ⟨#[]⟩, .slice none 0 0], desc := .struct [(0, 9), (1, 26)] }
def fG : TI := { size := 1, bytes := 24, zero := [.slice none 0 0], desc := .slice 98 }
def Zw : TI := { size := 2, bytes := 48, zero := [.slice none 0 0, .slice none 0 0], desc := .struct [(0, 54), (1, 32)] }
def ar : TI := { size := 4, bytes := 80, zero := [.slice none 0 0, .int .i64 0, .slice none 0 0, .slice none 0 0], desc := .struct [(0, 54), (1, 2), (2, 71), (3, 71)] }
def au : TI := { size := 1, bytes := 8, zero := [.int .u64 0], desc := .int .u64 }
def av : TI := { size := 5, bytes := 48, zero := [.int .i64 0, .int .i64 0, .int .i64 0, .string ⟨#[]⟩, .int .i64 0], desc := .struct [(0, 3), (1, 73), (4, 3)] }
def aw : TI := { size := 1, bytes := 24, zero := [.slice none 0 0], desc := .slice 9 }
def ax : TI := { size := 1, bytes := 24, zero := [.slice none 0 0], desc := .slice 26 }
def ay : TI := { size := 1, bytes := 24, zero := [.slice none 0 0], desc := .slice 5 }
def az : TI := { size := 1, bytes := 8, zero := [.map none], desc := .plain }
def aA : TI := { size := 1, bytes := 24, zero := [.slice none 0 0], desc := .slice 186 }
def aB : TI := { size := 2, bytes := 48, zero := [.slice none 0 0, .slice none 0 0], desc := .array 2 32 }
def aC : TI := { size := 1, bytes := 24, zero := [.slice none 0 0], desc := .slice 161 }
def aD : TI := { size := 9, bytes := 96, zero := [.int .i64 0, .int .i64 0, .string ⟨#[]⟩, .int .i64 0, .int .i64 0, .string ⟨#[]⟩, .int .i64 0, .int .i64 0, .string ⟨#[]⟩], desc := .array 3 73 }
def ti186 : TI := { size := 4, bytes := 40, zero := [.int .i64 0, .int .i64 0, .string ⟨#[]⟩, .int .i64 0], desc := .struct [(0, 73), (3, 2)] }
def aF : TI := { size := 1, bytes := 8, zero := [.map none], desc := .plain }
def aG : TI := { size := 1, bytes := 24, zero := [.slice none 0 0], desc := .slice 200 }
def aH : TI := { size := 2, bytes := 24, zero := [.string ⟨#[]⟩, .int .i64 0], desc := .struct [(0, 9), (1, 2)], eqs := true }
def aI : TI := { size := 1, bytes := 8, zero := [.map none], desc := .plain }
def aJ : TI := { size := 1, bytes := 24, zero := [.slice none 0 0], desc := .slice 232 }
def aK : TI := { size := 3, bytes := 56, zero := [.slice none 0 0, .map none, .slice none 0 0], desc := .struct [(0, 203), (1, 202), (2, 198)] }
def aL : TI := { size := 3, bytes := 56, zero := [.slice none 0 0, .map none, .slice none 0 0], desc := .struct [(0, 203), (1, 202), (2, 198)] }
def aM : TI := { size := 2, bytes := 40, zero := [.string ⟨#[]⟩, .slice none 0 0], desc := .struct [(0, 9), (1, 113)] }
def iv : TTree := (.node (.node (.node (.node (.node (.node .nil 2 il .nil) 3 im .nil) 4 iq (.node (.node .nil 5 ir .nil) 9 iu .nil)) 22 fq (.node (.node (.node .nil 25 fu .nil) 26 fw .nil) 27 fx (.node (.node .nil 28 fy .nil) 30 fz .nil))) 32 fA (.node (.node (.node (.node .nil 49 fB .nil) 51 fC .nil) 54 HG (.node (.node .nil 56 Gt .nil) 58 fD .nil)) 64 fE (.node (.node (.node .nil 66 Zu .nil) 71 fF .nil) 73 UY (.node .nil 86 Zv .nil)))) 95 fG (.node (.node (.node (.node (.node .nil 98 Zw .nil) 100 ar .nil) 106 au (.node (.node .nil 109 av .nil) 113 aw .nil)) 116 ax (.node (.node (.node .nil 125 ay .nil) 137 az .nil) 145 aA (.node .nil 161 aB .nil))) 162 aC (.node (.node (.node (.node .nil 165 aD .nil) 186 ti186 .nil) 195 aF (.node (.node .nil 198 aG .nil) 200 aH .nil)) 202 aI (.node (.node (.node .nil 203 aJ .nil) 204 aK .nil) 205 aL (.node .nil 232 aM .nil)))))
def T : TypeId → Option TI := KC iv
theorem gN : TOk Tryz.prog 2 il := E0 (.int .i64 0) (by kernel_rfl) rfl rfl (show Tryz.prog.underlying 2 = some (.int .i64) by kernel_rfl) (fun h => by cases h)
theorem gO : TOk Tryz.prog 3 im := E0 (.int .i64 0) (by kernel_rfl) rfl rfl (show Tryz.prog.underlying 3 = some (.int .i64) by kernel_rfl) (fun h => by cases h)
theorem gP : TOk Tryz.prog 4 iq := E0 (.bool false) (by kernel_rfl) rfl rfl (show Tryz.prog.underlying 4 = some (.bool) by kernel_rfl) (fun h => by cases h)
theorem gQ : TOk Tryz.prog 5 ir := E0 (.int .u8 0) (by kernel_rfl) rfl rfl (show Tryz.prog.underlying 5 = some (.int .u8) by kernel_rfl) (fun h => by cases h)
theorem gR : TOk Tryz.prog 9 iu := E0 (.string ⟨#[]⟩) (by kernel_rfl) rfl rfl (show Tryz.prog.underlying 9 = some (.string) by kernel_rfl) (fun h => by cases h)
theorem fH : TOk Tryz.prog 22 fq := E0 (.slice none 0 0) (by kernel_rfl) rfl rfl (show Tryz.prog.underlying 22 = some (.slice 3) by kernel_rfl) (fun h => by cases h)
theorem fI : TOk Tryz.prog 25 fu := E0 (.slice none 0 0) (by kernel_rfl) rfl rfl (show Tryz.prog.underlying 25 = some (.slice 66) by kernel_rfl) (fun h => by cases h)
theorem fJ : TOk Tryz.prog 26 fw := E0 (.slice none 0 0) (by kernel_rfl) rfl rfl (show Tryz.prog.underlying 26 = some (.slice 109) by kernel_rfl) (fun h => by cases h)
theorem fK : TOk Tryz.prog 27 fx := E0 (.slice none 0 0) (by kernel_rfl) rfl rfl (show Tryz.prog.underlying 27 = some (.slice 86) by kernel_rfl) (fun h => by cases h)
theorem fL : TOk Tryz.prog 28 fy := E0 (.slice none 0 0) (by kernel_rfl) rfl rfl (show Tryz.prog.underlying 28 = some (.slice 49) by kernel_rfl) (fun h => by cases h)
theorem fM : TOk Tryz.prog 30 fz := E0 (.agg #[.string ⟨#[]⟩, .int .i64 0, .string ⟨#[]⟩, .string ⟨#[]⟩, .slice none 0 0, .slice none 0 0, .slice none 0 0, .bool false, .slice none 0 0]) (by kernel_rfl) rfl rfl (show (Tryz.prog.underlying 30).map BK = some (some [(0, 9), (1, 3), (2, 9), (3, 9), (4, 25), (5, 26), (6, 27), (7, 4), (8, 28)]) by kernel_rfl) (fun h => by cases h)
theorem fN : TOk Tryz.prog 32 fA := E0 (.slice none 0 0) (by kernel_rfl) rfl rfl (show Tryz.prog.underlying 32 = some (.slice 56) by kernel_rfl) (fun h => by cases h)
theorem fO : TOk Tryz.prog 49 fB := E0 (.agg #[.string ⟨#[]⟩, .int .i64 0, .slice none 0 0]) (by kernel_rfl) rfl rfl (show (Tryz.prog.underlying 49).map BK = some (some [(0, 9), (1, 3), (2, 26)]) by kernel_rfl) (fun h => by cases h)
theorem fP : TOk Tryz.prog 51 fC := E0 (.slice none 0 0) (by kernel_rfl) rfl rfl (show Tryz.prog.underlying 51 = some (.slice 54) by kernel_rfl) (fun h => by cases h)
theorem fQ : TOk Tryz.prog 54 HG := E0 (.slice none 0 0) (by kernel_rfl) rfl rfl (show Tryz.prog.underlying 54 = some (.slice 73) by kernel_rfl) (fun h => by cases h)
theorem fR : TOk Tryz.prog 56 Gt := E0 (.agg #[.slice none 0 0, .int .i64 0]) (by kernel_rfl) rfl rfl (show (Tryz.prog.underlying 56).map BK = some (some [(0, 54), (1, 2)]) by kernel_rfl) (fun h => by cases h)
theorem fS : TOk Tryz.prog 58 fD := E0 (.slice none 0 0) (by kernel_rfl) rfl rfl (show Tryz.prog.underlying 58 = some (.slice 100) by kernel_rfl) (fun h => by cases h)
theorem fT : TOk Tryz.prog 64 fE := E0 (.agg #[.slice none 0 0, .int .i64 0]) (by kernel_rfl) rfl rfl (show (Tryz.prog.underlying 64).map BK = some (some [(0, 22), (1, 3)]) by kernel_rfl) (fun h => by cases h)
theorem fU : TOk Tryz.prog 66 Zu := E0 (.agg #[.int .i64 0, .int .i64 0]) (by kernel_rfl) rfl rfl (show Tryz.prog.underlying 66 = some (.array 2 3) by kernel_rfl) (fun h => by cases h)
theorem fV : TOk Tryz.prog 71 fF := E0 (.slice none 0 0) (by kernel_rfl) rfl rfl (show Tryz.prog.underlying 71 = some (.slice 2) by kernel_rfl) (fun h => by cases h)
theorem fW : TOk Tryz.prog 73 UY := E0 (.agg #[.int .i64 0, .int .i64 0, .string ⟨#[]⟩]) (by kernel_rfl) rfl rfl (show (Tryz.prog.underlying 73).map BK = some (some [(0, 3), (1, 2), (2, 9)]) by kernel_rfl) (fun _ => eA (by kernel_rfl) (by kernel_rfl) (by kernel_rfl) (by kernel_rfl))
theorem fX : TOk Tryz.prog 86 Zv := E0 (.agg #[.string ⟨#[]⟩, .slice none 0 0]) (by kernel_rfl) rfl rfl (show (Tryz.prog.underlying 86).map BK = some (some [(0, 9), (1, 26)]) by kernel_rfl) (fun h => by cases h)
theorem fY : TOk Tryz.prog 95 fG := E0 (.slice none 0 0) (by kernel_rfl) rfl rfl (show Tryz.prog.underlying 95 = some (.slice 98) by kernel_rfl) (fun h => by cases h)
theorem fZ : TOk Tryz.prog 98 Zw := E0 (.agg #[.slice none 0 0, .slice none 0 0]) (by kernel_rfl) rfl rfl (show (Tryz.prog.underlying 98).map BK = some (some [(0, 54), (1, 32)]) by kernel_rfl) (fun h => by cases h)
theorem cT : TOk Tryz.prog 100 ar := E0 (.agg #[.slice none 0 0, .int .i64 0, .slice none 0 0, .slice none 0 0]) (by kernel_rfl) rfl rfl (show (Tryz.prog.underlying 100).map BK = some (some [(0, 54), (1, 2), (2, 71), (3, 71)]) by kernel_rfl) (fun h => by cases h)
theorem cU : TOk Tryz.prog 106 au := E0 (.int .u64 0) (by kernel_rfl) rfl rfl (show Tryz.prog.underlying 106 = some (.int .u64) by kernel_rfl) (fun h => by cases h)
theorem cV : TOk Tryz.prog 109 av := E0 (.agg #[.int .i64 0, .int .i64 0, .int .i64 0, .string ⟨#[]⟩, .int .i64 0]) (by kernel_rfl) rfl rfl (show (Tryz.prog.underlying 109).map BK = some (some [(0, 3), (1, 73), (4, 3)]) by kernel_rfl) (fun h => by cases h)
theorem cW : TOk Tryz.prog 113 aw := E0 (.slice none 0 0) (by kernel_rfl) rfl rfl (show Tryz.prog.underlying 113 = some (.slice 9) by kernel_rfl) (fun h => by cases h)
theorem cX : TOk Tryz.prog 116 ax := E0 (.slice none 0 0) (by kernel_rfl) rfl rfl (show Tryz.prog.underlying 116 = some (.slice 26) by kernel_rfl) (fun h => by cases h)
theorem cY : TOk Tryz.prog 125 ay := E0 (.slice none 0 0) (by kernel_rfl) rfl rfl (show Tryz.prog.underlying 125 = some (.slice 5) by kernel_rfl) (fun h => by cases h)
theorem cZ : TOk Tryz.prog 137 az := E0 (.map none) (by kernel_rfl) rfl rfl (show (Tryz.prog.underlying 137).map KB = some true by kernel_rfl) (fun h => by cases h)
theorem c8 : TOk Tryz.prog 145 aA := E0 (.slice none 0 0) (by kernel_rfl) rfl rfl (show Tryz.prog.underlying 145 = some (.slice 186) by kernel_rfl) (fun h => by cases h)
theorem c9 : TOk Tryz.prog 161 aB := E0 (.agg #[.slice none 0 0, .slice none 0 0]) (by kernel_rfl) rfl rfl (show Tryz.prog.underlying 161 = some (.array 2 32) by kernel_rfl) (fun h => by cases h)
theorem dc : TOk Tryz.prog 162 aC := E0 (.slice none 0 0) (by kernel_rfl) rfl rfl (show Tryz.prog.underlying 162 = some (.slice 161) by kernel_rfl) (fun h => by cases h)
theorem dd : TOk Tryz.prog 165 aD := E0 (.agg #[.int .i64 0, .int .i64 0, .string ⟨#[]⟩, .int .i64 0, .int .i64 0, .string ⟨#[]⟩, .int .i64 0, .int .i64 0, .string ⟨#[]⟩]) (by kernel_rfl) rfl rfl (show Tryz.prog.underlying 165 = some (.array 3 73) by kernel_rfl) (fun h => by cases h)
theorem dh : TOk Tryz.prog 186 ti186 := E0 (.agg #[.int .i64 0, .int .i64 0, .string ⟨#[]⟩, .int .i64 0]) (by kernel_rfl) rfl rfl (show (Tryz.prog.underlying 186).map BK = some (some [(0, 73), (3, 2)]) by kernel_rfl) (fun h => by cases h)
theorem di : TOk Tryz.prog 195 aF := E0 (.map none) (by kernel_rfl) rfl rfl (show (Tryz.prog.underlying 195).map KB = some true by kernel_rfl) (fun h => by cases h)
theorem dj : TOk Tryz.prog 198 aG := E0 (.slice none 0 0) (by kernel_rfl) rfl rfl (show Tryz.prog.underlying 198 = some (.slice 200) by kernel_rfl) (fun h => by cases h)
theorem dm : TOk Tryz.prog 200 aH := E0 (.agg #[.string ⟨#[]⟩, .int .i64 0]) (by kernel_rfl) rfl rfl (show (Tryz.prog.underlying 200).map BK = some (some [(0, 9), (1, 2)]) by kernel_rfl) (fun _ => eA (by kernel_rfl) (by kernel_rfl) (by kernel_rfl) (by kernel_rfl))
theorem dq : TOk Tryz.prog 202 aI := E0 (.map none) (by kernel_rfl) rfl rfl (show (Tryz.prog.underlying 202).map KB = some true by kernel_rfl) (fun h => by cases h)
theorem dt : TOk Tryz.prog 203 aJ := E0 (.slice none 0 0) (by kernel_rfl) rfl rfl (show Tryz.prog.underlying 203 = some (.slice 232) by kernel_rfl) (fun h => by cases h)
theorem du : TOk Tryz.prog 204 aK := E0 (.agg #[.slice none 0 0, .map none, .slice none 0 0]) (by kernel_rfl) rfl rfl (show (Tryz.prog.underlying 204).map BK = some (some [(0, 203), (1, 202), (2, 198)]) by kernel_rfl) (fun h => by cases h)
theorem dv : TOk Tryz.prog 205 aL := E0 (.agg #[.slice none 0 0, .map none, .slice none 0 0]) (by kernel_rfl) rfl rfl (show (Tryz.prog.underlying 205).map BK = some (some [(0, 203), (1, 202), (2, 198)]) by kernel_rfl) (fun h => by cases h)
theorem dw : TOk Tryz.prog 232 aM := E0 (.agg #[.string ⟨#[]⟩, .slice none 0 0]) (by kernel_rfl) rfl rfl (show (Tryz.prog.underlying 232).map BK = some (some [(0, 9), (1, 113)]) by kernel_rfl) (fun h => by cases h)
theorem hT : AL Tryz.prog T := X5 (show Sh Tryz.prog iv from ⟨⟨⟨⟨⟨⟨trivial, gN, trivial⟩, gO, trivial⟩, gP, ⟨⟨trivial, gQ, trivial⟩, gR, trivial⟩⟩, fH, ⟨⟨⟨trivial, fI, trivial⟩, fJ, trivial⟩, fK, ⟨⟨trivial, fL, trivial⟩, fM, trivial⟩⟩⟩, fN, ⟨⟨⟨⟨trivial, fO, trivial⟩, fP, trivial⟩, fQ, ⟨⟨trivial, fR, trivial⟩, fS, trivial⟩⟩, fT, ⟨⟨⟨trivial, fU, trivial⟩, fV, trivial⟩, fW, ⟨trivial, fX, trivial⟩⟩⟩⟩, fY, ⟨⟨⟨⟨⟨trivial, fZ, trivial⟩, cT, trivial⟩, cU, ⟨⟨trivial, cV, trivial⟩, cW, trivial⟩⟩, cX, ⟨⟨⟨trivial, cY, trivial⟩, cZ, trivial⟩, c8, ⟨trivial, c9, trivial⟩⟩⟩, dc, ⟨⟨⟨⟨trivial, dd, trivial⟩, dh, trivial⟩, di, ⟨⟨trivial, dj, trivial⟩, dm, trivial⟩⟩, dq, ⟨⟨⟨trivial, dt, trivial⟩, du, trivial⟩, dv, ⟨trivial, dw, trivial⟩⟩⟩⟩⟩)
theorem dx : Tryz.prog.follows .mixedOrders = true := by kernel_rfl
instance tcI : TC Tryz.prog T := ⟨hT, dx⟩
instance mt137 : MapTy Tryz.prog 137 9 3 := ⟨by kernel_rfl⟩
instance ko9 : KeyOk Tryz.prog 9 JW := cp (by kernel_rfl)
instance zv3 : ZeroV Tryz.prog 3 (.one (.lit (.int .i64 0))) := M5 (by kernel_rfl) rfl
instance mt195 : MapTy Tryz.prog 195 9 198 := ⟨by kernel_rfl⟩
instance zv198 : ZeroV Tryz.prog 198 (.one (.sl [])) := UJ (by kernel_rfl)
instance mt202 : MapTy Tryz.prog 202 9 2 := ⟨by kernel_rfl⟩
instance zv2 : ZeroV Tryz.prog 2 (.one (.lit (.int .i64 0))) := M5 (by kernel_rfl) rfl
abbrev HC := HCall Tryz.prog
abbrev PC := PCall Tryz.prog
end Go.Proofs.YtmpgmjlanngkfaaGreat
end
