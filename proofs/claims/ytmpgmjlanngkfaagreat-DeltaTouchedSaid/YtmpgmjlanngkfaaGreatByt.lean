/-
  Texts and their bytes; slices that are nil.
-/
import Derived.Test.YtmpgmjlanngkfaaGreatOpa
import Derived.Lib.ConvBytes
section
namespace Go.Abs
open Go.RowKit
variable {aS args0 : List SVal} {f : FuncId} {mem0 : List Blk} {pargs : List PV} {y : Dat}
def N9 (n : Nat) : List Nat → Bool
 | [] => true
 | i :: is => Nat.blt i n && (is.all (fun j => !Nat.beq i j) && N9 n is)
theorem J7 {n : Nat} : ∀ {idx : List Nat}, N9 n idx = true → idx.Nodup ∧ ∀ i ∈ idx, i < n
 | [], _ => ⟨by simp, by simp⟩
 | i :: is, h => by
   simp only [N9, BO, Ec, Nat.blt, KM] at h
   obtain ⟨h1, h2, h3⟩ := h
   obtain ⟨g1, g2⟩ := J7 h3
   refine ⟨List.nodup_cons.2 ⟨fun q => ?_, g1⟩, fun j hj => ?_⟩
   ·have := h2 i q
    simp at this
   ·rcases Dp.1 hj with rfl | hj
    ·omega
    ·exact g2 j hj
def Lo (mem : List Blk) : List Nat → List Blk
 | [] => []
 | i :: is => (match mem[i]? with | some b => b | none => .dead) :: Lo mem is
theorem Oa : ∀ {idx : List Nat} {n i : Nat}, i < idx.length → idx[i]? = some (Aw idx n i)
 | [], _, _, h => by simp at h
 | r :: is, n, 0, _ => by simp [Aw]
 | r :: is, n, i + 1, h => by
   simp only [List.getElem?_cons_succ, Aw]
   exact Oa (by simpa using h)
theorem Lp {mem : List Blk} : ∀ {idx : List Nat}, (∀ i ∈ idx, i < mem.length) → ∀ (i r : Nat), idx[i]? = some r → (Lo mem idx)[i]? = mem[r]?
 | [], _, i, r, h => by simp at h
 | j :: is, hlt, 0, r, h => by
   simp only [List.getElem?_cons_zero, Option.some.injEq] at h
   subst h
   have := hlt j (by simp)
   simp [Lo, Bi this]
 | j :: is, hlt, i + 1, r, h => by
   simp only [Lo, List.getElem?_cons_succ]
   exact Lp (fun k hk => hlt k (by simp [hk])) i r (by simpa using h)
def IM (m : List Blk) : List Blk → Nat → Prop
 | [], _ => True
 | b :: bs, i => (match b.vers with | some 0 => Dr m i = 0 | _ => True) ∧ IM m bs (i + 1)
theorem Lq {m : List Blk} : ∀ {bs : List Blk} {k : Nat}, IM m bs k → ∀ i, (bs[i]?).bind Blk.vers = some 0 → Dr m (k + i) = 0
 | [], _, _, i, h => by simp at h
 | b :: bs, k, hk, 0, h => by
   simp only [List.getElem?_cons_zero, Option.bind_some] at h
   have := hk.1
   rw [h] at this
   exact this
 | b :: bs, k, hk, i + 1, h => by
   have := Lq hk.2 i (by simpa using h)
   rw [show k + 1 + i = k + (i + 1) by omega] at this
   exact this
theorem Ob {m mem1 m1 : List Blk} {v r1 r : SVal} (hm : He id (CP m) mem1 0 = m1) (hr : r1.up id (CP m) = r) (h : Ap m m1) (ha : AM v r) (hk : IM m mem1 0) : HR m mem1 v r1 := by
 subst hm; subst hr
 exact ⟨h, ha, fun i hi => by have := Lq hk i hi; simpa using this⟩
theorem EI {v : SVal} : AM v v := by
 cases v with
 | c x => exact .inl rfl
 | agg xs =>
   have : ∀ l : List Cell, CLes l l := by
    intro l
    induction l with
    | nil => trivial
    | cons a l ih => exact ⟨.inl rfl, ih⟩
   exact this xs
 | tup xs => exact rfl
 | und => exact rfl
 | junk => exact rfl
theorem Tj {c : Cell} {x : Dat} (h : c.dat = some x) (e : x = y) : AM (.c c) (.c (.d y)) := by subst e; exact .inr ⟨x, rfl, h⟩
theorem J8 {x y : SVal} {xs ys : List SVal} (h : AM x y) (h' : AMs xs ys) : AMs (x :: xs) (y :: ys) := ⟨h, h'⟩
theorem CC {r k n n' : Nat} (h : n = n') : AM (.c (.arr r k n)) (.c (.arr r k n')) := by subst h; exact .inl rfl
section
variable {P : Program} {T : TypeId → Option TI} {F0 : Nat → Prop} {w0 : World} {dr : Bool} {ops rest : List Oper} {K : St → Prop} {n : Nat} {sl : List (Nat × SVal)} {mem : List Blk} {ck : Nat} {df : List (FuncId × List Cell)} {acc : List Nat}
variable {d : Tmp} {op : Op} {ty : TypeId} {pos : String} {aft : Array Edge} {g : Option (Nat × Bool)}
theorem HCall.at {mem1 mem' : List Blk} {r1 v : SVal} {N : Nat} (idx : List Nat) (h : HCall P f args0 mem0 r1 mem1) (hN : mem.length = N) (hix : N9 N idx = true) (hl : idx.length = mem0.length)
  (hm : Lo mem idx = He (Aw idx N) (D3 mem (Aw idx N) ck) mem0 0) (ha : AMs aS (args0.map (SVal.up (Aw idx N) (D3 mem (Aw idx N) ck)))) (hv : r1.up (Aw idx N) (D3 mem (Aw idx N) ck) = v) (hm' : Io mem idx (He (Aw idx N) (D3 mem (Aw idx N) ck) mem1 0) = mem') :
  MCall P F0 w0 f aS mem ck fun v' m c => v' = v ∧ m = mem' ∧ c = ck + 1 := by
 subst hN; subst hv; subst hm'
 obtain ⟨g1, g2⟩ := J7 hix
 refine h.frame idx g1 g2 hl (fun i b0 hb => ?_) ha
 have hi : i < idx.length := by rw [hl]; exact lt_of_getElem? hb
 have h1 := Oa (n := mem.length) hi
 have h2 := Lp g2 i _ h1
 rw [hm, Cq, hb] at h2
 simpa using h2.symm
theorem Ak [tc : TC P T] (idx : List Nat) {f : Operand} {fv : SVal} {args : Array Operand} {ats : Array TypeId} {fid : FuncId} {caps : List Cell} {mem1 mem' : List Blk} {r1 v : SVal} {N : Nat} (hp : HCall P fid args0 mem0 r1 mem1)
  (h : Reg P F0 w0 dr ops K rest ⟨n, (d, v) :: sl, mem', ck + 1, df⟩ (2 :: acc)) (hw : GW ops g sl := by first | exact trivial | exact rfl) (hf : AO sl f = fv := by exact rfl) (hc : Cv fv = some (fid, caps) := by exact rfl) (has : args.toList.map (AO sl) ++ caps.map .c = aS := by exact rfl) (hN : mem.length = N := by first | exact (rfl : _ = 0) | exact (rfl : _ = 1) | exact (rfl : _ = 2) | exact (rfl : _ = 3) | exact (rfl : _ = 4) | exact (rfl : _ = 5) | exact (rfl : _ = 6) | exact (rfl : _ = 7) | exact (rfl : _ = 8) | exact (rfl : _ = 9) | exact (rfl : _ = 10) | exact (rfl : _ = 11) | exact (rfl : _ = 12)) (hix : N9 N idx = true := by exact rfl) (hl : idx.length = mem0.length := by exact rfl)
  (hm : Lo mem idx = He (Aw idx N) (D3 mem (Aw idx N) ck) mem0 0 := by exact rfl) (ha : AMs aS (args0.map (SVal.up (Aw idx N) (D3 mem (Aw idx N) ck))) := by (repeat refine J8 (by first | exact EI | exact Tj rfl rfl) ?_); exact trivial)
  (hv : r1.up (Aw idx N) (D3 mem (Aw idx N) ck) = v := by (try dsimp only [SVal.up, Cell.up, Cell.ups, Aw, D3, Dr, Blk.vers, List.getElem?_cons_zero, List.getElem?_cons_succ]); first | done | exact rfl)
  (hm' : Io mem idx (He (Aw idx N) (D3 mem (Aw idx N) ck) mem1 0) = mem' := by (try dsimp only [Io, He, Blk.up, Cell.up, Cell.ups, Aw, D3, Dr, Blk.vers, List.getElem?_cons_zero, List.getElem?_cons_succ, List.set_cons_zero, List.set_cons_succ, List.nil_append, List.cons_append, List.append_nil]); first | done | exact rfl) :
  Reg P F0 w0 dr ops K (⟨some d, .call ⟨.value f, args, ats⟩, ty, pos, aft, g⟩ :: rest) ⟨n, sl, mem, ck, df⟩ acc :=
 U0 tc.ok hw hf hc has (hp.at idx hN hix hl hm ha hv hm') h
theorem Xh {T : TypeId → Option TI} (hT : AB P T) {fn : Func} {c : Code} {mem1 : List Blk} {r1 : SVal} {sl : List (Nat × SVal)} (hf : P.funcs[f]? = some fn) (hb : fn.body = some c) (hnm : (fn.name == "runtime.NumGoroutine") = false)
  (n : Nat) (rs : List ResultVar) (hnt : fn.ntmps = n) (hrs : fn.results.toList = rs) (hn : decide (args0.length ≤ n) = true) (hck : Tf args0 mem0 r1 mem1 = true) (hsl : L6 args0 0 = sl) (h : ∀ B : Base, ARun P B c ⟨n, sl, mem0, 0, []⟩ (Aq P B (AW P T rs (fun r m _ => HR m mem1 r r1)) [])) : HCall P f args0 mem0 r1 mem1 := by
 have key : ∀ F0 w0, MCall P F0 w0 f args0 mem0 0 fun r m _ => HR m mem1 r r1 := fun F0 w0 => W9 hT hf hb hnm n rs hnt hrs hn hsl fun B _ _ => h B
 exact ⟨hck, (key (fun _ => False) default).1, key⟩
theorem AF {T : TypeId → Option TI} (hT : AB P T) {fn : Func} {c : Code} {mem1 : List Blk} {r1 : SVal} {sl : List (Nat × SVal)} {n : Nat} (hf : P.funcs[f]? = some fn) (hnt : fn.ntmps = n) (rs : List ResultVar) (h : ∀ B : Base, ARun P B c ⟨n, sl, mem0, 0, []⟩ (Aq P B (AW P T rs (fun r m _ => HR m mem1 r r1)) []))
  (hb : fn.body = some c := by exact rfl) (hnm : (fn.name == "runtime.NumGoroutine") = false := by kernel_rfl) (hrs : fn.results.toList = rs := by exact rfl) (hn : decide (args0.length ≤ n) = true := by exact rfl) (hck : Tf args0 mem0 r1 mem1 = true := by exact rfl) (hsl : L6 args0 0 = sl := by repeat' (first | exact A0 rfl | apply AI (a := ((_, SVal.c _) : Nat × SVal)) rfl | apply AI (a := ((_, SVal.agg _) : Nat × SVal)) rfl)) : HCall P f args0 mem0 r1 mem1 :=
 Xh hT hf hb hnm n rs hnt hrs hn hck hsl h
variable {B : Base} {mem1 m1 : List Blk} {r1 r v : SVal}
theorem Jd (hd : Af P df) (h : Ap mem m1) (hk : IM mem mem1 0 := by repeat' (first | exact trivial | refine And.intro rfl ?_ | refine And.intro trivial ?_)) (hm : He id (CP mem) mem1 0 = m1 := by repeat' (first | exact A0 rfl | apply AI rfl)) : Aq P B (AW P T [] (fun r m _ => HR m mem1 r (.tup []))) [] .norm ⟨n, sl, mem, ck, df⟩ := ⟨hd, Ob hm rfl h rfl hk⟩
theorem Bd {t : Nat} (hd : Af P df) (h : Ap mem m1) (ha : AM v r) (hk : IM mem mem1 0 := by repeat' (first | exact trivial | refine And.intro rfl ?_ | refine And.intro trivial ?_)) (hv : look sl t = v := by exact rfl) (hr : r1.up id (CP mem) = r := by exact rfl) (hm : He id (CP mem) mem1 0 = m1 := by repeat' (first | exact A0 rfl | apply AI rfl)) : Aq P B (AW P T [.tmp t] (fun r m _ => HR m mem1 r r1)) [] .ret ⟨n, sl, mem, ck, df⟩ :=
 ⟨hd, by simp only [Pk, Am, St.get, hv]; exact Ob hm hr h ha hk⟩
theorem Qr {t t' : Nat} {v' : SVal} (hd : Af P df) (h : Ap mem m1) (ha : AM (.tup [v, v']) r) (hk : IM mem mem1 0 := by repeat' (first | exact trivial | refine And.intro rfl ?_ | refine And.intro trivial ?_)) (hv : look sl t = v := by exact rfl) (hv' : look sl t' = v' := by exact rfl) (hr : r1.up id (CP mem) = r := by exact rfl) (hm : He id (CP mem) mem1 0 = m1 := by repeat' (first | exact A0 rfl | apply AI rfl)) : Aq P B (AW P T [.tmp t, .tmp t'] (fun r m _ => HR m mem1 r r1)) [] .ret ⟨n, sl, mem, ck, df⟩ :=
 ⟨hd, by simp only [Pk, Am, St.get, hv, hv']; exact Ob hm hr h ha hk⟩
def SFs (mem : List Blk) : List SVal → List PV → Prop
 | [], [] => True
 | s :: ss, p :: ps => SF mem s p ∧ SFs mem ss ps
 | _, _ => False
theorem SFs.get {mem : List Blk} : ∀ {ss : List SVal} {ps : List PV}, SFs mem ss ps → ss.length = ps.length ∧ ∀ (i : Nat) s p, ss[i]? = some s → ps[i]? = some p → SF mem s p
 | [], [], _ => ⟨rfl, by simp⟩
 | s :: ss, p :: ps, h => by
   obtain ⟨h1, h2⟩ := SFs.get h.2
   refine ⟨by simp [h1], fun i s' p' hs hp => ?_⟩
   cases i with
   | zero => simp at hs hp; subst hs; subst hp; exact h.1
   | succ i => exact h2 i s' p' (by simpa using hs) (by simpa using hp)
 | [], _ :: _, h => h.elim
 | _ :: _, [], h => h.elim
def PRes.flat : PRes → Bool
 | .v (.one (.lit _)) => true
 | .v (.agg xs) => xs.all fun x => match x with | .lit _ => true | _ => false
 | .tup xs => xs.all fun p => match p with | .one (.lit _) => true | _ => false
 | _ => false
theorem Mi {F F' : Nat → Prop} {w w' : World} {v u : Value} (h : DRep F w v (.lit u)) : DRep F' w' v (.lit u) := by
 cases h with | lit _ h => exact .lit _ h
theorem Tk {E E' : Env} {w w' : World} {v : Value} {r : PRes} (hr : r.flat = true) (h : SRep E w v r.s) : SRep E' w' v r.s := by
 cases r with
 | v p =>
   cases p with
   | one x =>
     cases x with
     | lit u => exact .c (.d (Mi h.d_inv))
     | _ => simp [PRes.flat] at hr
   | agg xs =>
     simp only [PRes.flat, Ec] at hr
     simp only [PRes.s, PV.s] at h ⊢
     cases h with | agg _ vs hl hd =>
     refine .agg _ vs hl (fun i u c hu hc => ?_)
     have := hd i u c hu hc
     rw [Ci] at hc
     cases hx : xs[i]? with
     | none => rw [hx] at hc; cases hc
     | some x =>
       rw [hx] at hc
       simp only [Option.map_some, Option.some.injEq] at hc
       subst hc
       have hq := hr x (Df hx)
       cases x with
       | lit u' => exact .d (Mi this.d_of)
       | _ => simp at hq
 | tup xs =>
   simp only [PRes.flat, Ec] at hr
   simp only [PRes.s] at h ⊢
   cases h with | tup _ vs hl hd =>
   refine .tup _ vs hl (fun i u c hu hc => ?_)
   have := hd i u c hu hc
   rw [Ci] at hc
   cases hx : xs[i]? with
   | none => rw [hx] at hc; cases hc
   | some x =>
     rw [hx] at hc
     simp only [Option.map_some, Option.some.injEq] at hc
     subst hc
     have hq := hr x (Df hx)
     cases x with
     | one x =>
       cases x with
       | lit u' => exact .c (.d (Mi this.d_inv))
       | _ => simp at hq
     | agg _ => simp at hq
theorem MCall.borrow {args : List SVal} {r : PRes} (hp : PCall P f pargs r) (ha : SFs mem args pargs) (hr : r.flat = true) : MCall P F0 w0 f args mem ck fun v m c => v = r.s ∧ m = mem ∧ c = ck := by
 refine ⟨hp.1, fun E w vs hw hl hv => ?_⟩
 obtain ⟨g1, g2⟩ := ha.get
 have hlt : ∀ b, w0.heap.size ≤ b → b < w.heap.size → b < w.heap.size := fun _ _ q => q
 have hcall := hp.2 (fun b => E.F b ∨ (w0.heap.size ≤ b ∧ b < w.heap.size)) w vs (fun k hk => by rcases hk with hk | hk; exact (hw.F k hk).1; exact hk.2) (by omega) (fun i v x hvi hx => by
  have hlt := lt_of_getElem? hvi
  have hs : args[i]? = some (args[i]'(by omega)) := Bi _
  exact SF.rep hw (g2 i _ x hs hx) (hv i v _ hvi hs) (fun b hb => .inl hb) (fun b h1 h2 => .inr ⟨h1, h2⟩))
 refine Calls.mono hcall fun e w' he => ?_
 obtain ⟨v, rfl, hb, hrep⟩ := he
 have hlat := hw.later hb (fun _ => False) (fun _ q => q.elim)
 exact ⟨v, _, r.s, mem, ck, rfl, hlat.2, hlat.1, Tk hr hrep, rfl, rfl, rfl⟩
theorem CF.later {mem M : List Blk} {c : Cell} (h : CF mem c y) (ex : Ext mem M) : CF M c y := by
 unfold CF at h ⊢
 split at h
 ·split at h
  ·rename_i hm
   rw [ex _ _ hm rfl]
   exact h
  ·exact h.elim
 ·exact h
theorem CFs.later {mem M : List Blk} (ex : Ext mem M) : ∀ {cs : List Cell} {xs : List Dat}, CFs mem cs xs → CFs M cs xs
 | [], [], _ => trivial
 | _ :: _, _ :: _, h => ⟨h.1.later ex, CFs.later ex h.2⟩
 | [], _ :: _, h => h.elim
 | _ :: _, [], h => h.elim
theorem SFs.later {mem M : List Blk} (ex : Ext mem M) : ∀ {ss : List SVal} {ps : List PV}, SFs mem ss ps → SFs M ss ps
 | [], [], _ => trivial
 | s :: ss, p :: ps, h => by
   refine ⟨?_, SFs.later ex h.2⟩
   have h1 := h.1
   unfold SF at h1 ⊢
   split at h1
   ·exact h1.later ex
   ·exact CFs.later ex h1
   ·exact h1.elim
 | [], _ :: _, h => h.elim
 | _ :: _, [], h => h.elim
theorem GC [tc : TC P T] {f : Operand} {fv : SVal} {args : Array Operand} {ats : Array TypeId} {fid : FuncId} {caps : List Cell} {r : PRes} {v : SVal} (hp : PCall P fid pargs r) (ha : SFs mem aS pargs)
  (h : Reg P F0 w0 dr ops K rest ⟨n, (d, v) :: sl, mem, ck, df⟩ (1 :: acc)) (hw : GW ops g sl := by first | exact trivial | exact rfl) (hf : AO sl f = fv := by exact rfl) (hc : Cv fv = some (fid, caps) := by exact rfl) (has : args.toList.map (AO sl) ++ caps.map .c = aS := by exact rfl) (hr : r.flat = true := by exact rfl) (hv : r.s = v := by exact rfl) :
  Reg P F0 w0 dr ops K (⟨some d, .call ⟨.value f, args, ats⟩, ty, pos, aft, g⟩ :: rest) ⟨n, sl, mem, ck, df⟩ acc :=
 OS hw (fun _ _ ex => Does.of tc.ok fun τ he hm hck Kk hK => by
  have ha := ha.later ex
  rw [← hm] at ha hK
  subst hck; subst has; subst hv
  obtain ⟨e1, e2⟩ := Jb he
  rw [hf] at e1
  simp only [AP, Ed, e1, hc, e2]
  obtain ⟨q1, q2⟩ := MCall.borrow (F0 := F0) (w0 := w0) (ck := τ.clock) hp ha hr
  refine ⟨q1, fun E w vs a1 a2 a3 => Calls.mono (q2 E w vs a1 a2 a3) fun _ _ ⟨v', E', r, m, c, p1, p2, p3, p4, p5, p6, p7⟩ => ⟨v', E', r, m, c, p1, p2, p3, p4, ?_⟩⟩
  subst p5; subst p6; subst p7
  exact hK _ _ _ _ ⟨rfl, rfl, rfl, rfl⟩) h
theorem HCall.pure {t : TypeId} {z m : Nat} {es : List (List Dat)} (h : HCall P f args0 [] (.c (.arr 0 1 m)) [.arr 1 t z es]) (ha : args0 = pargs.map PV.s) (hm : m ≤ es.length) (hy : .sl (es.take m) = y) : PCall P f pargs (.v (.one y)) := by
 subst ha; subst hy
 obtain ⟨_, hfn, hcall⟩ := h
 refine ⟨hfn, fun F w vs hF hl hv => ?_⟩
 have h0 : WOk F w (G3 F) w [] 0 := ⟨Bel.refl _ _, fun k hk => hk, fun k hk => ⟨hF k hk, .inl hk⟩, ⟨fun _ => Nat.le_refl _, fun s x hx => by simp at hx, fun s s' x x' hx => by simp at hx⟩, fun _ hk => hk.elim⟩
 refine Calls.mono ((hcall F w).2 (G3 F) w vs h0 (by simpa using hl) (fun i v x hvi hx => ?_)) fun e w' he => ?_
 ·rw [Ci] at hx
  cases hp : pargs[i]? with
  | none => rw [hp] at hx; cases hx
  | some p => rw [hp] at hx; simp only [Option.map_some, Option.some.injEq] at hx; subst hx; exact hv i v p hvi hp
 ·obtain ⟨v, E', r, mm, c', rfl, hle, hw, hrep, hr⟩ := he
  refine ⟨v, rfl, hw.below, .c (.d ?_)⟩
  have hrep := hr.res.rep hrep
  have hm0 := hr.mem 0 (.arr (Dr mm 0) t z es) rfl trivial
  simp only [SVal.up, Cell.up, id] at hrep
  cases hrep with | c hq =>
  refine EC hw hm0 hm hq (fun b hb => ⟨(hw.F b hb).2, (hw.F b hb).1⟩) (fun hc => ?_)
  have := (hw.mem.ok 0 _ hm0).lt (show Blk.has E' 0 _ from hc)
  exact ⟨.inr this.2.1, this.1⟩
end
end Go.Abs
end
section
namespace Go.Abs
variable {p q : Prop}

theorem kf (h : q) (f : q → p := by intro h; first | exact Ay Ac h | exact BB h | exact Cf h | exact CZ h | exact Ic h | exact SO h | exact DU h | exact De h | exact Jd Ac h | fail) : p := f h
theorem kg {r : Prop} (h : q) (g : r) (f : q → r → p := by intro h g; first | exact Ar Ac h g | exact Bd Ac h g | exact Qr Ac h g | exact Cg rfl rfl h g | exact Cj h g | exact L4 rfl h g | fail) : p := f h g
theorem kh {r : Prop} (h : q) (g : r) (f : q → r → p := by intro h g; first | (have _ : True := g; first | exact Ay Ac h | exact BB h | exact Cf h | exact CZ h | exact Ic h | exact SO h | exact DU h | exact De h | exact Jd Ac h) | (have _ : True := g; have _ : True := h; first | exact L5 | exact A4 | exact EI | exact Bl) | exact Ar Ac h g | exact Bd Ac h g | exact Qr Ac h g | exact Cg rfl rfl h g | exact Cj h g | exact L4 rfl h g | fail) : p := f h g
theorem k0 (f : p := by first | exact L5 | exact A4 | exact EI | exact Bl | fail) : p := f
theorem kz (h : q) (f : q → p := by intro h; first | with_reducible (first | exact CJ h | exact B9 h | exact B1 h | exact C0 h | exact C9 h | exact CK h | exact Ca h | exact Ef h | exact C1 h | exact KQ h | exact PT h | exact C5 h | exact VU h) | ((with_reducible refine Lh ?_); first | exact CM h) | ((with_reducible refine Qk ?_); first | exact DX h | exact DY h) | ((with_reducible refine is_exit ?_); first | exact s_past h) | ((with_reducible refine SV ?_); first | exact CL h | exact CO h) | ((with_reducible refine NV ?_); first | exact Cc h | exact Ql h | exact s_skipN h | exact s_skipUN h) | ((with_reducible refine Qg ?_); first | exact Cd h) | ((with_reducible refine Le ?_); first | exact Bf h) | ((with_reducible refine SS ?_); first | exact Eo h | exact SX h | exact s_eqB h | exact VW h | exact VX h | exact VY h | exact TA h | exact V6 h | exact YP h | exact V7 h) | ((with_reducible refine P7 ?_); first | exact TE h | exact s_nilF h) | ((with_reducible refine Nk ?_); first | exact Qv h) | ((with_reducible refine Nl ?_); first | exact Qx h) | ((with_reducible refine Qi ?_); first | exact BH h | exact Bp h | exact BI h | exact Bq h) | ((with_reducible refine NO ?_); first | exact BK h | exact s_indexVF h | exact Li h) | ((with_reducible refine NM ?_); first | exact BJ h | exact Bv h | exact N0 h) | ((with_reducible refine Qh ?_); first | exact C8 h | exact s_pickB h) | ((with_reducible refine NP ?_); first | exact C6 h | exact SZ h | exact S0 h | exact C7 h | exact Ha h | exact Cz h | exact V0 h | exact V1 h) | ((with_reducible refine NN ?_); first | exact Bg h) | ((with_reducible refine Lf ?_); first | exact Ea h | exact J1 h) | ((with_reducible refine JY ?_); first | exact Lj h) | ((with_reducible refine NS ?_); first | exact B0 h) | ((with_reducible refine VV ?_); first | exact Qm h | exact VZ h) | ((with_reducible refine Qj ?_); first | exact SY h | exact JR h | exact H0 h | exact La h) | ((with_reducible refine SU ?_); first | exact N2 h) | ((with_reducible refine NQ ?_); first | exact L9 h) | ((with_reducible refine NT ?_); first | exact BL h | exact N1 h | exact s_sliceE h | exact s_sliceA h) | ((with_reducible refine Lg ?_); first | exact S1 h) | ((with_reducible refine NR ?_); first | exact s_func0 h | exact s_funcD h | exact Ce h) | ((with_reducible refine NU ?_); first | exact Qn h)) : p := f h
theorem AT {o : Prop} (x : o) (h : q) (f : o → q → p := by intro x h; first | exact Bw h (hel := by exact BQ x (by omega)) | exact Bw h (hel := by exact x) | exact CX h (he' := by exact x) | exact NZ h (he' := by exact x) | exact Cy h (hj := by exact x)) : p := f x h
theorem As (h : q) (f : q → p := by intro h; first | exact Bw h (hel := by exact rfl) | exact CX h (he' := by exact rfl) | exact NZ h (he' := by exact rfl) | exact Cy h (hj := by exact rfl) | fail) : p := f h
abbrev iC (z : Int) : SVal := .c (.d (.lit (.int .i64 z)))
end Go.Abs
end
section
namespace Go.Abs
open Go.RowKit
variable {dst : Option Tmp} {e s t : TypeId} {es : List (List Dat)} {i j k : TI} {l : List UInt8} {x : Operand} {σ : St}
def MD (b : UInt8) : List Dat := [.lit (.int .u8 b.toNat)]
def Sv (l : List UInt8) : Dat := .sl (l.map MD)
theorem SRep.c_inv {E : Env} {w : World} {v : Value} {x : Cell} (h : SRep E w v (.c x)) : CRep E w v x := by cases h; assumption
theorem IJ : ∀ (l : List UInt8) (r : ByteArray), (l.map fun b => ((b.toNat : Nat) : Int)).foldl (fun r n => r.push (UInt8.ofNat n.toNat)) r = ⟨r.data ++ l.toArray⟩
 | [], r => by simp
 | b :: l, r => by
   simp only [List.map_cons, List.foldl_cons, QH]
   rw [IJ l]
   simp [ByteArray.push]
theorem K9 {P : Program} {w : World} {F : Nat → Prop} {v : Value} (h : DRep F w v (Sv l)) : (Conv.bytesToString v).run P w = .ok (.string ⟨l.toArray⟩) w := by
 by_cases hne : l = []
 ·subst hne
  rcases h.sl_inv with ⟨_, a, c, rfl⟩ | ⟨b, off, cap, size, us, rfl, _⟩
  ·cases a with
   | none => simp [Conv.bytesToString]; rfl
   | some a =>
     have := run_bytesToString (P := P) w a 0 c [] (by simpa using run_loadCells_list (P := P) w a [] (by simp))
     exact this
  ·have := run_bytesToString (P := P) w ⟨b, off, none⟩ 0 cap [] (by simpa using run_loadCells_list (P := P) w ⟨b, off, none⟩ [] (by simp))
   exact this
 ·obtain ⟨b, off, cap, news, rfl, hnl, hnc, hn1, hflat⟩ := h.flat (esz := 1) (fun e he => by obtain ⟨x, _, rfl⟩ := List.mem_map.1 he; rfl) (by simpa using hne)
  have hn : news = (l.map fun b => ((b.toNat : Nat) : Int)).map (Value.int .u8) := by
   apply QG
   intro i
   simp only [BT, Nat.mul_one] at hnl
   by_cases hi : i < l.length
   · have hg : news[i]? = some (news[i]'(by omega)) := Bi _
     have hq := hflat i 0 (MD l[i]) (news[i]'(by omega)) (.lit (.int .u8 l[i].toNat)) (by rw [Ci, Bi hi]; rfl) rfl (by simp [hg])
     rw [hg]
     simp only [Ci, Bi hi, Option.map_some, Option.some.injEq]
     generalize news[i]'(by omega) = u at hq
     cases hq; rfl
   · rw [Ub (by omega), Ub (by simp; omega)]
  have hl := run_loadCells_list (P := P) w ⟨b, off, none⟩ news (fun j u hu => hnc j u hu)
  simp only [BT, Nat.mul_one] at hnl
  rw [hnl] at hl
  subst hn
  have := run_bytesToString (P := P) w ⟨b, off, none⟩ l.length cap _ hl
  rw [IJ] at this
  simpa using this
section
variable {P : Program} {T : TypeId → Option TI} {F0 : Nat → Prop} {w0 : World}
variable {dr : Bool} {ops rest : List Oper} {K : St → Prop} {n : Nat} {sl : List (Nat × SVal)} {mem : List Blk} {ck : Nat} {df : List (FuncId × List Cell)} {acc : List Nat}
variable {d : Tmp} {op : Op} {ty : TypeId} {pos : String} {aft : Array Edge} {g : Option (Nat × Bool)}
theorem JR [tc : TC P T] {b : ByteArray} 
  (h : Reg P F0 w0 dr ops K rest ⟨n, (d, .c (.d (Sv b.data.toList))) :: sl, mem, ck, df⟩ (0 :: acc)) (hw : GW ops g sl := by first | exact trivial | exact rfl) (hx : AO sl x = .c (.d (.lit (.string b))) := by exact rfl) (hb : (b.size : Int) ≤ 9223372036854775807 := by omega)
  (hs : T s = some i := by exact rfl) (hi : i.desc = .str := by exact rfl) (ht : T t = some j := by exact rfl) (hj : j.desc = .slice e := by exact rfl) (he : T e = some k := by exact rfl) (hk : k.desc = .int .u8 := by exact rfl) :
  Reg P F0 w0 dr ops K (⟨some d, .convert s t x, ty, pos, aft, g⟩ :: rest) ⟨n, sl, mem, ck, df⟩ acc := by
 refine Gw hw (fun m c => B6 fun E w ρ hw' hρ => ?_) h
 have e1 := hρ x (by simp [Op.operands])
 rw [hx] at e1
 have e1 := e1.lit_inv
 have us : P.underlying s = some .string := by have := (tc.ok s i hs).desc; rw [hi] at this; exact this
 have ut : P.underlying t = some (.slice e) := by have := (tc.ok t j ht).desc; rw [hj] at this; exact this
 have ue : P.underlying e = some (.int .u8) := by have := (tc.ok e k he).desc; rw [hk] at this; exact this
 have hr := Go.Lib.run_convert_string_bytes (P := P) w s t e b us ut ue
 have hbel : Bel w.heap.size w (Go.Lib.bytesWorld w e b) := by
  refine ⟨⟨?_, ?_, ?_, ?_, fun k hk => Go.Lib.bytesWorld_at_old w e b k hk⟩, ?_⟩
  · unfold Go.Lib.bytesWorld World.freeze; split <;> rfl
  · unfold Go.Lib.bytesWorld World.freeze; split <;> rfl
  · unfold Go.Lib.bytesWorld World.freeze; split <;> rfl
  · rw [Go.Lib.bytesWorld_size]; omega
  · unfold Go.Lib.bytesWorld World.freeze; split <;> exact Nat.le_succ _
 have hlat := hw'.later hbel (fun k => k = w.heap.size) (fun k q => by subst q; rw [Go.Lib.bytesWorld_size]; omega)
 refine ⟨.slice (some ⟨w.heap.size, 0, none⟩) b.size (grownCap w b.size 0 e), Go.Lib.bytesWorld w e b, _, by simp [execOp, e1, hr], hlat.2, hlat.1, .c (.d ?_)⟩
 have hm : b.size ≤ maxLen := by simp only [maxLen]; omega
 have hsz : b.data.toList.length = b.size := by simp
 have hd := DRep.sl (F := fun k => E.F k ∨ k = w.heap.size) (w := Go.Lib.bytesWorld w e b) (b.data.toList.map MD) w.heap.size 0 (grownCap w b.size 0 e) 1 (fun i _ => .int .u8 (b.data.toList.getD i 0).toNat) (.inr rfl)
  (by rw [BT, hsz]; exact grownCap_ge w _ _ e) (grownCap_le_maxLen w _ _ e hm) (fun el hel => by obtain ⟨x, _, rfl⟩ := List.mem_map.1 hel; rfl)
  (fun i j hi hj => by
    have hj0 : j = 0 := by omega
    subst hj0
    rw [BT, hsz] at hi
    simpa using Go.Lib.bytesWorld_cell w e b i hi)
  (fun i j el x q1 q2 => by
    rw [Ci] at q1
    cases hq : b.data.toList[i]? with
    | none => rw [hq] at q1; cases q1
    | some y =>
      rw [hq] at q1
      simp only [Option.map_some, Option.some.injEq] at q1
      subst q1
      match j with
      | 0 =>
        simp only [MD, List.getElem?_cons_zero, Option.some.injEq] at q2
        subst q2
        simp only [List.getD, hq, RW]
        exact .lit _ rfl
      | j + 1 => simp [MD] at q2)
 rw [BT, hsz] at hd
 exact hd
theorem H0 [tc : TC P T] 
  (h : Reg P F0 w0 dr ops K rest ⟨n, (d, .c (.d (.lit (.string ⟨l.toArray⟩)))) :: sl, mem, ck, df⟩ (0 :: acc)) (hw : GW ops g sl := by first | exact trivial | exact rfl) (hx : AO sl x = .c (.d (.sl es)) := by exact rfl) (hes : es = l.map MD := by exact rfl)
  (hs : T s = some i := by exact rfl) (hi : i.desc = .slice e := by exact rfl) (ht : T t = some j := by exact rfl) (hj : j.desc = .str := by exact rfl) (he : T e = some k := by exact rfl) (hk : k.desc = .int .u8 := by exact rfl) :
  Reg P F0 w0 dr ops K (⟨some d, .convert s t x, ty, pos, aft, g⟩ :: rest) ⟨n, sl, mem, ck, df⟩ acc := by
 subst hes
 refine Gw hw (HH fun E w ρ hρ => ?_) h
 have e1 := hρ x (by simp [Op.operands])
 rw [hx] at e1
 have us : P.underlying s = some (.slice e) := by have := (tc.ok s i hs).desc; rw [hi] at this; exact this
 have ut : P.underlying t = some .string := by have := (tc.ok t j ht).desc; rw [hj] at this; exact this
 have ue : P.underlying e = some (.int .u8) := by have := (tc.ok e k he).desc; rw [hk] at this; exact this
 have hd := e1.d_inv
 have hb := K9 (P := P) (l := l) hd
 obtain ⟨a, m, c, hv⟩ : ∃ a m c, ρ x = .slice a m c := by
  rcases hd.sl_inv with ⟨_, a, c, hv⟩ | ⟨b, off, cap, size, us, hv, _⟩
  · exact ⟨_, _, _, hv⟩
  · exact ⟨_, _, _, hv⟩
 refine ⟨.string ⟨l.toArray⟩, ?_, .c (.d (.lit _ rfl))⟩
 rw [hv] at hb
 simp only [execOp, hv, Sem.run_bind, run_convert_bytes_string w s t e a m c us ue ut, hb, Result.andThen_ok, Sem.run_pure]
theorem La [tc : TC P T] {ety : TypeId} {r k' m z : Nat} 
  (h : Reg P F0 w0 dr ops K rest ⟨n, (d, .c (.d (.lit (.string ⟨l.toArray⟩)))) :: sl, mem, ck, df⟩ (1 :: acc)) (hw : GW ops g sl := by first | exact trivial | exact rfl) (hx : AO sl x = .c (.arr r k' m) := by exact rfl) (hm : mem[r]? = some (.arr k' ety z es) := by exact rfl) (hes : es.take m = l.map MD ∧ m ≤ es.length := by exact And.intro Hz (by simp))
  (hs : T s = some i := by exact rfl) (hi : i.desc = .slice e := by exact rfl) (ht : T t = some j := by exact rfl) (hj : j.desc = .str := by exact rfl) (he : T e = some k := by exact rfl) (hk : k.desc = .int .u8 := by exact rfl) :
  Reg P F0 w0 dr ops K (⟨some d, .convert s t x, ty, pos, aft, g⟩ :: rest) ⟨n, sl, mem, ck, df⟩ acc := by
 refine Ez hw hm (fun mem ck hm => B6 fun E w ρ hw' hρ => ?_) h
 have e1 := hρ x (by simp [Op.operands])
 rw [hx] at e1
 have us : P.underlying s = some (.slice e) := by have := (tc.ok s i hs).desc; rw [hi] at this; exact this
 have ut : P.underlying t = some .string := by have := (tc.ok t j ht).desc; rw [hj] at this; exact this
 have ue : P.underlying e = some (.int .u8) := by have := (tc.ok e k he).desc; rw [hk] at this; exact this
 have hd : DRep (fun b => E.F b ∨ b = E.blk r) w (ρ x) (.sl (es.take m)) := by
  exact EC hw' hm hes.2 e1.c_inv (fun b hb => .inl hb) (fun _ => .inr rfl)
 rw [hes.1] at hd
 have hb := K9 (P := P) (l := l) hd
 obtain ⟨a, m', c, hv⟩ : ∃ a m c, ρ x = .slice a m c := by
  rcases hd.sl_inv with ⟨_, a, c, hv⟩ | ⟨b, off, cap, size, us, hv, _⟩
  · exact ⟨_, _, _, hv⟩
  · exact ⟨_, _, _, hv⟩
 refine ⟨.string ⟨l.toArray⟩, w, E, ?_, EnvLe.refl _ _, hw', .c (.d (.lit _ rfl))⟩
 rw [hv] at hb
 simp only [execOp, hv, Sem.run_bind, run_convert_bytes_string w s t e a m' c us ue ut, hb, Result.andThen_ok, Sem.run_pure]
theorem CH [tc : TC P T] {t' : TypeId} 
  (h : ∀ b : Bool, (b = true → es = []) → Reg P F0 w0 false ops K rest ⟨n, (d, .c (.d (.lit (.bool b)))) :: sl, mem, ck, df⟩ (2 :: acc)) (hw : GW ops g sl := by first | exact trivial | exact rfl) (hx : AO sl x = .c (.d (.sl es)) := by exact rfl)
  (ht : T t = some i := by exact rfl) (hi : i.desc = .slice e := by exact rfl) :
  Reg P F0 w0 false ops K (⟨some d, .binOp .eql t x (.const (.slice none 0 0)) t', ty, pos, aft, g⟩ :: rest) ⟨n, sl, mem, ck, df⟩ acc := by
 refine UU (R := fun v m c1 df' => (∃ b : Bool, (b = true → es = []) ∧ v = .c (.d (.lit (.bool b))) ∧ m = mem ∧ c1 = ck) ∧ df' = []) rfl hw (Xk fun E w ρ hc hw' hρ => ?_) ?_
 ·have e1 := hρ x (by simp [Op.operands])
  rw [hx] at e1
  have ut : P.underlying t = some (.slice e) := by have := (tc.ok t i ht).desc; rw [hi] at this; exact this
  have hd := e1.d_inv
  obtain ⟨a, m, c, hv, hn⟩ : ∃ a m c, ρ x = .slice a m c ∧ (a.isNone = true → es = []) := by
    rcases hd.sl_inv with ⟨hq, a, c, hv⟩ | ⟨b, off, cap, size, us, hv, _⟩
    ·exact ⟨_, _, _, hv, fun _ => hq⟩
    ·exact ⟨_, _, _, hv, fun q => by cases q⟩
  have key : ∀ d, (Op.equalIn (d + 1) t (.slice a m c) (.slice none 0 0)).run P w = .ok a.isNone w := by
    intro d
    cases a <;> simp [Op.equalIn, run_underlying ut]
  refine ⟨.bool a.isNone, w, E, _, _, _, ?_, EnvLe.refl _ _, hw', .c (.d (.lit _ rfl)), a.isNone, hn, rfl, rfl, rfl⟩
  have k2 : (Op.equal t (.slice a m c) (.slice none 0 0)).run P w = .ok a.isNone w := key 9999
  simp only [execOp, hv, hc, Sem.run_bind, eqGuard_at_slice, Sem.run_pure, Result.andThen_ok, binOp, k2]
 ·rintro v m c1 df' ⟨⟨b, q1, rfl, rfl, rfl⟩, rfl⟩
  exact h b q1
theorem P7 (h : Reg P F0 w0 dr ops K (⟨dst, (.nilCheck x), ty, pos, aft, g⟩ :: rest) σ acc) : Reg P F0 w0 dr ops K (⟨dst, (.nilCheck x), ty, pos, aft, g⟩ :: rest) σ acc := h
theorem Nk {x : Option Operand} (h : Reg P F0 w0 dr ops K (⟨dst, (.makeMap t x), ty, pos, aft, g⟩ :: rest) σ acc) : Reg P F0 w0 dr ops K (⟨dst, (.makeMap t x), ty, pos, aft, g⟩ :: rest) σ acc := h
theorem Nl (h : Reg P F0 w0 dr ops K (⟨dst, (.range t x), ty, pos, aft, g⟩ :: rest) σ acc) : Reg P F0 w0 dr ops K (⟨dst, (.range t x), ty, pos, aft, g⟩ :: rest) σ acc := h
theorem F2 {s : ByteArray} {b : UInt8} {z : Int} {i : Nat} (h : s[i]? = some b) (e : z = i) : 0 ≤ z ∧ s[z.toNat]? = some b := by subst e; exact ⟨by omega, by simpa using h⟩
theorem m3 {k k1 : Nat} {kt vt : TypeId} {es es1 : List (Value × PV)} {bs bs1 : List Nat} {c c1 : Nat} {a b : List Blk} (he : es = es1) (hb : bs = bs1) (hc : c = c1) (h : Ap a b) (hk : k = k1 := by first | exact rfl | omega) : Ap (.map k kt vt es bs c :: a) (.map k1 kt vt es1 bs1 c1 :: b) := by subst he; subst hb; subst hc; subst hk; exact Ab h
theorem m4 {k k1 r k' since since1 : Nat} {sb sb1 : List Nat} {a b : List Blk} (he : sb = sb1) (h : Ap a b) (hk : k = k1 := by exact rfl) (hs : since = since1 := by first | exact rfl | omega) : Ap (.iter k r k' since sb :: a) (.iter k1 r k' since1 sb1 :: b) := by subst he; subst hs; subst hk; exact Ab h
theorem YB {m m' : List Blk} (h : Ap m m') : Ap m m' := h
theorem av {x y : SVal} (h : AM x y) : AM x y := h
end
end Go.Abs
end
