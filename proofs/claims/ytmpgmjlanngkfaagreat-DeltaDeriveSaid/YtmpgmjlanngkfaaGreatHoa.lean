/-
  An append to an empty literal that fills a hole, in a region of open order; fields and cells of one box.
-/
import Derived.Test.YtmpgmjlanngkfaaGreatOpa
section
namespace Go.Abs
open Go.RowKit
def NG (n : Nat) : List Nat → Bool
 | [] => true
 | i :: is => Nat.blt i n && (is.all (fun j => !Nat.beq i j) && NG n is)
theorem JM {n : Nat} : ∀ {idx : List Nat}, NG n idx = true → idx.Nodup ∧ ∀ i ∈ idx, i < n
 | [], _ => ⟨by simp, by simp⟩
 | i :: is, h => by
   simp only [NG, Bool.and_eq_true, List.all_eq_true, Nat.blt, Nat.ble_eq] at h
   obtain ⟨h1, h2, h3⟩ := h
   obtain ⟨g1, g2⟩ := JM h3
   refine ⟨List.nodup_cons.2 ⟨fun q => ?_, g1⟩, fun j hj => ?_⟩
   ·have := h2 i q
    simp at this
   ·rcases List.mem_cons.1 hj with rfl | hj
    ·omega
    ·exact g2 j hj
def KW (mem : List Blk) : List Nat → List Blk
 | [] => []
 | i :: is => (match mem[i]? with | some b => b | none => .dead) :: KW mem is
theorem NH : ∀ {idx : List Nat} {n i : Nat}, i < idx.length → idx[i]? = some (Av idx n i)
 | [], _, _, h => by simp at h
 | r :: is, n, 0, _ => by simp [Av]
 | r :: is, n, i + 1, h => by
   simp only [List.getElem?_cons_succ, Av]
   exact NH (by simpa using h)
theorem KX {mem : List Blk} : ∀ {idx : List Nat}, (∀ i ∈ idx, i < mem.length) → ∀ (i r : Nat), idx[i]? = some r → (KW mem idx)[i]? = mem[r]?
 | [], _, i, r, h => by simp at h
 | j :: is, hlt, 0, r, h => by
   simp only [List.getElem?_cons_zero, Option.some.injEq] at h
   subst h
   have := hlt j (by simp)
   simp [KW, List.getElem?_eq_getElem this]
 | j :: is, hlt, i + 1, r, h => by
   simp only [KW, List.getElem?_cons_succ]
   exact KX (fun k hk => hlt k (by simp [hk])) i r (by simpa using h)
def JN (m : List Blk) : List Blk → Nat → Prop
 | [], _ => True
 | b :: bs, i => (match b.vers with | some 0 => C1 m i = 0 | _ => True) ∧ JN m bs (i + 1)
theorem KY {m : List Blk} : ∀ {bs : List Blk} {k : Nat}, JN m bs k → ∀ i, (bs[i]?).bind Blk.vers = some 0 → C1 m (k + i) = 0
 | [], _, _, i, h => by simp at h
 | b :: bs, k, hk, 0, h => by
   simp only [List.getElem?_cons_zero, Option.bind_some] at h
   have := hk.1
   rw [h] at this
   exact this
 | b :: bs, k, hk, i + 1, h => by
   have := KY hk.2 i (by simpa using h)
   rw [show k + 1 + i = k + (i + 1) by omega] at this
   exact this
theorem Qg {m mem1 m1 : List Blk} {v r1 r : SVal} (hm : Hf id (CU m) mem1 0 = m1) (hr : r1.up id (CU m) = r) (h : Ar m m1) (ha : AM v r) (hk : JN m mem1 0) : HR m mem1 v r1 := by
 subst hm; subst hr
 exact ⟨h, ha, fun i hi => by have := KY hk i hi; simpa using this⟩
theorem Fc {v : SVal} : AM v v := by
 cases v with
 | c x => exact .inl rfl
 | agg xs =>
   have : ∀ l : List Cell, CLes l l := by
    intro l
    induction l with
    | nil => trivial
    | cons a l ih => exact ⟨.inl rfl, ih⟩
   exact this xs
 | tup xs => exact rfl
 | und => exact rfl
 | junk => exact rfl
theorem Tw {c : Cell} {x y : Dat} (h : c.dat = some x) (e : x = y) : AM (.c c) (.c (.d y)) := by subst e; exact .inr ⟨x, rfl, h⟩
theorem EQ {x y : SVal} {xs ys : List SVal} (h : AM x y) (h' : AMs xs ys) : AMs (x :: xs) (y :: ys) := ⟨h, h'⟩
theorem JO {r k n n' : Nat} (h : n = n') : AM (.c (.arr r k n)) (.c (.arr r k n')) := by subst h; exact .inl rfl
section
variable {P : Program} {T : TypeId → Option TI} {F0 : Nat → Prop} {w0 : World} {dr : Bool} {ops rest : List Oper} {K : St → Prop} {n : Nat} {sl : List (Nat × SVal)} {mem : List Blk} {ck : Nat} {df : List (FuncId × List Cell)} {acc : List Nat}
variable {d : Tmp} {op : Op} {ty : TypeId} {pos : String} {aft : Array Edge} {g : Option (Nat × Bool)}
theorem HCall.at {f : FuncId} {args0 as : List SVal} {mem0 mem1 mem' : List Blk} {r1 v : SVal} {N : Nat} (idx : List Nat) (h : HCall P f args0 mem0 r1 mem1) (hN : mem.length = N) (hix : NG N idx = true) (hl : idx.length = mem0.length)
  (hm : KW mem idx = Hf (Av idx N) (CZ mem (Av idx N) ck) mem0 0) (ha : AMs as (args0.map (SVal.up (Av idx N) (CZ mem (Av idx N) ck)))) (hv : r1.up (Av idx N) (CZ mem (Av idx N) ck) = v) (hm' : GY mem idx (Hf (Av idx N) (CZ mem (Av idx N) ck) mem1 0) = mem') :
  MCall P F0 w0 f as mem ck fun v' m c => v' = v ∧ m = mem' ∧ c = ck + 1 := by
 subst hN; subst hv; subst hm'
 obtain ⟨g1, g2⟩ := JM hix
 refine h.frame idx g1 g2 hl (fun i b0 hb => ?_) ha
 have hi : i < idx.length := by rw [hl]; exact lt_of_getElem? hb
 have h1 := NH (n := mem.length) hi
 have h2 := KX g2 i _ h1
 rw [hm, Cf, hb] at h2
 simpa using h2.symm
theorem Ad [tc : TC P T] (idx : List Nat) {f : Operand} {fv : SVal} {args : Array Operand} {ats : Array TypeId} {fid : FuncId} {caps : List Cell} {args0 as : List SVal} {mem0 mem1 mem' : List Blk} {r1 v : SVal} {N : Nat} (hp : HCall P fid args0 mem0 r1 mem1)
  (h : Reg P F0 w0 dr ops K rest ⟨n, (d, v) :: sl, mem', ck + 1, df⟩ (2 :: acc)) (hw : GW ops g sl := by first | exact trivial | exact rfl) (hf : AC sl f = fv := by exact rfl) (hc : B2 fv = some (fid, caps) := by exact rfl) (has : args.toList.map (AC sl) ++ caps.map .c = as := by exact rfl) (hN : mem.length = N := by first | exact (rfl : _ = 0) | exact (rfl : _ = 1) | exact (rfl : _ = 2) | exact (rfl : _ = 3) | exact (rfl : _ = 4) | exact (rfl : _ = 5) | exact (rfl : _ = 6) | exact (rfl : _ = 7) | exact (rfl : _ = 8) | exact (rfl : _ = 9) | exact (rfl : _ = 10) | exact (rfl : _ = 11) | exact (rfl : _ = 12)) (hix : NG N idx = true := by exact rfl) (hl : idx.length = mem0.length := by exact rfl)
  (hm : KW mem idx = Hf (Av idx N) (CZ mem (Av idx N) ck) mem0 0 := by exact rfl) (ha : AMs as (args0.map (SVal.up (Av idx N) (CZ mem (Av idx N) ck))) := by (repeat refine EQ (by first | exact Fc | exact Tw rfl rfl) ?_); exact trivial)
  (hv : r1.up (Av idx N) (CZ mem (Av idx N) ck) = v := by (try dsimp only [SVal.up, Cell.up, Cell.ups, Av, CZ, C1, Blk.vers, List.getElem?_cons_zero, List.getElem?_cons_succ]); first | done | exact rfl)
  (hm' : GY mem idx (Hf (Av idx N) (CZ mem (Av idx N) ck) mem1 0) = mem' := by (try dsimp only [GY, Hf, Blk.up, Cell.up, Cell.ups, Av, CZ, C1, Blk.vers, List.getElem?_cons_zero, List.getElem?_cons_succ, List.set_cons_zero, List.set_cons_succ, List.nil_append, List.cons_append, List.append_nil]); first | done | exact rfl) :
  Reg P F0 w0 dr ops K (⟨some d, .call ⟨.value f, args, ats⟩, ty, pos, aft, g⟩ :: rest) ⟨n, sl, mem, ck, df⟩ acc :=
 Vf tc.ok hw hf hc has (hp.at idx hN hix hl hm ha hv hm') h
theorem XC {T : TypeId → Option TI} (hT : AE P T) {f : FuncId} {fn : Func} {c : Code} {args0 : List SVal} {mem0 mem1 : List Blk} {r1 : SVal} {sl : List (Nat × SVal)} (hf : P.funcs[f]? = some fn) (hb : fn.body = some c) (hnm : (fn.name == "runtime.NumGoroutine") = false)
  (n : Nat) (rs : List ResultVar) (hnt : fn.ntmps = n) (hrs : fn.results.toList = rs) (hn : decide (args0.length ≤ n) = true) (hck : Ts args0 mem0 r1 mem1 = true) (hsl : LL args0 0 = sl) (h : ∀ B : Base, ARun P B c ⟨n, sl, mem0, 0, []⟩ (At P B (AW P T rs (fun r m _ => HR m mem1 r r1)) [])) : HCall P f args0 mem0 r1 mem1 := by
 have key : ∀ F0 w0, MCall P F0 w0 f args0 mem0 0 fun r m _ => HR m mem1 r r1 := fun F0 w0 => Xy hT hf hb hnm n rs hnt hrs hn hsl fun B _ _ => h B
 exact ⟨hck, (key (fun _ => False) default).1, key⟩
theorem As {T : TypeId → Option TI} (hT : AE P T) {f : FuncId} {fn : Func} {c : Code} {args0 : List SVal} {mem0 mem1 : List Blk} {r1 : SVal} {sl : List (Nat × SVal)} {n : Nat} (hf : P.funcs[f]? = some fn) (hnt : fn.ntmps = n) (rs : List ResultVar) (h : ∀ B : Base, ARun P B c ⟨n, sl, mem0, 0, []⟩ (At P B (AW P T rs (fun r m _ => HR m mem1 r r1)) []))
  (hb : fn.body = some c := by exact rfl) (hnm : (fn.name == "runtime.NumGoroutine") = false := by kernel_rfl) (hrs : fn.results.toList = rs := by exact rfl) (hn : decide (args0.length ≤ n) = true := by exact rfl) (hck : Ts args0 mem0 r1 mem1 = true := by exact rfl) (hsl : LL args0 0 = sl := by repeat' (first | exact AS rfl | apply AA (a := ((_, SVal.c _) : Nat × SVal)) rfl | apply AA (a := ((_, SVal.agg _) : Nat × SVal)) rfl)) : HCall P f args0 mem0 r1 mem1 :=
 XC hT hf hb hnm n rs hnt hrs hn hck hsl h
variable {B : Base} {mem1 m1 : List Blk} {r1 r v : SVal}
theorem Em (hd : Ah P df) (h : Ar mem m1) (hk : JN mem mem1 0 := by repeat' (first | exact trivial | refine And.intro rfl ?_ | refine And.intro trivial ?_)) (hm : Hf id (CU mem) mem1 0 = m1 := by repeat' (first | exact AS rfl | apply AA rfl)) : At P B (AW P T [] (fun r m _ => HR m mem1 r (.tup []))) [] .norm ⟨n, sl, mem, ck, df⟩ := ⟨hd, Qg hm rfl h rfl hk⟩
theorem AX {t : Nat} (hd : Ah P df) (h : Ar mem m1) (ha : AM v r) (hk : JN mem mem1 0 := by repeat' (first | exact trivial | refine And.intro rfl ?_ | refine And.intro trivial ?_)) (hv : look sl t = v := by exact rfl) (hr : r1.up id (CU mem) = r := by exact rfl) (hm : Hf id (CU mem) mem1 0 = m1 := by repeat' (first | exact AS rfl | apply AA rfl)) : At P B (AW P T [.tmp t] (fun r m _ => HR m mem1 r r1)) [] .ret ⟨n, sl, mem, ck, df⟩ :=
 ⟨hd, by simp only [QX, Am, St.get, hv]; exact Qg hm hr h ha hk⟩
theorem Vs {t t' : Nat} {v' : SVal} (hd : Ah P df) (h : Ar mem m1) (ha : AM (.tup [v, v']) r) (hk : JN mem mem1 0 := by repeat' (first | exact trivial | refine And.intro rfl ?_ | refine And.intro trivial ?_)) (hv : look sl t = v := by exact rfl) (hv' : look sl t' = v' := by exact rfl) (hr : r1.up id (CU mem) = r := by exact rfl) (hm : Hf id (CU mem) mem1 0 = m1 := by repeat' (first | exact AS rfl | apply AA rfl)) : At P B (AW P T [.tmp t, .tmp t'] (fun r m _ => HR m mem1 r r1)) [] .ret ⟨n, sl, mem, ck, df⟩ :=
 ⟨hd, by simp only [QX, Am, St.get, hv, hv']; exact Qg hm hr h ha hk⟩
def SFs (mem : List Blk) : List SVal → List PV → Prop
 | [], [] => True
 | s :: ss, p :: ps => SF mem s p ∧ SFs mem ss ps
 | _, _ => False
theorem SFs.get {mem : List Blk} : ∀ {ss : List SVal} {ps : List PV}, SFs mem ss ps → ss.length = ps.length ∧ ∀ (i : Nat) s p, ss[i]? = some s → ps[i]? = some p → SF mem s p
 | [], [], _ => ⟨rfl, by simp⟩
 | s :: ss, p :: ps, h => by
   obtain ⟨h1, h2⟩ := SFs.get h.2
   refine ⟨by simp [h1], fun i s' p' hs hp => ?_⟩
   cases i with
   | zero => simp at hs hp; subst hs; subst hp; exact h.1
   | succ i => exact h2 i s' p' (by simpa using hs) (by simpa using hp)
 | [], _ :: _, h => h.elim
 | _ :: _, [], h => h.elim
def PRes.flat : PRes → Bool
 | .v (.one (.lit _)) => true
 | .v (.agg xs) => xs.all fun x => match x with | .lit _ => true | _ => false
 | .tup xs => xs.all fun p => match p with | .one (.lit _) => true | _ => false
 | _ => false
theorem L1 {F F' : Nat → Prop} {w w' : World} {v u : Value} (h : DRep F w v (.lit u)) : DRep F' w' v (.lit u) := by
 cases h with | lit _ h => exact .lit _ h
theorem Tx {E E' : Env} {w w' : World} {v : Value} {r : PRes} (hr : r.flat = true) (h : SRep E w v r.s) : SRep E' w' v r.s := by
 cases r with
 | v p =>
   cases p with
   | one x =>
     cases x with
     | lit u => exact .c (.d (L1 h.d_inv))
     | _ => simp [PRes.flat] at hr
   | agg xs =>
     simp only [PRes.flat, List.all_eq_true] at hr
     simp only [PRes.s, PV.s] at h ⊢
     cases h with | agg _ vs hl hd =>
     refine .agg _ vs hl (fun i u c hu hc => ?_)
     have := hd i u c hu hc
     rw [List.getElem?_map] at hc
     cases hx : xs[i]? with
     | none => rw [hx] at hc; cases hc
     | some x =>
       rw [hx] at hc
       simp only [Option.map_some, Option.some.injEq] at hc
       subst hc
       have hq := hr x (List.mem_of_getElem? hx)
       cases x with
       | lit u' => exact .d (L1 this.d_of)
       | _ => simp at hq
 | tup xs =>
   simp only [PRes.flat, List.all_eq_true] at hr
   simp only [PRes.s] at h ⊢
   cases h with | tup _ vs hl hd =>
   refine .tup _ vs hl (fun i u c hu hc => ?_)
   have := hd i u c hu hc
   rw [List.getElem?_map] at hc
   cases hx : xs[i]? with
   | none => rw [hx] at hc; cases hc
   | some x =>
     rw [hx] at hc
     simp only [Option.map_some, Option.some.injEq] at hc
     subst hc
     have hq := hr x (List.mem_of_getElem? hx)
     cases x with
     | one x =>
       cases x with
       | lit u' => exact .c (.d (L1 this.d_inv))
       | _ => simp at hq
     | agg _ => simp at hq
theorem MCall.borrow {f : FuncId} {args : List SVal} {pargs : List PV} {r : PRes} (hp : PCall P f pargs r) (ha : SFs mem args pargs) (hr : r.flat = true) : MCall P F0 w0 f args mem ck fun v m c => v = r.s ∧ m = mem ∧ c = ck := by
 refine ⟨hp.1, fun E w vs hw hl hv => ?_⟩
 obtain ⟨g1, g2⟩ := ha.get
 have hlt : ∀ b, w0.heap.size ≤ b → b < w.heap.size → b < w.heap.size := fun _ _ q => q
 have hcall := hp.2 (fun b => E.F b ∨ (w0.heap.size ≤ b ∧ b < w.heap.size)) w vs (fun k hk => by rcases hk with hk | hk; exact (hw.F k hk).1; exact hk.2) (by omega) (fun i v x hvi hx => by
  have hlt := lt_of_getElem? hvi
  have hs : args[i]? = some (args[i]'(by omega)) := List.getElem?_eq_getElem _
  exact SF.rep hw (g2 i _ x hs hx) (hv i v _ hvi hs) (fun b hb => .inl hb) (fun b h1 h2 => .inr ⟨h1, h2⟩))
 refine Calls.mono hcall fun e w' he => ?_
 obtain ⟨v, rfl, hb, hrep⟩ := he
 have hlat := hw.later hb (fun _ => False) (fun _ q => q.elim)
 exact ⟨v, _, r.s, mem, ck, rfl, hlat.2, hlat.1, Tx hr hrep, rfl, rfl, rfl⟩
theorem CF.later {mem M : List Blk} {c : Cell} {y : Dat} (h : CF mem c y) (ex : Ext mem M) : CF M c y := by
 unfold CF at h ⊢
 split at h
 ·split at h
  ·rename_i hm
   rw [ex _ _ hm rfl]
   exact h
  ·exact h.elim
 ·exact h
theorem CFs.later {mem M : List Blk} (ex : Ext mem M) : ∀ {cs : List Cell} {xs : List Dat}, CFs mem cs xs → CFs M cs xs
 | [], [], _ => trivial
 | _ :: _, _ :: _, h => ⟨h.1.later ex, CFs.later ex h.2⟩
 | [], _ :: _, h => h.elim
 | _ :: _, [], h => h.elim
theorem SFs.later {mem M : List Blk} (ex : Ext mem M) : ∀ {ss : List SVal} {ps : List PV}, SFs mem ss ps → SFs M ss ps
 | [], [], _ => trivial
 | s :: ss, p :: ps, h => by
   refine ⟨?_, SFs.later ex h.2⟩
   have h1 := h.1
   unfold SF at h1 ⊢
   split at h1
   ·exact h1.later ex
   ·exact CFs.later ex h1
   ·exact h1.elim
 | [], _ :: _, h => h.elim
 | _ :: _, [], h => h.elim
theorem En [tc : TC P T] {f : Operand} {fv : SVal} {args : Array Operand} {ats : Array TypeId} {fid : FuncId} {caps : List Cell} {as : List SVal} {pargs : List PV} {r : PRes} {v : SVal} (hp : PCall P fid pargs r) (ha : SFs mem as pargs)
  (h : Reg P F0 w0 dr ops K rest ⟨n, (d, v) :: sl, mem, ck, df⟩ (1 :: acc)) (hw : GW ops g sl := by first | exact trivial | exact rfl) (hf : AC sl f = fv := by exact rfl) (hc : B2 fv = some (fid, caps) := by exact rfl) (has : args.toList.map (AC sl) ++ caps.map .c = as := by exact rfl) (hr : r.flat = true := by exact rfl) (hv : r.s = v := by exact rfl) :
  Reg P F0 w0 dr ops K (⟨some d, .call ⟨.value f, args, ats⟩, ty, pos, aft, g⟩ :: rest) ⟨n, sl, mem, ck, df⟩ acc :=
 OD hw (fun _ _ ex => Does.of tc.ok fun τ he hm hck Kk hK => by
  have ha := ha.later ex
  rw [← hm] at ha hK
  subst hck; subst has; subst hv
  obtain ⟨e1, e2⟩ := Hr he
  rw [hf] at e1
  simp only [AL, DE, e1, hc, e2]
  obtain ⟨q1, q2⟩ := MCall.borrow (F0 := F0) (w0 := w0) (ck := τ.clock) hp ha hr
  refine ⟨q1, fun E w vs a1 a2 a3 => Calls.mono (q2 E w vs a1 a2 a3) fun _ _ ⟨v', E', r, m, c, p1, p2, p3, p4, p5, p6, p7⟩ => ⟨v', E', r, m, c, p1, p2, p3, p4, ?_⟩⟩
  subst p5; subst p6; subst p7
  exact hK _ _ _ _ ⟨rfl, rfl, rfl, rfl⟩) h
theorem HCall.pure {f : FuncId} {args0 : List SVal} {pargs : List PV} {t : TypeId} {z m : Nat} {es : List (List Dat)} {y : Dat} (h : HCall P f args0 [] (.c (.arr 0 1 m)) [.arr 1 t z es]) (ha : args0 = pargs.map PV.s) (hm : m ≤ es.length) (hy : .sl (es.take m) = y) : PCall P f pargs (.v (.one y)) := by
 subst ha; subst hy
 obtain ⟨_, hfn, hcall⟩ := h
 refine ⟨hfn, fun F w vs hF hl hv => ?_⟩
 have h0 : WOk F w (GJ F) w [] 0 := ⟨Bel.refl _ _, fun k hk => hk, fun k hk => ⟨hF k hk, .inl hk⟩, ⟨fun _ => Nat.le_refl _, fun s x hx => by simp at hx, fun s s' x x' hx => by simp at hx⟩, fun _ hk => hk.elim⟩
 refine Calls.mono ((hcall F w).2 (GJ F) w vs h0 (by simpa using hl) (fun i v x hvi hx => ?_)) fun e w' he => ?_
 ·rw [List.getElem?_map] at hx
  cases hp : pargs[i]? with
  | none => rw [hp] at hx; cases hx
  | some p => rw [hp] at hx; simp only [Option.map_some, Option.some.injEq] at hx; subst hx; exact hv i v p hvi hp
 ·obtain ⟨v, E', r, mm, c', rfl, hle, hw, hrep, hr⟩ := he
  refine ⟨v, rfl, hw.below, .c (.d ?_)⟩
  have hrep := hr.res.rep hrep
  have hm0 := hr.mem 0 (.arr (C1 mm 0) t z es) rfl trivial
  simp only [SVal.up, Cell.up, id] at hrep
  cases hrep with | c hq =>
  refine Ef hw hm0 hm hq (fun b hb => ⟨(hw.F b hb).2, (hw.F b hb).1⟩) (fun hc => ?_)
  have := (hw.mem.ok 0 _ hm0).lt (show Blk.has E' 0 _ from hc)
  exact ⟨.inr this.2.1, this.1⟩
end
end Go.Abs
end
section
namespace Go.Abs

theorem kf {p q : Prop} (h : q) (f : q → p := by intro h; first | exact A4 Af h | exact Bo h | exact BR h | exact Ce h | exact GT h | exact Xv h | exact LQ h | exact Gw h | exact Em Af h | fail) : p := f h
theorem kg {p q r : Prop} (h : q) (g : r) (f : q → r → p := by intro h g; first | exact Ay Af h g | exact AX Af h g | exact Vs Af h g | exact Ib rfl rfl h g | exact BJ h g | exact OW rfl h g | fail) : p := f h g
theorem k0 {p : Prop} (f : p := by first | exact Vk | exact QT | exact Fc | exact QZ | fail) : p := f
theorem kz {p q : Prop} (h : q) (f : q → p := by intro h; first | with_reducible (first | exact V7 h | exact PE h | exact R6 h | exact R7 h | exact V6 h | exact V8 h | exact PF h | exact V9 h | exact R8 h | exact Wa h | exact PG h | exact SU h | exact Wd h) | ((with_reducible refine KN ?_); first | exact Wo h) | ((with_reducible refine P2 ?_); first | exact Wp h | exact Wq h) | ((with_reducible refine is_exit ?_); first | exact s_past h) | ((with_reducible refine S1 ?_); first | exact Wc h | exact Ta h) | ((with_reducible refine M8 ?_); first | exact P3 h | exact P4 h | exact s_skipN h | exact s_skipUN h) | ((with_reducible refine PY ?_); first | exact S2 h) | ((with_reducible refine KK ?_); first | exact Nb h) | ((with_reducible refine SZ ?_); first | exact Wf h | exact S3 h | exact s_eqB h | exact Wg h | exact Wh h | exact Wi h | exact T9 h | exact Wx h | exact YX h | exact Wy h) | ((with_reducible refine PP ?_); first | exact Ub h | exact s_nilF h) | ((with_reducible refine MM ?_); first | exact Qr h) | ((with_reducible refine MN ?_); first | exact Qs h) | ((with_reducible refine P0 ?_); first | exact Nc h | exact Nf h | exact Nd h | exact Ng h) | ((with_reducible refine M1 ?_); first | exact Nn h | exact KO h | exact KP h) | ((with_reducible refine MZ ?_); first | exact Nk h | exact Nl h | exact Nm h) | ((with_reducible refine PZ ?_); first | exact S9 h | exact s_pickB h) | ((with_reducible refine M2 ?_); first | exact S5 h | exact s_lenE h | exact S6 h | exact S7 h | exact LO h | exact LP h | exact Wl h | exact Wm h) | ((with_reducible refine M0 ?_); first | exact D4 h) | ((with_reducible refine KL ?_); first | exact KQ h | exact Nr h) | ((with_reducible refine JE ?_); first | exact KR h) | ((with_reducible refine M5 ?_); first | exact P5 h) | ((with_reducible refine We ?_); first | exact Wj h | exact Wk h) | ((with_reducible refine P1 ?_); first | exact S4 h | exact Jy h | exact HZ h | exact KG h) | ((with_reducible refine S0 ?_); first | exact Wn h) | ((with_reducible refine M3 ?_); first | exact P6 h) | ((with_reducible refine M6 ?_); first | exact Np h | exact Nq h | exact s_sliceE h | exact D5 h) | ((with_reducible refine KM ?_); first | exact S8 h) | ((with_reducible refine M4 ?_); first | exact s_func0 h | exact s_funcD h | exact P7 h) | ((with_reducible refine M7 ?_); first | exact P8 h)) : p := f h
theorem kx {o p q : Prop} (x : o) (h : q) (f : o → q → p := by intro x h; first | exact JG h (hel := by exact Vd x (by omega)) | exact JG h (hel := by exact x) | exact Nh h (he' := by exact x) | exact Ni h (he' := by exact x) | exact Nj h (hj := by exact x)) : p := f x h
theorem ki {p q : Prop} (h : q) (f : q → p := by intro h; first | exact JG h (hel := by exact rfl) | exact Nh h (he' := by exact rfl) | exact Ni h (he' := by exact rfl) | exact Nj h (hj := by exact rfl) | fail) : p := f h
end Go.Abs
end
section
namespace Go.Abs
open Go.RowKit
section
variable {P : Program} {B : Base} {n : Nat} {sl : List (Nat × SVal)} {mem : List Blk} {ck : Nat} {df : List (FuncId × List Cell)} {Q : Ex → St → Prop}
theorem TA {a : Act} {w : World} (h : Rel B ⟨n, sl, mem, ck, df⟩ a w) : Rel B ⟨n, sl, mem ++ [.hole (ck + 1)], ck + 1, df⟩ a w := by
 obtain ⟨E, ⟨h1, h2, h3, h4⟩, hB⟩ := h
 refine ⟨E, ⟨⟨h1.below, h1.base, h1.F, ⟨fun r => ?_, fun r b hb => ?_, fun r r' b b' hb hb' q q' hne => ?_⟩, h1.N⟩, h2, h3, h4⟩, hB⟩
 ·have := h1.mem.clock r
  simp only at this ⊢; omega
 ·rcases getElem?_snoc hb with hb | ⟨_, rfl⟩
  ·exact h1.mem.ok r b hb
  ·have := h1.mem.clock r
   show E.ver r < ck + 1
   simp only at this; omega
 ·rcases getElem?_snoc hb with hb | ⟨_, rfl⟩
  ·rcases getElem?_snoc hb' with hb' | ⟨_, rfl⟩
   ·exact h1.mem.apart r r' b b' hb hb' q q' hne
   ·exact q'.elim
  ·exact q.elim
theorem BF (m : Nat) {mem' : List Blk} {c : Code} (h : ARun P B c ⟨n, sl, mem', ck + 1, df⟩ Q) (_ : mem.length = m := by exact rfl) (hm' : mem ++ [.hole (ck + 1)] = mem' := by repeat' (first | exact AS rfl | apply AA rfl)) : ARun P B c ⟨n, sl, mem, ck, df⟩ Q := by
 subst hm'
 exact LK (τ := ⟨n, sl, mem ++ [.hole (ck + 1)], ck + 1, df⟩) rfl (fun a w hr => TA hr) h
end
section
variable {P : Program} {T : TypeId → Option TI} {F0 : Nat → Prop} {w0 : World}
variable {dr : Bool} {ops rest : List Oper} {K : St → Prop} {n : Nat} {sl : List (Nat × SVal)} {mem : List Blk} {ck : Nat} {df : List (FuncId × List Cell)} {acc : List Nat}
variable {d : Tmp} {ty : TypeId} {pos : String} {aft : Array Edge} {g : Option (Nat × Bool)}
theorem A5 [tc : TC P T] (r : Nat) {t : TypeId} {i : TI} {k : Nat} {cs : List Cell} {mem' : List Blk} (h : Reg P F0 w0 dr ops K rest ⟨n, (d, .c (.bp r k 0)) :: sl, mem', ck, df⟩ (Bz r false :: acc)) (hm : mem[r]? = some (.hole k) := by exact rfl) (hk : k ≤ ck := by omega) (hw : GW ops g sl := by first | exact trivial | exact rfl) (ht : T t = some i := by exact rfl)
  (hcs : i.zero.map BG = cs := by repeat' (first | exact AS rfl | apply AA rfl)) (hm' : mem.set r (.box k cs) = mem' := by exact rfl) : Reg P F0 w0 dr ops K (⟨some d, .alloc t, ty, pos, aft, g⟩ :: rest) ⟨n, sl, mem, ck, df⟩ acc := by
 subst hm'; subst hcs
 refine YN hw hm hk (fun M c hM hc => Bp fun E w ρ hw' hρ => ?_) h
 have hTt := tc.ok t i ht
 obtain ⟨fi, z, hi1, hi2, hi3, hi4, hi5⟩ := hTt.info
 have hf := hw'.fresh
 have hv : E.ver r < k := hw'.mem.ok r _ hM
 have hle : EnvLe E w (E.upd r w.heap.size 0 k) (w.alloc (.cells i.zero.toArray t)) := Env.upd_le _ _ _ _ hv (fun j hj => Bel.heap_alloc w _ j (hw'.FN j hj))
 have htn := hw'.turnV (w' := w.alloc (.cells i.zero.toArray t)) (clock' := c) r w.heap.size 0 k (.box k (i.zero.map BG)) _ hv (Nat.le_refl _) hc (A3 r _) ((Bel.refl _ w).alloc hw'.le0 _) (fun j hj _ => Bel.heap_alloc w _ j hj) (fun s x _ hx hh => hf.2 s x hx hh) hf.1
  ⟨by simp [Env.upd], by simp [Env.upd]; exact hw'.le0, by simp only [Env.upd, if_true]; exact hf.1, i.zero.toArray, t, by simp only [Env.upd, if_true]; exact Go.heap_alloc_new w _, by simp, fun j v x a b => (DV hTt j v x a b).le hle⟩
 exact ⟨.pointer (some ⟨w.heap.size, 0, none⟩), _, E.upd r w.heap.size 0 k, by simp [execOp, Instr.alloc, zeroValue, typeInfo, hi1, hi4, newVar, newRow, hi5], htn.2, htn.1, .c (.bp r k 0 _ rfl (by simp [Env.upd]) (fun _ => by simp [Env.upd]))⟩
theorem CV [tc : TC P T] {t : TypeId} {x : Operand} {i : TI} {r k o : Nat} {cs cs' : List Cell} (h : Reg P F0 w0 dr ops K rest ⟨n, (d, .agg cs') :: sl, mem, ck, df⟩ (Bz r true :: acc)) (hw : GW ops g sl := by first | exact trivial | exact rfl) (hx : AC sl x = .c (.bp r k o) := by exact rfl) (ht : T t = some i := by exact rfl) (ha : i.desc.agg = true := by exact rfl) (hm : mem[r]? = some (.box k cs) := by exact rfl) (hs : decide (o + i.size ≤ cs.length) = true := by exact rfl) (hcs : (cs.drop o).take i.size = cs' := by repeat' (first | exact AS rfl | apply AA rfl)) : Reg P F0 w0 dr ops K (⟨some d, .load t x, ty, pos, aft, g⟩ :: rest) ⟨n, sl, mem, ck, df⟩ acc :=
 LI hw hm (fun mem ck hm => Does.of tc.ok fun τ he hmm hc Kk hK => by
  subst hmm; subst hc; subst hcs
  have ex := he x (by simp [Op.operands])
  rw [hx] at ex
  simp only [AL, DD, ht, ex, ha, hm]
  refine ⟨.inl trivial, trivial, by simpa using hs, ?_⟩
  exact hK _ _ _ _ ⟨rfl, rfl, rfl, rfl⟩) h
theorem BS [tc : TC P T] {t : TypeId} {x y : Operand} {i : TI} {r k o : Nat} {v : SVal} {cs cs0 cs' : List Cell} {mem' : List Blk} (h : Reg P F0 w0 dr ops K rest ⟨n, sl, mem', ck, df⟩ (Bz r false :: acc)) (hw : GW ops g sl := by first | exact trivial | exact rfl) (hx : AC sl x = .c (.bp r k o) := by exact rfl) (hy : AC sl y = v := by first | exact (rfl : _ = SVal.c _) | exact (rfl : _ = SVal.agg _) | exact (rfl : _ = SVal.tup _) | exact (rfl : _ = SVal.und) | exact rfl) (hc : v.cells = some cs := by exact rfl) (ht : T t = some i := by exact rfl) (hl : cs.length = i.size := by exact rfl) (hm : mem[r]? = some (.box k cs0) := by exact rfl) (hs : decide (o + i.size ≤ cs0.length) = true := by exact rfl) (hcs : cs0.take o ++ cs ++ cs0.drop (o + i.size) = cs' := by repeat' (first | exact AS rfl | apply AA rfl)) (hm' : mem.set r (.box k cs') = mem' := by repeat' (first | exact AS rfl | apply AA rfl)) : Reg P F0 w0 dr ops K (⟨none, .store t x y, ty, pos, aft, g⟩ :: rest) ⟨n, sl, mem, ck, df⟩ acc := by
 subst hm'
 exact YO (v := .junk) hw hm (fun M c hM => Does.of tc.ok fun τ he hmm hck Kk hK => by
  subst hmm; subst hck; subst hcs
  have ex := he x (by simp [Op.operands])
  have ey := he y (by simp [Op.operands])
  rw [hx] at ex
  rw [hy] at ey
  simp only [AL, Eu, ht, ex, ey, hc, hM]
  exact ⟨hl, trivial, by simpa using hs, hK _ _ _ _ ⟨rfl, rfl, rfl, rfl⟩⟩) h
theorem Db [tc : TC P T] {t e : TypeId} {x y : Operand} {i ei : TI} {kk : IntKind} {z : Int} {m r k o : Nat} {cs : List Cell} (h : Reg P F0 w0 dr ops K rest ⟨n, (d, .c (.bp r k (o + z.toNat * ei.size))) :: sl, mem, ck, df⟩ (Bz r true :: acc)) (hw : GW ops g sl := by first | exact trivial | exact rfl) (hx : AC sl x = .c (.bp r k o) := by exact rfl) (hy : AC sl y = .c (.d (.lit (.int kk z))) := by exact rfl) (ht : T t = some i := by exact rfl) (hi : i.desc = .array m e := by exact rfl) (he' : T e = some ei := by exact rfl) (hm : mem[r]? = some (.box k cs) := by exact rfl) (hz : 0 ≤ z := by omega) (hzm : z < (m : Int) := by omega) : Reg P F0 w0 dr ops K (⟨some d, .indexAddr t x y, ty, pos, aft, g⟩ :: rest) ⟨n, sl, mem, ck, df⟩ acc :=
 LI hw hm (fun mem ck hm => Does.of tc.ok fun τ he hmm hc Kk hK => by
  subst hmm; subst hc
  have ex := he x (by simp [Op.operands])
  have ey := he y (by simp [Op.operands])
  rw [hx] at ex
  rw [hy] at ey
  obtain ⟨a1, a2, a3, a4, a5⟩ := i
  simp only at hi
  subst hi
  simp only [AL, Ev, ht, he', ex, ey, Cy, hm]
  exact ⟨hz, hzm, trivial, hK _ _ _ _ ⟨rfl, rfl, rfl, rfl⟩⟩) h
end
section
variable {P : Program} {T : TypeId → Option TI} {F0 : Nat → Prop} {w0 w : World} {E : Env} {mem : List Blk} {clock : Nat}
theorem WOk.holeArr {w' : World} (h : WOk F0 w0 E w mem clock) {r k : Nat} (hr : mem[r]? = some (.hole k)) (hk : k ≤ clock) (ety : TypeId) (esz cap : Nat) (es : List (List Dat)) (hesz : 0 < esz) (hes : ∀ e, e ∈ es → e.length = esz) (hcap : es.length ≤ cap) (hmax : cap ≤ maxLen)
  (hbel : Bel w0.heap.size w w') (hold : ∀ i, i < w.heap.size → w'.heap[i]? = w.heap[i]?)
  (hc : cap = 0 ∨ ∃ c, w'.heap[w.heap.size]? = some (.cells c ety (0, 0)) ∧ c.size = cap * esz ∧ (∀ v ∈ c, v.oneCell' = true) ∧ ∀ (i j : Nat) e v x, es[i]? = some e → e[j]? = some x → c[i * esz + j]? = some v → DRep E.F w v x) :
  let E' := E.upd r w.heap.size cap k
  WOk F0 w0 E' w' (mem.set r (.arr k ety esz es)) clock ∧ EnvLe E w E' w' := by
 intro E'
 have hf := h.fresh
 have hv : E.ver r < k := h.mem.ok r _ hr
 have hle : EnvLe E w E' w' := Env.upd_le _ _ _ _ hv (fun i hi => hold i (h.FN i hi))
 refine h.turnV r _ _ k _ _ hv (Nat.le_refl _) hk (A3 r _) hbel (fun i hi _ => hold i hi) (fun s x _ hx hh => hf.2 s x hx hh) hf.1 ?_
 refine ⟨by simp [Env.upd], hesz, hes, by simpa [Env.upd] using hcap, by simpa [Env.upd] using hmax, ?_⟩
 rcases hc with hc | ⟨c, h1, h2, h0, h3⟩
 ·exact .inl (by simp [Env.upd, hc])
 ·refine .inr ⟨by simp [Env.upd]; exact h.le0, by simp only [Env.upd, if_true]; exact hf.1, c, by simp only [Env.upd, if_true]; exact h1, by simpa [Env.upd] using h2, h0, fun i j e v x a b d => (h3 i j e v x a b d).le hle⟩
end
section
variable {P : Program} {T : TypeId → Option TI} {F0 : Nat → Prop} {w0 : World}
variable {dr : Bool} {ops rest : List Oper} {K : St → Prop} {n : Nat} {sl : List (Nat × SVal)} {mem : List Blk} {ck : Nat} {df : List (FuncId × List Cell)} {acc : List Nat}
variable {d : Tmp} {op : Op} {ty : TypeId} {pos : String} {aft : Array Edge} {g : Option (Nat × Bool)}
theorem Tz [tc : TC P T] (r : Nat) {t e : TypeId} {x y : Operand} {i ei : TI} {u : SVal} {ys : List (List Dat)} {k : Nat} {mem' : List Blk} (h : Reg P F0 w0 dr ops K rest ⟨n, (d, .c (.arr r k ys.length)) :: sl, mem', ck, df⟩ (Bz r false :: acc)) (hsz : ∀ el ∈ ys, el.length = ei.size) (hl : ys.length ≤ maxLen) (hby : ys.length * ei.bytes ≤ 140737488355328) (hm : mem[r]? = some (.hole k) := by exact rfl) (hk : k ≤ ck := by omega) (hw : GW ops g sl := by first | exact trivial | exact rfl)
  (hx : AC sl x = .c .emp := by exact rfl) (hy : AC sl y = u := by exact (rfl : _ = SVal.c _)) (hs : Ft u = some ys := by exact rfl) (ht : T t = some i := by exact rfl) (hi : i.desc = .slice e := by exact rfl) (hei : T e = some ei := by exact rfl) (hkk : (Nat.blt 0 ei.size && Nat.beq ei.zero.length ei.size) = true := by exact rfl) (hm' : mem.set r (.arr k e ei.size ys) = mem' := by exact rfl) :
  Reg P F0 w0 dr ops K (⟨some d, .call ⟨.builtin .append, #[x, y], #[t, t]⟩, ty, pos, aft, g⟩ :: rest) ⟨n, sl, mem, ck, df⟩ acc := by
 subst hm'
 refine YN hw hm hk (fun M c hM hc => Bp fun E w ρ hw' hρ => ?_) h
 have e1 := hρ x (by simp [Op.operands, Call.operands])
 have e2 := hρ y (by simp [Op.operands, Call.operands])
 rw [hx] at e1; rw [hy] at e2
 have hrep := I1 e2 hs
 simp only [Bool.and_eq_true, Nat.beq_eq, Nat.ble_eq, Nat.blt, Nat.succ_le_iff] at hkk
 obtain ⟨a, ha⟩ : ∃ a, ρ x = .slice a 0 0 := by
  generalize ρ x = q at e1
  cases e1 with | c hs => cases hs with | emp a => exact ⟨a, rfl⟩
 obtain ⟨v', w', cap, q1, q2, q3, q4, q5, q6, q7⟩ := DH tc.ok hw' (ty := ty) ht hi hei hkk.2 hsz hl hby hrep a
 have hq := hw'.holeArr hM hc e ei.size cap ys hkk.1 hsz q2 q3 q4 q5 q7
 refine ⟨v', w', _, by simp [execOp, resolve, invoke, builtin, ha, q1], hq.2, hq.1, .c (.arr r k ys.length v' ?_ (by simp [Env.upd]) (fun _ => ?_))⟩
 ·rcases q6 with ⟨_, b, rfl⟩ | ⟨_, rfl⟩ <;> rfl
 ·rcases q6 with ⟨h5, b, rfl⟩ | ⟨h5, rfl⟩
  · exact .inl ⟨by simp [Env.upd, h5], by omega, b, rfl⟩
  · exact .inr ⟨by simp [Env.upd]; exact h5, by simp [Env.upd]⟩
theorem Dq [tc : TC P T] {s : TypeId} {f : Nat} {x : Operand} {i j : TI} {fs : List (Nat × TypeId)} {off : Nat} {ft : TypeId} {r k o : Nat} {cs : List Cell} (h : Reg P F0 w0 dr ops K rest ⟨n, (d, .c (.bp r k (o + off))) :: sl, mem, ck, df⟩ (Bz r true :: acc)) (hw : GW ops g sl := by first | exact trivial | exact rfl) (hx : AC sl x = .c (.bp r k o) := by exact rfl) (hs : T s = some i := by exact rfl) (hi : i.desc = .struct fs := by exact rfl) (hf : fs[f]? = some (off, ft) := by exact rfl) (hj : T ft = some j := by exact rfl) (hz : decide (j.size ≠ 0) = true := by exact rfl) (hm : mem[r]? = some (.box k cs) := by exact rfl) :
  Reg P F0 w0 dr ops K (⟨some d, .fieldAddr s x f, ty, pos, aft, g⟩ :: rest) ⟨n, sl, mem, ck, df⟩ acc :=
 LI hw hm (fun mem ck hm => Does.of tc.ok fun τ he hmm hc Kk hK => by
  subst hmm; subst hc
  have ex := he x (by simp [Op.operands])
  rw [hx] at ex
  obtain ⟨a1, a2, a3, a4, a5⟩ := i
  simp only at hi
  subst hi
  simp only [AL, EX, hs, hf, hj, ex, Cy, hm]
  exact ⟨by simpa using hz, trivial, hK _ _ _ _ ⟨rfl, rfl, rfl, rfl⟩⟩) h
theorem Dr [tc : TC P T] {t : TypeId} {x : Operand} {i : TI} {r k o : Nat} {cs : List Cell} {y : Cell} (h : Reg P F0 w0 dr ops K rest ⟨n, (d, .c y) :: sl, mem, ck, df⟩ (Bz r true :: acc)) (hw : GW ops g sl := by first | exact trivial | exact rfl) (hx : AC sl x = .c (.bp r k o) := by exact rfl) (ht : T t = some i := by exact rfl) (ha : i.desc.agg = false := by exact rfl) (hs : i.size = 1 := by exact rfl) (hm : mem[r]? = some (.box k cs) := by exact rfl) (hy : cs[o]? = some y := by exact rfl) :
  Reg P F0 w0 dr ops K (⟨some d, .load t x, ty, pos, aft, g⟩ :: rest) ⟨n, sl, mem, ck, df⟩ acc :=
 LI hw hm (fun mem ck hm => Does.of tc.ok fun τ he hmm hc Kk hK => by
  subst hmm; subst hc
  have ex := he x (by simp [Op.operands])
  rw [hx] at ex
  have hlt := lt_of_getElem? hy
  have e1 : (cs.drop o).take 1 = [y] := by
   rw [List.drop_eq_getElem_cons hlt]
   rw [List.getElem?_eq_getElem hlt] at hy
   simp at hy
   simp [hy]
  simp only [AL, DD, ht, ex, ha, hs, hm]
  refine ⟨.inr trivial, trivial, hlt, ?_⟩
  rw [e1]
  exact hK _ _ _ _ ⟨rfl, rfl, rfl, rfl⟩) h
end
end Go.Abs
end
