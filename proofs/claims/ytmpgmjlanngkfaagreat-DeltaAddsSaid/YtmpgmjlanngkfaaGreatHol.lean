/-
  Holes: places of the memory that several allocations of open order fill.
-/
import Derived.Test.YtmpgmjlanngkfaaGreatOpa
section
namespace Go.Abs
open Go.RowKit
variable {aS args0 : List SVal} {f : FuncId} {mem0 : List Blk} {pargs : List PV} {y : Dat}
def NZ (n : Nat) : List Nat → Bool
 | [] => true
 | i :: is => Nat.blt i n && (is.all (fun j => !Nat.beq i j) && NZ n is)
theorem JN {n : Nat} : ∀ {idx : List Nat}, NZ n idx = true → idx.Nodup ∧ ∀ i ∈ idx, i < n
 | [], _ => ⟨by simp, by simp⟩
 | i :: is, h => by
   simp only [NZ, Bi, CN, Nat.blt, LG] at h
   obtain ⟨h1, h2, h3⟩ := h
   obtain ⟨g1, g2⟩ := JN h3
   refine ⟨ZD.2 ⟨fun q => ?_, g1⟩, fun j hj => ?_⟩
   ·have := h2 i q
    simp at this
   ·rcases Fb.1 hj with rfl | hj
    ·omega
    ·exact g2 j hj
def La (mem : List Blk) : List Nat → List Blk
 | [] => []
 | i :: is => (match mem[i]? with | some b => b | none => .dead) :: La mem is
theorem N0 : ∀ {idx : List Nat} {n i : Nat}, i < idx.length → idx[i]? = some (Ax idx n i)
 | [], _, _, h => by simp at h
 | r :: is, n, 0, _ => by simp [Ax]
 | r :: is, n, i + 1, h => by
   simp only [List.getElem?_cons_succ, Ax]
   exact N0 (by simpa using h)
theorem Lb {mem : List Blk} : ∀ {idx : List Nat}, (∀ i ∈ idx, i < mem.length) → ∀ (i r : Nat), idx[i]? = some r → (La mem idx)[i]? = mem[r]?
 | [], _, i, r, h => by simp at h
 | j :: is, hlt, 0, r, h => by
   simp only [List.getElem?_cons_zero, Option.some.injEq] at h
   subst h
   have := hlt j (by simp)
   simp [La, Bh this]
 | j :: is, hlt, i + 1, r, h => by
   simp only [La, List.getElem?_cons_succ]
   exact Lb (fun k hk => hlt k (by simp [hk])) i r (by simpa using h)
def JO (m : List Blk) : List Blk → Nat → Prop
 | [], _ => True
 | b :: bs, i => (match b.vers with | some 0 => Dq m i = 0 | _ => True) ∧ JO m bs (i + 1)
theorem Lc {m : List Blk} : ∀ {bs : List Blk} {k : Nat}, JO m bs k → ∀ i, (bs[i]?).bind Blk.vers = some 0 → Dq m (k + i) = 0
 | [], _, _, i, h => by simp at h
 | b :: bs, k, hk, 0, h => by
   simp only [List.getElem?_cons_zero, Option.bind_some] at h
   have := hk.1
   rw [h] at this
   exact this
 | b :: bs, k, hk, i + 1, h => by
   have := Lc hk.2 i (by simpa using h)
   rw [show k + 1 + i = k + (i + 1) by omega] at this
   exact this
theorem Qq {m mem1 m1 : List Blk} {v r1 r : SVal} (hm : Hx id (CI m) mem1 0 = m1) (hr : r1.up id (CI m) = r) (h : Ar m m1) (ha : AM v r) (hk : JO m mem1 0) : HR m mem1 v r1 := by
 subst hm; subst hr
 exact ⟨h, ha, fun i hi => by have := Lc hk i hi; simpa using this⟩
theorem Hd {v : SVal} : AM v v := by
 cases v with
 | c x => exact .inl rfl
 | agg xs =>
   have : ∀ l : List Cell, CLes l l := by
    intro l
    induction l with
    | nil => trivial
    | cons a l ih => exact ⟨.inl rfl, ih⟩
   exact this xs
 | tup xs => exact rfl
 | und => exact rfl
 | junk => exact rfl
theorem T8 {c : Cell} {x : Dat} (h : c.dat = some x) (e : x = y) : AM (.c c) (.c (.d y)) := by subst e; exact .inr ⟨x, rfl, h⟩
theorem JP {x y : SVal} {xs ys : List SVal} (h : AM x y) (h' : AMs xs ys) : AMs (x :: xs) (y :: ys) := ⟨h, h'⟩
theorem JQ {r k n n' : Nat} (h : n = n') : AM (.c (.arr r k n)) (.c (.arr r k n')) := by subst h; exact .inl rfl
section
variable {P : Program} {T : TypeId → Option TI} {F0 : Nat → Prop} {w0 : World} {dr : Bool} {ops rest : List Oper} {K : St → Prop} {n : Nat} {sl : List (Nat × SVal)} {mem : List Blk} {ck : Nat} {df : List (FuncId × List Cell)} {acc : List Nat}
variable {d : Tmp} {op : Op} {ty : TypeId} {pos : String} {aft : Array Edge} {g : Option (Nat × Bool)}
theorem HCall.at {mem1 mem' : List Blk} {r1 v : SVal} {N : Nat} (idx : List Nat) (h : HCall P f args0 mem0 r1 mem1) (hN : mem.length = N) (hix : NZ N idx = true) (hl : idx.length = mem0.length)
  (hm : La mem idx = Hx (Ax idx N) (Dw mem (Ax idx N) ck) mem0 0) (ha : AMs aS (args0.map (SVal.up (Ax idx N) (Dw mem (Ax idx N) ck)))) (hv : r1.up (Ax idx N) (Dw mem (Ax idx N) ck) = v) (hm' : H2 mem idx (Hx (Ax idx N) (Dw mem (Ax idx N) ck) mem1 0) = mem') :
  MCall P F0 w0 f aS mem ck fun v' m c => v' = v ∧ m = mem' ∧ c = ck + 1 := by
 subst hN; subst hv; subst hm'
 obtain ⟨g1, g2⟩ := JN hix
 refine h.frame idx g1 g2 hl (fun i b0 hb => ?_) ha
 have hi : i < idx.length := by rw [hl]; exact lt_of_getElem? hb
 have h1 := N0 (n := mem.length) hi
 have h2 := Lb g2 i _ h1
 rw [hm, B8, hb] at h2
 simpa using h2.symm
theorem Ah [tc : TC P T] (idx : List Nat) {f : Operand} {fv : SVal} {args : Array Operand} {ats : Array TypeId} {fid : FuncId} {caps : List Cell} {mem1 mem' : List Blk} {r1 v : SVal} {N : Nat} (hp : HCall P fid args0 mem0 r1 mem1)
  (h : Reg P F0 w0 dr ops K rest ⟨n, (d, v) :: sl, mem', ck + 1, df⟩ (2 :: acc)) (hw : GW ops g sl := by first | exact trivial | exact rfl) (hf : AH sl f = fv := by exact rfl) (hc : Cd fv = some (fid, caps) := by exact rfl) (has : args.toList.map (AH sl) ++ caps.map .c = aS := by exact rfl) (hN : mem.length = N := by first | exact (rfl : _ = 0) | exact (rfl : _ = 1) | exact (rfl : _ = 2) | exact (rfl : _ = 3) | exact (rfl : _ = 4) | exact (rfl : _ = 5) | exact (rfl : _ = 6) | exact (rfl : _ = 7) | exact (rfl : _ = 8) | exact (rfl : _ = 9) | exact (rfl : _ = 10) | exact (rfl : _ = 11) | exact (rfl : _ = 12)) (hix : NZ N idx = true := by exact rfl) (hl : idx.length = mem0.length := by exact rfl)
  (hm : La mem idx = Hx (Ax idx N) (Dw mem (Ax idx N) ck) mem0 0 := by exact rfl) (ha : AMs aS (args0.map (SVal.up (Ax idx N) (Dw mem (Ax idx N) ck))) := by (repeat refine JP (by first | exact Hd | exact T8 rfl rfl) ?_); exact trivial)
  (hv : r1.up (Ax idx N) (Dw mem (Ax idx N) ck) = v := by (try dsimp only [SVal.up, Cell.up, Cell.ups, Ax, Dw, Dq, Blk.vers, List.getElem?_cons_zero, List.getElem?_cons_succ]); first | done | exact rfl)
  (hm' : H2 mem idx (Hx (Ax idx N) (Dw mem (Ax idx N) ck) mem1 0) = mem' := by (try dsimp only [H2, Hx, Blk.up, Cell.up, Cell.ups, Ax, Dw, Dq, Blk.vers, List.getElem?_cons_zero, List.getElem?_cons_succ, List.set_cons_zero, List.set_cons_succ, List.nil_append, List.cons_append, List.append_nil]); first | done | exact rfl) :
  Reg P F0 w0 dr ops K (⟨some d, .call ⟨.value f, args, ats⟩, ty, pos, aft, g⟩ :: rest) ⟨n, sl, mem, ck, df⟩ acc :=
 VX tc.ok hw hf hc has (hp.at idx hN hix hl hm ha hv hm') h
theorem YI {T : TypeId → Option TI} (hT : AE P T) {fn : Func} {c : Code} {mem1 : List Blk} {r1 : SVal} {sl : List (Nat × SVal)} (hf : P.funcs[f]? = some fn) (hb : fn.body = some c) (hnm : (fn.name == "runtime.NumGoroutine") = false)
  (n : Nat) (rs : List ResultVar) (hnt : fn.ntmps = n) (hrs : fn.results.toList = rs) (hn : decide (args0.length ≤ n) = true) (hck : T4 args0 mem0 r1 mem1 = true) (hsl : L3 args0 0 = sl) (h : ∀ B : Base, ARun P B c ⟨n, sl, mem0, 0, []⟩ (Au P B (AP P T rs (fun r m _ => HR m mem1 r r1)) [])) : HCall P f args0 mem0 r1 mem1 := by
 have key : ∀ F0 w0, MCall P F0 w0 f args0 mem0 0 fun r m _ => HR m mem1 r r1 := fun F0 w0 => YA hT hf hb hnm n rs hnt hrs hn hsl fun B _ _ => h B
 exact ⟨hck, (key (fun _ => False) default).1, key⟩
theorem AI {T : TypeId → Option TI} (hT : AE P T) {fn : Func} {c : Code} {mem1 : List Blk} {r1 : SVal} {sl : List (Nat × SVal)} {n : Nat} (hf : P.funcs[f]? = some fn) (hnt : fn.ntmps = n) (rs : List ResultVar) (h : ∀ B : Base, ARun P B c ⟨n, sl, mem0, 0, []⟩ (Au P B (AP P T rs (fun r m _ => HR m mem1 r r1)) []))
  (hb : fn.body = some c := by exact rfl) (hnm : (fn.name == "runtime.NumGoroutine") = false := by kernel_rfl) (hrs : fn.results.toList = rs := by exact rfl) (hn : decide (args0.length ≤ n) = true := by exact rfl) (hck : T4 args0 mem0 r1 mem1 = true := by exact rfl) (hsl : L3 args0 0 = sl := by repeat' (first | exact AT rfl | apply Az (a := ((_, SVal.c _) : Nat × SVal)) rfl | apply Az (a := ((_, SVal.agg _) : Nat × SVal)) rfl)) : HCall P f args0 mem0 r1 mem1 :=
 YI hT hf hb hnm n rs hnt hrs hn hck hsl h
variable {B : Base} {mem1 m1 : List Blk} {r1 r v : SVal}
theorem Qr (hd : Af P df) (h : Ar mem m1) (hk : JO mem mem1 0 := by repeat' (first | exact trivial | refine And.intro rfl ?_ | refine And.intro trivial ?_)) (hm : Hx id (CI mem) mem1 0 = m1 := by repeat' (first | exact AT rfl | apply Az rfl)) : Au P B (AP P T [] (fun r m _ => HR m mem1 r (.tup []))) [] .norm ⟨n, sl, mem, ck, df⟩ := ⟨hd, Qq hm rfl h rfl hk⟩
theorem Bb {t : Nat} (hd : Af P df) (h : Ar mem m1) (ha : AM v r) (hk : JO mem mem1 0 := by repeat' (first | exact trivial | refine And.intro rfl ?_ | refine And.intro trivial ?_)) (hv : look sl t = v := by exact rfl) (hr : r1.up id (CI mem) = r := by exact rfl) (hm : Hx id (CI mem) mem1 0 = m1 := by repeat' (first | exact AT rfl | apply Az rfl)) : Au P B (AP P T [.tmp t] (fun r m _ => HR m mem1 r r1)) [] .ret ⟨n, sl, mem, ck, df⟩ :=
 ⟨hd, by simp only [Ri, Ak, St.get, hv]; exact Qq hm hr h ha hk⟩
theorem Qs {t t' : Nat} {v' : SVal} (hd : Af P df) (h : Ar mem m1) (ha : AM (.tup [v, v']) r) (hk : JO mem mem1 0 := by repeat' (first | exact trivial | refine And.intro rfl ?_ | refine And.intro trivial ?_)) (hv : look sl t = v := by exact rfl) (hv' : look sl t' = v' := by exact rfl) (hr : r1.up id (CI mem) = r := by exact rfl) (hm : Hx id (CI mem) mem1 0 = m1 := by repeat' (first | exact AT rfl | apply Az rfl)) : Au P B (AP P T [.tmp t, .tmp t'] (fun r m _ => HR m mem1 r r1)) [] .ret ⟨n, sl, mem, ck, df⟩ :=
 ⟨hd, by simp only [Ri, Ak, St.get, hv, hv']; exact Qq hm hr h ha hk⟩
def SFs (mem : List Blk) : List SVal → List PV → Prop
 | [], [] => True
 | s :: ss, p :: ps => SF mem s p ∧ SFs mem ss ps
 | _, _ => False
theorem SFs.get {mem : List Blk} : ∀ {ss : List SVal} {ps : List PV}, SFs mem ss ps → ss.length = ps.length ∧ ∀ (i : Nat) s p, ss[i]? = some s → ps[i]? = some p → SF mem s p
 | [], [], _ => ⟨rfl, by simp⟩
 | s :: ss, p :: ps, h => by
   obtain ⟨h1, h2⟩ := SFs.get h.2
   refine ⟨by simp [h1], fun i s' p' hs hp => ?_⟩
   cases i with
   | zero => simp at hs hp; subst hs; subst hp; exact h.1
   | succ i => exact h2 i s' p' (by simpa using hs) (by simpa using hp)
 | [], _ :: _, h => h.elim
 | _ :: _, [], h => h.elim
def PRes.flat : PRes → Bool
 | .v (.one (.lit _)) => true
 | .v (.agg xs) => xs.all fun x => match x with | .lit _ => true | _ => false
 | .tup xs => xs.all fun p => match p with | .one (.lit _) => true | _ => false
 | _ => false
theorem Mf {F F' : Nat → Prop} {w w' : World} {v u : Value} (h : DRep F w v (.lit u)) : DRep F' w' v (.lit u) := by
 cases h with | lit _ h => exact .lit _ h
theorem T9 {E E' : Env} {w w' : World} {v : Value} {r : PRes} (hr : r.flat = true) (h : SRep E w v r.s) : SRep E' w' v r.s := by
 cases r with
 | v p =>
   cases p with
   | one x =>
     cases x with
     | lit u => exact .c (.d (Mf h.d_inv))
     | _ => simp [PRes.flat] at hr
   | agg xs =>
     simp only [PRes.flat, CN] at hr
     simp only [PRes.s, PV.s] at h ⊢
     cases h with | agg _ vs hl hd =>
     refine .agg _ vs hl (fun i u c hu hc => ?_)
     have := hd i u c hu hc
     rw [B2] at hc
     cases hx : xs[i]? with
     | none => rw [hx] at hc; cases hc
     | some x =>
       rw [hx] at hc
       simp only [Option.map_some, Option.some.injEq] at hc
       subst hc
       have hq := hr x (Cl hx)
       cases x with
       | lit u' => exact .d (Mf this.d_of)
       | _ => simp at hq
 | tup xs =>
   simp only [PRes.flat, CN] at hr
   simp only [PRes.s] at h ⊢
   cases h with | tup _ vs hl hd =>
   refine .tup _ vs hl (fun i u c hu hc => ?_)
   have := hd i u c hu hc
   rw [B2] at hc
   cases hx : xs[i]? with
   | none => rw [hx] at hc; cases hc
   | some x =>
     rw [hx] at hc
     simp only [Option.map_some, Option.some.injEq] at hc
     subst hc
     have hq := hr x (Cl hx)
     cases x with
     | one x =>
       cases x with
       | lit u' => exact .c (.d (Mf this.d_inv))
       | _ => simp at hq
     | agg _ => simp at hq
theorem MCall.borrow {args : List SVal} {r : PRes} (hp : PCall P f pargs r) (ha : SFs mem args pargs) (hr : r.flat = true) : MCall P F0 w0 f args mem ck fun v m c => v = r.s ∧ m = mem ∧ c = ck := by
 refine ⟨hp.1, fun E w vs hw hl hv => ?_⟩
 obtain ⟨g1, g2⟩ := ha.get
 have hlt : ∀ b, w0.heap.size ≤ b → b < w.heap.size → b < w.heap.size := fun _ _ q => q
 have hcall := hp.2 (fun b => E.F b ∨ (w0.heap.size ≤ b ∧ b < w.heap.size)) w vs (fun k hk => by rcases hk with hk | hk; exact (hw.F k hk).1; exact hk.2) (by omega) (fun i v x hvi hx => by
  have hlt := lt_of_getElem? hvi
  have hs : args[i]? = some (args[i]'(by omega)) := Bh _
  exact SF.rep hw (g2 i _ x hs hx) (hv i v _ hvi hs) (fun b hb => .inl hb) (fun b h1 h2 => .inr ⟨h1, h2⟩))
 refine Calls.mono hcall fun e w' he => ?_
 obtain ⟨v, rfl, hb, hrep⟩ := he
 have hlat := hw.later hb (fun _ => False) (fun _ q => q.elim)
 exact ⟨v, _, r.s, mem, ck, rfl, hlat.2, hlat.1, T9 hr hrep, rfl, rfl, rfl⟩
theorem CF.later {mem M : List Blk} {c : Cell} (h : CF mem c y) (ex : Ext mem M) : CF M c y := by
 unfold CF at h ⊢
 split at h
 ·split at h
  ·rename_i hm
   rw [ex _ _ hm rfl]
   exact h
  ·exact h.elim
 ·exact h
theorem CFs.later {mem M : List Blk} (ex : Ext mem M) : ∀ {cs : List Cell} {xs : List Dat}, CFs mem cs xs → CFs M cs xs
 | [], [], _ => trivial
 | _ :: _, _ :: _, h => ⟨h.1.later ex, CFs.later ex h.2⟩
 | [], _ :: _, h => h.elim
 | _ :: _, [], h => h.elim
theorem SFs.later {mem M : List Blk} (ex : Ext mem M) : ∀ {ss : List SVal} {ps : List PV}, SFs mem ss ps → SFs M ss ps
 | [], [], _ => trivial
 | s :: ss, p :: ps, h => by
   refine ⟨?_, SFs.later ex h.2⟩
   have h1 := h.1
   unfold SF at h1 ⊢
   split at h1
   ·exact h1.later ex
   ·exact CFs.later ex h1
   ·exact h1.elim
 | [], _ :: _, h => h.elim
 | _ :: _, [], h => h.elim
theorem Eb [tc : TC P T] {f : Operand} {fv : SVal} {args : Array Operand} {ats : Array TypeId} {fid : FuncId} {caps : List Cell} {r : PRes} {v : SVal} (hp : PCall P fid pargs r) (ha : SFs mem aS pargs)
  (h : Reg P F0 w0 dr ops K rest ⟨n, (d, v) :: sl, mem, ck, df⟩ (1 :: acc)) (hw : GW ops g sl := by first | exact trivial | exact rfl) (hf : AH sl f = fv := by exact rfl) (hc : Cd fv = some (fid, caps) := by exact rfl) (has : args.toList.map (AH sl) ++ caps.map .c = aS := by exact rfl) (hr : r.flat = true := by exact rfl) (hv : r.s = v := by exact rfl) :
  Reg P F0 w0 dr ops K (⟨some d, .call ⟨.value f, args, ats⟩, ty, pos, aft, g⟩ :: rest) ⟨n, sl, mem, ck, df⟩ acc :=
 OM hw (fun _ _ ex => Does.of tc.ok fun τ he hm hck Kk hK => by
  have ha := ha.later ex
  rw [← hm] at ha hK
  subst hck; subst has; subst hv
  obtain ⟨e1, e2⟩ := IZ he
  rw [hf] at e1
  simp only [AQ, DI, e1, hc, e2]
  obtain ⟨q1, q2⟩ := MCall.borrow (F0 := F0) (w0 := w0) (ck := τ.clock) hp ha hr
  refine ⟨q1, fun E w vs a1 a2 a3 => Calls.mono (q2 E w vs a1 a2 a3) fun _ _ ⟨v', E', r, m, c, p1, p2, p3, p4, p5, p6, p7⟩ => ⟨v', E', r, m, c, p1, p2, p3, p4, ?_⟩⟩
  subst p5; subst p6; subst p7
  exact hK _ _ _ _ ⟨rfl, rfl, rfl, rfl⟩) h
theorem HCall.pure {t : TypeId} {z m : Nat} {es : List (List Dat)} (h : HCall P f args0 [] (.c (.arr 0 1 m)) [.arr 1 t z es]) (ha : args0 = pargs.map PV.s) (hm : m ≤ es.length) (hy : .sl (es.take m) = y) : PCall P f pargs (.v (.one y)) := by
 subst ha; subst hy
 obtain ⟨_, hfn, hcall⟩ := h
 refine ⟨hfn, fun F w vs hF hl hv => ?_⟩
 have h0 : WOk F w (Gp F) w [] 0 := ⟨Bel.refl _ _, fun k hk => hk, fun k hk => ⟨hF k hk, .inl hk⟩, ⟨fun _ => Nat.le_refl _, fun s x hx => by simp at hx, fun s s' x x' hx => by simp at hx⟩, fun _ hk => hk.elim⟩
 refine Calls.mono ((hcall F w).2 (Gp F) w vs h0 (by simpa using hl) (fun i v x hvi hx => ?_)) fun e w' he => ?_
 ·rw [B2] at hx
  cases hp : pargs[i]? with
  | none => rw [hp] at hx; cases hx
  | some p => rw [hp] at hx; simp only [Option.map_some, Option.some.injEq] at hx; subst hx; exact hv i v p hvi hp
 ·obtain ⟨v, E', r, mm, c', rfl, hle, hw, hrep, hr⟩ := he
  refine ⟨v, rfl, hw.below, .c (.d ?_)⟩
  have hrep := hr.res.rep hrep
  have hm0 := hr.mem 0 (.arr (Dq mm 0) t z es) rfl trivial
  simp only [SVal.up, Cell.up, id] at hrep
  cases hrep with | c hq =>
  refine D2 hw hm0 hm hq (fun b hb => ⟨(hw.F b hb).2, (hw.F b hb).1⟩) (fun hc => ?_)
  have := (hw.mem.ok 0 _ hm0).lt (show Blk.has E' 0 _ from hc)
  exact ⟨.inr this.2.1, this.1⟩
end
end Go.Abs
end
section
namespace Go.Abs
variable {p q : Prop}

theorem kf (h : q) (f : q → p := by intro h; first | exact BA Ae h | exact B7 h | exact Cv h | exact Du h | exact Ky h | exact Tt h | exact O5 h | exact JH h | exact Qr Ae h | fail) : p := f h
theorem kg {r : Prop} (h : q) (g : r) (f : q → r → p := by intro h g; first | exact AA Ae h g | exact Bb Ae h g | exact Qs Ae h g | exact Gx rfl rfl h g | exact CG h g | exact L1 rfl h g | fail) : p := f h g
theorem kh {r : Prop} (h : q) (g : r) (f : q → r → p := by intro h g; first | (have _ : True := g; first | exact BA Ae h | exact B7 h | exact Cv h | exact Du h | exact Ky h | exact Tt h | exact O5 h | exact JH h | exact Qr Ae h) | (have _ : True := g; have _ : True := h; first | exact Qb | exact KW | exact Hd | exact KY) | exact AA Ae h g | exact Bb Ae h g | exact Qs Ae h g | exact Gx rfl rfl h g | exact CG h g | exact L1 rfl h g | fail) : p := f h g
theorem k0 (f : p := by first | exact Qb | exact KW | exact Hd | exact KY | fail) : p := f
theorem kz (h : q) (f : q → p := by intro h; first | with_reducible (first | exact WW h | exact PO h | exact Sv h | exact Sw h | exact WV h | exact WX h | exact PQ h | exact WY h | exact Sx h | exact WZ h | exact PR h | exact Tq h | exact W6 h) | ((with_reducible refine K2 ?_); first | exact Xh h) | ((with_reducible refine Qg ?_); first | exact Xi h | exact Xj h) | ((with_reducible refine is_exit ?_); first | exact s_past h) | ((with_reducible refine Tz ?_); first | exact W5 h | exact TM h) | ((with_reducible refine Nz ?_); first | exact Qh h | exact Qi h | exact s_skipN h | exact s_skipUN h) | ((with_reducible refine Qc ?_); first | exact TA h) | ((with_reducible refine KZ ?_); first | exact NC h) | ((with_reducible refine Tx ?_); first | exact W8 h | exact TB h | exact s_eqB h | exact W9 h | exact Xa h | exact Xb h | exact UG h | exact Xn h | exact aw h | exact Xo h) | ((with_reducible refine P2 ?_); first | exact UI h | exact s_nilF h) | ((with_reducible refine M9 ?_); first | exact QC h) | ((with_reducible refine Na ?_); first | exact QD h) | ((with_reducible refine Qe ?_); first | exact ND h | exact NG h | exact NF h | exact NH h) | ((with_reducible refine Ns ?_); first | exact NP h | exact s_indexVF h | exact K3 h) | ((with_reducible refine Nq ?_); first | exact NL h | exact NM h | exact NO h) | ((with_reducible refine Qd ?_); first | exact TL h | exact s_pickB h) | ((with_reducible refine Nt ?_); first | exact TF h | exact TG h | exact TH h | exact TJ h | exact L6 h | exact L7 h | exact Xe h | exact Xf h) | ((with_reducible refine Nr ?_); first | exact DR h) | ((with_reducible refine K0 ?_); first | exact K4 h | exact NS h) | ((with_reducible refine JE ?_); first | exact K5 h) | ((with_reducible refine Nw ?_); first | exact Qj h) | ((with_reducible refine W7 ?_); first | exact Xc h | exact Xd h) | ((with_reducible refine Qf ?_); first | exact TE h | exact Jx h | exact HG h | exact KT h) | ((with_reducible refine Ty ?_); first | exact Xg h) | ((with_reducible refine Nu ?_); first | exact Qk h) | ((with_reducible refine Nx ?_); first | exact NQ h | exact NR h | exact s_sliceE h | exact DS h) | ((with_reducible refine K1 ?_); first | exact TK h) | ((with_reducible refine Nv ?_); first | exact s_func0 h | exact s_funcD h | exact Ql h) | ((with_reducible refine Ny ?_); first | exact Qm h)) : p := f h
theorem AX {o : Prop} (x : o) (h : q) (f : o → q → p := by intro x h; first | exact JG h (hel := by exact VV x (by omega)) | exact JG h (hel := by exact x) | exact NI h (he' := by exact x) | exact NJ h (he' := by exact x) | exact NK h (hj := by exact x)) : p := f x h
theorem Aw (h : q) (f : q → p := by intro h; first | exact JG h (hel := by exact rfl) | exact NI h (he' := by exact rfl) | exact NJ h (he' := by exact rfl) | exact NK h (hj := by exact rfl) | fail) : p := f h
abbrev iC (z : Int) : SVal := .c (.d (.lit (.int .i64 z)))
end Go.Abs
end
section
namespace Go.Abs
open Go.RowKit
variable {cs : List Cell} {i : TI} {k o r : Nat} {mem' : List Blk} {t : TypeId} {x : Operand}
section
variable {P : Program} {B : Base} {n : Nat} {sl : List (Nat × SVal)} {mem : List Blk} {ck : Nat} {df : List (FuncId × List Cell)} {Q : Ex → St → Prop}
theorem Uf {a : Act} {w : World} (h : Rel B ⟨n, sl, mem, ck, df⟩ a w) : Rel B ⟨n, sl, mem ++ [.hole (ck + 1)], ck + 1, df⟩ a w := by
 obtain ⟨E, ⟨h1, h2, h3, h4⟩, hB⟩ := h
 refine ⟨E, ⟨⟨h1.below, h1.base, h1.F, ⟨fun r => ?_, fun r b hb => ?_, fun r r' b b' hb hb' q q' hne => ?_⟩, h1.N⟩, h2, h3, h4⟩, hB⟩
 ·have := h1.mem.clock r
  simp only at this ⊢; omega
 ·rcases getElem?_snoc hb with hb | ⟨_, rfl⟩
  ·exact h1.mem.ok r b hb
  ·have := h1.mem.clock r
   show E.ver r < ck + 1
   simp only at this; omega
 ·rcases getElem?_snoc hb with hb | ⟨_, rfl⟩
  ·rcases getElem?_snoc hb' with hb' | ⟨_, rfl⟩
   ·exact h1.mem.apart r r' b b' hb hb' q q' hne
   ·exact q'.elim
  ·exact q.elim
theorem BF (m : Nat) {c : Code} (h : ARun P B c ⟨n, sl, mem', ck + 1, df⟩ Q) (_ : mem.length = m := by exact rfl) (hm' : mem ++ [.hole (ck + 1)] = mem' := by repeat' (first | exact AT rfl | apply Az rfl)) : ARun P B c ⟨n, sl, mem, ck, df⟩ Q := by
 subst hm'
 exact L0 (τ := ⟨n, sl, mem ++ [.hole (ck + 1)], ck + 1, df⟩) rfl (fun a w hr => Uf hr) h
end
section
variable {P : Program} {T : TypeId → Option TI} {F0 : Nat → Prop} {w0 : World}
variable {dr : Bool} {ops rest : List Oper} {K : St → Prop} {n : Nat} {sl : List (Nat × SVal)} {mem : List Blk} {ck : Nat} {df : List (FuncId × List Cell)} {acc : List Nat}
variable {d : Tmp} {ty : TypeId} {pos : String} {aft : Array Edge} {g : Option (Nat × Bool)}
theorem A6 [tc : TC P T] (r : Nat) (h : Reg P F0 w0 dr ops K rest ⟨n, (d, .c (.bp r k 0)) :: sl, mem', ck, df⟩ (B6 r false :: acc)) (hm : mem[r]? = some (.hole k) := by exact rfl) (hk : k ≤ ck := by omega) (hw : GW ops g sl := by first | exact trivial | exact rfl) (ht : T t = some i := by exact rfl)
  (hcs : i.zero.map By = cs := by repeat' (first | exact AT rfl | apply Az rfl)) (hm' : mem.set r (.box k cs) = mem' := by exact rfl) : Reg P F0 w0 dr ops K (⟨some d, .alloc t, ty, pos, aft, g⟩ :: rest) ⟨n, sl, mem, ck, df⟩ acc := by
 subst hm'; subst hcs
 refine cm hw hm hk (fun M c hM hc => Bx fun E w ρ hw' hρ => ?_) h
 have hTt := tc.ok t i ht
 obtain ⟨fi, z, hi1, hi2, hi3, hi4, hi5⟩ := hTt.info
 have hf := hw'.fresh
 have hv : E.ver r < k := hw'.mem.ok r _ hM
 have hle : EnvLe E w (E.upd r w.heap.size 0 k) (w.alloc (.cells i.zero.toArray t)) := Env.upd_le _ _ _ _ hv (fun j hj => Bel.heap_alloc w _ j (hw'.FN j hj))
 have htn := hw'.turnV (w' := w.alloc (.cells i.zero.toArray t)) (clock' := c) r w.heap.size 0 k (.box k (i.zero.map By)) _ hv (Nat.le_refl _) hc (A7 r _) ((Bel.refl _ w).alloc hw'.le0 _) (fun j hj _ => Bel.heap_alloc w _ j hj) (fun s x _ hx hh => hf.2 s x hx hh) hf.1
  ⟨by simp [Env.upd], by simp [Env.upd]; exact hw'.le0, by simp only [Env.upd, if_true]; exact hf.1, i.zero.toArray, t, by simp only [Env.upd, if_true]; exact U2 w _, by simp, fun j v x a b => (DL hTt j v x a b).le hle⟩
 exact ⟨.pointer (some ⟨w.heap.size, 0, none⟩), _, E.upd r w.heap.size 0 k, by simp [execOp, Instr.alloc, zeroValue, typeInfo, hi1, hi4, newVar, newRow, hi5], htn.2, htn.1, .c (.bp r k 0 _ rfl (by simp [Env.upd]) (fun _ => by simp [Env.upd]))⟩
theorem DW [tc : TC P T] {cs' : List Cell} (h : Reg P F0 w0 dr ops K rest ⟨n, (d, .agg cs') :: sl, mem, ck, df⟩ (B6 r true :: acc)) (hw : GW ops g sl := by first | exact trivial | exact rfl) (hx : AH sl x = .c (.bp r k o) := by exact rfl) (ht : T t = some i := by exact rfl) (ha : i.desc.agg = true := by exact rfl) (hm : mem[r]? = some (.box k cs) := by exact rfl) (hs : decide (o + i.size ≤ cs.length) = true := by exact rfl) (hcs : (cs.drop o).take i.size = cs' := by repeat' (first | exact AT rfl | apply Az rfl)) : Reg P F0 w0 dr ops K (⟨some d, .load t x, ty, pos, aft, g⟩ :: rest) ⟨n, sl, mem, ck, df⟩ acc :=
 VQ hw hm (fun mem ck hm => Does.of tc.ok fun τ he hmm hc Kk hK => by
  subst hmm; subst hc; subst hcs
  have ex := he x (by simp [Op.operands])
  rw [hx] at ex
  simp only [AQ, DH, ht, ex, ha, hm]
  refine ⟨.inl trivial, trivial, by simpa using hs, ?_⟩
  exact hK _ _ _ _ ⟨rfl, rfl, rfl, rfl⟩) h
theorem De [tc : TC P T] {y : Operand} {v : SVal} {cs0 cs' : List Cell} (h : Reg P F0 w0 dr ops K rest ⟨n, sl, mem', ck, df⟩ (B6 r false :: acc)) (hw : GW ops g sl := by first | exact trivial | exact rfl) (hx : AH sl x = .c (.bp r k o) := by exact rfl) (hy : AH sl y = v := by first | exact (rfl : _ = SVal.c _) | exact (rfl : _ = SVal.agg _) | exact (rfl : _ = SVal.tup _) | exact (rfl : _ = SVal.und) | exact rfl) (hc : v.cells = some cs := by exact rfl) (ht : T t = some i := by exact rfl) (hl : cs.length = i.size := by exact rfl) (hm : mem[r]? = some (.box k cs0) := by exact rfl) (hs : decide (o + i.size ≤ cs0.length) = true := by exact rfl) (hcs : cs0.take o ++ cs ++ cs0.drop (o + i.size) = cs' := by repeat' (first | exact AT rfl | apply Az rfl)) (hm' : mem.set r (.box k cs') = mem' := by repeat' (first | exact AT rfl | apply Az rfl)) : Reg P F0 w0 dr ops K (⟨none, .store t x y, ty, pos, aft, g⟩ :: rest) ⟨n, sl, mem, ck, df⟩ acc := by
 subst hm'
 exact cn (v := .junk) hw hm (fun M c hM => Does.of tc.ok fun τ he hmm hck Kk hK => by
  subst hmm; subst hck; subst hcs
  have ex := he x (by simp [Op.operands])
  have ey := he y (by simp [Op.operands])
  rw [hx] at ex
  rw [hy] at ey
  simp only [AQ, EP, ht, ex, ey, hc, hM]
  exact ⟨hl, trivial, by simpa using hs, hK _ _ _ _ ⟨rfl, rfl, rfl, rfl⟩⟩) h
theorem CX [tc : TC P T] {e : TypeId} {y : Operand} {ei : TI} {kk : IntKind} {z : Int} {m : Nat} (h : Reg P F0 w0 dr ops K rest ⟨n, (d, .c (.bp r k (o + z.toNat * ei.size))) :: sl, mem, ck, df⟩ (B6 r true :: acc)) (hw : GW ops g sl := by first | exact trivial | exact rfl) (hx : AH sl x = .c (.bp r k o) := by exact rfl) (hy : AH sl y = .c (.d (.lit (.int kk z))) := by exact rfl) (ht : T t = some i := by exact rfl) (hi : i.desc = .array m e := by exact rfl) (he' : T e = some ei := by exact rfl) (hm : mem[r]? = some (.box k cs) := by exact rfl) (hz : 0 ≤ z := by omega) (hzm : z < (m : Int) := by omega) : Reg P F0 w0 dr ops K (⟨some d, .indexAddr t x y, ty, pos, aft, g⟩ :: rest) ⟨n, sl, mem, ck, df⟩ acc :=
 VQ hw hm (fun mem ck hm => Does.of tc.ok fun τ he hmm hc Kk hK => by
  subst hmm; subst hc
  have ex := he x (by simp [Op.operands])
  have ey := he y (by simp [Op.operands])
  rw [hx] at ex
  rw [hy] at ey
  obtain ⟨a1, a2, a3, a4, a5⟩ := i
  simp only at hi
  subst hi
  simp only [AQ, Fs, ht, he', ex, ey, CR, hm]
  exact ⟨hz, hzm, trivial, hK _ _ _ _ ⟨rfl, rfl, rfl, rfl⟩⟩) h
end
end Go.Abs
end
