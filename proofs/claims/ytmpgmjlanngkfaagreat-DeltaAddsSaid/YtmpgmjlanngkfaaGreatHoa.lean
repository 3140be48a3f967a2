/-
  An append to an empty literal that fills a hole, in a region of open order; fields and cells of one box.
-/
import Derived.Test.YtmpgmjlanngkfaaGreatOpa
section
namespace Go.Abs
open Go.RowKit
def idxOk (n : Nat) : List Nat → Bool
  | [] => true
  | i :: is => Nat.blt i n && (is.all (fun j => !Nat.beq i j) && idxOk n is)
theorem idxOk_says {n : Nat} : ∀ {idx : List Nat}, idxOk n idx = true → idx.Nodup ∧ ∀ i ∈ idx, i < n
  | [], _ => ⟨by simp, by simp⟩
  | i :: is, h => by
    simp only [idxOk, Bool.and_eq_true, List.all_eq_true, Nat.blt, Nat.ble_eq] at h
    obtain ⟨h1, h2, h3⟩ := h
    obtain ⟨g1, g2⟩ := idxOk_says h3
    refine ⟨List.nodup_cons.2 ⟨fun q => ?_, g1⟩, fun j hj => ?_⟩
    · have := h2 i q
      simp at this
    · rcases List.mem_cons.1 hj with rfl | hj
      · omega
      · exact g2 j hj
def takes (mem : List Blk) : List Nat → List Blk
  | [] => []
  | i :: is => (match mem[i]? with | some b => b | none => .dead) :: takes mem is
theorem place_lt : ∀ {idx : List Nat} {n i : Nat}, i < idx.length → idx[i]? = some (place idx n i)
  | [], _, _, h => by simp at h
  | r :: is, n, 0, _ => by simp [place]
  | r :: is, n, i + 1, h => by
    simp only [List.getElem?_cons_succ, place]
    exact place_lt (by simpa using h)
theorem takes_get {mem : List Blk} : ∀ {idx : List Nat}, (∀ i ∈ idx, i < mem.length) → ∀ (i r : Nat), idx[i]? = some r → (takes mem idx)[i]? = mem[r]?
  | [], _, i, r, h => by simp at h
  | j :: is, hlt, 0, r, h => by
    simp only [List.getElem?_cons_zero, Option.some.injEq] at h
    subst h
    have := hlt j (by simp)
    simp [takes, List.getElem?_eq_getElem this]
  | j :: is, hlt, i + 1, r, h => by
    simp only [takes, List.getElem?_cons_succ]
    exact takes_get (fun k hk => hlt k (by simp [hk])) i r (by simpa using h)
def keptL (m : List Blk) : List Blk → Nat → Prop
  | [], _ => True
  | b :: bs, i => (match b.vers with | some 0 => verOf m i = 0 | _ => True) ∧ keptL m bs (i + 1)
theorem keptL_get {m : List Blk} : ∀ {bs : List Blk} {k : Nat}, keptL m bs k → ∀ i, (bs[i]?).bind Blk.vers = some 0 → verOf m (k + i) = 0
  | [], _, _, i, h => by simp at h
  | b :: bs, k, hk, 0, h => by
    simp only [List.getElem?_cons_zero, Option.bind_some] at h
    have := hk.1
    rw [h] at this
    exact this
  | b :: bs, k, hk, i + 1, h => by
    have := keptL_get hk.2 i (by simpa using h)
    rw [show k + 1 + i = k + (i + 1) by omega] at this
    exact this
theorem hr_mk {m mem1 m1 : List Blk} {v r1 r : SVal} (hm : upL id (actV m) mem1 0 = m1) (hr : r1.up id (actV m) = r) (h : memIn m m1) (ha : AM v r) (hk : keptL m mem1 0) : HR m mem1 v r1 := by
  subst hm; subst hr
  exact ⟨h, ha, fun i hi => by have := keptL_get hk i hi; simpa using this⟩
theorem am_same {v : SVal} : AM v v := by
  cases v with
  | c x => exact .inl rfl
  | agg xs =>
    have : ∀ l : List Cell, CLes l l := by
      intro l
      induction l with
      | nil => trivial
      | cons a l ih => exact ⟨.inl rfl, ih⟩
    exact this xs
  | tup xs => exact rfl
  | und => exact rfl
  | junk => exact rfl
theorem am_d {c : Cell} {x y : Dat} (h : c.dat = some x) (e : x = y) : AM (.c c) (.c (.d y)) := by subst e; exact .inr ⟨x, rfl, h⟩
theorem ams_cons {x y : SVal} {xs ys : List SVal} (h : AM x y) (h' : AMs xs ys) : AMs (x :: xs) (y :: ys) := ⟨h, h'⟩
theorem am_arr {r k n n' : Nat} (h : n = n') : AM (.c (.arr r k n)) (.c (.arr r k n')) := by subst h; exact .inl rfl
section
variable {P : Program} {T : TypeId → Option TI} {F0 : Nat → Prop} {w0 : World} {dr : Bool} {ops rest : List Oper} {K : St → Prop} {n : Nat} {sl : List (Nat × SVal)} {mem : List Blk} {ck : Nat} {df : List (FuncId × List Cell)} {acc : List Nat}
variable {d : Tmp} {op : Op} {ty : TypeId} {pos : String} {aft : Array Edge} {g : Option (Nat × Bool)}
theorem HCall.at {f : FuncId} {args0 as : List SVal} {mem0 mem1 mem' : List Blk} {r1 v : SVal} {N : Nat} (idx : List Nat) (h : HCall P f args0 mem0 r1 mem1) (hN : mem.length = N) (hix : idxOk N idx = true) (hl : idx.length = mem0.length)
    (hm : takes mem idx = upL (place idx N) (newV mem (place idx N) ck) mem0 0) (ha : AMs as (args0.map (SVal.up (place idx N) (newV mem (place idx N) ck)))) (hv : r1.up (place idx N) (newV mem (place idx N) ck) = v) (hm' : puts mem idx (upL (place idx N) (newV mem (place idx N) ck) mem1 0) = mem') :
    MCall P F0 w0 f as mem ck fun v' m c => v' = v ∧ m = mem' ∧ c = ck + 1 := by
  subst hN; subst hv; subst hm'
  obtain ⟨g1, g2⟩ := idxOk_says hix
  refine h.frame idx g1 g2 hl (fun i b0 hb => ?_) ha
  have hi : i < idx.length := by rw [hl]; exact lt_of_getElem? hb
  have h1 := place_lt (n := mem.length) hi
  have h2 := takes_get g2 i _ h1
  rw [hm, upL_get, hb] at h2
  simpa using h2.symm
theorem s_callH [tc : TC P T] (idx : List Nat) {f : Operand} {fv : SVal} {args : Array Operand} {ats : Array TypeId} {fid : FuncId} {caps : List Cell} {args0 as : List SVal} {mem0 mem1 mem' : List Blk} {r1 v : SVal} {N : Nat} (hp : HCall P fid args0 mem0 r1 mem1)
    (h : Reg P F0 w0 dr ops K rest ⟨n, (d, v) :: sl, mem', ck + 1, df⟩ (2 :: acc)) (hw : GW ops g sl := by first | exact trivial | exact rfl) (hf : evS sl f = fv := by exact rfl) (hc : calleeOf fv = some (fid, caps) := by exact rfl) (has : args.toList.map (evS sl) ++ caps.map .c = as := by exact rfl) (hN : mem.length = N := by first | exact (rfl : _ = 0) | exact (rfl : _ = 1) | exact (rfl : _ = 2) | exact (rfl : _ = 3) | exact (rfl : _ = 4) | exact (rfl : _ = 5) | exact (rfl : _ = 6) | exact (rfl : _ = 7) | exact (rfl : _ = 8) | exact (rfl : _ = 9) | exact (rfl : _ = 10) | exact (rfl : _ = 11) | exact (rfl : _ = 12)) (hix : idxOk N idx = true := by exact rfl) (hl : idx.length = mem0.length := by exact rfl)
    (hm : takes mem idx = upL (place idx N) (newV mem (place idx N) ck) mem0 0 := by exact rfl) (ha : AMs as (args0.map (SVal.up (place idx N) (newV mem (place idx N) ck))) := by (repeat refine ams_cons (by first | exact am_same | exact am_d rfl rfl) ?_); exact trivial)
    (hv : r1.up (place idx N) (newV mem (place idx N) ck) = v := by (try dsimp only [SVal.up, Cell.up, Cell.ups, place, newV, verOf, Blk.vers, List.getElem?_cons_zero, List.getElem?_cons_succ]); first | done | exact rfl)
    (hm' : puts mem idx (upL (place idx N) (newV mem (place idx N) ck) mem1 0) = mem' := by (try dsimp only [puts, upL, Blk.up, Cell.up, Cell.ups, place, newV, verOf, Blk.vers, List.getElem?_cons_zero, List.getElem?_cons_succ, List.set_cons_zero, List.set_cons_succ, List.nil_append, List.cons_append, List.append_nil]); first | done | exact rfl) :
    Reg P F0 w0 dr ops K (⟨some d, .call ⟨.value f, args, ats⟩, ty, pos, aft, g⟩ :: rest) ⟨n, sl, mem, ck, df⟩ acc :=
  r_callM tc.ok hw hf hc has (hp.at idx hN hix hl hm ha hv hm') h
theorem hcallS {T : TypeId → Option TI} (hT : TypesOk P T) {f : FuncId} {fn : Func} {c : Code} {args0 : List SVal} {mem0 mem1 : List Blk} {r1 : SVal} {sl : List (Nat × SVal)} (hf : P.funcs[f]? = some fn) (hb : fn.body = some c) (hnm : (fn.name == "runtime.NumGoroutine") = false)
    (n : Nat) (rs : List ResultVar) (hnt : fn.ntmps = n) (hrs : fn.results.toList = rs) (hn : decide (args0.length ≤ n) = true) (hck : hchk args0 mem0 r1 mem1 = true) (hsl : idxS args0 0 = sl) (h : ∀ B : Base, ARun P B c ⟨n, sl, mem0, 0, []⟩ (kont P B (finM P T rs (fun r m _ => HR m mem1 r r1)) [])) : HCall P f args0 mem0 r1 mem1 := by
  have key : ∀ F0 w0, MCall P F0 w0 f args0 mem0 0 fun r m _ => HR m mem1 r r1 := fun F0 w0 => mcallS hT hf hb hnm n rs hnt hrs hn hsl fun B _ _ => h B
  exact ⟨hck, (key (fun _ => False) default).1, key⟩
theorem hcallN {T : TypeId → Option TI} (hT : TypesOk P T) {f : FuncId} {fn : Func} {c : Code} {args0 : List SVal} {mem0 mem1 : List Blk} {r1 : SVal} {sl : List (Nat × SVal)} {n : Nat} (hf : P.funcs[f]? = some fn) (hnt : fn.ntmps = n) (rs : List ResultVar) (h : ∀ B : Base, ARun P B c ⟨n, sl, mem0, 0, []⟩ (kont P B (finM P T rs (fun r m _ => HR m mem1 r r1)) []))
    (hb : fn.body = some c := by exact rfl) (hnm : (fn.name == "runtime.NumGoroutine") = false := by kernel_rfl) (hrs : fn.results.toList = rs := by exact rfl) (hn : decide (args0.length ≤ n) = true := by exact rfl) (hck : hchk args0 mem0 r1 mem1 = true := by exact rfl) (hsl : idxS args0 0 = sl := by repeat' (first | exact nfNil rfl | apply nfCons (a := ((_, SVal.c _) : Nat × SVal)) rfl | apply nfCons (a := ((_, SVal.agg _) : Nat × SVal)) rfl)) : HCall P f args0 mem0 r1 mem1 :=
  hcallS hT hf hb hnm n rs hnt hrs hn hck hsl h
variable {B : Base} {mem1 m1 : List Blk} {r1 r v : SVal}
theorem fh_end0 (hd : defersOk P df) (h : memIn mem m1) (hk : keptL mem mem1 0 := by repeat' (first | exact trivial | refine And.intro rfl ?_ | refine And.intro trivial ?_)) (hm : upL id (actV mem) mem1 0 = m1 := by repeat' (first | exact nfNil rfl | apply nfCons rfl)) : kont P B (finM P T [] (fun r m _ => HR m mem1 r (.tup []))) [] .norm ⟨n, sl, mem, ck, df⟩ := ⟨hd, hr_mk hm rfl h rfl hk⟩
theorem fh_ret1 {t : Nat} (hd : defersOk P df) (h : memIn mem m1) (ha : AM v r) (hk : keptL mem mem1 0 := by repeat' (first | exact trivial | refine And.intro rfl ?_ | refine And.intro trivial ?_)) (hv : look sl t = v := by exact rfl) (hr : r1.up id (actV mem) = r := by exact rfl) (hm : upL id (actV mem) mem1 0 = m1 := by repeat' (first | exact nfNil rfl | apply nfCons rfl)) : kont P B (finM P T [.tmp t] (fun r m _ => HR m mem1 r r1)) [] .ret ⟨n, sl, mem, ck, df⟩ :=
  ⟨hd, by simp only [resM, resVal, St.get, hv]; exact hr_mk hm hr h ha hk⟩
theorem fh_ret2 {t t' : Nat} {v' : SVal} (hd : defersOk P df) (h : memIn mem m1) (ha : AM (.tup [v, v']) r) (hk : keptL mem mem1 0 := by repeat' (first | exact trivial | refine And.intro rfl ?_ | refine And.intro trivial ?_)) (hv : look sl t = v := by exact rfl) (hv' : look sl t' = v' := by exact rfl) (hr : r1.up id (actV mem) = r := by exact rfl) (hm : upL id (actV mem) mem1 0 = m1 := by repeat' (first | exact nfNil rfl | apply nfCons rfl)) : kont P B (finM P T [.tmp t, .tmp t'] (fun r m _ => HR m mem1 r r1)) [] .ret ⟨n, sl, mem, ck, df⟩ :=
  ⟨hd, by simp only [resM, resVal, St.get, hv, hv']; exact hr_mk hm hr h ha hk⟩
def SFs (mem : List Blk) : List SVal → List PV → Prop
  | [], [] => True
  | s :: ss, p :: ps => SF mem s p ∧ SFs mem ss ps
  | _, _ => False
theorem SFs.get {mem : List Blk} : ∀ {ss : List SVal} {ps : List PV}, SFs mem ss ps → ss.length = ps.length ∧ ∀ (i : Nat) s p, ss[i]? = some s → ps[i]? = some p → SF mem s p
  | [], [], _ => ⟨rfl, by simp⟩
  | s :: ss, p :: ps, h => by
    obtain ⟨h1, h2⟩ := SFs.get h.2
    refine ⟨by simp [h1], fun i s' p' hs hp => ?_⟩
    cases i with
    | zero => simp at hs hp; subst hs; subst hp; exact h.1
    | succ i => exact h2 i s' p' (by simpa using hs) (by simpa using hp)
  | [], _ :: _, h => h.elim
  | _ :: _, [], h => h.elim
def PRes.flat : PRes → Bool
  | .v (.one (.lit _)) => true
  | .v (.agg xs) => xs.all fun x => match x with | .lit _ => true | _ => false
  | .tup xs => xs.all fun p => match p with | .one (.lit _) => true | _ => false
  | _ => false
theorem lit_any {F F' : Nat → Prop} {w w' : World} {v u : Value} (h : DRep F w v (.lit u)) : DRep F' w' v (.lit u) := by
  cases h with | lit _ h => exact .lit _ h
theorem flat_rep {E E' : Env} {w w' : World} {v : Value} {r : PRes} (hr : r.flat = true) (h : SRep E w v r.s) : SRep E' w' v r.s := by
  cases r with
  | v p =>
    cases p with
    | one x =>
      cases x with
      | lit u => exact .c (.d (lit_any h.d_inv))
      | _ => simp [PRes.flat] at hr
    | agg xs =>
      simp only [PRes.flat, List.all_eq_true] at hr
      simp only [PRes.s, PV.s] at h ⊢
      cases h with | agg _ vs hl hd =>
      refine .agg _ vs hl (fun i u c hu hc => ?_)
      have := hd i u c hu hc
      rw [List.getElem?_map] at hc
      cases hx : xs[i]? with
      | none => rw [hx] at hc; cases hc
      | some x =>
        rw [hx] at hc
        simp only [Option.map_some, Option.some.injEq] at hc
        subst hc
        have hq := hr x (List.mem_of_getElem? hx)
        cases x with
        | lit u' => exact .d (lit_any this.d_of)
        | _ => simp at hq
  | tup xs =>
    simp only [PRes.flat, List.all_eq_true] at hr
    simp only [PRes.s] at h ⊢
    cases h with | tup _ vs hl hd =>
    refine .tup _ vs hl (fun i u c hu hc => ?_)
    have := hd i u c hu hc
    rw [List.getElem?_map] at hc
    cases hx : xs[i]? with
    | none => rw [hx] at hc; cases hc
    | some x =>
      rw [hx] at hc
      simp only [Option.map_some, Option.some.injEq] at hc
      subst hc
      have hq := hr x (List.mem_of_getElem? hx)
      cases x with
      | one x =>
        cases x with
        | lit u' => exact .c (.d (lit_any this.d_inv))
        | _ => simp at hq
      | agg _ => simp at hq
theorem MCall.borrow {f : FuncId} {args : List SVal} {pargs : List PV} {r : PRes} (hp : PCall P f pargs r) (ha : SFs mem args pargs) (hr : r.flat = true) : MCall P F0 w0 f args mem ck fun v m c => v = r.s ∧ m = mem ∧ c = ck := by
  refine ⟨hp.1, fun E w vs hw hl hv => ?_⟩
  obtain ⟨g1, g2⟩ := ha.get
  have hlt : ∀ b, w0.heap.size ≤ b → b < w.heap.size → b < w.heap.size := fun _ _ q => q
  have hcall := hp.2 (fun b => E.F b ∨ (w0.heap.size ≤ b ∧ b < w.heap.size)) w vs (fun k hk => by rcases hk with hk | hk; exact (hw.F k hk).1; exact hk.2) (by omega) (fun i v x hvi hx => by
    have hlt := lt_of_getElem? hvi
    have hs : args[i]? = some (args[i]'(by omega)) := List.getElem?_eq_getElem _
    exact SF.rep hw (g2 i _ x hs hx) (hv i v _ hvi hs) (fun b hb => .inl hb) (fun b h1 h2 => .inr ⟨h1, h2⟩))
  refine Calls.mono hcall fun e w' he => ?_
  obtain ⟨v, rfl, hb, hrep⟩ := he
  have hlat := hw.later hb (fun _ => False) (fun _ q => q.elim)
  exact ⟨v, _, r.s, mem, ck, rfl, hlat.2, hlat.1, flat_rep hr hrep, rfl, rfl, rfl⟩
theorem CF.later {mem M : List Blk} {c : Cell} {y : Dat} (h : CF mem c y) (ex : Ext mem M) : CF M c y := by
  unfold CF at h ⊢
  split at h
  · split at h
    · rename_i hm
      rw [ex _ _ hm rfl]
      exact h
    · exact h.elim
  · exact h
theorem CFs.later {mem M : List Blk} (ex : Ext mem M) : ∀ {cs : List Cell} {xs : List Dat}, CFs mem cs xs → CFs M cs xs
  | [], [], _ => trivial
  | _ :: _, _ :: _, h => ⟨h.1.later ex, CFs.later ex h.2⟩
  | [], _ :: _, h => h.elim
  | _ :: _, [], h => h.elim
theorem SFs.later {mem M : List Blk} (ex : Ext mem M) : ∀ {ss : List SVal} {ps : List PV}, SFs mem ss ps → SFs M ss ps
  | [], [], _ => trivial
  | s :: ss, p :: ps, h => by
    refine ⟨?_, SFs.later ex h.2⟩
    have h1 := h.1
    unfold SF at h1 ⊢
    split at h1
    · exact h1.later ex
    · exact CFs.later ex h1
    · exact h1.elim
  | [], _ :: _, h => h.elim
  | _ :: _, [], h => h.elim
theorem s_callB [tc : TC P T] {f : Operand} {fv : SVal} {args : Array Operand} {ats : Array TypeId} {fid : FuncId} {caps : List Cell} {as : List SVal} {pargs : List PV} {r : PRes} {v : SVal} (hp : PCall P fid pargs r) (ha : SFs mem as pargs)
    (h : Reg P F0 w0 dr ops K rest ⟨n, (d, v) :: sl, mem, ck, df⟩ (1 :: acc)) (hw : GW ops g sl := by first | exact trivial | exact rfl) (hf : evS sl f = fv := by exact rfl) (hc : calleeOf fv = some (fid, caps) := by exact rfl) (has : args.toList.map (evS sl) ++ caps.map .c = as := by exact rfl) (hr : r.flat = true := by exact rfl) (hv : r.s = v := by exact rfl) :
    Reg P F0 w0 dr ops K (⟨some d, .call ⟨.value f, args, ats⟩, ty, pos, aft, g⟩ :: rest) ⟨n, sl, mem, ck, df⟩ acc :=
  at1 hw (fun _ _ ex => Does.of tc.ok fun τ he hm hck Kk hK => by
    have ha := ha.later ex
    rw [← hm] at ha hK
    subst hck; subst has; subst hv
    obtain ⟨e1, e2⟩ := args_of he
    rw [hf] at e1
    simp only [astep, aCall, e1, hc, e2]
    obtain ⟨q1, q2⟩ := MCall.borrow (F0 := F0) (w0 := w0) (ck := τ.clock) hp ha hr
    refine ⟨q1, fun E w vs a1 a2 a3 => Calls.mono (q2 E w vs a1 a2 a3) fun _ _ ⟨v', E', r, m, c, p1, p2, p3, p4, p5, p6, p7⟩ => ⟨v', E', r, m, c, p1, p2, p3, p4, ?_⟩⟩
    subst p5; subst p6; subst p7
    exact hK _ _ _ _ ⟨rfl, rfl, rfl, rfl⟩) h
theorem HCall.pure {f : FuncId} {args0 : List SVal} {pargs : List PV} {t : TypeId} {z m : Nat} {es : List (List Dat)} {y : Dat} (h : HCall P f args0 [] (.c (.arr 0 1 m)) [.arr 1 t z es]) (ha : args0 = pargs.map PV.s) (hm : m ≤ es.length) (hy : .sl (es.take m) = y) : PCall P f pargs (.v (.one y)) := by
  subst ha; subst hy
  obtain ⟨_, hfn, hcall⟩ := h
  refine ⟨hfn, fun F w vs hF hl hv => ?_⟩
  have h0 : WOk F w (env0 F) w [] 0 := ⟨Bel.refl _ _, fun k hk => hk, fun k hk => ⟨hF k hk, .inl hk⟩, ⟨fun _ => Nat.le_refl _, fun s x hx => by simp at hx, fun s s' x x' hx => by simp at hx⟩, fun _ hk => hk.elim⟩
  refine Calls.mono ((hcall F w).2 (env0 F) w vs h0 (by simpa using hl) (fun i v x hvi hx => ?_)) fun e w' he => ?_
  · rw [List.getElem?_map] at hx
    cases hp : pargs[i]? with
    | none => rw [hp] at hx; cases hx
    | some p => rw [hp] at hx; simp only [Option.map_some, Option.some.injEq] at hx; subst hx; exact hv i v p hvi hp
  · obtain ⟨v, E', r, mm, c', rfl, hle, hw, hrep, hr⟩ := he
    refine ⟨v, rfl, hw.below, .c (.d ?_)⟩
    have hrep := hr.res.rep hrep
    have hm0 := hr.mem 0 (.arr (verOf mm 0) t z es) rfl trivial
    simp only [SVal.up, Cell.up, id] at hrep
    cases hrep with | c hq =>
    refine arr_dat hw hm0 hm hq (fun b hb => ⟨(hw.F b hb).2, (hw.F b hb).1⟩) (fun hc => ?_)
    have := (hw.mem.ok 0 _ hm0).lt (show Blk.has E' 0 _ from hc)
    exact ⟨.inr this.2.1, this.1⟩
end
end Go.Abs
end
section
namespace Go.Abs

theorem kf {p q : Prop} (h : q) (f : q → p := by intro h; first | exact f_ret1 def_nil h | exact t_tmp h | exact t_tmpE h | exact t_cellG h | exact cf_d h | exact cf_emp h | exact s_kT h | exact s_kF h | exact fh_end0 def_nil h | fail) : p := f h
theorem kg {p q r : Prop} (h : q) (g : r) (f : q → r → p := by intro h g; first | exact f_ret2 def_nil h g | exact fh_ret1 def_nil h g | exact fh_ret2 def_nil h g | exact t_tmpA rfl rfl h g | exact cfs_cons h g | exact cf_arr rfl h g | fail) : p := f h g
theorem k0 {p : Prop} (f : p := by first | exact cfs_nil | exact memIn_nil | exact am_same | exact slots_nil | fail) : p := f
end Go.Abs
end
section
namespace Go.Abs
open Go.RowKit
section
variable {P : Program} {B : Base} {n : Nat} {sl : List (Nat × SVal)} {mem : List Blk} {ck : Nat} {df : List (FuncId × List Cell)} {Q : Ex → St → Prop}
theorem hole_rel {a : Act} {w : World} (h : Rel B ⟨n, sl, mem, ck, df⟩ a w) : Rel B ⟨n, sl, mem ++ [.hole (ck + 1)], ck + 1, df⟩ a w := by
  obtain ⟨E, ⟨h1, h2, h3, h4⟩, hB⟩ := h
  refine ⟨E, ⟨⟨h1.below, h1.base, h1.F, ⟨fun r => ?_, fun r b hb => ?_, fun r r' b b' hb hb' q q' hne => ?_⟩, h1.N⟩, h2, h3, h4⟩, hB⟩
  · have := h1.mem.clock r
    simp only at this ⊢; omega
  · rcases getElem?_snoc hb with hb | ⟨_, rfl⟩
    · exact h1.mem.ok r b hb
    · have := h1.mem.clock r
      show E.ver r < ck + 1
      simp only at this; omega
  · rcases getElem?_snoc hb with hb | ⟨_, rfl⟩
    · rcases getElem?_snoc hb' with hb' | ⟨_, rfl⟩
      · exact h1.mem.apart r r' b b' hb hb' q q' hne
      · exact q'.elim
    · exact q.elim
theorem k_hole (m : Nat) {mem' : List Blk} {c : Code} (h : ARun P B c ⟨n, sl, mem', ck + 1, df⟩ Q) (_ : mem.length = m := by exact rfl) (hm' : mem ++ [.hole (ck + 1)] = mem' := by repeat' (first | exact nfNil rfl | apply nfCons rfl)) : ARun P B c ⟨n, sl, mem, ck, df⟩ Q := by
  subst hm'
  exact k_turn (τ := ⟨n, sl, mem ++ [.hole (ck + 1)], ck + 1, df⟩) rfl (fun a w hr => hole_rel hr) h
end
section
variable {P : Program} {T : TypeId → Option TI} {F0 : Nat → Prop} {w0 : World}
variable {dr : Bool} {ops rest : List Oper} {K : St → Prop} {n : Nat} {sl : List (Nat × SVal)} {mem : List Blk} {ck : Nat} {df : List (FuncId × List Cell)} {acc : List Nat}
variable {d : Tmp} {ty : TypeId} {pos : String} {aft : Array Edge} {g : Option (Nat × Bool)}
theorem s_allocH [tc : TC P T] (r : Nat) {t : TypeId} {i : TI} {k : Nat} {cs : List Cell} {mem' : List Blk} (h : Reg P F0 w0 dr ops K rest ⟨n, (d, .c (.bp r k 0)) :: sl, mem', ck, df⟩ (kindL r false :: acc)) (hm : mem[r]? = some (.hole k) := by exact rfl) (hk : k ≤ ck := by omega) (hw : GW ops g sl := by first | exact trivial | exact rfl) (ht : T t = some i := by exact rfl)
    (hcs : i.zero.map valCell = cs := by repeat' (first | exact nfNil rfl | apply nfCons rfl)) (hm' : mem.set r (.box k cs) = mem' := by exact rfl) : Reg P F0 w0 dr ops K (⟨some d, .alloc t, ty, pos, aft, g⟩ :: rest) ⟨n, sl, mem, ck, df⟩ acc := by
  subst hm'; subst hcs
  refine at4 hw hm hk (fun M c hM hc => doesM fun E w ρ hw' hρ => ?_) h
  have hTt := tc.ok t i ht
  obtain ⟨fi, z, hi1, hi2, hi3, hi4, hi5⟩ := hTt.info
  have hf := hw'.fresh
  have hv : E.ver r < k := hw'.mem.ok r _ hM
  have hle : EnvLe E w (E.upd r w.heap.size 0 k) (w.alloc (.cells i.zero.toArray t)) := Env.upd_le _ _ _ _ hv (fun j hj => Bel.heap_alloc w _ j (hw'.FN j hj))
  have htn := hw'.turnV (w' := w.alloc (.cells i.zero.toArray t)) (clock' := c) r w.heap.size 0 k (.box k (i.zero.map valCell)) _ hv (Nat.le_refl _) hc (set_turn r _) ((Bel.refl _ w).alloc hw'.le0 _) (fun j hj _ => Bel.heap_alloc w _ j hj) (fun s x _ hx hh => hf.2 s x hx hh) hf.1
    ⟨by simp [Env.upd], by simp [Env.upd]; exact hw'.le0, by simp only [Env.upd, if_true]; exact hf.1, i.zero.toArray, t, by simp only [Env.upd, if_true]; exact Go.heap_alloc_new w _, by simp, fun j v x a b => (zero_rep hTt j v x a b).le hle⟩
  exact ⟨.pointer (some ⟨w.heap.size, 0, none⟩), _, E.upd r w.heap.size 0 k, by simp [execOp, Instr.alloc, zeroValue, typeInfo, hi1, hi4, newVar, newRow, hi5], htn.2, htn.1, .c (.bp r k 0 _ rfl (by simp [Env.upd]) (fun _ => by simp [Env.upd]))⟩
theorem h_loadBA [tc : TC P T] {t : TypeId} {x : Operand} {i : TI} {r k o : Nat} {cs cs' : List Cell} (h : Reg P F0 w0 dr ops K rest ⟨n, (d, .agg cs') :: sl, mem, ck, df⟩ (kindL r true :: acc)) (hw : GW ops g sl := by first | exact trivial | exact rfl) (hx : evS sl x = .c (.bp r k o) := by exact rfl) (ht : T t = some i := by exact rfl) (ha : i.desc.agg = true := by exact rfl) (hm : mem[r]? = some (.box k cs) := by exact rfl) (hs : decide (o + i.size ≤ cs.length) = true := by exact rfl) (hcs : (cs.drop o).take i.size = cs' := by repeat' (first | exact nfNil rfl | apply nfCons rfl)) : Reg P F0 w0 dr ops K (⟨some d, .load t x, ty, pos, aft, g⟩ :: rest) ⟨n, sl, mem, ck, df⟩ acc :=
  at4r hw hm (fun mem ck hm => Does.of tc.ok fun τ he hmm hc Kk hK => by
    subst hmm; subst hc; subst hcs
    have ex := he x (by simp [Op.operands])
    rw [hx] at ex
    simp only [astep, aLoad, ht, ex, ha, hm]
    refine ⟨.inl trivial, trivial, by simpa using hs, ?_⟩
    exact hK _ _ _ _ ⟨rfl, rfl, rfl, rfl⟩) h
theorem h_storeB [tc : TC P T] {t : TypeId} {x y : Operand} {i : TI} {r k o : Nat} {v : SVal} {cs cs0 cs' : List Cell} {mem' : List Blk} (h : Reg P F0 w0 dr ops K rest ⟨n, sl, mem', ck, df⟩ (kindL r false :: acc)) (hw : GW ops g sl := by first | exact trivial | exact rfl) (hx : evS sl x = .c (.bp r k o) := by exact rfl) (hy : evS sl y = v := by first | exact (rfl : _ = SVal.c _) | exact (rfl : _ = SVal.agg _) | exact (rfl : _ = SVal.tup _) | exact (rfl : _ = SVal.und) | exact rfl) (hc : v.cells = some cs := by exact rfl) (ht : T t = some i := by exact rfl) (hl : cs.length = i.size := by exact rfl) (hm : mem[r]? = some (.box k cs0) := by exact rfl) (hs : decide (o + i.size ≤ cs0.length) = true := by exact rfl) (hcs : cs0.take o ++ cs ++ cs0.drop (o + i.size) = cs' := by repeat' (first | exact nfNil rfl | apply nfCons rfl)) (hm' : mem.set r (.box k cs') = mem' := by repeat' (first | exact nfNil rfl | apply nfCons rfl)) : Reg P F0 w0 dr ops K (⟨none, .store t x y, ty, pos, aft, g⟩ :: rest) ⟨n, sl, mem, ck, df⟩ acc := by
  subst hm'
  exact at4n (v := .junk) hw hm (fun M c hM => Does.of tc.ok fun τ he hmm hck Kk hK => by
    subst hmm; subst hck; subst hcs
    have ex := he x (by simp [Op.operands])
    have ey := he y (by simp [Op.operands])
    rw [hx] at ex
    rw [hy] at ey
    simp only [astep, aStore, ht, ex, ey, hc, hM]
    exact ⟨hl, trivial, by simpa using hs, hK _ _ _ _ ⟨rfl, rfl, rfl, rfl⟩⟩) h
theorem h_indexVB [tc : TC P T] {t e : TypeId} {x y : Operand} {i ei : TI} {kk : IntKind} {z : Int} {m r k o : Nat} {cs : List Cell} (h : Reg P F0 w0 dr ops K rest ⟨n, (d, .c (.bp r k (o + z.toNat * ei.size))) :: sl, mem, ck, df⟩ (kindL r true :: acc)) (hw : GW ops g sl := by first | exact trivial | exact rfl) (hx : evS sl x = .c (.bp r k o) := by exact rfl) (hy : evS sl y = .c (.d (.lit (.int kk z))) := by exact rfl) (ht : T t = some i := by exact rfl) (hi : i.desc = .array m e := by exact rfl) (he' : T e = some ei := by exact rfl) (hm : mem[r]? = some (.box k cs) := by exact rfl) (hz : 0 ≤ z := by omega) (hzm : z < (m : Int) := by omega) : Reg P F0 w0 dr ops K (⟨some d, .indexAddr t x y, ty, pos, aft, g⟩ :: rest) ⟨n, sl, mem, ck, df⟩ acc :=
  at4r hw hm (fun mem ck hm => Does.of tc.ok fun τ he hmm hc Kk hK => by
    subst hmm; subst hc
    have ex := he x (by simp [Op.operands])
    have ey := he y (by simp [Op.operands])
    rw [hx] at ex
    rw [hy] at ey
    obtain ⟨a1, a2, a3, a4, a5⟩ := i
    simp only at hi
    subst hi
    simp only [astep, aIndex, ht, he', ex, ey, liveAt, hm]
    exact ⟨hz, hzm, trivial, hK _ _ _ _ ⟨rfl, rfl, rfl, rfl⟩⟩) h
end
section
variable {P : Program} {T : TypeId → Option TI} {F0 : Nat → Prop} {w0 w : World} {E : Env} {mem : List Blk} {clock : Nat}
end
section
variable {P : Program} {T : TypeId → Option TI} {F0 : Nat → Prop} {w0 : World}
variable {dr : Bool} {ops rest : List Oper} {K : St → Prop} {n : Nat} {sl : List (Nat × SVal)} {mem : List Blk} {ck : Nat} {df : List (FuncId × List Cell)} {acc : List Nat}
variable {d : Tmp} {op : Op} {ty : TypeId} {pos : String} {aft : Array Edge} {g : Option (Nat × Bool)}
theorem h_fieldB [tc : TC P T] {s : TypeId} {f : Nat} {x : Operand} {i j : TI} {fs : List (Nat × TypeId)} {off : Nat} {ft : TypeId} {r k o : Nat} {cs : List Cell} (h : Reg P F0 w0 dr ops K rest ⟨n, (d, .c (.bp r k (o + off))) :: sl, mem, ck, df⟩ (kindL r true :: acc)) (hw : GW ops g sl := by first | exact trivial | exact rfl) (hx : evS sl x = .c (.bp r k o) := by exact rfl) (hs : T s = some i := by exact rfl) (hi : i.desc = .struct fs := by exact rfl) (hf : fs[f]? = some (off, ft) := by exact rfl) (hj : T ft = some j := by exact rfl) (hz : decide (j.size ≠ 0) = true := by exact rfl) (hm : mem[r]? = some (.box k cs) := by exact rfl) :
    Reg P F0 w0 dr ops K (⟨some d, .fieldAddr s x f, ty, pos, aft, g⟩ :: rest) ⟨n, sl, mem, ck, df⟩ acc :=
  at4r hw hm (fun mem ck hm => Does.of tc.ok fun τ he hmm hc Kk hK => by
    subst hmm; subst hc
    have ex := he x (by simp [Op.operands])
    rw [hx] at ex
    obtain ⟨a1, a2, a3, a4, a5⟩ := i
    simp only at hi
    subst hi
    simp only [astep, aField, hs, hf, hj, ex, liveAt, hm]
    exact ⟨by simpa using hz, trivial, hK _ _ _ _ ⟨rfl, rfl, rfl, rfl⟩⟩) h
theorem h_loadB1 [tc : TC P T] {t : TypeId} {x : Operand} {i : TI} {r k o : Nat} {cs : List Cell} {y : Cell} (h : Reg P F0 w0 dr ops K rest ⟨n, (d, .c y) :: sl, mem, ck, df⟩ (kindL r true :: acc)) (hw : GW ops g sl := by first | exact trivial | exact rfl) (hx : evS sl x = .c (.bp r k o) := by exact rfl) (ht : T t = some i := by exact rfl) (ha : i.desc.agg = false := by exact rfl) (hs : i.size = 1 := by exact rfl) (hm : mem[r]? = some (.box k cs) := by exact rfl) (hy : cs[o]? = some y := by exact rfl) :
    Reg P F0 w0 dr ops K (⟨some d, .load t x, ty, pos, aft, g⟩ :: rest) ⟨n, sl, mem, ck, df⟩ acc :=
  at4r hw hm (fun mem ck hm => Does.of tc.ok fun τ he hmm hc Kk hK => by
    subst hmm; subst hc
    have ex := he x (by simp [Op.operands])
    rw [hx] at ex
    have hlt := lt_of_getElem? hy
    have e1 : (cs.drop o).take 1 = [y] := by
      rw [List.drop_eq_getElem_cons hlt]
      rw [List.getElem?_eq_getElem hlt] at hy
      simp at hy
      simp [hy]
    simp only [astep, aLoad, ht, ex, ha, hs, hm]
    refine ⟨.inr trivial, trivial, hlt, ?_⟩
    rw [e1]
    exact hK _ _ _ _ ⟨rfl, rfl, rfl, rfl⟩) h
end
end Go.Abs
end
