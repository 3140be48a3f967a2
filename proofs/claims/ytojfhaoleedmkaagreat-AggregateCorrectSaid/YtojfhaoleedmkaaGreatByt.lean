/-
  Texts and their bytes; slices that are nil.
-/
import Derived.Test.YtojfhaoleedmkaaGreatOpa
import Derived.Lib.ConvBytes
section
namespace Go.Abs
open Go.RowKit
def idxOk (n : Nat) : List Nat → Bool
  | [] => true
  | i :: is => Nat.blt i n && (is.all (fun j => !Nat.beq i j) && idxOk n is)
theorem idxOk_says {n : Nat} : ∀ {idx : List Nat}, idxOk n idx = true → idx.Nodup ∧ ∀ i ∈ idx, i < n
  | [], _ => ⟨by simp, by simp⟩
  | i :: is, h => by
    simp only [idxOk, Bool.and_eq_true, List.all_eq_true, Nat.blt, Nat.ble_eq] at h
    obtain ⟨h1, h2, h3⟩ := h
    obtain ⟨g1, g2⟩ := idxOk_says h3
    refine ⟨List.nodup_cons.2 ⟨fun q => ?_, g1⟩, fun j hj => ?_⟩
    · have := h2 i q
      simp at this
    · rcases List.mem_cons.1 hj with rfl | hj
      · omega
      · exact g2 j hj
def takes (mem : List Blk) : List Nat → List Blk
  | [] => []
  | i :: is => (match mem[i]? with | some b => b | none => .dead) :: takes mem is
theorem place_lt : ∀ {idx : List Nat} {n i : Nat}, i < idx.length → idx[i]? = some (place idx n i)
  | [], _, _, h => by simp at h
  | r :: is, n, 0, _ => by simp [place]
  | r :: is, n, i + 1, h => by
    simp only [List.getElem?_cons_succ, place]
    exact place_lt (by simpa using h)
theorem takes_get {mem : List Blk} : ∀ {idx : List Nat}, (∀ i ∈ idx, i < mem.length) → ∀ (i r : Nat), idx[i]? = some r → (takes mem idx)[i]? = mem[r]?
  | [], _, i, r, h => by simp at h
  | j :: is, hlt, 0, r, h => by
    simp only [List.getElem?_cons_zero, Option.some.injEq] at h
    subst h
    have := hlt j (by simp)
    simp [takes, List.getElem?_eq_getElem this]
  | j :: is, hlt, i + 1, r, h => by
    simp only [takes, List.getElem?_cons_succ]
    exact takes_get (fun k hk => hlt k (by simp [hk])) i r (by simpa using h)
def keptL (m : List Blk) : List Blk → Nat → Prop
  | [], _ => True
  | b :: bs, i => (match b.vers with | some 0 => verOf m i = 0 | _ => True) ∧ keptL m bs (i + 1)
theorem keptL_get {m : List Blk} : ∀ {bs : List Blk} {k : Nat}, keptL m bs k → ∀ i, (bs[i]?).bind Blk.vers = some 0 → verOf m (k + i) = 0
  | [], _, _, i, h => by simp at h
  | b :: bs, k, hk, 0, h => by
    simp only [List.getElem?_cons_zero, Option.bind_some] at h
    have := hk.1
    rw [h] at this
    exact this
  | b :: bs, k, hk, i + 1, h => by
    have := keptL_get hk.2 i (by simpa using h)
    rw [show k + 1 + i = k + (i + 1) by omega] at this
    exact this
theorem hr_mk {m mem1 m1 : List Blk} {v r1 r : SVal} (hm : upL id (actV m) mem1 0 = m1) (hr : r1.up id (actV m) = r) (h : memIn m m1) (ha : AM v r) (hk : keptL m mem1 0) : HR m mem1 v r1 := by
  subst hm; subst hr
  exact ⟨h, ha, fun i hi => by have := keptL_get hk i hi; simpa using this⟩
theorem am_same {v : SVal} : AM v v := by
  cases v with
  | c x => exact .inl rfl
  | agg xs =>
    have : ∀ l : List Cell, CLes l l := by
      intro l
      induction l with
      | nil => trivial
      | cons a l ih => exact ⟨.inl rfl, ih⟩
    exact this xs
  | tup xs => exact rfl
  | und => exact rfl
  | junk => exact rfl
theorem am_d {c : Cell} {x y : Dat} (h : c.dat = some x) (e : x = y) : AM (.c c) (.c (.d y)) := by subst e; exact .inr ⟨x, rfl, h⟩
theorem ams_cons {x y : SVal} {xs ys : List SVal} (h : AM x y) (h' : AMs xs ys) : AMs (x :: xs) (y :: ys) := ⟨h, h'⟩
theorem am_arr {r k n n' : Nat} (h : n = n') : AM (.c (.arr r k n)) (.c (.arr r k n')) := by subst h; exact .inl rfl
section
variable {P : Program} {T : TypeId → Option TI} {F0 : Nat → Prop} {w0 : World} {dr : Bool} {ops rest : List Oper} {K : St → Prop} {n : Nat} {sl : List (Nat × SVal)} {mem : List Blk} {ck : Nat} {df : List (FuncId × List Cell)} {acc : List Nat}
variable {d : Tmp} {op : Op} {ty : TypeId} {pos : String} {aft : Array Edge} {g : Option (Nat × Bool)}
theorem HCall.at {f : FuncId} {args0 as : List SVal} {mem0 mem1 mem' : List Blk} {r1 v : SVal} {N : Nat} (idx : List Nat) (h : HCall P f args0 mem0 r1 mem1) (hN : mem.length = N) (hix : idxOk N idx = true) (hl : idx.length = mem0.length)
    (hm : takes mem idx = upL (place idx N) (newV mem (place idx N) ck) mem0 0) (ha : AMs as (args0.map (SVal.up (place idx N) (newV mem (place idx N) ck)))) (hv : r1.up (place idx N) (newV mem (place idx N) ck) = v) (hm' : puts mem idx (upL (place idx N) (newV mem (place idx N) ck) mem1 0) = mem') :
    MCall P F0 w0 f as mem ck fun v' m c => v' = v ∧ m = mem' ∧ c = ck + 1 := by
  subst hN; subst hv; subst hm'
  obtain ⟨g1, g2⟩ := idxOk_says hix
  refine h.frame idx g1 g2 hl (fun i b0 hb => ?_) ha
  have hi : i < idx.length := by rw [hl]; exact lt_of_getElem? hb
  have h1 := place_lt (n := mem.length) hi
  have h2 := takes_get g2 i _ h1
  rw [hm, upL_get, hb] at h2
  simpa using h2.symm
theorem s_callH [tc : TC P T] (idx : List Nat) {f : Operand} {fv : SVal} {args : Array Operand} {ats : Array TypeId} {fid : FuncId} {caps : List Cell} {args0 as : List SVal} {mem0 mem1 mem' : List Blk} {r1 v : SVal} {N : Nat} (hp : HCall P fid args0 mem0 r1 mem1)
    (h : Reg P F0 w0 dr ops K rest ⟨n, (d, v) :: sl, mem', ck + 1, df⟩ (2 :: acc)) (hw : GW ops g sl := by first | exact trivial | exact rfl) (hf : evS sl f = fv := by exact rfl) (hc : calleeOf fv = some (fid, caps) := by exact rfl) (has : args.toList.map (evS sl) ++ caps.map .c = as := by exact rfl) (hN : mem.length = N := by first | exact (rfl : _ = 0) | exact (rfl : _ = 1) | exact (rfl : _ = 2) | exact (rfl : _ = 3) | exact (rfl : _ = 4) | exact (rfl : _ = 5) | exact (rfl : _ = 6) | exact (rfl : _ = 7) | exact (rfl : _ = 8) | exact (rfl : _ = 9) | exact (rfl : _ = 10) | exact (rfl : _ = 11) | exact (rfl : _ = 12)) (hix : idxOk N idx = true := by exact rfl) (hl : idx.length = mem0.length := by exact rfl)
    (hm : takes mem idx = upL (place idx N) (newV mem (place idx N) ck) mem0 0 := by exact rfl) (ha : AMs as (args0.map (SVal.up (place idx N) (newV mem (place idx N) ck))) := by (repeat refine ams_cons (by first | exact am_same | exact am_d rfl rfl) ?_); exact trivial)
    (hv : r1.up (place idx N) (newV mem (place idx N) ck) = v := by (try dsimp only [SVal.up, Cell.up, Cell.ups, place, newV, verOf, Blk.vers, List.getElem?_cons_zero, List.getElem?_cons_succ]); first | done | exact rfl)
    (hm' : puts mem idx (upL (place idx N) (newV mem (place idx N) ck) mem1 0) = mem' := by (try dsimp only [puts, upL, Blk.up, Cell.up, Cell.ups, place, newV, verOf, Blk.vers, List.getElem?_cons_zero, List.getElem?_cons_succ, List.set_cons_zero, List.set_cons_succ, List.nil_append, List.cons_append, List.append_nil]); first | done | exact rfl) :
    Reg P F0 w0 dr ops K (⟨some d, .call ⟨.value f, args, ats⟩, ty, pos, aft, g⟩ :: rest) ⟨n, sl, mem, ck, df⟩ acc :=
  r_callM tc.ok hw hf hc has (hp.at idx hN hix hl hm ha hv hm') h
theorem hcallS {T : TypeId → Option TI} (hT : TypesOk P T) {f : FuncId} {fn : Func} {c : Code} {args0 : List SVal} {mem0 mem1 : List Blk} {r1 : SVal} {sl : List (Nat × SVal)} (hf : P.funcs[f]? = some fn) (hb : fn.body = some c) (hnm : (fn.name == "runtime.NumGoroutine") = false)
    (n : Nat) (rs : List ResultVar) (hnt : fn.ntmps = n) (hrs : fn.results.toList = rs) (hn : decide (args0.length ≤ n) = true) (hck : hchk args0 mem0 r1 mem1 = true) (hsl : idxS args0 0 = sl) (h : ∀ B : Base, ARun P B c ⟨n, sl, mem0, 0, []⟩ (kont P B (finM P T rs (fun r m _ => HR m mem1 r r1)) [])) : HCall P f args0 mem0 r1 mem1 := by
  have key : ∀ F0 w0, MCall P F0 w0 f args0 mem0 0 fun r m _ => HR m mem1 r r1 := fun F0 w0 => mcallS hT hf hb hnm n rs hnt hrs hn hsl fun B _ _ => h B
  exact ⟨hck, (key (fun _ => False) default).1, key⟩
theorem hcallN {T : TypeId → Option TI} (hT : TypesOk P T) {f : FuncId} {fn : Func} {c : Code} {args0 : List SVal} {mem0 mem1 : List Blk} {r1 : SVal} {sl : List (Nat × SVal)} {n : Nat} (hf : P.funcs[f]? = some fn) (hnt : fn.ntmps = n) (rs : List ResultVar) (h : ∀ B : Base, ARun P B c ⟨n, sl, mem0, 0, []⟩ (kont P B (finM P T rs (fun r m _ => HR m mem1 r r1)) []))
    (hb : fn.body = some c := by exact rfl) (hnm : (fn.name == "runtime.NumGoroutine") = false := by kernel_rfl) (hrs : fn.results.toList = rs := by exact rfl) (hn : decide (args0.length ≤ n) = true := by exact rfl) (hck : hchk args0 mem0 r1 mem1 = true := by exact rfl) (hsl : idxS args0 0 = sl := by repeat' (first | exact nfNil rfl | apply nfCons (a := ((_, SVal.c _) : Nat × SVal)) rfl | apply nfCons (a := ((_, SVal.agg _) : Nat × SVal)) rfl)) : HCall P f args0 mem0 r1 mem1 :=
  hcallS hT hf hb hnm n rs hnt hrs hn hck hsl h
variable {B : Base} {mem1 m1 : List Blk} {r1 r v : SVal}
theorem fh_end0 (hd : defersOk P df) (h : memIn mem m1) (hk : keptL mem mem1 0 := by repeat' (first | exact trivial | refine And.intro rfl ?_ | refine And.intro trivial ?_)) (hm : upL id (actV mem) mem1 0 = m1 := by repeat' (first | exact nfNil rfl | apply nfCons rfl)) : kont P B (finM P T [] (fun r m _ => HR m mem1 r (.tup []))) [] .norm ⟨n, sl, mem, ck, df⟩ := ⟨hd, hr_mk hm rfl h rfl hk⟩
theorem fh_ret1 {t : Nat} (hd : defersOk P df) (h : memIn mem m1) (ha : AM v r) (hk : keptL mem mem1 0 := by repeat' (first | exact trivial | refine And.intro rfl ?_ | refine And.intro trivial ?_)) (hv : look sl t = v := by exact rfl) (hr : r1.up id (actV mem) = r := by exact rfl) (hm : upL id (actV mem) mem1 0 = m1 := by repeat' (first | exact nfNil rfl | apply nfCons rfl)) : kont P B (finM P T [.tmp t] (fun r m _ => HR m mem1 r r1)) [] .ret ⟨n, sl, mem, ck, df⟩ :=
  ⟨hd, by simp only [resM, resVal, St.get, hv]; exact hr_mk hm hr h ha hk⟩
def SFs (mem : List Blk) : List SVal → List PV → Prop
  | [], [] => True
  | s :: ss, p :: ps => SF mem s p ∧ SFs mem ss ps
  | _, _ => False
theorem SFs.get {mem : List Blk} : ∀ {ss : List SVal} {ps : List PV}, SFs mem ss ps → ss.length = ps.length ∧ ∀ (i : Nat) s p, ss[i]? = some s → ps[i]? = some p → SF mem s p
  | [], [], _ => ⟨rfl, by simp⟩
  | s :: ss, p :: ps, h => by
    obtain ⟨h1, h2⟩ := SFs.get h.2
    refine ⟨by simp [h1], fun i s' p' hs hp => ?_⟩
    cases i with
    | zero => simp at hs hp; subst hs; subst hp; exact h.1
    | succ i => exact h2 i s' p' (by simpa using hs) (by simpa using hp)
  | [], _ :: _, h => h.elim
  | _ :: _, [], h => h.elim
def PRes.flat : PRes → Bool
  | .v (.one (.lit _)) => true
  | .v (.agg xs) => xs.all fun x => match x with | .lit _ => true | _ => false
  | .tup xs => xs.all fun p => match p with | .one (.lit _) => true | _ => false
  | _ => false
theorem lit_any {F F' : Nat → Prop} {w w' : World} {v u : Value} (h : DRep F w v (.lit u)) : DRep F' w' v (.lit u) := by
  cases h with | lit _ h => exact .lit _ h
theorem flat_rep {E E' : Env} {w w' : World} {v : Value} {r : PRes} (hr : r.flat = true) (h : SRep E w v r.s) : SRep E' w' v r.s := by
  cases r with
  | v p =>
    cases p with
    | one x =>
      cases x with
      | lit u => exact .c (.d (lit_any h.d_inv))
      | _ => simp [PRes.flat] at hr
    | agg xs =>
      simp only [PRes.flat, List.all_eq_true] at hr
      simp only [PRes.s, PV.s] at h ⊢
      cases h with | agg _ vs hl hd =>
      refine .agg _ vs hl (fun i u c hu hc => ?_)
      have := hd i u c hu hc
      rw [List.getElem?_map] at hc
      cases hx : xs[i]? with
      | none => rw [hx] at hc; cases hc
      | some x =>
        rw [hx] at hc
        simp only [Option.map_some, Option.some.injEq] at hc
        subst hc
        have hq := hr x (List.mem_of_getElem? hx)
        cases x with
        | lit u' => exact .d (lit_any this.d_of)
        | _ => simp at hq
  | tup xs =>
    simp only [PRes.flat, List.all_eq_true] at hr
    simp only [PRes.s] at h ⊢
    cases h with | tup _ vs hl hd =>
    refine .tup _ vs hl (fun i u c hu hc => ?_)
    have := hd i u c hu hc
    rw [List.getElem?_map] at hc
    cases hx : xs[i]? with
    | none => rw [hx] at hc; cases hc
    | some x =>
      rw [hx] at hc
      simp only [Option.map_some, Option.some.injEq] at hc
      subst hc
      have hq := hr x (List.mem_of_getElem? hx)
      cases x with
      | one x =>
        cases x with
        | lit u' => exact .c (.d (lit_any this.d_inv))
        | _ => simp at hq
      | agg _ => simp at hq
theorem MCall.borrow {f : FuncId} {args : List SVal} {pargs : List PV} {r : PRes} (hp : PCall P f pargs r) (ha : SFs mem args pargs) (hr : r.flat = true) : MCall P F0 w0 f args mem ck fun v m c => v = r.s ∧ m = mem ∧ c = ck := by
  refine ⟨hp.1, fun E w vs hw hl hv => ?_⟩
  obtain ⟨g1, g2⟩ := ha.get
  have hlt : ∀ b, w0.heap.size ≤ b → b < w.heap.size → b < w.heap.size := fun _ _ q => q
  have hcall := hp.2 (fun b => E.F b ∨ (w0.heap.size ≤ b ∧ b < w.heap.size)) w vs (fun k hk => by rcases hk with hk | hk; exact (hw.F k hk).1; exact hk.2) (by omega) (fun i v x hvi hx => by
    have hlt := lt_of_getElem? hvi
    have hs : args[i]? = some (args[i]'(by omega)) := List.getElem?_eq_getElem _
    exact SF.rep hw (g2 i _ x hs hx) (hv i v _ hvi hs) (fun b hb => .inl hb) (fun b h1 h2 => .inr ⟨h1, h2⟩))
  refine Calls.mono hcall fun e w' he => ?_
  obtain ⟨v, rfl, hb, hrep⟩ := he
  have hlat := hw.later hb (fun _ => False) (fun _ q => q.elim)
  exact ⟨v, _, r.s, mem, ck, rfl, hlat.2, hlat.1, flat_rep hr hrep, rfl, rfl, rfl⟩
theorem CF.later {mem M : List Blk} {c : Cell} {y : Dat} (h : CF mem c y) (ex : Ext mem M) : CF M c y := by
  unfold CF at h ⊢
  split at h
  · split at h
    · rename_i hm
      rw [ex _ _ hm rfl]
      exact h
    · exact h.elim
  · exact h
theorem CFs.later {mem M : List Blk} (ex : Ext mem M) : ∀ {cs : List Cell} {xs : List Dat}, CFs mem cs xs → CFs M cs xs
  | [], [], _ => trivial
  | _ :: _, _ :: _, h => ⟨h.1.later ex, CFs.later ex h.2⟩
  | [], _ :: _, h => h.elim
  | _ :: _, [], h => h.elim
theorem SFs.later {mem M : List Blk} (ex : Ext mem M) : ∀ {ss : List SVal} {ps : List PV}, SFs mem ss ps → SFs M ss ps
  | [], [], _ => trivial
  | s :: ss, p :: ps, h => by
    refine ⟨?_, SFs.later ex h.2⟩
    have h1 := h.1
    unfold SF at h1 ⊢
    split at h1
    · exact h1.later ex
    · exact CFs.later ex h1
    · exact h1.elim
  | [], _ :: _, h => h.elim
  | _ :: _, [], h => h.elim
theorem s_callB [tc : TC P T] {f : Operand} {fv : SVal} {args : Array Operand} {ats : Array TypeId} {fid : FuncId} {caps : List Cell} {as : List SVal} {pargs : List PV} {r : PRes} {v : SVal} (hp : PCall P fid pargs r) (ha : SFs mem as pargs)
    (h : Reg P F0 w0 dr ops K rest ⟨n, (d, v) :: sl, mem, ck, df⟩ (1 :: acc)) (hw : GW ops g sl := by first | exact trivial | exact rfl) (hf : evS sl f = fv := by exact rfl) (hc : calleeOf fv = some (fid, caps) := by exact rfl) (has : args.toList.map (evS sl) ++ caps.map .c = as := by exact rfl) (hr : r.flat = true := by exact rfl) (hv : r.s = v := by exact rfl) :
    Reg P F0 w0 dr ops K (⟨some d, .call ⟨.value f, args, ats⟩, ty, pos, aft, g⟩ :: rest) ⟨n, sl, mem, ck, df⟩ acc :=
  at1 hw (fun _ _ ex => Does.of tc.ok fun τ he hm hck Kk hK => by
    have ha := ha.later ex
    rw [← hm] at ha hK
    subst hck; subst has; subst hv
    obtain ⟨e1, e2⟩ := args_of he
    rw [hf] at e1
    simp only [astep, aCall, e1, hc, e2]
    obtain ⟨q1, q2⟩ := MCall.borrow (F0 := F0) (w0 := w0) (ck := τ.clock) hp ha hr
    refine ⟨q1, fun E w vs a1 a2 a3 => Calls.mono (q2 E w vs a1 a2 a3) fun _ _ ⟨v', E', r, m, c, p1, p2, p3, p4, p5, p6, p7⟩ => ⟨v', E', r, m, c, p1, p2, p3, p4, ?_⟩⟩
    subst p5; subst p6; subst p7
    exact hK _ _ _ _ ⟨rfl, rfl, rfl, rfl⟩) h
theorem HCall.pure {f : FuncId} {args0 : List SVal} {pargs : List PV} {t : TypeId} {z m : Nat} {es : List (List Dat)} {y : Dat} (h : HCall P f args0 [] (.c (.arr 0 1 m)) [.arr 1 t z es]) (ha : args0 = pargs.map PV.s) (hm : m ≤ es.length) (hy : .sl (es.take m) = y) : PCall P f pargs (.v (.one y)) := by
  subst ha; subst hy
  obtain ⟨_, hfn, hcall⟩ := h
  refine ⟨hfn, fun F w vs hF hl hv => ?_⟩
  have h0 : WOk F w (env0 F) w [] 0 := ⟨Bel.refl _ _, fun k hk => hk, fun k hk => ⟨hF k hk, .inl hk⟩, ⟨fun _ => Nat.le_refl _, fun s x hx => by simp at hx, fun s s' x x' hx => by simp at hx⟩, fun _ hk => hk.elim⟩
  refine Calls.mono ((hcall F w).2 (env0 F) w vs h0 (by simpa using hl) (fun i v x hvi hx => ?_)) fun e w' he => ?_
  · rw [List.getElem?_map] at hx
    cases hp : pargs[i]? with
    | none => rw [hp] at hx; cases hx
    | some p => rw [hp] at hx; simp only [Option.map_some, Option.some.injEq] at hx; subst hx; exact hv i v p hvi hp
  · obtain ⟨v, E', r, mm, c', rfl, hle, hw, hrep, hr⟩ := he
    refine ⟨v, rfl, hw.below, .c (.d ?_)⟩
    have hrep := hr.res.rep hrep
    have hm0 := hr.mem 0 (.arr (verOf mm 0) t z es) rfl trivial
    simp only [SVal.up, Cell.up, id] at hrep
    cases hrep with | c hq =>
    refine arr_dat hw hm0 hm hq (fun b hb => ⟨(hw.F b hb).2, (hw.F b hb).1⟩) (fun hc => ?_)
    have := (hw.mem.ok 0 _ hm0).lt (show Blk.has E' 0 _ from hc)
    exact ⟨.inr this.2.1, this.1⟩
end
end Go.Abs
end
section
namespace Go.Abs
open Go.RowKit
def byD (b : UInt8) : List Dat := [.lit (.int .u8 b.toNat)]
def byteD (l : List UInt8) : Dat := .sl (l.map byD)
theorem SRep.c_inv {E : Env} {w : World} {v : Value} {x : Cell} (h : SRep E w v (.c x)) : CRep E w v x := by cases h; assumption
theorem bytes_foldl : ∀ (l : List UInt8) (r : ByteArray), (l.map fun b => ((b.toNat : Nat) : Int)).foldl (fun r n => r.push (UInt8.ofNat n.toNat)) r = ⟨r.data ++ l.toArray⟩
  | [], r => by simp
  | b :: l, r => by
    simp only [List.map_cons, List.foldl_cons, Int.toNat_natCast]
    rw [bytes_foldl l]
    simp [ByteArray.push]
theorem run_bytes {P : Program} {w : World} {F : Nat → Prop} {v : Value} {l : List UInt8} (h : DRep F w v (byteD l)) : (Conv.bytesToString v).run P w = .ok (.string ⟨l.toArray⟩) w := by
  by_cases hne : l = []
  · subst hne
    rcases h.sl_inv with ⟨_, a, c, rfl⟩ | ⟨b, off, cap, size, us, rfl, _⟩
    · cases a with
      | none => simp [Conv.bytesToString]; rfl
      | some a =>
        have := run_bytesToString (P := P) w a 0 c [] (by simpa using run_loadCells_list (P := P) w a [] (by simp))
        exact this
    · have := run_bytesToString (P := P) w ⟨b, off, none⟩ 0 cap [] (by simpa using run_loadCells_list (P := P) w ⟨b, off, none⟩ [] (by simp))
      exact this
  · obtain ⟨b, off, cap, news, rfl, hnl, hnc, hn1, hflat⟩ := h.flat (esz := 1) (fun e he => by obtain ⟨x, _, rfl⟩ := List.mem_map.1 he; rfl) (by simpa using hne)
    have hn : news = (l.map fun b => ((b.toNat : Nat) : Int)).map (Value.int .u8) := by
      apply List.ext_getElem?
      intro i
      simp only [List.length_map, Nat.mul_one] at hnl
      by_cases hi : i < l.length
      · have hg : news[i]? = some (news[i]'(by omega)) := List.getElem?_eq_getElem _
        have hq := hflat i 0 (byD l[i]) (news[i]'(by omega)) (.lit (.int .u8 l[i].toNat)) (by rw [List.getElem?_map, List.getElem?_eq_getElem hi]; rfl) rfl (by simp [hg])
        rw [hg]
        simp only [List.getElem?_map, List.getElem?_eq_getElem hi, Option.map_some, Option.some.injEq]
        generalize news[i]'(by omega) = u at hq
        cases hq; rfl
      · rw [List.getElem?_eq_none (by omega), List.getElem?_eq_none (by simp; omega)]
    have hl := run_loadCells_list (P := P) w ⟨b, off, none⟩ news (fun j u hu => hnc j u hu)
    simp only [List.length_map, Nat.mul_one] at hnl
    rw [hnl] at hl
    subst hn
    have := run_bytesToString (P := P) w ⟨b, off, none⟩ l.length cap _ hl
    rw [bytes_foldl] at this
    simpa using this
section
variable {P : Program} {T : TypeId → Option TI} {F0 : Nat → Prop} {w0 : World}
variable {dr : Bool} {ops rest : List Oper} {K : St → Prop} {n : Nat} {sl : List (Nat × SVal)} {mem : List Blk} {ck : Nat} {df : List (FuncId × List Cell)} {acc : List Nat}
variable {d : Tmp} {op : Op} {ty : TypeId} {pos : String} {aft : Array Edge} {g : Option (Nat × Bool)}
theorem s_convSB [tc : TC P T] {s t e : TypeId} {x : Operand} {b : ByteArray} {i j k : TI}
    (h : Reg P F0 w0 dr ops K rest ⟨n, (d, .c (.d (byteD b.data.toList))) :: sl, mem, ck, df⟩ (0 :: acc)) (hw : GW ops g sl := by first | exact trivial | exact rfl) (hx : evS sl x = .c (.d (.lit (.string b))) := by exact rfl) (hb : (b.size : Int) ≤ 9223372036854775807 := by omega)
    (hs : T s = some i := by exact rfl) (hi : i.desc = .str := by exact rfl) (ht : T t = some j := by exact rfl) (hj : j.desc = .slice e := by exact rfl) (he : T e = some k := by exact rfl) (hk : k.desc = .int .u8 := by exact rfl) :
    Reg P F0 w0 dr ops K (⟨some d, .convert s t x, ty, pos, aft, g⟩ :: rest) ⟨n, sl, mem, ck, df⟩ acc := by
  refine at0 hw (fun m c => doesM fun E w ρ hw' hρ => ?_) h
  have e1 := hρ x (by simp [Op.operands])
  rw [hx] at e1
  have e1 := e1.lit_inv
  have us : P.underlying s = some .string := by have := (tc.ok s i hs).desc; rw [hi] at this; exact this
  have ut : P.underlying t = some (.slice e) := by have := (tc.ok t j ht).desc; rw [hj] at this; exact this
  have ue : P.underlying e = some (.int .u8) := by have := (tc.ok e k he).desc; rw [hk] at this; exact this
  have hr := Go.Lib.run_convert_string_bytes (P := P) w s t e b us ut ue
  have hbel : Bel w.heap.size w (Go.Lib.bytesWorld w e b) := by
    refine ⟨⟨?_, ?_, ?_, ?_, fun k hk => Go.Lib.bytesWorld_at_old w e b k hk⟩, ?_⟩
    · unfold Go.Lib.bytesWorld World.freeze; split <;> rfl
    · unfold Go.Lib.bytesWorld World.freeze; split <;> rfl
    · unfold Go.Lib.bytesWorld World.freeze; split <;> rfl
    · rw [Go.Lib.bytesWorld_size]; omega
    · unfold Go.Lib.bytesWorld World.freeze; split <;> exact Nat.le_succ _
  have hlat := hw'.later hbel (fun k => k = w.heap.size) (fun k q => by subst q; rw [Go.Lib.bytesWorld_size]; omega)
  refine ⟨.slice (some ⟨w.heap.size, 0, none⟩) b.size (grownCap w b.size 0 e), Go.Lib.bytesWorld w e b, _, by simp [execOp, e1, hr], hlat.2, hlat.1, .c (.d ?_)⟩
  have hm : b.size ≤ maxLen := by simp only [maxLen]; omega
  have hsz : b.data.toList.length = b.size := by simp
  have hd := DRep.sl (F := fun k => E.F k ∨ k = w.heap.size) (w := Go.Lib.bytesWorld w e b) (b.data.toList.map byD) w.heap.size 0 (grownCap w b.size 0 e) 1 (fun i _ => .int .u8 (b.data.toList.getD i 0).toNat) (.inr rfl)
    (by rw [List.length_map, hsz]; exact grownCap_ge w _ _ e) (grownCap_le_maxLen w _ _ e hm) (fun el hel => by obtain ⟨x, _, rfl⟩ := List.mem_map.1 hel; rfl)
    (fun i j hi hj => by
      have hj0 : j = 0 := by omega
      subst hj0
      rw [List.length_map, hsz] at hi
      simpa using Go.Lib.bytesWorld_cell w e b i hi)
    (fun i j el x q1 q2 => by
      rw [List.getElem?_map] at q1
      cases hq : b.data.toList[i]? with
      | none => rw [hq] at q1; cases q1
      | some y =>
        rw [hq] at q1
        simp only [Option.map_some, Option.some.injEq] at q1
        subst q1
        match j with
        | 0 =>
          simp only [byD, List.getElem?_cons_zero, Option.some.injEq] at q2
          subst q2
          simp only [List.getD, hq, Option.getD_some]
          exact .lit _ rfl
        | j + 1 => simp [byD] at q2)
  rw [List.length_map, hsz] at hd
  exact hd
theorem s_convBSd [tc : TC P T] {s t e : TypeId} {x : Operand} {l : List UInt8} {es : List (List Dat)} {i j k : TI}
    (h : Reg P F0 w0 dr ops K rest ⟨n, (d, .c (.d (.lit (.string ⟨l.toArray⟩)))) :: sl, mem, ck, df⟩ (0 :: acc)) (hw : GW ops g sl := by first | exact trivial | exact rfl) (hx : evS sl x = .c (.d (.sl es)) := by exact rfl) (hes : es = l.map byD := by exact rfl)
    (hs : T s = some i := by exact rfl) (hi : i.desc = .slice e := by exact rfl) (ht : T t = some j := by exact rfl) (hj : j.desc = .str := by exact rfl) (he : T e = some k := by exact rfl) (hk : k.desc = .int .u8 := by exact rfl) :
    Reg P F0 w0 dr ops K (⟨some d, .convert s t x, ty, pos, aft, g⟩ :: rest) ⟨n, sl, mem, ck, df⟩ acc := by
  subst hes
  refine at0 hw (does0 fun E w ρ hρ => ?_) h
  have e1 := hρ x (by simp [Op.operands])
  rw [hx] at e1
  have us : P.underlying s = some (.slice e) := by have := (tc.ok s i hs).desc; rw [hi] at this; exact this
  have ut : P.underlying t = some .string := by have := (tc.ok t j ht).desc; rw [hj] at this; exact this
  have ue : P.underlying e = some (.int .u8) := by have := (tc.ok e k he).desc; rw [hk] at this; exact this
  have hd := e1.d_inv
  have hb := run_bytes (P := P) (l := l) hd
  obtain ⟨a, m, c, hv⟩ : ∃ a m c, ρ x = .slice a m c := by
    rcases hd.sl_inv with ⟨_, a, c, hv⟩ | ⟨b, off, cap, size, us, hv, _⟩
    · exact ⟨_, _, _, hv⟩
    · exact ⟨_, _, _, hv⟩
  refine ⟨.string ⟨l.toArray⟩, ?_, .c (.d (.lit _ rfl))⟩
  rw [hv] at hb
  simp only [execOp, hv, Sem.run_bind, run_convert_bytes_string w s t e a m c us ue ut, hb, Result.andThen_ok, Sem.run_pure]
theorem s_convBSa [tc : TC P T] {s t e ety : TypeId} {x : Operand} {l : List UInt8} {r k' m z : Nat} {es : List (List Dat)} {i j k : TI}
    (h : Reg P F0 w0 dr ops K rest ⟨n, (d, .c (.d (.lit (.string ⟨l.toArray⟩)))) :: sl, mem, ck, df⟩ (1 :: acc)) (hw : GW ops g sl := by first | exact trivial | exact rfl) (hx : evS sl x = .c (.arr r k' m) := by exact rfl) (hm : mem[r]? = some (.arr k' ety z es) := by exact rfl) (hes : es.take m = l.map byD ∧ m ≤ es.length := by exact And.intro take_all_map (by simp))
    (hs : T s = some i := by exact rfl) (hi : i.desc = .slice e := by exact rfl) (ht : T t = some j := by exact rfl) (hj : j.desc = .str := by exact rfl) (he : T e = some k := by exact rfl) (hk : k.desc = .int .u8 := by exact rfl) :
    Reg P F0 w0 dr ops K (⟨some d, .convert s t x, ty, pos, aft, g⟩ :: rest) ⟨n, sl, mem, ck, df⟩ acc := by
  refine at1g hw hm (fun mem ck hm => doesM fun E w ρ hw' hρ => ?_) h
  have e1 := hρ x (by simp [Op.operands])
  rw [hx] at e1
  have us : P.underlying s = some (.slice e) := by have := (tc.ok s i hs).desc; rw [hi] at this; exact this
  have ut : P.underlying t = some .string := by have := (tc.ok t j ht).desc; rw [hj] at this; exact this
  have ue : P.underlying e = some (.int .u8) := by have := (tc.ok e k he).desc; rw [hk] at this; exact this
  have hd : DRep (fun b => E.F b ∨ b = E.blk r) w (ρ x) (.sl (es.take m)) := by
    exact arr_dat hw' hm hes.2 e1.c_inv (fun b hb => .inl hb) (fun _ => .inr rfl)
  rw [hes.1] at hd
  have hb := run_bytes (P := P) (l := l) hd
  obtain ⟨a, m', c, hv⟩ : ∃ a m c, ρ x = .slice a m c := by
    rcases hd.sl_inv with ⟨_, a, c, hv⟩ | ⟨b, off, cap, size, us, hv, _⟩
    · exact ⟨_, _, _, hv⟩
    · exact ⟨_, _, _, hv⟩
  refine ⟨.string ⟨l.toArray⟩, w, E, ?_, EnvLe.refl _ _, hw', .c (.d (.lit _ rfl))⟩
  rw [hv] at hb
  simp only [execOp, hv, Sem.run_bind, run_convert_bytes_string w s t e a m' c us ue ut, hb, Result.andThen_ok, Sem.run_pure]
theorem s_eqNil [tc : TC P T] {t t' e : TypeId} {x : Operand} {es : List (List Dat)} {i : TI}
    (h : ∀ b : Bool, (b = true → es = []) → Reg P F0 w0 false ops K rest ⟨n, (d, .c (.d (.lit (.bool b)))) :: sl, mem, ck, df⟩ (2 :: acc)) (hw : GW ops g sl := by first | exact trivial | exact rfl) (hx : evS sl x = .c (.d (.sl es)) := by exact rfl)
    (ht : T t = some i := by exact rfl) (hi : i.desc = .slice e := by exact rfl) :
    Reg P F0 w0 false ops K (⟨some d, .binOp .eql t x (.const (.slice none 0 0)) t', ty, pos, aft, g⟩ :: rest) ⟨n, sl, mem, ck, df⟩ acc := by
  refine at2r (R := fun v m c1 df' => (∃ b : Bool, (b = true → es = []) ∧ v = .c (.d (.lit (.bool b))) ∧ m = mem ∧ c1 = ck) ∧ df' = []) rfl hw (doesRc fun E w ρ hc hw' hρ => ?_) ?_
  · have e1 := hρ x (by simp [Op.operands])
    rw [hx] at e1
    have ut : P.underlying t = some (.slice e) := by have := (tc.ok t i ht).desc; rw [hi] at this; exact this
    have hd := e1.d_inv
    obtain ⟨a, m, c, hv, hn⟩ : ∃ a m c, ρ x = .slice a m c ∧ (a.isNone = true → es = []) := by
      rcases hd.sl_inv with ⟨hq, a, c, hv⟩ | ⟨b, off, cap, size, us, hv, _⟩
      · exact ⟨_, _, _, hv, fun _ => hq⟩
      · exact ⟨_, _, _, hv, fun q => by cases q⟩
    have key : ∀ d, (Op.equalIn (d + 1) t (.slice a m c) (.slice none 0 0)).run P w = .ok a.isNone w := by
      intro d
      cases a <;> simp [Op.equalIn, run_underlying ut]
    refine ⟨.bool a.isNone, w, E, _, _, _, ?_, EnvLe.refl _ _, hw', .c (.d (.lit _ rfl)), a.isNone, hn, rfl, rfl, rfl⟩
    have k2 : (Op.equal t (.slice a m c) (.slice none 0 0)).run P w = .ok a.isNone w := key 9999
    simp only [execOp, hv, hc, Sem.run_bind, eqGuard_at_slice, Sem.run_pure, Result.andThen_ok, binOp, k2]
  · rintro v m c1 df' ⟨⟨b, q1, rfl, rfl, rfl⟩, rfl⟩
    exact h b q1
theorem is_nilc {x : Operand} {σ : St} {dst : Option Tmp} (h : Reg P F0 w0 dr ops K (⟨dst, (.nilCheck x), ty, pos, aft, g⟩ :: rest) σ acc) : Reg P F0 w0 dr ops K (⟨dst, (.nilCheck x), ty, pos, aft, g⟩ :: rest) σ acc := h
theorem is_mkmap {t : TypeId} {x : Option Operand} {σ : St} {dst : Option Tmp} (h : Reg P F0 w0 dr ops K (⟨dst, (.makeMap t x), ty, pos, aft, g⟩ :: rest) σ acc) : Reg P F0 w0 dr ops K (⟨dst, (.makeMap t x), ty, pos, aft, g⟩ :: rest) σ acc := h
theorem is_range {t : TypeId} {x : Operand} {σ : St} {dst : Option Tmp} (h : Reg P F0 w0 dr ops K (⟨dst, (.range t x), ty, pos, aft, g⟩ :: rest) σ acc) : Reg P F0 w0 dr ops K (⟨dst, (.range t x), ty, pos, aft, g⟩ :: rest) σ acc := h
theorem str_at {s : ByteArray} {b : UInt8} {z : Int} {i : Nat} (h : s[i]? = some b) (e : z = i) : 0 ≤ z ∧ s[z.toNat]? = some b := by subst e; exact ⟨by omega, by simpa using h⟩
theorem m3 {k k1 : Nat} {kt vt : TypeId} {es es1 : List (Value × PV)} {bs bs1 : List Nat} {c c1 : Nat} {a b : List Blk} (he : es = es1) (hb : bs = bs1) (hc : c = c1) (h : memIn a b) (hk : k = k1 := by first | exact rfl | omega) : memIn (.map k kt vt es bs c :: a) (.map k1 kt vt es1 bs1 c1 :: b) := by subst he; subst hb; subst hc; subst hk; exact memIn_same h
theorem m4 {k k1 r k' since since1 : Nat} {sb sb1 : List Nat} {a b : List Blk} (he : sb = sb1) (h : memIn a b) (hk : k = k1 := by exact rfl) (hs : since = since1 := by first | exact rfl | omega) : memIn (.iter k r k' since sb :: a) (.iter k1 r k' since1 sb1 :: b) := by subst he; subst hs; subst hk; exact memIn_same h
theorem is_memIn {m m' : List Blk} (h : memIn m m') : memIn m m' := h
theorem is_AM {x y : SVal} (h : AM x y) : AM x y := h
end
end Go.Abs
end
