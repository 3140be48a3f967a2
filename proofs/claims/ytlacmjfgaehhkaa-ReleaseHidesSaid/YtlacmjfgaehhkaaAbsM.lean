/-
  Functions that only make memory of their own: what they are called with, what they hand back.
-/
import Derived.Test.YtlacmjfgaehhkaaAbsL
namespace Go.Abs
open Go.RowKit

inductive PV where
  | one (x : Dat)
  | agg (xs : List Dat)

inductive PRes where
  | v (x : PV)
  | tup (xs : List PV)

def PV.s : PV → SVal
  | .one x => .c (.d x)
  | .agg xs => .agg (xs.map .d)

def PRes.s : PRes → SVal
  | .v x => x.s
  | .tup xs => .tup (xs.map PV.s)

def env0 (F : Nat → Prop) : Env := { F := F, blk := fun _ => 0, cap := fun _ => 0, ver := fun _ => 0 }

section
variable {w w' : World} {E E' : Env}

theorem CRep.d_of {v : Value} {x : Dat} (h : CRep E w v (.d x)) : DRep E.F w v x := by cases h; assumption

/-- Data are seen alike in every environment that knows their blocks. -/
theorem PV.rep {v : Value} {p : PV} (h : SRep E w v p.s) (hF : ∀ {u : Value} {x : Dat}, DRep E.F w u x → DRep E'.F w' u x) : SRep E' w' v p.s := by
  cases p with
  | one x => cases h with | c h => exact .c (.d (hF h.d_of))
  | agg xs =>
    cases h with | agg _ vs hl hd =>
    refine .agg _ vs hl (fun i v x hv hx => ?_)
    have hq := hd i v x hv hx
    rw [List.getElem?_map] at hx
    cases hy : xs[i]? with
    | none => rw [hy] at hx; cases hx
    | some y =>
      rw [hy] at hx
      simp at hx
      subst hx
      exact .d (hF hq.d_of)

theorem PRes.rep {v : Value} {p : PRes} (h : SRep E w v p.s) (hF : ∀ {u : Value} {x : Dat}, DRep E.F w u x → DRep E'.F w' u x) : SRep E' w' v p.s := by
  cases p with
  | v x => exact PV.rep (p := x) h hF
  | tup xs =>
    cases h with | tup _ vs hl hd =>
    refine .tup _ vs hl (fun i v x hv hx => ?_)
    have hq := hd i v x hv hx
    rw [List.getElem?_map] at hx
    cases hy : xs[i]? with
    | none => rw [hy] at hx; cases hx
    | some y =>
      rw [hy] at hx
      simp at hx
      subst hx
      exact PV.rep hq hF
end

def PCall (P : Program) (f : FuncId) (args : List PV) (r : PRes) : Prop :=
  FnOk P f ∧ ∀ (F : Nat → Prop) (w : World) (vs : List Value), (∀ k, F k → k < w.heap.size) → vs.length = args.length →
    (∀ (i : Nat) v x, vs[i]? = some v → args[i]? = some x → SRep (env0 F) w v x.s) →
    Calls P f vs.toArray w fun e w' => ∃ v, e = .returned v ∧ Below w.heap.size w w' ∧ SRep (env0 fun k => (F k ∨ w.heap.size ≤ k) ∧ k < w'.heap.size) w' v r.s

/-- An argument as data. -/
def SD : SVal → PV → Prop
  | .c c, .one x => c.dat = some x
  | .agg cs, .agg xs => dats cs = some xs
  | _, _ => False

def SDs : List SVal → List PV → Prop
  | [], [] => True
  | s :: ss, p :: ps => SD s p ∧ SDs ss ps
  | _, _ => False

section
variable {P : Program} {T : TypeId → Option TI} {F0 : Nat → Prop} {w0 w : World} {E : Env} {mem : List Blk} {clock : Nat}

theorem SD.rep {s : SVal} {p : PV} (h : SD s p) {v : Value} (hv : SRep E w v s) : SRep (env0 E.F) w v p.s := by
  cases s with
  | c c =>
    cases p with
    | one x => cases hv with | c hv => exact .c (.d (hv.dat h))
    | agg xs => exact h.elim
  | agg cs =>
    cases p with
    | one x => exact h.elim
    | agg xs =>
      cases hv with | agg _ vs hl hd =>
      have hdl := dats_len h
      refine .agg _ vs (by simp; omega) (fun i v x hv hx => ?_)
      rw [List.getElem?_map] at hx
      cases hy : xs[i]? with
      | none => rw [hy] at hx; cases hx
      | some y =>
        rw [hy] at hx
        simp at hx
        subst hx
        exact .d (dats_rep (E := E) (v := v) h (fun z hz => hd i v z hv hz) hy)
  | tup xs => cases p <;> exact h.elim
  | und => cases p <;> exact h.elim
  | junk => cases p <;> exact h.elim

theorem SDs.get : ∀ {ss : List SVal} {ps : List PV}, SDs ss ps → ss.length = ps.length ∧ ∀ (i : Nat) s p, ss[i]? = some s → ps[i]? = some p → SD s p
  | [], [], _ => ⟨rfl, by simp⟩
  | s :: ss, p :: ps, h => by
    obtain ⟨h1, h2⟩ := SDs.get h.2
    refine ⟨by simp [h1], fun i s' p' hs hp => ?_⟩
    cases i with
    | zero => simp at hs hp; subst hs; subst hp; exact h.1
    | succ i => exact h2 i s' p' (by simpa using hs) (by simpa using hp)
  | [], _ :: _, h => h.elim
  | _ :: _, [], h => h.elim

theorem MCall.ofPure {f : FuncId} {args : List SVal} {pargs : List PV} {r : PRes} {R : SVal → List Blk → Nat → Prop} (hp : PCall P f pargs r) (ha : SDs args pargs) (hR : R r.s mem clock) : MCall P F0 w0 f args mem clock R := by
  refine ⟨hp.1, fun E w vs hw hl hv => ?_⟩
  obtain ⟨g1, g2⟩ := ha.get
  have hcall := hp.2 E.F w vs (fun k hk => (hw.F k hk).1) (by omega) (fun i v x hvi hx => by
    have hlt := lt_of_getElem? hvi
    have hs : args[i]? = some (args[i]'(by omega)) := List.getElem?_eq_getElem _
    exact (g2 i _ x hs hx).rep (hv i v _ hvi hs))
  refine Calls.mono hcall fun e w' he => ?_
  obtain ⟨v, rfl, hb, hr⟩ := he
  have hlat := hw.later hb (fun k => w.heap.size ≤ k ∧ k < w'.heap.size) (fun k hk => hk)
  refine ⟨v, _, r.s, mem, clock, rfl, hlat.2, hlat.1, PRes.rep hr (fun h => h.mono (fun k hk => ?_) (fun _ _ => rfl)), hR⟩
  rcases hk.1 with h1 | h1
  · exact .inl h1
  · exact .inr ⟨h1, hk.2⟩

/-- A result as data: an array of the call's own is handed over. -/
def CF (mem : List Blk) : Cell → Dat → Prop
  | .arr r k n, y => (match mem[r]? with
    | some (.arr k' _ _ es) => k' = k ∧ n ≤ es.length ∧ y = .sl (es.take n)
    | _ => False)
  | c, y => c.dat = some y

def CFs (mem : List Blk) : List Cell → List Dat → Prop
  | [], [] => True
  | c :: cs, x :: xs => CF mem c x ∧ CFs mem cs xs
  | _, _ => False

def SF (mem : List Blk) : SVal → PV → Prop
  | .c c, .one x => CF mem c x
  | .agg cs, .agg xs => CFs mem cs xs
  | _, _ => False

theorem arr_dat {F : Nat → Prop} (h : WOk F0 w0 E w mem clock) {r k : Nat} {ety : TypeId} {esz : Nat} {es : List (List Dat)} (hr : mem[r]? = some (.arr k ety esz es)) {n : Nat} (hn : n ≤ es.length) {v : Value} (hv : CRep E w v (.arr r k n))
    (hF : ∀ b, E.F b → F b) (hFr : E.cap r ≠ 0 → F (E.blk r)) : DRep F w v (.sl (es.take n)) := by
  obtain ⟨o1, o2, o3, o4, o5, o6⟩ := h.mem.ok r _ hr
  cases hv with | arr _ _ _ _ _ _ hh =>
  rcases hh o1 with ⟨_, rfl, a, rfl⟩ | ⟨hcp, rfl⟩
  · simpa using DRep.emp _ _
  · rcases o6 with o6 | ⟨p1, p2, c, p3, p4, p5⟩
    · omega
    have hl : (es.take n).length = n := by simp; omega
    have hlt : ∀ i j, i < n → j < esz → i * esz + j < c.size := by
      intro i j hi hj
      rw [p4]
      have : (i + 1) * esz ≤ E.cap r * esz := Nat.mul_le_mul_right _ (by omega)
      rw [Nat.add_mul, Nat.one_mul] at this
      omega
    have hd := DRep.sl (F := F) (w := w) (es.take n) (E.blk r) 0 (E.cap r) esz (fun i j => c.getD (i * esz + j) undef) (hFr (by omega)) (by omega) o5 (fun e he => o3 e (List.mem_of_mem_take he)) (fun i j hi hj => by
        rw [cell_of_block p3]
        rw [hl] at hi
        simp [hlt i j hi hj]) (fun i j e x q1 q2 => by
        have hj : j < esz := by have := lt_of_getElem? q2; rw [o3 e (List.mem_of_mem_take (List.mem_of_getElem? q1))] at this; exact this
        have hi := lt_of_getElem? q1
        rw [hl] at hi
        rw [List.getElem?_take, if_pos hi] at q1
        exact (p5 i j e (c.getD (i * esz + j) undef) x q1 q2 (by simp [hlt i j hi hj])).mono hF (fun _ _ => rfl))
    rw [hl] at hd
    exact hd

theorem CF.rep {F : Nat → Prop} (h : WOk F0 w0 E w mem clock) {c : Cell} {x : Dat} (hc : CF mem c x) {v : Value} (hv : CRep E w v c) (hF : ∀ b, E.F b → F b) (hFr : ∀ b, w0.heap.size ≤ b → b < w.heap.size → F b) : DRep F w v x := by
  unfold CF at hc
  split at hc
  · rename_i r k n
    split at hc
    · rename_i k' ety esz es hm
      obtain ⟨rfl, hn, rfl⟩ := hc
      refine arr_dat h hm hn hv hF (fun hz => ?_)
      have := (h.mem.ok r _ hm).lt (show Blk.has E r _ from hz)
      exact hFr _ this.2.1 this.1
    · exact hc.elim
  · exact (hv.dat hc).mono hF (fun _ _ => rfl)

theorem CFs.get : ∀ {cs : List Cell} {xs : List Dat}, CFs mem cs xs → cs.length = xs.length ∧ ∀ (i : Nat) c x, cs[i]? = some c → xs[i]? = some x → CF mem c x
  | [], [], _ => ⟨rfl, by simp⟩
  | c :: cs, x :: xs, h => by
    obtain ⟨h1, h2⟩ := CFs.get h.2
    refine ⟨by simp [h1], fun i s' p' hs hp => ?_⟩
    cases i with
    | zero => simp at hs hp; subst hs; subst hp; exact h.1
    | succ i => exact h2 i s' p' (by simpa using hs) (by simpa using hp)
  | [], _ :: _, h => h.elim
  | _ :: _, [], h => h.elim

theorem SF.rep {F : Nat → Prop} (h : WOk F0 w0 E w mem clock) {s : SVal} {p : PV} (hs : SF mem s p) {v : Value} (hv : SRep E w v s) (hF : ∀ b, E.F b → F b) (hFr : ∀ b, w0.heap.size ≤ b → b < w.heap.size → F b) : SRep (env0 F) w v p.s := by
  cases s with
  | c c =>
    cases p with
    | one x => cases hv with | c hv => exact .c (.d (CF.rep h hs hv hF hFr))
    | agg xs => exact hs.elim
  | agg cs =>
    cases p with
    | one x => exact hs.elim
    | agg xs =>
      cases hv with | agg _ vs hl hd =>
      obtain ⟨g1, g2⟩ := CFs.get hs
      refine .agg _ vs (by simp; omega) (fun i v x hv hx => ?_)
      rw [List.getElem?_map] at hx
      cases hy : xs[i]? with
      | none => rw [hy] at hx; cases hx
      | some y =>
        rw [hy] at hx
        simp at hx
        subst hx
        have hlt := lt_of_getElem? hv
        have hc : cs[i]? = some (cs[i]'(by omega)) := List.getElem?_eq_getElem _
        exact .d (CF.rep h (g2 i _ y hc hy) (hd i v _ hv hc) hF hFr)
  | tup xs => cases p <;> exact hs.elim
  | und => cases p <;> exact hs.elim
  | junk => cases p <;> exact hs.elim
end

/-- A deferred function that does nothing where nothing has panicked. -/
structure DeferOk (P : Program) (f : FuncId) (n : Nat) : Prop where
  fn : FnOk P f
  run : ∀ (vs : List Value) (w : World), vs.length = n → CallsD P f vs.toArray .returning w fun e u' w' => (∃ v, e = .returned v) ∧ u' = .returning ∧ w' = w

section
variable (P : Program) (T : TypeId → Option TI)

def resVal (σ : St) : ResultVar → (SVal → Prop) → Prop
  | .tmp t, V => V (σ.get t)
  | .cell a t, V => aLoad T σ t (σ.get a) V

def resAll (σ : St) : List ResultVar → List PV → Prop
  | [], [] => True
  | x :: xs, p :: ps => resVal T σ x (fun s => SF σ.mem s p) ∧ resAll σ xs ps
  | _, _ => False

def resOk (σ : St) (rs : List ResultVar) : PRes → Prop
  | .v p => (match rs with
    | [x] => resVal T σ x fun s => SF σ.mem s p
    | _ => False)
  | .tup ps => rs.length ≠ 1 ∧ resAll T σ rs ps

def defersOk : List (FuncId × List Cell) → Prop
  | [] => True
  | (f, cs) :: ds => DeferOk P f cs.length ∧ defersOk ds

def fin (rs : List ResultVar) (r : PRes) : Ex → St → Prop
  | .exit _, _ => False
  | _, σ => defersOk P σ.defers ∧ resOk T σ rs r

def idxs : List PV → Nat → List (Nat × SVal)
  | [], _ => []
  | p :: ps, k => (k, p.s) :: idxs ps (k + 1)

def st0 (n : Nat) (args : List PV) : St := { n := n, slots := idxs args 0, mem := [], clock := 0, defers := [] }
end

section
variable {P : Program} {T : TypeId → Option TI} {w : World} {E : Env}

/-- How a result is read. -/
def readRes (tmps : Array Value) : ResultVar → Sem Value
  | .tmp t => pure (tmps.getD t undef)
  | .cell b t => do loadVar t (← asAddr (tmps.getD b undef))

theorem results_eq (fn : Func) (tmps : Array Value) : results fn tmps = (do
    let vs ← fn.results.mapM (readRes tmps)
    pure (if h : vs.size = 1 then vs[0] else .tuple vs)) := by
  unfold results
  congr 1

theorem resVal_ok (hT : TypesOk P T) {F0 : Nat → Prop} {w0 : World} {σ : St} {a : Act} (h : RelE F0 w0 E σ a w) {x : ResultVar} {V : SVal → Prop} (hx : resVal T σ x V) :
    ∃ v s, (readRes a.tmps x).run P w = .ok v w ∧ SRep E w v s ∧ V s := by
  cases x with
  | tmp t => exact ⟨_, _, rfl, h.2.2.2 t, hx⟩
  | cell b t =>
    obtain ⟨v, s, h1, h2, h3⟩ := load_ok (P := P) hT h.1 (h.2.2.2 b) hx
    refine ⟨v, s, ?_, h2, h3⟩
    simp only [Instr.loadAt] at h1
    simp only [readRes]
    generalize a.tmps.getD b undef = u at h1 ⊢
    cases u with
    | pointer q =>
      cases q with
      | none => simp [Instr.sureAddr] at h1
      | some q => simpa [Instr.sureAddr, asAddr] using h1
    | _ => simp [Instr.sureAddr] at h1

theorem look_idxs : ∀ (ps : List PV) (k t : Nat), look (idxs ps k) t = if k ≤ t then (match ps[t - k]? with | some p => p.s | none => .junk) else .junk
  | [], k, t => by simp [idxs, look]
  | p :: ps, k, t => by
    simp only [idxs, look_put, look_idxs ps (k + 1) t]
    by_cases h1 : k = t
    · subst h1; simp
    · rw [if_neg h1]
      by_cases h2 : k + 1 ≤ t
      · rw [if_pos h2, if_pos (by omega), show t - k = (t - (k + 1)) + 1 by omega]
        simp
      · rw [if_neg h2, if_neg (by omega)]

theorem leaves_ok {fn : Func} {tmps : Array Value} {R : Ending → World → Prop} : ∀ (ds : List Deferred) (xs : List (FuncId × List Cell)), DefersOk E w ds xs → defersOk P xs → (∃ v, (results fn tmps).run P w = .ok v w ∧ R (.returned v) w) → Leaves P fn tmps R ds .returning w
  | [], [], _, _, h => h
  | d :: ds, (f, cs) :: xs, hd, hx, h => by
    obtain ⟨vs, rfl, h2, h3⟩ := hd.2 0 d (f, cs) rfl rfl
    refine ⟨by simp, .func f, vs.toArray, f, vs.toArray, rfl, ?_, ?_⟩
    · simp only [invoke, Array.empty_append]
      exact callFunc_run hx.1.fn _
    · refine (hx.1.run vs w h2).mono fun e u' w' he => ?_
      obtain ⟨⟨v, hv⟩, hu, hw⟩ := he
      subst hv
      subst hu
      rw [hw]
      exact leaves_ok ds xs ⟨by have := hd.1; simpa using this, fun i d x q1 q2 => hd.2 (i + 1) d x (by simpa using q1) (by simpa using q2)⟩ hx.2 h
  | [], _ :: _, hd, _, _ => by have := hd.1; simp at this
  | _ :: _, [], hd, _, _ => by have := hd.1; simp at this

theorem resAll_ok (hT : TypesOk P T) {F0 F : Nat → Prop} {w0 : World} {σ : St} {a : Act} (h : RelE F0 w0 E σ a w) (hF : ∀ b, E.F b → F b) (hFr : ∀ b, w0.heap.size ≤ b → b < w.heap.size → F b) :
    ∀ (rs : List ResultVar) (ps : List PV), resAll T σ rs ps → ∃ vs : List Value, (rs.mapM (readRes a.tmps)).run P w = .ok vs w ∧
      vs.length = ps.length ∧ rs.length = ps.length ∧ ∀ (i : Nat) v p, vs[i]? = some v → ps[i]? = some p → SRep (env0 F) w v p.s
  | [], [], _ => ⟨[], by simp, rfl, rfl, by simp⟩
  | x :: rs, p :: ps, hr => by
    obtain ⟨v, s, h1, h2, h3⟩ := resVal_ok hT h hr.1
    obtain ⟨vs, q1, q2, q3, q4⟩ := resAll_ok hT h hF hFr rs ps hr.2
    refine ⟨v :: vs, ?_, by simp [q2], by simp [q3], fun i u y hu hy => ?_⟩
    · simp only [List.mapM_cons, Sem.run_bind]
      rw [h1]
      simp only [Result.andThen_ok]
      rw [q1]
      rfl
    · cases i with
      | zero => simp at hu hy; subst hu; subst hy; exact SF.rep h.1 h3 h2 hF hFr
      | succ i => exact q4 i u y (by simpa using hu) (by simpa using hy)
  | [], _ :: _, hr => hr.elim
  | _ :: _, [], hr => hr.elim

/-- A function that only makes memory of its own. -/
theorem pcall (hT : TypesOk P T) {f : FuncId} {fn : Func} {c : Code} {args : List PV} {r : PRes} (hf : P.funcs[f]? = some fn) (hb : fn.body = some c) (hnm : (fn.name == "runtime.NumGoroutine") = false)
    (n : Nat) (rs : List ResultVar) (hnt : fn.ntmps = n) (hrs : fn.results.toList = rs) (hn : decide (args.length ≤ n) = true) (h : ∀ B, ARun P B c (st0 n args) (kont P B (fin P T rs r) [])) : PCall P f args r := by
  subst hnt
  subst hrs
  have hn : args.length ≤ fn.ntmps := by simpa using hn
  refine ⟨⟨fn, hf, hnm, by simp [hb]⟩, fun F w vs hF hl hv => ?_⟩
  refine calls_of_wp_defers hf hb ?_
  let B : Base := ⟨F, w, env0 F, w⟩
  have hrel : Rel B (st0 fn.ntmps args) { tmps := vs.toArray ++ Array.replicate (fn.ntmps - vs.toArray.size) undef, defers := [] } w := by
    refine ⟨env0 F, ⟨⟨Below.refl _ _, fun k hk => hk, fun k hk => ⟨hF k hk, .inl hk⟩, ⟨fun _ => Nat.le_refl _, fun s x hx => by simp [st0] at hx, fun s s' x x' hx => by simp [st0] at hx⟩⟩, ?_, ⟨rfl, by simp⟩, fun t => ?_⟩, EnvLe.refl _ _⟩
    · simp [st0]; omega
    · simp only [St.get, st0, look_idxs, Nat.zero_le, if_true, Nat.sub_zero]
      cases ha : args[t]? with
      | none => exact .junk _
      | some p =>
        have hlt := lt_of_getElem? ha
        have hvt : vs[t]? = some (vs[t]'(by omega)) := List.getElem?_eq_getElem _
        have : (vs.toArray ++ Array.replicate (fn.ntmps - vs.toArray.size) undef).getD t undef = vs[t]'(by omega) := by
          simp [Array.getElem?_append, show t < vs.length by omega]
        rw [this]
        exact hv t _ p hvt ha
  refine Code.wp_mono (fun e a' w' hq => ?_) (h B _ w hrel)
  obtain ⟨x, σ', ⟨E, hr, _⟩, _, hk, hfit⟩ := hq
  have key : defersOk P σ'.defers ∧ resOk T σ' fn.results.toList r → Leaves P fn a'.tmps (fun e w' => ∃ v, e = .returned v ∧ Below w.heap.size w w' ∧ SRep (env0 fun k => (F k ∨ w.heap.size ≤ k) ∧ k < w'.heap.size) w' v r.s) a'.defers .returning w' := by
    rintro ⟨k1, k2⟩
    have hF' : ∀ b, E.F b → (F b ∨ w.heap.size ≤ b) ∧ b < w'.heap.size := fun b hb => ⟨(hr.1.F b hb).2, (hr.1.F b hb).1⟩
    have hFr' : ∀ b, w.heap.size ≤ b → b < w'.heap.size → (F b ∨ w.heap.size ≤ b) ∧ b < w'.heap.size := fun b h1 h2 => ⟨.inr h1, h2⟩
    refine leaves_ok _ _ hr.2.2.1 k1 ?_
    cases r with
    | v p =>
      simp only [resOk] at k2
      split at k2
      · rename_i rv hrv
        obtain ⟨v, s, q1, q2, q3⟩ := resVal_ok hT hr k2
        refine ⟨v, ?_, v, rfl, hr.1.below, SF.rep hr.1 q3 q2 hF' hFr'⟩
        have e1 : fn.results = #[rv] := by apply Array.ext'; simpa using hrv
        rw [results_eq, e1, Array.mapM_eq_mapM_toList]
        simp only [List.mapM_cons, List.mapM_nil, Sem.run_bind, Sem.run_map]
        rw [q1]
        simp
      · exact k2.elim
    | tup ps =>
      obtain ⟨vs', q1, q2, q3, q4⟩ := resAll_ok hT hr hF' hFr' _ _ k2.2
      refine ⟨.tuple vs'.toArray, ?_, _, rfl, hr.1.below, .tup _ vs' (by simpa using q2) (fun i v x hv hx => ?_)⟩
      · rw [results_eq, Array.mapM_eq_mapM_toList]
        simp only [Sem.run_bind, Sem.run_map]
        rw [q1]
        have hne : ¬ vs'.toArray.size = 1 := by simp; have := k2.1; omega
        simp only [Result.andThen_ok, Sem.run_pure, hne, dite_false]
      · rw [List.getElem?_map] at hx
        cases hy : ps[i]? with
        | none => rw [hy] at hx; cases hx
        | some y =>
          rw [hy] at hx
          simp at hx
          subst hx
          exact q4 i v y hv hy
  cases e with
  | normal => cases x with
    | norm => exact key hk
    | exit i => exact hfit.elim
    | ret => exact hfit.elim
  | ret => cases x with
    | ret => exact key hk
    | exit i => exact hfit.elim
    | norm => exact hfit.elim
  | exit i => cases x with
    | exit j => exact hk.elim
    | norm => exact hfit.elim
    | ret => exact hfit.elim
  | goto l => cases x <;> exact hfit.elim
  | panic c => cases x <;> exact hfit.elim
  | outgrown => cases x <;> exact hfit.elim

theorem k_done {B : Base} {rs : List ResultVar} {r : PRes} {σ : St} (h : defersOk P σ.defers ∧ resOk T σ rs r) : kont P B (fin P T rs r) [] .ret σ := h
theorem k_end {B : Base} {rs : List ResultVar} {r : PRes} {σ : St} (h : defersOk P σ.defers ∧ resOk T σ rs r) : kont P B (fin P T rs r) [] .norm σ := h

theorem pureM {F0 : Nat → Prop} {w0 : World} {f : FuncId} {args : List SVal} {pargs : List PV} {r : PRes} (hp : PCall P f pargs r) (ha : SDs args pargs) :
    ∀ mem clock, MCall P F0 w0 f args mem clock fun r' m c => r' = r.s ∧ m = mem ∧ c = clock := fun _ _ => MCall.ofPure hp ha ⟨rfl, rfl, rfl⟩
end
end Go.Abs
