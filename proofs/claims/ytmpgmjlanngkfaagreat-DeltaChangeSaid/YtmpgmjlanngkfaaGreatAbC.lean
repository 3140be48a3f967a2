/-
  One operation, and a list of operations in the order of the text.
-/
import Derived.Test.YtmpgmjlanngkfaaGreatAbB
import Derived.KernelRfl
section
namespace Go.Abs
open Go.RowKit
variable {F : Nat → Prop} {c : Code} {f : FuncId} {id : Nat} {t : TypeId} {v : Value} {x : SVal}
section
variable {P : Program} {T : TypeId → Option TI} {F0 : Nat → Prop} {w0 w : World} {E : Env} {σ : St} {a : Act} {B : Base}
theorem RelE.putOE {E' : Env} {w' : World} {f' : List Blk} {iY : Nat} (h : RelE F0 w0 E σ a w) (l : EnvLe E w E' w') (hw : WOk F0 w0 E' w' f' iY) {dst : Option Tmp} (hd : ∀ d, dst = some d → d < σ.n) (hv : SRep E' w' v x) :
   RelE F0 w0 E' ({ σ with mem := f', clock := iY }.putO dst x) (a.put dst v) w' := by
 cases dst with
 | none => exact h.keepE l hw
 | some d => exact h.putE l hw (hd d rfl) hv
theorem RelE.putO (h : RelE F0 w0 E σ a w) {dst : Option Tmp} (hd : ∀ d, dst = some d → d < σ.n) (hv : SRep E w v x) : RelE F0 w0 E (σ.putO dst x) (a.put dst v) w :=
 h.putOE (f' := σ.mem) (iY := σ.clock) (EnvLe.refl E w) h.1 hd hv
theorem FR (hf : FnOk P f) (args : Array Value) : (callFunc f args).run P w = .ok (.enter f args) w := by
 obtain ⟨fn, h1, h2, h3⟩ := hf.ex
 simp only [callFunc, Sem.run_bind, run_program, Result.andThen_ok, h1, h2, h3, Bool.false_eq_true, if_false, Sem.run_pure]
theorem OK (hT : AL P T) {o : Oper} {K : St → Prop} (h : AV P T B.F0 B.w0 o σ K) (hr : RelE B.F0 B.w0 E σ a w) (hB : EnvLe B.E B.w E w) (hd : ∀ d, o.dst = some d → d < σ.n)
  {next : Act → World → Prop} {Q : Exit → Act → World → Prop} (hn : ∀ σ' a' w', Rel B σ' a' w' → σ'.n = σ.n → K σ' → next a' w') : o.wp P a w next Q := by
 have hρ := hr.ev
 have oV : ∀ (d : Option Tmp) (x : SVal) (τ : St), (τ.putO d x).n = τ.n := fun d x τ => by cases d <;> rfl
 have jJ : ∀ {v : Value} {y : SVal}, (execOp a.eval o).run P w = .ok (.value v) w → SRep E w v y → K (σ.putO o.dst y) → o.wp P a w next Q := by
  intro v y h1 h2 h3
  unfold Oper.wp
  rw [h1]
  exact hn _ _ _ ⟨E, hr.putO hd h2, hB⟩ (oV _ _ _) h3
 have ni : ∀ {v : Value} {y : SVal} {w' : World} {E' : Env} {f' : List Blk} {iY : Nat}, (execOp a.eval o).run P w = .ok (.value v) w' → EnvLe E w E' w' → WOk B.F0 B.w0 E' w' f' iY → SRep E' w' v y →
   K ({ σ with mem := f', clock := iY }.putO o.dst y) → o.wp P a w next Q := by
  intro v y w' E' f' iY h1 hle hw h2 h3
  unfold Oper.wp
  rw [h1]
  exact hn _ _ _ ⟨E', hr.putOE hle hw hd h2, hB.trans hle⟩ (oV _ _ _) h3
 unfold AV at h
 split at h
 ·rename_i x ho
  exact jJ (by simp [execOp, ho]) (hρ x) h
 ·rename_i x ho
  exact jJ (by simp [execOp, ho]) (hρ x) h
 ·rename_i c x y ho
  split at h
  ·rename_i t hc
   have sZ := hρ c
   rw [hc] at sZ
   have sZ := sZ.lit_inv
   cases t with
   | true => exact jJ (by simp [execOp, ho, sZ, asBool]) (hρ x) (h.1 rfl)
   | false => exact jJ (by simp [execOp, ho, sZ, asBool]) (hρ y) (h.2 rfl)
  ·exact h.elim
 ·rename_i t ho
  split at h
  ·rename_i i hi
   have ht := hT t i hi
   obtain ⟨fi, z, k6, kr, jb, kG, kq⟩ := ht.info
   have jM := hr.1.allocBox i.zero.toArray t (i.zero.map B0) (by simp) (EH ht)
   refine ni (v := .pointer (some ⟨w.heap.size, 0, none⟩)) ?_ jM.2 jM.1 (.c (.bp σ.mem.length (σ.clock + 1) 0 _ rfl (by simp [Env.upd]) (fun _ => by simp [Env.upd]))) h
   simp [execOp, ho, Instr.alloc, zeroValue, typeInfo, k6, kG, newVar, newRow, kq]
  ·exact h.elim
 ·rename_i t x ho
  split at h
  ·rename_i cs jF
   obtain ⟨lh, me, mo⟩ := (hρ x).cellsOf jF
   have jM := hr.1.allocBox (a.eval x).cells t cs lh mo
   refine ni (v := .pointer (some ⟨w.heap.size, 0, none⟩)) ?_ jM.2 jM.1 (.c (.bp σ.mem.length (σ.clock + 1) 0 _ rfl (by simp [Env.upd]) (fun _ => by simp [Env.upd]))) h
   simp [execOp, ho, Instr.box, newVar, newRow]
  ·exact h.elim
 ·rename_i t x ho
  obtain ⟨v, s, h1, h2, h3⟩ := Ns hT hr.1 (hρ x) h
  exact jJ (by simp [execOp, ho, h1]) h2 h3
 ·rename_i t x y ho
  obtain ⟨w', f', h1, h2, h3, h4⟩ := OI hT hr.1 (hρ x) (hρ y) h
  unfold Oper.wp
  have j7 : (execOp a.eval o).run P w = .ok .skip w' := by simp [execOp, ho, h1]
  rw [j7]
  exact hn _ _ _ ⟨E, hr.putOE h2 h3 hd (.junk _), hB.trans h2⟩ (oV _ _ _) h4
 ·rename_i s x f ho
  obtain ⟨v, y, h1, h2, h3⟩ := Vd (P := P) hT hr.1 (hρ x) h
  exact jJ (by simp [execOp, ho, h1]) h2 h3
 ·rename_i t x i ho
  obtain ⟨v, y, h1, h2, h3⟩ := Ve (P := P) hT hr.1 (hρ x) (hρ i) h
  exact jJ (by simp [execOp, ho, h1]) h2 h3
 ·rename_i t x lo hi mx ho
  obtain ⟨mG, h⟩ := h
  have hm : mx = none := by simpa using mG
  subst hm
  obtain ⟨v, y, h1, h2, h3⟩ := Vf (P := P) hT hr.1 (hρ x) hρ h
  exact jJ (by simp [execOp, ho, h1]) h2 h3
 ·rename_i op t x y _ ho
  obtain ⟨v, s, h1, h2, h3⟩ := bc (P := P) hT x y (hρ x) (hρ y) h
  refine jJ ?_ h2 h3
  simp only [execOp, ho]
  rw [Sem.run_bind, h1]
  rfl
 ·rename_i op t x ho
  obtain ⟨v, s, h1, h2, h3⟩ := ew (P := P) (hρ x) h
  exact jJ (by simp [execOp, ho, h1]) h2 h3
 ·rename_i s d x ho
  obtain ⟨v, y, h1, h2, h3⟩ := X2 (P := P) hT (hρ x) h
  exact jJ (by simp [execOp, ho, h1]) h2 h3
 ·rename_i t parts ho
  obtain ⟨v, y, h1, h2, h3⟩ := Vg (P := P) (parts := parts) hT hρ h
  exact jJ (by simp [execOp, ho, h1]) h2 h3
 ·rename_i t len parts ho
  obtain ⟨v, w', E', y, h1, h2, h3, h4, h5⟩ := HM (P := P) (parts := parts) hT hr.1 hρ h
  exact ni (by simp [execOp, ho, h1]) h2 h3 h4 h5
 ·rename_i t l c ho
  obtain ⟨v', w', E', f', iY, x, h1, h2, h3, h4, h5⟩ := X0 (P := P) hT hr.1 (hρ l) (hρ c) h
  exact ni (by simp [execOp, ho, h1]) h2 h3 h4 h5
 ·rename_i fn first captured ho
  obtain ⟨v, y, h1, h2, h3⟩ := X3 (P := P) hρ h
  exact jJ (by simp [execOp, ho, h1]) h2 h3
 ·rename_i x i ho
  split at h
  ·rename_i xs sQ
   split at h
   · rename_i s hs
     have hx := hρ x
     rw [sQ] at hx
     generalize hv : a.eval x = v at hx
     cases hx with | tup _ vs hl mH =>
     have i7 := lt_of_getElem? hs
     have nF : vs[i]? = some (vs[i]'(by omega)) := Bo _
     exact jJ (by simp [execOp, ho, hv, Instr.extract, nF]) (mH i _ s nF hs) h
   · exact h.elim
  ·exact h.elim
 ·rename_i c ho
  unfold DQ at h
  split at h
  ·rename_i f lW
   split at h
   · rename_i g js hg
     obtain ⟨vs, jN, jL, uR⟩ := Ky (hρ f) hg
     have jd := h.2 E w (c.args.toList.map a.eval ++ vs) hr.1 (by simp [jL]) (fun i v x hv hx => by
      rw [aU] at hv hx
      simp only [BR] at hv hx
      split at hv
      · rename_i hi
        rw [if_pos hi] at hx
        rw [BU] at hv hx
        cases hq : c.args.toList[i]? with
        | none => rw [hq] at hv; cases hv
        | some z =>
          rw [hq] at hv hx
          simp at hv hx
          subst hv; subst hx
          exact hρ z
      · rename_i hi
        rw [if_neg hi, BU] at hx
        cases hq : js[i - c.args.toList.length]? with
        | none => rw [hq] at hx; cases hx
        | some z =>
          rw [hq] at hx
          simp at hx
          subst hx
          exact .c (uR _ v z hv hq))
     unfold Oper.wp
     have j7 : (execOp a.eval o).run P w = .ok (.enter g (c.args.toList.map a.eval ++ vs).toArray) w := by
      have e : c.args.map a.eval ++ vs.toArray = (c.args.toList.map a.eval ++ vs).toArray := by apply Q3; simp
      simp only [execOp, ho, Sem.run_bind, resolve, lW, jN, Deferred.ofValue, Sem.run_pure, Result.andThen_ok, invoke, gm, e, FR h.1]
     rw [j7]
     refine Calls.mono jd fun e w' he => ?_
     obtain ⟨v, E', r, f', iY, rfl, h1, h2, h3, h4⟩ := he
     exact hn _ _ _ ⟨E', hr.putOE h1 h2 hd h3, hB.trans h1⟩ (oV _ _ _) h4
   · exact h.elim
  ·rename_i lW
   split at h
   · rename_i x t hx ht
     obtain ⟨v, y, h1, h2, h3⟩ := ba (P := P) (ty := o.type) hT hr.1 (hρ x) h
     have ea : c.args = #[x] := by apply Q3; simpa using hx
     have et : c.argTypes = #[t] := by apply Q3; simpa using ht
     refine jJ ?_ h2 h3
     simp [execOp, ho, resolve, lW, ea, et, invoke, builtin, h1]
   · exact h.elim
  ·rename_i lW
   split at h
   · rename_i s y t t' hx ht
     obtain ⟨rfl, h⟩ := h
     obtain ⟨v', w', E', f', iY, x, h1, h2, h3, h4, h5⟩ := Mf (P := P) (ty := o.type) hT hr.1 (hρ s) (hρ y) h
     have ea : c.args = #[s, y] := by apply Q3; simpa using hx
     have et : c.argTypes = #[t', t'] := by apply Q3; simpa using ht
     refine ni ?_ h2 h3 h4 h5
     simp [execOp, ho, resolve, lW, ea, et, invoke, builtin, h1]
   · exact h.elim
  ·rename_i lW
   split at h
   · rename_i x y hx
     split at h
     ·rename_i k p k' q hp hq
      obtain ⟨rfl, h⟩ := h
      have e1 := hρ x
      have e2 := hρ y
      rw [hp] at e1
      rw [hq] at e2
      have e1 := e1.lit_inv
      have e2 := e2.lit_inv
      have ea : c.args = #[x, y] := by apply Q3; simpa using hx
      refine jJ ?_ (.c (.d (.lit _ rfl))) h
      simp [execOp, ho, resolve, lW, ea, invoke, builtin, Builtin.min_, Builtin.min2, e1, e2]
     ·exact h.elim
   · exact h.elim
  ·rename_i lW
   split at h
   · rename_i x y hx
     split at h
     ·rename_i k p k' q hp hq
      obtain ⟨rfl, h⟩ := h
      have e1 := hρ x
      have e2 := hρ y
      rw [hp] at e1
      rw [hq] at e2
      have e1 := e1.lit_inv
      have e2 := e2.lit_inv
      have ea : c.args = #[x, y] := by apply Q3; simpa using hx
      refine jJ ?_ (.c (.d (.lit _ rfl))) h
      simp [execOp, ho, resolve, lW, ea, invoke, builtin, Builtin.max_, Builtin.max2, e1, e2]
     ·exact h.elim
   · exact h.elim
  ·exact h.elim
 ·rename_i c ho
  split at h
  ·rename_i f lW td
   split at h
   · rename_i g js hg
     obtain ⟨vs, jN, jL, uR⟩ := Ky (hρ f) hg
     have ea : c.args = #[] := by apply Q3; simpa using td
     unfold Oper.wp
     have j7 : (execOp a.eval o).run P w = .ok (.defer { target := .fn (.func g) vs.toArray, args := #[] }) w := by
      simp [execOp, ho, resolve, lW, jN, Deferred.ofValue, ea]
     rw [j7]
     refine hn ({ σ with defers := (g, js) :: σ.defers }.putO o.dst .junk) _ _ ⟨E, ?_, hB⟩ (oV _ _ _) h
     have ly : RelE B.F0 B.w0 E { σ with defers := (g, js) :: σ.defers } { a with defers := { target := .fn (.func g) vs.toArray, args := #[] } :: a.defers } w := by
      refine ⟨hr.1, hr.2.1, ⟨by simp [hr.2.2.1.1], fun i d x mH hx => ?_⟩, hr.2.2.2⟩
      cases i with
      | zero =>
        simp at mH hx
        subst mH; subst hx
        exact ⟨vs, rfl, jL, uR⟩
      | succ i => exact hr.2.2.1.2 i d x (by simpa using mH) (by simpa using hx)
     exact ly.putO hd (.junk _)
   · exact h.elim
  ·exact h.elim
 ·exact h.elim
end
section
variable (P : Program) (T : TypeId → Option TI) (F0 : Nat → Prop) (w0 : World)
def Vh (ops : List Oper) : List Oper → St → (St → Prop) → Prop
 | [], σ, K => K σ
 | o :: rest, σ, K =>
   match o.guard with
   | none => AV P T F0 w0 o σ fun σ' => Vh ops rest σ' K
   | some (j, want) => (match (ops[j]?).bind (·.dst) with
     | some d => (match σ.get d with
       | .c (.d (.lit (.bool b))) => Me b want (AV P T F0 w0 o (σ.put d (DP want)) fun σ' => Vh ops rest σ' K) (Vh ops rest ((σ.put d (DP !want)).putO o.dst .und) K)
       | .und => Vh ops rest (σ.putO o.dst .und) K
       | _ => False)
     | none => False)
def Q6 (n : Nat) (ops : List Oper) : Bool := ops.all fun o => match o.dst with | some d => decide (d < n) | none => true
end
section
variable {P : Program} {T : TypeId → Option TI} {B : Base} {w : World} {E : Env} {σ : St} {a : Act}
theorem Kz {n : Nat} {ops : List Oper} (h : Q6 n ops = true) {o : Oper} (ho : o ∈ ops) : ∀ d, o.dst = some d → d < n := by
 intro d hd
 have := Eg.1 h o ho
 simpa [hd] using this
theorem KA {ops : List Oper} {j d : Nat} (hj : (ops[j]?).bind (·.dst) = some d) (tmps : Array Value) (hd : d < tmps.size) :
  yielded ops.toArray tmps j = match tmps.getD d undef with | .bool b => some b | _ => none := by
 unfold yielded
 have e : tmps.getD d undef = tmps[d] := by simp [hd]
 rw [e]
 simp only [XM, hj, Option.bind_some, LZ hd]
 cases tmps[d] <;> rfl
end
inductive Fr where
 | seq (c : Code)
 | block (id : Nat)
inductive Ex where
 | norm
 | exit (id : Nat)
 | ret
def Ex.fits : Exit → Ex → Prop
 | .normal, .norm => True
 | .exit i, .exit j => i = j
 | .ret, .ret => True
 | _, _ => False
section
variable (P : Program) (B : Base)
def ARun (c : Code) (σ : St) (Q : Ex → St → Prop) : Prop :=
 ∀ a w, Rel B σ a w → c.wp P (fun e a' w' => ∃ x σ', Rel B σ' a' w' ∧ σ'.n = σ.n ∧ Q x σ' ∧ Ex.fits e x) a w
def Av (R : Ex → St → Prop) : List Fr → Ex → St → Prop
 | [], e, σ => R e σ
 | .seq c :: ks, .norm, σ => ARun P B c σ (Av R ks)
 | .seq _ :: ks, .exit i, σ => Av R ks (.exit i) σ
 | .seq _ :: ks, .ret, σ => Av R ks .ret σ
 | .block _ :: ks, .norm, σ => Av R ks .norm σ
 | .block id :: ks, .exit i, σ => if i = id then Av R ks .norm σ else Av R ks (.exit i) σ
 | .block _ :: ks, .ret, σ => Av R ks .ret σ
end
section
variable {P : Program} {T : TypeId → Option TI} {B : Base} {σ : St} {Q : Ex → St → Prop} {R : Ex → St → Prop} {ks : List Fr}
theorem ARun.mono {Q' : Ex → St → Prop} (h : ARun P B c σ Q) (hq : ∀ e τ, Q e τ → Q' e τ) : ARun P B c σ Q' := fun a w hr =>
 Code.wp_mono (fun _ _ _ ⟨x, σ', h1, h2, h3, h4⟩ => ⟨x, σ', h1, h2, hq _ _ h3, h4⟩) (h a w hr)
theorem Vi (h : Av P B R ks .norm σ) : ARun P B .skip σ (Av P B R ks) := fun _ _ hr => wp_skip ⟨.norm, σ, hr, rfl, h, trivial⟩
theorem Vj (h : Av P B R ks (.exit id) σ) : ARun P B (.exit id) σ (Av P B R ks) := fun _ _ hr => wp_exit ⟨.exit id, σ, hr, rfl, h, rfl⟩
theorem ZJ (h : Av P B R ks .ret σ) : ARun P B .ret σ (Av P B R ks) := fun _ _ hr => wp_ret ⟨.ret, σ, hr, rfl, h, trivial⟩
theorem ZK {x y : Code} (h : ARun P B x σ (Av P B R (.seq y :: ks))) : ARun P B (.seq x y) σ (Av P B R ks) := by
 intro a w hr
 refine wp_seq (Code.wp_mono (fun e a' w' hq => ?_) (h a w hr))
 obtain ⟨x', σ', h1, h2, h3, h4⟩ := hq
 cases e with
 | normal =>
   cases x' with
   | norm =>
     refine Code.wp_mono (fun e a w hq => ?_) (h3 a' w' h1)
     obtain ⟨x2, σ2, q1, q2, q3, q4⟩ := hq
     exact ⟨x2, σ2, q1, q2.trans h2, q3, q4⟩
   | exit i => exact h4.elim
   | ret => exact h4.elim
 | exit i =>
   cases x' with
   | exit j => exact ⟨.exit j, σ', h1, h2, h3, h4⟩
   | norm => exact h4.elim
   | ret => exact h4.elim
 | ret =>
   cases x' with
   | ret => exact ⟨.ret, σ', h1, h2, h3, h4⟩
   | norm => exact h4.elim
   | exit i => exact h4.elim
 | goto l => cases x' <;> exact h4.elim
 | panic c => cases x' <;> exact h4.elim
 | outgrown => cases x' <;> exact h4.elim
theorem Se (h : ARun P B c σ (Av P B R (.block id :: ks))) : ARun P B (.block id c) σ (Av P B R ks) := by
 intro a w hr
 refine wp_block (Code.wp_mono (fun e a' w' hq => ?_) (h a w hr))
 obtain ⟨x', σ', h1, h2, h3, h4⟩ := hq
 cases e with
 | normal =>
   cases x' with
   | norm => exact ⟨.norm, σ', h1, h2, h3, h4⟩
   | exit i => exact h4.elim
   | ret => exact h4.elim
 | exit i =>
   cases x' with
   | exit j =>
     have jY : i = j := h4
     subst jY
     simp only [Av] at h3
     simp only [Exit.inBlock]
     by_cases hi : i = id
     ·rw [if_pos hi] at h3 ⊢
      exact ⟨.norm, σ', h1, h2, h3, trivial⟩
     ·rw [if_neg hi] at h3 ⊢
      exact ⟨.exit i, σ', h1, h2, h3, rfl⟩
   | norm => exact h4.elim
   | ret => exact h4.elim
 | ret =>
   cases x' with
   | ret => exact ⟨.ret, σ', h1, h2, h3, h4⟩
   | norm => exact h4.elim
   | exit i => exact h4.elim
 | goto l => cases x' <;> exact h4.elim
 | panic c => cases x' <;> exact h4.elim
 | outgrown => cases x' <;> exact h4.elim
theorem ZL (h : ARun P B c σ (Av P B R ks)) : Av P B R (.seq c :: ks) .norm σ := h
theorem Sf (h : Av P B R ks .norm σ) : Av P B R (.block id :: ks) .norm σ := h
theorem ZM {i : Nat} (h : Av P B R ks (.exit i) σ) : Av P B R (.seq c :: ks) (.exit i) σ := h
theorem Vk (h : Av P B R ks .norm σ) : Av P B R (.block id :: ks) (.exit id) σ := by
 simp only [Av, if_true]; exact h
theorem ZN (h : Av P B R ks .ret σ) : Av P B R (.seq c :: ks) .ret σ := h
theorem Sg (h : Av P B R ks .ret σ) : Av P B R (.block id :: ks) .ret σ := h
theorem bf {c : Operand} {x y : Code} {b : Bool} (hc : σ.ev c = DP b) (h1 : b = true → ARun P B x σ Q) (h2 : b = false → ARun P B y σ Q) : ARun P B (.cond c x y) σ Q := by
 intro a w hr
 have u4 := hr
 obtain ⟨E, hr, _⟩ := hr
 have hv := hr.ev c
 rw [hc] at hv
 have hv := hv.lit_inv
 exact wp_cond_split hv (fun hb => h1 hb a w u4) (fun hb => h2 hb a w u4)
def VLe (x y : SVal) : Prop := x = y ∨ y = .junk ∨ (x = .c .emp ∧ y = .c (.d (.sl [])))
def Ai (σ : St) : List (Nat × SVal) → Prop
 | [] => True
 | (t, v) :: l => VLe (σ.get t) v ∧ Ai σ l
def As (mem : List Blk) (m : List Blk) : Prop := ∀ (s : Nat) x, m[s]? = some x → x.live → mem[s]? = some x
structure Weak (σ τ : St) : Prop where
 n : τ.n = σ.n
 slots : Ai σ τ.slots
 mem : As σ.mem τ.mem
 clock : σ.clock ≤ τ.clock
 defers : τ.defers = σ.defers
theorem VLe.rep {E : Env} {w : World} {y : SVal} (h : VLe x y) (hv : SRep E w v x) : SRep E w v y := by
 rcases h with rfl | rfl | ⟨rfl, rfl⟩
 ·exact hv
 ·exact .junk _
 ·cases hv with | c hv => cases hv with | emp a => exact .c (.d (.emp _ _))
theorem OL {τ : List (Nat × SVal)} (h : Ai σ τ) (t : Nat) : VLe (σ.get t) (look τ t) := by
 induction τ with
 | nil => exact .inr (.inl rfl)
 | cons p l ih =>
   obtain ⟨s, v⟩ := p
   rw [BB]
   by_cases hs : s = t
   ·subst hs; rw [if_pos rfl]; exact h.1
   ·rw [if_neg hs]; exact ih h.2
theorem Weak.rel {τ : St} (h : Weak σ τ) {a : Act} {w : World} (hr : Rel B σ a w) : Rel B τ a w := by
 obtain ⟨E, ⟨h1, h2, h3, h4⟩, hB⟩ := hr
 refine ⟨E, ⟨?_, by rw [h.n]; exact h2, by rw [h.defers]; exact h3, fun t => (OL h.slots t).rep (h4 t)⟩, hB⟩
 have := h1.drop h.mem
 exact ⟨this.below, this.base, this.F, ⟨fun r => LX (this.mem.clock r) h.clock, this.mem.ok, this.mem.apart⟩, this.N⟩
theorem Nu (p : Nat → Prop) (h : ∃ n, p n) : ∃ n, p n ∧ ∀ k, p k → n ≤ k := by
 obtain ⟨n, hn⟩ := h
 induction n using Nat.strongRecOn with
 | _ n ih =>
   by_cases hq : ∃ k, k < n ∧ p k
   ·obtain ⟨k, hk, hp⟩ := hq
    exact ih k hk hp
   ·exact ⟨n, hn, fun k hk => ed fun hl => hq ⟨k, hl, hk⟩⟩
theorem bg {X : Type} (I : X → St) (m : X → Nat) (x0 : X) (h0 : Weak σ (I x0)) 
  (h : ∀ x, ARun P B c (I x) (fun e τ => match e with | .norm => ∃ y, Weak τ (I y) ∧ m y < m x | .exit i => Av P B R ks (.exit i) τ | .ret => Av P B R ks .ret τ)) :
  ARun P B (.loop c) σ (Av P B R ks) := by
 intro a w hr
 refine wp_loop (fun a w => ∃ x, Rel B (I x) a w ∧ a.tmps.size = σ.n) (fun a w => Classical.epsilon fun n => (∃ x, Rel B (I x) a w ∧ a.tmps.size = σ.n ∧ n = m x) ∧ ∀ k, (∃ x, Rel B (I x) a w ∧ a.tmps.size = σ.n ∧ k = m x) → n ≤ k) ?_ ?_
 ·exact ⟨x0, h0.rel hr, by obtain ⟨E, hr, _⟩ := hr; exact hr.2.1⟩
 ·intro a w hx
  have spec := fun (a : Act) (w : World) (hx : ∃ x, Rel B (I x) a w ∧ a.tmps.size = σ.n) =>
    Classical.epsilon_spec (Nu (fun n => ∃ x, Rel B (I x) a w ∧ a.tmps.size = σ.n ∧ n = m x) (by obtain ⟨x, h1, h2⟩ := hx; exact ⟨m x, x, h1, h2, rfl⟩))
  obtain ⟨⟨x, wO, j3, hm⟩, _⟩ := spec a w hx
  have hIn : (I x).n = σ.n := by obtain ⟨E, hr, _⟩ := wO; exact hr.2.1.symm.trans j3
  refine Code.wp_mono (fun e a' w' hq => ?_) (h x a w wO)
  obtain ⟨x', σ', h1, h2, h3, h4⟩ := hq
  have lX : σ'.n = σ.n := h2.trans hIn
  cases e with
  | normal =>
    cases x' with
    | norm =>
      obtain ⟨y, hy, i7⟩ := h3
      have uS := hy.rel h1
      have kO : a'.tmps.size = σ.n := by obtain ⟨E, hr, _⟩ := h1; exact hr.2.1.trans lX
      refine ⟨⟨y, uS, kO⟩, ?_⟩
      have := (spec a' w' ⟨y, uS, kO⟩).2 (m y) ⟨y, uS, kO, rfl⟩
      omega
    | exit i => exact h4.elim
    | ret => exact h4.elim
  | exit i =>
    cases x' with
    | exit j => exact ⟨.exit j, σ', h1, lX, h3, h4⟩
    | norm => exact h4.elim
    | ret => exact h4.elim
  | ret =>
    cases x' with
    | ret => exact ⟨.ret, σ', h1, lX, h3, h4⟩
    | norm => exact h4.elim
    | exit i => exact h4.elim
  | goto l => cases x' <;> exact h4.elim
  | panic c => cases x' <;> exact h4.elim
  | outgrown => cases x' <;> exact h4.elim
def DT (P : Program) (B : Base) (R : Ex → St → Prop) (ks : List Fr) (G : St → Prop) : Ex → St → Prop
 | .norm, τ => G τ
 | .exit i, τ => Av P B R ks (.exit i) τ
 | .ret, τ => Av P B R ks .ret τ
theorem X4 {X : Type} (I : X → St) (m : X → Nat) (x0 : X) (h0 : Weak σ (I x0)) 
  (h : ∀ x, ARun P B c (I x) (Av P B (DT P B R ks fun τ => ∃ y, Weak τ (I y) ∧ m y < m x) [])) : ARun P B (.loop c) σ (Av P B R ks) :=
 bg I m x0 h0 fun x => (h x).mono fun e τ q => by cases e <;> exact q
end
inductive PRes where
 | v (x : PV)
 | tup (xs : List PV)
def PV.s : PV → SVal
 | .one x => .c (.d x)
 | .agg xs => .agg (xs.map .d)
def PRes.s : PRes → SVal
 | .v x => x.s
 | .tup xs => .tup (xs.map PV.s)
def It (F : Nat → Prop) : Env := { F := F, blk := fun _ => 0, cap := fun _ => 0, ver := fun _ => 0 }
section
variable {w w' : World} {E E' : Env}
theorem CRep.d_of {x : Dat} (h : CRep E w v (.d x)) : DRep E.F w v x := by cases h; assumption
theorem PV.rep {p : PV} (h : SRep E w v p.s) (hF : ∀ {u : Value} {x : Dat}, DRep E.F w u x → DRep E'.F w' u x) : SRep E' w' v p.s := by
 cases p with
 | one x => cases h with | c h => exact .c (.d (hF h.d_of))
 | agg xs =>
   cases h with | agg _ vs hl hd =>
   refine .agg _ vs hl (fun i v x hv hx => ?_)
   have hq := hd i v x hv hx
   rw [BU] at hx
   cases hy : xs[i]? with
   | none => rw [hy] at hx; cases hx
   | some y =>
     rw [hy] at hx
     simp at hx
     subst hx
     exact .d (hF hq.d_of)
theorem PRes.rep {p : PRes} (h : SRep E w v p.s) (hF : ∀ {u : Value} {x : Dat}, DRep E.F w u x → DRep E'.F w' u x) : SRep E' w' v p.s := by
 cases p with
 | v x => exact PV.rep (p := x) h hF
 | tup xs =>
   cases h with | tup _ vs hl hd =>
   refine .tup _ vs hl (fun i v x hv hx => ?_)
   have hq := hd i v x hv hx
   rw [BU] at hx
   cases hy : xs[i]? with
   | none => rw [hy] at hx; cases hx
   | some y =>
     rw [hy] at hx
     simp at hx
     subst hx
     exact PV.rep hq hF
end
def PCall (P : Program) (f : FuncId) (args : List PV) (r : PRes) : Prop :=
 FnOk P f ∧ ∀ (F : Nat → Prop) (w : World) (vs : List Value), (∀ k, F k → k < w.heap.size) → vs.length = args.length →
  (∀ (i : Nat) v x, vs[i]? = some v → args[i]? = some x → SRep (It F) w v x.s) →
  Calls P f vs.toArray w fun e w' => ∃ v, e = .returned v ∧ Bel w.heap.size w w' ∧ SRep (It fun k => (F k ∨ w.heap.size ≤ k) ∧ k < w'.heap.size) w' v r.s
def SD : SVal → PV → Prop
 | .c c, .one x => c.dat = some x
 | .agg cs, .agg xs => Eh cs = some xs
 | _, _ => False
def SDs : List SVal → List PV → Prop
 | [], [] => True
 | s :: ss, p :: ps => SD s p ∧ SDs ss ps
 | _, _ => False
section
variable {P : Program} {T : TypeId → Option TI} {F0 : Nat → Prop} {w0 w : World} {E : Env} {mem : List Blk} {clock : Nat}
theorem SD.rep {s : SVal} {p : PV} (h : SD s p) (hv : SRep E w v s) : SRep (It E.F) w v p.s := by
 cases s with
 | c c =>
   cases p with
   | one x => cases hv with | c hv => exact .c (.d (hv.dat h))
   | agg xs => exact h.elim
 | agg cs =>
   cases p with
   | one x => exact h.elim
   | agg xs =>
     cases hv with | agg _ vs hl hd =>
     have lR := EF h
     refine .agg _ vs (by simp; omega) (fun i v x hv hx => ?_)
     rw [BU] at hx
     cases hy : xs[i]? with
     | none => rw [hy] at hx; cases hx
     | some y =>
       rw [hy] at hx
       simp at hx
       subst hx
       exact .d (EG (E := E) (v := v) h (fun z hz => hd i v z hv hz) hy)
 | tup xs => cases p <;> exact h.elim
 | und => cases p <;> exact h.elim
 | junk => cases p <;> exact h.elim
theorem SDs.get : ∀ {ss : List SVal} {ps : List PV}, SDs ss ps → ss.length = ps.length ∧ ∀ (i : Nat) s p, ss[i]? = some s → ps[i]? = some p → SD s p
 | [], [], _ => ⟨rfl, by simp⟩
 | s :: ss, p :: ps, h => by
   obtain ⟨h1, h2⟩ := SDs.get h.2
   refine ⟨by simp [h1], fun i s' p' hs hp => ?_⟩
   cases i with
   | zero => simp at hs hp; subst hs; subst hp; exact h.1
   | succ i => exact h2 i s' p' (by simpa using hs) (by simpa using hp)
 | [], _ :: _, h => h.elim
 | _ :: _, [], h => h.elim
theorem MCall.ofPure {args : List SVal} {k7 : List PV} {r : PRes} {R : SVal → List Blk → Nat → Prop} (hp : PCall P f k7 r) (ha : SDs args k7) (hR : R r.s mem clock) : MCall P F0 w0 f args mem clock R := by
 refine ⟨hp.1, fun E w vs hw hl hv => ?_⟩
 obtain ⟨g1, g2⟩ := ha.get
 have jd := hp.2 E.F w vs (fun k hk => (hw.F k hk).1) (by omega) (fun i v x mr hx => by
  have i7 := lt_of_getElem? mr
  have hs : args[i]? = some (args[i]'(by omega)) := Bo _
  exact (g2 i _ x hs hx).rep (hv i v _ mr hs))
 refine Calls.mono jd fun e w' he => ?_
 obtain ⟨v, rfl, hb, hr⟩ := he
 have ke := hw.later hb (fun k => w.heap.size ≤ k ∧ k < w'.heap.size) (fun k hk => hk)
 refine ⟨v, _, r.s, mem, clock, rfl, ke.2, ke.1, PRes.rep hr (fun h => h.mono (fun k hk => ?_) (fun _ _ => rfl)), hR⟩
 rcases hk.1 with h1 | h1
 ·exact .inl h1
 ·exact .inr ⟨h1, hk.2⟩
def CF (mem : List Blk) : Cell → Dat → Prop
 | .arr r k n, y => (match mem[r]? with
   | some (.arr k' _ _ es) => k' = k ∧ n ≤ es.length ∧ y = .sl (es.take n)
   | _ => False)
 | c, y => c.dat = some y
def CFs (mem : List Blk) : List Cell → List Dat → Prop
 | [], [] => True
 | c :: cs, x :: xs => CF mem c x ∧ CFs mem cs xs
 | _, _ => False
def SF (mem : List Blk) : SVal → PV → Prop
 | .c c, .one x => CF mem c x
 | .agg cs, .agg xs => CFs mem cs xs
 | _, _ => False
theorem Ek (h : WOk F0 w0 E w mem clock) {r k : Nat} {iX : TypeId} {i6 : Nat} {es : List (List Dat)} (hr : mem[r]? = some (.arr k iX i6 es)) {n : Nat} (hn : n ≤ es.length) (hv : CRep E w v (.arr r k n))
  (hF : ∀ b, E.F b → F b) (pY : E.cap r ≠ 0 → F (E.blk r)) : DRep F w v (.sl (es.take n)) := by
 obtain ⟨o1, o2, o3, o4, o5, o6⟩ := h.mem.ok r _ hr
 cases hv with | arr _ _ _ _ _ _ hh =>
 rcases hh o1 with ⟨_, rfl, a, rfl⟩ | ⟨lD, rfl⟩
 ·simpa using DRep.emp _ _
 ·rcases o6 with o6 | ⟨p1, p2, c, p3, p4, _, p5⟩
  · omega
  have hl : (es.take n).length = n := by simp; omega
  have i7 : ∀ i j, i < n → j < i6 → i * i6 + j < c.size := by
    intro i j hi hj
    rw [p4]
    have : (i + 1) * i6 ≤ E.cap r * i6 := HJ _ (by omega)
    rw [Gg, Kf] at this
    omega
  have hd := DRep.sl (F := F) (w := w) (es.take n) (E.blk r) 0 (E.cap r) i6 (fun i j => c.getD (i * i6 + j) undef) (pY (by omega)) (by omega) o5 (fun e he => o3 e (I0 he)) (fun i j hi hj => by
     rw [Bx p3]
     rw [hl] at hi
     simp [i7 i j hi hj]) (fun i j e x q1 q2 => by
     have hj : j < i6 := by have := lt_of_getElem? q2; rw [o3 e (I0 (Cb q1))] at this; exact this
     have hi := lt_of_getElem? q1
     rw [hl] at hi
     rw [Mc, if_pos hi] at q1
     exact (p5 i j e (c.getD (i * i6 + j) undef) x q1 q2 (by simp [i7 i j hi hj])).mono hF (fun _ _ => rfl))
  rw [hl] at hd
  exact hd
theorem CF.rep (h : WOk F0 w0 E w mem clock) {c : Cell} {x : Dat} (hc : CF mem c x) (hv : CRep E w v c) (hF : ∀ b, E.F b → F b) (pY : ∀ b, w0.heap.size ≤ b → b < w.heap.size → F b) : DRep F w v x := by
 unfold CF at hc
 split at hc
 ·rename_i r k n
  split at hc
  ·rename_i k' iX i6 es hm
   obtain ⟨rfl, hn, rfl⟩ := hc
   refine Ek h hm hn hv hF (fun hz => ?_)
   have := (h.mem.ok r _ hm).lt (show Blk.has E r _ from hz)
   exact pY _ this.2.1 this.1
  ·exact hc.elim
 ·exact (hv.dat hc).mono hF (fun _ _ => rfl)
theorem CFs.get : ∀ {cs : List Cell} {xs : List Dat}, CFs mem cs xs → cs.length = xs.length ∧ ∀ (i : Nat) c x, cs[i]? = some c → xs[i]? = some x → CF mem c x
 | [], [], _ => ⟨rfl, by simp⟩
 | c :: cs, x :: xs, h => by
   obtain ⟨h1, h2⟩ := CFs.get h.2
   refine ⟨by simp [h1], fun i s' p' hs hp => ?_⟩
   cases i with
   | zero => simp at hs hp; subst hs; subst hp; exact h.1
   | succ i => exact h2 i s' p' (by simpa using hs) (by simpa using hp)
 | [], _ :: _, h => h.elim
 | _ :: _, [], h => h.elim
theorem SF.rep (h : WOk F0 w0 E w mem clock) {s : SVal} {p : PV} (hs : SF mem s p) (hv : SRep E w v s) (hF : ∀ b, E.F b → F b) (pY : ∀ b, w0.heap.size ≤ b → b < w.heap.size → F b) : SRep (It F) w v p.s := by
 cases s with
 | c c =>
   cases p with
   | one x => cases hv with | c hv => exact .c (.d (CF.rep h hs hv hF pY))
   | agg xs => exact hs.elim
 | agg cs =>
   cases p with
   | one x => exact hs.elim
   | agg xs =>
     cases hv with | agg _ vs hl hd =>
     obtain ⟨g1, g2⟩ := CFs.get hs
     refine .agg _ vs (by simp; omega) (fun i v x hv hx => ?_)
     rw [BU] at hx
     cases hy : xs[i]? with
     | none => rw [hy] at hx; cases hx
     | some y =>
       rw [hy] at hx
       simp at hx
       subst hx
       have i7 := lt_of_getElem? hv
       have hc : cs[i]? = some (cs[i]'(by omega)) := Bo _
       exact .d (CF.rep h (g2 i _ y hc hy) (hd i v _ hv hc) hF pY)
 | tup xs => cases p <;> exact hs.elim
 | und => cases p <;> exact hs.elim
 | junk => cases p <;> exact hs.elim
end
structure DeferOk (P : Program) (f : FuncId) (n : Nat) : Prop where
 fn : FnOk P f
 run : ∀ (vs : List Value) (w : World), vs.length = n → CallsD P f vs.toArray .returning w fun e u' w' => (∃ v, e = .returned v) ∧ u' = .returning ∧ w' = w
section
variable (P : Program) (T : TypeId → Option TI)
def Ap (σ : St) : ResultVar → (SVal → Prop) → Prop
 | .tmp t, V => V (σ.get t)
 | .cell a t, V => Du T σ t (σ.get a) V
def Q7 (σ : St) : List ResultVar → List PV → Prop
 | [], [] => True
 | x :: xs, p :: ps => Ap T σ x (fun s => SF σ.mem s p) ∧ Q7 σ xs ps
 | _, _ => False
def Vl (σ : St) (rs : List ResultVar) : PRes → Prop
 | .v p => (match rs with
   | [x] => Ap T σ x fun s => SF σ.mem s p
   | _ => False)
 | .tup ps => rs.length ≠ 1 ∧ Q7 T σ rs ps
def Ag : List (FuncId × List Cell) → Prop
 | [] => True
 | (f, cs) :: ds => DeferOk P f cs.length ∧ Ag ds
def fin (rs : List ResultVar) (r : PRes) : Ex → St → Prop
 | .exit _, _ => False
 | _, σ => Ag P σ.defers ∧ Vl T σ rs r
def Q8 : List PV → Nat → List (Nat × SVal)
 | [], _ => []
 | p :: ps, k => (k, p.s) :: Q8 ps (k + 1)
def dM (n : Nat) (args : List PV) : St := { n := n, slots := Q8 args 0, mem := [], clock := 0, defers := [] }
end
section
variable {P : Program} {T : TypeId → Option TI} {w : World} {E : Env}
def Kh (tmps : Array Value) : ResultVar → Sem Value
 | .tmp t => pure (tmps.getD t undef)
 | .cell b t => do loadVar t (← asAddr (tmps.getD b undef))
theorem EI (fn : Func) (tmps : Array Value) : results fn tmps = (do
  let vs ← fn.results.mapM (Kh tmps)
  pure (if h : vs.size = 1 then vs[0] else .tuple vs)) := by
 unfold results
 congr 1
theorem Fp (hT : AL P T) {F0 : Nat → Prop} {w0 : World} {σ : St} {a : Act} (h : RelE F0 w0 E σ a w) {x : ResultVar} {V : SVal → Prop} (hx : Ap T σ x V) :
   ∃ v s, (Kh a.tmps x).run P w = .ok v w ∧ SRep E w v s ∧ V s := by
 cases x with
 | tmp t => exact ⟨_, _, rfl, h.2.2.2 t, hx⟩
 | cell b t =>
   obtain ⟨v, s, h1, h2, h3⟩ := Ns (P := P) hT h.1 (h.2.2.2 b) hx
   refine ⟨v, s, ?_, h2, h3⟩
   simp only [Instr.loadAt] at h1
   simp only [Kh]
   generalize a.tmps.getD b undef = u at h1 ⊢
   cases u with
   | pointer q =>
     cases q with
     | none => simp [Instr.sureAddr] at h1
     | some q => simpa [Instr.sureAddr, asAddr] using h1
   | _ => simp [Instr.sureAddr] at h1
theorem Mh : ∀ (ps : List PV) (k t : Nat), look (Q8 ps k) t = if k ≤ t then (match ps[t - k]? with | some p => p.s | none => .junk) else .junk
 | [], k, t => by simp [Q8, look]
 | p :: ps, k, t => by
   simp only [Q8, BB, Mh ps (k + 1) t]
   by_cases h1 : k = t
   ·subst h1; simp
   ·rw [if_neg h1]
    by_cases h2 : k + 1 ≤ t
    ·rw [if_pos h2, if_pos (by omega), show t - k = (t - (k + 1)) + 1 by omega]
     simp
    ·rw [if_neg h2, if_neg (by omega)]
theorem I3 {fn : Func} {tmps : Array Value} {R : Ending → World → Prop} : ∀ (ds : List Deferred) (xs : List (FuncId × List Cell)), DefersOk E w ds xs → Ag P xs → (∃ v, (results fn tmps).run P w = .ok v w ∧ R (.returned v) w) → Leaves P fn tmps R ds .returning w
 | [], [], _, _, h => h
 | d :: ds, (f, cs) :: xs, hd, hx, h => by
   obtain ⟨vs, rfl, h2, h3⟩ := hd.2 0 d (f, cs) rfl rfl
   refine ⟨by simp, .func f, vs.toArray, f, vs.toArray, rfl, ?_, ?_⟩
   ·simp only [invoke, gm]
    exact FR hx.1.fn _
   ·refine (hx.1.run vs w h2).mono fun e u' w' he => ?_
    obtain ⟨⟨v, hv⟩, hu, hw⟩ := he
    subst hv
    subst hu
    rw [hw]
    exact I3 ds xs ⟨by have := hd.1; simpa using this, fun i d x q1 q2 => hd.2 (i + 1) d x (by simpa using q1) (by simpa using q2)⟩ hx.2 h
 | [], _ :: _, hd, _, _ => by have := hd.1; simp at this
 | _ :: _, [], hd, _, _ => by have := hd.1; simp at this
theorem Mi (hT : AL P T) {F0 F : Nat → Prop} {w0 : World} {σ : St} {a : Act} (h : RelE F0 w0 E σ a w) (hF : ∀ b, E.F b → F b) (pY : ∀ b, w0.heap.size ≤ b → b < w.heap.size → F b) :
   ∀ (rs : List ResultVar) (ps : List PV), Q7 T σ rs ps → ∃ vs : List Value, (rs.mapM (Kh a.tmps)).run P w = .ok vs w ∧
    vs.length = ps.length ∧ rs.length = ps.length ∧ ∀ (i : Nat) v p, vs[i]? = some v → ps[i]? = some p → SRep (It F) w v p.s
 | [], [], _ => ⟨[], by simp, rfl, rfl, by simp⟩
 | x :: rs, p :: ps, hr => by
   obtain ⟨v, s, h1, h2, h3⟩ := Fp hT h hr.1
   obtain ⟨vs, q1, q2, q3, q4⟩ := Mi hT h hF pY rs ps hr.2
   refine ⟨v :: vs, ?_, by simp [q2], by simp [q3], fun i u y hu hy => ?_⟩
   ·simp only [ej, Sem.run_bind]
    rw [h1]
    simp only [Result.andThen_ok]
    rw [q1]
    rfl
   ·cases i with
    | zero => simp at hu hy; subst hu; subst hy; exact SF.rep h.1 h3 h2 hF pY
    | succ i => exact q4 i u y (by simpa using hu) (by simpa using hy)
 | [], _ :: _, hr => hr.elim
 | _ :: _, [], hr => hr.elim
theorem ez (hT : AL P T) {fn : Func} {args : List PV} {r : PRes} (hf : P.funcs[f]? = some fn) (hb : fn.body = some c) (lV : (fn.name == "runtime.NumGoroutine") = false)
   (n : Nat) (rs : List ResultVar) (lT : fn.ntmps = n) (kZ : fn.results.toList = rs) (hn : decide (args.length ≤ n) = true) (h : ∀ B, ARun P B c (dM n args) (Av P B (fin P T rs r) [])) : PCall P f args r := by
 subst lT
 subst kZ
 have hn : args.length ≤ fn.ntmps := by simpa using hn
 refine ⟨⟨fn, hf, lV, by simp [hb]⟩, fun F w vs hF hl hv => ?_⟩
 refine calls_of_wp_defers hf hb ?_
 let B : Base := ⟨F, w, It F, w⟩
 have ly : Rel B (dM fn.ntmps args) { tmps := vs.toArray ++ Array.replicate (fn.ntmps - vs.toArray.size) undef, defers := [] } w := by
   refine ⟨It F, ⟨⟨Bel.refl _ _, fun k hk => hk, fun k hk => ⟨hF k hk, .inl hk⟩, ⟨fun _ => Nat.le_refl _, fun s x hx => by simp [dM] at hx, fun s s' x x' hx => by simp [dM] at hx⟩, fun _ hk => hk.elim⟩, ?_, ⟨rfl, by simp⟩, fun t => ?_⟩, EnvLe.refl _ _⟩
   · simp [dM]; omega
   · simp only [St.get, dM, Mh, Nat.zero_le, if_true, Nat.sub_zero]
     cases ha : args[t]? with
     | none => exact .junk _
     | some p =>
       have i7 := lt_of_getElem? ha
       have uT : vs[t]? = some (vs[t]'(by omega)) := Bo _
       have : (vs.toArray ++ Array.replicate (fn.ntmps - vs.toArray.size) undef).getD t undef = vs[t]'(by omega) := by
         simp [Array.getElem?_append, show t < vs.length by omega]
       rw [this]
       exact hv t _ p uT ha
 refine Code.wp_mono (fun e a' w' hq => ?_) (h B _ w ly)
 obtain ⟨x, σ', ⟨E, hr, _⟩, _, hk, j8⟩ := hq
 have key : Ag P σ'.defers ∧ Vl T σ' fn.results.toList r → Leaves P fn a'.tmps (fun e w' => ∃ v, e = .returned v ∧ Bel w.heap.size w w' ∧ SRep (It fun k => (F k ∨ w.heap.size ≤ k) ∧ k < w'.heap.size) w' v r.s) a'.defers .returning w' := by
   rintro ⟨k1, k2⟩
   have wP : ∀ b, E.F b → (F b ∨ w.heap.size ≤ b) ∧ b < w'.heap.size := fun b hb => ⟨(hr.1.F b hb).2, (hr.1.F b hb).1⟩
   have te : ∀ b, w.heap.size ≤ b → b < w'.heap.size → (F b ∨ w.heap.size ≤ b) ∧ b < w'.heap.size := fun b h1 h2 => ⟨.inr h1, h2⟩
   refine I3 _ _ hr.2.2.1 k1 ?_
   cases r with
   | v p =>
     simp only [Vl] at k2
     split at k2
     · rename_i rv r8
       obtain ⟨v, s, q1, q2, q3⟩ := Fp hT hr k2
       refine ⟨v, ?_, v, rfl, hr.1.below, SF.rep hr.1 q3 q2 wP te⟩
       have e1 : fn.results = #[rv] := by apply Q3; simpa using r8
       rw [EI, e1, dO]
       simp only [ej, List.mapM_nil, Sem.run_bind, Sem.run_map]
       rw [q1]
       simp
     · exact k2.elim
   | tup ps =>
     obtain ⟨pX, q1, q2, q3, q4⟩ := Mi hT hr wP te _ _ k2.2
     refine ⟨.tuple pX.toArray, ?_, _, rfl, hr.1.below, .tup _ pX (by simpa using q2) (fun i v x hv hx => ?_)⟩
     · rw [EI, dO]
       simp only [Sem.run_bind, Sem.run_map]
       rw [q1]
       have j2 : ¬ pX.toArray.size = 1 := by simp; have := k2.1; omega
       simp only [Result.andThen_ok, Sem.run_pure, j2, dite_false]
     · rw [BU] at hx
       cases hy : ps[i]? with
       | none => rw [hy] at hx; cases hx
       | some y =>
         rw [hy] at hx
         simp at hx
         subst hx
         exact q4 i v y hv hy
 cases e with
 | normal => cases x with
   | norm => exact key hk
   | exit i => exact j8.elim
   | ret => exact j8.elim
 | ret => cases x with
   | ret => exact key hk
   | exit i => exact j8.elim
   | norm => exact j8.elim
 | exit i => cases x with
   | exit j => exact hk.elim
   | norm => exact j8.elim
   | ret => exact j8.elim
 | goto l => cases x <;> exact j8.elim
 | panic c => cases x <;> exact j8.elim
 | outgrown => cases x <;> exact j8.elim
end
def BK : TypeDesc → Option (List (Nat × TypeId))
 | .struct fs => some (fs.toList.map fun f => (f.offset, f.type))
 | _ => none
def KB : TypeDesc → Bool
 | .struct _ => false
 | .array _ _ => false
 | _ => true
def TDB (P : Program) (t : TypeId) : TD → Prop
 | .struct fs => (P.underlying t).map BK = some (some fs)
 | .plain => (P.underlying t).map KB = some true
 | d => Vc P t d
theorem TDB.ok {P : Program} {d : TD} (h : TDB P t d) : Vc P t d := by
 cases d with
 | struct fs =>
   simp only [TDB] at h
   cases hu : P.underlying t with
   | none => rw [hu] at h; cases h
   | some d =>
     rw [hu] at h
     simp only [Option.map_some, Option.some.injEq] at h
     cases d with
     | struct fields =>
       simp only [BK, Option.some.injEq] at h
       exact ⟨fields, hu, h⟩
     | _ => cases h
 | plain =>
   simp only [TDB] at h
   cases hu : P.underlying t with
   | none => rw [hu] at h; cases h
   | some d =>
     rw [hu] at h
     simp only [Option.map_some, Option.some.injEq] at h
     refine ⟨d, hu, ?_⟩
     cases d <;> first | trivial | (simp [KB] at h)
 | _ => exact h
theorem E0 {P : Program} {i : TI} (z : Value) (hi : (P.info? t).map (fun f => (f.zero, f.size, f.bytes)) = some (some z, i.size, i.bytes)) (hz : z.cells = i.zero.toArray)
   (h1 : i.zero.all (·.oneCell') = true) (hd : TDB P t i.desc) (he : i.eqs = true → a7 P t i.zero) : TOk P t i := by
 refine ⟨?_, fun v hv => Eg.1 h1 v hv, hd.ok, he⟩
 cases hf : P.info? t with
 | none => rw [hf] at hi; cases hi
 | some f =>
   rw [hf] at hi
   simp only [Option.map_some, Option.some.injEq, HK] at hi
   exact ⟨f, z, rfl, hi.2.1, hi.2.2, hi.1, hz⟩
inductive TTree where
 | nil
 | node (l : TTree) (k : TypeId) (i : TI) (r : TTree)
def Sh (P : Program) : TTree → Prop
 | .nil => True
 | .node l k i r => Sh P l ∧ TOk P k i ∧ Sh P r
def KC : TTree → TypeId → Option TI
 | .nil, _ => none
 | .node l k i r, t => match Nat.beq k t with
   | true => some i
   | false => match Nat.blt t k with
     | true => KC l t
     | false => KC r t
theorem X5 {P : Program} {l : TTree} (h : Sh P l) : AL P (KC l) := by
 intro t i ht
 induction l with
 | nil => cases ht
 | node l k j r mi lU =>
   simp only [KC] at ht
   split at ht
   ·rename_i hp
    simp only [Option.some.injEq] at ht
    have hp := dP hp
    subst hp; subst ht
    exact h.2.1
   ·split at ht
    ·exact mi h.1 ht
    ·exact lU h.2.2 ht
def OM : Option TypeDesc → Value → Bool
 | some (.int _), .int _ _ => true
 | some .bool, .bool _ => true
 | some .string, .string _ => true
 | _, _ => false
def Mj (P : Program) : List Field → List Value → Nat → Bool
 | [], [], _ => true
 | f :: fs, z :: zs, k => (f.name != "_") && (f.offset == k) && OM (P.underlying f.type) z && Mj P fs zs (k + 1)
 | _, _, _ => false
theorem ON {P : Program} {w : World} {z : Value} (h : OM (P.underlying t) z = true) (xs : List Value) (k : Nat) (x : Value) (hx : xs[k]? = some x) : (part t xs.toArray k).run P w = .ok x w := by
 unfold OM at h
 split at h
 ·rename_i hu; simp [part, Go.isAgg, run_underlying hu, hx]
 ·rename_i hu; simp [part, Go.isAgg, run_underlying hu, hx]
 ·rename_i hu; simp [part, Go.isAgg, run_underlying hu, hx]
 ·cases h
theorem Tu {P : Program} {w : World} {z x y : Value} (h : OM (P.underlying t) z = true) (hx : alike z x) (hy : alike z y) (d : Nat) : (Op.equalIn (d + 1) t x y).run P w = .ok (JH x y) w := by
 unfold OM at h
 split at h
 ·rename_i k hu
  cases x <;> cases y <;> simp [alike] at hx hy
  subst hx; subst hy
  exact run_equalIn_int w d t _ _ _ _ hu
 ·rename_i hu
  cases x <;> cases y <;> simp [alike] at hx hy
  exact run_equalIn_bool' w d t _ _ hu
 ·rename_i hu
  cases x <;> cases y <;> simp [alike] at hx hy
  exact run_equalIn_string w d t _ _ hu
 ·cases h
theorem Iu {P : Program} {w : World} (d : Nat) : ∀ (fs : List Field) (zs : List Value) (k : Nat) (xs ys : List Value), Mj P fs zs k = true → Dw zs (xs.drop k) → Dw zs (ys.drop k) →
   (Op.eqFields (d + 1) xs.toArray ys.toArray fs).run P w = .ok (Cy (xs.drop k) (ys.drop k)) w
 | [], [], k, xs, ys, _, hx, hy => by
   cases se : xs.drop k with
   | nil => simp [Op.eqFields, Cy]
   | cons a l => rw [se] at hx; exact hx.elim
 | f :: fs, z :: zs, k, xs, ys, h, hx, hy => by
   simp only [Mj, BM] at h
   obtain ⟨⟨⟨h1, h2⟩, h3⟩, h4⟩ := h
   have uU : f.name ≠ "_" := by simpa using h1
   have tf : f.offset = k := by simpa using h2
   subst tf
   cases se : xs.drop f.offset with
   | nil => rw [se] at hx; exact hx.elim
   | cons a l =>
     cases r9 : ys.drop f.offset with
     | nil => rw [r9] at hy; exact hy.elim
     | cons b m =>
       rw [se] at hx
       rw [r9] at hy
       have ea : xs[f.offset]? = some a := by have := ZA (xs := xs) (i := f.offset) (j := 0); rw [se] at this; simpa using this.symm
       have eb : ys[f.offset]? = some b := by have := ZA (xs := ys) (i := f.offset) (j := 0); rw [r9] at this; simpa using this.symm
       have el : xs.drop (f.offset + 1) = l := by rw [← Tr, se]; rfl
       have em : ys.drop (f.offset + 1) = m := by rw [← Tr, r9]; rfl
       have ih := Iu (P := P) (w := w) d fs zs (f.offset + 1) xs ys h4 (by rw [el]; exact hx.2) (by rw [em]; exact hy.2)
       rw [el, em] at ih
       simp only [Op.eqFields, if_pos uU, Sem.run_bind]
       rw [ON h3 xs f.offset a ea]
       simp only [Result.andThen_ok]
       rw [ON h3 ys f.offset b eb]
       simp only [Result.andThen_ok]
       rw [Tu h3 hx.1 hy.1 d]
       simp only [Result.andThen_ok, Cy]
       cases JH a b with
       | true => simpa using ih
       | false => simp
 | [], _ :: _, _, _, _, h, _, _ => by simp [Mj] at h
 | _ :: _, [], _, _, _, h, _, _ => by simp [Mj] at h
theorem eA {P : Program} {zero : List Value} (ht : (P.underlying t).map (fun d => match d with | .struct _ => true | _ => false) = some true) (hp : P.stoodInHeld t = false) (hg : P.eqGuardType P.depth t = false)
  (hf : Mj P (P.fieldsOf t).toList zero 0 = true) : a7 P t zero := by
 have hu : P.underlying t = some (.struct (P.fieldsOf t)) := by
  unfold Program.fieldsOf
  cases hq : P.underlying t with
  | none => rw [hq] at ht; cases ht
  | some d => rw [hq] at ht; cases d <;> first | rfl | (simp at ht)
 intro w x y xs ys hx hy
 have hq := Iu (P := P) (w := w) 9998 (P.fieldsOf t).toList zero 0 xs ys hf (by simpa using hx) (by simpa using hy)
 have he : (Op.equalIn 10000 t (.agg xs.toArray) (.agg ys.toArray)).run P w = .ok (Cy xs ys) w := by
  have := run_equalIn_struct (P := P) w 9999 t xs.toArray ys.toArray hu hp
  rw [this]
  simpa using hq
 constructor
 ·rw [Sem.run_bind, run_eqGuard_agg w .eql t x y _ _ hg]
  simp only [Result.andThen_ok]
  rw [run_eql_struct, he]
  rfl
 ·rw [Sem.run_bind, run_eqGuard_agg w .neq t x y _ _ hg]
  simp only [Result.andThen_ok]
  rw [run_neq_struct, he]
  rfl
attribute [go_sem] Vh AV Du Fe FM Ff HT Nq EZ OE CE Ku Q5 a8 OF dL OG OH DQ Cr JI Ei Gv OC C1 St.ev St.get St.put St.putO Go.Abs.look Is lit Go.Abs.int DP SVal.cells Cell.dat Eh B0 TD.agg Oz Gh D8 Dw alike
attribute [go_sem] List.map_cons List.map_nil List.getElem?_cons_zero List.getElem?_cons_succ List.getElem?_nil List.drop_zero List.drop_succ_cons List.drop_nil List.take_zero List.take_succ_cons List.take_nil List.length_cons List.length_nil List.nil_append List.cons_append List.append_nil List.set_cons_zero List.set_cons_succ List.all_cons List.all_nil Option.bind_some Option.bind_none Option.map_some Option.map_none Option.isNone_none Option.isSome_some Option.some.injEq Nat.zero_add Nat.add_zero if_true if_false true_and and_true and_self forall_const Bool.false_eq_true Bool.true_eq_false Bool.not_true Bool.not_false ne_eq not_false_eq_true not_true_eq_false Bool.and_self exists_eq_left' exists_eq_left Nat.le_refl false_implies or_true true_or or_false false_or eq_self and_false false_and Bool.and_true Bool.true_and Bool.and_false Bool.false_and Nat.lt_add_one Nat.zero_le
end Go.Abs
end
