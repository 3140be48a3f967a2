/-
  One operation, and a list of operations in the order of the text.
-/
import Derived.Test.YtlacmjfgaehhkaaAbsI
namespace Go.Abs
open Go.RowKit

section
variable {P : Program} {T : TypeId → Option TI} {F0 : Nat → Prop} {w0 w : World} {E : Env} {σ : St} {a : Act} {B : Base}

theorem RelE.putOE {E' : Env} {w' : World} {mem' : List Blk} {clock' : Nat} (h : RelE F0 w0 E σ a w) (l : EnvLe E w E' w') (hw : WOk F0 w0 E' w' mem' clock') {dst : Option Tmp} (hd : ∀ d, dst = some d → d < σ.n) {v : Value} {x : SVal} (hv : SRep E' w' v x) :
    RelE F0 w0 E' ({ σ with mem := mem', clock := clock' }.putO dst x) (a.put dst v) w' := by
  cases dst with
  | none => exact h.keepE l hw
  | some d => exact h.putE l hw (hd d rfl) hv

theorem RelE.putO (h : RelE F0 w0 E σ a w) {dst : Option Tmp} (hd : ∀ d, dst = some d → d < σ.n) {v : Value} {x : SVal} (hv : SRep E w v x) : RelE F0 w0 E (σ.putO dst x) (a.put dst v) w :=
  h.putOE (mem' := σ.mem) (clock' := σ.clock) (EnvLe.refl E w) h.1 hd hv

theorem callFunc_run {f : FuncId} (hf : FnOk P f) (args : Array Value) : (callFunc f args).run P w = .ok (.enter f args) w := by
  obtain ⟨fn, h1, h2, h3⟩ := hf.ex
  simp only [callFunc, Sem.run_bind, run_program, Result.andThen_ok, h1, h2, h3, Bool.false_eq_true, if_false, Sem.run_pure]

theorem astep_sound (hT : TypesOk P T) {o : Oper} {K : St → Prop} (h : astep P T B.F0 B.w0 o σ K) (hr : RelE B.F0 B.w0 E σ a w) (hB : EnvLe B.E B.w E w) (hd : ∀ d, o.dst = some d → d < σ.n)
    {next : Act → World → Prop} {Q : Exit → Act → World → Prop} (hn : ∀ σ' a' w', Rel B σ' a' w' → σ'.n = σ.n → K σ' → next a' w') : o.wp P a w next Q := by
  have hρ := hr.ev
  have nput : ∀ (d : Option Tmp) (x : SVal) (τ : St), (τ.putO d x).n = τ.n := fun d x τ => by cases d <;> rfl
  -- a value, the world as it was
  have pureV : ∀ {v : Value} {y : SVal}, (execOp a.eval o).run P w = .ok (.value v) w → SRep E w v y → K (σ.putO o.dst y) → o.wp P a w next Q := by
    intro v y h1 h2 h3
    unfold Oper.wp
    rw [h1]
    exact hn _ _ _ ⟨E, hr.putO hd h2, hB⟩ (nput _ _ _) h3
  have heapV : ∀ {v : Value} {y : SVal} {w' : World} {E' : Env} {mem' : List Blk} {clock' : Nat}, (execOp a.eval o).run P w = .ok (.value v) w' → EnvLe E w E' w' → WOk B.F0 B.w0 E' w' mem' clock' → SRep E' w' v y →
      K ({ σ with mem := mem', clock := clock' }.putO o.dst y) → o.wp P a w next Q := by
    intro v y w' E' mem' clock' h1 hle hw h2 h3
    unfold Oper.wp
    rw [h1]
    exact hn _ _ _ ⟨E', hr.putOE hle hw hd h2, hB.trans hle⟩ (nput _ _ _) h3
  unfold astep at h
  split at h
  · rename_i x ho
    exact pureV (by simp [execOp, ho]) (hρ x) h
  · rename_i x ho
    exact pureV (by simp [execOp, ho]) (hρ x) h
  · rename_i c x y ho
    split at h
    · rename_i t hc
      have hcv := hρ c
      rw [hc] at hcv
      have hcv := hcv.lit_inv
      cases t with
      | true => exact pureV (by simp [execOp, ho, hcv, asBool]) (hρ x) (h.1 rfl)
      | false => exact pureV (by simp [execOp, ho, hcv, asBool]) (hρ y) (h.2 rfl)
    · exact h.elim
  · rename_i t ho
    split at h
    · rename_i i hi
      have ht := hT t i hi
      obtain ⟨fi, z, hi1, hi2, hi3, hi4, hi5⟩ := ht.info
      have hal := hr.1.allocBox i.zero.toArray t (i.zero.map valCell) (by simp) (zero_rep ht)
      refine heapV (v := .pointer (some ⟨w.heap.size, 0, none⟩)) ?_ hal.2 hal.1 (.c (.bp σ.mem.length (σ.clock + 1) 0 _ rfl (by simp [Env.upd]) (fun _ => by simp [Env.upd]))) h
      simp [execOp, ho, Instr.alloc, zeroValue, typeInfo, hi1, hi4, newVar, newRow, hi5]
    · exact h.elim
  · rename_i t x ho
    split at h
    · rename_i cs hcs
      obtain ⟨hc1, hc2, hc3⟩ := (hρ x).cellsOf hcs
      have hal := hr.1.allocBox (a.eval x).cells t cs hc1 hc3
      refine heapV (v := .pointer (some ⟨w.heap.size, 0, none⟩)) ?_ hal.2 hal.1 (.c (.bp σ.mem.length (σ.clock + 1) 0 _ rfl (by simp [Env.upd]) (fun _ => by simp [Env.upd]))) h
      simp [execOp, ho, Instr.box, newVar, newRow]
    · exact h.elim
  · rename_i t x ho
    obtain ⟨v, s, h1, h2, h3⟩ := load_ok hT hr.1 (hρ x) h
    exact pureV (by simp [execOp, ho, h1]) h2 h3
  · rename_i t x y ho
    obtain ⟨w', mem', h1, h2, h3, h4⟩ := store_ok hT hr.1 (hρ x) (hρ y) h
    unfold Oper.wp
    have hrun : (execOp a.eval o).run P w = .ok .skip w' := by simp [execOp, ho, h1]
    rw [hrun]
    exact hn _ _ _ ⟨E, hr.putOE h2 h3 hd (.junk _), hB.trans h2⟩ (nput _ _ _) h4
  · rename_i s x f ho
    obtain ⟨v, y, h1, h2, h3⟩ := field_ok (P := P) hT hr.1 (hρ x) h
    exact pureV (by simp [execOp, ho, h1]) h2 h3
  · rename_i t x i ho
    obtain ⟨v, y, h1, h2, h3⟩ := index_ok (P := P) hT hr.1 (hρ x) (hρ i) h
    exact pureV (by simp [execOp, ho, h1]) h2 h3
  · rename_i t x lo hi mx ho
    obtain ⟨hmx, h⟩ := h
    have hm : mx = none := by simpa using hmx
    subst hm
    obtain ⟨v, y, h1, h2, h3⟩ := slice_ok (P := P) hT hr.1 (hρ x) hρ h
    exact pureV (by simp [execOp, ho, h1]) h2 h3
  · rename_i op t x y _ ho
    obtain ⟨v, s, h1, h2, h3⟩ := bin_ok (P := P) hT x y (hρ x) (hρ y) h
    refine pureV ?_ h2 h3
    simp only [execOp, ho]
    rw [Sem.run_bind, h1]
    rfl
  · rename_i op t x ho
    obtain ⟨v, s, h1, h2, h3⟩ := un_ok (P := P) (hρ x) h
    exact pureV (by simp [execOp, ho, h1]) h2 h3
  · rename_i s d x ho
    obtain ⟨v, y, h1, h2, h3⟩ := conv_ok (P := P) hT (hρ x) h
    exact pureV (by simp [execOp, ho, h1]) h2 h3
  · rename_i t parts ho
    obtain ⟨v, y, h1, h2, h3⟩ := build_ok (P := P) (parts := parts) hT hρ h
    exact pureV (by simp [execOp, ho, h1]) h2 h3
  · rename_i t len parts ho
    obtain ⟨v, w', E', y, h1, h2, h3, h4, h5⟩ := buildSlice_ok (P := P) (parts := parts) hT hr.1 hρ h
    exact heapV (by simp [execOp, ho, h1]) h2 h3 h4 h5
  · rename_i t l c ho
    obtain ⟨v', w', E', mem', clock', x, h1, h2, h3, h4, h5⟩ := make_ok (P := P) hT hr.1 (hρ l) (hρ c) h
    exact heapV (by simp [execOp, ho, h1]) h2 h3 h4 h5
  · rename_i fn first captured ho
    obtain ⟨v, y, h1, h2, h3⟩ := func_ok (P := P) hρ h
    exact pureV (by simp [execOp, ho, h1]) h2 h3
  · rename_i x i ho
    split at h
    · rename_i xs hxs
      split at h
      · rename_i s hs
        have hx := hρ x
        rw [hxs] at hx
        generalize hv : a.eval x = v at hx
        cases hx with | tup _ vs hl hd' =>
        have hlt := lt_of_getElem? hs
        have hvs : vs[i]? = some (vs[i]'(by omega)) := List.getElem?_eq_getElem _
        exact pureV (by simp [execOp, ho, hv, Instr.extract, hvs]) (hd' i _ s hvs hs) h
      · exact h.elim
    · exact h.elim
  · rename_i c ho
    unfold aCall at h
    split at h
    · rename_i f hcal
      split at h
      · rename_i g caps hg
        obtain ⟨vs, hv1, hv2, hv3⟩ := callee_rep (hρ f) hg
        have hcall := h.2 E w (c.args.toList.map a.eval ++ vs) hr.1 (by simp [hv2]) (fun i v x hv hx => by
          rw [List.getElem?_append] at hv hx
          simp only [List.length_map] at hv hx
          split at hv
          · rename_i hi
            rw [if_pos hi] at hx
            rw [List.getElem?_map] at hv hx
            cases hq : c.args.toList[i]? with
            | none => rw [hq] at hv; cases hv
            | some z =>
              rw [hq] at hv hx
              simp at hv hx
              subst hv; subst hx
              exact hρ z
          · rename_i hi
            rw [if_neg hi, List.getElem?_map] at hx
            cases hq : caps[i - c.args.toList.length]? with
            | none => rw [hq] at hx; cases hx
            | some z =>
              rw [hq] at hx
              simp at hx
              subst hx
              exact .c (hv3 _ v z hv hq))
        unfold Oper.wp
        have hrun : (execOp a.eval o).run P w = .ok (.enter g (c.args.toList.map a.eval ++ vs).toArray) w := by
          have e : c.args.map a.eval ++ vs.toArray = (c.args.toList.map a.eval ++ vs).toArray := by apply Array.ext'; simp
          simp only [execOp, ho, Sem.run_bind, resolve, hcal, hv1, Deferred.ofValue, Sem.run_pure, Result.andThen_ok, invoke, Array.empty_append, e, callFunc_run h.1]
        rw [hrun]
        refine Calls.mono hcall fun e w' he => ?_
        obtain ⟨v, E', r, mem', clock', rfl, h1, h2, h3, h4⟩ := he
        exact hn _ _ _ ⟨E', hr.putOE h1 h2 hd h3, hB.trans h1⟩ (nput _ _ _) h4
      · exact h.elim
    · rename_i hcal
      split at h
      · rename_i x t hx ht
        obtain ⟨v, y, h1, h2, h3⟩ := len_ok (P := P) (ty := o.type) hT hr.1 (hρ x) h
        have ea : c.args = #[x] := by apply Array.ext'; simpa using hx
        have et : c.argTypes = #[t] := by apply Array.ext'; simpa using ht
        refine pureV ?_ h2 h3
        simp [execOp, ho, resolve, hcal, ea, et, invoke, builtin, h1]
      · exact h.elim
    · rename_i hcal
      split at h
      · rename_i s y t t' hx ht
        obtain ⟨rfl, h⟩ := h
        obtain ⟨v', w', E', mem', clock', x, h1, h2, h3, h4, h5⟩ := append_ok (P := P) (ty := o.type) hT hr.1 (hρ s) (hρ y) h
        have ea : c.args = #[s, y] := by apply Array.ext'; simpa using hx
        have et : c.argTypes = #[t', t'] := by apply Array.ext'; simpa using ht
        refine heapV ?_ h2 h3 h4 h5
        simp [execOp, ho, resolve, hcal, ea, et, invoke, builtin, h1]
      · exact h.elim
    · rename_i hcal
      split at h
      · rename_i x y hx
        split at h
        · rename_i k p k' q hp hq
          obtain ⟨rfl, h⟩ := h
          have e1 := hρ x
          have e2 := hρ y
          rw [hp] at e1
          rw [hq] at e2
          have e1 := e1.lit_inv
          have e2 := e2.lit_inv
          have ea : c.args = #[x, y] := by apply Array.ext'; simpa using hx
          refine pureV ?_ (.c (.d (.lit _ rfl))) h
          simp [execOp, ho, resolve, hcal, ea, invoke, builtin, Builtin.min_, Builtin.min2, e1, e2]
        · exact h.elim
      · exact h.elim
    · rename_i hcal
      split at h
      · rename_i x y hx
        split at h
        · rename_i k p k' q hp hq
          obtain ⟨rfl, h⟩ := h
          have e1 := hρ x
          have e2 := hρ y
          rw [hp] at e1
          rw [hq] at e2
          have e1 := e1.lit_inv
          have e2 := e2.lit_inv
          have ea : c.args = #[x, y] := by apply Array.ext'; simpa using hx
          refine pureV ?_ (.c (.d (.lit _ rfl))) h
          simp [execOp, ho, resolve, hcal, ea, invoke, builtin, Builtin.max_, Builtin.max2, e1, e2]
        · exact h.elim
      · exact h.elim
    · exact h.elim
  · rename_i c ho
    split at h
    · rename_i f hcal hargs
      split at h
      · rename_i g caps hg
        obtain ⟨vs, hv1, hv2, hv3⟩ := callee_rep (hρ f) hg
        have ea : c.args = #[] := by apply Array.ext'; simpa using hargs
        unfold Oper.wp
        have hrun : (execOp a.eval o).run P w = .ok (.defer { target := .fn (.func g) vs.toArray, args := #[] }) w := by
          simp [execOp, ho, resolve, hcal, hv1, Deferred.ofValue, ea]
        rw [hrun]
        refine hn ({ σ with defers := (g, caps) :: σ.defers }.putO o.dst .junk) _ _ ⟨E, ?_, hB⟩ (nput _ _ _) h
        have hrel : RelE B.F0 B.w0 E { σ with defers := (g, caps) :: σ.defers } { a with defers := { target := .fn (.func g) vs.toArray, args := #[] } :: a.defers } w := by
          refine ⟨hr.1, hr.2.1, ⟨by simp [hr.2.2.1.1], fun i d x hd' hx => ?_⟩, hr.2.2.2⟩
          cases i with
          | zero =>
            simp at hd' hx
            subst hd'; subst hx
            exact ⟨vs, rfl, hv2, hv3⟩
          | succ i => exact hr.2.2.1.2 i d x (by simpa using hd') (by simpa using hx)
        exact hrel.putO hd (.junk _)
      · exact h.elim
    · exact h.elim
  · exact h.elim
end
end Go.Abs
