/-
  Operations in the order of the text; code with its branches, blocks and loops; functions.
-/
import Derived.Test.YtlacmjfgaehhkaaAbsJ
namespace Go.Abs
open Go.RowKit

section
variable (P : Program) (T : TypeId → Option TI) (F0 : Nat → Prop) (w0 : World)

/-- The operations of a region, one behind the other. -/
def aops (ops : List Oper) : List Oper → St → (St → Prop) → Prop
  | [], σ, K => K σ
  | o :: rest, σ, K =>
    match o.guard with
    | none => astep P T F0 w0 o σ fun σ' => aops ops rest σ' K
    | some (j, want) => (match (ops[j]?).bind (·.dst) with
      | some d => (match σ.get d with
        | .c (.d (.lit (.bool b))) => whenB b want (astep P T F0 w0 o (σ.put d (boo want)) fun σ' => aops ops rest σ' K) (aops ops rest ((σ.put d (boo !want)).putO o.dst .und) K)
        | .und => aops ops rest (σ.putO o.dst .und) K
        | _ => False)
      | none => False)

def dstsOk (n : Nat) (ops : List Oper) : Bool := ops.all fun o => match o.dst with | some d => decide (d < n) | none => true

end

section
variable {P : Program} {T : TypeId → Option TI} {B : Base} {w : World} {E : Env} {σ : St} {a : Act}

theorem dstsOk_mem {n : Nat} {ops : List Oper} (h : dstsOk n ops = true) {o : Oper} (ho : o ∈ ops) : ∀ d, o.dst = some d → d < n := by
  intro d hd
  have := List.all_eq_true.1 h o ho
  simpa [hd] using this

theorem yielded_of {ops : List Oper} {j d : Nat} (hj : (ops[j]?).bind (·.dst) = some d) (tmps : Array Value) (hd : d < tmps.size) :
    yielded ops.toArray tmps j = match tmps.getD d undef with | .bool b => some b | _ => none := by
  unfold yielded
  have e : tmps.getD d undef = tmps[d] := by simp [hd]
  rw [e]
  simp only [List.getElem?_toArray, hj, Option.bind_some, Array.getElem?_eq_getElem hd]
  cases tmps[d] <;> rfl

theorem aops_sound (hT : TypesOk P T) {ops : List Oper} (hdst : ∀ o ∈ ops, ∀ d, o.dst = some d → d < σ.n) {Q : Exit → Act → World → Prop} :
    ∀ (l : List Oper), (∀ o ∈ l, o ∈ ops) → ∀ (τ : St) (a : Act) (w : World) (K : St → Prop), τ.n = σ.n → aops P T B.F0 B.w0 ops l τ K → Rel B τ a w →
      (∀ σ' a' w', Rel B σ' a' w' → σ'.n = σ.n → K σ' → Q .normal a' w') → wpList P ops.toArray Q l a w
  | [], _, τ, a, w, K, hn, h, hr, hk => hk τ a w hr hn h
  | o :: rest, hl, τ, a, w, K, hn, h, hr, hk => by
    have hd := hdst o (hl o (by simp))
    have hl' : ∀ o ∈ rest, o ∈ ops := fun o ho => hl o (by simp [ho])
    unfold aops at h
    unfold wpList
    split at h
    · rename_i hg
      have hw : Region.wanted o (yielded ops.toArray a.tmps) = true := by simp [Region.wanted, hg]
      rw [if_pos hw]
      obtain ⟨E, hr, hB⟩ := hr
      exact .inl (astep_sound hT h hr hB (by rw [hn]; exact hd) fun σ' a' w' r n' k => aops_sound hT hdst rest hl' σ' a' w' K (n'.trans hn) k r hk)
    · rename_i j want hg
      split at h
      · rename_i d hj
        have hdn : d < σ.n := by
          cases ho : ops[j]? with
          | none => rw [ho] at hj; cases hj
          | some o' => rw [ho] at hj; exact hdst o' (List.mem_of_getElem? ho) d hj
        obtain ⟨E, hr, hB⟩ := hr
        have hsz : d < a.tmps.size := by rw [hr.2.1, hn]; exact hdn
        have hy := yielded_of hj a.tmps hsz
        have hsd := hr.2.2.2 d
        split at h
        · rename_i b hb
          rw [hb] at hsd
          have hv := hsd.lit_inv
          rw [hv] at hy
          have hput : ∀ c : Bool, b = c → RelE B.F0 B.w0 E (τ.put d (boo c)) a w := by
            intro c hc
            refine ⟨hr.1, hr.2.1, hr.2.2.1, fun t => ?_⟩
            simp only [St.get, St.put, look_put]
            by_cases ht : d = t
            · subst ht
              simp only [if_true]
              rw [hv, hc]
              exact .c (.d (.lit _ rfl))
            · simp only [ht, if_false]
              exact hr.2.2.2 t
          by_cases hbw : b = want
          · have hw : Region.wanted o (yielded ops.toArray a.tmps) = true := by simp [Region.wanted, hg, hy, hbw]
            rw [if_pos hw]
            exact .inl (astep_sound hT (h.1 hbw) (hput want hbw) hB (by rw [show (τ.put d (boo want)).n = τ.n from rfl, hn]; exact hd) fun σ' a' w' r n' k => aops_sound hT hdst rest hl' σ' a' w' K (n'.trans hn) k r hk)
          · have hbn : b = !want := by cases b <;> cases want <;> simp_all
            have hw : ¬ Region.wanted o (yielded ops.toArray a.tmps) = true := by simp [Region.wanted, hg, hy]; exact hbw
            rw [if_neg hw]
            refine aops_sound hT hdst rest hl' _ _ w K ?_ (h.2 hbn) ⟨E, (hput (!want) hbn).putO (by rw [show (τ.put d (boo !want)).n = τ.n from rfl, hn]; exact hd) .und, hB⟩ hk
            cases o.dst <;> exact hn
        · rename_i hb
          rw [hb] at hsd
          have hv : a.tmps.getD d undef = undef := by generalize a.tmps.getD d undef = v at hsd; cases hsd; rfl
          rw [hv] at hy
          have hw : ¬ Region.wanted o (yielded ops.toArray a.tmps) = true := by simp [Region.wanted, hg, hy, undef]
          rw [if_neg hw]
          refine aops_sound hT hdst rest hl' _ _ w K ?_ h ⟨E, hr.putO (by rw [hn]; exact hd) .und, hB⟩ hk
          cases o.dst <;> exact hn
        · exact h.elim
      · exact h.elim
end
end Go.Abs
