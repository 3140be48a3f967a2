/-
  Code with its branches, blocks and loops, over the abstract view; functions that only make memory of their own.
-/
import Derived.Test.YtlacmjfgaehhkaaAbsK
namespace Go.Abs
open Go.RowKit

/-- What is left to do behind a piece of code. -/
inductive Fr where
  | seq (c : Code)
  | block (id : Nat)

inductive Ex where
  | norm
  | exit (id : Nat)
  | ret

def Ex.fits : Exit → Ex → Prop
  | .normal, .norm => True
  | .exit i, .exit j => i = j
  | .ret, .ret => True
  | _, _ => False

section
variable (P : Program) (B : Base)

/-- From every state that is seen as σ the code comes to an exit that Q allows. -/
def ARun (c : Code) (σ : St) (Q : Ex → St → Prop) : Prop :=
  ∀ a w, Rel B σ a w → c.wp P (fun e a' w' => ∃ x σ', Rel B σ' a' w' ∧ σ'.n = σ.n ∧ Q x σ' ∧ Ex.fits e x) a w

def kont (R : Ex → St → Prop) : List Fr → Ex → St → Prop
  | [], e, σ => R e σ
  | .seq c :: ks, .norm, σ => ARun P B c σ (kont R ks)
  | .seq _ :: ks, .exit i, σ => kont R ks (.exit i) σ
  | .seq _ :: ks, .ret, σ => kont R ks .ret σ
  | .block _ :: ks, .norm, σ => kont R ks .norm σ
  | .block id :: ks, .exit i, σ => if i = id then kont R ks .norm σ else kont R ks (.exit i) σ
  | .block _ :: ks, .ret, σ => kont R ks .ret σ
end

section
variable {P : Program} {T : TypeId → Option TI} {B : Base} {σ : St} {Q : Ex → St → Prop} {R : Ex → St → Prop} {ks : List Fr}

theorem ARun.mono {c : Code} {Q' : Ex → St → Prop} (h : ARun P B c σ Q) (hq : ∀ e τ, Q e τ → Q' e τ) : ARun P B c σ Q' := fun a w hr =>
  Code.wp_mono (fun _ _ _ ⟨x, σ', h1, h2, h3, h4⟩ => ⟨x, σ', h1, h2, hq _ _ h3, h4⟩) (h a w hr)

theorem k_skip (h : kont P B R ks .norm σ) : ARun P B .skip σ (kont P B R ks) := fun _ _ hr => wp_skip ⟨.norm, σ, hr, rfl, h, trivial⟩
theorem k_exit {id : Nat} (h : kont P B R ks (.exit id) σ) : ARun P B (.exit id) σ (kont P B R ks) := fun _ _ hr => wp_exit ⟨.exit id, σ, hr, rfl, h, rfl⟩
theorem k_ret (h : kont P B R ks .ret σ) : ARun P B .ret σ (kont P B R ks) := fun _ _ hr => wp_ret ⟨.ret, σ, hr, rfl, h, trivial⟩

theorem k_seq {x y : Code} (h : ARun P B x σ (kont P B R (.seq y :: ks))) : ARun P B (.seq x y) σ (kont P B R ks) := by
  intro a w hr
  refine wp_seq (Code.wp_mono (fun e a' w' hq => ?_) (h a w hr))
  obtain ⟨x', σ', h1, h2, h3, h4⟩ := hq
  cases e with
  | normal =>
    cases x' with
    | norm =>
      refine Code.wp_mono (fun e a w hq => ?_) (h3 a' w' h1)
      obtain ⟨x2, σ2, q1, q2, q3, q4⟩ := hq
      exact ⟨x2, σ2, q1, q2.trans h2, q3, q4⟩
    | exit i => exact h4.elim
    | ret => exact h4.elim
  | exit i =>
    cases x' with
    | exit j => exact ⟨.exit j, σ', h1, h2, h3, h4⟩
    | norm => exact h4.elim
    | ret => exact h4.elim
  | ret =>
    cases x' with
    | ret => exact ⟨.ret, σ', h1, h2, h3, h4⟩
    | norm => exact h4.elim
    | exit i => exact h4.elim
  | goto l => cases x' <;> exact h4.elim
  | panic c => cases x' <;> exact h4.elim
  | outgrown => cases x' <;> exact h4.elim

theorem k_block {id : Nat} {c : Code} (h : ARun P B c σ (kont P B R (.block id :: ks))) : ARun P B (.block id c) σ (kont P B R ks) := by
  intro a w hr
  refine wp_block (Code.wp_mono (fun e a' w' hq => ?_) (h a w hr))
  obtain ⟨x', σ', h1, h2, h3, h4⟩ := hq
  cases e with
  | normal =>
    cases x' with
    | norm => exact ⟨.norm, σ', h1, h2, h3, h4⟩
    | exit i => exact h4.elim
    | ret => exact h4.elim
  | exit i =>
    cases x' with
    | exit j =>
      have hij : i = j := h4
      subst hij
      simp only [kont] at h3
      simp only [Exit.inBlock]
      by_cases hi : i = id
      · rw [if_pos hi] at h3 ⊢
        exact ⟨.norm, σ', h1, h2, h3, trivial⟩
      · rw [if_neg hi] at h3 ⊢
        exact ⟨.exit i, σ', h1, h2, h3, rfl⟩
    | norm => exact h4.elim
    | ret => exact h4.elim
  | ret =>
    cases x' with
    | ret => exact ⟨.ret, σ', h1, h2, h3, h4⟩
    | norm => exact h4.elim
    | exit i => exact h4.elim
  | goto l => cases x' <;> exact h4.elim
  | panic c => cases x' <;> exact h4.elim
  | outgrown => cases x' <;> exact h4.elim

theorem n_seq {c : Code} (h : ARun P B c σ (kont P B R ks)) : kont P B R (.seq c :: ks) .norm σ := h
theorem n_block {id : Nat} (h : kont P B R ks .norm σ) : kont P B R (.block id :: ks) .norm σ := h
theorem e_seq {c : Code} {i : Nat} (h : kont P B R ks (.exit i) σ) : kont P B R (.seq c :: ks) (.exit i) σ := h
theorem e_here {id : Nat} (h : kont P B R ks .norm σ) : kont P B R (.block id :: ks) (.exit id) σ := by
  simp only [kont, if_true]; exact h
theorem e_past {id i : Nat} (hi : (i == id) = false) (h : kont P B R ks (.exit i) σ) : kont P B R (.block id :: ks) (.exit i) σ := by
  simp only [kont]; rw [if_neg (by simpa using hi)]; exact h
theorem r_seq {c : Code} (h : kont P B R ks .ret σ) : kont P B R (.seq c :: ks) .ret σ := h
theorem r_block {id : Nat} (h : kont P B R ks .ret σ) : kont P B R (.block id :: ks) .ret σ := h

theorem k_region (hT : TypesOk P T) {id : Nat} {ops : Array Oper} (hd : dstsOk σ.n ops.toList = true) (h : ∀ K : St → Prop, (∀ τ, kont P B R ks .norm τ → K τ) → aops P T B.F0 B.w0 ops.toList ops.toList σ K) :
    ARun P B (.region id ops false) σ (kont P B R ks) := by
  intro a w hr
  have h := h _ fun _ q => q
  refine wp_region_list ?_
  have := aops_sound (P := P) (σ := σ) (Q := fun e a' w' => ∃ x σ', Rel B σ' a' w' ∧ σ'.n = σ.n ∧ kont P B R ks x σ' ∧ Ex.fits e x) hT (fun o ho => dstsOk_mem hd ho) ops.toList (fun _ h => h) σ a w _ rfl h hr
    (fun σ' a' w' q1 q2 q3 => ⟨.norm, σ', q1, q2, q3, trivial⟩)
  simpa using this

theorem k_cond {c : Operand} {x y : Code} {b : Bool} (hc : σ.ev c = boo b) (h1 : b = true → ARun P B x σ Q) (h2 : b = false → ARun P B y σ Q) : ARun P B (.cond c x y) σ Q := by
  intro a w hr
  have hr' := hr
  obtain ⟨E, hr, _⟩ := hr
  have hv := hr.ev c
  rw [hc] at hv
  have hv := hv.lit_inv
  exact wp_cond_split hv (fun hb => h1 hb a w hr') (fun hb => h2 hb a w hr')

/-- One state says less than another. -/
def VLe (x y : SVal) : Prop := x = y ∨ y = .junk ∨ (x = .c .emp ∧ y = .c (.d (.sl [])))

def slotsIn (σ : St) : List (Nat × SVal) → Prop
  | [] => True
  | (t, v) :: l => VLe (σ.get t) v ∧ slotsIn σ l

def memIn (mem : List Blk) (m : List Blk) : Prop := ∀ (s : Nat) x, m[s]? = some x → x.live → mem[s]? = some x

structure Weak (σ τ : St) : Prop where
  n : τ.n = σ.n
  slots : slotsIn σ τ.slots
  mem : memIn σ.mem τ.mem
  clock : σ.clock ≤ τ.clock
  defers : τ.defers = σ.defers

theorem VLe.rep {E : Env} {w : World} {v : Value} {x y : SVal} (h : VLe x y) (hv : SRep E w v x) : SRep E w v y := by
  rcases h with rfl | rfl | ⟨rfl, rfl⟩
  · exact hv
  · exact .junk _
  · cases hv with | c hv => cases hv with | emp a => exact .c (.d (.emp _ _))

theorem slotsIn_get {τ : List (Nat × SVal)} (h : slotsIn σ τ) (t : Nat) : VLe (σ.get t) (look τ t) := by
  induction τ with
  | nil => exact .inr (.inl rfl)
  | cons p l ih =>
    obtain ⟨s, v⟩ := p
    rw [look_put]
    by_cases hs : s = t
    · subst hs; rw [if_pos rfl]; exact h.1
    · rw [if_neg hs]; exact ih h.2

theorem Weak.rel {τ : St} (h : Weak σ τ) {a : Act} {w : World} (hr : Rel B σ a w) : Rel B τ a w := by
  obtain ⟨E, ⟨h1, h2, h3, h4⟩, hB⟩ := hr
  refine ⟨E, ⟨?_, by rw [h.n]; exact h2, by rw [h.defers]; exact h3, fun t => (slotsIn_get h.slots t).rep (h4 t)⟩, hB⟩
  have := h1.drop h.mem
  exact ⟨this.below, this.base, this.F, ⟨fun r => Nat.le_trans (this.mem.clock r) h.clock, this.mem.ok, this.mem.apart⟩⟩

theorem k_weak {τ : St} (h : Weak σ τ) {c : Code} (hc : ARun P B c τ Q) : ARun P B c σ Q := fun a w hr => by
  refine Code.wp_mono (fun e a' w' hq => ?_) (hc a w (h.rel hr))
  obtain ⟨x, σ', h1, h2, h3, h4⟩ := hq
  exact ⟨x, σ', h1, h2.trans h.n, h3, h4⟩

theorem exists_least (p : Nat → Prop) (h : ∃ n, p n) : ∃ n, p n ∧ ∀ k, p k → n ≤ k := by
  obtain ⟨n, hn⟩ := h
  induction n using Nat.strongRecOn with
  | _ n ih =>
    by_cases hq : ∃ k, k < n ∧ p k
    · obtain ⟨k, hk, hp⟩ := hq
      exact ih k hk hp
    · exact ⟨n, hn, fun k hk => Nat.le_of_not_lt fun hl => hq ⟨k, hl, hk⟩⟩

/-- A loop: states I x, one of which holds at each round's begin; the measure m goes down. -/
theorem k_loop {X : Type} (I : X → St) (m : X → Nat) (x0 : X) (h0 : Weak σ (I x0)) {c : Code}
    (h : ∀ x, ARun P B c (I x) (fun e τ => match e with | .norm => ∃ y, Weak τ (I y) ∧ m y < m x | .exit i => kont P B R ks (.exit i) τ | .ret => kont P B R ks .ret τ)) :
    ARun P B (.loop c) σ (kont P B R ks) := by
  intro a w hr
  refine wp_loop (fun a w => ∃ x, Rel B (I x) a w ∧ a.tmps.size = σ.n) (fun a w => Classical.epsilon fun n => (∃ x, Rel B (I x) a w ∧ a.tmps.size = σ.n ∧ n = m x) ∧ ∀ k, (∃ x, Rel B (I x) a w ∧ a.tmps.size = σ.n ∧ k = m x) → n ≤ k) ?_ ?_
  · exact ⟨x0, h0.rel hr, by obtain ⟨E, hr, _⟩ := hr; exact hr.2.1⟩
  · intro a w hx
    have spec := fun (a : Act) (w : World) (hx : ∃ x, Rel B (I x) a w ∧ a.tmps.size = σ.n) =>
      Classical.epsilon_spec (exists_least (fun n => ∃ x, Rel B (I x) a w ∧ a.tmps.size = σ.n ∧ n = m x) (by obtain ⟨x, h1, h2⟩ := hx; exact ⟨m x, x, h1, h2, rfl⟩))
    obtain ⟨⟨x, hrx, hsz, hm⟩, _⟩ := spec a w hx
    have hIn : (I x).n = σ.n := by obtain ⟨E, hr, _⟩ := hrx; exact hr.2.1.symm.trans hsz
    refine Code.wp_mono (fun e a' w' hq => ?_) (h x a w hrx)
    obtain ⟨x', σ', h1, h2, h3, h4⟩ := hq
    have hn' : σ'.n = σ.n := h2.trans hIn
    cases e with
    | normal =>
      cases x' with
      | norm =>
        obtain ⟨y, hy, hlt⟩ := h3
        have hry := hy.rel h1
        have hsz' : a'.tmps.size = σ.n := by obtain ⟨E, hr, _⟩ := h1; exact hr.2.1.trans hn'
        refine ⟨⟨y, hry, hsz'⟩, ?_⟩
        have := (spec a' w' ⟨y, hry, hsz'⟩).2 (m y) ⟨y, hry, hsz', rfl⟩
        omega
      | exit i => exact h4.elim
      | ret => exact h4.elim
    | exit i =>
      cases x' with
      | exit j => exact ⟨.exit j, σ', h1, hn', h3, h4⟩
      | norm => exact h4.elim
      | ret => exact h4.elim
    | ret =>
      cases x' with
      | ret => exact ⟨.ret, σ', h1, hn', h3, h4⟩
      | norm => exact h4.elim
      | exit i => exact h4.elim
    | goto l => cases x' <;> exact h4.elim
    | panic c => cases x' <;> exact h4.elim
    | outgrown => cases x' <;> exact h4.elim

/-- The loop's round, as a continuation: what must hold at its end. -/
def roundEnd (P : Program) (B : Base) (R : Ex → St → Prop) (ks : List Fr) (G : St → Prop) : Ex → St → Prop
  | .norm, τ => G τ
  | .exit i, τ => kont P B R ks (.exit i) τ
  | .ret, τ => kont P B R ks .ret τ

/-- The same loop rule, the round with a continuation of its own. -/
theorem k_while {X : Type} (I : X → St) (m : X → Nat) (x0 : X) (h0 : Weak σ (I x0)) {c : Code}
    (h : ∀ x, ARun P B c (I x) (kont P B (roundEnd P B R ks fun τ => ∃ y, Weak τ (I y) ∧ m y < m x) [])) : ARun P B (.loop c) σ (kont P B R ks) :=
  k_loop I m x0 h0 fun x => (h x).mono fun e τ q => by cases e <;> exact q

/-- A slice that is empty and without room becomes one of the call's own. -/
theorem k_own (t : Nat) (ety : TypeId) (esz : Nat) (ht : σ.get t = .c .emp) (hz : 0 < esz) {c : Code}
    (h : ARun P B c { σ.put t (.c (.arr σ.mem.length (σ.clock + 1) 0)) with mem := σ.mem ++ [Blk.arr (σ.clock + 1) ety esz []], clock := σ.clock + 1 } Q) : ARun P B c σ Q := by
  intro a w hr
  obtain ⟨E, hr, hB⟩ := hr
  have hn := hr.1.newArr (w' := w) ety esz 0 [] hz (by simp) (by simp) (by simp [maxLen]) (Below.refl _ _) (fun _ _ => rfl) (.inl rfl)
  refine h a w ⟨_, ⟨hn.1, hr.2.1, hr.2.2.1.le hn.2, fun s => ?_⟩, hB.trans hn.2⟩
  simp only [St.get, St.put, look_put]
  by_cases hs : t = s
  · subst hs
    rw [if_pos rfl]
    have := hr.2.2.2 t
    rw [ht] at this
    generalize a.tmps.getD t undef = v at this
    cases this with | c q => cases q with | emp b =>
    exact .c (.arr _ _ 0 _ rfl (by simp [Env.upd]) (fun _ => .inl ⟨by simp [Env.upd], rfl, b, rfl⟩))
  · rw [if_neg hs]
    exact (hr.2.2.2 s).le hn.2
end
end Go.Abs
