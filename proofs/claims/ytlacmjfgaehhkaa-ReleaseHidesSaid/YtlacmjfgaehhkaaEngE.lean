/-
  The rules of the walk, continued: branches, loops, what a function hands back; memory that becomes data.
-/
import Derived.Test.YtlacmjfgaehhkaaEngD
namespace Go.Abs
open Go.RowKit

theorem memIn_nil {m : List Blk} : memIn m [] := fun s x h => by simp at h
theorem memIn_same {b : Blk} {m m' : List Blk} (h : memIn m m') : memIn (b :: m) (b :: m') := fun s x hs hx => by
  cases s with
  | zero => simpa using hs
  | succ s => simpa using h s x (by simpa using hs) hx
theorem memIn_dead {b : Blk} {m m' : List Blk} (h : memIn m m') : memIn (b :: m) (.dead :: m') := fun s x hs hx => by
  cases s with
  | zero => simp at hs; subst hs; exact hx.elim
  | succ s => simpa using h s x (by simpa using hs) hx
theorem memIn_refl {m : List Blk} : memIn m m := fun _ _ h _ => h
theorem memIn_arr {k k' : Nat} {t : TypeId} {z : Nat} {es es' : List (List Dat)} {m m' : List Blk} (hk : k = k') (he : es = es') (h : memIn m m') : memIn (.arr k t z es :: m) (.arr k' t z es' :: m') := by subst hk; subst he; exact memIn_same h
theorem memIn_box {k k' : Nat} {cs cs' : List Cell} {m m' : List Blk} (hk : k = k') (he : cs = cs') (h : memIn m m') : memIn (.box k cs :: m) (.box k' cs' :: m') := by subst hk; subst he; exact memIn_same h
theorem vle_int {k : IntKind} {a b : Int} (h : a = b) : VLe (.c (.d (.lit (.int k a)))) (.c (.d (.lit (.int k b)))) := by subst h; exact .inl rfl
theorem vle_bool {a b : Bool} (h : a = b) : VLe (.c (.d (.lit (.bool a)))) (.c (.d (.lit (.bool b)))) := by subst h; exact .inl rfl
theorem vle_d {a b : Dat} (h : a = b) : VLe (.c (.d a)) (.c (.d b)) := by subst h; exact .inl rfl
theorem vle_arr {r k k' m m' : Nat} (hk : k = k') (h : m = m') : VLe (.c (.arr r k m)) (.c (.arr r k' m')) := by subst hk; subst h; exact .inl rfl
theorem vle_agg {a b : List Cell} (h : a = b) : VLe (.agg a) (.agg b) := by subst h; exact .inl rfl
theorem vle_refl {a : SVal} : VLe a a := .inl rfl
theorem vle_junk {a : SVal} : VLe a .junk := .inr (.inl rfl)
theorem vle_emp : VLe (.c .emp) (.c (.d (.sl []))) := .inr (.inr ⟨rfl, rfl⟩)
theorem vle_empN {l : List (List Dat)} (h : l = []) : VLe (.c .emp) (.c (.d (.sl l))) := by subst h; exact vle_emp

/-- The slots that a loop leaves alone. -/
inductive Keep : List Nat → List (Nat × SVal) → List (Nat × SVal) → Prop
  | nil (W : List Nat) : Keep W [] []
  | out {W : List Nat} {t : Nat} {v : SVal} {sl keep : List (Nat × SVal)} (h : W.contains t = true) (hk : Keep W sl keep) : Keep W ((t, v) :: sl) keep
  | into {W : List Nat} {t : Nat} {v : SVal} {sl keep : List (Nat × SVal)} (h : W.contains t = false) (hk : Keep (t :: W) sl keep) : Keep W ((t, v) :: sl) ((t, v) :: keep)

inductive Pre (W : List Nat) (keep : List (Nat × SVal)) : List (Nat × SVal) → Prop
  | here : Pre W keep keep
  | cons {t : Nat} {v : SVal} {sl : List (Nat × SVal)} (h : W.contains t = true) (hp : Pre W keep sl) : Pre W keep ((t, v) :: sl)

theorem Keep.not {W : List Nat} {sl keep : List (Nat × SVal)} (h : Keep W sl keep) : ∀ t v, (t, v) ∈ keep → W.contains t = false := by
  induction h with
  | nil W => intro t v hm; simp at hm
  | out h hk ih => exact ih
  | into h hk ih =>
    intro t' v' hm
    rcases List.mem_cons.1 hm with e | hm
    · cases e; exact h
    · have := ih t' v' hm
      simp only [List.contains_cons, Bool.or_eq_false_iff] at this
      exact this.2

theorem Keep.look {W : List Nat} {sl keep : List (Nat × SVal)} (h : Keep W sl keep) : (∀ t v, (t, v) ∈ keep → look sl t = v) ∧ (∀ t v, (t, v) ∈ keep → look keep t = v) := by
  induction h with
  | nil W => exact ⟨by simp, by simp⟩
  | out h hk ih =>
    rename_i W t v sl keep
    refine ⟨fun t' v' hm => ?_, ih.2⟩
    rw [look_put]
    have := hk.not t' v' hm
    rw [if_neg (by rintro rfl; rw [h] at this; cases this)]
    exact ih.1 t' v' hm
  | into h hk ih =>
    rename_i W t v sl keep
    have hne : ∀ t' v', (t', v') ∈ keep → t ≠ t' := by
      rintro t' v' hm rfl
      have := hk.not t v' hm
      simp at this
    refine ⟨fun t' v' hm => ?_, fun t' v' hm => ?_⟩
    · rcases List.mem_cons.1 hm with e | hm
      · cases e; simp [look_put]
      · rw [look_put, if_neg (hne t' v' hm)]; exact ih.1 t' v' hm
    · rcases List.mem_cons.1 hm with e | hm
      · cases e; simp [look_put]
      · rw [look_put, if_neg (hne t' v' hm)]; exact ih.2 t' v' hm

theorem slotsIn_of {σ : St} : ∀ {l : List (Nat × SVal)}, (∀ t v, (t, v) ∈ l → VLe (σ.get t) v) → slotsIn σ l
  | [], _ => trivial
  | (t, v) :: l, h => ⟨h t v (by simp), slotsIn_of fun t v hm => h t v (by simp [hm])⟩

theorem slotsIn_append {σ : St} : ∀ {a b : List (Nat × SVal)}, slotsIn σ a → slotsIn σ b → slotsIn σ (a ++ b)
  | [], _, _, hb => hb
  | (_, _) :: _, _, ha, hb => ⟨ha.1, slotsIn_append ha.2 hb⟩

theorem Pre.look {W : List Nat} {keep sl : List (Nat × SVal)} (h : Pre W keep sl) (hn : ∀ t v, (t, v) ∈ keep → W.contains t = false) (hl : ∀ t v, (t, v) ∈ keep → look keep t = v) : ∀ t v, (t, v) ∈ keep → look sl t = v := by
  induction h with
  | here => exact hl
  | cons h hp ih =>
    intro t' v' hm
    rw [look_put]
    have := hn t' v' hm
    rw [if_neg (by rintro rfl; rw [h] at this; cases this)]
    exact ih t' v' hm

section
variable {P : Program} {T : TypeId → Option TI} {B : Base} {Q : Ex → St → Prop} {R : Ex → St → Prop} {ks : List Fr}

theorem k_inv {σ : St} {X : Type} (Inv : X → Prop) (I : X → St) (m : X → Nat) (x0 : X) (hx : Inv x0) (h0 : Weak σ (I x0)) {c : Code}
    (h : ∀ x, Inv x → ARun P B c (I x) (kont P B (roundEnd P B R ks fun τ => ∃ y, Inv y ∧ Weak τ (I y) ∧ m y < m x) [])) : ARun P B (.loop c) σ (kont P B R ks) := by
  refine k_while (X := { x // Inv x }) (fun x => I x.1) (fun x => m x.1) ⟨x0, hx⟩ h0 fun x => ?_
  refine (h x.1 x.2).mono fun e τ q => ?_
  cases e with
  | norm =>
    obtain ⟨y, h1, h2, h3⟩ := q
    exact ⟨⟨y, h1⟩, h2, h3⟩
  | exit i => exact q
  | ret => exact q

section
variable {n : Nat} {sl : List (Nat × SVal)} {mem : List Blk} {ck : Nat} {df : List (FuncId × List Cell)}

structure LoopG {X : Type} (Inv : X → Prop) (chg : X → List (Nat × SVal) → List (Nat × SVal)) (memF : X → List Blk) (m : X → Nat) (W : List Nat) (keep : List (Nat × SVal)) (n : Nat) (df : List (FuncId × List Cell)) (x : X) (τ : St) : Prop where
  ex : ∃ y, Inv y ∧ τ.n = n ∧ slotsIn τ (chg y []) ∧ Pre W keep τ.slots ∧ memIn τ.mem (memF y) ∧ τ.defers = df ∧ m y < m x

/-- A loop: what its rounds change is named, what they leave alone is kept. -/
theorem k_lp {X : Type} (W : List Nat) (Inv : X → Prop) (chg : X → List (Nat × SVal) → List (Nat × SVal)) (memF : X → List Blk) (m : X → Nat) (x0 : X) {keep : List (Nat × SVal)} {c : Code} (hk : Keep W sl keep) (hch : ∀ x l, chg x l = chg x [] ++ l)
    (hs : slotsIn ⟨n, sl, mem, ck, df⟩ (chg x0 [])) (hm : memIn mem (memF x0)) (hx : Inv x0)
    (h : ∀ x k, Inv x → ARun P B c ⟨n, chg x keep, memF x, k, df⟩ (kont P B (roundEnd P B R ks (LoopG Inv chg memF m W keep n df x)) [])) : ARun P B (.loop c) ⟨n, sl, mem, ck, df⟩ (kont P B R ks) := by
  refine k_inv (σ := ⟨n, sl, mem, ck, df⟩) (X := X × Nat) (fun x => Inv x.1) (fun x => ⟨n, chg x.1 keep, memF x.1, x.2, df⟩) (fun x => m x.1) (x0, ck) hx ⟨rfl, ?_, hm, Nat.le_refl _, rfl⟩ fun x hx => ?_
  · simp only
    rw [hch]
    exact slotsIn_append hs (slotsIn_of fun t v ht => .inl (hk.look.1 t v ht))
  · refine (h x.1 x.2 hx).mono fun e τ q => ?_
    cases e with
    | norm =>
      obtain ⟨y, h1, h2, h3, h4, h5, h7, h8⟩ := q.ex
      refine ⟨(y, τ.clock), h1, ⟨h2.symm, ?_, h5, Nat.le_refl _, h7.symm⟩, h8⟩
      simp only
      rw [hch]
      exact slotsIn_append h3 (slotsIn_of fun t v ht => .inl (h4.look hk.not hk.look.2 t v ht))
    | exit i => exact q
    | ret => exact q

theorem k_round {X : Type} {Inv : X → Prop} {chg : X → List (Nat × SVal) → List (Nat × SVal)} {memF : X → List Blk} {m : X → Nat} {W : List Nat} {keep : List (Nat × SVal)} {x : X} (y : X) (hs : slotsIn ⟨n, sl, mem, ck, df⟩ (chg y [])) (hp : Pre W keep sl) (hm : memIn mem (memF y)) (hi : Inv y) (hd : m y < m x) :
    kont P B (roundEnd P B R ks (LoopG Inv chg memF m W keep n df x)) [] .norm ⟨n, sl, mem, ck, df⟩ := ⟨y, hi, rfl, hs, hp, hm, rfl, hd⟩

theorem o_exit {σ : St} {G : St → Prop} {i : Nat} (h : kont P B R ks (.exit i) σ) : kont P B (roundEnd P B R ks G) [] (.exit i) σ := h
theorem o_ret {σ : St} {G : St → Prop} (h : kont P B R ks .ret σ) : kont P B (roundEnd P B R ks G) [] .ret σ := h

theorem k_if {c : Operand} {x y : Code} {b : Bool} (hc : evS sl c = boo b) (h1 : b = true → ARun P B x ⟨n, sl, mem, ck, df⟩ Q) (h2 : b = false → ARun P B y ⟨n, sl, mem, ck, df⟩ Q) : ARun P B (.cond c x y) ⟨n, sl, mem, ck, df⟩ Q :=
  k_cond (b := b) (by rw [evS_eq]; exact hc) h1 h2
theorem k_ifT {c : Operand} {x y : Code} {b : Bool} (hc : evS sl c = boo b) (hb : b = true) (h1 : ARun P B x ⟨n, sl, mem, ck, df⟩ Q) : ARun P B (.cond c x y) ⟨n, sl, mem, ck, df⟩ Q :=
  k_if hc (fun _ => h1) (fun q => by rw [hb] at q; cases q)
theorem k_ifF {c : Operand} {x y : Code} {b : Bool} (hc : evS sl c = boo b) (hb : b = false) (h1 : ARun P B y ⟨n, sl, mem, ck, df⟩ Q) : ARun P B (.cond c x y) ⟨n, sl, mem, ck, df⟩ Q :=
  k_if hc (fun q => by rw [hb] at q; cases q) (fun _ => h1)

/-- What is seen may be said anew. -/
theorem k_turn {c : Code} {σ τ : St} (hn : τ.n = σ.n) (ht : ∀ a w, Rel B σ a w → Rel B τ a w) (h : ARun P B c τ Q) : ARun P B c σ Q := fun a w hr => by
  refine Code.wp_mono (fun e a' w' hq => ?_) (h a w (ht a w hr))
  obtain ⟨x, σ', h1, h2, h3, h4⟩ := hq
  exact ⟨x, σ', h1, h2.trans hn, h3, h4⟩

theorem freeze_rel {t r k m : Nat} {ety : TypeId} {esz : Nat} {es : List (List Dat)} (ht : look sl t = .c (.arr r k m)) (hm : mem[r]? = some (.arr k ety esz es)) (hl : m ≤ es.length) {a : Act} {w : World} (h : Rel B ⟨n, sl, mem, ck, df⟩ a w) :
    Rel B ⟨n, (t, .c (.d (.sl (es.take m)))) :: sl, mem.set r .dead, ck, df⟩ a w := by
  obtain ⟨E, hr, hB⟩ := h
  have hz := hr.1.freeze r k ety esz es hm
  refine ⟨_, ⟨hz.1, hr.2.1, hr.2.2.1.le hz.2, fun s => ?_⟩, hB.trans hz.2⟩
  simp only [St.get, look_put]
  by_cases hs : t = s
  · subst hs
    rw [if_pos rfl]
    have := hr.2.2.2 t
    simp only [St.get, ht] at this
    generalize a.tmps.getD t undef = v at this
    cases this with | c q => exact .c (.d (arr_dat hr.1 hm hl q (fun b hb => .inl hb) (fun hc => .inr ⟨rfl, hc⟩)))
  · rw [if_neg hs]
    exact (hr.2.2.2 s).le hz.2

/-- An array of the call's own becomes data. -/
theorem k_freeze (t : Nat) {r k m : Nat} {ety : TypeId} {esz : Nat} {es es' : List (List Dat)} {mem' : List Blk} {c : Code} (ht : look sl t = .c (.arr r k m)) (hm : mem[r]? = some (.arr k ety esz es)) (hl : m ≤ es.length) (hes : es.take m = es') (hm' : mem.set r .dead = mem')
    (h : ARun P B c ⟨n, (t, .c (.d (.sl es'))) :: sl, mem', ck, df⟩ Q) : ARun P B c ⟨n, sl, mem, ck, df⟩ Q := by
  subst hes; subst hm'
  exact k_turn (τ := ⟨n, (t, .c (.d (.sl (es.take m)))) :: sl, mem.set r .dead, ck, df⟩) rfl (fun a w hr => freeze_rel ht hm hl hr) h

theorem r_freeze (t : Nat) {F0 : Nat → Prop} {w0 : World} {ops rest : List Oper} {K : St → Prop} {acc : List Nat} {r k m : Nat} {ety : TypeId} {esz : Nat} {es es' : List (List Dat)} {mem' : List Blk} (ht : look sl t = .c (.arr r k m)) (hm : mem[r]? = some (.arr k ety esz es)) (hl : m ≤ es.length) (hes : es.take m = es') (hm' : mem.set r .dead = mem')
    (h : Reg P F0 w0 false ops K rest ⟨n, (t, .c (.d (.sl es'))) :: sl, mem', ck, df⟩ acc) : Reg P F0 w0 false ops K rest ⟨n, sl, mem, ck, df⟩ acc := by
  subst hes; subst hm'
  exact .turn (τ := ⟨n, (t, .c (.d (.sl (es.take m)))) :: sl, mem.set r .dead, ck, df⟩) rfl rfl (fun _ _ _ _ _ hr => freeze_rel ht hm hl hr) h

theorem own_rel {t : Nat} (ety : TypeId) (esz : Nat) (ht : look sl t = .c .emp) (hz : 0 < esz) {a : Act} {w : World} (h : Rel B ⟨n, sl, mem, ck, df⟩ a w) :
    Rel B ⟨n, (t, .c (.arr mem.length (ck + 1) 0)) :: sl, mem ++ [Blk.arr (ck + 1) ety esz []], ck + 1, df⟩ a w := by
  obtain ⟨E, hr, hB⟩ := h
  have hn := hr.1.newArr (w' := w) ety esz 0 [] hz (by simp) (by simp) (by simp [maxLen]) (Below.refl _ _) (fun _ _ => rfl) (.inl rfl)
  refine ⟨_, ⟨hn.1, hr.2.1, hr.2.2.1.le hn.2, fun s => ?_⟩, hB.trans hn.2⟩
  simp only [St.get, look_put]
  by_cases hs : t = s
  · subst hs
    rw [if_pos rfl]
    have := hr.2.2.2 t
    simp only [St.get, ht] at this
    generalize a.tmps.getD t undef = v at this
    cases this with | c q => cases q with | emp b =>
    exact .c (.arr _ _ 0 _ rfl (by simp [Env.upd]) (fun _ => .inl ⟨by simp [Env.upd], rfl, b, rfl⟩))
  · rw [if_neg hs]
    exact (hr.2.2.2 s).le hn.2

/-- A slice that is empty and without room becomes one of the call's own. -/
theorem k_ownS (t : Nat) (ety : TypeId) (esz : Nat) {r : Nat} {mem' : List Blk} {c : Code} (ht : look sl t = .c .emp) (hz : Nat.blt 0 esz = true) (hr : mem.length = r) (hm' : mem ++ [Blk.arr (ck + 1) ety esz []] = mem')
    (h : ARun P B c ⟨n, (t, .c (.arr r (ck + 1) 0)) :: sl, mem', ck + 1, df⟩ Q) : ARun P B c ⟨n, sl, mem, ck, df⟩ Q := by
  subst hr; subst hm'
  exact k_turn (τ := ⟨n, (t, .c (.arr mem.length (ck + 1) 0)) :: sl, mem ++ [Blk.arr (ck + 1) ety esz []], ck + 1, df⟩) rfl (fun a w hr => own_rel ety esz ht (by simp only [Nat.blt, Nat.ble_eq] at hz; omega) hr) h

/- What is handed back. -/
theorem d_tmp {t : Nat} {x y : Dat} (h : look sl t = .c (.d y)) (e : y = x) : resVal T ⟨n, sl, mem, ck, df⟩ (.tmp t) fun s => SF mem s (.one x) := by
  subst e
  simp only [resVal, St.get, h, SF, CF, Cell.dat]
theorem d_tmpE {t : Nat} {x : Dat} (h : look sl t = .c .emp) (e : .sl [] = x) : resVal T ⟨n, sl, mem, ck, df⟩ (.tmp t) fun s => SF mem s (.one x) := by
  subst e
  simp only [resVal, St.get, h, SF, CF, Cell.dat]
theorem d_tmpA {t r k m : Nat} {ety : TypeId} {esz : Nat} {es : List (List Dat)} {x : Dat} (h : look sl t = .c (.arr r k m)) (hm : mem[r]? = some (.arr k ety esz es)) (hl : m ≤ es.length) (e : .sl (es.take m) = x) : resVal T ⟨n, sl, mem, ck, df⟩ (.tmp t) fun s => SF mem s (.one x) := by
  subst e
  simp only [resVal, St.get, h, SF, CF, hm]
  exact ⟨trivial, hl, trivial⟩
theorem d_tmpG {t : Nat} {cs : List Cell} {xs : List Dat} (h : look sl t = .agg cs) (hc : CFs mem cs xs) : resVal T ⟨n, sl, mem, ck, df⟩ (.tmp t) fun s => SF mem s (.agg xs) := by
  simp only [resVal, St.get, h, SF]
  exact hc
theorem d_cell {a t r k o : Nat} {i : TI} {cs : List Cell} {c : Cell} {x : Dat} (h : look sl a = .c (.bp r k o)) (ht : T t = some i) (ha : i.desc.agg = false) (hs : i.size = 1) (hm : mem[r]? = some (.box k cs)) (hy : cs[o]? = some c) (hc : CF mem c x) : resVal T ⟨n, sl, mem, ck, df⟩ (.cell a t) fun s => SF mem s (.one x) := by
  have hlt := lt_of_getElem? hy
  have e1 : (cs.drop o).take 1 = [c] := by
    rw [List.drop_eq_getElem_cons hlt]
    rw [List.getElem?_eq_getElem hlt] at hy
    simp at hy
    simp [hy]
  simp only [resVal, St.get, h, aLoad, ht, ha, hs, hm]
  refine ⟨.inr trivial, trivial, hlt, ?_⟩
  rw [e1]
  exact hc
theorem d_cellG {a t r k o : Nat} {i : TI} {cs cs' : List Cell} {xs : List Dat} (h : look sl a = .c (.bp r k o)) (ht : T t = some i) (ha : i.desc.agg = true) (hm : mem[r]? = some (.box k cs)) (hs : decide (o + i.size ≤ cs.length) = true) (hcs : (cs.drop o).take i.size = cs') (hc : CFs mem cs' xs) : resVal T ⟨n, sl, mem, ck, df⟩ (.cell a t) fun s => SF mem s (.agg xs) := by
  subst hcs
  simp only [resVal, St.get, h, aLoad, ht, ha, hm]
  exact ⟨.inl trivial, trivial, by simpa using hs, hc⟩

theorem cf_d {x y : Dat} (e : y = x) : CF mem (.d y) x := by subst e; simp only [CF, Cell.dat]
theorem cf_emp {x : Dat} (e : .sl [] = x) : CF mem .emp x := by subst e; simp only [CF, Cell.dat]
theorem cf_arr {r k m : Nat} {ety : TypeId} {esz : Nat} {es : List (List Dat)} {x : Dat} (hm : mem[r]? = some (.arr k ety esz es)) (hl : m ≤ es.length) (e : .sl (es.take m) = x) : CF mem (.arr r k m) x := by
  subst e; simp only [CF, hm]; exact ⟨trivial, hl, trivial⟩
theorem cfs_nil : CFs mem [] [] := trivial
theorem cfs_cons {c : Cell} {x : Dat} {cs : List Cell} {xs : List Dat} (h : CF mem c x) (h' : CFs mem cs xs) : CFs mem (c :: cs) (x :: xs) := ⟨h, h'⟩

theorem f_ret1 {x : ResultVar} {p : PV} (hd : defersOk P df) (h : resVal T ⟨n, sl, mem, ck, df⟩ x fun s => SF mem s p) : kont P B (fin P T [x] (.v p)) [] .ret ⟨n, sl, mem, ck, df⟩ := ⟨hd, h⟩
theorem f_end1 {x : ResultVar} {p : PV} (hd : defersOk P df) (h : resVal T ⟨n, sl, mem, ck, df⟩ x fun s => SF mem s p) : kont P B (fin P T [x] (.v p)) [] .norm ⟨n, sl, mem, ck, df⟩ := ⟨hd, h⟩
theorem f_ret2 {x y : ResultVar} {p q : PV} (hd : defersOk P df) (h1 : resVal T ⟨n, sl, mem, ck, df⟩ x fun s => SF mem s p) (h2 : resVal T ⟨n, sl, mem, ck, df⟩ y fun s => SF mem s q) : kont P B (fin P T [x, y] (.tup [p, q])) [] .ret ⟨n, sl, mem, ck, df⟩ := ⟨hd, by simp, h1, h2, trivial⟩
theorem f_ret3 {x y z : ResultVar} {p q r : PV} (hd : defersOk P df) (h1 : resVal T ⟨n, sl, mem, ck, df⟩ x fun s => SF mem s p) (h2 : resVal T ⟨n, sl, mem, ck, df⟩ y fun s => SF mem s q) (h3 : resVal T ⟨n, sl, mem, ck, df⟩ z fun s => SF mem s r) : kont P B (fin P T [x, y, z] (.tup [p, q, r])) [] .ret ⟨n, sl, mem, ck, df⟩ := ⟨hd, by simp, h1, h2, h3, trivial⟩
theorem def_nil : defersOk P [] := trivial
theorem def_cons {f : FuncId} {cs : List Cell} {l : List (FuncId × List Cell)} (h : DeferOk P f cs.length) (h' : defersOk P l) : defersOk P ((f, cs) :: l) := ⟨h, h'⟩
end
variable {σ : St}
/-- A cell of a box that holds an empty slice without room: from now on it is one of the call's own arrays. -/
theorem k_ownBox (r j : Nat) (ety : TypeId) (esz : Nat) (k : Nat) (cs : List Cell) (hm : σ.mem[r]? = some (.box k cs)) (hj : cs[j]? = some .emp) (hz : 0 < esz) {c : Code}
    (h : ARun P B c { σ with mem := σ.mem.set r (.box k (cs.set j (.arr σ.mem.length (σ.clock + 1) 0))) ++ [Blk.arr (σ.clock + 1) ety esz []], clock := σ.clock + 1 } Q) : ARun P B c σ Q := by
  intro a w hr
  obtain ⟨E, hr, hB⟩ := hr
  have hn := hr.1.newArr (w' := w) ety esz 0 [] hz (by simp) (by simp) (by simp [maxLen]) (Below.refl _ _) (fun _ _ => rfl) (.inl rfl)
  have hlt := lt_of_getElem? hm
  have hjl := lt_of_getElem? hj
  refine h a w ⟨_, ⟨?_, hr.2.1, hr.2.2.1.le hn.2, fun s => (hr.2.2.2 s).le hn.2⟩, hB.trans hn.2⟩
  obtain ⟨n1, n2, n3, n4⟩ := hn.1
  refine ⟨n1, n2, n3, ⟨n4.clock, fun s b hs => ?_, fun s s' b b' hs hs' hb hb' hne => ?_⟩⟩
  · by_cases hrs : s = r
    · subst hrs
      rw [List.getElem?_append_left (by simpa using hlt), List.getElem?_set_self (by simpa using hlt)] at hs
      simp only [Option.some.injEq] at hs
      subst hs
      have ho := n4.ok s (.box k cs) (by rw [List.getElem?_append_left hlt]; exact hm)
      obtain ⟨o1, o2, o3, c0, ety0, o4, o5, o6⟩ := ho
      refine ⟨o1, o2, o3, c0, ety0, o4, by simpa using o5, fun i v x hv hx => ?_⟩
      by_cases hij : j = i
      · subst hij
        rw [List.getElem?_set_self hjl] at hx
        simp only [Option.some.injEq] at hx
        subst hx
        have := o6 j v .emp hv hj
        cases this with | emp q =>
        exact .arr _ _ 0 _ rfl (by simp [Env.upd]) (fun _ => .inl ⟨by simp [Env.upd], rfl, q, rfl⟩)
      · rw [List.getElem?_set_ne hij] at hx
        exact o6 i v x hv hx
    · refine n4.ok s b ?_
      by_cases hsl : s < σ.mem.length
      · rw [List.getElem?_append_left (by simpa using hsl), List.getElem?_set_ne (Ne.symm hrs)] at hs
        rw [List.getElem?_append_left hsl]
        exact hs
      · rw [List.getElem?_append_right (by simpa using Nat.le_of_not_lt hsl)] at hs
        rw [List.getElem?_append_right (Nat.le_of_not_lt hsl)]
        simpa using hs
  · have key : ∀ (s : Nat) b, (σ.mem.set r (.box k (cs.set j (.arr σ.mem.length (σ.clock + 1) 0))) ++ [Blk.arr (σ.clock + 1) ety esz []])[s]? = some b →
        ∃ b0, (σ.mem ++ [Blk.arr (σ.clock + 1) ety esz []])[s]? = some b0 ∧ ∀ E', b.has E' s → b0.has E' s := by
      intro s b hs
      by_cases hrs : s = r
      · subst hrs
        rw [List.getElem?_append_left (by simpa using hlt), List.getElem?_set_self (by simpa using hlt)] at hs
        simp only [Option.some.injEq] at hs
        subst hs
        exact ⟨.box k cs, by rw [List.getElem?_append_left hlt]; exact hm, fun _ _ => trivial⟩
      · refine ⟨b, ?_, fun _ h => h⟩
        by_cases hsl : s < σ.mem.length
        · rw [List.getElem?_append_left (by simpa using hsl), List.getElem?_set_ne (Ne.symm hrs)] at hs
          rw [List.getElem?_append_left hsl]
          exact hs
        · rw [List.getElem?_append_right (by simpa using Nat.le_of_not_lt hsl)] at hs
          rw [List.getElem?_append_right (Nat.le_of_not_lt hsl)]
          simpa using hs
    obtain ⟨b0, q1, q2⟩ := key s b hs
    obtain ⟨b1, p1, p2⟩ := key s' b' hs'
    exact n4.apart s s' b0 b1 q1 p1 (q2 _ hb) (p2 _ hb') hne

theorem k_ownBoxS {n : Nat} {sl : List (Nat × SVal)} {mem : List Blk} {ck : Nat} {df : List (FuncId × List Cell)} (r j : Nat) (ety : TypeId) (esz : Nat) {k r' : Nat} {cs cs' : List Cell} {mem' : List Blk} {c : Code} (hm : mem[r]? = some (.box k cs)) (hj : cs[j]? = some .emp) (hz : Nat.blt 0 esz = true) (hr : mem.length = r') (hcs : cs.set j (.arr r' (ck + 1) 0) = cs') (hm' : mem.set r (.box k cs') ++ [Blk.arr (ck + 1) ety esz []] = mem')
    (h : ARun P B c ⟨n, sl, mem', ck + 1, df⟩ Q) : ARun P B c ⟨n, sl, mem, ck, df⟩ Q := by
  subst hr; subst hcs; subst hm'
  exact k_ownBox (σ := ⟨n, sl, mem, ck, df⟩) r j ety esz k cs hm hj (by simp only [Nat.blt, Nat.ble_eq] at hz; omega) h

/-- No slice is longer than an int. -/
theorem k_len (t : Nat) {es : List (List Dat)} (ht : σ.get t = .c (.d (.sl es))) {c : Code} (h : es.length ≤ maxLen → ARun P B c σ Q) : ARun P B c σ Q := by
  intro a w hr
  refine h ?_ a w hr
  obtain ⟨E, hr, _⟩ := hr
  have := hr.2.2.2 t
  rw [ht] at this
  generalize a.tmps.getD t undef = v at this
  cases this with | c q => cases q with | d q => cases q with
  | emp => simp
  | sl _ b off cap size u h1 h2 h3 => exact Nat.le_trans h2 h3

/-- Results that are handed back as they are seen. -/
def resM (T : TypeId → Option TI) (σ : St) (rs : List ResultVar) (R : SVal → Prop) : Prop :=
  match rs with
  | [] => R (.tup [])
  | [x] => resVal T σ x R
  | [x, y] => resVal T σ x fun a => resVal T σ y fun b => R (.tup [a, b])
  | _ => False

def finM (P : Program) (T : TypeId → Option TI) (rs : List ResultVar) (R : SVal → List Blk → Nat → Prop) : Ex → St → Prop
  | .exit _, _ => False
  | _, σ => defersOk P σ.defers ∧ resM T σ rs fun s => R s σ.mem σ.clock

def idxS : List SVal → Nat → List (Nat × SVal)
  | [], _ => []
  | p :: ps, k => (k, p) :: idxS ps (k + 1)

theorem look_idxS : ∀ (ps : List SVal) (k t : Nat), look (idxS ps k) t = if k ≤ t then (match ps[t - k]? with | some p => p | none => .junk) else .junk
  | [], k, t => by simp [idxS, look]
  | p :: ps, k, t => by
    simp only [idxS, look_put, look_idxS ps (k + 1) t]
    by_cases h1 : k = t
    · subst h1; simp
    · rw [if_neg h1]
      by_cases h2 : k + 1 ≤ t
      · rw [if_pos h2, if_pos (by omega), show t - k = (t - (k + 1)) + 1 by omega]
        simp
      · rw [if_neg h2, if_neg (by omega)]

/-- A function is entered with the caller's memory. -/
theorem MCall.enter (hT : TypesOk P T) {F0 : Nat → Prop} {w0 : World} {f : FuncId} {fn : Func} {c : Code} {args : List SVal} {mem : List Blk} {clock : Nat} {R : SVal → List Blk → Nat → Prop} (hf : P.funcs[f]? = some fn) (hb : fn.body = some c) (hnm : (fn.name == "runtime.NumGoroutine") = false)
    (n : Nat) (rs : List ResultVar) (hnt : fn.ntmps = n) (hrs : fn.results.toList = rs) (hn : decide (args.length ≤ n) = true)
    (h : ∀ B : Base, B.F0 = F0 → B.w0 = w0 → ARun P B c { n := n, slots := idxS args 0, mem := mem, clock := clock, defers := [] } (kont P B (finM P T rs R) [])) : MCall P F0 w0 f args mem clock R := by
  subst hnt
  subst hrs
  have hn : args.length ≤ fn.ntmps := by simpa using hn
  refine ⟨⟨fn, hf, hnm, by simp [hb]⟩, fun E w vs hw hl hv => ?_⟩
  refine calls_of_wp_defers hf hb ?_
  have hrel : Rel ⟨F0, w0, E, w⟩ { n := fn.ntmps, slots := idxS args 0, mem := mem, clock := clock, defers := [] } { tmps := vs.toArray ++ Array.replicate (fn.ntmps - vs.toArray.size) undef, defers := [] } w := by
    refine ⟨E, ⟨hw, by simp; omega, ⟨rfl, by simp⟩, fun t => ?_⟩, EnvLe.refl _ _⟩
    simp only [St.get, look_idxS]
    simp only [Nat.zero_le, if_true, Nat.sub_zero]
    cases ha : args[t]? with
    | none => exact .junk _
    | some p =>
      have hlt := lt_of_getElem? ha
      have hvt : vs[t]? = some (vs[t]'(by omega)) := List.getElem?_eq_getElem _
      have : (vs.toArray ++ Array.replicate (fn.ntmps - vs.toArray.size) undef).getD t undef = vs[t]'(by omega) := by
        simp [Array.getElem?_append, show t < vs.length by omega]
      rw [this]
      exact hv t _ p hvt ha
  refine Code.wp_mono (fun e a' w' hq => ?_) (h ⟨F0, w0, E, w⟩ rfl rfl _ w hrel)
  obtain ⟨x, σ', ⟨E', hr, hle⟩, _, hk, hfit⟩ := hq
  have key : defersOk P σ'.defers ∧ resM T σ' fn.results.toList (fun s => R s σ'.mem σ'.clock) → Leaves P fn a'.tmps (fun e w' => ∃ v E' s mem' clock', e = .returned v ∧ EnvLe E w E' w' ∧ WOk F0 w0 E' w' mem' clock' ∧ SRep E' w' v s ∧ R s mem' clock') a'.defers .returning w' := by
    rintro ⟨k1, k2⟩
    refine leaves_ok _ _ hr.2.2.1 k1 ?_
    unfold resM at k2
    split at k2
    · rename_i hrv
      have e1 : fn.results = #[] := by apply Array.ext'; simpa using hrv
      refine ⟨.tuple #[], ?_, _, E', _, _, _, rfl, hle, hr.1, .tup [] [] rfl (by simp), k2⟩
      rw [results_eq, e1]
      simp
    · rename_i rv hrv
      obtain ⟨v, s, q1, q2, q3⟩ := resVal_ok hT hr k2
      refine ⟨v, ?_, v, E', s, _, _, rfl, hle, hr.1, q2, q3⟩
      have e1 : fn.results = #[rv] := by apply Array.ext'; simpa using hrv
      rw [results_eq, e1, Array.mapM_eq_mapM_toList]
      simp only [List.mapM_cons, List.mapM_nil, Sem.run_bind, Sem.run_map]
      rw [q1]
      simp
    · rename_i rv rv' hrv
      obtain ⟨v, s, q1, q2, q3⟩ := resVal_ok hT hr k2
      obtain ⟨v', s', p1, p2, p3⟩ := resVal_ok hT hr q3
      refine ⟨.tuple #[v, v'], ?_, _, E', .tup [s, s'], _, _, rfl, hle, hr.1, .tup _ [v, v'] rfl (fun i u y hu hy => ?_), p3⟩
      · have e1 : fn.results = #[rv, rv'] := by apply Array.ext'; simpa using hrv
        rw [results_eq, e1, Array.mapM_eq_mapM_toList]
        simp only [List.mapM_cons, List.mapM_nil, Sem.run_bind, Sem.run_map]
        rw [q1]
        simp only [Result.andThen_ok]
        rw [p1]
        simp
      · match i with
        | 0 => simp at hu hy; subst hu; subst hy; exact q2
        | 1 => simp at hu hy; subst hu; subst hy; exact p2
        | i + 2 => simp at hu
    · exact k2.elim
  cases e with
  | normal => cases x with
    | norm => exact key hk
    | exit i => exact hfit.elim
    | ret => exact hfit.elim
  | ret => cases x with
    | ret => exact key hk
    | exit i => exact hfit.elim
    | norm => exact hfit.elim
  | exit i => cases x with
    | exit j => exact hk.elim
    | norm => exact hfit.elim
    | ret => exact hfit.elim
  | goto l => cases x <;> exact hfit.elim
  | panic c => cases x <;> exact hfit.elim
  | outgrown => cases x <;> exact hfit.elim


theorem m_done {rs : List ResultVar} {R' : SVal → List Blk → Nat → Prop} (h : defersOk P σ.defers ∧ resM T σ rs fun s => R' s σ.mem σ.clock) : kont P B (finM P T rs R') [] .ret σ := h
theorem m_end {rs : List ResultVar} {R' : SVal → List Blk → Nat → Prop} (h : defersOk P σ.defers ∧ resM T σ rs fun s => R' s σ.mem σ.clock) : kont P B (finM P T rs R') [] .norm σ := h
end
end Go.Abs
