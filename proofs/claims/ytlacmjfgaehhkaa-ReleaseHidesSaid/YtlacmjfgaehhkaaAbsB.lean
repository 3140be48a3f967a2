/-
  How the abstract view follows the world: new boxes and arrays, stores, appends, freezing, calls that only make memory of their own.
-/
import Derived.Test.YtlacmjfgaehhkaaAbsA
namespace Go.Abs
open Go.RowKit

def Blk.live : Blk → Prop
  | .dead => False
  | _ => True

theorem BlkOk.le {n0 : Nat} {E E' : Env} {w w' : World} {r : Nat} {b : Blk} (h : BlkOk n0 E w r b) (l : EnvLe E w E' w') (hv : b.live → E'.ver r = E.ver r)
    (hh : b.has E r → w'.heap[E.blk r]? = w.heap[E.blk r]?) (hF : b.has E r → ¬ E'.F (E.blk r)) : BlkOk n0 E' w' r b := by
  cases b with
  | dead => trivial
  | box k cs =>
    obtain ⟨h1, h2, h3, c, ety, h4, h5, h6⟩ := h
    have hv' := hv trivial
    have hs := l.same r hv'.symm
    refine ⟨hv'.trans h1, by rw [hs.1]; exact h2, by rw [hs.1]; exact hF trivial, c, ety, by rw [hs.1, hh trivial]; exact h4, h5, fun j v x a b => (h6 j v x a b).le l⟩
  | arr k ety esz es =>
    obtain ⟨h1, h2, h3, h4, h5, h6⟩ := h
    have hv' := hv trivial
    have hs := l.same r hv'.symm
    refine ⟨hv'.trans h1, h2, h3, by rw [hs.2]; exact h4, by rw [hs.2]; exact h5, ?_⟩
    by_cases hz : E.cap r = 0
    · exact .inl (by rw [hs.2]; exact hz)
    · rcases h6 with h6 | ⟨a1, a2, c, a3, a4, a5⟩
      · exact absurd h6 hz
      · refine .inr ⟨by rw [hs.1]; exact a1, by rw [hs.1]; exact hF hz, c, by rw [hs.1, hh hz]; exact a3, by rw [hs.2]; exact a4, fun i j e v x q1 q2 q3 => (a5 i j e v x q1 q2 q3).le l⟩

theorem BlkOk.lt {n0 : Nat} {E : Env} {w : World} {r : Nat} {b : Blk} (h : BlkOk n0 E w r b) (hb : b.has E r) : E.blk r < w.heap.size ∧ n0 ≤ E.blk r ∧ ¬ E.F (E.blk r) := by
  cases b with
  | dead => exact hb.elim
  | box k cs =>
    obtain ⟨h1, h2, h3, c, ety, h4, h5, h6⟩ := h
    exact ⟨(Array.getElem?_eq_some_iff.1 h4).1, h2, h3⟩
  | arr k ety esz es =>
    obtain ⟨h1, h2, h3, h4, h5, h6⟩ := h
    rcases h6 with h6 | ⟨a1, a2, c, a3, a4, a5⟩
    · exact absurd h6 hb
    · exact ⟨(Array.getElem?_eq_some_iff.1 a3).1, a1, a2⟩

theorem Blk.has.live {E : Env} {r : Nat} {b : Blk} (h : b.has E r) : b.live := by
  cases b <;> first | exact h.elim | trivial

theorem BlkOk.ver {n0 : Nat} {E : Env} {w : World} {r : Nat} {b : Blk} (h : BlkOk n0 E w r b) : b.live → (match b with | .box k _ => E.ver r = k | .arr k _ _ _ => E.ver r = k | .dead => True) := by
  intro _
  cases b with
  | dead => trivial
  | box k cs => exact h.1
  | arr k ety esz es => exact h.1

/-- The environment with entry r turned. -/
def Env.upd (E : Env) (r b c k : Nat) : Env :=
  { F := E.F, blk := fun s => if s = r then b else E.blk s, cap := fun s => if s = r then c else E.cap s, ver := fun s => if s = r then k else E.ver s }

theorem Env.upd_le {E : Env} {w w' : World} (r b c k : Nat) (hk : E.ver r < k) (hm : ∀ i, E.F i → w'.heap[i]? = w.heap[i]?) : EnvLe E w (E.upd r b c k) w' := by
  refine ⟨fun _ h => h, hm, fun s => ?_, fun s hs => ?_⟩
  · by_cases h : s = r
    · subst h; simp [Env.upd]; omega
    · simp [Env.upd, h]
  · by_cases h : s = r
    · subst h; simp [Env.upd] at hs; omega
    · simp [Env.upd, h]

section
variable {F0 : Nat → Prop} {w0 w : World} {E : Env} {mem : List Blk} {clock : Nat}

theorem getElem?_snoc {α : Type} {l : List α} {x y : α} {i : Nat} (h : (l ++ [x])[i]? = some y) : l[i]? = some y ∨ (i = l.length ∧ y = x) := by
  rw [List.getElem?_append] at h
  split at h
  · exact .inl h
  · rename_i hi
    cases hn : i - l.length with
    | zero => rw [hn] at h; simp at h; exact .inr ⟨by omega, h.symm⟩
    | succ m => rw [hn] at h; simp at h

theorem lt_of_getElem? {α : Type} {l : List α} {x : α} {i : Nat} (h : l[i]? = some x) : i < l.length := by
  rcases Nat.lt_or_ge i l.length with h' | h'
  · exact h'
  · rw [List.getElem?_eq_none h'] at h; cases h

/-- One entry of the memory is replaced (or a new one laid behind); its block is new, or was its own, or belongs to nobody. -/
theorem MemOk.turn {n0 : Nat} {w' : World} {clock' : Nat} (h : MemOk n0 clock E w mem) (r b c k : Nat) (nb : Blk) (mem' : List Blk) (hclock : clock < k) (hk : k ≤ clock')
    (hm : ∀ s x, mem'[s]? = some x → (s = r ∧ x = nb) ∨ (s ≠ r ∧ mem[s]? = some x))
    (hheap : ∀ i, i < w.heap.size → i ≠ b → w'.heap[i]? = w.heap[i]?)
    (hb : ∀ s x, s ≠ r → mem[s]? = some x → x.has E s → E.blk s ≠ b)
    (hFb : ¬ E.F b) (hF : ∀ i, E.F i → i < w.heap.size) (hnew : BlkOk n0 (E.upd r b c k) w' r nb) : MemOk n0 clock' (E.upd r b c k) w' mem' := by
  have hverr := h.clock r
  have hle : EnvLe E w (E.upd r b c k) w' := Env.upd_le r b c k (by omega) (fun i hi => hheap i (hF i hi) (fun e => hFb (e ▸ hi)))
  refine ⟨fun s => ?_, fun s x hx => ?_, fun s s' x x' hx hx' h1 h2 hne => ?_⟩
  · by_cases e : s = r
    · subst e; simp [Env.upd]; omega
    · have := h.clock s; simp [Env.upd, e]; omega
  · rcases hm s x hx with ⟨rfl, rfl⟩ | ⟨e, hx0⟩
    · exact hnew
    · have ho := h.ok s x hx0
      refine ho.le hle (fun _ => by simp [Env.upd, e]) (fun hh => ?_) (fun hh => (ho.lt hh).2.2)
      exact hheap _ (ho.lt hh).1 (hb s x e hx0 hh)
  · rcases hm s x hx with ⟨rfl, rfl⟩ | ⟨e, hx0⟩
    · rcases hm s' x' hx' with ⟨rfl, rfl⟩ | ⟨e', hx0'⟩
      · exact absurd rfl hne
      · have hh' : x'.has E s' := by cases x' <;> first | exact h2 | (simpa [Blk.has, Env.upd, e'] using h2)
        have := hb s' x' e' hx0' hh'
        simpa [Env.upd, e'] using fun q => this q.symm
    · have hh : x.has E s := by cases x <;> first | exact h1 | (simpa [Blk.has, Env.upd, e] using h1)
      rcases hm s' x' hx' with ⟨rfl, rfl⟩ | ⟨e', hx0'⟩
      · have := hb s x e hx0 hh
        simpa [Env.upd, e] using this
      · have hh' : x'.has E s' := by cases x' <;> first | exact h2 | (simpa [Blk.has, Env.upd, e'] using h2)
        have := h.apart s s' x x' hx0 hx0' hh hh' hne
        simpa [Env.upd, e, e'] using this

theorem WOk.turn {w' : World} {clock' : Nat} (h : WOk F0 w0 E w mem clock) (r b c k : Nat) (nb : Blk) (mem' : List Blk) (hclock : clock < k) (hk : k ≤ clock')
    (hm : ∀ s x, mem'[s]? = some x → (s = r ∧ x = nb) ∨ (s ≠ r ∧ mem[s]? = some x))
    (hbel : Below w0.heap.size w w') (hheap : ∀ i, i < w.heap.size → i ≠ b → w'.heap[i]? = w.heap[i]?)
    (hb : ∀ s x, s ≠ r → mem[s]? = some x → x.has E s → E.blk s ≠ b)
    (hFb : ¬ E.F b) (hnew : BlkOk w0.heap.size (E.upd r b c k) w' r nb) : WOk F0 w0 (E.upd r b c k) w' mem' clock' ∧ EnvLe E w (E.upd r b c k) w' := by
  have hverr := h.mem.clock r
  refine ⟨⟨h.below.trans hbel, h.base, fun i hi => ?_, h.mem.turn r b c k nb mem' hclock hk hm hheap hb hFb (fun i hi => (h.F i hi).1) hnew⟩, Env.upd_le r b c k (by omega) (fun i hi => hheap i (h.F i hi).1 (fun e => hFb (e ▸ hi)))⟩
  have := h.F i hi
  exact ⟨Nat.lt_of_lt_of_le this.1 hbel.size, this.2⟩

/-- A block that is new lies beyond all that is held. -/
theorem WOk.fresh (h : WOk F0 w0 E w mem clock) : ¬ E.F w.heap.size ∧ ∀ s x, mem[s]? = some x → x.has E s → E.blk s ≠ w.heap.size := by
  refine ⟨fun hf => by have := (h.F _ hf).1; omega, fun s x hx hh e => ?_⟩
  have := ((h.mem.ok s x hx).lt hh).1
  omega

theorem WOk.le0 (h : WOk F0 w0 E w mem clock) : w0.heap.size ≤ w.heap.size := h.below.size

theorem snoc_turn (mem : List Blk) (nb : Blk) : ∀ s x, (mem ++ [nb])[s]? = some x → (s = mem.length ∧ x = nb) ∨ (s ≠ mem.length ∧ mem[s]? = some x) := by
  intro s x hx
  rcases getElem?_snoc hx with h | ⟨h1, h2⟩
  · have := lt_of_getElem? h
    exact .inr ⟨by omega, h⟩
  · exact .inl ⟨h1, h2⟩

theorem set_turn {mem : List Blk} (r : Nat) (nb : Blk) : ∀ s x, (mem.set r nb)[s]? = some x → (s = r ∧ x = nb) ∨ (s ≠ r ∧ mem[s]? = some x) := by
  intro s x hx
  by_cases e : r = s
  · subst e
    rw [List.getElem?_set_self' ] at hx
    cases hm : mem[r]? with
    | none => rw [hm] at hx; simp at hx
    | some y => rw [hm] at hx; simp at hx; exact .inl ⟨rfl, hx.symm⟩
  · rw [List.getElem?_set_ne e] at hx
    exact .inr ⟨fun q => e q.symm, hx⟩

theorem WOk.allocBox (h : WOk F0 w0 E w mem clock) (c : Array Value) (ety : TypeId) (cs : List Cell) (hl : c.size = cs.length)
    (hc : ∀ (j : Nat) v x, c[j]? = some v → cs[j]? = some x → CRep E w v x) :
    let E' := E.upd mem.length w.heap.size 0 (clock + 1)
    WOk F0 w0 E' (w.alloc (.cells c ety)) (mem ++ [.box (clock + 1) cs]) (clock + 1) ∧ EnvLe E w E' (w.alloc (.cells c ety)) := by
  intro E'
  have hf := h.fresh
  have hle : EnvLe E w E' (w.alloc (.cells c ety)) := Env.upd_le _ _ _ _ (by have := h.mem.clock mem.length; omega) (fun i hi => Below.heap_alloc w _ i (h.F i hi).1)
  refine h.turn _ _ _ _ _ _ (by omega) (Nat.le_refl _) (snoc_turn mem _) ((Below.refl _ w).alloc h.le0 _) (fun i hi _ => Below.heap_alloc w _ i hi) (fun s x _ hx hh => hf.2 s x hx hh) hf.1 ?_
  refine ⟨by simp [Env.upd], by simp [Env.upd]; exact h.le0, by simp [Env.upd]; exact hf.1, c, ety, by simp only [Env.upd, if_true]; exact Go.heap_alloc_new w _, hl, fun j v x a b => (hc j v x a b).le hle⟩

/-- A new array of the call's own. -/
theorem WOk.newArr {w' : World} (h : WOk F0 w0 E w mem clock) (ety : TypeId) (esz cap : Nat) (es : List (List Dat)) (hesz : 0 < esz) (hes : ∀ e, e ∈ es → e.length = esz) (hcap : es.length ≤ cap) (hmax : cap ≤ maxLen)
    (hbel : Below w0.heap.size w w') (hold : ∀ i, i < w.heap.size → w'.heap[i]? = w.heap[i]?)
    (hc : cap = 0 ∨ ∃ c, w'.heap[w.heap.size]? = some (.cells c ety (0, 0)) ∧ c.size = cap * esz ∧ ∀ (i j : Nat) e v x, es[i]? = some e → e[j]? = some x → c[i * esz + j]? = some v → DRep E.F w v x) :
    let E' := E.upd mem.length w.heap.size cap (clock + 1)
    WOk F0 w0 E' w' (mem ++ [.arr (clock + 1) ety esz es]) (clock + 1) ∧ EnvLe E w E' w' := by
  intro E'
  have hf := h.fresh
  have hle : EnvLe E w E' w' := Env.upd_le _ _ _ _ (by have := h.mem.clock mem.length; omega) (fun i hi => hold i (h.F i hi).1)
  refine h.turn _ _ _ _ _ _ (by omega) (Nat.le_refl _) (snoc_turn mem _) hbel (fun i hi _ => hold i hi) (fun s x _ hx hh => hf.2 s x hx hh) hf.1 ?_
  refine ⟨by simp [Env.upd], hesz, hes, by simpa [Env.upd] using hcap, by simpa [Env.upd] using hmax, ?_⟩
  rcases hc with hc | ⟨c, h1, h2, h3⟩
  · exact .inl (by simp [Env.upd, hc])
  · refine .inr ⟨by simp [Env.upd]; exact h.le0, by simp [Env.upd]; exact hf.1, c, by simp only [Env.upd, if_true]; exact h1, by simpa [Env.upd] using h2, fun i j e v x a b d => (h3 i j e v x a b d).le hle⟩

/-- An array of the call's own after an append (or another turn of the whole array): the same block, or a new one. -/
theorem WOk.growArr {w' : World} (h : WOk F0 w0 E w mem clock) (r k : Nat) (ety : TypeId) (esz : Nat) (es0 : List (List Dat)) (hr : mem[r]? = some (.arr k ety esz es0))
    (b cap : Nat) (es : List (List Dat)) (hes : ∀ e, e ∈ es → e.length = esz) (hcap : es.length ≤ cap) (hmax : cap ≤ maxLen)
    (hb : b = w.heap.size ∨ (b = E.blk r ∧ E.cap r ≠ 0))
    (hbel : Below w0.heap.size w w') (hold : ∀ i, i < w.heap.size → i ≠ b → w'.heap[i]? = w.heap[i]?)
    (hc : cap = 0 ∨ ∃ c, w'.heap[b]? = some (.cells c ety (0, 0)) ∧ c.size = cap * esz ∧ ∀ (i j : Nat) e v x, es[i]? = some e → e[j]? = some x → c[i * esz + j]? = some v → DRep E.F w v x) :
    let E' := E.upd r b cap (clock + 1)
    WOk F0 w0 E' w' (mem.set r (.arr (clock + 1) ety esz es)) (clock + 1) ∧ EnvLe E w E' w' := by
  intro E'
  have hf := h.fresh
  have ho := h.mem.ok r _ hr
  have hFb : ¬ E.F b ∧ w0.heap.size ≤ b := by
    rcases hb with rfl | ⟨rfl, hz⟩
    · exact ⟨hf.1, h.le0⟩
    · have := ho.lt (show Blk.has E r _ from hz); exact ⟨this.2.2, this.2.1⟩
  have hapart : ∀ s x, s ≠ r → mem[s]? = some x → x.has E s → E.blk s ≠ b := by
    intro s x hs hx hh
    rcases hb with rfl | ⟨rfl, hz⟩
    · exact hf.2 s x hx hh
    · exact h.mem.apart s r x _ hx hr hh hz hs
  have hle : EnvLe E w E' w' := Env.upd_le _ _ _ _ (by have := h.mem.clock r; omega) (fun i hi => hold i (h.F i hi).1 (fun e => hFb.1 (e ▸ hi)))
  refine h.turn _ _ _ _ _ _ (by omega) (Nat.le_refl _) (set_turn r _) hbel hold hapart hFb.1 ?_
  refine ⟨by simp [Env.upd], ho.2.1, hes, by simpa [Env.upd] using hcap, by simpa [Env.upd] using hmax, ?_⟩
  rcases hc with hc | ⟨c, h1, h2, h3⟩
  · exact .inl (by simp [Env.upd, hc])
  · refine .inr ⟨by simp [Env.upd]; exact hFb.2, by simp [Env.upd]; exact hFb.1, c, by simp only [Env.upd, if_true]; exact h1, by simpa [Env.upd] using h2, fun i j e v x a b d => (h3 i j e v x a b d).le hle⟩

/-- The world goes on without touching what is held: new memory may become data. -/
theorem WOk.later {w' : World} (h : WOk F0 w0 E w mem clock) (hb : Below w.heap.size w w') (G : Nat → Prop) (hG : ∀ k, G k → w.heap.size ≤ k ∧ k < w'.heap.size) :
    let E' : Env := { E with F := fun k => E.F k ∨ G k }
    WOk F0 w0 E' w' mem clock ∧ EnvLe E w E' w' := by
  intro E'
  have hle : EnvLe E w E' w' := ⟨fun _ hk => .inl hk, fun k hk => hb.block k (h.F k hk).1, fun _ => Nat.le_refl _, fun _ _ => ⟨rfl, rfl⟩⟩
  refine ⟨⟨h.below.trans (hb.mono h.le0), fun k hk => .inl (h.base k hk), fun k hk => ?_, ⟨h.mem.clock, fun r x hx => ?_, fun r r' x x' hx hx' h1 h2 hne => ?_⟩⟩, hle⟩
  · rcases hk with hk | hk
    · have := h.F k hk; exact ⟨Nat.lt_of_lt_of_le this.1 hb.size, this.2⟩
    · have := hG k hk; have := h.le0; exact ⟨by omega, .inr (by omega)⟩
  · have ho := h.mem.ok r x hx
    refine ho.le hle (fun _ => rfl) (fun hh => hb.block _ (ho.lt hh).1) (fun hh => ?_)
    rintro (hk | hk)
    · exact (ho.lt hh).2.2 hk
    · have := hG _ hk; have := (ho.lt hh).1; omega
  · refine h.mem.apart r r' x x' hx hx' ?_ ?_ hne
    · cases x <;> exact h1
    · cases x' <;> exact h2

/-- An array becomes data. -/
theorem WOk.freeze (h : WOk F0 w0 E w mem clock) (r k : Nat) (ety : TypeId) (esz : Nat) (es : List (List Dat)) (hr : mem[r]? = some (.arr k ety esz es)) :
    let E' : Env := { E with F := fun i => E.F i ∨ (i = E.blk r ∧ E.cap r ≠ 0) }
    WOk F0 w0 E' w (mem.set r .dead) clock ∧ EnvLe E w E' w := by
  intro E'
  have ho := h.mem.ok r _ hr
  have hle : EnvLe E w E' w := ⟨fun _ hk => .inl hk, fun k hk => rfl, fun _ => Nat.le_refl _, fun _ _ => ⟨rfl, rfl⟩⟩
  refine ⟨⟨h.below, fun k hk => .inl (h.base k hk), fun i hi => ?_, ⟨h.mem.clock, fun s x hx => ?_, fun s s' x x' hx hx' h1 h2 hne => ?_⟩⟩, hle⟩
  · rcases hi with hi | ⟨rfl, hz⟩
    · exact h.F i hi
    · have := ho.lt (show Blk.has E r _ from hz)
      exact ⟨this.1, .inr this.2.1⟩
  · rcases set_turn r _ s x hx with ⟨rfl, rfl⟩ | ⟨e, hx0⟩
    · trivial
    · have ho' := h.mem.ok s x hx0
      refine ho'.le hle (fun _ => rfl) (fun _ => rfl) (fun hh => ?_)
      rintro (hk | ⟨hk, hz⟩)
      · exact (ho'.lt hh).2.2 hk
      · exact h.mem.apart s r x _ hx0 hr hh (show Blk.has E r _ from hz) e hk
  · rcases set_turn r _ s x hx with ⟨rfl, rfl⟩ | ⟨e, hx0⟩
    · exact h1.elim
    · rcases set_turn r _ s' x' hx' with ⟨rfl, rfl⟩ | ⟨e', hx0'⟩
      · exact h2.elim
      · refine h.mem.apart s s' x x' hx0 hx0' ?_ ?_ hne
        · cases x <;> exact h1
        · cases x' <;> exact h2

/-- Entries behind a place are let go. -/
theorem WOk.drop {mem' : List Blk} (h : WOk F0 w0 E w mem clock) (hm : ∀ (s : Nat) x, mem'[s]? = some x → x.live → mem[s]? = some x) : WOk F0 w0 E w mem' clock := by
  refine ⟨h.below, h.base, h.F, ⟨h.mem.clock, fun s x hx => ?_, fun s s' x x' hx hx' h1 h2 hne => h.mem.apart s s' x x' (hm s x hx h1.live) (hm s' x' hx' h2.live) h1 h2 hne⟩⟩
  cases x with
  | dead => trivial
  | box k cs => exact h.mem.ok s _ (hm s _ hx trivial)
  | arr k ety esz es => exact h.mem.ok s _ (hm s _ hx trivial)
end
end Go.Abs
