/-
  An abstract view of the machine's state: immutable data as trees, owned blocks as boxes and arrays, and what it means that a state of the machine is seen so. No program is named here.
-/
import Derived.WalkKit
namespace Go.Abs
open Go.RowKit

/-- Data that nobody writes any more. -/
inductive Dat where
  | lit (v : Value)
  | sl (es : List (List Dat))
  | clo (f : FuncId) (cap : List Dat)

/-- What one cell or one slot of one cell holds. -/
inductive Cell where
  | d (x : Dat)
  | emp
  | fp (e : List Dat) (o : Nat)
  | bp (r k o : Nat)
  | ap (r k esz i o : Nat)
  | arr (r k n : Nat)
  | clo (f : FuncId) (cap : List Cell)

inductive SVal where
  | c (x : Cell)
  | agg (xs : List Cell)
  | tup (xs : List SVal)
  | und
  | junk

inductive Blk where
  | box (k : Nat) (cs : List Cell)
  | arr (k : Nat) (ety : TypeId) (esz : Nat) (es : List (List Dat))
  | dead

structure Env where
  F : Nat → Prop
  blk : Nat → Nat
  cap : Nat → Nat
  ver : Nat → Nat

inductive DRep (F : Nat → Prop) (w : World) : Value → Dat → Prop
  | lit (v : Value) (h : v.oneCell' = true) : DRep F w v (.lit v)
  | emp (a : Option Addr) (cap : Nat) : DRep F w (.slice a 0 cap) (.sl [])
  | sl (es : List (List Dat)) (b off cap size : Nat) (u : Nat → Nat → Value) (hF : F b) (hcap : es.length ≤ cap) (hmax : cap ≤ maxLen)
      (hsz : ∀ e, e ∈ es → e.length = size)
      (hc : ∀ i j, i < es.length → j < size → w.cell? ⟨b, off + i * size + j, none⟩ = some (u i j))
      (hd : ∀ (i j : Nat) e x, es[i]? = some e → e[j]? = some x → DRep F w (u i j) x) : DRep F w (.slice (some ⟨b, off, none⟩) es.length cap) (.sl es)
  | clo (f : FuncId) (cap : List Dat) (vs : List Value) (hl : vs.length = cap.length)
      (hd : ∀ (i : Nat) v x, vs[i]? = some v → cap[i]? = some x → DRep F w v x) : DRep F w (.func (.func f) #[] vs.toArray) (.clo f cap)

inductive CRep (E : Env) (w : World) : Value → Cell → Prop
  | d {v : Value} {x : Dat} (h : DRep E.F w v x) : CRep E w v (.d x)
  | emp (a : Option Addr) : CRep E w (.slice a 0 0) .emp
  | fp (e : List Dat) (o b off : Nat) (u : Nat → Value) (hF : E.F b) (hc : ∀ j, j < e.length → w.cell? ⟨b, off + j, none⟩ = some (u j))
      (hd : ∀ (j : Nat) x, e[j]? = some x → DRep E.F w (u j) x) : CRep E w (.pointer (some ⟨b, off + o, none⟩)) (.fp e o)
  | bp (r k o : Nat) (v : Value) (h1 : v.oneCell' = true) (hk : k ≤ E.ver r) (h : E.ver r = k → v = .pointer (some ⟨E.blk r, o, none⟩)) : CRep E w v (.bp r k o)
  | ap (r k esz i o : Nat) (v : Value) (h1 : v.oneCell' = true) (hk : k ≤ E.ver r)
      (h : E.ver r = k → v = .pointer (some ⟨E.blk r, i * esz + o, none⟩)) : CRep E w v (.ap r k esz i o)
  | arr (r k n : Nat) (v : Value) (h1 : v.oneCell' = true) (hk : k ≤ E.ver r)
      (h : E.ver r = k → (E.cap r = 0 ∧ n = 0 ∧ ∃ a, v = .slice a 0 0) ∨ (0 < E.cap r ∧ v = .slice (some ⟨E.blk r, 0, none⟩) n (E.cap r))) : CRep E w v (.arr r k n)
  | clo (f : FuncId) (cap : List Cell) (vs : List Value) (hl : vs.length = cap.length)
      (hd : ∀ (i : Nat) v x, vs[i]? = some v → cap[i]? = some x → CRep E w v x) : CRep E w (.func (.func f) #[] vs.toArray) (.clo f cap)

inductive SRep (E : Env) (w : World) : Value → SVal → Prop
  | c {v : Value} {x : Cell} (h : CRep E w v x) : SRep E w v (.c x)
  | agg (xs : List Cell) (vs : List Value) (hl : vs.length = xs.length)
      (hd : ∀ (i : Nat) v x, vs[i]? = some v → xs[i]? = some x → CRep E w v x) : SRep E w (.agg vs.toArray) (.agg xs)
  | tup (xs : List SVal) (vs : List Value) (hl : vs.length = xs.length)
      (hd : ∀ (i : Nat) v x, vs[i]? = some v → xs[i]? = some x → SRep E w v x) : SRep E w (.tuple vs.toArray) (.tup xs)
  | und : SRep E w undef .und
  | junk (v : Value) : SRep E w v .junk

theorem DRep.mono {F F' : Nat → Prop} {w w' : World} (hF : ∀ k, F k → F' k) (hw : ∀ k, F k → w'.heap[k]? = w.heap[k]?) {v : Value} {x : Dat} (h : DRep F w v x) : DRep F' w' v x := by
  induction h with
  | lit v h => exact .lit v h
  | emp a cap => exact .emp a cap
  | sl es b off cap size u h1 hcap hmax hsz hc _ ih =>
    exact .sl es b off cap size u (hF _ h1) hcap hmax hsz (fun i j hi hj => by rw [World.cell?_of_block (w := w) (hw b h1)]; exact hc i j hi hj) ih
  | clo f cap vs hl _ ih => exact .clo f cap vs hl ih

structure EnvLe (E : Env) (w : World) (E' : Env) (w' : World) : Prop where
  F : ∀ k, E.F k → E'.F k
  mem : ∀ k, E.F k → w'.heap[k]? = w.heap[k]?
  ver : ∀ r, E.ver r ≤ E'.ver r
  same : ∀ r, E.ver r = E'.ver r → E'.blk r = E.blk r ∧ E'.cap r = E.cap r

theorem EnvLe.refl (E : Env) (w : World) : EnvLe E w E w := ⟨fun _ h => h, fun _ _ => rfl, fun _ => Nat.le_refl _, fun _ _ => ⟨rfl, rfl⟩⟩

theorem EnvLe.trans {E E' E'' : Env} {w w' w'' : World} (h : EnvLe E w E' w') (k : EnvLe E' w' E'' w'') : EnvLe E w E'' w'' := by
  refine ⟨fun i hi => k.F i (h.F i hi), fun i hi => (k.mem i (h.F i hi)).trans (h.mem i hi), fun r => Nat.le_trans (h.ver r) (k.ver r), fun r hr => ?_⟩
  have h1 := h.ver r
  have h2 := k.ver r
  have e1 := h.same r (by omega)
  have e2 := k.same r (by omega)
  exact ⟨e2.1.trans e1.1, e2.2.trans e1.2⟩

theorem DRep.le {E E' : Env} {w w' : World} (l : EnvLe E w E' w') {v : Value} {x : Dat} (h : DRep E.F w v x) : DRep E'.F w' v x := h.mono l.F l.mem

theorem CRep.le {E E' : Env} {w w' : World} (l : EnvLe E w E' w') {v : Value} {x : Cell} (h : CRep E w v x) : CRep E' w' v x := by
  induction h with
  | d h => exact .d (h.le l)
  | emp a => exact .emp a
  | fp e o b off u hF hc hd => exact .fp e o b off u (l.F _ hF) (fun j hj => by rw [World.cell?_of_block (w := w) (l.mem b hF)]; exact hc j hj) (fun j x hx => (hd j x hx).le l)
  | bp r k o v h1 hk h =>
    have := l.ver r
    refine .bp r k o v h1 (by omega) (fun e => ?_)
    rw [(l.same r (by omega)).1]
    exact h (by omega)
  | ap r k esz i o v h1 hk h =>
    have := l.ver r
    refine .ap r k esz i o v h1 (by omega) (fun e => ?_)
    rw [(l.same r (by omega)).1]
    exact h (by omega)
  | arr r k n v h1 hk h =>
    have := l.ver r
    refine .arr r k n v h1 (by omega) (fun e => ?_)
    rw [(l.same r (by omega)).1, (l.same r (by omega)).2]
    exact h (by omega)
  | clo f cap vs hl _ ih => exact .clo f cap vs hl ih

theorem SRep.le {E E' : Env} {w w' : World} (l : EnvLe E w E' w') {v : Value} {x : SVal} (h : SRep E w v x) : SRep E' w' v x := by
  induction h with
  | c h => exact .c (h.le l)
  | agg xs vs hl hd => exact .agg xs vs hl (fun i v x hv hx => (hd i v x hv hx).le l)
  | tup xs vs hl _ ih => exact .tup xs vs hl ih
  | und => exact .und
  | junk v => exact .junk v

theorem DRep.one {F : Nat → Prop} {w : World} {v : Value} {x : Dat} (h : DRep F w v x) : v.oneCell' = true := by
  cases h <;> first | assumption | rfl

theorem CRep.one {E : Env} {w : World} {v : Value} {x : Cell} (h : CRep E w v x) : v.oneCell' = true := by
  cases h <;> first | exact DRep.one ‹_› | assumption | rfl

/-- The state of one activation, seen abstractly. -/
structure St where
  n : Nat
  slots : List (Nat × SVal)
  mem : List Blk
  clock : Nat
  defers : List (FuncId × List Cell)

def look : List (Nat × SVal) → Nat → SVal
  | [], _ => .junk
  | (s, v) :: l, t => match Nat.beq s t with
    | true => v
    | false => look l t

def St.get (σ : St) (t : Nat) : SVal := look σ.slots t
def St.put (σ : St) (t : Nat) (v : SVal) : St := { σ with slots := (t, v) :: σ.slots }
def St.putO (σ : St) (t : Option Tmp) (v : SVal) : St :=
  match t with
  | some d => σ.put d v
  | none => σ

def constVal : Value → SVal
  | .slice none 0 0 => .c .emp
  | .agg _ => .junk
  | .tuple _ => .junk
  | v => .c (.d (.lit v))

def St.ev (σ : St) : Operand → SVal
  | .tmp t => σ.get t
  | .const v => constVal v
  | .global _ => .junk
  | .func f => .c (.d (.lit (.func (.func f) #[] #[])))

def BlkOk (w0 : Nat) (E : Env) (w : World) (r : Nat) : Blk → Prop
  | .dead => True
  | .box k cs => E.ver r = k ∧ w0 ≤ E.blk r ∧ ¬ E.F (E.blk r) ∧ ∃ c ety, w.heap[E.blk r]? = some (.cells c ety (0, 0)) ∧ c.size = cs.length ∧
      ∀ (j : Nat) v x, c[j]? = some v → cs[j]? = some x → CRep E w v x
  | .arr k ety esz es => E.ver r = k ∧ 0 < esz ∧ (∀ e, e ∈ es → e.length = esz) ∧ es.length ≤ E.cap r ∧ E.cap r ≤ maxLen ∧
      (E.cap r = 0 ∨ (w0 ≤ E.blk r ∧ ¬ E.F (E.blk r) ∧ ∃ c, w.heap[E.blk r]? = some (.cells c ety (0, 0)) ∧ c.size = E.cap r * esz ∧
        ∀ (i j : Nat) e v x, es[i]? = some e → e[j]? = some x → c[i * esz + j]? = some v → DRep E.F w v x))

/-- The block that a live entry of the memory has. -/
def Blk.has (E : Env) (r : Nat) : Blk → Prop
  | .dead => False
  | .box .. => True
  | .arr .. => E.cap r ≠ 0

structure MemOk (w0 : Nat) (clock : Nat) (E : Env) (w : World) (mem : List Blk) : Prop where
  clock : ∀ r, E.ver r ≤ clock
  ok : ∀ (r : Nat) b, mem[r]? = some b → BlkOk w0 E w r b
  apart : ∀ (r r' : Nat) b b', mem[r]? = some b → mem[r']? = some b' → b.has E r → b'.has E r' → r ≠ r' → E.blk r ≠ E.blk r'

/-- What holds of the world and the memory, beside the slots. -/
structure WOk (F0 : Nat → Prop) (w0 : World) (E : Env) (w : World) (mem : List Blk) (clock : Nat) : Prop where
  below : Below w0.heap.size w0 w
  base : ∀ k, F0 k → E.F k
  F : ∀ k, E.F k → k < w.heap.size ∧ (F0 k ∨ w0.heap.size ≤ k)
  mem : MemOk w0.heap.size clock E w mem

def DefersOk (E : Env) (w : World) (ds : List Deferred) (xs : List (FuncId × List Cell)) : Prop :=
  ds.length = xs.length ∧ ∀ (i : Nat) d x, ds[i]? = some d → xs[i]? = some x →
    ∃ vs : List Value, d = { target := .fn (.func x.1) vs.toArray, args := #[] } ∧ vs.length = x.2.length ∧ ∀ (j : Nat) v y, vs[j]? = some v → x.2[j]? = some y → CRep E w v y

def RelE (F0 : Nat → Prop) (w0 : World) (E : Env) (σ : St) (a : Act) (w : World) : Prop :=
  WOk F0 w0 E w σ.mem σ.clock ∧ a.tmps.size = σ.n ∧ DefersOk E w a.defers σ.defers ∧ ∀ t, SRep E w (a.tmps.getD t undef) (σ.get t)

/-- What a piece of a proof starts from: the data and the world at the function's begin, and the environment and the world that the caller holds. -/
structure Base where
  F0 : Nat → Prop
  w0 : World
  E : Env
  w : World

def Rel (B : Base) (σ : St) (a : Act) (w : World) : Prop := ∃ E, RelE B.F0 B.w0 E σ a w ∧ EnvLe B.E B.w E w

theorem DefersOk.le {E E' : Env} {w w' : World} (l : EnvLe E w E' w') {ds : List Deferred} {xs : List (FuncId × List Cell)} (h : DefersOk E w ds xs) : DefersOk E' w' ds xs := by
  refine ⟨h.1, fun i d x hd hx => ?_⟩
  obtain ⟨vs, h1, h2, h3⟩ := h.2 i d x hd hx
  exact ⟨vs, h1, h2, fun j v y hv hy => (h3 j v y hv hy).le l⟩

section
variable {F0 : Nat → Prop} {w0 : World} {E : Env} {σ : St} {a : Act} {w : World}

theorem RelE.ev (h : RelE F0 w0 E σ a w) (x : Operand) : SRep E w (a.eval x) (σ.ev x) := by
  cases x with
  | tmp t => exact h.2.2.2 t
  | const v =>
    simp only [St.ev, Act.eval]
    unfold constVal
    split
    · exact .c (.emp _)
    · exact .junk _
    · exact .junk _
    · rename_i h1 h2 h3
      refine .c (.d (.lit v ?_))
      cases v <;> first | rfl | exact absurd rfl (h2 _) | exact absurd rfl (h3 _)
  | global g => exact .junk _
  | func f => exact .c (.d (.lit _ rfl))

theorem look_put (l : List (Nat × SVal)) (t s : Nat) (v : SVal) : look ((t, v) :: l) s = if t = s then v else look l s := by
  simp only [look]
  cases h : Nat.beq t s with
  | true => rw [if_pos (Nat.eq_of_beq_eq_true h)]
  | false => rw [if_neg (Nat.ne_of_beq_eq_false h)]

/-- A value is laid into a slot; the world may have gone on. -/
theorem RelE.putE {E' : Env} {w' : World} {mem' : List Blk} {clock' : Nat} (h : RelE F0 w0 E σ a w) (l : EnvLe E w E' w') (hw : WOk F0 w0 E' w' mem' clock') {d : Tmp} (hd : d < σ.n) {v : Value} {x : SVal} (hv : SRep E' w' v x) :
    RelE F0 w0 E' { σ.put d x with mem := mem', clock := clock' } (a.put (some d) v) w' := by
  refine ⟨hw, by simp [Act.put, h.2.1, St.put], h.2.2.1.le l, fun t => ?_⟩
  simp only [St.get, St.put, look_put, Act.put]
  by_cases ht : d = t
  · subst ht
    have : d < a.tmps.size := by rw [h.2.1]; exact hd
    simpa [this] using hv
  · simp only [ht, if_false]
    have := (h.2.2.2 t).le l
    rw [show ((a.tmps.setIfInBounds d v).getD t undef) = a.tmps.getD t undef from by simp [Array.getElem?_setIfInBounds_ne ht]]
    exact this

theorem RelE.keepE {E' : Env} {w' : World} {mem' : List Blk} {clock' : Nat} (h : RelE F0 w0 E σ a w) (l : EnvLe E w E' w') (hw : WOk F0 w0 E' w' mem' clock') :
    RelE F0 w0 E' { σ with mem := mem', clock := clock' } a w' :=
  ⟨hw, h.2.1, h.2.2.1.le l, fun t => (h.2.2.2 t).le l⟩

theorem RelE.put (h : RelE F0 w0 E σ a w) {d : Tmp} (hd : d < σ.n) {v : Value} {x : SVal} (hv : SRep E w v x) : RelE F0 w0 E (σ.put d x) (a.put (some d) v) w :=
  h.putE (mem' := σ.mem) (clock' := σ.clock) (EnvLe.refl E w) h.1 hd hv
end
end Go.Abs
