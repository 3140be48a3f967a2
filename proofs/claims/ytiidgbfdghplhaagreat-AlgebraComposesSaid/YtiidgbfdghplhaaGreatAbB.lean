/-
  More operations over the abstract view: addresses, slices, appends, literals, arithmetic.
-/
import Derived.WalkKit
section
section
namespace Go.Abs
open Go.RowKit

/-- As 'Below', and what was drawn was not drawn back. -/
structure Bel (B : Nat) (w w' : World) : Prop where
  b : Below B w w'
  drawn : w.drawn ≤ w'.drawn

namespace Bel
variable {B B' : Nat} {a w w' w'' : World}
theorem size (h : Bel B w w') : w.heap.size ≤ w'.heap.size := h.b.size
theorem block (h : Bel B w w') (k : Nat) (hk : k < B) : w'.heap[k]? = w.heap[k]? := h.b.block k hk
theorem refl (B : Nat) (w : World) : Bel B w w := ⟨Below.refl _ _, Nat.le_refl _⟩
theorem trans (h : Bel B w w') (k : Bel B w' w'') : Bel B w w'' := ⟨h.b.trans k.b, Nat.le_trans h.drawn k.drawn⟩
theorem mono (h : Bel B w w') (hB : B' ≤ B) : Bel B' w w' := ⟨h.b.mono hB, h.drawn⟩
theorem drew (h : Bel B a w) : Bel B a w.drew := ⟨h.b.drew, Nat.le_trans h.drawn (Nat.le_succ _)⟩
theorem alloc (h : Bel B a w) (hB : B ≤ w.heap.size) (o : Obj) : Bel B a (w.alloc o) := ⟨h.b.alloc hB o, h.drawn⟩
theorem heap_alloc (w : World) (o : Obj) (k : Nat) (h : k < w.heap.size) : (w.alloc o).heap[k]? = w.heap[k]? := Below.heap_alloc w o k h
end Bel

/-- Data that nobody writes any more. -/
inductive Dat where
  | any
  | lit (v : Value)
  | sl (es : List (List Dat))
  | clo (f : FuncId) (cap : List Dat)

/-- What one cell or one slot of one cell holds. -/
inductive Cell where
  | d (x : Dat)
  | emp
  | fp (e : List Dat) (o : Nat)
  | bp (r k o : Nat)
  | ap (r k esz i o : Nat)
  | arr (r k n : Nat)
  | clo (f : FuncId) (cap : List Cell)
  | mp (r k : Nat)
  | it (r k : Nat)
  | ars (r k esz i n : Nat)

/-- A value of one cell, or of several. -/
inductive PV where
  | one (x : Dat)
  | agg (xs : List Dat)

inductive SVal where
  | c (x : Cell)
  | agg (xs : List Cell)
  | tup (xs : List SVal)
  | und
  | junk

inductive Blk where
  | box (k : Nat) (cs : List Cell)
  | arr (k : Nat) (ety : TypeId) (esz : Nat) (es : List (List Dat))
  | arrc (k : Nat) (ety : TypeId) (esz : Nat) (es : List (List Dat)) (b c : Nat)
  | map (k : Nat) (kt vt : TypeId) (es : List (Value × PV)) (bs : List Nat) (c : Nat)
  | iter (k r k' since : Nat) (sb : List Nat)
  | mapc (k : Nat) (kt vt : TypeId) (es : List (Value × Cell))
  | mapb (k : Nat) (kt vt : TypeId) (es : List (Value × Dat))
  | arrx (k : Nat) (ety : TypeId) (esz : Nat) (es : List (List Cell))
  | hole (k : Nat)
  | dead

structure Env where
  F : Nat → Prop
  blk : Nat → Nat
  cap : Nat → Nat
  ver : Nat → Nat
  N : Nat → Prop := fun _ => False

inductive DRep (F : Nat → Prop) (w : World) : Value → Dat → Prop
  | any (v : Value) (h : v.oneCell' = true) : DRep F w v .any
  | lit (v : Value) (h : v.oneCell' = true) : DRep F w v (.lit v)
  | emp (a : Option Addr) (cap : Nat) : DRep F w (.slice a 0 cap) (.sl [])
  | sl (es : List (List Dat)) (b off cap size : Nat) (u : Nat → Nat → Value) (hF : F b) (hcap : es.length ≤ cap) (hmax : cap ≤ maxLen)
      (hsz : ∀ e, e ∈ es → e.length = size)
      (hc : ∀ i j, i < es.length → j < size → w.cell? ⟨b, off + i * size + j, none⟩ = some (u i j))
      (hd : ∀ (i j : Nat) e x, es[i]? = some e → e[j]? = some x → DRep F w (u i j) x) : DRep F w (.slice (some ⟨b, off, none⟩) es.length cap) (.sl es)
  | clo (f : FuncId) (cap : List Dat) (vs : List Value) (hl : vs.length = cap.length)
      (hd : ∀ (i : Nat) v x, vs[i]? = some v → cap[i]? = some x → DRep F w v x) : DRep F w (.func (.func f) #[] vs.toArray) (.clo f cap)

inductive CRep (E : Env) (w : World) : Value → Cell → Prop
  | d {v : Value} {x : Dat} (h : DRep E.F w v x) : CRep E w v (.d x)
  | emp (a : Option Addr) : CRep E w (.slice a 0 0) .emp
  | fp (e : List Dat) (o b off : Nat) (u : Nat → Value) (hF : E.F b) (hc : ∀ j, j < e.length → w.cell? ⟨b, off + j, none⟩ = some (u j))
      (hd : ∀ (j : Nat) x, e[j]? = some x → DRep E.F w (u j) x) : CRep E w (.pointer (some ⟨b, off + o, none⟩)) (.fp e o)
  | bp (r k o : Nat) (v : Value) (h1 : v.oneCell' = true) (hk : k ≤ E.ver r) (h : E.ver r = k → v = .pointer (some ⟨E.blk r, o, none⟩)) : CRep E w v (.bp r k o)
  | ap (r k esz i o : Nat) (v : Value) (h1 : v.oneCell' = true) (hk : k ≤ E.ver r)
      (h : E.ver r = k → v = .pointer (some ⟨E.blk r, i * esz + o, none⟩)) : CRep E w v (.ap r k esz i o)
  | arr (r k n : Nat) (v : Value) (h1 : v.oneCell' = true) (hk : k ≤ E.ver r)
      (h : E.ver r = k → (E.cap r = 0 ∧ n = 0 ∧ ∃ a, v = .slice a 0 0) ∨ (0 < E.cap r ∧ v = .slice (some ⟨E.blk r, 0, none⟩) n (E.cap r))) : CRep E w v (.arr r k n)
  | clo (f : FuncId) (cap : List Cell) (vs : List Value) (hl : vs.length = cap.length)
      (hd : ∀ (i : Nat) v x, vs[i]? = some v → cap[i]? = some x → CRep E w v x) : CRep E w (.func (.func f) #[] vs.toArray) (.clo f cap)
  | mp (r k : Nat) (v : Value) (h1 : v.oneCell' = true) (hk : k ≤ E.ver r) (h : E.ver r = k → v = .map (some (E.blk r))) : CRep E w v (.mp r k)
  | it (r k : Nat) (v : Value) (h1 : v.oneCell' = true) (hk : k ≤ E.ver r) (h : E.ver r = k → v = .pointer (some ⟨E.blk r, 0, none⟩)) : CRep E w v (.it r k)
  | ars (r k esz i n : Nat) (v : Value) (h1 : v.oneCell' = true) (hk : k ≤ E.ver r)
      (h : E.ver r = k → i + n ≤ E.cap r ∧ ((i = E.cap r ∧ ∃ a, v = .slice a 0 0) ∨ (i < E.cap r ∧ v = .slice (some ⟨E.blk r, i * esz, none⟩) n (E.cap r - i)))) : CRep E w v (.ars r k esz i n)

inductive SRep (E : Env) (w : World) : Value → SVal → Prop
  | c {v : Value} {x : Cell} (h : CRep E w v x) : SRep E w v (.c x)
  | agg (xs : List Cell) (vs : List Value) (hl : vs.length = xs.length)
      (hd : ∀ (i : Nat) v x, vs[i]? = some v → xs[i]? = some x → CRep E w v x) : SRep E w (.agg vs.toArray) (.agg xs)
  | tup (xs : List SVal) (vs : List Value) (hl : vs.length = xs.length)
      (hd : ∀ (i : Nat) v x, vs[i]? = some v → xs[i]? = some x → SRep E w v x) : SRep E w (.tuple vs.toArray) (.tup xs)
  | und : SRep E w undef .und
  | junk (v : Value) : SRep E w v .junk

theorem DRep.mono {F F' : Nat → Prop} {w w' : World} (hF : ∀ k, F k → F' k) (hw : ∀ k, F k → w'.heap[k]? = w.heap[k]?) {v : Value} {x : Dat} (h : DRep F w v x) : DRep F' w' v x := by
  induction h with
  | any v h => exact .any v h
  | lit v h => exact .lit v h
  | emp a cap => exact .emp a cap
  | sl es b off cap size u h1 hcap hmax hsz hc _ ih =>
    exact .sl es b off cap size u (hF _ h1) hcap hmax hsz (fun i j hi hj => by rw [World.cell?_of_block (w := w) (hw b h1)]; exact hc i j hi hj) ih
  | clo f cap vs hl _ ih => exact .clo f cap vs hl ih

structure EnvLe (E : Env) (w : World) (E' : Env) (w' : World) : Prop where
  F : ∀ k, E.F k → E'.F k
  mem : ∀ k, E.F k → w'.heap[k]? = w.heap[k]?
  ver : ∀ r, E.ver r ≤ E'.ver r
  same : ∀ r, E.ver r = E'.ver r → E'.blk r = E.blk r ∧ E'.cap r = E.cap r
  held : ∀ k, E.N k → E'.N k ∧ w'.heap[k]? = w.heap[k]?

theorem EnvLe.refl (E : Env) (w : World) : EnvLe E w E w := ⟨fun _ h => h, fun _ _ => rfl, fun _ => Nat.le_refl _, fun _ _ => ⟨rfl, rfl⟩, fun _ h => ⟨h, rfl⟩⟩

theorem EnvLe.trans {E E' E'' : Env} {w w' w'' : World} (h : EnvLe E w E' w') (k : EnvLe E' w' E'' w'') : EnvLe E w E'' w'' := by
  refine ⟨fun i hi => k.F i (h.F i hi), fun i hi => (k.mem i (h.F i hi)).trans (h.mem i hi), fun r => Nat.le_trans (h.ver r) (k.ver r), fun r hr => ?_, fun i hi => ?_⟩
  rotate_left
  · have h1 := h.held i hi
    have h2 := k.held i h1.1
    exact ⟨h2.1, h2.2.trans h1.2⟩
  have h1 := h.ver r
  have h2 := k.ver r
  have e1 := h.same r (by omega)
  have e2 := k.same r (by omega)
  exact ⟨e2.1.trans e1.1, e2.2.trans e1.2⟩

theorem DRep.le {E E' : Env} {w w' : World} (l : EnvLe E w E' w') {v : Value} {x : Dat} (h : DRep E.F w v x) : DRep E'.F w' v x := h.mono l.F l.mem

theorem CRep.le {E E' : Env} {w w' : World} (l : EnvLe E w E' w') {v : Value} {x : Cell} (h : CRep E w v x) : CRep E' w' v x := by
  induction h with
  | d h => exact .d (h.le l)
  | emp a => exact .emp a
  | fp e o b off u hF hc hd => exact .fp e o b off u (l.F _ hF) (fun j hj => by rw [World.cell?_of_block (w := w) (l.mem b hF)]; exact hc j hj) (fun j x hx => (hd j x hx).le l)
  | bp r k o v h1 hk h =>
    have := l.ver r
    refine .bp r k o v h1 (by omega) (fun e => ?_)
    rw [(l.same r (by omega)).1]
    exact h (by omega)
  | ap r k esz i o v h1 hk h =>
    have := l.ver r
    refine .ap r k esz i o v h1 (by omega) (fun e => ?_)
    rw [(l.same r (by omega)).1]
    exact h (by omega)
  | arr r k n v h1 hk h =>
    have := l.ver r
    refine .arr r k n v h1 (by omega) (fun e => ?_)
    rw [(l.same r (by omega)).1, (l.same r (by omega)).2]
    exact h (by omega)
  | clo f cap vs hl _ ih => exact .clo f cap vs hl ih
  | mp r k v h1 hk h =>
    have := l.ver r
    refine .mp r k v h1 (by omega) (fun e => ?_)
    rw [(l.same r (by omega)).1]
    exact h (by omega)
  | it r k v h1 hk h =>
    have := l.ver r
    refine .it r k v h1 (by omega) (fun e => ?_)
    rw [(l.same r (by omega)).1]
    exact h (by omega)
  | ars r k esz i n v h1 hk h =>
    have := l.ver r
    refine .ars r k esz i n v h1 (by omega) (fun e => ?_)
    rw [(l.same r (by omega)).1, (l.same r (by omega)).2]
    exact h (by omega)

theorem SRep.le {E E' : Env} {w w' : World} (l : EnvLe E w E' w') {v : Value} {x : SVal} (h : SRep E w v x) : SRep E' w' v x := by
  induction h with
  | c h => exact .c (h.le l)
  | agg xs vs hl hd => exact .agg xs vs hl (fun i v x hv hx => (hd i v x hv hx).le l)
  | tup xs vs hl _ ih => exact .tup xs vs hl ih
  | und => exact .und
  | junk v => exact .junk v

theorem DRep.one {F : Nat → Prop} {w : World} {v : Value} {x : Dat} (h : DRep F w v x) : v.oneCell' = true := by
  cases h <;> first | assumption | rfl

theorem CRep.one {E : Env} {w : World} {v : Value} {x : Cell} (h : CRep E w v x) : v.oneCell' = true := by
  cases h <;> first | exact DRep.one ‹_› | assumption | rfl

/-- The state of one activation, seen abstractly. -/
structure St where
  n : Nat
  slots : List (Nat × SVal)
  mem : List Blk
  clock : Nat
  defers : List (FuncId × List Cell)

def look : List (Nat × SVal) → Nat → SVal
  | [], _ => .junk
  | (s, v) :: l, t => match Nat.beq s t with
    | true => v
    | false => look l t

def St.get (σ : St) (t : Nat) : SVal := look σ.slots t
def St.put (σ : St) (t : Nat) (v : SVal) : St := { σ with slots := (t, v) :: σ.slots }
def St.putO (σ : St) (t : Option Tmp) (v : SVal) : St :=
  match t with
  | some d => σ.put d v
  | none => σ

def constVal : Value → SVal
  | .slice none 0 0 => .c .emp
  | .agg _ => .junk
  | .tuple _ => .junk
  | v => .c (.d (.lit v))

def St.ev (σ : St) : Operand → SVal
  | .tmp t => σ.get t
  | .const v => constVal v
  | .global _ => .junk
  | .func f => .c (.d (.lit (.func (.func f) #[] #[])))

def PVRep (F : Nat → Prop) (w : World) (v : Value) : PV → Prop
  | .one x => DRep F w v x
  | .agg xs => ∃ vs : List Value, v = .agg vs.toArray ∧ vs.length = xs.length ∧ ∀ (i : Nat) u x, vs[i]? = some u → xs[i]? = some x → DRep F w u x

theorem PVRep.le {E E' : Env} {w w' : World} (l : EnvLe E w E' w') {v : Value} {p : PV} (h : PVRep E.F w v p) : PVRep E'.F w' v p := by
  cases p with
  | one x => exact DRep.le l h
  | agg xs =>
    obtain ⟨vs, h1, h2, h3⟩ := h
    exact ⟨vs, h1, h2, fun i u x hu hx => (h3 i u x hu hx).le l⟩

def ArrOk (w0 : Nat) (E : Env) (w : World) (r k : Nat) (ety : TypeId) (esz : Nat) (es : List (List Dat)) : Prop :=
  E.ver r = k ∧ 0 < esz ∧ (∀ e, e ∈ es → e.length = esz) ∧ es.length ≤ E.cap r ∧ E.cap r ≤ maxLen ∧
    (E.cap r = 0 ∨ (w0 ≤ E.blk r ∧ ¬ (E.F (E.blk r) ∨ E.N (E.blk r)) ∧ ∃ c, w.heap[E.blk r]? = some (.cells c ety (0, 0)) ∧ c.size = E.cap r * esz ∧ (∀ v ∈ c, v.oneCell' = true) ∧
      ∀ (i j : Nat) e v x, es[i]? = some e → e[j]? = some x → c[i * esz + j]? = some v → DRep E.F w v x))

def MapOk (E : Env) (w : World) (es : List (Value × PV)) (bs : List Nat) (c : Nat) (A : Array MapEntry) : Prop :=
  A.size = es.length ∧ bs.length = es.length ∧ bs.Nodup ∧ (es.map Prod.fst).Nodup ∧ (∀ b ∈ bs, b < c) ∧ ∀ (i : Nat) m, A[i]? = some m → bs[i]? = some m.born ∧ ∃ p, es[i]? = some (m.key, p) ∧ PVRep E.F w m.val p

/-- An array whose elements hold cells. -/
def ArxOk (w0 : Nat) (E : Env) (w : World) (r k : Nat) (ety : TypeId) (esz : Nat) (es : List (List Cell)) : Prop :=
  E.ver r = k ∧ 0 < esz ∧ (∀ e, e ∈ es → e.length = esz) ∧ es.length ≤ E.cap r ∧ E.cap r ≤ maxLen ∧
    (E.cap r = 0 ∨ (w0 ≤ E.blk r ∧ ¬ (E.F (E.blk r) ∨ E.N (E.blk r)) ∧ ∃ c, w.heap[E.blk r]? = some (.cells c ety (0, 0)) ∧ c.size = E.cap r * esz ∧ (∀ v ∈ c, v.oneCell' = true) ∧
      ∀ (i j : Nat) e v x, es[i]? = some e → e[j]? = some x → c[i * esz + j]? = some v → CRep E w v x))

/-- A map whose values are cells. -/
def McOk (E : Env) (w : World) (es : List (Value × Cell)) (bs : List Nat) (c : Nat) (A : Array MapEntry) : Prop :=
  A.size = es.length ∧ bs.length = es.length ∧ bs.Nodup ∧ (es.map Prod.fst).Nodup ∧ (∀ b ∈ bs, b < c) ∧ ∀ (i : Nat) m, A[i]? = some m → bs[i]? = some m.born ∧ ∃ p, es[i]? = some (m.key, p) ∧ CRep E w m.val p

def BlkOk (w0 : Nat) (E : Env) (w : World) (r : Nat) : Blk → Prop
  | .dead => True
  | .box k cs => E.ver r = k ∧ w0 ≤ E.blk r ∧ ¬ (E.F (E.blk r) ∨ E.N (E.blk r)) ∧ ∃ c ety, w.heap[E.blk r]? = some (.cells c ety (0, 0)) ∧ c.size = cs.length ∧
      ∀ (j : Nat) v x, c[j]? = some v → cs[j]? = some x → CRep E w v x
  | .arr k ety esz es => ArrOk w0 E w r k ety esz es
  | .arrc k ety esz es b c => ArrOk w0 E w r k ety esz es ∧ E.cap r = c ∧ E.blk r = b
  | .map k _ _ es bs c => E.ver r = k ∧ w0 ≤ E.blk r ∧ ¬ (E.F (E.blk r) ∨ E.N (E.blk r)) ∧ ∃ A, w.heap[E.blk r]? = some (.map A c) ∧ MapOk E w es bs c A
  | .iter k r' k' since sb => E.ver r = k ∧ w0 ≤ E.blk r ∧ ¬ (E.F (E.blk r) ∨ E.N (E.blk r)) ∧ ∃ b, w.heap[E.blk r]? = some (.mapIter (some b) since sb.toArray since) ∧ k' ≤ E.ver r' ∧ (E.ver r' = k' → b = E.blk r')
  | .mapc k _ _ es => E.ver r = k ∧ w0 ≤ E.blk r ∧ ¬ (E.F (E.blk r) ∨ E.N (E.blk r)) ∧ ∃ A bs c, w.heap[E.blk r]? = some (.map A c) ∧ McOk E w es bs c A
  | .mapb k _ _ es => E.ver r = k ∧ w0 ≤ E.blk r ∧ ¬ (E.F (E.blk r) ∨ E.N (E.blk r)) ∧ ∃ A bs c, w.heap[E.blk r]? = some (.map A c) ∧ MapOk E w (es.map fun e => (e.1, PV.one e.2)) bs c A
  | .arrx k ety esz es => ArxOk w0 E w r k ety esz es
  | .hole k => E.ver r < k

/-- The block that a live entry of the memory has. -/
def Blk.has (E : Env) (r : Nat) : Blk → Prop
  | .dead => False
  | .hole _ => False
  | .arr .. => E.cap r ≠ 0
  | .arrc .. => E.cap r ≠ 0
  | .arrx .. => E.cap r ≠ 0
  | _ => True

structure MemOk (w0 : Nat) (clock : Nat) (E : Env) (w : World) (mem : List Blk) : Prop where
  clock : ∀ r, E.ver r ≤ clock
  ok : ∀ (r : Nat) b, mem[r]? = some b → BlkOk w0 E w r b
  apart : ∀ (r r' : Nat) b b', mem[r]? = some b → mem[r']? = some b' → b.has E r → b'.has E r' → r ≠ r' → E.blk r ≠ E.blk r'

/-- What holds of the world and the memory, beside the slots. -/
structure WOk (F0 : Nat → Prop) (w0 : World) (E : Env) (w : World) (mem : List Blk) (clock : Nat) : Prop where
  below : Bel w0.heap.size w0 w
  base : ∀ k, F0 k → E.F k
  F : ∀ k, E.F k → k < w.heap.size ∧ (F0 k ∨ w0.heap.size ≤ k)
  mem : MemOk w0.heap.size clock E w mem
  N : ∀ k, E.N k → k < w.heap.size ∧ ¬ E.F k

def DefersOk (E : Env) (w : World) (ds : List Deferred) (xs : List (FuncId × List Cell)) : Prop :=
  ds.length = xs.length ∧ ∀ (i : Nat) d x, ds[i]? = some d → xs[i]? = some x →
    ∃ vs : List Value, d = { target := .fn (.func x.1) vs.toArray, args := #[] } ∧ vs.length = x.2.length ∧ ∀ (j : Nat) v y, vs[j]? = some v → x.2[j]? = some y → CRep E w v y

def RelE (F0 : Nat → Prop) (w0 : World) (E : Env) (σ : St) (a : Act) (w : World) : Prop :=
  WOk F0 w0 E w σ.mem σ.clock ∧ a.tmps.size = σ.n ∧ DefersOk E w a.defers σ.defers ∧ ∀ t, SRep E w (a.tmps.getD t undef) (σ.get t)

/-- What a piece of a proof starts from: the data and the world at the function's begin, and the environment and the world that the caller holds. -/
structure Base where
  F0 : Nat → Prop
  w0 : World
  E : Env
  w : World

def Rel (B : Base) (σ : St) (a : Act) (w : World) : Prop := ∃ E, RelE B.F0 B.w0 E σ a w ∧ EnvLe B.E B.w E w

theorem DefersOk.le {E E' : Env} {w w' : World} (l : EnvLe E w E' w') {ds : List Deferred} {xs : List (FuncId × List Cell)} (h : DefersOk E w ds xs) : DefersOk E' w' ds xs := by
  refine ⟨h.1, fun i d x hd hx => ?_⟩
  obtain ⟨vs, h1, h2, h3⟩ := h.2 i d x hd hx
  exact ⟨vs, h1, h2, fun j v y hv hy => (h3 j v y hv hy).le l⟩

section
variable {F0 : Nat → Prop} {w0 : World} {E : Env} {σ : St} {a : Act} {w : World}

theorem RelE.ev (h : RelE F0 w0 E σ a w) (x : Operand) : SRep E w (a.eval x) (σ.ev x) := by
  cases x with
  | tmp t => exact h.2.2.2 t
  | const v =>
    simp only [St.ev, Act.eval]
    unfold constVal
    split
    · exact .c (.emp _)
    · exact .junk _
    · exact .junk _
    · rename_i h1 h2 h3
      refine .c (.d (.lit v ?_))
      cases v <;> first | rfl | exact absurd rfl (h2 _) | exact absurd rfl (h3 _)
  | global g => exact .junk _
  | func f => exact .c (.d (.lit _ rfl))

theorem look_put (l : List (Nat × SVal)) (t s : Nat) (v : SVal) : look ((t, v) :: l) s = if t = s then v else look l s := by
  simp only [look]
  cases h : Nat.beq t s with
  | true => rw [if_pos (Nat.eq_of_beq_eq_true h)]
  | false => rw [if_neg (Nat.ne_of_beq_eq_false h)]

/-- A value is laid into a slot; the world may have gone on. -/
theorem RelE.putE {E' : Env} {w' : World} {mem' : List Blk} {clock' : Nat} (h : RelE F0 w0 E σ a w) (l : EnvLe E w E' w') (hw : WOk F0 w0 E' w' mem' clock') {d : Tmp} (hd : d < σ.n) {v : Value} {x : SVal} (hv : SRep E' w' v x) :
    RelE F0 w0 E' { σ.put d x with mem := mem', clock := clock' } (a.put (some d) v) w' := by
  refine ⟨hw, by simp [Act.put, h.2.1, St.put], h.2.2.1.le l, fun t => ?_⟩
  simp only [St.get, St.put, look_put, Act.put]
  by_cases ht : d = t
  · subst ht
    have : d < a.tmps.size := by rw [h.2.1]; exact hd
    simpa [this] using hv
  · simp only [ht, if_false]
    have := (h.2.2.2 t).le l
    rw [show ((a.tmps.setIfInBounds d v).getD t undef) = a.tmps.getD t undef from by simp [Array.getElem?_setIfInBounds_ne ht]]
    exact this

theorem RelE.keepE {E' : Env} {w' : World} {mem' : List Blk} {clock' : Nat} (h : RelE F0 w0 E σ a w) (l : EnvLe E w E' w') (hw : WOk F0 w0 E' w' mem' clock') :
    RelE F0 w0 E' { σ with mem := mem', clock := clock' } a w' :=
  ⟨hw, h.2.1, h.2.2.1.le l, fun t => (h.2.2.2 t).le l⟩

theorem RelE.put (h : RelE F0 w0 E σ a w) {d : Tmp} (hd : d < σ.n) {v : Value} {x : SVal} (hv : SRep E w v x) : RelE F0 w0 E (σ.put d x) (a.put (some d) v) w :=
  h.putE (mem' := σ.mem) (clock' := σ.clock) (EnvLe.refl E w) h.1 hd hv
end
end Go.Abs
end

/-
  How the abstract view follows the world: new boxes and arrays, stores, appends, freezing, calls that only make memory of their own.
-/
section
namespace Go.Abs
open Go.RowKit

def Blk.live : Blk → Prop
  | .dead => False
  | _ => True

theorem ArrOk.le {n0 : Nat} {E E' : Env} {w w' : World} {r k : Nat} {ety : TypeId} {esz : Nat} {es : List (List Dat)} (h : ArrOk n0 E w r k ety esz es) (l : EnvLe E w E' w') (hv' : E'.ver r = E.ver r)
    (hh : E.cap r ≠ 0 → w'.heap[E.blk r]? = w.heap[E.blk r]?) (hF : E.cap r ≠ 0 → ¬ (E'.F (E.blk r) ∨ E'.N (E.blk r))) : ArrOk n0 E' w' r k ety esz es := by
  obtain ⟨h1, h2, h3, h4, h5, h6⟩ := h
  have hs := l.same r hv'.symm
  refine ⟨hv'.trans h1, h2, h3, by rw [hs.2]; exact h4, by rw [hs.2]; exact h5, ?_⟩
  by_cases hz : E.cap r = 0
  · exact .inl (by rw [hs.2]; exact hz)
  · rcases h6 with h6 | ⟨a1, a2, c, a3, a4, a0, a5⟩
    · exact absurd h6 hz
    · refine .inr ⟨by rw [hs.1]; exact a1, by rw [hs.1]; exact hF hz, c, by rw [hs.1, hh hz]; exact a3, by rw [hs.2]; exact a4, a0, fun i j e v x q1 q2 q3 => (a5 i j e v x q1 q2 q3).le l⟩

theorem MapOk.le {E E' : Env} {w w' : World} {es : List (Value × PV)} {bs : List Nat} {c : Nat} {A : Array MapEntry} (h : MapOk E w es bs c A) (l : EnvLe E w E' w') : MapOk E' w' es bs c A := by
  obtain ⟨h1, h2, h3, h0, h4, h5⟩ := h
  refine ⟨h1, h2, h3, h0, h4, fun i m hm => ?_⟩
  obtain ⟨q1, p, q2, q3⟩ := h5 i m hm
  exact ⟨q1, p, q2, q3.le l⟩

theorem McOk.le {E E' : Env} {w w' : World} {es : List (Value × Cell)} {bs : List Nat} {c : Nat} {A : Array MapEntry} (h : McOk E w es bs c A) (l : EnvLe E w E' w') : McOk E' w' es bs c A := by
  obtain ⟨h1, h2, h3, h0, h4, h5⟩ := h
  refine ⟨h1, h2, h3, h0, h4, fun i m hm => ?_⟩
  obtain ⟨q1, p, q2, q3⟩ := h5 i m hm
  exact ⟨q1, p, q2, q3.le l⟩

theorem ArxOk.le {n0 : Nat} {E E' : Env} {w w' : World} {r k : Nat} {ety : TypeId} {esz : Nat} {es : List (List Cell)} (h : ArxOk n0 E w r k ety esz es) (l : EnvLe E w E' w') (hv' : E'.ver r = E.ver r)
    (hh : E.cap r ≠ 0 → w'.heap[E.blk r]? = w.heap[E.blk r]?) (hF : E.cap r ≠ 0 → ¬ (E'.F (E.blk r) ∨ E'.N (E.blk r))) : ArxOk n0 E' w' r k ety esz es := by
  obtain ⟨h1, h2, h3, h4, h5, h6⟩ := h
  have hs := l.same r hv'.symm
  refine ⟨hv'.trans h1, h2, h3, by rw [hs.2]; exact h4, by rw [hs.2]; exact h5, ?_⟩
  by_cases hz : E.cap r = 0
  · exact .inl (by rw [hs.2]; exact hz)
  · rcases h6 with h6 | ⟨a1, a2, c, a3, a4, a0, a5⟩
    · exact absurd h6 hz
    · refine .inr ⟨by rw [hs.1]; exact a1, by rw [hs.1]; exact hF hz, c, by rw [hs.1, hh hz]; exact a3, by rw [hs.2]; exact a4, a0, fun i j e v x q1 q2 q3 => (a5 i j e v x q1 q2 q3).le l⟩

theorem BlkOk.le {n0 : Nat} {E E' : Env} {w w' : World} {r : Nat} {b : Blk} (h : BlkOk n0 E w r b) (l : EnvLe E w E' w') (hv : b.live → E'.ver r = E.ver r)
    (hh : b.has E r → w'.heap[E.blk r]? = w.heap[E.blk r]?) (hF : b.has E r → ¬ (E'.F (E.blk r) ∨ E'.N (E.blk r))) : BlkOk n0 E' w' r b := by
  cases b with
  | dead => trivial
  | box k cs =>
    obtain ⟨h1, h2, h3, c, ety, h4, h5, h6⟩ := h
    have hv' := hv trivial
    have hs := l.same r hv'.symm
    refine ⟨hv'.trans h1, by rw [hs.1]; exact h2, by rw [hs.1]; exact hF trivial, c, ety, by rw [hs.1, hh trivial]; exact h4, h5, fun j v x a b => (h6 j v x a b).le l⟩
  | arr k ety esz es => exact ArrOk.le h l (hv trivial) hh hF
  | arrc k ety esz es b c => exact ⟨ArrOk.le h.1 l (hv trivial) hh hF, ((l.same r (hv trivial).symm).2).trans h.2.1, ((l.same r (hv trivial).symm).1).trans h.2.2⟩
  | map k kt vt es bs c =>
    obtain ⟨h1, h2, h3, A, h4, h5⟩ := h
    have hv' := hv trivial
    have hs := l.same r hv'.symm
    exact ⟨hv'.trans h1, by rw [hs.1]; exact h2, by rw [hs.1]; exact hF trivial, A, by rw [hs.1, hh trivial]; exact h4, h5.le l⟩
  | iter k r' k' since sb =>
    obtain ⟨h1, h2, h3, b, h4, h5, h6⟩ := h
    have hv' := hv trivial
    have hs := l.same r hv'.symm
    have := l.ver r'
    exact ⟨hv'.trans h1, by rw [hs.1]; exact h2, by rw [hs.1]; exact hF trivial, b, by rw [hs.1, hh trivial]; exact h4, by omega, fun e => by rw [(l.same r' (by omega)).1]; exact h6 (by omega)⟩
  | mapc k kt vt es =>
    obtain ⟨h1, h2, h3, A, bs, c, h4, h5⟩ := h
    have hv' := hv trivial
    have hs := l.same r hv'.symm
    exact ⟨hv'.trans h1, by rw [hs.1]; exact h2, by rw [hs.1]; exact hF trivial, A, bs, c, by rw [hs.1, hh trivial]; exact h4, h5.le l⟩
  | mapb k kt vt es =>
    obtain ⟨h1, h2, h3, A, bs, c, h4, h5⟩ := h
    have hv' := hv trivial
    have hs := l.same r hv'.symm
    exact ⟨hv'.trans h1, by rw [hs.1]; exact h2, by rw [hs.1]; exact hF trivial, A, bs, c, by rw [hs.1, hh trivial]; exact h4, h5.le l⟩
  | arrx k ety esz es => exact ArxOk.le h l (hv trivial) hh hF
  | hole k =>
    have hq := hv trivial
    show E'.ver r < k
    rw [hq]; exact h

theorem ArrOk.lt {n0 : Nat} {E : Env} {w : World} {r k : Nat} {ety : TypeId} {esz : Nat} {es : List (List Dat)} (h : ArrOk n0 E w r k ety esz es) (hb : E.cap r ≠ 0) : E.blk r < w.heap.size ∧ n0 ≤ E.blk r ∧ ¬ (E.F (E.blk r) ∨ E.N (E.blk r)) := by
  obtain ⟨h1, h2, h3, h4, h5, h6⟩ := h
  rcases h6 with h6 | ⟨a1, a2, c, a3, a4, a5⟩
  · exact absurd h6 hb
  · exact ⟨(Array.getElem?_eq_some_iff.1 a3).1, a1, a2⟩

theorem ArxOk.lt {n0 : Nat} {E : Env} {w : World} {r k : Nat} {ety : TypeId} {esz : Nat} {es : List (List Cell)} (h : ArxOk n0 E w r k ety esz es) (hb : E.cap r ≠ 0) : E.blk r < w.heap.size ∧ n0 ≤ E.blk r ∧ ¬ (E.F (E.blk r) ∨ E.N (E.blk r)) := by
  obtain ⟨h1, h2, h3, h4, h5, h6⟩ := h
  rcases h6 with h6 | ⟨a1, a2, c, a3, a4, a5⟩
  · exact absurd h6 hb
  · exact ⟨(Array.getElem?_eq_some_iff.1 a3).1, a1, a2⟩

theorem BlkOk.lt {n0 : Nat} {E : Env} {w : World} {r : Nat} {b : Blk} (h : BlkOk n0 E w r b) (hb : b.has E r) : E.blk r < w.heap.size ∧ n0 ≤ E.blk r ∧ ¬ (E.F (E.blk r) ∨ E.N (E.blk r)) := by
  cases b with
  | dead => exact hb.elim
  | box k cs =>
    obtain ⟨h1, h2, h3, c, ety, h4, h5, h6⟩ := h
    exact ⟨(Array.getElem?_eq_some_iff.1 h4).1, h2, h3⟩
  | arr k ety esz es => exact ArrOk.lt h hb
  | arrc k ety esz es b c => exact ArrOk.lt h.1 hb
  | map k kt vt es bs c =>
    obtain ⟨h1, h2, h3, A, h4, h5⟩ := h
    exact ⟨(Array.getElem?_eq_some_iff.1 h4).1, h2, h3⟩
  | iter k r' k' since sb =>
    obtain ⟨h1, h2, h3, b, h4, h5, h6⟩ := h
    exact ⟨(Array.getElem?_eq_some_iff.1 h4).1, h2, h3⟩
  | mapc k kt vt es =>
    obtain ⟨h1, h2, h3, A, bs, c, h4, h5⟩ := h
    exact ⟨(Array.getElem?_eq_some_iff.1 h4).1, h2, h3⟩
  | mapb k kt vt es =>
    obtain ⟨h1, h2, h3, A, bs, c, h4, h5⟩ := h
    exact ⟨(Array.getElem?_eq_some_iff.1 h4).1, h2, h3⟩
  | arrx k ety esz es => exact ArxOk.lt h hb
  | hole k => exact hb.elim

theorem Blk.has.live {E : Env} {r : Nat} {b : Blk} (h : b.has E r) : b.live := by
  cases b <;> first | exact h.elim | trivial

/-- The version of a live entry. -/
def Blk.vers : Blk → Option Nat
  | .dead => none
  | .hole _ => none
  | .box k _ => some k
  | .arr k _ _ _ => some k
  | .arrc k _ _ _ _ _ => some k
  | .map k _ _ _ _ _ => some k
  | .iter k _ _ _ _ => some k
  | .mapc k _ _ _ => some k
  | .mapb k _ _ _ => some k
  | .arrx k _ _ _ => some k

theorem BlkOk.vers {n0 : Nat} {E : Env} {w : World} {r : Nat} {b : Blk} (h : BlkOk n0 E w r b) {k : Nat} (hk : b.vers = some k) : E.ver r = k := by
  cases b with
  | dead => cases hk
  | box k cs => cases hk; exact h.1
  | arr k ety esz es => cases hk; exact h.1
  | arrc k ety esz es b c => cases hk; exact h.1.1
  | map k kt vt es bs c => cases hk; exact h.1
  | iter k r' k' since sb => cases hk; exact h.1
  | mapc k kt vt es => cases hk; exact h.1
  | mapb k kt vt es => cases hk; exact h.1
  | arrx k ety esz es => cases hk; exact h.1
  | hole k => cases hk

/-- Whether an entry has its block hangs on its capacity alone. -/
theorem Blk.has_of {E E' : Env} {r : Nat} {b : Blk} (hc : E'.cap r = E.cap r) (h : b.has E' r) : b.has E r := by
  cases b <;> first | exact h | (simp only [Blk.has] at h ⊢; rw [← hc]; exact h)

/-- The environment with entry r turned. -/
def Env.upd (E : Env) (r b c k : Nat) : Env :=
  { F := E.F, blk := fun s => if s = r then b else E.blk s, cap := fun s => if s = r then c else E.cap s, ver := fun s => if s = r then k else E.ver s, N := E.N }

theorem Env.upd_le {E : Env} {w w' : World} (r b c k : Nat) (hk : E.ver r < k) (hm : ∀ i, E.F i ∨ E.N i → w'.heap[i]? = w.heap[i]?) : EnvLe E w (E.upd r b c k) w' := by
  refine ⟨fun _ h => h, fun i h => hm i (.inl h), fun s => ?_, fun s hs => ?_, fun i h => ⟨h, hm i (.inr h)⟩⟩
  · by_cases h : s = r
    · subst h; simp [Env.upd]; omega
    · simp [Env.upd, h]
  · by_cases h : s = r
    · subst h; simp [Env.upd] at hs; omega
    · simp [Env.upd, h]

section
variable {F0 : Nat → Prop} {w0 w : World} {E : Env} {mem : List Blk} {clock : Nat}

theorem getElem?_snoc {α : Type} {l : List α} {x y : α} {i : Nat} (h : (l ++ [x])[i]? = some y) : l[i]? = some y ∨ (i = l.length ∧ y = x) := by
  rw [List.getElem?_append] at h
  split at h
  · exact .inl h
  · rename_i hi
    cases hn : i - l.length with
    | zero => rw [hn] at h; simp at h; exact .inr ⟨by omega, h.symm⟩
    | succ m => rw [hn] at h; simp at h

theorem lt_of_getElem? {α : Type} {l : List α} {x : α} {i : Nat} (h : l[i]? = some x) : i < l.length := by
  rcases Nat.lt_or_ge i l.length with h' | h'
  · exact h'
  · rw [List.getElem?_eq_none h'] at h; cases h

/-- One entry of the memory is replaced (or a new one laid behind); its block is new, or was its own, or belongs to nobody. -/
theorem MemOk.turnV {n0 : Nat} {w' : World} {clock' : Nat} (h : MemOk n0 clock E w mem) (r b c k : Nat) (nb : Blk) (mem' : List Blk) (hverr : E.ver r < k) (hclock : clock ≤ clock') (hk : k ≤ clock')
    (hm : ∀ s x, mem'[s]? = some x → (s = r ∧ x = nb) ∨ (s ≠ r ∧ mem[s]? = some x))
    (hheap : ∀ i, i < w.heap.size → i ≠ b → w'.heap[i]? = w.heap[i]?)
    (hb : ∀ s x, s ≠ r → mem[s]? = some x → x.has E s → E.blk s ≠ b)
    (hFb : ¬ (E.F b ∨ E.N b)) (hF : ∀ i, E.F i ∨ E.N i → i < w.heap.size) (hnew : BlkOk n0 (E.upd r b c k) w' r nb) : MemOk n0 clock' (E.upd r b c k) w' mem' := by
  have hle : EnvLe E w (E.upd r b c k) w' := Env.upd_le r b c k (by omega) (fun i hi => hheap i (hF i hi) (fun e => hFb (e ▸ hi)))
  refine ⟨fun s => ?_, fun s x hx => ?_, fun s s' x x' hx hx' h1 h2 hne => ?_⟩
  · by_cases e : s = r
    · subst e; simp [Env.upd]; omega
    · have := h.clock s; simp [Env.upd, e]; omega
  · rcases hm s x hx with ⟨rfl, rfl⟩ | ⟨e, hx0⟩
    · exact hnew
    · have ho := h.ok s x hx0
      refine ho.le hle (fun _ => by simp [Env.upd, e]) (fun hh => ?_) (fun hh => (ho.lt hh).2.2)
      exact hheap _ (ho.lt hh).1 (hb s x e hx0 hh)
  · rcases hm s x hx with ⟨rfl, rfl⟩ | ⟨e, hx0⟩
    · rcases hm s' x' hx' with ⟨rfl, rfl⟩ | ⟨e', hx0'⟩
      · exact absurd rfl hne
      · have hh' : x'.has E s' := Blk.has_of (by simp [Env.upd, e']) h2
        have := hb s' x' e' hx0' hh'
        simpa [Env.upd, e'] using fun q => this q.symm
    · have hh : x.has E s := Blk.has_of (by simp [Env.upd, e]) h1
      rcases hm s' x' hx' with ⟨rfl, rfl⟩ | ⟨e', hx0'⟩
      · have := hb s x e hx0 hh
        simpa [Env.upd, e] using this
      · have hh' : x'.has E s' := Blk.has_of (by simp [Env.upd, e']) h2
        have := h.apart s s' x x' hx0 hx0' hh hh' hne
        simpa [Env.upd, e, e'] using this

theorem WOk.FN (h : WOk F0 w0 E w mem clock) (i : Nat) (hi : E.F i ∨ E.N i) : i < w.heap.size := by
  rcases hi with hi | hi
  · exact (h.F i hi).1
  · exact (h.N i hi).1

theorem WOk.turnV {w' : World} {clock' : Nat} (h : WOk F0 w0 E w mem clock) (r b c k : Nat) (nb : Blk) (mem' : List Blk) (hverr : E.ver r < k) (hclock : clock ≤ clock') (hk : k ≤ clock')
    (hm : ∀ s x, mem'[s]? = some x → (s = r ∧ x = nb) ∨ (s ≠ r ∧ mem[s]? = some x))
    (hbel : Bel w0.heap.size w w') (hheap : ∀ i, i < w.heap.size → i ≠ b → w'.heap[i]? = w.heap[i]?)
    (hb : ∀ s x, s ≠ r → mem[s]? = some x → x.has E s → E.blk s ≠ b)
    (hFb : ¬ (E.F b ∨ E.N b)) (hnew : BlkOk w0.heap.size (E.upd r b c k) w' r nb) : WOk F0 w0 (E.upd r b c k) w' mem' clock' ∧ EnvLe E w (E.upd r b c k) w' := by
  refine ⟨⟨h.below.trans hbel, h.base, fun i hi => ?_, h.mem.turnV r b c k nb mem' hverr hclock hk hm hheap hb hFb h.FN hnew, fun i hi => ⟨Nat.lt_of_lt_of_le (h.N i hi).1 hbel.size, (h.N i hi).2⟩⟩, Env.upd_le r b c k (by omega) (fun i hi => hheap i (h.FN i hi) (fun e => hFb (e ▸ hi)))⟩
  have := h.F i hi
  exact ⟨Nat.lt_of_lt_of_le this.1 hbel.size, this.2⟩

theorem WOk.turn {w' : World} {clock' : Nat} (h : WOk F0 w0 E w mem clock) (r b c k : Nat) (nb : Blk) (mem' : List Blk) (hclock : clock < k) (hk : k ≤ clock')
    (hm : ∀ s x, mem'[s]? = some x → (s = r ∧ x = nb) ∨ (s ≠ r ∧ mem[s]? = some x))
    (hbel : Bel w0.heap.size w w') (hheap : ∀ i, i < w.heap.size → i ≠ b → w'.heap[i]? = w.heap[i]?)
    (hb : ∀ s x, s ≠ r → mem[s]? = some x → x.has E s → E.blk s ≠ b)
    (hFb : ¬ (E.F b ∨ E.N b)) (hnew : BlkOk w0.heap.size (E.upd r b c k) w' r nb) : WOk F0 w0 (E.upd r b c k) w' mem' clock' ∧ EnvLe E w (E.upd r b c k) w' :=
  h.turnV r b c k nb mem' (by have := h.mem.clock r; omega) (by omega) hk hm hbel hheap hb hFb hnew

/-- A block that is new lies beyond all that is held. -/
theorem WOk.fresh (h : WOk F0 w0 E w mem clock) : ¬ (E.F w.heap.size ∨ E.N w.heap.size) ∧ ∀ s x, mem[s]? = some x → x.has E s → E.blk s ≠ w.heap.size := by
  refine ⟨fun hf => by have := h.FN _ hf; omega, fun s x hx hh e => ?_⟩
  have := ((h.mem.ok s x hx).lt hh).1
  omega

theorem WOk.le0 (h : WOk F0 w0 E w mem clock) : w0.heap.size ≤ w.heap.size := h.below.size

theorem snoc_turn (mem : List Blk) (nb : Blk) : ∀ s x, (mem ++ [nb])[s]? = some x → (s = mem.length ∧ x = nb) ∨ (s ≠ mem.length ∧ mem[s]? = some x) := by
  intro s x hx
  rcases getElem?_snoc hx with h | ⟨h1, h2⟩
  · have := lt_of_getElem? h
    exact .inr ⟨by omega, h⟩
  · exact .inl ⟨h1, h2⟩

theorem set_turn {mem : List Blk} (r : Nat) (nb : Blk) : ∀ s x, (mem.set r nb)[s]? = some x → (s = r ∧ x = nb) ∨ (s ≠ r ∧ mem[s]? = some x) := by
  intro s x hx
  by_cases e : r = s
  · subst e
    rw [List.getElem?_set_self' ] at hx
    cases hm : mem[r]? with
    | none => rw [hm] at hx; simp at hx
    | some y => rw [hm] at hx; simp at hx; exact .inl ⟨rfl, hx.symm⟩
  · rw [List.getElem?_set_ne e] at hx
    exact .inr ⟨fun q => e q.symm, hx⟩

theorem WOk.allocBox (h : WOk F0 w0 E w mem clock) (c : Array Value) (ety : TypeId) (cs : List Cell) (hl : c.size = cs.length)
    (hc : ∀ (j : Nat) v x, c[j]? = some v → cs[j]? = some x → CRep E w v x) :
    let E' := E.upd mem.length w.heap.size 0 (clock + 1)
    WOk F0 w0 E' (w.alloc (.cells c ety)) (mem ++ [.box (clock + 1) cs]) (clock + 1) ∧ EnvLe E w E' (w.alloc (.cells c ety)) := by
  intro E'
  have hf := h.fresh
  have hle : EnvLe E w E' (w.alloc (.cells c ety)) := Env.upd_le _ _ _ _ (by have := h.mem.clock mem.length; omega) (fun i hi => Bel.heap_alloc w _ i (h.FN i hi))
  refine h.turn _ _ _ _ _ _ (by omega) (Nat.le_refl _) (snoc_turn mem _) ((Bel.refl _ w).alloc h.le0 _) (fun i hi _ => Bel.heap_alloc w _ i hi) (fun s x _ hx hh => hf.2 s x hx hh) hf.1 ?_
  refine ⟨by simp [Env.upd], by simp [Env.upd]; exact h.le0, by simp only [Env.upd, if_true]; exact hf.1, c, ety, by simp only [Env.upd, if_true]; exact Go.heap_alloc_new w _, hl, fun j v x a b => (hc j v x a b).le hle⟩

/-- A new array of the call's own. -/
theorem WOk.newArr {w' : World} (h : WOk F0 w0 E w mem clock) (ety : TypeId) (esz cap : Nat) (es : List (List Dat)) (hesz : 0 < esz) (hes : ∀ e, e ∈ es → e.length = esz) (hcap : es.length ≤ cap) (hmax : cap ≤ maxLen)
    (hbel : Bel w0.heap.size w w') (hold : ∀ i, i < w.heap.size → w'.heap[i]? = w.heap[i]?)
    (hc : cap = 0 ∨ ∃ c, w'.heap[w.heap.size]? = some (.cells c ety (0, 0)) ∧ c.size = cap * esz ∧ (∀ v ∈ c, v.oneCell' = true) ∧ ∀ (i j : Nat) e v x, es[i]? = some e → e[j]? = some x → c[i * esz + j]? = some v → DRep E.F w v x) :
    let E' := E.upd mem.length w.heap.size cap (clock + 1)
    WOk F0 w0 E' w' (mem ++ [.arr (clock + 1) ety esz es]) (clock + 1) ∧ EnvLe E w E' w' := by
  intro E'
  have hf := h.fresh
  have hle : EnvLe E w E' w' := Env.upd_le _ _ _ _ (by have := h.mem.clock mem.length; omega) (fun i hi => hold i (h.FN i hi))
  refine h.turn _ _ _ _ _ _ (by omega) (Nat.le_refl _) (snoc_turn mem _) hbel (fun i hi _ => hold i hi) (fun s x _ hx hh => hf.2 s x hx hh) hf.1 ?_
  refine ⟨by simp [Env.upd], hesz, hes, by simpa [Env.upd] using hcap, by simpa [Env.upd] using hmax, ?_⟩
  rcases hc with hc | ⟨c, h1, h2, h0, h3⟩
  · exact .inl (by simp [Env.upd, hc])
  · refine .inr ⟨by simp [Env.upd]; exact h.le0, by simp only [Env.upd, if_true]; exact hf.1, c, by simp only [Env.upd, if_true]; exact h1, by simpa [Env.upd] using h2, h0, fun i j e v x a b d => (h3 i j e v x a b d).le hle⟩

/-- An array of the call's own after an append (or another turn of the whole array): the same block, or a new one. -/
theorem WOk.growArr {w' : World} (h : WOk F0 w0 E w mem clock) (r k : Nat) (ety : TypeId) (esz : Nat) (es0 : List (List Dat)) (hr : mem[r]? = some (.arr k ety esz es0))
    (b cap : Nat) (es : List (List Dat)) (hes : ∀ e, e ∈ es → e.length = esz) (hcap : es.length ≤ cap) (hmax : cap ≤ maxLen)
    (hb : b = w.heap.size ∨ (b = E.blk r ∧ E.cap r ≠ 0))
    (hbel : Bel w0.heap.size w w') (hold : ∀ i, i < w.heap.size → i ≠ b → w'.heap[i]? = w.heap[i]?)
    (hc : cap = 0 ∨ ∃ c, w'.heap[b]? = some (.cells c ety (0, 0)) ∧ c.size = cap * esz ∧ (∀ v ∈ c, v.oneCell' = true) ∧ ∀ (i j : Nat) e v x, es[i]? = some e → e[j]? = some x → c[i * esz + j]? = some v → DRep E.F w v x) :
    let E' := E.upd r b cap (clock + 1)
    WOk F0 w0 E' w' (mem.set r (.arr (clock + 1) ety esz es)) (clock + 1) ∧ EnvLe E w E' w' := by
  intro E'
  have hf := h.fresh
  have ho := h.mem.ok r _ hr
  have hFb : ¬ (E.F b ∨ E.N b) ∧ w0.heap.size ≤ b := by
    rcases hb with rfl | ⟨rfl, hz⟩
    · exact ⟨hf.1, h.le0⟩
    · have := ho.lt (show Blk.has E r _ from hz); exact ⟨this.2.2, this.2.1⟩
  have hapart : ∀ s x, s ≠ r → mem[s]? = some x → x.has E s → E.blk s ≠ b := by
    intro s x hs hx hh
    rcases hb with rfl | ⟨rfl, hz⟩
    · exact hf.2 s x hx hh
    · exact h.mem.apart s r x _ hx hr hh hz hs
  have hle : EnvLe E w E' w' := Env.upd_le _ _ _ _ (by have := h.mem.clock r; omega) (fun i hi => hold i (h.FN i hi) (fun e => hFb.1 (e ▸ hi)))
  refine h.turn _ _ _ _ _ _ (by omega) (Nat.le_refl _) (set_turn r _) hbel hold hapart hFb.1 ?_
  refine ⟨by simp [Env.upd], ho.2.1, hes, by simpa [Env.upd] using hcap, by simpa [Env.upd] using hmax, ?_⟩
  rcases hc with hc | ⟨c, h1, h2, h0, h3⟩
  · exact .inl (by simp [Env.upd, hc])
  · refine .inr ⟨by simp [Env.upd]; exact hFb.2, by simp only [Env.upd, if_true]; exact hFb.1, c, by simp only [Env.upd, if_true]; exact h1, by simpa [Env.upd] using h2, h0, fun i j e v x a b d => (h3 i j e v x a b d).le hle⟩

/-- The world goes on without touching what is held: new memory may become data. -/
theorem WOk.later {w' : World} (h : WOk F0 w0 E w mem clock) (hb : Bel w.heap.size w w') (G : Nat → Prop) (hG : ∀ k, G k → w.heap.size ≤ k ∧ k < w'.heap.size) :
    let E' : Env := { E with F := fun k => E.F k ∨ G k }
    WOk F0 w0 E' w' mem clock ∧ EnvLe E w E' w' := by
  intro E'
  have hle : EnvLe E w E' w' := ⟨fun _ hk => .inl hk, fun k hk => hb.block k (h.F k hk).1, fun _ => Nat.le_refl _, fun _ _ => ⟨rfl, rfl⟩, fun k hk => ⟨hk, hb.block k (h.N k hk).1⟩⟩
  refine ⟨⟨h.below.trans (hb.mono h.le0), fun k hk => .inl (h.base k hk), fun k hk => ?_, ⟨h.mem.clock, fun r x hx => ?_, fun r r' x x' hx hx' h1 h2 hne => ?_⟩, fun k hk => ⟨Nat.lt_of_lt_of_le (h.N k hk).1 hb.size, ?_⟩⟩, hle⟩
  · rcases hk with hk | hk
    · have := h.F k hk; exact ⟨Nat.lt_of_lt_of_le this.1 hb.size, this.2⟩
    · have := hG k hk; have := h.le0; exact ⟨by omega, .inr (by omega)⟩
  · have ho := h.mem.ok r x hx
    refine ho.le hle (fun _ => rfl) (fun hh => hb.block _ (ho.lt hh).1) (fun hh => ?_)
    rintro ((hk | hk) | hk)
    · exact (ho.lt hh).2.2 (.inl hk)
    · have := hG _ hk; have := (ho.lt hh).1; omega
    · exact (ho.lt hh).2.2 (.inr hk)
  · refine h.mem.apart r r' x x' hx hx' ?_ ?_ hne
    · cases x <;> exact h1
    · cases x' <;> exact h2
  · rintro (h1 | h1)
    · exact (h.N k hk).2 h1
    · have := hG k h1; have := (h.N k hk).1; omega

/-- An array becomes data. -/
theorem WOk.freeze (h : WOk F0 w0 E w mem clock) (r k : Nat) (ety : TypeId) (esz : Nat) (es : List (List Dat)) (hr : mem[r]? = some (.arr k ety esz es)) :
    let E' : Env := { E with F := fun i => E.F i ∨ (i = E.blk r ∧ E.cap r ≠ 0) }
    WOk F0 w0 E' w (mem.set r .dead) clock ∧ EnvLe E w E' w := by
  intro E'
  have ho := h.mem.ok r _ hr
  have hle : EnvLe E w E' w := ⟨fun _ hk => .inl hk, fun k hk => rfl, fun _ => Nat.le_refl _, fun _ _ => ⟨rfl, rfl⟩, fun _ hk => ⟨hk, rfl⟩⟩
  refine ⟨⟨h.below, fun k hk => .inl (h.base k hk), fun i hi => ?_, ⟨h.mem.clock, fun s x hx => ?_, fun s s' x x' hx hx' h1 h2 hne => ?_⟩, fun k hk => ⟨(h.N k hk).1, ?_⟩⟩, hle⟩
  · rcases hi with hi | ⟨rfl, hz⟩
    · exact h.F i hi
    · have := ho.lt (show Blk.has E r _ from hz)
      exact ⟨this.1, .inr this.2.1⟩
  · rcases set_turn r _ s x hx with ⟨rfl, rfl⟩ | ⟨e, hx0⟩
    · trivial
    · have ho' := h.mem.ok s x hx0
      refine ho'.le hle (fun _ => rfl) (fun _ => rfl) (fun hh => ?_)
      rintro ((hk | ⟨hk, hz⟩) | hk)
      · exact (ho'.lt hh).2.2 (.inl hk)
      · exact h.mem.apart s r x _ hx0 hr hh (show Blk.has E r _ from hz) e hk
      · exact (ho'.lt hh).2.2 (.inr hk)
  · rcases set_turn r _ s x hx with ⟨rfl, rfl⟩ | ⟨e, hx0⟩
    · exact h1.elim
    · rcases set_turn r _ s' x' hx' with ⟨rfl, rfl⟩ | ⟨e', hx0'⟩
      · exact h2.elim
      · refine h.mem.apart s s' x x' hx0 hx0' ?_ ?_ hne
        · cases x <;> exact h1
        · cases x' <;> exact h2
  · rintro (h1 | ⟨rfl, hz⟩)
    · exact (h.N k hk).2 h1
    · exact (ho.lt (show Blk.has E r _ from hz)).2.2 (.inr hk)

/-- Entries behind a place are let go. -/
theorem WOk.drop {mem' : List Blk} (h : WOk F0 w0 E w mem clock) (hm : ∀ (s : Nat) x, mem'[s]? = some x → x.live → mem[s]? = some x) : WOk F0 w0 E w mem' clock := by
  refine ⟨h.below, h.base, h.F, ⟨h.mem.clock, fun s x hx => ?_, fun s s' x x' hx hx' h1 h2 hne => h.mem.apart s s' x x' (hm s x hx h1.live) (hm s' x' hx' h2.live) h1 h2 hne⟩, h.N⟩
  cases x <;> first | trivial | exact h.mem.ok s _ (hm s _ hx trivial)
end
end Go.Abs
end

/-
  The operations over the abstract view, and that each of them follows the machine's own.
-/
section
namespace Go.Abs
open Go.RowKit

inductive TD where
  | int (k : IntKind)
  | bool
  | str
  | struct (fs : List (Nat × TypeId))
  | array (n : Nat) (e : TypeId)
  | slice (e : TypeId)
  | plain

def TD.agg : TD → Bool
  | .struct _ => true
  | .array _ _ => true
  | _ => false

structure TI where
  size : Nat
  bytes : Nat
  zero : List Value
  desc : TD
  eqs : Bool := false

def TDOk (P : Program) (t : TypeId) : TD → Prop
  | .int k => P.underlying t = some (.int k)
  | .bool => P.underlying t = some .bool
  | .str => P.underlying t = some .string
  | .struct fs => ∃ fields, P.underlying t = some (.struct fields) ∧ fields.toList.map (fun f => (f.offset, f.type)) = fs
  | .array n e => P.underlying t = some (.array n e)
  | .slice e => P.underlying t = some (.slice e)
  | .plain => ∃ d, P.underlying t = some d ∧ (match d with | .struct _ => False | .array _ _ => False | _ => True)

def litEq : Value → Value → Bool
  | .int _ a, .int _ b => a == b
  | .bool a, .bool b => a == b
  | .string a, .string b => a.toList == b.toList
  | _, _ => false

def litsEq : List Value → List Value → Bool
  | x :: xs, y :: ys => litEq x y && litsEq xs ys
  | _, _ => true

/-- Two literal values of one kind. -/
def alike : Value → Value → Prop
  | .int k _, .int k' _ => k = k'
  | .bool _, .bool _ => True
  | .string _, .string _ => True
  | _, _ => False

def alikes : List Value → List Value → Prop
  | x :: xs, y :: ys => alike x y ∧ alikes xs ys
  | [], [] => True
  | _, _ => False

/-- '==' of two structs of literal fields. -/
def EqOk (P : Program) (t : TypeId) (zero : List Value) : Prop :=
  ∀ (w : World) (x y : Operand) (xs ys : List Value), alikes zero xs → alikes zero ys →
    ((do eqGuard .eql t x y (.agg xs.toArray) (.agg ys.toArray); binOp .eql t (.agg xs.toArray) (.agg ys.toArray) : Sem Value).run P w = .ok (.bool (litsEq xs ys)) w) ∧
    ((do eqGuard .neq t x y (.agg xs.toArray) (.agg ys.toArray); binOp .neq t (.agg xs.toArray) (.agg ys.toArray) : Sem Value).run P w = .ok (.bool !(litsEq xs ys)) w)

structure TOk (P : Program) (t : TypeId) (i : TI) : Prop where
  info : ∃ f z, P.info? t = some f ∧ f.size = i.size ∧ f.bytes = i.bytes ∧ f.zero = some z ∧ z.cells = i.zero.toArray
  ones : ∀ v ∈ i.zero, v.oneCell' = true
  desc : TDOk P t i.desc
  eqv : i.eqs = true → EqOk P t i.zero

def TypesOk (P : Program) (T : TypeId → Option TI) : Prop := ∀ t i, T t = some i → TOk P t i

def lit (v : Value) : SVal := .c (.d (.lit v))
def int (n : Int) : SVal := lit (.int .i64 n)
def boo (b : Bool) : SVal := lit (.bool b)

def valCell : Value → Cell
  | .slice none 0 0 => .emp
  | v => .d (.lit v)

def SVal.cells : SVal → Option (List Cell)
  | .c x => some [x]
  | .agg xs => some xs
  | _ => none

def Cell.dat : Cell → Option Dat
  | .d x => some x
  | .emp => some (.sl [])
  | _ => none

def dats : List Cell → Option (List Dat)
  | [] => some []
  | c :: cs => match c.dat, dats cs with
    | some x, some xs => some (x :: xs)
    | _, _ => none

def oneOr (agg : Bool) (cs : List Cell) : SVal :=
  match agg, cs with
  | true, cs => .agg cs
  | false, [x] => .c x
  | false, _ => .junk

def liveAt (mem : List Blk) (r k : Nat) : Prop :=
  match mem[r]? with
  | some (.box k' _) => k' = k
  | some (.arr k' _ _ _) => k' = k
  | _ => False

section
variable (P : Program) (T : TypeId → Option TI) (F0 : Nat → Prop) (w0 : World)

structure FnOk (f : FuncId) : Prop where
  ex : ∃ fn, P.funcs[f]? = some fn ∧ (fn.name == "runtime.NumGoroutine") = false ∧ fn.body.isNone = false

/-- What a call does to what is held. -/
def MCall (f : FuncId) (args : List SVal) (mem : List Blk) (clock : Nat) (R : SVal → List Blk → Nat → Prop) : Prop :=
  FnOk P f ∧ ∀ (E : Env) (w : World) (vs : List Value), WOk F0 w0 E w mem clock → vs.length = args.length →
    (∀ (i : Nat) v x, vs[i]? = some v → args[i]? = some x → SRep E w v x) →
    Calls P f vs.toArray w fun e w' => ∃ v E' r mem' clock', e = .returned v ∧ EnvLe E w E' w' ∧ WOk F0 w0 E' w' mem' clock' ∧ SRep E' w' v r ∧ R r mem' clock'

/-- One of two, by a bit. -/
def whenB (b want : Bool) (A C : Prop) : Prop := (b = want → A) ∧ (b = !want → C)

theorem when_tt {A C : Prop} : whenB true true A C = A := by simp [whenB]
theorem when_ft {A C : Prop} : whenB false true A C = C := by simp [whenB]
/-- What is there, and what holds of it. -/
def there {α : Type} (o : Option α) (f : α → Prop) : Prop :=
  match o with
  | some e => f e
  | none => False

theorem there_of {α : Type} {o : Option α} {f : α → Prop} (h : there o f) : ∃ e, o = some e ∧ f e := by
  cases o with
  | none => exact h.elim
  | some e => exact ⟨e, rfl, h⟩

theorem there_intro {α : Type} {o : Option α} {f : α → Prop} {e : α} (h : o = some e) (hf : f e) : there o f := by subst h; exact hf
def aLoad (σ : St) (t : TypeId) (x : SVal) (V : SVal → Prop) : Prop :=
  match T t with
  | none => False
  | some i => (i.desc.agg = true ∨ i.size = 1) ∧
    match x with
    | .c (.bp r k o) => (match σ.mem[r]? with
      | some (.box k' cs) => k' = k ∧ o + i.size ≤ cs.length ∧ V (oneOr i.desc.agg ((cs.drop o).take i.size))
      | _ => False)
    | .c (.fp e o) => o + i.size ≤ e.length ∧ V (oneOr i.desc.agg (((e.drop o).take i.size).map .d))
    | .c (.ap r k esz n o) => (match σ.mem[r]? with
      | some (.arr k' _ esz' es) => k' = k ∧ esz' = esz ∧ there es[n]? fun e => o + i.size ≤ e.length ∧ V (oneOr i.desc.agg (((e.drop o).take i.size).map .d))
      | _ => False)
    | _ => False

def aStore (σ : St) (t : TypeId) (x v : SVal) (K : St → Prop) : Prop :=
  match T t, v.cells with
  | some i, some cs => cs.length = i.size ∧
    match x with
    | .c (.bp r k o) => (match σ.mem[r]? with
      | some (.box k' cs0) => k' = k ∧ o + i.size ≤ cs0.length ∧ K { σ with mem := σ.mem.set r (.box k (cs0.take o ++ cs ++ cs0.drop (o + i.size))) }
      | _ => False)
    | .c (.ap r k esz n o) => (match σ.mem[r]?, dats cs with
      | some (.arr k' ety esz' es), some ds => k' = k ∧ esz' = esz ∧ o + i.size ≤ esz ∧ there es[n]? fun e =>
          K { σ with mem := σ.mem.set r (.arr k ety esz (es.set n (e.take o ++ ds ++ e.drop (o + i.size)))) }
      | _, _ => False)
    | _ => False
  | _, _ => False

def aField (σ : St) (s : TypeId) (f : Nat) (x : SVal) (V : SVal → Prop) : Prop :=
  match T s with
  | some ⟨_, _, _, .struct fs, _⟩ => (match fs[f]? with
    | some (off, ft) => (match T ft with
      | some j => j.size ≠ 0 ∧ (match x with
        | .c (.bp r k o) => liveAt σ.mem r k ∧ V (.c (.bp r k (o + off)))
        | .c (.fp e o) => V (.c (.fp e (o + off)))
        | .c (.ap r k esz n o) => liveAt σ.mem r k ∧ V (.c (.ap r k esz n (o + off)))
        | _ => False)
      | none => False)
    | none => False)
  | _ => False

def aIndex (σ : St) (t : TypeId) (x i : SVal) (V : SVal → Prop) : Prop :=
  match i with
  | .c (.d (.lit (.int _ n))) => 0 ≤ n ∧ (match T t with
    | some ⟨_, _, _, .slice e, _⟩ => (match T e with
      | some ei => (match x with
        | .c (.d (.sl es)) => there es[n.toNat]? fun el => el.length = ei.size ∧ V (.c (.fp el 0))
        | .c (.arr r k m) => n < (m : Int) ∧ (match σ.mem[r]? with
          | some (.arr k' _ esz es) => k' = k ∧ esz = ei.size ∧ m ≤ es.length ∧ V (.c (.ap r k esz n.toNat 0))
          | _ => False)
        | _ => False)
      | none => False)
    | some ⟨_, _, _, .array m e, _⟩ => n < (m : Int) ∧ (match T e with
      | some ei => (match x with
        | .c (.bp r k o) => liveAt σ.mem r k ∧ V (.c (.bp r k (o + n.toNat * ei.size)))
        | .c (.fp el o) => V (.c (.fp el (o + n.toNat * ei.size)))
        | _ => False)
      | none => False)
    | _ => False)
  | _ => False

def bnd (d : Nat) : Option SVal → Option Int
  | none => some d
  | some (.c (.d (.lit (.int _ n)))) => some n
  | _ => none

def aSlice (σ : St) (t : TypeId) (x : SVal) (lo hi : Option SVal) (V : SVal → Prop) : Prop :=
  match T t, x with
  | some ⟨_, _, _, .str, _⟩, .c (.d (.lit (.string s))) => (match bnd 0 lo, bnd s.size hi with
    | some l, some h => 0 ≤ l ∧ l ≤ h ∧ h ≤ (s.size : Int) ∧ V (lit (.string (s.extract l.toNat h.toNat)))
    | _, _ => False)
  | some ⟨_, _, _, .slice e, _⟩, .c (.d (.sl es)) => (match T e, bnd 0 lo, bnd es.length hi with
    | some ei, some l, some h => (∀ el, el ∈ es → el.length = ei.size) ∧ 0 ≤ l ∧ l ≤ h ∧ h ≤ (es.length : Int) ∧ V (.c (.d (.sl ((es.take h.toNat).drop l.toNat))))
    | _, _, _ => False)
  | some ⟨_, _, _, .slice e, _⟩, .c .emp => (match T e, bnd 0 lo, bnd 0 hi with
    | some _, some l, some h => l = 0 ∧ h = 0 ∧ V (.c .emp)
    | _, _, _ => False)
  | some ⟨_, _, _, .slice e, _⟩, .c (.arr r k m) => (match T e, bnd 0 lo, bnd m hi, σ.mem[r]? with
    | some _, some l, some h, some (.arr k' _ _ es) => k' = k ∧ m ≤ es.length ∧ l = 0 ∧ 0 ≤ h ∧ h ≤ (m : Int) ∧ V (.c (.arr r k h.toNat))
    | _, _, _, _ => False)
  | _, _ => False

def aLen (σ : St) (t : TypeId) (x : SVal) (V : SVal → Prop) : Prop :=
  match T t, x with
  | some ⟨_, _, _, .slice _, _⟩, .c (.d (.sl es)) => V (int es.length)
  | some ⟨_, _, _, .slice _, _⟩, .c .emp => V (int 0)
  | some ⟨_, _, _, .slice _, _⟩, .c (.arr r k n) => liveAt σ.mem r k ∧ V (int n)
  | some ⟨_, _, _, .str, _⟩, .c (.d (.lit (.string s))) => V (int s.size)
  | some ⟨_, _, _, .array n _, _⟩, _ => V (int n)
  | _, _ => False

def srcOf : SVal → Option (List (List Dat))
  | .c (.d (.sl ys)) => some ys
  | .c .emp => some []
  | _ => none

def aAppend (σ : St) (t : TypeId) (s y : SVal) (dst : Option Tmp) (K : St → Prop) : Prop :=
  match T t with
  | some ⟨_, _, _, .slice e, _⟩ => (match T e, srcOf y with
    | some ei, some ys => 0 < ei.size ∧ ei.zero.length = ei.size ∧ (∀ el, el ∈ ys → el.length = ei.size) ∧ (match s with
      | .c .emp => ys.length ≤ maxLen ∧ ys.length * ei.bytes ≤ 140737488355328 ∧
          K ({ σ with mem := σ.mem ++ [Blk.arr (σ.clock + 1) e ei.size ys], clock := σ.clock + 1 }.putO dst (.c (.arr σ.mem.length (σ.clock + 1) ys.length)))
      | .c (.arr r k n) => (match σ.mem[r]? with
        | some (.arr k' e' esz es) => k' = k ∧ e' = e ∧ esz = ei.size ∧ n ≤ es.length ∧ n + ys.length ≤ maxLen ∧ (n + ys.length) * ei.bytes ≤ 140737488355328 ∧
            K ({ σ with mem := σ.mem.set r (.arr (σ.clock + 1) e ei.size (es.take n ++ ys)), clock := σ.clock + 1 }.putO dst (.c (.arr r (σ.clock + 1) (n + ys.length))))
        | _ => False)
      | _ => False)
    | _, _ => False)
  | _ => False

def aMake (σ : St) (t : TypeId) (l c : SVal) (dst : Option Tmp) (K : St → Prop) : Prop :=
  match T t, l, c with
  | some ⟨_, _, _, .slice e, _⟩, .c (.d (.lit (.int _ n))), .c (.d (.lit (.int _ m))) => (match T e with
    | some ei => (match dats (ei.zero.map valCell) with
      | some z => 0 < ei.size ∧ ei.zero.length = ei.size ∧ 0 ≤ n ∧ n ≤ m ∧ m ≤ 9223372036854775807 ∧ (ei.bytes : Int) * m ≤ 281474976710656 ∧
        K ({ σ with mem := σ.mem ++ [Blk.arr (σ.clock + 1) e ei.size (List.replicate n.toNat z)], clock := σ.clock + 1 }.putO dst (.c (.arr σ.mem.length (σ.clock + 1) n.toNat)))
      | none => False)
    | none => False)
  | _, _, _ => False

/-- The parts of a slice's literal: every place, in order. -/
def partsOf (σ : St) (size : Nat) : List (Nat × Operand) → Nat → Option (List (List Dat))
  | [], _ => some []
  | (i, x) :: rest, k => if i = k then (match (σ.ev x).cells with
      | some cs => (match dats cs, partsOf σ size rest (k + 1) with
        | some ds, some r => if ds.length = size then some (ds :: r) else none
        | _, _ => none)
      | none => none) else none

def aBuildSlice (σ : St) (t : TypeId) (len : Nat) (parts : List (Nat × Operand)) (V : SVal → Prop) : Prop :=
  match T t with
  | some ⟨_, _, _, .slice e, _⟩ => (match T e with
    | some ei => (match len with
      | 0 => parts = [] ∧ V (.c .emp)
      | n + 1 => 0 < ei.size ∧ ei.zero.length = ei.size ∧ (n + 1) * ei.size ≤ 16777216 ∧ parts.length = n + 1 ∧ (match partsOf σ ei.size parts 0 with
        | some es => V (.c (.d (.sl es)))
        | none => False))
    | none => False)
  | _ => False

def fillC (σ : St) (fs : List (Nat × TypeId)) : List (Nat × Operand) → List Cell → Option (List Cell)
  | [], cs => some cs
  | (i, x) :: rest, cs => match fs[i]?, (σ.ev x).cells with
    | some (off, ft), some ns => (match T ft with
      | some j => if ns.length = j.size ∧ off + ns.length ≤ cs.length then fillC σ fs rest (cs.take off ++ ns ++ cs.drop (off + ns.length)) else none
      | none => none)
    | _, _ => none

def aBuild (σ : St) (t : TypeId) (parts : List (Nat × Operand)) (V : SVal → Prop) : Prop :=
  match T t with
  | some ⟨_, _, zero, .struct fs, _⟩ => fs.all (fun p => (T p.2).isSome) = true ∧ (match fillC T σ fs parts (zero.map valCell) with
    | some cs => V (.agg cs)
    | none => False)
  | _ => False

def andInt (k : IntKind) (a b : Int) : Int := k.wrap (BitVec.ofInt k.bits a &&& BitVec.ofInt k.bits b).toNat

def aInt (op : BinOp) (k : IntKind) (a b : Int) (V : SVal → Prop) : Prop :=
  match op with
  | .add => V (lit (.int k (k.wrap (a + b))))
  | .sub => V (lit (.int k (k.wrap (a - b))))
  | .mul => V (lit (.int k (k.wrap (a * b))))
  | .quo => b ≠ 0 ∧ V (lit (.int k (k.wrap (a.tdiv b))))
  | .rem => b ≠ 0 ∧ V (lit (.int k (a.tmod b)))
  | .and => V (lit (.int k (andInt k a b)))
  | .eql => V (boo (a == b))
  | .neq => V (boo (a != b))
  | .lss => V (boo (decide (a < b)))
  | .leq => V (boo (decide (a ≤ b)))
  | .gtr => V (boo (decide (a > b)))
  | .geq => V (boo (decide (a ≥ b)))
  | _ => False

def aStr (op : BinOp) (a b : ByteArray) (V : SVal → Prop) : Prop :=
  match op with
  | .add => a.size + b.size ≤ maxLen ∧ V (lit (.string (a ++ b)))
  | .eql => V (boo (a.toList == b.toList))
  | .neq => V (boo !(a.toList == b.toList))
  | .lss => V (boo (Op.bytesLess a.toList b.toList))
  | .leq => V (boo (Op.bytesLess a.toList b.toList || a.toList == b.toList))
  | .gtr => V (boo !(Op.bytesLess a.toList b.toList || a.toList == b.toList))
  | .geq => V (boo !(Op.bytesLess a.toList b.toList))
  | _ => False

def litsOf : List Cell → Option (List Value)
  | [] => some []
  | .d (.lit v) :: cs => (match litsOf cs with
    | some vs => some (v :: vs)
    | none => none)
  | _ => none

def aBin (op : BinOp) (t : TypeId) (x y : SVal) (V : SVal → Prop) : Prop :=
  match x, y with
  | .c (.d (.lit (.int k a))), .c (.d (.lit (.int k' b))) => k = k' ∧ aInt op k a b V
  | .c (.d (.lit (.string a))), .c (.d (.lit (.string b))) => aStr op a b V
  | .c (.d (.lit (.bool a))), .c (.d (.lit (.bool b))) => (match T t with
    | some ⟨_, _, _, .bool, _⟩ => (match op with
      | .eql => V (boo (a == b))
      | .neq => V (boo (!(a == b)))
      | _ => False)
    | _ => False)
  | .agg xs, .agg ys => (match T t, litsOf xs, litsOf ys with
    | some i, some us, some vs => i.eqs = true ∧ alikes i.zero us ∧ alikes i.zero vs ∧ (match op with
      | .eql => V (boo (litsEq us vs))
      | .neq => V (boo (!(litsEq us vs)))
      | _ => False)
    | _, _, _ => False)
  | _, _ => False

def aUn (op : UnOp) (x : SVal) (V : SVal → Prop) : Prop :=
  match op, x with
  | .not, .c (.d (.lit (.bool b))) => V (boo !b)
  | .neg, .c (.d (.lit (.int k n))) => V (lit (.int k (k.wrap (0 - n))))
  | _, _ => False

def aConv (src dst : TypeId) (x : SVal) (V : SVal → Prop) : Prop :=
  match T src, T dst, x with
  | some _, some ⟨_, _, _, .int k, _⟩, .c (.d (.lit (.int _ n))) => V (lit (.int k (k.wrap n)))
  | _, _, _ => False

def capsOf (σ : St) : List Operand → Option (List Cell)
  | [] => some []
  | x :: xs => match σ.ev x, capsOf σ xs with
    | .c c, some cs => some (c :: cs)
    | _, _ => none

def aFunc (σ : St) (fn : Fn) (first captured : List Operand) (V : SVal → Prop) : Prop :=
  match fn, first, captured with
  | .func f, [], [] => V (lit (.func (.func f) #[] #[]))
  | .func f, [], caps => (match capsOf σ caps with
    | some cs => (match dats cs with
      | some ds => V (.c (.d (.clo f ds)))
      | none => V (.c (.clo f cs)))
    | none => False)
  | _, _, _ => False

/-- Which function a value calls, and with what behind the arguments. -/
def calleeOf : SVal → Option (FuncId × List Cell)
  | .c (.d (.lit (.func (.func f) first caps))) => if first.size = 0 ∧ caps.size = 0 then some (f, []) else none
  | .c (.d (.clo f ds)) => some (f, ds.map .d)
  | .c (.clo f cs) => some (f, cs)
  | _ => none

def aCall (σ : St) (c : Call) (dst : Option Tmp) (K : St → Prop) : Prop :=
  match c.callee with
  | .value f => (match calleeOf (σ.ev f) with
    | some (g, caps) => MCall P F0 w0 g (c.args.toList.map σ.ev ++ caps.map .c) σ.mem σ.clock fun r mem' clock' => K ({ σ with mem := mem', clock := clock' }.putO dst r)
    | none => False)
  | .builtin .len => (match c.args.toList, c.argTypes.toList with
    | [x], [t] => aLen T σ t (σ.ev x) fun v => K (σ.putO dst v)
    | _, _ => False)
  | .builtin .append => (match c.args.toList, c.argTypes.toList with
    | [s, y], [t, t'] => t' = t ∧ aAppend T σ t (σ.ev s) (σ.ev y) dst K
    | _, _ => False)
  | .builtin .min => (match c.args.toList with
    | [x, y] => (match σ.ev x, σ.ev y with
      | .c (.d (.lit (.int k a))), .c (.d (.lit (.int k' b))) => k = k' ∧ K (σ.putO dst (lit (.int k (if b < a then b else a))))
      | _, _ => False)
    | _ => False)
  | .builtin .max => (match c.args.toList with
    | [x, y] => (match σ.ev x, σ.ev y with
      | .c (.d (.lit (.int k a))), .c (.d (.lit (.int k' b))) => k = k' ∧ K (σ.putO dst (lit (.int k (if a < b then b else a))))
      | _, _ => False)
    | _ => False)
  | _ => False

def astep (o : Oper) (σ : St) (K : St → Prop) : Prop :=
  match o.op with
  | .move x => K (σ.putO o.dst (σ.ev x))
  | .assign x => K (σ.putO o.dst (σ.ev x))
  | .pick c a b => (match σ.ev c with
    | .c (.d (.lit (.bool t))) => whenB t true (K (σ.putO o.dst (σ.ev a))) (K (σ.putO o.dst (σ.ev b)))
    | _ => False)
  | .alloc t => (match T t with
    | some i => K ({ σ with mem := σ.mem ++ [Blk.box (σ.clock + 1) (i.zero.map valCell)], clock := σ.clock + 1 }.putO o.dst (.c (.bp σ.mem.length (σ.clock + 1) 0)))
    | none => False)
  | .box _ x => (match (σ.ev x).cells with
    | some cs => K ({ σ with mem := σ.mem ++ [Blk.box (σ.clock + 1) cs], clock := σ.clock + 1 }.putO o.dst (.c (.bp σ.mem.length (σ.clock + 1) 0)))
    | none => False)
  | .load t x => aLoad T σ t (σ.ev x) fun v => K (σ.putO o.dst v)
  | .store t x v => aStore T σ t (σ.ev x) (σ.ev v) fun σ' => K (σ'.putO o.dst .junk)
  | .fieldAddr s x f => aField T σ s f (σ.ev x) fun v => K (σ.putO o.dst v)
  | .indexAddr t x i => aIndex T σ t (σ.ev x) (σ.ev i) fun v => K (σ.putO o.dst v)
  | .slice t x lo hi mx => mx.isNone = true ∧ aSlice T σ t (σ.ev x) (lo.map σ.ev) (hi.map σ.ev) fun v => K (σ.putO o.dst v)
  | .binOp op t x y _ => aBin T op t (σ.ev x) (σ.ev y) fun v => K (σ.putO o.dst v)
  | .unOp op _ x => aUn op (σ.ev x) fun v => K (σ.putO o.dst v)
  | .convert s d x => aConv T s d (σ.ev x) fun v => K (σ.putO o.dst v)
  | .build t parts => aBuild T σ t parts.toList fun v => K (σ.putO o.dst v)
  | .buildSlice t len parts => aBuildSlice T σ t len parts.toList fun v => K (σ.putO o.dst v)
  | .makeSlice t l c => aMake T σ t (σ.ev l) (σ.ev c) o.dst K
  | .makeFunc fn first captured => aFunc σ fn first.toList captured.toList fun v => K (σ.putO o.dst v)
  | .extract x i => (match σ.ev x with
    | .tup xs => (match xs[i]? with
      | some v => K (σ.putO o.dst v)
      | none => False)
    | _ => False)
  | .call c => aCall P T F0 w0 σ c o.dst K
  | .defer c => (match c.callee, c.args.toList with
    | .value f, [] => (match calleeOf (σ.ev f) with
      | some (g, caps) => K ({ σ with defers := (g, caps) :: σ.defers }.putO o.dst .junk)
      | none => False)
    | _, _ => False)
  | _ => False
end
end Go.Abs
end

/-
  Each operation over the abstract view follows the machine's own.
-/
section
namespace Go.Abs
open Go.RowKit

section
variable {P : Program} {T : TypeId → Option TI} {F0 : Nat → Prop} {w0 w : World} {E : Env} {mem : List Blk} {clock : Nat}

theorem SRep.lit_inv {v u : Value} (h : SRep E w v (.c (.d (.lit u)))) : v = u := by
  cases h with | c h => cases h with | d h => cases h with | lit _ _ => rfl

theorem TOk.isAgg {t : TypeId} {i : TI} (h : TOk P t i) : (isAgg t).run P w = .ok i.desc.agg w := by
  have hd := h.desc
  cases hi : i.desc <;> rw [hi] at hd <;> simp only [TDOk] at hd
  · simp [Go.isAgg, run_underlying hd, TD.agg]
  · simp [Go.isAgg, run_underlying hd, TD.agg]
  · simp [Go.isAgg, run_underlying hd, TD.agg]
  · obtain ⟨fs, hd, _⟩ := hd; simp [Go.isAgg, run_underlying hd, TD.agg]
  · simp [Go.isAgg, run_underlying hd, TD.agg]
  · simp [Go.isAgg, run_underlying hd, TD.agg]
  · obtain ⟨d, hd, hn⟩ := hd
    simp only [Go.isAgg, Sem.run_bind, run_underlying hd, Result.andThen_ok, TD.agg]
    cases d <;> first | rfl | exact hn.elim

theorem TOk.sizeOf {t : TypeId} {i : TI} (h : TOk P t i) : (sizeOf t).run P w = .ok i.size w := by
  obtain ⟨f, z, h1, h2, _⟩ := h.info
  simp [Go.sizeOf, typeInfo, h1, h2]

theorem run_loadAt {t : TypeId} {i : TI} (h : TOk P t i) (ha : i.desc.agg = true ∨ i.size = 1) (vs : List Value) (hl : vs.length = i.size) (b off : Nat)
    (hc : ∀ (j : Nat) v, vs[j]? = some v → w.cell? ⟨b, off + j, none⟩ = some v) :
    ∃ v, (Instr.loadAt t (.pointer (some ⟨b, off, none⟩))).run P w = .ok v w ∧ ((i.desc.agg = true ∧ v = .agg vs.toArray) ∨ (i.desc.agg = false ∧ vs = [v])) := by
  cases hag : i.desc.agg with
  | true =>
    have hr := run_loadCells_list (P := P) w ⟨b, off, none⟩ vs (fun j v hv => by rw [Addr.add_lit]; exact hc j v hv)
    refine ⟨.agg vs.toArray, ?_, .inl ⟨rfl, rfl⟩⟩
    rw [hl] at hr
    simp [Instr.loadAt, Instr.sureAddr, loadVar, h.isAgg, hag, h.sizeOf, hr]
  | false =>
    have h1 : i.size = 1 := by rcases ha with ha | ha <;> simp_all
    match vs, hl with
    | [v], _ =>
      have hv := hc 0 v rfl
      refine ⟨v, ?_, .inr ⟨rfl, rfl⟩⟩
      simp [Instr.loadAt, Instr.sureAddr, loadVar, h.isAgg, hag]
      simp at hv
      simp [hv]
    | [], hl => simp [h1] at hl
    | _ :: _ :: _, hl => simp [h1] at hl

theorem oneOr_rep {agg : Bool} {v : Value} {vs : List Value} {cs : List Cell} (hl : vs.length = cs.length)
    (hd : ∀ (j : Nat) v x, vs[j]? = some v → cs[j]? = some x → CRep E w v x) (h : (agg = true ∧ v = .agg vs.toArray) ∨ (agg = false ∧ vs = [v])) : SRep E w v (oneOr agg cs) := by
  rcases h with ⟨rfl, rfl⟩ | ⟨rfl, rfl⟩
  · exact .agg cs vs hl hd
  · match cs, hl with
    | [x], _ => exact .c (hd 0 v x rfl rfl)

theorem cell_of_block {b j : Nat} {c : Array Value} {ety : TypeId} {fr : Nat × Nat} (h : w.heap[b]? = some (.cells c ety fr)) : w.cell? ⟨b, j, none⟩ = c[j]? := by
  simp [World.cell?, h]

theorem getElem?_window {α : Type} (l : List α) (o n j : Nat) : ((l.drop o).take n)[j]? = if j < n then l[o + j]? else none := by
  rw [List.getElem?_take]
  split
  · rw [List.getElem?_drop]
  · rfl

theorem length_window {α : Type} (l : List α) (o n : Nat) (h : o + n ≤ l.length) : ((l.drop o).take n).length = n := by
  simp; omega

theorem load_ok (hT : TypesOk P T) {σ : St} (h : WOk F0 w0 E w σ.mem σ.clock) {t : TypeId} {u : Value} {x : SVal} (hx : SRep E w u x) {V : SVal → Prop} (hl : aLoad T σ t x V) :
    ∃ v s, (Instr.loadAt t u).run P w = .ok v w ∧ SRep E w v s ∧ V s := by
  unfold aLoad at hl
  split at hl
  · exact hl.elim
  · rename_i i hi
    have ht := hT t i hi
    obtain ⟨ha, hl⟩ := hl
    split at hl
    · rename_i r k o
      split at hl
      · rename_i k' cs hm
        obtain ⟨rfl, hlen, hV⟩ := hl
        obtain ⟨h1, _, _, c, ety, h4, h5, h6⟩ := h.mem.ok r _ hm
        have hu : u = .pointer (some ⟨E.blk r, o, none⟩) := by cases hx with | c hx => cases hx with | bp _ _ _ _ _ _ hh => exact hh h1
        subst hu
        obtain ⟨v, hr, hv⟩ := run_loadAt ht ha ((c.toList.drop o).take i.size) (length_window _ _ _ (by simp; omega)) (E.blk r) o (fun j v hv => by
          rw [cell_of_block h4]
          rw [getElem?_window] at hv
          split at hv
          · simpa using hv
          · cases hv)
        refine ⟨v, _, hr, oneOr_rep ?_ (fun j v x hv hx => ?_) hv, hV⟩
        · rw [length_window _ _ _ (by simp; omega), length_window _ _ _ hlen]
        · rw [getElem?_window] at hv hx
          split at hv
          · rename_i hj
            rw [if_pos hj] at hx
            exact h6 (o + j) v x (by simpa using hv) hx
          · cases hv
      · exact hl.elim
    · rename_i e o
      obtain ⟨hlen, hV⟩ := hl
      cases hx with | c hx => cases hx with | fp _ _ b off us hF hc hd =>
      obtain ⟨v, hr, hv⟩ := run_loadAt ht ha ((List.range i.size).map fun j => us (o + j)) (by simp) b (off + o) (fun j v hv => by
        simp only [List.getElem?_map] at hv
        by_cases hj : j < i.size
        · simp [hj] at hv
          rw [Nat.add_assoc, hc (o + j) (by omega), hv]
        · simp [hj] at hv)
      refine ⟨v, _, hr, oneOr_rep ?_ (fun j v x hv hx => ?_) hv, hV⟩
      · simp; omega
      · simp only [List.getElem?_map] at hv
        by_cases hj : j < i.size
        · simp [hj] at hv
          rw [List.getElem?_map, getElem?_window, if_pos hj] at hx
          cases hee : e[o + j]? with
          | none => rw [hee] at hx; cases hx
          | some y =>
            rw [hee] at hx
            simp at hx
            subst hx; subst hv
            exact .d (hd (o + j) y hee)
        · simp [hj] at hv
    · rename_i r k esz n o
      split at hl
      · rename_i k' ety esz' es hm
        obtain ⟨rfl, rfl, hl⟩ := hl
        obtain ⟨e, he, hlen, hV⟩ := there_of hl
        obtain ⟨h1, hpos, hsz, hcap, _, h6⟩ := h.mem.ok r _ hm
        have hu : u = .pointer (some ⟨E.blk r, n * esz' + o, none⟩) := by cases hx with | c hx => cases hx with | ap _ _ _ _ _ _ _ _ hh => exact hh h1
        subst hu
        have hn := lt_of_getElem? he
        have hel : e.length = esz' := hsz e (List.mem_of_getElem? he)
        rcases h6 with h6 | ⟨_, _, c, h4, h5, _, h6⟩
        · omega
        have hfit : n * esz' + esz' ≤ c.size := by
          rw [h5]
          have : (n + 1) * esz' ≤ E.cap r * esz' := Nat.mul_le_mul_right _ (by omega)
          rw [Nat.add_mul, Nat.one_mul] at this
          exact this
        obtain ⟨v, hr, hv⟩ := run_loadAt ht ha ((c.toList.drop (n * esz' + o)).take i.size) (length_window _ _ _ (by simp; omega)) (E.blk r) (n * esz' + o) (fun j v hv => by
          rw [cell_of_block h4]
          rw [getElem?_window] at hv
          split at hv
          · simpa using hv
          · cases hv)
        refine ⟨v, _, hr, oneOr_rep ?_ (fun j v x hv hx => ?_) hv, hV⟩
        · rw [length_window _ _ _ (by simp; omega)]; simp; omega
        · rw [getElem?_window] at hv
          split at hv
          · rename_i hj
            rw [List.getElem?_map, getElem?_window, if_pos hj] at hx
            cases hee : e[o + j]? with
            | none => rw [hee] at hx; cases hx
            | some y =>
              rw [hee] at hx
              simp at hx
              subst hx
              exact .d (h6 n (o + j) e v y he hee (by rw [← Nat.add_assoc]; simpa using hv))
          · cases hv
      · exact hl.elim
    · exact hl.elim

theorem SRep.cellsOf {v : Value} {s : SVal} {cs : List Cell} (h : SRep E w v s) (hc : s.cells = some cs) :
    v.cells.size = cs.length ∧ (∀ u ∈ v.cells.toList, u.oneCell' = true) ∧ ∀ (j : Nat) u x, v.cells[j]? = some u → cs[j]? = some x → CRep E w u x := by
  cases h with
  | c h =>
    simp only [SVal.cells, Option.some.injEq] at hc
    subst hc
    have h1 := h.one
    have hv : v.cells = #[v] := by cases v <;> first | rfl | (simp [Value.oneCell'] at h1)
    rw [hv]
    refine ⟨rfl, fun u hu => by simp at hu; subst hu; exact h1, fun j u x hu hx => ?_⟩
    cases j with
    | zero => simp at hu hx; subst hu; subst hx; exact h
    | succ j => simp at hx
  | agg xs vs hl hd =>
    simp only [SVal.cells, Option.some.injEq] at hc
    subst hc
    refine ⟨by simpa [Value.cells] using hl, fun u hu => ?_, fun j u x hu hx => hd j u x (by simpa [Value.cells] using hu) hx⟩
    obtain ⟨j, hj⟩ := List.mem_iff_getElem?.1 (show u ∈ vs by simpa [Value.cells] using hu)
    have hlt := lt_of_getElem? hj
    exact (hd j u (xs[j]'(by omega)) hj (List.getElem?_eq_getElem _)).one
  | tup => simp [SVal.cells] at hc
  | und => simp [SVal.cells] at hc
  | junk => simp [SVal.cells] at hc

/-- One entry is written in place. -/
theorem WOk.poke {w' : World} (h : WOk F0 w0 E w mem clock) (r : Nat) (ob nb : Blk) (hr : mem[r]? = some ob) (hh : ob.has E r) (hhn : nb.has E r → ob.has E r)
    (hbel : Bel w0.heap.size w w') (hheap : ∀ i, i ≠ E.blk r → w'.heap[i]? = w.heap[i]?)
    (hnew : EnvLe E w E w' → BlkOk w0.heap.size E w' r nb) : WOk F0 w0 E w' (mem.set r nb) clock ∧ EnvLe E w E w' := by
  have ho := h.mem.ok r ob hr
  have hlt := ho.lt hh
  have hle : EnvLe E w E w' := ⟨fun _ hk => hk, fun k hk => hheap k (fun e => hlt.2.2 (.inl (e ▸ hk))), fun _ => Nat.le_refl _, fun _ _ => ⟨rfl, rfl⟩, fun k hk => ⟨hk, hheap k (fun e => hlt.2.2 (.inr (e ▸ hk)))⟩⟩
  refine ⟨⟨h.below.trans hbel, h.base, fun i hi => ⟨Nat.lt_of_lt_of_le (h.F i hi).1 hbel.size, (h.F i hi).2⟩, ⟨h.mem.clock, fun s x hx => ?_, fun s s' x x' hx hx' h1 h2 hne => ?_⟩, fun i hi => ⟨Nat.lt_of_lt_of_le (h.N i hi).1 hbel.size, (h.N i hi).2⟩⟩, hle⟩
  · rcases set_turn r _ s x hx with ⟨rfl, rfl⟩ | ⟨e, hx0⟩
    · exact hnew hle
    · have ho' := h.mem.ok s x hx0
      exact ho'.le hle (fun _ => rfl) (fun hs => hheap _ (fun q => h.mem.apart s r x ob hx0 hr hs hh e q)) (fun hs => (ho'.lt hs).2.2)
  · rcases set_turn r _ s x hx with ⟨rfl, rfl⟩ | ⟨e, hx0⟩
    · rcases set_turn s _ s' x' hx' with ⟨rfl, rfl⟩ | ⟨e', hx0'⟩
      · exact absurd rfl hne
      · exact h.mem.apart s s' ob x' hr hx0' (hhn h1) h2 hne
    · rcases set_turn r _ s' x' hx' with ⟨rfl, rfl⟩ | ⟨e', hx0'⟩
      · exact h.mem.apart s s' x ob hx0 hr h1 (hhn h2) hne
      · exact h.mem.apart s s' x x' hx0 hx0' h1 h2 hne

theorem below_setRow {n0 : Nat} (w : World) (g : Nat) (cs : Array Value) (h : n0 ≤ g) : Bel n0 w (w.setRow g cs) :=
  ⟨⟨rfl, rfl, rfl, by simp, fun k hk => setRow_other w g k cs (by omega)⟩, Nat.le_refl _⟩

theorem run_storeAt {t : TypeId} {i : TI} (h : TOk P t i) (v : Value) (hv : v.cells.size = i.size) (h1 : ∀ u ∈ v.cells.toList, u.oneCell' = true) (b off : Nat) (c : Array Value) (ety : TypeId)
    (hb : w.heap[b]? = some (.cells c ety (0, 0))) (hfit : off + i.size ≤ c.size) :
    (Instr.storeAt t (.pointer (some ⟨b, off, none⟩)) v).run P w = .ok () (w.setRow b (c.toList.take off ++ v.cells.toList ++ c.toList.drop (off + i.size)).toArray) := by
  have hst := run_storeCells_at P b off ety v.cells.toList 0 c w hb (by simp [hv]; omega) h1
  simp only [Nat.add_zero, Array.length_toList, hv] at hst
  simp [Instr.storeAt, Instr.sureAddr, storeVar, h.sizeOf, hv, hst]

theorem getElem?_splice {α : Type} {l m : List α} {o j : Nat} (ho : o + m.length ≤ l.length) :
    (l.take o ++ m ++ l.drop (o + m.length))[j]? = if j < o then l[j]? else if j < o + m.length then m[j - o]? else l[j]? := by
  have e1 : (List.take o l).length = o := by simp; omega
  have e2 : (List.take o l ++ m).length = o + m.length := by simp; omega
  rw [List.getElem?_append, e2]
  by_cases h2 : j < o + m.length
  · rw [if_pos h2, List.getElem?_append, e1]
    by_cases h1 : j < o
    · rw [if_pos h1, if_pos h1, List.getElem?_take, if_pos h1]
    · rw [if_neg h1, if_neg h1, if_pos h2]
  · rw [if_neg h2, if_neg (show ¬ j < o by omega), if_neg h2, List.getElem?_drop]
    congr 1
    omega

theorem length_splice {α : Type} {l m : List α} {o : Nat} (ho : o + m.length ≤ l.length) : (l.take o ++ m ++ l.drop (o + m.length)).length = l.length := by
  simp; omega

theorem ones_splice {c : Array Value} {m : List Value} {o o' : Nat} (h0 : ∀ v ∈ c, v.oneCell' = true) (hm : ∀ v ∈ m, v.oneCell' = true) {v : Value} (hv : v ∈ c.toList.take o ++ m ++ c.toList.drop o') : v.oneCell' = true := by
  rcases List.mem_append.1 hv with hv | hv
  · rcases List.mem_append.1 hv with hv | hv
    · exact h0 v (by simpa using List.mem_of_mem_take hv)
    · exact hm v hv
  · exact h0 v (by simpa using List.mem_of_mem_drop hv)

theorem dats_len : ∀ {cs : List Cell} {ds : List Dat}, dats cs = some ds → ds.length = cs.length
  | [], ds, h => by simp [dats] at h; subst h; rfl
  | c :: cs, ds, h => by
    simp only [dats] at h
    split at h
    · rename_i x xs hx hxs
      simp at h
      subst h
      simp [dats_len hxs]
    · cases h

theorem CRep.dat {v : Value} {c : Cell} {x : Dat} (h : CRep E w v c) (hx : c.dat = some x) : DRep E.F w v x := by
  cases h <;> simp [Cell.dat] at hx
  · subst hx; assumption
  · subst hx; exact .emp _ _

theorem dats_rep : ∀ {cs : List Cell} {ds : List Dat} {j : Nat} {v : Value} {x : Dat}, dats cs = some ds → (∀ y, cs[j]? = some y → CRep E w v y) → ds[j]? = some x → DRep E.F w v x
  | [], ds, j, v, x, h, _, hx => by simp [dats] at h; subst h; simp at hx
  | c :: cs, ds, j, v, x, h, hc, hx => by
    simp only [dats] at h
    split at h
    · rename_i y ys hy hys
      simp at h
      subst h
      cases j with
      | zero => simp at hx; subst hx; exact (hc c rfl).dat hy
      | succ j => exact dats_rep hys (fun y hy => hc y (by simpa using hy)) (by simpa using hx)
    · cases h

theorem store_ok (hT : TypesOk P T) {σ : St} (h : WOk F0 w0 E w σ.mem σ.clock) {t : TypeId} {u v : Value} {x y : SVal} (hx : SRep E w u x) (hy : SRep E w v y) {K : St → Prop} (hl : aStore T σ t x y K) :
    ∃ w' mem', (Instr.storeAt t u v).run P w = .ok () w' ∧ EnvLe E w E w' ∧ WOk F0 w0 E w' mem' σ.clock ∧ K { σ with mem := mem' } := by
  unfold aStore at hl
  split at hl
  · rename_i i cs hi hcs
    have ht := hT t i hi
    obtain ⟨hsize, hl⟩ := hl
    obtain ⟨hc1, hc2, hc3⟩ := hy.cellsOf hcs
    have hvl : v.cells.toList.length = i.size := by simp [hc1, hsize]
    split at hl
    · rename_i r k o
      split at hl
      · rename_i k' cs0 hm
        obtain ⟨rfl, hlen, hK⟩ := hl
        have ho := h.mem.ok r _ hm
        obtain ⟨h1, h2, h3, c, ety, h4, h5, h6⟩ := ho
        have hu : u = .pointer (some ⟨E.blk r, o, none⟩) := by cases hx with | c hx => cases hx with | bp _ _ _ _ _ _ hh => exact hh h1
        subst hu
        have hr := run_storeAt (P := P) (w := w) ht v (by omega) hc2 (E.blk r) o c ety h4 (by omega)
        have hp := h.poke (w' := w.setRow (E.blk r) (c.toList.take o ++ v.cells.toList ++ c.toList.drop (o + i.size)).toArray) r _ (.box k' (cs0.take o ++ cs ++ cs0.drop (o + i.size))) hm trivial (fun _ => trivial) (below_setRow w _ _ h2) (fun i hi => setRow_other w _ i _ hi) (fun hle => by
          refine ⟨h1, h2, h3, _, ety, setRow_heap w _ c _ ety _ h4, ?_, fun j v' x' hv' hx' => ?_⟩
          · have e1 := length_splice (l := c.toList) (m := v.cells.toList) (o := o) (by simp; omega)
            have e2 := length_splice (l := cs0) (m := cs) (o := o) (by omega)
            rw [hvl] at e1
            rw [hsize] at e2
            simp only [List.size_toArray, e1, e2, Array.length_toList, h5]
          · have e1 := getElem?_splice (l := c.toList) (m := v.cells.toList) (o := o) (j := j) (by simp; omega)
            have e2 := getElem?_splice (l := cs0) (m := cs) (o := o) (j := j) (by omega)
            rw [hvl] at e1
            rw [hsize] at e2
            simp only [List.getElem?_toArray] at hv'
            rw [e1] at hv'
            rw [e2] at hx'
            by_cases a1 : j < o
            · rw [if_pos a1] at hv' hx'
              exact (h6 j v' x' (by simpa using hv') hx').le hle
            · rw [if_neg a1] at hv' hx'
              by_cases a2 : j < o + i.size
              · rw [if_pos a2] at hv' hx'
                exact (hc3 (j - o) v' x' (by simpa using hv') hx').le hle
              · rw [if_neg a2] at hv' hx'
                exact (h6 j v' x' (by simpa using hv') hx').le hle)
        exact ⟨_, _, hr, hp.2, hp.1, hK⟩
      · exact hl.elim
    · rename_i r k esz n o
      split at hl
      · rename_i k' ety esz' es ds hm hds
        obtain ⟨rfl, rfl, hlen, hl⟩ := hl
        obtain ⟨e, he, hK⟩ := there_of hl
        have ho := h.mem.ok r _ hm
        obtain ⟨h1, hpos, hsz, hcap, hmax, h6⟩ := ho
        have hu : u = .pointer (some ⟨E.blk r, n * esz' + o, none⟩) := by cases hx with | c hx => cases hx with | ap _ _ _ _ _ _ _ _ hh => exact hh h1
        subst hu
        have hn := lt_of_getElem? he
        have hel : e.length = esz' := hsz e (List.mem_of_getElem? he)
        have hdl := dats_len hds
        rcases h6 with h6 | ⟨h2, h3, c, h4, h5, h0, h6⟩
        · omega
        have hfit : n * esz' + esz' ≤ c.size := by
          rw [h5]
          have : (n + 1) * esz' ≤ E.cap r * esz' := Nat.mul_le_mul_right _ (by omega)
          rw [Nat.add_mul, Nat.one_mul] at this
          exact this
        have hcapr : E.cap r ≠ 0 := by omega
        have hr := run_storeAt (P := P) (w := w) ht v (by omega) hc2 (E.blk r) (n * esz' + o) c ety h4 (by omega)
        have hp := h.poke (w' := w.setRow (E.blk r) (c.toList.take (n * esz' + o) ++ v.cells.toList ++ c.toList.drop (n * esz' + o + i.size)).toArray) r _ (.arr k' ety esz' (es.set n (e.take o ++ ds ++ e.drop (o + i.size)))) hm hcapr (fun q => q) (below_setRow w _ _ h2) (fun i hi => setRow_other w _ i _ hi) (fun hle => by
          have e2 := length_splice (l := e) (m := ds) (o := o) (by omega)
          refine ⟨h1, hpos, fun e' he' => ?_, by simpa using hcap, hmax, .inr ⟨h2, h3, _, setRow_heap w _ c _ ety _ h4, ?_, fun v' hv' => ?_, fun i' j' e' v' x' q1 q2 q3 => ?_⟩⟩
          · rcases List.mem_or_eq_of_mem_set he' with q | q
            · exact hsz e' q
            · subst q; rw [show i.size = ds.length by omega, e2, hel]
          · have e1 := length_splice (l := c.toList) (m := v.cells.toList) (o := n * esz' + o) (by simp; omega)
            rw [hvl] at e1
            simp only [List.size_toArray, e1, Array.length_toList, h5]
          · exact ones_splice h0 hc2 (by simpa using hv')
          · have e1 := getElem?_splice (l := c.toList) (m := v.cells.toList) (o := n * esz' + o) (j := i' * esz' + j') (by simp; omega)
            rw [hvl] at e1
            simp only [List.getElem?_toArray] at q3
            rw [e1] at q3
            by_cases hin : i' = n
            · subst hin
              rw [List.getElem?_set_self (by omega)] at q1
              simp only [Option.some.injEq] at q1
              subst q1
              have e3 := getElem?_splice (l := e) (m := ds) (o := o) (j := j') (by omega)
              rw [show ds.length = i.size by omega] at e3
              rw [e3] at q2
              by_cases a1 : j' < o
              · rw [if_pos a1] at q2
                rw [if_pos (by omega)] at q3
                exact (h6 i' j' e v' x' he q2 (by simpa using q3)).le hle
              · rw [if_neg a1] at q2
                rw [if_neg (by omega)] at q3
                by_cases a2 : j' < o + i.size
                · rw [if_pos a2] at q2
                  rw [if_pos (by omega)] at q3
                  have q3' : v.cells[j' - o]? = some v' := by
                    rw [show i' * esz' + j' - (i' * esz' + o) = j' - o by omega] at q3
                    simpa using q3
                  exact (dats_rep (v := v') hds (fun y hy => hc3 (j' - o) v' y q3' hy) q2).le hle
                · rw [if_neg a2] at q2
                  rw [if_neg (by omega)] at q3
                  exact (h6 i' j' e v' x' he q2 (by simpa using q3)).le hle
            · rw [List.getElem?_set_ne (fun q => hin q.symm)] at q1
              have hj : j' < esz' := by have := lt_of_getElem? q2; rw [hsz e' (List.mem_of_getElem? q1)] at this; exact this
              have hneq : ¬ (n * esz' + o ≤ i' * esz' + j' ∧ i' * esz' + j' < n * esz' + o + i.size) := by
                rintro ⟨a1, a2⟩
                rcases Nat.lt_or_gt_of_ne hin with hlt | hgt
                · have : (i' + 1) * esz' ≤ n * esz' := Nat.mul_le_mul_right _ hlt
                  rw [Nat.add_mul, Nat.one_mul] at this
                  omega
                · have : (n + 1) * esz' ≤ i' * esz' := Nat.mul_le_mul_right _ hgt
                  rw [Nat.add_mul, Nat.one_mul] at this
                  omega
              have q3' : c.toList[i' * esz' + j']? = some v' := by
                by_cases a1 : i' * esz' + j' < n * esz' + o
                · rw [if_pos a1] at q3; exact q3
                · rw [if_neg a1, if_neg (by omega)] at q3; exact q3
              exact (h6 i' j' e' v' x' q1 q2 (by simpa using q3')).le hle)
        exact ⟨_, _, hr, hp.2, hp.1, hK⟩
      · exact hl.elim
    · exact hl.elim
  · exact hl.elim
end
end Go.Abs
end
end
section
section
namespace Go.Abs
open Go.RowKit

section
variable {P : Program} {T : TypeId → Option TI} {F0 : Nat → Prop} {w0 w : World} {E : Env} {mem : List Blk} {clock : Nat}

theorem liveAt_ver (h : WOk F0 w0 E w mem clock) {r k : Nat} (hl : liveAt mem r k) : E.ver r = k := by
  unfold liveAt at hl
  split at hl
  · rename_i k' cs hm; subst hl; exact (h.mem.ok r _ hm).1
  · rename_i k' a b c hm; subst hl; exact (h.mem.ok r _ hm).1
  · exact hl.elim

theorem field_ok (hT : TypesOk P T) {σ : St} (h : WOk F0 w0 E w σ.mem σ.clock) {s : TypeId} {f : Nat} {u : Value} {x : SVal} (hx : SRep E w u x) {V : SVal → Prop} (hl : aField T σ s f x V) :
    ∃ v y, (Instr.fieldAt s u f).run P w = .ok v w ∧ SRep E w v y ∧ V y := by
  unfold aField at hl
  split at hl
  · rename_i _ _ _ fs _ hs
    obtain ⟨fields, hu, hfs⟩ := (hT s _ hs).desc
    split at hl
    · rename_i off ft hf
      split at hl
      · rename_i j hj
        obtain ⟨hz, hl⟩ := hl
        have hsz := (hT ft j hj).sizeOf (w := w)
        have hfl : ∃ fl, fields[f]? = some fl ∧ fl.offset = off ∧ fl.type = ft := by
          rw [← hfs, List.getElem?_map] at hf
          cases hq : fields.toList[f]? with
          | none => rw [hq] at hf; cases hf
          | some fl =>
            rw [hq] at hf
            simp at hf
            exact ⟨fl, by simpa using hq, hf.1, hf.2⟩
        obtain ⟨fl, hfl, rfl, rfl⟩ := hfl
        have hrun : ∀ b o, (Instr.fieldAt s (.pointer (some ⟨b, o, none⟩)) f).run P w = .ok (.pointer (some ⟨b, o + fl.offset, none⟩)) w := by
          intro b o
          simp [Instr.fieldAt, run_underlying hu, hfl, Instr.sureAddr, fieldPlace, hsz, hz, Addr.add_lit]
        split at hl
        · rename_i r k o
          have hv := liveAt_ver h hl.1
          have hu' : u = .pointer (some ⟨E.blk r, o, none⟩) := by cases hx with | c hx => cases hx with | bp _ _ _ _ _ _ hh => exact hh hv
          subst hu'
          exact ⟨_, _, hrun _ _, .c (.bp r k _ _ rfl (by omega) (fun _ => rfl)), hl.2⟩
        · rename_i e o
          cases hx with | c hx => cases hx with | fp _ _ b off us hF hc hd =>
          refine ⟨_, _, hrun _ _, .c ?_, hl⟩
          rw [Nat.add_assoc]
          exact .fp e (o + fl.offset) b off us hF hc hd
        · rename_i r k esz n o
          have hv := liveAt_ver h hl.1
          have hu' : u = .pointer (some ⟨E.blk r, n * esz + o, none⟩) := by cases hx with | c hx => cases hx with | ap _ _ _ _ _ _ _ _ hh => exact hh hv
          subst hu'
          exact ⟨_, _, hrun _ _, .c (.ap r k esz n _ _ rfl (by omega) (fun _ => by rw [Nat.add_assoc])), hl.2⟩
        · exact hl.elim
      · exact hl.elim
    · exact hl.elim
  · exact hl.elim

theorem DRep.sl_inv {F : Nat → Prop} {v : Value} {es : List (List Dat)} (h : DRep F w v (.sl es)) :
    (es = [] ∧ ∃ a cap, v = .slice a 0 cap) ∨ ∃ (b off cap size : Nat) (u : Nat → Nat → Value), v = .slice (some ⟨b, off, none⟩) es.length cap ∧ F b ∧ es.length ≤ cap ∧ cap ≤ maxLen ∧ (∀ e, e ∈ es → e.length = size) ∧
      (∀ (i j : Nat), i < es.length → j < size → w.cell? ⟨b, off + i * size + j, none⟩ = some (u i j)) ∧ (∀ (i j : Nat) e x, es[i]? = some e → e[j]? = some x → DRep F w (u i j) x) := by
  cases h with
  | emp a cap => exact .inl ⟨rfl, a, cap, rfl⟩
  | sl _ b off cap size u hF hcap hmax hsz hc hd => exact .inr ⟨b, off, cap, size, u, rfl, hF, hcap, hmax, hsz, hc, hd⟩

theorem index_ok (hT : TypesOk P T) {σ : St} (h : WOk F0 w0 E w σ.mem σ.clock) {t : TypeId} {u q : Value} {x i : SVal} (hx : SRep E w u x) (hi : SRep E w q i) {V : SVal → Prop} (hl : aIndex T σ t x i V) :
    ∃ v y, (Instr.indexAt t u q).run P w = .ok v w ∧ SRep E w v y ∧ V y := by
  unfold aIndex at hl
  split at hl
  · rename_i ki n
    have hq := hi.lit_inv
    subst hq
    obtain ⟨h0, hl⟩ := hl
    split at hl
    · rename_i _ _ _ e _ ht
      have hu : P.underlying t = some (.slice e) := (hT t _ ht).desc
      split at hl
      · rename_i ei hei
        have hsz := (hT e ei hei).sizeOf (w := w)
        split at hl
        · rename_i es
          obtain ⟨el, he, hel, hV⟩ := there_of hl
          have hn := lt_of_getElem? he
          cases hx with | c hx => cases hx with | d hx =>
          rcases hx.sl_inv with ⟨rfl, _⟩ | ⟨b, off, cap, size, us, rfl, hF, hcap, hmax, hsz', hc, hd⟩
          · simp at hn
          have hse : size = ei.size := by rw [← hel]; exact (hsz' el (List.mem_of_getElem? he)).symm
          subst hse
          have hlt : n < (es.length : Int) := by omega
          refine ⟨.pointer (some ⟨b, off + n.toNat * ei.size, none⟩), _, ?_, .c ?_, hV⟩
          · simp [Instr.indexAt, asIntOf, run_underlying hu, h0, hlt, hsz, Addr.add_lit]
          · exact .fp el 0 b (off + n.toNat * ei.size) (fun j => us n.toNat j) hF (fun j hj => hc n.toNat j hn (by omega)) (fun j x hx => hd n.toNat j el x he hx)
        · rename_i r k m
          obtain ⟨hlt, hl⟩ := hl
          split at hl
          · rename_i k' ety esz es hm
            obtain ⟨rfl, rfl, hme, hV⟩ := hl
            obtain ⟨h1, hpos, hsz', hcap, hmax, h6⟩ := h.mem.ok r _ hm
            have hcz : E.cap r ≠ 0 := by omega
            have hu' : u = .slice (some ⟨E.blk r, 0, none⟩) m (E.cap r) := by
              cases hx with | c hx => cases hx with | arr _ _ _ _ _ _ hh =>
              rcases hh h1 with hh | hh
              · exact absurd hh.1 hcz
              · exact hh.2
            subst hu'
            refine ⟨.pointer (some ⟨E.blk r, n.toNat * ei.size, none⟩), _, ?_, .c (.ap r k' ei.size n.toNat 0 _ rfl (by omega) (fun _ => rfl)), hV⟩
            simp [Instr.indexAt, asIntOf, run_underlying hu, h0, hlt, hsz, Addr.add_lit]
          · exact hl.elim
        · exact hl.elim
      · exact hl.elim
    · rename_i _ _ _ m e _ ht
      have hu : P.underlying t = some (.array m e) := (hT t _ ht).desc
      obtain ⟨hlt, hl⟩ := hl
      split at hl
      · rename_i ei hei
        have hsz := (hT e ei hei).sizeOf (w := w)
        have hrun : ∀ b o, (Instr.indexAt t (.pointer (some ⟨b, o, none⟩)) (.int ki n)).run P w = .ok (.pointer (some ⟨b, o + n.toNat * ei.size, none⟩)) w := by
          intro b o
          simp [Instr.indexAt, asIntOf, run_underlying hu, Instr.sureAddr, h0, hlt, hsz, Addr.add_lit]
        split at hl
        · rename_i r k o
          have hv := liveAt_ver h hl.1
          have hu' : u = .pointer (some ⟨E.blk r, o, none⟩) := by cases hx with | c hx => cases hx with | bp _ _ _ _ _ _ hh => exact hh hv
          subst hu'
          exact ⟨_, _, hrun _ _, .c (.bp r k _ _ rfl (by omega) (fun _ => rfl)), hl.2⟩
        · rename_i el o
          cases hx with | c hx => cases hx with | fp _ _ b off us hF hc hd =>
          refine ⟨_, _, hrun _ _, .c ?_, hl⟩
          rw [Nat.add_assoc]
          exact .fp el (o + n.toNat * ei.size) b off us hF hc hd
        · exact hl.elim
      · exact hl.elim
    · exact hl.elim
  · exact hl.elim

theorem len_ok (hT : TypesOk P T) {σ : St} (h : WOk F0 w0 E w σ.mem σ.clock) {t ty : TypeId} {u : Value} {x : SVal} (hx : SRep E w u x) {V : SVal → Prop} (hl : aLen T σ t x V) :
    ∃ v y, (Builtin.len_ #[t] ty #[u]).run P w = .ok v w ∧ SRep E w v y ∧ V y := by
  unfold aLen at hl
  split at hl
  · rename_i e _ es ht
    have hu : P.underlying t = some (.slice e) := (hT t _ ht).desc
    cases hx with | c hx => cases hx with | d hx =>
    rcases hx.sl_inv with ⟨rfl, a, cap, rfl⟩ | ⟨b, off, cap, size, us, rfl, _⟩
    · exact ⟨_, _, by simp [Builtin.len_, run_underlying hu]; rfl, .c (.d (.lit _ rfl)), hl⟩
    · exact ⟨_, _, by simp [Builtin.len_, run_underlying hu]; rfl, .c (.d (.lit _ rfl)), hl⟩
  · rename_i e _ ht
    have hu : P.underlying t = some (.slice e) := (hT t _ ht).desc
    cases hx with | c hx => cases hx with | emp a =>
    exact ⟨_, _, by simp [Builtin.len_, run_underlying hu]; rfl, .c (.d (.lit _ rfl)), hl⟩
  · rename_i e _ r k n ht
    have hu : P.underlying t = some (.slice e) := (hT t _ ht).desc
    have hv := liveAt_ver h hl.1
    cases hx with | c hx => cases hx with | arr _ _ _ _ _ _ hh =>
    rcases hh hv with ⟨_, rfl, a, rfl⟩ | ⟨_, rfl⟩
    · exact ⟨_, _, by simp [Builtin.len_, run_underlying hu]; rfl, .c (.d (.lit _ rfl)), hl.2⟩
    · exact ⟨_, _, by simp [Builtin.len_, run_underlying hu]; rfl, .c (.d (.lit _ rfl)), hl.2⟩
  · rename_i s ht
    have hu : P.underlying t = some .string := (hT t _ ht).desc
    have := hx.lit_inv
    subst this
    exact ⟨_, _, by simp [Builtin.len_, run_underlying hu]; rfl, .c (.d (.lit _ rfl)), hl⟩
  · rename_i n e _ ht
    have hu : P.underlying t = some (.array n e) := (hT t _ ht).desc
    exact ⟨_, _, by simp [Builtin.len_, run_underlying hu]; rfl, .c (.d (.lit _ rfl)), hl⟩
  · exact hl.elim
end
end Go.Abs
end

/-
  Slice expressions, appends, makes and literals over the abstract view.
-/
section
namespace Go.Abs
open Go.RowKit

section
variable {P : Program} {T : TypeId → Option TI} {F0 : Nat → Prop} {w0 w : World} {E : Env} {mem : List Blk} {clock : Nat}

theorem bnd_inv {d : Nat} {σ : St} {ρ : Operand → Value} (hρ : ∀ x, SRep E w (ρ x) (σ.ev x)) {lo : Option Operand} {l : Int} (h : bnd d (lo.map σ.ev) = some l) :
    (lo = none ∧ l = d) ∨ ∃ x k, lo = some x ∧ ρ x = .int k l := by
  cases lo with
  | none => simp [bnd] at h; exact .inl ⟨rfl, h.symm⟩
  | some x =>
    simp only [Option.map_some] at h
    unfold bnd at h
    split at h
    · rename_i q; cases q
    · rename_i n he
      simp only [Option.some.injEq] at h he
      subst h
      have := hρ x
      rw [he] at this
      exact .inr ⟨x, _, rfl, this.lit_inv⟩
    · cases h

theorem run_bounds {isSlice : Bool} {len cap : Nat} {σ : St} {ρ : Operand → Value} (hρ : ∀ x, SRep E w (ρ x) (σ.ev x)) {lo hi : Option Operand} {l h : Int}
    (hl : bnd 0 (lo.map σ.ev) = some l) (hh : bnd len (hi.map σ.ev) = some h) (h0 : 0 ≤ l) (h1 : l ≤ h) (h2 : h ≤ (cap : Int)) :
    (Instr.sliceBounds isSlice len cap (lo.map ρ) (hi.map ρ) none).run P w = .ok (l.toNat, h.toNat, cap) w := by
  rcases bnd_inv hρ hh with ⟨rfl, rfl⟩ | ⟨x, k, rfl, hx⟩
  · rcases bnd_inv hρ hl with ⟨rfl, rfl⟩ | ⟨y, k', rfl, hy⟩
    · simp [Instr.sliceBounds]
    · have : (0 : Int) ≤ l ∧ l ≤ (len : Int) := ⟨h0, h1⟩
      simp [Instr.sliceBounds, Instr.sliceBound, hy, asIntOf, this]
  · have hc : (0 : Int) ≤ h ∧ h ≤ (cap : Int) := ⟨by omega, h2⟩
    rcases bnd_inv hρ hl with ⟨rfl, rfl⟩ | ⟨y, k', rfl, hy⟩
    · simp [Instr.sliceBounds, Instr.sliceBound, hx, asIntOf, hc]
    · have : (0 : Int) ≤ l ∧ l ≤ (h.toNat : Int) := ⟨h0, by omega⟩
      simp only [Int.ofNat_toNat] at this
      have hm : max h 0 = h := by omega
      rw [hm] at this
      simp [Instr.sliceBounds, Instr.sliceBound, hx, hy, asIntOf, hc, this, hm]

theorem run_slice_val (hT : TypesOk P T) {t e : TypeId} {ei : TI} (hu : P.underlying t = some (.slice e)) (he : T e = some ei) {σ : St} {ρ : Operand → Value} (hρ : ∀ x, SRep E w (ρ x) (σ.ev x))
    {lo hi : Option Operand} {l h : Int} {len cap : Nat} (a : Option Addr) (hl : bnd 0 (lo.map σ.ev) = some l) (hh : bnd len (hi.map σ.ev) = some h) (h0 : 0 ≤ l) (h1 : l ≤ h) (h2 : h ≤ (cap : Int)) :
    (Instr.sliceAt t (.slice a len cap) (lo.map ρ) (hi.map ρ) none).run P w =
      .ok (.slice (if cap = l.toNat then a else a.map (·.add (l.toNat * ei.size))) (h.toNat - l.toNat) (cap - l.toNat)) w := by
  have hr := run_bounds (P := P) (isSlice := true) (cap := cap) hρ hl hh h0 h1 h2
  have hsz := (hT e ei he).sizeOf (w := w)
  simp [Instr.sliceAt, Instr.slice, run_underlying hu, hr, hsz]

theorem slice_ok (hT : TypesOk P T) {σ : St} (h : WOk F0 w0 E w σ.mem σ.clock) {t : TypeId} {u : Value} {x : SVal} (hx : SRep E w u x) {ρ : Operand → Value} (hρ : ∀ x, SRep E w (ρ x) (σ.ev x))
    {lo hi : Option Operand} {V : SVal → Prop} (hl : aSlice T σ t x (lo.map σ.ev) (hi.map σ.ev) V) :
    ∃ v y, (Instr.sliceAt t u (lo.map ρ) (hi.map ρ) none).run P w = .ok v w ∧ SRep E w v y ∧ V y := by
  unfold aSlice at hl
  split at hl
  · rename_i s ht
    have hu : P.underlying t = some .string := (hT t _ ht).desc
    have := hx.lit_inv
    subst this
    split at hl
    · rename_i l h' hb1 hb2
      obtain ⟨h0, h1, h2, hV⟩ := hl
      have hr := run_bounds (P := P) (isSlice := false) (cap := s.size) hρ hb1 hb2 h0 h1 h2
      exact ⟨_, _, by simp [Instr.sliceAt, Instr.slice, run_underlying hu, hr], .c (.d (.lit _ rfl)), hV⟩
    · exact hl.elim
  · rename_i e _ es ht
    have hu : P.underlying t = some (.slice e) := (hT t _ ht).desc
    split at hl
    · rename_i ei l h' he hb1 hb2
      obtain ⟨hsz0, h0, h1, h2, hV⟩ := hl
      cases hx with | c hx => cases hx with | d hx =>
      rcases hx.sl_inv with ⟨rfl, a, cap, rfl⟩ | ⟨b, off, cap, size, us, rfl, hF, hcap, hmax, hsz', hc, hd⟩
      · have e1 : h' = 0 := by simp at h2; omega
        subst e1
        have e2 : l = 0 := by omega
        subst e2
        have hr := run_slice_val (cap := cap) hT hu he hρ a hb1 hb2 h0 h1 (by omega)
        exact ⟨_, _, hr, .c (.d (by simpa using .emp _ _)), hV⟩
      · have hr := run_slice_val hT hu he hρ (some ⟨b, off, none⟩) hb1 hb2 h0 h1 (cap := cap) (by omega)
        by_cases hlh : l = h'
        · subst hlh
          have hnil : (es.take l.toNat).drop l.toNat = [] := List.drop_eq_nil_of_le (by simp; omega)
          rw [hnil] at hV
          refine ⟨_, _, hr, .c (.d ?_), hV⟩
          rw [Nat.sub_self]
          exact .emp _ _
        · have hes : es ≠ [] := fun q => by subst q; simp at h2; omega
          obtain ⟨e0, hmem⟩ := List.exists_mem_of_ne_nil es hes
          have hss : size = ei.size := by rw [← hsz' e0 hmem]; exact hsz0 e0 hmem
          subst hss
          have hne : ¬ cap = l.toNat := by omega
          have hlen : ((es.take h'.toNat).drop l.toNat).length = h'.toNat - l.toNat := by simp; omega
          rw [if_neg hne, Option.map_some, Addr.add_lit, ← hlen] at hr
          refine ⟨_, _, hr, .c (.d (.sl _ b (off + l.toNat * ei.size) _ ei.size (fun i j => us (l.toNat + i) j) hF ?_ (by omega) ?_ ?_ ?_)), hV⟩
          · omega
          · intro e he
            exact hsz' e (List.mem_of_mem_take (List.mem_of_mem_drop he))
          · intro i j hi hj
            rw [hlen] at hi
            have := hc (l.toNat + i) j (by omega) hj
            rw [Nat.add_mul] at this
            rw [← this]
            congr 2
            omega
          · intro i j e x q1 q2
            rw [List.getElem?_drop, List.getElem?_take] at q1
            split at q1
            · exact hd (l.toNat + i) j e x q1 q2
            · cases q1
    · exact hl.elim
  · rename_i e _ ht
    have hu : P.underlying t = some (.slice e) := (hT t _ ht).desc
    split at hl
    · rename_i ei l h' he hb1 hb2
      obtain ⟨rfl, rfl, hV⟩ := hl
      cases hx with | c hx => cases hx with | emp a =>
      have hr := run_slice_val hT hu he hρ a hb1 hb2 (by omega) (by omega) (cap := 0) (by omega)
      exact ⟨_, _, hr, .c (.emp _), hV⟩
    · exact hl.elim
  · rename_i e _ r k m ht
    have hu : P.underlying t = some (.slice e) := (hT t _ ht).desc
    split at hl
    · rename_i ei l h' k' ety esz es he hb1 hb2 hm
      obtain ⟨rfl, hme, rfl, h0, h1, hV⟩ := hl
      obtain ⟨hv, _, _, hcap, _⟩ := h.mem.ok r _ hm
      cases hx with | c hx => cases hx with | arr _ _ _ _ _ _ hh =>
      rcases hh hv with ⟨hcz, rfl, a, rfl⟩ | ⟨hcp, rfl⟩
      · have e1 : h' = 0 := by simp at h1; omega
        subst e1
        have hr := run_slice_val hT hu he hρ a hb1 hb2 (by omega) (by omega) (cap := 0) (by omega)
        exact ⟨_, _, hr, .c (.arr r k' 0 _ rfl (by omega) (fun _ => .inl ⟨hcz, rfl, _, rfl⟩)), hV⟩
      · have hr := run_slice_val hT hu he hρ (some ⟨E.blk r, 0, none⟩) hb1 hb2 (by omega) h0 (cap := E.cap r) (by omega)
        have hne : ¬ E.cap r = Int.toNat 0 := by simp; omega
        rw [if_neg hne, Option.map_some, Addr.add_lit] at hr
        simp only [Int.toNat_zero, Nat.zero_mul, Nat.add_zero, Nat.sub_zero] at hr
        exact ⟨_, _, hr, .c (.arr r k' h'.toNat _ rfl (by omega) (fun _ => .inr ⟨hcp, rfl⟩)), hV⟩
    · exact hl.elim
  · exact hl.elim
end
end Go.Abs
end

/-
  Appends, makes and literals over the abstract view.
-/
section
namespace Go.Abs
open Go.RowKit

section
variable {P : Program} {T : TypeId → Option TI} {F0 : Nat → Prop} {w0 w : World} {E : Env} {mem : List Blk} {clock : Nat}

/-- The flat cells of a list of elements. -/
def Flat (D : Value → Dat → Prop) (esz : Nat) (es : List (List Dat)) (c : List Value) : Prop :=
  ∀ (i j : Nat) e v x, es[i]? = some e → e[j]? = some x → c[i * esz + j]? = some v → D v x

theorem Flat.join {D : Value → Dat → Prop} {esz : Nat} {A B : List (List Dat)} {olds news rest : List Value} (hlo : olds.length = A.length * esz) (hA : ∀ e, e ∈ A → e.length = esz) (hB : ∀ e, e ∈ B → e.length = esz)
    (hln : news.length = B.length * esz) (h1 : Flat D esz A olds) (h2 : Flat D esz B news) : Flat D esz (A ++ B) (olds ++ news ++ rest) := by
  intro i j e v x q1 q2 q3
  rw [List.getElem?_append] at q1
  split at q1
  · rename_i hi
    have hj : j < esz := by have := lt_of_getElem? q2; rw [hA e (List.mem_of_getElem? q1)] at this; exact this
    have hlt : i * esz + j < olds.length := by
      rw [hlo]
      have : (i + 1) * esz ≤ A.length * esz := Nat.mul_le_mul_right _ hi
      rw [Nat.add_mul, Nat.one_mul] at this
      omega
    rw [List.append_assoc, List.getElem?_append_left hlt] at q3
    exact h1 i j e v x q1 q2 q3
  · rename_i hi
    have hi' := lt_of_getElem? q1
    have hj : j < esz := by have := lt_of_getElem? q2; rw [hB e (List.mem_of_getElem? q1)] at this; exact this
    have hge : i * esz = A.length * esz + (i - A.length) * esz := by rw [← Nat.add_mul]; congr 1; omega
    have hlt : (i - A.length) * esz + j < news.length := by
      rw [hln]
      have : (i - A.length + 1) * esz ≤ B.length * esz := Nat.mul_le_mul_right _ hi'
      rw [Nat.add_mul, Nat.one_mul] at this
      omega
    rw [List.append_assoc, List.getElem?_append_right (by omega), List.getElem?_append_left (by omega)] at q3
    rw [show i * esz + j - olds.length = (i - A.length) * esz + j by omega] at q3
    exact h2 (i - A.length) j e v x q1 q2 q3

/-- The cells of a slice that is data, one after the other. -/
theorem DRep.flat {F : Nat → Prop} {v : Value} {ys : List (List Dat)} (h : DRep F w v (.sl ys)) {esz : Nat} (hy : ∀ e, e ∈ ys → e.length = esz) (hne : ys ≠ []) :
    ∃ b off cap news, v = .slice (some ⟨b, off, none⟩) ys.length cap ∧ news.length = ys.length * esz ∧ (∀ (q : Nat) u, news[q]? = some u → w.cell? ((⟨b, off, none⟩ : Addr).add q) = some u) ∧
      (∀ u ∈ news, u.oneCell' = true) ∧ Flat (DRep F w) esz ys news := by
  rcases h.sl_inv with ⟨rfl, _⟩ | ⟨b, off, cap, size, us, rfl, hF, hcap, hmax, hsz, hc, hd⟩
  · exact absurd rfl hne
  obtain ⟨e0, hmem⟩ := List.exists_mem_of_ne_nil ys hne
  have hss : size = esz := by rw [← hsz e0 hmem]; exact hy e0 hmem
  subst hss
  have key : ∀ q, q < ys.length * size → w.cell? ⟨b, off + q, none⟩ = some (us (q / size) (q % size)) := by
    intro q hq
    have hs : 0 < size := by
      rcases Nat.eq_zero_or_pos size with h0 | h0
      · subst h0; simp at hq
      · exact h0
    have h1 : q / size < ys.length := Nat.div_lt_of_lt_mul (by rw [Nat.mul_comm]; exact hq)
    have h2 := hc (q / size) (q % size) h1 (Nat.mod_lt _ hs)
    rw [Nat.add_assoc, Nat.mul_comm, Nat.div_add_mod] at h2
    exact h2
  have hdd : ∀ (i j : Nat) e x, ys[i]? = some e → e[j]? = some x → DRep F w (us i j) x := hd
  refine ⟨b, off, cap, (List.range (ys.length * size)).map (fun q => us (q / size) (q % size)), rfl, by simp, fun q u hu => ?_, fun u hu => ?_, fun i j e v x q1 q2 q3 => ?_⟩
  · rw [Addr.add_lit]
    rw [List.getElem?_map] at hu
    by_cases hq : q < ys.length * size
    · simp [hq] at hu
      rw [key q hq, hu]
    · simp [hq] at hu
  · obtain ⟨q, hq⟩ := List.mem_iff_getElem?.1 hu
    have hlt := lt_of_getElem? hq
    simp only [List.length_map, List.length_range] at hlt
    rw [List.getElem?_map] at hq
    simp [hlt] at hq
    subst hq
    have hs : 0 < size := by
      rcases Nat.eq_zero_or_pos size with h0 | h0
      · subst h0; simp at hlt
      · exact h0
    have h1 : q / size < ys.length := Nat.div_lt_of_lt_mul (by rw [Nat.mul_comm]; exact hlt)
    have h2 : q % size < ys[q / size].length := by rw [hsz _ (List.getElem_mem h1)]; exact Nat.mod_lt _ hs
    exact (hdd (q / size) (q % size) _ _ (List.getElem?_eq_getElem h1) (List.getElem?_eq_getElem h2)).one
  · have hj : j < size := by have := lt_of_getElem? q2; rw [hsz e (List.mem_of_getElem? q1)] at this; exact this
    have hi := lt_of_getElem? q1
    have hlt : i * size + j < ys.length * size := by
      have : (i + 1) * size ≤ ys.length * size := Nat.mul_le_mul_right _ hi
      rw [Nat.add_mul, Nat.one_mul] at this
      omega
    rw [List.getElem?_map] at q3
    simp [hlt] at q3
    have e1 : (i * size + j) / size = i := by rw [Nat.mul_comm, Nat.mul_add_div (by omega), Nat.div_eq_of_lt hj, Nat.add_zero]
    rw [e1, Nat.mod_eq_of_lt hj] at q3
    subst q3
    exact hdd i j e x q1 q2

theorem src_rep {y : SVal} {v : Value} {ys : List (List Dat)} (hy : SRep E w v y) (hs : srcOf y = some ys) : DRep E.F w v (.sl ys) := by
  unfold srcOf at hs
  split at hs
  · cases hy with | c hy => cases hy with | d hy => simp at hs; subst hs; exact hy
  · cases hy with | c hy => cases hy with | emp a => simp at hs; subst hs; exact .emp _ _
  · cases hs

/-- What an append of nothing does. -/
theorem run_append_nothing {t ty e : TypeId} {i : TypeInfo} (ht : P.underlying t = some (.slice e)) (hi : P.info? e = some i) (a b : Option Addr) (n cap c : Nat) (h : n ≤ cap) :
    (Builtin.append_ #[t, t] ty #[.slice a n cap, .slice b 0 c]).run P w = .ok (.slice a n cap) w := by
  have hf : (Builtin.firstCells i.size 0 (.slice b 0 c)).run P w = .ok #[] w := by
    cases b with
    | none => simp [Builtin.firstCells]
    | some b => simp [Builtin.firstCells, loadCells, loadCellsFrom]
  cases a with
  | none => simp [Builtin.append_, run_underlying ht, sizeOf, typeInfo, hi, Builtin.lenOf, h, hf]
  | some a => simp [Builtin.append_, run_underlying ht, sizeOf, typeInfo, hi, Builtin.lenOf, h, hf, storeCells]

theorem below_growth {n0 : Nat} (w : World) (o : Obj) (h : n0 ≤ w.heap.size) : Bel n0 w (w.drew.alloc o) := ((Bel.refl n0 w).drew).alloc h o

theorem mem_zeroCells {zs : Array Value} {n : Nat} {v : Value} (h : v ∈ Builtin.zeroCells zs n) : v ∈ zs := by
  unfold Builtin.zeroCells at h
  rw [Array.mem_map] at h
  obtain ⟨i, hi, rfl⟩ := h
  have hi : i < n * zs.size := by simpa using hi
  have hpos : 0 < zs.size := by rcases Nat.eq_zero_or_pos zs.size with h0 | h0; rw [h0] at hi; simp at hi; exact h0
  have hlt := Nat.mod_lt i hpos
  rw [getElem!_pos zs _ hlt]
  exact Array.getElem_mem hlt

theorem mem_madeCells {zs : Array Value} (hpos : 0 < zs.size) {n : Nat} {v : Value} (h : v ∈ madeCells zs n) : v ∈ zs := by
  unfold madeCells at h
  rw [Array.mem_map] at h
  obtain ⟨i, hi, rfl⟩ := h
  have hlt := Nat.mod_lt i hpos
  rw [getElem!_pos zs _ hlt]
  exact Array.getElem_mem hlt

/-- An append that must make a new array: the new block. -/
theorem grown_block {esz need : Nat} {z : Value} {e : TypeId} {old : Nat} {cells : List Value} (hz : z.cells.size = esz) (hl : cells.length = need * esz) (hmax : need ≤ maxLen) (hz1 : ∀ v ∈ z.cells, v.oneCell' = true) (hc1 : ∀ v ∈ cells, v.oneCell' = true) :
    ∃ gcap, gcap = grownCap w need old e ∧ need ≤ gcap ∧ gcap ≤ maxLen ∧
      ∃ c : Array Value, (w.drew.alloc (.cells (cells.toArray ++ Builtin.zeroCells z.cells (gcap - need)) e)).heap[w.heap.size]? = some (.cells c e (0, 0)) ∧ c.size = gcap * esz ∧ (∀ v ∈ c, v.oneCell' = true) ∧
        c.toList = cells ++ (Builtin.zeroCells z.cells (gcap - need)).toList := by
  have hge := grownCap_ge w need old e
  have hcm := grownCap_le_maxLen w need old e hmax
  refine ⟨_, rfl, hge, hcm, _, Go.heap_alloc_new w.drew _, ?_, fun v hv => ?_, by simp⟩
  · simp only [Array.size_append, List.size_toArray, size_zeroCells, hz, hl, ← Nat.add_mul]
    congr 1
    omega
  · rcases Array.mem_append.1 hv with hv | hv
    · exact hc1 v (by simpa using hv)
    · exact hz1 v (mem_zeroCells hv)

theorem append_ok (hT : TypesOk P T) {σ : St} (h : WOk F0 w0 E w σ.mem σ.clock) {t ty : TypeId} {u v : Value} {s y : SVal} (hs : SRep E w u s) (hy : SRep E w v y) {dst : Option Tmp} {K : St → Prop} (hl : aAppend T σ t s y dst K) :
    ∃ v' w' E' mem' clock' x, (Builtin.append_ #[t, t] ty #[u, v]).run P w = .ok v' w' ∧ EnvLe E w E' w' ∧ WOk F0 w0 E' w' mem' clock' ∧ SRep E' w' v' x ∧ K ({ σ with mem := mem', clock := clock' }.putO dst x) := by
  unfold aAppend at hl
  split at hl
  · rename_i e _ ht
    have hu : P.underlying t = some (.slice e) := (hT t _ ht).desc
    split at hl
    · rename_i ei ys hei hys
      obtain ⟨hpos, hzl, hyl, hl⟩ := hl
      obtain ⟨fi, z, hi1, hi2, hi3, hi4, hi5⟩ := (hT e ei hei).info
      have hz : z.cells.size = ei.size := by rw [hi5]; simpa using hzl
      have hz1 : ∀ v ∈ z.cells, v.oneCell' = true := fun v hv => (hT e ei hei).ones v (by rw [hi5] at hv; simpa using hv)
      have hrep := src_rep hy hys
      -- the array that is made anew out of a slice without room
      have fresh : ∀ (a : Option Addr), ys.length ≤ maxLen → ys.length * ei.bytes ≤ 140737488355328 →
          ∃ v' w' cap, (Builtin.append_ #[t, t] ty #[.slice a 0 0, v]).run P w = .ok v' w' ∧ ys.length ≤ cap ∧ cap ≤ maxLen ∧ Bel w0.heap.size w w' ∧ (∀ i, i < w.heap.size → w'.heap[i]? = w.heap[i]?) ∧
            ((cap = 0 ∧ ∃ b, v' = .slice b 0 0) ∨ (0 < cap ∧ v' = .slice (some ⟨w.heap.size, 0, none⟩) ys.length cap)) ∧
            (cap = 0 ∨ ∃ c, w'.heap[w.heap.size]? = some (.cells c e (0, 0)) ∧ c.size = cap * ei.size ∧ (∀ v ∈ c, v.oneCell' = true) ∧ ∀ (i j : Nat) e v x, ys[i]? = some e → e[j]? = some x → c[i * ei.size + j]? = some v → DRep E.F w v x) := by
        intro a hm hb
        by_cases hne : ys = []
        · subst hne
          rcases hrep.sl_inv with ⟨_, b, c, rfl⟩ | ⟨b, off, cap, size, us, rfl, _⟩
          · exact ⟨_, w, 0, run_append_nothing hu hi1 a b 0 0 c (Nat.le_refl _), Nat.le_refl _, by simp [maxLen], Bel.refl _ _, fun _ _ => rfl, .inl ⟨rfl, a, rfl⟩, .inl rfl⟩
          · exact ⟨_, w, 0, run_append_nothing hu hi1 a _ 0 0 cap (Nat.le_refl _), Nat.le_refl _, by simp [maxLen], Bel.refl _ _, fun _ _ => rfl, .inl ⟨rfl, a, rfl⟩, .inl rfl⟩
        · obtain ⟨b, off, cap, news, rfl, hnl, hnc, hn1, hflat⟩ := hrep.flat hyl hne
          have hlp : 0 < ys.length := by rcases Nat.eq_zero_or_pos ys.length with h0 | h0; exact absurd (List.eq_nil_of_length_eq_zero h0) hne; exact h0
          have h63 : ((0 + ys.length : Nat) : Int) ≤ 9223372036854775807 := by simp only [maxLen] at hm; omega
          obtain ⟨gcap, hg, hge, hgm, c, hc1, hc2, hc0, hc3⟩ := grown_block (w := w) (e := e) (old := 0) hz hnl hm hz1 hn1
          have hr : (Builtin.append_ #[t, t] ty #[.slice a 0 0, .slice (some ⟨b, off, none⟩) ys.length cap]).run P w =
              .ok (.slice (some ⟨w.heap.size, 0, none⟩) ys.length gcap) (w.drew.alloc (.cells (news.toArray ++ Builtin.zeroCells z.cells (gcap - ys.length)) e)) := by
            cases a with
            | none =>
              have := run_append_nil (P := P) w t ty e fi z hu hi1 hi4 ⟨b, off, none⟩ ys.length cap news (by rw [hi2]; exact hnl) hnc hlp (by omega) (by rw [hi3]; omega)
              rw [hg]; exact this
            | some a =>
              have := run_append_grow (P := P) w t ty e fi z hu hi1 hi4 a 0 0 [] (by simp) (by simp) ⟨b, off, none⟩ ys.length cap news (by rw [hi2]; exact hnl) hnc (by omega) h63
                (by rw [hi3]; exact growslice_fits (by omega) (by simpa using hb))
              simp only [Nat.zero_add, Array.empty_append] at this
              rw [hg]; exact this
          refine ⟨_, _, gcap, hr, hge, hgm, below_growth w _ h.le0, fun i hi => by rw [Bel.heap_alloc w.drew _ i hi]; rfl, .inr ⟨by omega, rfl⟩, .inr ⟨c, hc1, hc2, hc0, fun i j e' v' x' q1 q2 q3 => ?_⟩⟩
          have hj := Flat.join (A := []) (rest := (Builtin.zeroCells z.cells (gcap - ys.length)).toList) (olds := []) (by simp) (by simp) hyl hnl (fun _ _ _ _ _ q => by simp at q) hflat
          simp only [List.nil_append] at hj
          exact hj i j e' v' x' q1 q2 (by rw [← hc3]; simpa using q3)
      split at hl
      · obtain ⟨hm, hb, hK⟩ := hl
        cases hs with | c hs => cases hs with | emp a =>
        obtain ⟨v', w', cap, hr, h1, h2, h3, h4, h5, h6⟩ := fresh a hm hb
        have hn := h.newArr e ei.size cap ys hpos hyl h1 h2 h3 h4 h6
        refine ⟨v', w', _, _, _, _, hr, hn.2, hn.1, .c (.arr σ.mem.length (σ.clock + 1) ys.length v' ?_ (by simp [Env.upd]) (fun _ => ?_)), hK⟩
        · rcases h5 with ⟨_, b, rfl⟩ | ⟨_, rfl⟩ <;> rfl
        · rcases h5 with ⟨h5, b, rfl⟩ | ⟨h5, rfl⟩
          · exact .inl ⟨by simp [Env.upd, h5], by omega, b, rfl⟩
          · exact .inr ⟨by simp [Env.upd]; exact h5, by simp [Env.upd]⟩
      · rename_i r k n
        split at hl
        · rename_i k' e' esz es hmr
          obtain ⟨rfl, rfl, rfl, hn, hm, hb, hK⟩ := hl
          have ho := h.mem.ok r _ hmr
          obtain ⟨o1, o2, o3, o4, o5, o6⟩ := ho
          cases hs with | c hs => cases hs with | arr _ _ _ _ _ _ hh =>
          rcases hh o1 with ⟨hcz, hn0, a, rfl⟩ | ⟨hcp, rfl⟩
          · subst hn0
            simp only [Nat.zero_add, List.take_zero, List.nil_append] at hm hb hK
            obtain ⟨v', w', cap, hr, h1, h2, h3, h4, h5, h6⟩ := fresh a hm hb
            have hg := h.growArr r k' e' ei.size es hmr w.heap.size cap ys hyl h1 h2 (.inl rfl) h3 (fun i hi _ => h4 i hi) h6
            refine ⟨v', w', _, _, _, _, hr, hg.2, hg.1, .c (.arr r (σ.clock + 1) ys.length v' ?_ (by simp [Env.upd]) (fun _ => ?_)), hK⟩
            · rcases h5 with ⟨_, b, rfl⟩ | ⟨_, rfl⟩ <;> rfl
            · rcases h5 with ⟨h5, b, rfl⟩ | ⟨h5, rfl⟩
              · exact .inl ⟨by simp [Env.upd, h5], by omega, b, rfl⟩
              · exact .inr ⟨by simp [Env.upd]; exact h5, by simp [Env.upd]⟩
          · rcases o6 with o6 | ⟨p1, p2, c, p3, p4, p0, p5⟩
            · omega
            have hnc : n * ei.size ≤ c.size := by rw [p4]; exact Nat.mul_le_mul_right _ (by omega)
            have hAl : (es.take n).length = n := by simp; omega
            have hA : ∀ el, el ∈ es.take n → el.length = ei.size := fun el hel => o3 el (List.mem_of_mem_take hel)
            have hAB : ∀ el, el ∈ es.take n ++ ys → el.length = ei.size := fun el hel => by
              rcases List.mem_append.1 hel with q | q
              · exact hA el q
              · exact hyl el q
            have hfl : Flat (DRep E.F w) ei.size (es.take n) (c.toList.take (n * ei.size)) := by
              intro i j e v x q1 q2 q3
              rw [List.getElem?_take] at q1
              split at q1
              · rw [List.getElem?_take] at q3
                split at q3
                · exact p5 i j e v x q1 q2 (by simpa using q3)
                · cases q3
              · cases q1
            by_cases hne : ys = []
            · subst hne
              simp only [List.length_nil, Nat.add_zero, List.append_nil] at hm hb hK
              have hr : (Builtin.append_ #[t, t] ty #[.slice (some ⟨E.blk r, 0, none⟩) n (E.cap r), v]).run P w = .ok (.slice (some ⟨E.blk r, 0, none⟩) n (E.cap r)) w := by
                rcases hrep.sl_inv with ⟨_, b, cc, rfl⟩ | ⟨b, off, cap, size, us, rfl, _⟩
                · exact run_append_nothing hu hi1 _ b n _ cc (by omega)
                · exact run_append_nothing hu hi1 _ _ n _ cap (by omega)
              have hg := h.growArr (w' := w) r k' e' ei.size es hmr (E.blk r) (E.cap r) (es.take n) hA (by omega) o5 (.inr ⟨rfl, by omega⟩) (Bel.refl _ _) (fun _ _ _ => rfl) (.inr ⟨c, p3, p4, p0, fun i j e v x q1 q2 q3 => by
                rw [List.getElem?_take] at q1
                split at q1
                · exact p5 i j e v x q1 q2 q3
                · cases q1⟩)
              exact ⟨_, w, _, _, _, _, hr, hg.2, hg.1, .c (.arr r (σ.clock + 1) n _ rfl (by simp [Env.upd]) (fun _ => .inr ⟨by simp [Env.upd]; exact hcp, by simp [Env.upd]⟩)), hK⟩
            · obtain ⟨b, off, cap, news, rfl, hnl, hnc', hn1, hflat⟩ := hrep.flat hyl hne
              have hlp : 0 < ys.length := by rcases Nat.eq_zero_or_pos ys.length with h0 | h0; exact absurd (List.eq_nil_of_length_eq_zero h0) hne; exact h0
              have hlo : (c.toList.take (n * ei.size)).length = n * ei.size := by simp; omega
              by_cases hroom : n + ys.length ≤ E.cap r
              · have hfit : n * ei.size + news.length ≤ c.size := by rw [hnl, p4, ← Nat.add_mul]; exact Nat.mul_le_mul_right _ hroom
                have hr := run_append_room (P := P) w t ty e' fi hu hi1 (E.blk r) n (E.cap r) c p3 ⟨b, off, none⟩ ys.length cap news (by rw [hi2]; exact hnl) hnc' hn1 hroom (by rw [hi2]; exact hfit)
                rw [hi2] at hr
                have hg := h.growArr (w' := w.setRow (E.blk r) (c.toList.take (n * ei.size) ++ news ++ c.toList.drop (n * ei.size + news.length)).toArray) r k' e' ei.size es hmr (E.blk r) (E.cap r) (es.take n ++ ys) hAB (by simp; omega) o5 (.inr ⟨rfl, by omega⟩) (below_setRow w _ _ p1) (fun i hi hne => setRow_other w _ i _ hne)
                  (.inr ⟨_, setRow_heap w _ c _ e' _ p3, by
                    have := length_splice (l := c.toList) (m := news) (o := n * ei.size) (by simpa using hfit)
                    simp only [List.size_toArray, this, Array.length_toList, p4], fun v hv => ones_splice p0 hn1 (by simpa using hv), fun i j e v x q1 q2 q3 => by
                    exact Flat.join (by rw [hlo, hAl]) hA hyl hnl hfl hflat i j e v x q1 q2 (by simpa using q3)⟩)
                exact ⟨_, _, _, _, _, _, hr, hg.2, hg.1, .c (.arr r (σ.clock + 1) (n + ys.length) _ rfl (by simp [Env.upd]) (fun _ => .inr ⟨by simp [Env.upd]; exact hcp, by simp [Env.upd]⟩)), hK⟩
              · have h63 : ((n + ys.length : Nat) : Int) ≤ 9223372036854775807 := by simp only [maxLen] at hm; omega
                have hjl : (c.toList.take (n * ei.size) ++ news).length = (n + ys.length) * ei.size := by rw [List.length_append, hlo, hnl, Nat.add_mul]
                obtain ⟨gcap, hg, hge, hgm, c', hc1, hc2, hc0, hc3⟩ := grown_block (w := w) (e := e') (old := E.cap r) hz hjl hm hz1 (fun v hv => by
                  rcases List.mem_append.1 hv with hv | hv
                  · exact p0 v (by simpa using List.mem_of_mem_take hv)
                  · exact hn1 v hv)
                have hr := run_append_grow (P := P) w t ty e' fi z hu hi1 hi4 ⟨E.blk r, 0, none⟩ n (E.cap r) (c.toList.take (n * ei.size)) (by rw [hi2]; exact hlo) (fun j v hv => by
                    rw [Addr.add_lit, cell_of_block p3]
                    rw [List.getElem?_take] at hv
                    split at hv
                    · simpa using hv
                    · cases hv) ⟨b, off, none⟩ ys.length cap news (by rw [hi2]; exact hnl) hnc' (by omega) h63 (by rw [hi3]; exact growslice_fits (by omega) hb)
                have happ : (c.toList.take (n * ei.size)).toArray ++ news.toArray = (c.toList.take (n * ei.size) ++ news).toArray := by simp
                rw [happ, ← hg] at hr
                have hgr := h.growArr (w' := w.drew.alloc (.cells ((c.toList.take (n * ei.size) ++ news).toArray ++ Builtin.zeroCells z.cells (gcap - (n + ys.length))) e')) r k' e' ei.size es hmr w.heap.size gcap (es.take n ++ ys) hAB (by simp; omega) hgm (.inl rfl) (below_growth w _ h.le0)
                  (fun i hi _ => by rw [Bel.heap_alloc w.drew _ i hi]; rfl)
                  (.inr ⟨c', hc1, hc2, hc0, fun i j e v x q1 q2 q3 => by
                    exact Flat.join (by rw [hlo, hAl]) hA hyl hnl hfl hflat i j e v x q1 q2 (by rw [← hc3]; simpa using q3)⟩)
                exact ⟨_, _, E.upd r w.heap.size gcap (σ.clock + 1), _, _, _, hr, hgr.2, hgr.1, .c (.arr r (σ.clock + 1) (n + ys.length) _ rfl (by simp [Env.upd]) (fun _ => .inr ⟨by simp [Env.upd]; omega, by simp [Env.upd]⟩)), hK⟩
        · exact hl.elim
      · exact hl.elim
    · exact hl.elim
  · exact hl.elim
end
end Go.Abs
end

/-
  Makes, literals, arithmetic and function values over the abstract view.
-/
section
namespace Go.Abs
open Go.RowKit

section
variable {P : Program} {T : TypeId → Option TI} {F0 : Nat → Prop} {w0 w : World} {E : Env} {mem : List Blk} {clock : Nat}

theorem valCell_rep {v : Value} (h : v.oneCell' = true) : CRep E w v (valCell v) := by
  unfold valCell
  split
  · exact .emp _
  · exact .d (.lit v h)

theorem zero_rep {P : Program} {t : TypeId} {i : TI} (h : TOk P t i) : ∀ (j : Nat) v x, i.zero.toArray[j]? = some v → (i.zero.map valCell)[j]? = some x → CRep E w v x := by
  intro j v x hv hx
  rw [List.getElem?_map] at hx
  have hv' : i.zero[j]? = some v := by simpa using hv
  rw [hv'] at hx
  simp at hx
  subst hx
  exact valCell_rep (h.ones v (List.mem_of_getElem? hv'))

theorem make_ok (hT : TypesOk P T) {σ : St} (h : WOk F0 w0 E w σ.mem σ.clock) {t : TypeId} {u v : Value} {l c : SVal} (hl : SRep E w u l) (hc : SRep E w v c) {dst : Option Tmp} {K : St → Prop} (hk : aMake T σ t l c dst K) :
    ∃ v' w' E' mem' clock' x, (Instr.makeSlice t u v).run P w = .ok v' w' ∧ EnvLe E w E' w' ∧ WOk F0 w0 E' w' mem' clock' ∧ SRep E' w' v' x ∧ K ({ σ with mem := mem', clock := clock' }.putO dst x) := by
  unfold aMake at hk
  split at hk
  · rename_i e _ kn n km m ht
    have hu : P.underlying t = some (.slice e) := (hT t _ ht).desc
    have e1 := hl.lit_inv
    have e2 := hc.lit_inv
    subst e1; subst e2
    split at hk
    · rename_i ei hei
      split at hk
      · rename_i z hz
        obtain ⟨hpos, hzl, h0, hnm, h63, hb, hK⟩ := hk
        obtain ⟨fi, zv, hi1, hi2, hi3, hi4, hi5⟩ := (hT e ei hei).info
        have hr := run_make (P := P) w t e fi zv hu hi1 hi4 kn km n m h0 hnm (by rw [hi3]; exact hb) h63
        rw [hi2] at hr
        have hzlen := dats_len hz
        have hzs : zv.cells.size = ei.size := by rw [hi5]; simpa using hzl
        have hn := h.newArr (w' := w.alloc (.cells (madeCells zv.cells (m.toNat * ei.size)) e)) e ei.size m.toNat (List.replicate n.toNat z) hpos (fun e he => by rw [List.eq_of_mem_replicate he, hzlen]; simpa using hzl) (by simp; omega) (by simp [maxLen]; omega)
          ((Bel.refl _ w).alloc h.le0 _) (fun i hi => Bel.heap_alloc w _ i hi) (.inr ⟨_, Go.heap_alloc_new w _, by simp [size_madeCells], fun v hv => (hT e ei hei).ones v (by have := mem_madeCells (by omega) hv; rw [hi5] at this; simpa using this), fun i j e v x q1 q2 q3 => by
            have hi := lt_of_getElem? q1
            simp only [List.length_replicate] at hi
            rw [List.getElem?_replicate, if_pos hi] at q1
            simp only [Option.some.injEq] at q1
            subst q1
            have hj := lt_of_getElem? q2
            rw [hzlen] at hj
            simp only [List.length_map, hzl] at hj
            have hlt : i * ei.size + j < m.toNat * ei.size := by
              have : (i + 1) * ei.size ≤ m.toNat * ei.size := Nat.mul_le_mul_right _ (by omega)
              rw [Nat.add_mul, Nat.one_mul] at this
              omega
            have hmod : (i * ei.size + j) % ei.size = j := by rw [Nat.mul_comm, Nat.mul_add_mod, Nat.mod_eq_of_lt hj]
            have hget : (madeCells zv.cells (m.toNat * ei.size))[i * ei.size + j]? = zv.cells[j]? := by
              unfold madeCells
              rw [Array.getElem?_map]
              have hjs : j < zv.cells.size := by rw [hzs]; exact hj
              simp only [Array.getElem?_range, hlt, if_true, Option.map_some, hzs, hmod]
              rw [getElem!_pos zv.cells j hjs, Array.getElem?_eq_getElem hjs]
            rw [hget, hi5] at q3
            exact dats_rep (E := E) (v := v) hz (fun y hy => zero_rep (hT e ei hei) j v y q3 hy) q2⟩)
        refine ⟨_, _, E.upd σ.mem.length w.heap.size m.toNat (σ.clock + 1), _, _, _, hr, hn.2, hn.1, .c (.arr σ.mem.length (σ.clock + 1) n.toNat _ rfl (by simp [Env.upd]) (fun _ => ?_)), hK⟩
        rcases Nat.eq_zero_or_pos m.toNat with hm0 | hm0
        · have hn0 : n.toNat = 0 := by omega
          exact .inl ⟨by simp [Env.upd, hm0], hn0, some ⟨w.heap.size, 0, none⟩, by rw [hn0, hm0]⟩
        · exact .inr ⟨by simp [Env.upd]; omega, by simp [Env.upd]⟩
      · exact hk.elim
    · exact hk.elim
  · exact hk.elim

theorem foldl_set (off : Nat) : ∀ (l : List Value) (k : Nat) (cs : Array Value), off + k + l.length ≤ cs.size →
    ((l.zipIdx k).foldl (fun (cs : Array Value) (p : Value × Nat) => cs.setIfInBounds (off + p.2) p.1) cs).size = cs.size ∧
    ∀ q, ((l.zipIdx k).foldl (fun (cs : Array Value) (p : Value × Nat) => cs.setIfInBounds (off + p.2) p.1) cs)[q]? = if off + k ≤ q ∧ q < off + k + l.length then l[q - (off + k)]? else cs[q]?
  | [], k, cs, _ => by simp; intros; omega
  | v :: l, k, cs, h => by
    simp only [List.length_cons] at h
    have ih := foldl_set off l (k + 1) (cs.setIfInBounds (off + k) v) (by simp; omega)
    simp only [List.zipIdx_cons, List.foldl_cons]
    refine ⟨by rw [ih.1]; simp, fun q => ?_⟩
    rw [ih.2 q]
    simp only [List.length_cons]
    by_cases h1 : q = off + k
    · subst h1
      rw [if_neg (by omega), if_pos (by omega)]
      have : off + k < cs.size := by omega
      simp [this]
    · by_cases h2 : off + (k + 1) ≤ q ∧ q < off + (k + 1) + l.length
      · rw [if_pos h2, if_pos (by omega)]
        rw [show q - (off + k) = q - (off + (k + 1)) + 1 by omega, List.getElem?_cons_succ]
      · rw [if_neg h2, if_neg (by omega)]
        rw [Array.getElem?_setIfInBounds_ne (by omega)]

theorem fill_step (place : Nat → Option (Nat × Nat)) (cells : Array Value) (i off size : Nat) (v : Value) (rest : List (Nat × Value)) (hp : place i = some (off, size)) (hv : v.cells.size = size) (hfit : off + size ≤ cells.size) :
    ∃ cells' : Array Value, Instr.fill place cells ((i, v) :: rest) = Instr.fill place cells' rest ∧ cells'.size = cells.size ∧ cells'.toList = cells.toList.take off ++ v.cells.toList ++ cells.toList.drop (off + size) := by
  have hf := foldl_set off v.cells.toList 0 cells (by simp; omega)
  simp only [Nat.add_zero, Array.length_toList] at hf
  refine ⟨(v.cells.toList.zipIdx 0).foldl (fun (cs : Array Value) (p : Value × Nat) => cs.setIfInBounds (off + p.2) p.1) cells, ?_, hf.1, ?_⟩
  · rw [Instr.fill]
    simp only [hp]
    rw [if_neg (by simp; omega)]
    congr 1
    rw [← Array.foldl_toList, Array.toList_zipIdx]
  · apply List.ext_getElem?
    intro q
    have e := getElem?_splice (l := cells.toList) (m := v.cells.toList) (o := off) (j := q) (by simp; omega)
    rw [Array.length_toList, hv] at e
    rw [e, Array.getElem?_toList, hf.2 q]
    by_cases h1 : q < off
    · rw [if_neg (by omega), if_pos h1, Array.getElem?_toList]
    · rw [if_neg h1]
      by_cases h2 : q < off + size
      · rw [if_pos h2, if_pos (by omega)]
      · rw [if_neg h2, if_neg (by omega), Array.getElem?_toList]

theorem build_fill (hT : TypesOk P T) {σ : St} {ρ : Operand → Value} (hρ : ∀ x, SRep E w (ρ x) (σ.ev x)) (fs : List (Nat × TypeId)) (place : Nat → Option (Nat × Nat))
    (hplace : ∀ i off ft j, fs[i]? = some (off, ft) → T ft = some j → place i = some (off, j.size)) :
    ∀ (parts : List (Nat × Operand)) (cs cs' : List Cell) (cells : Array Value), fillC T σ fs parts cs = some cs' → cells.size = cs.length →
      (∀ (j : Nat) v x, cells[j]? = some v → cs[j]? = some x → CRep E w v x) →
      ∃ cells', Instr.fill place cells (parts.map fun p => (p.1, ρ p.2)) = some cells' ∧ cells'.size = cs'.length ∧ ∀ (j : Nat) v x, cells'[j]? = some v → cs'[j]? = some x → CRep E w v x
  | [], cs, cs', cells, h, hl, hc => by
    simp only [fillC, Option.some.injEq] at h
    subst h
    exact ⟨cells, by simp [Instr.fill], hl, hc⟩
  | (i, x) :: rest, cs, cs', cells, h, hl, hc => by
    simp only [fillC] at h
    split at h
    · rename_i off ft ns hf hns
      split at h
      · rename_i j hj
        split at h
        · rename_i hcond
          obtain ⟨hn, hfit⟩ := hcond
          obtain ⟨hc1, _, hc3⟩ := (hρ x).cellsOf hns
          obtain ⟨cells1, hs1, hs2, hs3⟩ := fill_step place cells i off j.size (ρ x) (rest.map fun p => (p.1, ρ p.2)) (hplace i off ft j hf hj) (by omega) (by omega)
          have e2 := length_splice (l := cs) (m := ns) (o := off) hfit
          obtain ⟨cells', q1, q2, q3⟩ := build_fill hT hρ fs place hplace rest _ cs' cells1 h (by rw [hs2, e2, hl]) (fun q v y hv hy => by
            have hv' : cells1.toList[q]? = some v := by simpa using hv
            rw [hs3] at hv'
            have e1 := getElem?_splice (l := cells.toList) (m := (ρ x).cells.toList) (o := off) (j := q) (by simp; omega)
            have e3 := getElem?_splice (l := cs) (m := ns) (o := off) (j := q) hfit
            have hvl : (ρ x).cells.toList.length = j.size := by simp; omega
            rw [hvl] at e1
            rw [hn] at e3
            rw [e1] at hv'
            rw [hn, e3] at hy
            by_cases a1 : q < off
            · rw [if_pos a1] at hv' hy
              exact hc q v y (by simpa using hv') hy
            · rw [if_neg a1] at hv' hy
              by_cases a2 : q < off + j.size
              · rw [if_pos a2] at hv' hy
                exact hc3 (q - off) v y (by simpa using hv') hy
              · rw [if_neg a2] at hv' hy
                exact hc q v y (by simpa using hv') hy)
          exact ⟨cells', by rw [List.map_cons, hs1]; exact q1, q2, q3⟩
        · cases h
      · cases h
    · cases h

theorem mapM_places (hT : TypesOk P T) : ∀ (l : List Field), (∀ f ∈ l, ∃ j, T f.type = some j) →
    (l.mapM (fun f => do pure (f.offset, ← sizeOf f.type) : Field → Sem (Nat × Nat))).run P w = .ok (l.map fun f => (f.offset, ((T f.type).map (·.size)).getD 0)) w
  | [], _ => by simp
  | f :: l, h => by
    obtain ⟨j, hj⟩ := h f (by simp)
    have ih := mapM_places hT l (fun f hf => h f (by simp [hf]))
    have hs := (hT f.type j hj).sizeOf (w := w)
    simp only [List.mapM_cons, Sem.run_bind, hs, Result.andThen_ok, Sem.run_pure, ih, hj, List.map_cons, Option.map_some, Option.getD_some]

theorem build_ok (hT : TypesOk P T) {σ : St} {t : TypeId} {ρ : Operand → Value} (hρ : ∀ x, SRep E w (ρ x) (σ.ev x)) {parts : Array (Nat × Operand)} {V : SVal → Prop}
    (hl : aBuild T σ t parts.toList V) :
    ∃ v y, (Instr.build t (parts.map fun (i, x) => (i, ρ x))).run P w = .ok v w ∧ SRep E w v y ∧ V y := by
  unfold aBuild at hl
  split at hl
  · rename_i _ _ zero fs _ ht
    obtain ⟨hall, hl⟩ := hl
    split at hl
    · rename_i cs hcs
      have htt := hT t _ ht
      obtain ⟨fields, hu, hfs⟩ := htt.desc
      obtain ⟨fi, z, hi1, hi2, hi3, hi4, hi5⟩ := htt.info
      have hfall : ∀ f ∈ fields.toList, ∃ j, T f.type = some j := fun f hf => Option.isSome_iff_exists.1 (List.all_eq_true.1 hall (f.offset, f.type) (by rw [← hfs]; exact List.mem_map.2 ⟨f, hf, rfl⟩))
      have hpl := mapM_places (w := w) hT fields.toList hfall
      have hplA : (fields.mapM (fun f => do pure (f.offset, ← sizeOf f.type) : Field → Sem (Nat × Nat))).run P w = .ok (fields.toList.map fun f => (f.offset, ((T f.type).map (·.size)).getD 0)).toArray w := by
        rw [Array.mapM_eq_mapM_toList]
        simp only [Sem.run_map, hpl, Result.andThen_ok]
      obtain ⟨cells', q1, q2, q3⟩ := build_fill hT hρ fs (fun i => (fields.toList.map fun f => (f.offset, ((T f.type).map (·.size)).getD 0)).toArray[i]?) (fun i off ft j hf hj => by
          rw [← hfs, List.getElem?_map] at hf
          cases hq : fields.toList[i]? with
          | none => rw [hq] at hf; cases hf
          | some fl =>
            rw [hq] at hf
            simp at hf
            obtain ⟨rfl, rfl⟩ := hf
            have hq' : fields[i]? = some fl := by simpa using hq
            simp [hq', hj]) parts.toList _ cs zero.toArray hcs (by simp) (zero_rep htt)
      refine ⟨.agg cells', .agg cs, ?_, ?_, hl⟩
      · have hmap : (parts.map fun (i, x) => (i, ρ x)).toList = parts.toList.map fun p => (p.1, ρ p.2) := by simp
        simp only [Instr.build, zeroValue, typeInfo, Sem.run_bind, run_program, Result.andThen_ok, hi1, Sem.run_pure, hi4, run_underlying hu, hplA, hi5, hmap]
        rw [q1]
        rfl
      · have := SRep.agg (E := E) (w := w) cs cells'.toList (by simpa using q2) (fun i v x hv hx => q3 i v x (by simpa using hv) hx)
        simpa using this
    · exact hl.elim
  · exact hl.elim
end
end Go.Abs
end

/-
  Literals of slices, arithmetic and function values over the abstract view.
-/
section
namespace Go.Abs
open Go.RowKit

section
variable {P : Program} {T : TypeId → Option TI} {F0 : Nat → Prop} {w0 w : World} {E : Env} {mem : List Blk} {clock : Nat}

theorem parts_fill {σ : St} {ρ : Operand → Value} (hρ : ∀ x, SRep E w (ρ x) (σ.ev x)) (size : Nat) :
    ∀ (parts : List (Nat × Operand)) (k : Nat) (es : List (List Dat)) (cells : Array Value), partsOf σ size parts k = some es → (k + parts.length) * size ≤ cells.size →
      ∃ cells', Instr.fill (fun i => some (i * size, size)) cells (parts.map fun p => (p.1, ρ p.2)) = some cells' ∧ cells'.size = cells.size ∧ es.length = parts.length ∧ (∀ e, e ∈ es → e.length = size) ∧
        (∀ q, q < k * size → cells'[q]? = cells[q]?) ∧ (∀ (i j : Nat) e v x, es[i]? = some e → e[j]? = some x → cells'[(k + i) * size + j]? = some v → DRep E.F w v x)
  | [], k, es, cells, h, hl => by
    simp only [partsOf, Option.some.injEq] at h
    subst h
    exact ⟨cells, by simp [Instr.fill], rfl, rfl, by simp, fun _ _ => rfl, fun _ _ _ _ _ q => by simp at q⟩
  | (i, x) :: rest, k, es, cells, h, hl => by
    simp only [partsOf] at h
    split at h
    · rename_i hik
      subst hik
      split at h
      · rename_i cs hcs
        split at h
        · rename_i ds r hds hr
          split at h
          · rename_i hsz
            simp only [Option.some.injEq] at h
            subst h
            simp only [List.length_cons] at hl
            have hl' : (i + 1 + rest.length) * size ≤ cells.size := by rw [show i + 1 + rest.length = i + (rest.length + 1) by omega]; exact hl
            have hfit : i * size + size ≤ cells.size := by
              have : (i + 1) * size ≤ (i + 1 + rest.length) * size := Nat.mul_le_mul_right _ (by omega)
              rw [Nat.add_mul, Nat.one_mul] at this
              omega
            obtain ⟨hc1, _, hc3⟩ := (hρ x).cellsOf hcs
            have hdl := dats_len hds
            obtain ⟨cells1, hs1, hs2, hs3⟩ := fill_step (fun i => some (i * size, size)) cells i (i * size) size (ρ x) (rest.map fun p => (p.1, ρ p.2)) rfl (by omega) hfit
            obtain ⟨cells', q1, q2, q3, q4, q5, q6⟩ := parts_fill hρ size rest (i + 1) r cells1 hr (by rw [hs2]; exact hl')
            have hvl : (ρ x).cells.toList.length = size := by simp; omega
            have hget : ∀ q, cells1[q]? = if q < i * size then cells[q]? else if q < i * size + size then (ρ x).cells[q - i * size]? else cells[q]? := by
              intro q
              have e1 := getElem?_splice (l := cells.toList) (m := (ρ x).cells.toList) (o := i * size) (j := q) (by rw [hvl]; simpa using hfit)
              rw [hvl] at e1
              rw [← Array.getElem?_toList, hs3, e1]
              simp
            refine ⟨cells', by rw [List.map_cons, hs1]; exact q1, by rw [q2, hs2], by simp [q3], fun e he => ?_, fun q hq => ?_, fun i' j e v y a1 a2 a3 => ?_⟩
            · simp only [List.mem_cons] at he
              rcases he with rfl | he
              · exact hsz
              · exact q4 e he
            · rw [q5 q (by rw [Nat.add_mul]; omega), hget q, if_pos hq]
            · cases i' with
              | zero =>
                simp only [List.getElem?_cons_zero, Option.some.injEq] at a1
                subst a1
                have hj : j < size := by have := lt_of_getElem? a2; omega
                simp only [Nat.add_zero] at a3
                rw [q5 _ (by rw [Nat.add_mul]; omega), hget, if_neg (by omega), if_pos (by omega), show i * size + j - i * size = j by omega] at a3
                exact dats_rep (E := E) (v := v) hds (fun z hz => hc3 j v z a3 hz) a2
              | succ i' =>
                rw [show i + (i' + 1) = i + 1 + i' by omega] at a3
                exact q6 i' j e v y (by simpa using a1) a2 a3
          · cases h
        · cases h
      · cases h
    · cases h

theorem buildSlice_ok (hT : TypesOk P T) {σ : St} (h : WOk F0 w0 E w σ.mem σ.clock) {t : TypeId} {len : Nat} {ρ : Operand → Value} (hρ : ∀ x, SRep E w (ρ x) (σ.ev x)) {parts : Array (Nat × Operand)} {V : SVal → Prop}
    (hl : aBuildSlice T σ t len parts.toList V) :
    ∃ v w' E' y, (Instr.buildSlice t len (parts.map fun (i, x) => (i, ρ x))).run P w = .ok v w' ∧ EnvLe E w E' w' ∧ WOk F0 w0 E' w' σ.mem σ.clock ∧ SRep E' w' v y ∧ V y := by
  unfold aBuildSlice at hl
  split at hl
  · rename_i e _ ht
    have hu : P.underlying t = some (.slice e) := (hT t _ ht).desc
    split at hl
    · rename_i ei hei
      have hsz := (hT e ei hei).sizeOf (w := w)
      have hmap : (parts.map fun (i, x) => (i, ρ x)).toList = parts.toList.map fun p => (p.1, ρ p.2) := by simp
      split at hl
      · obtain ⟨hp, hV⟩ := hl
        have hlat := h.later (w' := w.alloc (.cells #[] e)) ((Bel.refl _ w).alloc (Nat.le_refl _) _) (fun _ => False) (fun _ q => q.elim)
        refine ⟨.slice (some ⟨w.heap.size, 0, none⟩) 0 0, _, _, _, ?_, hlat.2, hlat.1, .c (.emp _), hV⟩
        simp only [Instr.buildSlice, Sem.run_bind, run_underlying hu, Result.andThen_ok, hsz, Nat.zero_mul, hmap, hp]
        simp [Instr.fill, newRow, Array.range_zero']
      · rename_i n
        obtain ⟨hpos, hzl, hlim, hpl, hl⟩ := hl
        split at hl
        · rename_i es hes
          obtain ⟨fi, z, hi1, hi2, hi3, hi4, hi5⟩ := (hT e ei hei).info
          obtain ⟨cells', q1, q2, q3, q4, q5, q6⟩ := parts_fill hρ ei.size parts.toList 0 es ((Array.range ((n + 1) * ei.size)).map (z.cells[· % z.cells.size]!)) hes (by simp [hpl])
          have hnz : (n + 1) * ei.size ≠ 0 := by
            have : 0 < (n + 1) * ei.size := Nat.mul_pos (by omega) hpos
            omega
          have hlat := h.later (w' := w.alloc (.cells cells' e)) ((Bel.refl _ w).alloc (Nat.le_refl _) _) (fun k => k = w.heap.size) (fun k q => by subst q; simp)
          refine ⟨.slice (some ⟨w.heap.size, 0, none⟩) es.length (n + 1), _, _, _, ?_, hlat.2, hlat.1, .c (.d (.sl es w.heap.size 0 (n + 1) ei.size (fun i j => cells'.getD (i * ei.size + j) undef) (.inr rfl) (by omega) ?_ q4 ?_ ?_)), hl⟩
          · simp only [Instr.buildSlice, Sem.run_bind, run_underlying hu, Result.andThen_ok, hsz, hmap]
            rw [if_neg (show ¬ (n + 1) * ei.size > 2 ^ 24 by omega)]
            simp only [Sem.run_pure, Result.andThen_ok, if_neg hnz, Sem.run_bind, zeroValue, typeInfo, run_program, hi1, hi4]
            rw [q1]
            simp only [Sem.run_bind, newRow, run_newObj, Result.andThen_ok, Sem.run_pure, World.alloc_eq]
            rw [q3, hpl]
          · simp only [maxLen]
            have h1 : n + 1 ≤ (n + 1) * ei.size := Nat.le_mul_of_pos_right _ hpos
            omega
          · intro i j hi hj
            have hlt : i * ei.size + j < cells'.size := by
              rw [q2]
              simp only [Array.size_map, Array.size_range]
              have : (i + 1) * ei.size ≤ (n + 1) * ei.size := Nat.mul_le_mul_right _ (by omega)
              rw [Nat.add_mul, Nat.one_mul] at this
              omega
            simp only [Nat.zero_add]
            rw [World.cell?_alloc_new]
            simp [hlt]
          · intro i j el x a1 a2
            have hj : j < ei.size := by have := lt_of_getElem? a2; rw [q4 el (List.mem_of_getElem? a1)] at this; exact this
            have hi := lt_of_getElem? a1
            have hlt : i * ei.size + j < cells'.size := by
              rw [q2]
              simp only [Array.size_map, Array.size_range]
              have : (i + 1) * ei.size ≤ (n + 1) * ei.size := Nat.mul_le_mul_right _ (by omega)
              rw [Nat.add_mul, Nat.one_mul] at this
              omega
            have := q6 i j el (cells'.getD (i * ei.size + j) undef) x a1 a2 (by simp [hlt])
            exact this.le hlat.2
        · exact hl.elim
    · exact hl.elim
  · exact hl.elim

theorem litsOf_rep : ∀ {xs : List Cell} {us vs : List Value}, litsOf xs = some us → vs.length = xs.length → (∀ (i : Nat) v x, vs[i]? = some v → xs[i]? = some x → CRep E w v x) → vs = us
  | [], us, vs, h, hl, _ => by
    simp only [litsOf, Option.some.injEq] at h
    subst h
    exact List.eq_nil_of_length_eq_zero hl
  | c :: xs, us, vs, h, hl, hd => by
    unfold litsOf at h
    split at h
    · rename_i hq; cases hq
    · rename_i v cs hq
      injection hq with e1 e2
      subst e1; subst e2
      split at h
      · rename_i ws hws
        simp only [Option.some.injEq] at h
        subst h
        match vs, hl with
        | u :: vs, hl =>
          have h0 := hd 0 u _ rfl rfl
          have hu : u = v := by cases h0 with | d h0 => cases h0; rfl
          subst hu
          have hrec := litsOf_rep (vs := vs) hws (by simpa using hl) (fun i v x hv hx => hd (i + 1) v x (by simpa using hv) (by simpa using hx))
          rw [hrec]
      · cases h
    · cases h

theorem run_equal_bool {t : TypeId} (hu : P.underlying t = some .bool) (a b : Bool) : (Op.equal t (.bool a) (.bool b)).run P w = .ok (a == b) w := by
  have h : ∀ d, (Op.equalIn (d + 1) t (.bool a) (.bool b)).run P w = .ok (a == b) w := fun d => by simp [Op.equalIn, run_underlying hu]
  exact h 9999

theorem run_and (k : IntKind) (a b : Int) : (Op.intBits .and k a b).run P w = .ok (.int k (andInt k a b)) w := rfl

theorem bin_ok (hT : TypesOk P T) {op : BinOp} {t : TypeId} {u v : Value} {x y : SVal} (xo yo : Operand) (hx : SRep E w u x) (hy : SRep E w v y) {V : SVal → Prop} (hl : aBin T op t x y V) :
    ∃ r s, (do eqGuard op t xo yo u v; binOp op t u v : Sem Value).run P w = .ok r w ∧ SRep E w r s ∧ V s := by
  unfold aBin at hl
  split at hl
  · rename_i k a k' b
    have e1 := hx.lit_inv
    have e2 := hy.lit_inv
    subst e1; subst e2
    obtain ⟨rfl, hl⟩ := hl
    have hg : (eqGuard op t xo yo (.int k a) (.int k b)).run P w = .ok () w := by cases op <;> simp [eqGuard]
    by_cases hop : op = .and
    · subst hop
      simp only [aInt] at hl
      refine ⟨.int k (andInt k a b), _, ?_, .c (.d (.lit _ rfl)), hl⟩
      simp only [Sem.run_bind, hg, Result.andThen_ok, binOp, ne_eq, not_true_eq_false, if_false]
      exact run_and k a b
    cases op <;> simp only [aInt] at hl <;> first
      | exact absurd rfl hop
      | exact hl.elim
      | exact ⟨_, _, by simp [hg, binOp, Op.intArith, Op.intCmp], .c (.d (.lit _ rfl)), hl⟩
      | exact ⟨_, _, by simp [hg, binOp, Op.intDiv, hl.1], .c (.d (.lit _ rfl)), hl.2⟩
  · rename_i a b
    have e1 := hx.lit_inv
    have e2 := hy.lit_inv
    subst e1; subst e2
    have hg : (eqGuard op t xo yo (.string a) (.string b)).run P w = .ok () w := by cases op <;> simp [eqGuard]
    cases op <;> simp only [aStr] at hl <;> first
      | exact hl.elim
      | exact ⟨_, _, by simp [hg, binOp, Op.stringOp], .c (.d (.lit _ rfl)), hl⟩
      | (have hm : ¬ (((a.size + b.size : Nat) : Int) > IntKind.i64.max) := by
          have := hl.1
          simp only [maxLen] at this
          simp [IntKind.max, IntKind.bits]
          omega
         exact ⟨_, _, by simp only [Sem.run_bind, hg, Result.andThen_ok, binOp, Op.stringOp, if_neg hm, Sem.run_pure], .c (.d (.lit _ rfl)), hl.2⟩)
  · rename_i a b
    have e1 := hx.lit_inv
    have e2 := hy.lit_inv
    subst e1; subst e2
    split at hl
    · rename_i ht
      have hu : P.underlying t = some .bool := (hT t _ ht).desc
      have hg : (eqGuard op t xo yo (.bool a) (.bool b)).run P w = .ok () w := by cases op <;> simp [eqGuard]
      split at hl
      · exact ⟨_, _, by simp only [Sem.run_bind, hg, Result.andThen_ok, binOp, run_equal_bool hu, Sem.run_pure], .c (.d (.lit _ rfl)), hl⟩
      · exact ⟨_, _, by simp only [Sem.run_bind, hg, Result.andThen_ok, binOp, run_equal_bool hu, Sem.run_pure], .c (.d (.lit _ rfl)), hl⟩
      · exact hl.elim
    · exact hl.elim
  · rename_i xs ys
    split at hl
    · rename_i i us vs ht hus hvs
      obtain ⟨heq, h1, h2, hl⟩ := hl
      cases hx with | agg _ us' hl1 hd1 =>
      cases hy with | agg _ vs' hl2 hd2 =>
      have e1 := litsOf_rep hus hl1 hd1
      have e2 := litsOf_rep hvs hl2 hd2
      subst e1; subst e2
      have hq := (hT t i ht).eqv heq w xo yo us' vs' h1 h2
      split at hl
      · exact ⟨_, _, hq.1, .c (.d (.lit _ rfl)), hl⟩
      · exact ⟨_, _, hq.2, .c (.d (.lit _ rfl)), hl⟩
      · exact hl.elim
    · exact hl.elim
  · exact hl.elim

theorem un_ok {op : UnOp} {u : Value} {x : SVal} (hx : SRep E w u x) {V : SVal → Prop} (hl : aUn op x V) : ∃ r s, (Op.unary op u).run P w = .ok r w ∧ SRep E w r s ∧ V s := by
  unfold aUn at hl
  split at hl
  · have e1 := hx.lit_inv
    subst e1
    exact ⟨_, _, by simp [Op.unary], .c (.d (.lit _ rfl)), hl⟩
  · have e1 := hx.lit_inv
    subst e1
    exact ⟨_, _, by simp only [Op.unary, Op.intArith, Sem.run_pure], .c (.d (.lit _ rfl)), hl⟩
  · exact hl.elim

theorem TOk.under {t : TypeId} {i : TI} (h : TOk P t i) : ∃ d, P.underlying t = some d := by
  have hd := h.desc
  cases hi : i.desc <;> rw [hi] at hd <;> simp only [TDOk] at hd
  · exact ⟨_, hd⟩
  · exact ⟨_, hd⟩
  · exact ⟨_, hd⟩
  · obtain ⟨fs, hd, _⟩ := hd; exact ⟨_, hd⟩
  · exact ⟨_, hd⟩
  · exact ⟨_, hd⟩
  · obtain ⟨d, hd, _⟩ := hd; exact ⟨_, hd⟩

theorem conv_ok (hT : TypesOk P T) {s t : TypeId} {u : Value} {x : SVal} (hx : SRep E w u x) {V : SVal → Prop} (hl : aConv T s t x V) : ∃ r y, (convert s t u).run P w = .ok r w ∧ SRep E w r y ∧ V y := by
  unfold aConv at hl
  split at hl
  · rename_i k _ _ _ hs ht
    have hu : P.underlying t = some (.int k) := (hT t _ ht).desc
    obtain ⟨d, hd⟩ := (hT s _ hs).under
    have e1 := hx.lit_inv
    subst e1
    refine ⟨_, _, ?_, .c (.d (.lit _ rfl)), hl⟩
    simp only [convert, Sem.run_bind, run_underlying hd, Result.andThen_ok, run_underlying hu, Conv.intToInt, Sem.run_pure]
  · exact hl.elim

theorem capsOf_rep {σ : St} {ρ : Operand → Value} (hρ : ∀ x, SRep E w (ρ x) (σ.ev x)) : ∀ {xs : List Operand} {cs : List Cell}, capsOf σ xs = some cs →
    xs.length = cs.length ∧ ∀ (i : Nat) v c, (xs.map ρ)[i]? = some v → cs[i]? = some c → CRep E w v c
  | [], cs, h => by
    simp only [capsOf, Option.some.injEq] at h
    subst h
    exact ⟨rfl, by simp⟩
  | x :: xs, cs, h => by
    simp only [capsOf] at h
    split at h
    · rename_i c r hc hr
      simp only [Option.some.injEq] at h
      subst h
      obtain ⟨h1, h2⟩ := capsOf_rep hρ hr
      refine ⟨by simp [h1], fun i v d hv hd => ?_⟩
      cases i with
      | zero =>
        simp at hv hd
        subst hv; subst hd
        have := hρ x
        rw [hc] at this
        generalize ρ x = vx at this
        cases this with | c q => exact q
      | succ i => exact h2 i v d (by simpa using hv) (by simpa using hd)
    · cases h

theorem func_ok {σ : St} {ρ : Operand → Value} (hρ : ∀ x, SRep E w (ρ x) (σ.ev x)) {fn : Fn} {first captured : Array Operand} {V : SVal → Prop} (hl : aFunc σ fn first.toList captured.toList V) :
    ∃ r y, (Instr.makeFunc fn (first.map ρ) (captured.map ρ)).run P w = .ok r w ∧ SRep E w r y ∧ V y := by
  unfold aFunc at hl
  split at hl
  · rename_i f h1 h2
    have e1 : first = #[] := by simpa using h1
    have e2 : captured = #[] := by simpa using h2
    subst e1; subst e2
    exact ⟨_, _, by simp [Instr.makeFunc], .c (.d (.lit _ rfl)), hl⟩
  · rename_i f h1 _
    have e1 : first = #[] := by simpa using h1
    subst e1
    split at hl
    · rename_i cs hcs
      obtain ⟨q1, q2⟩ := capsOf_rep hρ hcs
      have hm : captured.map ρ = (captured.toList.map ρ).toArray := by apply Array.ext'; simp
      have hrun : (Instr.makeFunc (.func f) ((#[] : Array Operand).map ρ) (captured.map ρ)).run P w = .ok (.func (.func f) #[] (captured.toList.map ρ).toArray) w := by
        rw [hm]; simp only [Array.map_empty, Instr.makeFunc, Sem.run_pure]
      split at hl
      · rename_i ds hds
        have hdl := dats_len hds
        refine ⟨_, _, hrun, .c (.d (.clo f ds (captured.toList.map ρ) (by simp; simp at q1; omega) (fun i v x hv hx => ?_))), hl⟩
        exact dats_rep hds (fun y hy => q2 i v y hv hy) hx
      · exact ⟨_, _, hrun, .c (.clo f cs (captured.toList.map ρ) (by simpa using q1) q2), hl⟩
    · exact hl.elim
  · exact hl.elim

/-- Which function a value calls. -/
theorem callee_rep {u : Value} {x : SVal} (hx : SRep E w u x) {g : FuncId} {caps : List Cell} (h : calleeOf x = some (g, caps)) :
    ∃ vs : List Value, u = .func (.func g) #[] vs.toArray ∧ vs.length = caps.length ∧ ∀ (i : Nat) v c, vs[i]? = some v → caps[i]? = some c → CRep E w v c := by
  unfold calleeOf at h
  split at h
  · rename_i f first cs
    have e1 := hx.lit_inv
    subst e1
    split at h
    · rename_i hq
      simp at h
      obtain ⟨rfl, rfl⟩ := h
      obtain ⟨h1, h2⟩ := hq
      have e1 : first = #[] := by simpa using h1
      have e2 : cs = #[] := by simpa using h2
      subst e1; subst e2
      exact ⟨[], rfl, rfl, by simp⟩
    · cases h
  · rename_i f ds
    simp at h
    obtain ⟨rfl, rfl⟩ := h
    cases hx with | c hx => cases hx with | d hx => cases hx with | clo _ _ vs hl hd =>
    refine ⟨vs, rfl, by simpa using hl, fun i v c hv hc => ?_⟩
    rw [List.getElem?_map] at hc
    cases hq : ds[i]? with
    | none => rw [hq] at hc; cases hc
    | some y =>
      rw [hq] at hc
      simp at hc
      subst hc
      exact .d (hd i v y hv hq)
  · simp at h
    obtain ⟨rfl, rfl⟩ := h
    cases hx with | c hx => cases hx with | clo _ _ vs hl hd => exact ⟨vs, rfl, hl, hd⟩
  · cases h
end
end Go.Abs
end
end
