/-
  An abstract view of the machine's state: immutable data as trees, owned blocks as boxes and arrays, and what it means that a state of the machine is seen so. No program is named here.
-/
import Derived.WalkKit
section
namespace Go.Abs

abbrev Bo := @List.getElem?_eq_getElem
abbrev Cb := @List.mem_of_getElem?
abbrev BU := @List.getElem?_map
abbrev BM := @Bool.and_eq_true
abbrev BR := @List.length_map
abbrev CR := @List.length_append
abbrev Ag' := @List.map_append
abbrev Eg := @List.all_eq_true
abbrev Fm := @List.length_drop
abbrev HJ := @Nat.mul_le_mul_right
abbrev Fo := @List.getElem_mem
abbrev EY := @List.mem_append
abbrev Gm := @List.take_add_one
abbrev JF := @List.take_of_length_le
abbrev I0 := @List.mem_of_mem_take
abbrev Hc := @List.append_assoc
abbrev J5 := @List.getElem?_set_self
abbrev LZ := @Array.getElem?_eq_getElem
abbrev Gu := @List.length_take
abbrev J6 := @List.length_replicate
abbrev J7 := @List.getElem?_set_ne
abbrev Np := @List.getElem?_append_left
abbrev Ox := @Array.getElem?_eq_some_iff
abbrev Oy := @List.getElem?_append_right
abbrev FL := @List.mem_cons
abbrev LV := @Array.getElem?_toList
abbrev R7 := @Array.getElem?_setIfInBounds_ne
abbrev L0 := @List.mem_iff_getElem?
abbrev Ir := @List.take_length
abbrev QW := @List.getD_eq_getElem?_getD
abbrev Ke := @List.mem_singleton
abbrev LW := @List.pairwise_cons
abbrev HK := @Prod.mk.injEq
abbrev JG := @List.length_set
abbrev Gg := @Nat.add_mul
abbrev Mc := @List.getElem?_take
abbrev R8 := @Int.eq_ofNat_of_zero_le
abbrev Q1 := @List.length_filter_le
abbrev R9 := @List.drop_eq_nil_of_le
abbrev L1 := @List.mem_filter
abbrev aO := @Array.getElem?_setIfInBounds_self_of_lt
abbrev XP := @List.eq_nil_of_length_eq_zero
abbrev Tm := @List.length_singleton
abbrev Tn := @List.mem_of_mem_drop
abbrev LX := @Nat.le_trans
abbrev XQ := @List.pairwise_iff_getElem
abbrev Sa := @List.ext_getElem?
abbrev Kf := @Nat.one_mul
abbrev U2 := @Array.length_toList
abbrev Zy := @Array.getD_eq_getD_getElem?
abbrev To := @Int.toNat_natCast
abbrev Tp := @Bool.not_eq_true'
abbrev XL := @List.getElem?_eq_none
abbrev XM := @List.getElem?_toArray
abbrev Q2 := @Bool.eq_iff_iff
abbrev U3 := @Bool.not_eq_false'
abbrev XR := @List.length_eq_zero_iff
abbrev Zz := @Classical.byContradiction
abbrev U4 := @Option.getD_some
abbrev Tq := @Nat.succ_le_iff
abbrev aP := @List.mem_or_eq_of_mem_set
abbrev aQ := @List.drop_eq_getElem_cons
abbrev OB := @Nat.mul_comm
abbrev XS := @List.mem_append_left
abbrev Tr := @List.drop_drop
abbrev XN := @Go.heap_alloc_new
abbrev Md := @Nat.ble_eq
abbrev dA := @List.getElem?_eq_some_iff
abbrev Va := @Bool.or_eq_true
abbrev XT := @List.size_toArray
abbrev Sb := @List.map_set
abbrev Sc := @List.map_map
abbrev aR := @List.set_append_right
abbrev aT := @List.take_append_drop
abbrev ZA := @List.getElem?_drop
abbrev ZB := @Nat.eq_zero_or_pos
abbrev ZC := @List.filter_append
abbrev dB := @List.pairwise_singleton
abbrev aU := @List.getElem?_append
abbrev aV := @List.pairwise_append
abbrev aW := @List.mem_iff_getElem
abbrev Ts := @Nat.sub_self
abbrev ZD := @List.nodup_append
abbrev dO := @Array.mapM_eq_mapM_toList
abbrev Vb := @List.sum_cons
abbrev XU := @List.foldl_cons
abbrev XV := @List.cons.injEq
abbrev Q3 := @Array.ext'
abbrev Q4 := @Int.not_lt
abbrev ZE := @List.filter_cons
abbrev gb := @List.take_append_of_le_length
abbrev dC := @List.getElem?_mapIdx
abbrev XW := @Int.natAbs_mul
abbrev XX := @List.mem_range
abbrev Sd := @Nat.beq_eq
abbrev dD := @List.length_pos_iff
abbrev dE := @List.map_congr_left
abbrev aX := @List.drop_length
abbrev Tt := @Int.not_le
abbrev dP := @Nat.eq_of_beq_eq_true
abbrev dF := @Nat.lt_of_lt_of_le
abbrev dQ := @List.mem_append_right
abbrev dR := @List.singleton_append
abbrev ZF := @Nat.mul_le_mul
abbrev dS := @Nat.div_lt_of_lt_mul
abbrev dT := @List.mem_cons_of_mem
abbrev dG := @Array.getElem_mem
abbrev aY := @List.range_succ
abbrev aZ := @Option.some.inj
abbrev ZG := @Nat.add_assoc
abbrev gd := @List.getElem?_replicate
abbrev dU := @List.filter_eq_self
abbrev dV := @List.replicate_succ
abbrev dW := @List.mem_map_of_mem
abbrev dX := @List.filterMap_cons
abbrev dH := @Nat.mod_eq_of_lt
abbrev dI := @Nat.lt_succ_self
abbrev gf := @Option.map_eq_some_iff
abbrev gg := @List.reverse_singleton
abbrev gh := @List.getElem?_eraseIdx
abbrev ZH := @List.set_set
abbrev dJ := @List.all_append
abbrev dK := @List.nodup_cons
abbrev gi := @List.eraseIdx_sublist
abbrev gj := @Array.getElem?_modify
abbrev dY := @List.pairwise_map
abbrev dZ := @Bool.eq_false_iff
abbrev ed := @Nat.le_of_not_lt
abbrev ef := @List.mem_reverse
abbrev gk := @List.flatMap_append
abbrev gl := @List.reverse_append
abbrev gw := @Option.isSome_iff_exists
abbrev eg := @Nat.div_add_mod
abbrev gm := @Array.empty_append
abbrev gn := @List.prefix_append
abbrev ZI := @Nat.mod_lt
abbrev gp := @List.getElem?_set
abbrev ej := @List.mapM_cons
abbrev ep := @Int.mul_nonneg
end Go.Abs
end
section
namespace Go.Abs
open Go.RowKit
variable {iY i6 k n0 r : Nat} {iX t : TypeId} {u v : Value}
structure Bel (B : Nat) (w w' : World) : Prop where
 b : Below B w w'
 drawn : w.drawn ≤ w'.drawn
namespace Bel
variable {B B' : Nat} {a w w' sO : World}
theorem size (h : Bel B w w') : w.heap.size ≤ w'.heap.size := h.b.size
theorem block (h : Bel B w w') (k : Nat) (hk : k < B) : w'.heap[k]? = w.heap[k]? := h.b.block k hk
theorem refl (B : Nat) (w : World) : Bel B w w := ⟨Below.refl _ _, Nat.le_refl _⟩
theorem trans (h : Bel B w w') (k : Bel B w' sO) : Bel B w sO := ⟨h.b.trans k.b, LX h.drawn k.drawn⟩
theorem mono (h : Bel B w w') (hB : B' ≤ B) : Bel B' w w' := ⟨h.b.mono hB, h.drawn⟩
theorem drew (h : Bel B a w) : Bel B a w.drew := ⟨h.b.drew, LX h.drawn (Nat.le_succ _)⟩
theorem alloc (h : Bel B a w) (hB : B ≤ w.heap.size) (o : Obj) : Bel B a (w.alloc o) := ⟨h.b.alloc hB o, h.drawn⟩
theorem heap_alloc (w : World) (o : Obj) (k : Nat) (h : k < w.heap.size) : (w.alloc o).heap[k]? = w.heap[k]? := Below.heap_alloc w o k h
end Bel
inductive Dat where
 | any
 | lit (v : Value)
 | sl (es : List (List Dat))
 | clo (f : FuncId) (cap : List Dat)
 | ex (es : List (List Dat))
inductive Cell where
 | d (x : Dat)
 | emp
 | fp (e : List Dat) (o : Nat)
 | bp (r k o : Nat)
 | ap (r k i6 i o : Nat)
 | arr (r k n : Nat)
 | clo (f : FuncId) (cap : List Cell)
 | mp (r k : Nat)
 | it (r k : Nat)
 | ars (r k i6 i n : Nat)
inductive PV where
 | one (x : Dat)
 | agg (xs : List Dat)
inductive SVal where
 | c (x : Cell)
 | agg (xs : List Cell)
 | tup (xs : List SVal)
 | und
 | junk
inductive Blk where
 | box (k : Nat) (cs : List Cell)
 | arr (k : Nat) (iX : TypeId) (i6 : Nat) (es : List (List Dat))
 | arrc (k : Nat) (iX : TypeId) (i6 : Nat) (es : List (List Dat)) (b c : Nat)
 | map (k : Nat) (kt vt : TypeId) (es : List (Value × PV)) (bs : List Nat) (c : Nat)
 | iter (k r k' since : Nat) (sb : List Nat)
 | mapc (k : Nat) (kt vt : TypeId) (es : List (Value × Cell))
 | mapb (k : Nat) (kt vt : TypeId) (es : List (Value × Dat))
 | arrx (k : Nat) (iX : TypeId) (i6 : Nat) (es : List (List Cell))
 | hole (k : Nat)
 | dead
structure Env where
 F : Nat → Prop
 blk : Nat → Nat
 cap : Nat → Nat
 ver : Nat → Nat
 N : Nat → Prop := fun _ => False
inductive DRep (F : Nat → Prop) (w : World) : Value → Dat → Prop
 | any (v : Value) (h : v.oneCell' = true) : DRep F w v .any
 | lit (v : Value) (h : v.oneCell' = true) : DRep F w v (.lit v)
 | emp (a : Option Addr) (cap : Nat) : DRep F w (.slice a 0 cap) (.sl [])
 | sl (es : List (List Dat)) (b off cap size : Nat) (u : Nat → Nat → Value) (hF : F b) (jB : es.length ≤ cap) (jC : cap ≤ maxLen)
    (j3 : ∀ e, e ∈ es → e.length = size)
    (hc : ∀ i j, i < es.length → j < size → w.cell? ⟨b, off + i * size + j, none⟩ = some (u i j))
    (hd : ∀ (i j : Nat) e x, es[i]? = some e → e[j]? = some x → DRep F w (u i j) x) : DRep F w (.slice (some ⟨b, off, none⟩) es.length cap) (.sl es)
 | clo (f : FuncId) (cap : List Dat) (vs : List Value) (hl : vs.length = cap.length)
    (hd : ∀ (i : Nat) v x, vs[i]? = some v → cap[i]? = some x → DRep F w v x) : DRep F w (.func (.func f) #[] vs.toArray) (.clo f cap)
 | exn (a : Option Addr) : DRep F w (.slice a 0 0) (.ex [])
 | ex (es : List (List Dat)) (b off size : Nat) (u : Nat → Nat → Value) (hF : F b) (jC : es.length ≤ maxLen)
    (j3 : ∀ e, e ∈ es → e.length = size)
    (hc : ∀ i j, i < es.length → j < size → w.cell? ⟨b, off + i * size + j, none⟩ = some (u i j))
    (hd : ∀ (i j : Nat) e x, es[i]? = some e → e[j]? = some x → DRep F w (u i j) x) : DRep F w (.slice (some ⟨b, off, none⟩) es.length es.length) (.ex es)
inductive CRep (E : Env) (w : World) : Value → Cell → Prop
 | d {v : Value} {x : Dat} (h : DRep E.F w v x) : CRep E w v (.d x)
 | emp (a : Option Addr) : CRep E w (.slice a 0 0) .emp
 | fp (e : List Dat) (o b off : Nat) (u : Nat → Value) (hF : E.F b) (hc : ∀ j, j < e.length → w.cell? ⟨b, off + j, none⟩ = some (u j))
    (hd : ∀ (j : Nat) x, e[j]? = some x → DRep E.F w (u j) x) : CRep E w (.pointer (some ⟨b, off + o, none⟩)) (.fp e o)
 | bp (r k o : Nat) (v : Value) (h1 : v.oneCell' = true) (hk : k ≤ E.ver r) (h : E.ver r = k → v = .pointer (some ⟨E.blk r, o, none⟩)) : CRep E w v (.bp r k o)
 | ap (r k i6 i o : Nat) (v : Value) (h1 : v.oneCell' = true) (hk : k ≤ E.ver r)
    (h : E.ver r = k → v = .pointer (some ⟨E.blk r, i * i6 + o, none⟩)) : CRep E w v (.ap r k i6 i o)
 | arr (r k n : Nat) (v : Value) (h1 : v.oneCell' = true) (hk : k ≤ E.ver r)
    (h : E.ver r = k → (E.cap r = 0 ∧ n = 0 ∧ ∃ a, v = .slice a 0 0) ∨ (0 < E.cap r ∧ v = .slice (some ⟨E.blk r, 0, none⟩) n (E.cap r))) : CRep E w v (.arr r k n)
 | clo (f : FuncId) (cap : List Cell) (vs : List Value) (hl : vs.length = cap.length)
    (hd : ∀ (i : Nat) v x, vs[i]? = some v → cap[i]? = some x → CRep E w v x) : CRep E w (.func (.func f) #[] vs.toArray) (.clo f cap)
 | mp (r k : Nat) (v : Value) (h1 : v.oneCell' = true) (hk : k ≤ E.ver r) (h : E.ver r = k → v = .map (some (E.blk r))) : CRep E w v (.mp r k)
 | it (r k : Nat) (v : Value) (h1 : v.oneCell' = true) (hk : k ≤ E.ver r) (h : E.ver r = k → v = .pointer (some ⟨E.blk r, 0, none⟩)) : CRep E w v (.it r k)
 | ars (r k i6 i n : Nat) (v : Value) (h1 : v.oneCell' = true) (hk : k ≤ E.ver r)
    (h : E.ver r = k → i + n ≤ E.cap r ∧ ((i = E.cap r ∧ ∃ a, v = .slice a 0 0) ∨ (i < E.cap r ∧ v = .slice (some ⟨E.blk r, i * i6, none⟩) n (E.cap r - i)))) : CRep E w v (.ars r k i6 i n)
inductive SRep (E : Env) (w : World) : Value → SVal → Prop
 | c {v : Value} {x : Cell} (h : CRep E w v x) : SRep E w v (.c x)
 | agg (xs : List Cell) (vs : List Value) (hl : vs.length = xs.length)
    (hd : ∀ (i : Nat) v x, vs[i]? = some v → xs[i]? = some x → CRep E w v x) : SRep E w (.agg vs.toArray) (.agg xs)
 | tup (xs : List SVal) (vs : List Value) (hl : vs.length = xs.length)
    (hd : ∀ (i : Nat) v x, vs[i]? = some v → xs[i]? = some x → SRep E w v x) : SRep E w (.tuple vs.toArray) (.tup xs)
 | und : SRep E w undef .und
 | junk (v : Value) : SRep E w v .junk
theorem DRep.mono {F F' : Nat → Prop} {w w' : World} (hF : ∀ k, F k → F' k) (hw : ∀ k, F k → w'.heap[k]? = w.heap[k]?) {x : Dat} (h : DRep F w v x) : DRep F' w' v x := by
 induction h with
 | any v h => exact .any v h
 | lit v h => exact .lit v h
 | emp a cap => exact .emp a cap
 | sl es b off cap size u h1 jB jC j3 hc _ ih =>
   exact .sl es b off cap size u (hF _ h1) jB jC j3 (fun i j hi hj => by rw [World.cell?_of_block (w := w) (hw b h1)]; exact hc i j hi hj) ih
 | clo f cap vs hl _ ih => exact .clo f cap vs hl ih
 | exn a => exact .exn a
 | ex es b off size u h1 jC j3 hc _ ih =>
   exact .ex es b off size u (hF _ h1) jC j3 (fun i j hi hj => by rw [World.cell?_of_block (w := w) (hw b h1)]; exact hc i j hi hj) ih
structure EnvLe (E : Env) (w : World) (E' : Env) (w' : World) : Prop where
 F : ∀ k, E.F k → E'.F k
 mem : ∀ k, E.F k → w'.heap[k]? = w.heap[k]?
 ver : ∀ r, E.ver r ≤ E'.ver r
 same : ∀ r, E.ver r = E'.ver r → E'.blk r = E.blk r ∧ E'.cap r = E.cap r
 held : ∀ k, E.N k → E'.N k ∧ w'.heap[k]? = w.heap[k]?
theorem EnvLe.refl (E : Env) (w : World) : EnvLe E w E w := ⟨fun _ h => h, fun _ _ => rfl, fun _ => Nat.le_refl _, fun _ _ => ⟨rfl, rfl⟩, fun _ h => ⟨h, rfl⟩⟩
theorem EnvLe.trans {E E' wL : Env} {w w' sO : World} (h : EnvLe E w E' w') (k : EnvLe E' w' wL sO) : EnvLe E w wL sO := by
 refine ⟨fun i hi => k.F i (h.F i hi), fun i hi => (k.mem i (h.F i hi)).trans (h.mem i hi), fun r => LX (h.ver r) (k.ver r), fun r hr => ?_, fun i hi => ?_⟩
 rotate_left
 ·have h1 := h.held i hi
  have h2 := k.held i h1.1
  exact ⟨h2.1, h2.2.trans h1.2⟩
 have h1 := h.ver r
 have h2 := k.ver r
 have e1 := h.same r (by omega)
 have e2 := k.same r (by omega)
 exact ⟨e2.1.trans e1.1, e2.2.trans e1.2⟩
theorem DRep.le {E E' : Env} {w w' : World} (l : EnvLe E w E' w') {x : Dat} (h : DRep E.F w v x) : DRep E'.F w' v x := h.mono l.F l.mem
theorem CRep.le {E E' : Env} {w w' : World} (l : EnvLe E w E' w') {x : Cell} (h : CRep E w v x) : CRep E' w' v x := by
 induction h with
 | d h => exact .d (h.le l)
 | emp a => exact .emp a
 | fp e o b off u hF hc hd => exact .fp e o b off u (l.F _ hF) (fun j hj => by rw [World.cell?_of_block (w := w) (l.mem b hF)]; exact hc j hj) (fun j x hx => (hd j x hx).le l)
 | bp r k o v h1 hk h =>
   have := l.ver r
   refine .bp r k o v h1 (by omega) (fun e => ?_)
   rw [(l.same r (by omega)).1]
   exact h (by omega)
 | ap r k i6 i o v h1 hk h =>
   have := l.ver r
   refine .ap r k i6 i o v h1 (by omega) (fun e => ?_)
   rw [(l.same r (by omega)).1]
   exact h (by omega)
 | arr r k n v h1 hk h =>
   have := l.ver r
   refine .arr r k n v h1 (by omega) (fun e => ?_)
   rw [(l.same r (by omega)).1, (l.same r (by omega)).2]
   exact h (by omega)
 | clo f cap vs hl _ ih => exact .clo f cap vs hl ih
 | mp r k v h1 hk h =>
   have := l.ver r
   refine .mp r k v h1 (by omega) (fun e => ?_)
   rw [(l.same r (by omega)).1]
   exact h (by omega)
 | it r k v h1 hk h =>
   have := l.ver r
   refine .it r k v h1 (by omega) (fun e => ?_)
   rw [(l.same r (by omega)).1]
   exact h (by omega)
 | ars r k i6 i n v h1 hk h =>
   have := l.ver r
   refine .ars r k i6 i n v h1 (by omega) (fun e => ?_)
   rw [(l.same r (by omega)).1, (l.same r (by omega)).2]
   exact h (by omega)
theorem SRep.le {E E' : Env} {w w' : World} (l : EnvLe E w E' w') {x : SVal} (h : SRep E w v x) : SRep E' w' v x := by
 induction h with
 | c h => exact .c (h.le l)
 | agg xs vs hl hd => exact .agg xs vs hl (fun i v x hv hx => (hd i v x hv hx).le l)
 | tup xs vs hl _ ih => exact .tup xs vs hl ih
 | und => exact .und
 | junk v => exact .junk v
theorem DRep.one {F : Nat → Prop} {w : World} {x : Dat} (h : DRep F w v x) : v.oneCell' = true := by
 cases h <;> first | assumption | rfl
theorem CRep.one {E : Env} {w : World} {x : Cell} (h : CRep E w v x) : v.oneCell' = true := by
 cases h <;> first | exact DRep.one ‹_› | assumption | rfl
structure St where
 n : Nat
 slots : List (Nat × SVal)
 mem : List Blk
 clock : Nat
 defers : List (FuncId × List Cell)
def look : List (Nat × SVal) → Nat → SVal
 | [], _ => .junk
 | (s, v) :: l, t => match Nat.beq s t with
   | true => v
   | false => look l t
def St.get (σ : St) (t : Nat) : SVal := look σ.slots t
def St.put (σ : St) (t : Nat) (v : SVal) : St := { σ with slots := (t, v) :: σ.slots }
def St.putO (σ : St) (t : Option Tmp) (v : SVal) : St :=
 match t with
 | some d => σ.put d v
 | none => σ
def Is : Value → SVal
 | .slice none 0 0 => .c .emp
 | .agg _ => .junk
 | .tuple _ => .junk
 | v => .c (.d (.lit v))
def St.ev (σ : St) : Operand → SVal
 | .tmp t => σ.get t
 | .const v => Is v
 | .global _ => .junk
 | .func f => .c (.d (.lit (.func (.func f) #[] #[])))
def PVRep (F : Nat → Prop) (w : World) (v : Value) : PV → Prop
 | .one x => DRep F w v x
 | .agg xs => ∃ vs : List Value, v = .agg vs.toArray ∧ vs.length = xs.length ∧ ∀ (i : Nat) u x, vs[i]? = some u → xs[i]? = some x → DRep F w u x
theorem PVRep.le {E E' : Env} {w w' : World} (l : EnvLe E w E' w') {p : PV} (h : PVRep E.F w v p) : PVRep E'.F w' v p := by
 cases p with
 | one x => exact DRep.le l h
 | agg xs =>
   obtain ⟨vs, h1, h2, h3⟩ := h
   exact ⟨vs, h1, h2, fun i u x hu hx => (h3 i u x hu hx).le l⟩
def ArrOk (w0 : Nat) (E : Env) (w : World) (r k : Nat) (iX : TypeId) (i6 : Nat) (es : List (List Dat)) : Prop :=
 E.ver r = k ∧ 0 < i6 ∧ (∀ e, e ∈ es → e.length = i6) ∧ es.length ≤ E.cap r ∧ E.cap r ≤ maxLen ∧
  (E.cap r = 0 ∨ (w0 ≤ E.blk r ∧ ¬ (E.F (E.blk r) ∨ E.N (E.blk r)) ∧ ∃ c, w.heap[E.blk r]? = some (.cells c iX (0, 0)) ∧ c.size = E.cap r * i6 ∧ (∀ v ∈ c, v.oneCell' = true) ∧
    ∀ (i j : Nat) e v x, es[i]? = some e → e[j]? = some x → c[i * i6 + j]? = some v → DRep E.F w v x))
def MapOk (E : Env) (w : World) (es : List (Value × PV)) (bs : List Nat) (c : Nat) (A : Array MapEntry) : Prop :=
 A.size = es.length ∧ bs.length = es.length ∧ bs.Nodup ∧ (es.map Prod.fst).Nodup ∧ (∀ b ∈ bs, b < c) ∧ ∀ (i : Nat) m, A[i]? = some m → bs[i]? = some m.born ∧ ∃ p, es[i]? = some (m.key, p) ∧ PVRep E.F w m.val p
def ArxOk (w0 : Nat) (E : Env) (w : World) (r k : Nat) (iX : TypeId) (i6 : Nat) (es : List (List Cell)) : Prop :=
 E.ver r = k ∧ 0 < i6 ∧ (∀ e, e ∈ es → e.length = i6) ∧ es.length ≤ E.cap r ∧ E.cap r ≤ maxLen ∧
  (E.cap r = 0 ∨ (w0 ≤ E.blk r ∧ ¬ (E.F (E.blk r) ∨ E.N (E.blk r)) ∧ ∃ c, w.heap[E.blk r]? = some (.cells c iX (0, 0)) ∧ c.size = E.cap r * i6 ∧ (∀ v ∈ c, v.oneCell' = true) ∧
    ∀ (i j : Nat) e v x, es[i]? = some e → e[j]? = some x → c[i * i6 + j]? = some v → CRep E w v x))
def McOk (E : Env) (w : World) (es : List (Value × Cell)) (bs : List Nat) (c : Nat) (A : Array MapEntry) : Prop :=
 A.size = es.length ∧ bs.length = es.length ∧ bs.Nodup ∧ (es.map Prod.fst).Nodup ∧ (∀ b ∈ bs, b < c) ∧ ∀ (i : Nat) m, A[i]? = some m → bs[i]? = some m.born ∧ ∃ p, es[i]? = some (m.key, p) ∧ CRep E w m.val p
def BlkOk (w0 : Nat) (E : Env) (w : World) (r : Nat) : Blk → Prop
 | .dead => True
 | .box k cs => E.ver r = k ∧ w0 ≤ E.blk r ∧ ¬ (E.F (E.blk r) ∨ E.N (E.blk r)) ∧ ∃ c iX, w.heap[E.blk r]? = some (.cells c iX (0, 0)) ∧ c.size = cs.length ∧
    ∀ (j : Nat) v x, c[j]? = some v → cs[j]? = some x → CRep E w v x
 | .arr k iX i6 es => ArrOk w0 E w r k iX i6 es
 | .arrc k iX i6 es b c => ArrOk w0 E w r k iX i6 es ∧ E.cap r = c ∧ E.blk r = b
 | .map k _ _ es bs c => E.ver r = k ∧ w0 ≤ E.blk r ∧ ¬ (E.F (E.blk r) ∨ E.N (E.blk r)) ∧ ∃ A, w.heap[E.blk r]? = some (.map A c) ∧ MapOk E w es bs c A
 | .iter k r' k' since sb => E.ver r = k ∧ w0 ≤ E.blk r ∧ ¬ (E.F (E.blk r) ∨ E.N (E.blk r)) ∧ ∃ b, w.heap[E.blk r]? = some (.mapIter (some b) since sb.toArray since) ∧ k' ≤ E.ver r' ∧ (E.ver r' = k' → b = E.blk r')
 | .mapc k _ _ es => E.ver r = k ∧ w0 ≤ E.blk r ∧ ¬ (E.F (E.blk r) ∨ E.N (E.blk r)) ∧ ∃ A bs c, w.heap[E.blk r]? = some (.map A c) ∧ McOk E w es bs c A
 | .mapb k _ _ es => E.ver r = k ∧ w0 ≤ E.blk r ∧ ¬ (E.F (E.blk r) ∨ E.N (E.blk r)) ∧ ∃ A bs c, w.heap[E.blk r]? = some (.map A c) ∧ MapOk E w (es.map fun e => (e.1, PV.one e.2)) bs c A
 | .arrx k iX i6 es => ArxOk w0 E w r k iX i6 es
 | .hole k => E.ver r < k
def Blk.has (E : Env) (r : Nat) : Blk → Prop
 | .dead => False
 | .hole _ => False
 | .arr .. => E.cap r ≠ 0
 | .arrc .. => E.cap r ≠ 0
 | .arrx .. => E.cap r ≠ 0
 | _ => True
structure MemOk (w0 : Nat) (clock : Nat) (E : Env) (w : World) (mem : List Blk) : Prop where
 clock : ∀ r, E.ver r ≤ clock
 ok : ∀ (r : Nat) b, mem[r]? = some b → BlkOk w0 E w r b
 apart : ∀ (r r' : Nat) b b', mem[r]? = some b → mem[r']? = some b' → b.has E r → b'.has E r' → r ≠ r' → E.blk r ≠ E.blk r'
structure WOk (F0 : Nat → Prop) (w0 : World) (E : Env) (w : World) (mem : List Blk) (clock : Nat) : Prop where
 below : Bel w0.heap.size w0 w
 base : ∀ k, F0 k → E.F k
 F : ∀ k, E.F k → k < w.heap.size ∧ (F0 k ∨ w0.heap.size ≤ k)
 mem : MemOk w0.heap.size clock E w mem
 N : ∀ k, E.N k → k < w.heap.size ∧ ¬ E.F k
def DefersOk (E : Env) (w : World) (ds : List Deferred) (xs : List (FuncId × List Cell)) : Prop :=
 ds.length = xs.length ∧ ∀ (i : Nat) d x, ds[i]? = some d → xs[i]? = some x →
  ∃ vs : List Value, d = { target := .fn (.func x.1) vs.toArray, args := #[] } ∧ vs.length = x.2.length ∧ ∀ (j : Nat) v y, vs[j]? = some v → x.2[j]? = some y → CRep E w v y
def RelE (F0 : Nat → Prop) (w0 : World) (E : Env) (σ : St) (a : Act) (w : World) : Prop :=
 WOk F0 w0 E w σ.mem σ.clock ∧ a.tmps.size = σ.n ∧ DefersOk E w a.defers σ.defers ∧ ∀ t, SRep E w (a.tmps.getD t undef) (σ.get t)
structure Base where
 F0 : Nat → Prop
 w0 : World
 E : Env
 w : World
def Rel (B : Base) (σ : St) (a : Act) (w : World) : Prop := ∃ E, RelE B.F0 B.w0 E σ a w ∧ EnvLe B.E B.w E w
theorem DefersOk.le {E E' : Env} {w w' : World} (l : EnvLe E w E' w') {ds : List Deferred} {xs : List (FuncId × List Cell)} (h : DefersOk E w ds xs) : DefersOk E' w' ds xs := by
 refine ⟨h.1, fun i d x hd hx => ?_⟩
 obtain ⟨vs, h1, h2, h3⟩ := h.2 i d x hd hx
 exact ⟨vs, h1, h2, fun j v y hv hy => (h3 j v y hv hy).le l⟩
section
variable {F0 : Nat → Prop} {w0 : World} {E : Env} {σ : St} {a : Act} {w : World}
theorem RelE.ev (h : RelE F0 w0 E σ a w) (x : Operand) : SRep E w (a.eval x) (σ.ev x) := by
 cases x with
 | tmp t => exact h.2.2.2 t
 | const v =>
   simp only [St.ev, Act.eval]
   unfold Is
   split
   ·exact .c (.emp _)
   ·exact .junk _
   ·exact .junk _
   ·rename_i h1 h2 h3
    refine .c (.d (.lit v ?_))
    cases v <;> first | rfl | exact absurd rfl (h2 _) | exact absurd rfl (h3 _)
 | global g => exact .junk _
 | func f => exact .c (.d (.lit _ rfl))
theorem BB (l : List (Nat × SVal)) (t s : Nat) (v : SVal) : look ((t, v) :: l) s = if t = s then v else look l s := by
 simp only [look]
 cases h : Nat.beq t s with
 | true => rw [if_pos (dP h)]
 | false => rw [if_neg (Nat.ne_of_beq_eq_false h)]
theorem RelE.putE {E' : Env} {w' : World} {f' : List Blk} (h : RelE F0 w0 E σ a w) (l : EnvLe E w E' w') (hw : WOk F0 w0 E' w' f' iY) {d : Tmp} (hd : d < σ.n) {x : SVal} (hv : SRep E' w' v x) :
  RelE F0 w0 E' { σ.put d x with mem := f', clock := iY } (a.put (some d) v) w' := by
 refine ⟨hw, by simp [Act.put, h.2.1, St.put], h.2.2.1.le l, fun t => ?_⟩
 simp only [St.get, St.put, BB, Act.put]
 by_cases ht : d = t
 ·subst ht
  have : d < a.tmps.size := by rw [h.2.1]; exact hd
  simpa [this] using hv
 ·simp only [ht, if_false]
  have := (h.2.2.2 t).le l
  rw [show ((a.tmps.setIfInBounds d v).getD t undef) = a.tmps.getD t undef from by simp [R7 ht]]
  exact this
theorem RelE.keepE {E' : Env} {w' : World} {f' : List Blk} (h : RelE F0 w0 E σ a w) (l : EnvLe E w E' w') (hw : WOk F0 w0 E' w' f' iY) :
  RelE F0 w0 E' { σ with mem := f', clock := iY } a w' :=
 ⟨hw, h.2.1, h.2.2.1.le l, fun t => (h.2.2.2 t).le l⟩
theorem RelE.put (h : RelE F0 w0 E σ a w) {d : Tmp} (hd : d < σ.n) {x : SVal} (hv : SRep E w v x) : RelE F0 w0 E (σ.put d x) (a.put (some d) v) w :=
 h.putE (f' := σ.mem) (iY := σ.clock) (EnvLe.refl E w) h.1 hd hv
end
def Blk.live : Blk → Prop
 | .dead => False
 | _ => True
theorem ArrOk.le {E E' : Env} {w w' : World} {es : List (List Dat)} (h : ArrOk n0 E w r k iX i6 es) (l : EnvLe E w E' w') (jE : E'.ver r = E.ver r)
  (hh : E.cap r ≠ 0 → w'.heap[E.blk r]? = w.heap[E.blk r]?) (hF : E.cap r ≠ 0 → ¬ (E'.F (E.blk r) ∨ E'.N (E.blk r))) : ArrOk n0 E' w' r k iX i6 es := by
 obtain ⟨h1, h2, h3, h4, h5, h6⟩ := h
 have hs := l.same r jE.symm
 refine ⟨jE.trans h1, h2, h3, by rw [hs.2]; exact h4, by rw [hs.2]; exact h5, ?_⟩
 by_cases hz : E.cap r = 0
 ·exact .inl (by rw [hs.2]; exact hz)
 ·rcases h6 with h6 | ⟨a1, a2, c, a3, a4, a0, a5⟩
  · exact absurd h6 hz
  · refine .inr ⟨by rw [hs.1]; exact a1, by rw [hs.1]; exact hF hz, c, by rw [hs.1, hh hz]; exact a3, by rw [hs.2]; exact a4, a0, fun i j e v x q1 q2 q3 => (a5 i j e v x q1 q2 q3).le l⟩
theorem MapOk.le {E E' : Env} {w w' : World} {es : List (Value × PV)} {bs : List Nat} {c : Nat} {A : Array MapEntry} (h : MapOk E w es bs c A) (l : EnvLe E w E' w') : MapOk E' w' es bs c A := by
 obtain ⟨h1, h2, h3, h0, h4, h5⟩ := h
 refine ⟨h1, h2, h3, h0, h4, fun i m hm => ?_⟩
 obtain ⟨q1, p, q2, q3⟩ := h5 i m hm
 exact ⟨q1, p, q2, q3.le l⟩
theorem McOk.le {E E' : Env} {w w' : World} {es : List (Value × Cell)} {bs : List Nat} {c : Nat} {A : Array MapEntry} (h : McOk E w es bs c A) (l : EnvLe E w E' w') : McOk E' w' es bs c A := by
 obtain ⟨h1, h2, h3, h0, h4, h5⟩ := h
 refine ⟨h1, h2, h3, h0, h4, fun i m hm => ?_⟩
 obtain ⟨q1, p, q2, q3⟩ := h5 i m hm
 exact ⟨q1, p, q2, q3.le l⟩
theorem ArxOk.le {E E' : Env} {w w' : World} {es : List (List Cell)} (h : ArxOk n0 E w r k iX i6 es) (l : EnvLe E w E' w') (jE : E'.ver r = E.ver r)
  (hh : E.cap r ≠ 0 → w'.heap[E.blk r]? = w.heap[E.blk r]?) (hF : E.cap r ≠ 0 → ¬ (E'.F (E.blk r) ∨ E'.N (E.blk r))) : ArxOk n0 E' w' r k iX i6 es := by
 obtain ⟨h1, h2, h3, h4, h5, h6⟩ := h
 have hs := l.same r jE.symm
 refine ⟨jE.trans h1, h2, h3, by rw [hs.2]; exact h4, by rw [hs.2]; exact h5, ?_⟩
 by_cases hz : E.cap r = 0
 ·exact .inl (by rw [hs.2]; exact hz)
 ·rcases h6 with h6 | ⟨a1, a2, c, a3, a4, a0, a5⟩
  · exact absurd h6 hz
  · refine .inr ⟨by rw [hs.1]; exact a1, by rw [hs.1]; exact hF hz, c, by rw [hs.1, hh hz]; exact a3, by rw [hs.2]; exact a4, a0, fun i j e v x q1 q2 q3 => (a5 i j e v x q1 q2 q3).le l⟩
theorem BlkOk.le {E E' : Env} {w w' : World} {b : Blk} (h : BlkOk n0 E w r b) (l : EnvLe E w E' w') (hv : b.live → E'.ver r = E.ver r)
   (hh : b.has E r → w'.heap[E.blk r]? = w.heap[E.blk r]?) (hF : b.has E r → ¬ (E'.F (E.blk r) ∨ E'.N (E.blk r))) : BlkOk n0 E' w' r b := by
 cases b with
 | dead => trivial
 | box k cs =>
   obtain ⟨h1, h2, h3, c, iX, h4, h5, h6⟩ := h
   have jE := hv trivial
   have hs := l.same r jE.symm
   refine ⟨jE.trans h1, by rw [hs.1]; exact h2, by rw [hs.1]; exact hF trivial, c, iX, by rw [hs.1, hh trivial]; exact h4, h5, fun j v x a b => (h6 j v x a b).le l⟩
 | arr k iX i6 es => exact ArrOk.le h l (hv trivial) hh hF
 | arrc k iX i6 es b c => exact ⟨ArrOk.le h.1 l (hv trivial) hh hF, ((l.same r (hv trivial).symm).2).trans h.2.1, ((l.same r (hv trivial).symm).1).trans h.2.2⟩
 | map k kt vt es bs c =>
   obtain ⟨h1, h2, h3, A, h4, h5⟩ := h
   have jE := hv trivial
   have hs := l.same r jE.symm
   exact ⟨jE.trans h1, by rw [hs.1]; exact h2, by rw [hs.1]; exact hF trivial, A, by rw [hs.1, hh trivial]; exact h4, h5.le l⟩
 | iter k r' k' since sb =>
   obtain ⟨h1, h2, h3, b, h4, h5, h6⟩ := h
   have jE := hv trivial
   have hs := l.same r jE.symm
   have := l.ver r'
   exact ⟨jE.trans h1, by rw [hs.1]; exact h2, by rw [hs.1]; exact hF trivial, b, by rw [hs.1, hh trivial]; exact h4, by omega, fun e => by rw [(l.same r' (by omega)).1]; exact h6 (by omega)⟩
 | mapc k kt vt es =>
   obtain ⟨h1, h2, h3, A, bs, c, h4, h5⟩ := h
   have jE := hv trivial
   have hs := l.same r jE.symm
   exact ⟨jE.trans h1, by rw [hs.1]; exact h2, by rw [hs.1]; exact hF trivial, A, bs, c, by rw [hs.1, hh trivial]; exact h4, h5.le l⟩
 | mapb k kt vt es =>
   obtain ⟨h1, h2, h3, A, bs, c, h4, h5⟩ := h
   have jE := hv trivial
   have hs := l.same r jE.symm
   exact ⟨jE.trans h1, by rw [hs.1]; exact h2, by rw [hs.1]; exact hF trivial, A, bs, c, by rw [hs.1, hh trivial]; exact h4, h5.le l⟩
 | arrx k iX i6 es => exact ArxOk.le h l (hv trivial) hh hF
 | hole k =>
   have hq := hv trivial
   show E'.ver r < k
   rw [hq]; exact h
theorem ArrOk.lt {E : Env} {w : World} {es : List (List Dat)} (h : ArrOk n0 E w r k iX i6 es) (hb : E.cap r ≠ 0) : E.blk r < w.heap.size ∧ n0 ≤ E.blk r ∧ ¬ (E.F (E.blk r) ∨ E.N (E.blk r)) := by
 obtain ⟨h1, h2, h3, h4, h5, h6⟩ := h
 rcases h6 with h6 | ⟨a1, a2, c, a3, a4, a5⟩
 ·exact absurd h6 hb
 ·exact ⟨(Ox.1 a3).1, a1, a2⟩
theorem ArxOk.lt {E : Env} {w : World} {es : List (List Cell)} (h : ArxOk n0 E w r k iX i6 es) (hb : E.cap r ≠ 0) : E.blk r < w.heap.size ∧ n0 ≤ E.blk r ∧ ¬ (E.F (E.blk r) ∨ E.N (E.blk r)) := by
 obtain ⟨h1, h2, h3, h4, h5, h6⟩ := h
 rcases h6 with h6 | ⟨a1, a2, c, a3, a4, a5⟩
 ·exact absurd h6 hb
 ·exact ⟨(Ox.1 a3).1, a1, a2⟩
theorem BlkOk.lt {E : Env} {w : World} {b : Blk} (h : BlkOk n0 E w r b) (hb : b.has E r) : E.blk r < w.heap.size ∧ n0 ≤ E.blk r ∧ ¬ (E.F (E.blk r) ∨ E.N (E.blk r)) := by
 cases b with
 | dead => exact hb.elim
 | box k cs =>
   obtain ⟨h1, h2, h3, c, iX, h4, h5, h6⟩ := h
   exact ⟨(Ox.1 h4).1, h2, h3⟩
 | arr k iX i6 es => exact ArrOk.lt h hb
 | arrc k iX i6 es b c => exact ArrOk.lt h.1 hb
 | map k kt vt es bs c =>
   obtain ⟨h1, h2, h3, A, h4, h5⟩ := h
   exact ⟨(Ox.1 h4).1, h2, h3⟩
 | iter k r' k' since sb =>
   obtain ⟨h1, h2, h3, b, h4, h5, h6⟩ := h
   exact ⟨(Ox.1 h4).1, h2, h3⟩
 | mapc k kt vt es =>
   obtain ⟨h1, h2, h3, A, bs, c, h4, h5⟩ := h
   exact ⟨(Ox.1 h4).1, h2, h3⟩
 | mapb k kt vt es =>
   obtain ⟨h1, h2, h3, A, bs, c, h4, h5⟩ := h
   exact ⟨(Ox.1 h4).1, h2, h3⟩
 | arrx k iX i6 es => exact ArxOk.lt h hb
 | hole k => exact hb.elim
theorem Blk.has.live {E : Env} {b : Blk} (h : b.has E r) : b.live := by
 cases b <;> first | exact h.elim | trivial
def Blk.vers : Blk → Option Nat
 | .dead => none
 | .hole _ => none
 | .box k _ => some k
 | .arr k _ _ _ => some k
 | .arrc k _ _ _ _ _ => some k
 | .map k _ _ _ _ _ => some k
 | .iter k _ _ _ _ => some k
 | .mapc k _ _ _ => some k
 | .mapb k _ _ _ => some k
 | .arrx k _ _ _ => some k
theorem BlkOk.vers {E : Env} {w : World} {b : Blk} (h : BlkOk n0 E w r b) (hk : b.vers = some k) : E.ver r = k := by
 cases b with
 | dead => cases hk
 | box k cs => cases hk; exact h.1
 | arr k iX i6 es => cases hk; exact h.1
 | arrc k iX i6 es b c => cases hk; exact h.1.1
 | map k kt vt es bs c => cases hk; exact h.1
 | iter k r' k' since sb => cases hk; exact h.1
 | mapc k kt vt es => cases hk; exact h.1
 | mapb k kt vt es => cases hk; exact h.1
 | arrx k iX i6 es => cases hk; exact h.1
 | hole k => cases hk
theorem Blk.has_of {E E' : Env} {b : Blk} (hc : E'.cap r = E.cap r) (h : b.has E' r) : b.has E r := by
 cases b <;> first | exact h | (simp only [Blk.has] at h ⊢; rw [← hc]; exact h)
def Env.upd (E : Env) (r b c k : Nat) : Env :=
 { F := E.F, blk := fun s => if s = r then b else E.blk s, cap := fun s => if s = r then c else E.cap s, ver := fun s => if s = r then k else E.ver s, N := E.N }
theorem Env.upd_le {E : Env} {w w' : World} (r b c k : Nat) (hk : E.ver r < k) (hm : ∀ i, E.F i ∨ E.N i → w'.heap[i]? = w.heap[i]?) : EnvLe E w (E.upd r b c k) w' := by
 refine ⟨fun _ h => h, fun i h => hm i (.inl h), fun s => ?_, fun s hs => ?_, fun i h => ⟨h, hm i (.inr h)⟩⟩
 ·by_cases h : s = r
  ·subst h; simp [Env.upd]; omega
  ·simp [Env.upd, h]
 ·by_cases h : s = r
  ·subst h; simp [Env.upd] at hs; omega
  ·simp [Env.upd, h]
section
variable {F0 : Nat → Prop} {w0 w : World} {E : Env} {mem : List Blk} {clock : Nat}
theorem getElem?_snoc {α : Type} {l : List α} {x y : α} {i : Nat} (h : (l ++ [x])[i]? = some y) : l[i]? = some y ∨ (i = l.length ∧ y = x) := by
 rw [aU] at h
 split at h
 ·exact .inl h
 ·rename_i hi
  cases hn : i - l.length with
  | zero => rw [hn] at h; simp at h; exact .inr ⟨by omega, h.symm⟩
  | succ m => rw [hn] at h; simp at h
theorem lt_of_getElem? {α : Type} {l : List α} {x : α} {i : Nat} (h : l[i]? = some x) : i < l.length := by
 rcases Nat.lt_or_ge i l.length with h' | h'
 ·exact h'
 ·rw [XL h'] at h; cases h
theorem MemOk.turnV {w' : World} (h : MemOk n0 clock E w mem) (r b c k : Nat) (nb : Blk) (f' : List Blk) (qy : E.ver r < k) (nB : clock ≤ iY) (hk : k ≤ iY)
  (hm : ∀ s x, f'[s]? = some x → (s = r ∧ x = nb) ∨ (s ≠ r ∧ mem[s]? = some x))
  (jT : ∀ i, i < w.heap.size → i ≠ b → w'.heap[i]? = w.heap[i]?)
  (hb : ∀ s x, s ≠ r → mem[s]? = some x → x.has E s → E.blk s ≠ b)
  (mB : ¬ (E.F b ∨ E.N b)) (hF : ∀ i, E.F i ∨ E.N i → i < w.heap.size) (jV : BlkOk n0 (E.upd r b c k) w' r nb) : MemOk n0 iY (E.upd r b c k) w' f' := by
 have hle : EnvLe E w (E.upd r b c k) w' := Env.upd_le r b c k (by omega) (fun i hi => jT i (hF i hi) (fun e => mB (e ▸ hi)))
 refine ⟨fun s => ?_, fun s x hx => ?_, fun s s' x x' hx kL h1 h2 j2 => ?_⟩
 ·by_cases e : s = r
  · subst e; simp [Env.upd]; omega
  · have := h.clock s; simp [Env.upd, e]; omega
 ·rcases hm s x hx with ⟨rfl, rfl⟩ | ⟨e, jj⟩
  · exact jV
  · have ho := h.ok s x jj
    refine ho.le hle (fun _ => by simp [Env.upd, e]) (fun hh => ?_) (fun hh => (ho.lt hh).2.2)
    exact jT _ (ho.lt hh).1 (hb s x e jj hh)
 ·rcases hm s x hx with ⟨rfl, rfl⟩ | ⟨e, jj⟩
  · rcases hm s' x' kL with ⟨rfl, rfl⟩ | ⟨e', jW⟩
    ·exact absurd rfl j2
    ·have uL : x'.has E s' := Blk.has_of (by simp [Env.upd, e']) h2
     have := hb s' x' e' jW uL
     simpa [Env.upd, e'] using fun q => this q.symm
  · have hh : x.has E s := Blk.has_of (by simp [Env.upd, e]) h1
    rcases hm s' x' kL with ⟨rfl, rfl⟩ | ⟨e', jW⟩
    ·have := hb s x e jj hh
     simpa [Env.upd, e] using this
    ·have uL : x'.has E s' := Blk.has_of (by simp [Env.upd, e']) h2
     have := h.apart s s' x x' jj jW hh uL j2
     simpa [Env.upd, e, e'] using this
theorem WOk.FN (h : WOk F0 w0 E w mem clock) (i : Nat) (hi : E.F i ∨ E.N i) : i < w.heap.size := by
 rcases hi with hi | hi
 ·exact (h.F i hi).1
 ·exact (h.N i hi).1
theorem WOk.turnV {w' : World} (h : WOk F0 w0 E w mem clock) (r b c k : Nat) (nb : Blk) (f' : List Blk) (qy : E.ver r < k) (nB : clock ≤ iY) (hk : k ≤ iY)
  (hm : ∀ s x, f'[s]? = some x → (s = r ∧ x = nb) ∨ (s ≠ r ∧ mem[s]? = some x))
  (jO : Bel w0.heap.size w w') (jT : ∀ i, i < w.heap.size → i ≠ b → w'.heap[i]? = w.heap[i]?)
  (hb : ∀ s x, s ≠ r → mem[s]? = some x → x.has E s → E.blk s ≠ b)
  (mB : ¬ (E.F b ∨ E.N b)) (jV : BlkOk w0.heap.size (E.upd r b c k) w' r nb) : WOk F0 w0 (E.upd r b c k) w' f' iY ∧ EnvLe E w (E.upd r b c k) w' := by
 refine ⟨⟨h.below.trans jO, h.base, fun i hi => ?_, h.mem.turnV r b c k nb f' qy nB hk hm jT hb mB h.FN jV, fun i hi => ⟨dF (h.N i hi).1 jO.size, (h.N i hi).2⟩⟩, Env.upd_le r b c k (by omega) (fun i hi => jT i (h.FN i hi) (fun e => mB (e ▸ hi)))⟩
 have := h.F i hi
 exact ⟨dF this.1 jO.size, this.2⟩
theorem WOk.turn {w' : World} (h : WOk F0 w0 E w mem clock) (r b c k : Nat) (nb : Blk) (f' : List Blk) (nB : clock < k) (hk : k ≤ iY)
  (hm : ∀ s x, f'[s]? = some x → (s = r ∧ x = nb) ∨ (s ≠ r ∧ mem[s]? = some x))
  (jO : Bel w0.heap.size w w') (jT : ∀ i, i < w.heap.size → i ≠ b → w'.heap[i]? = w.heap[i]?)
  (hb : ∀ s x, s ≠ r → mem[s]? = some x → x.has E s → E.blk s ≠ b)
  (mB : ¬ (E.F b ∨ E.N b)) (jV : BlkOk w0.heap.size (E.upd r b c k) w' r nb) : WOk F0 w0 (E.upd r b c k) w' f' iY ∧ EnvLe E w (E.upd r b c k) w' :=
 h.turnV r b c k nb f' (by have := h.mem.clock r; omega) (by omega) hk hm jO jT hb mB jV
theorem WOk.fresh (h : WOk F0 w0 E w mem clock) : ¬ (E.F w.heap.size ∨ E.N w.heap.size) ∧ ∀ s x, mem[s]? = some x → x.has E s → E.blk s ≠ w.heap.size := by
 refine ⟨fun hf => by have := h.FN _ hf; omega, fun s x hx hh e => ?_⟩
 have := ((h.mem.ok s x hx).lt hh).1
 omega
theorem WOk.le0 (h : WOk F0 w0 E w mem clock) : w0.heap.size ≤ w.heap.size := h.below.size
theorem Hd (mem : List Blk) (nb : Blk) : ∀ s x, (mem ++ [nb])[s]? = some x → (s = mem.length ∧ x = nb) ∨ (s ≠ mem.length ∧ mem[s]? = some x) := by
 intro s x hx
 rcases getElem?_snoc hx with h | ⟨h1, h2⟩
 ·have := lt_of_getElem? h
  exact .inr ⟨by omega, h⟩
 ·exact .inl ⟨h1, h2⟩
theorem Bj {mem : List Blk} (r : Nat) (nb : Blk) : ∀ s x, (mem.set r nb)[s]? = some x → (s = r ∧ x = nb) ∨ (s ≠ r ∧ mem[s]? = some x) := by
 intro s x hx
 by_cases e : r = s
 ·subst e
  rw [List.getElem?_set_self' ] at hx
  cases hm : mem[r]? with
  | none => rw [hm] at hx; simp at hx
  | some y => rw [hm] at hx; simp at hx; exact .inl ⟨rfl, hx.symm⟩
 ·rw [J7 e] at hx
  exact .inr ⟨fun q => e q.symm, hx⟩
theorem WOk.allocBox (h : WOk F0 w0 E w mem clock) (c : Array Value) (iX : TypeId) (cs : List Cell) (hl : c.size = cs.length)
  (hc : ∀ (j : Nat) v x, c[j]? = some v → cs[j]? = some x → CRep E w v x) :
  let E' := E.upd mem.length w.heap.size 0 (clock + 1)
  WOk F0 w0 E' (w.alloc (.cells c iX)) (mem ++ [.box (clock + 1) cs]) (clock + 1) ∧ EnvLe E w E' (w.alloc (.cells c iX)) := by
 intro E'
 have hf := h.fresh
 have hle : EnvLe E w E' (w.alloc (.cells c iX)) := Env.upd_le _ _ _ _ (by have := h.mem.clock mem.length; omega) (fun i hi => Bel.heap_alloc w _ i (h.FN i hi))
 refine h.turn _ _ _ _ _ _ (by omega) (Nat.le_refl _) (Hd mem _) ((Bel.refl _ w).alloc h.le0 _) (fun i hi _ => Bel.heap_alloc w _ i hi) (fun s x _ hx hh => hf.2 s x hx hh) hf.1 ?_
 refine ⟨by simp [Env.upd], by simp [Env.upd]; exact h.le0, by simp only [Env.upd, if_true]; exact hf.1, c, iX, by simp only [Env.upd, if_true]; exact XN w _, hl, fun j v x a b => (hc j v x a b).le hle⟩
theorem WOk.newArr {w' : World} (h : WOk F0 w0 E w mem clock) (iX : TypeId) (i6 cap : Nat) (es : List (List Dat)) (oO : 0 < i6) (j6 : ∀ e, e ∈ es → e.length = i6) (jB : es.length ≤ cap) (jC : cap ≤ maxLen)
  (jO : Bel w0.heap.size w w') (hold : ∀ i, i < w.heap.size → w'.heap[i]? = w.heap[i]?)
  (hc : cap = 0 ∨ ∃ c, w'.heap[w.heap.size]? = some (.cells c iX (0, 0)) ∧ c.size = cap * i6 ∧ (∀ v ∈ c, v.oneCell' = true) ∧ ∀ (i j : Nat) e v x, es[i]? = some e → e[j]? = some x → c[i * i6 + j]? = some v → DRep E.F w v x) :
  let E' := E.upd mem.length w.heap.size cap (clock + 1)
  WOk F0 w0 E' w' (mem ++ [.arr (clock + 1) iX i6 es]) (clock + 1) ∧ EnvLe E w E' w' := by
 intro E'
 have hf := h.fresh
 have hle : EnvLe E w E' w' := Env.upd_le _ _ _ _ (by have := h.mem.clock mem.length; omega) (fun i hi => hold i (h.FN i hi))
 refine h.turn _ _ _ _ _ _ (by omega) (Nat.le_refl _) (Hd mem _) jO (fun i hi _ => hold i hi) (fun s x _ hx hh => hf.2 s x hx hh) hf.1 ?_
 refine ⟨by simp [Env.upd], oO, j6, by simpa [Env.upd] using jB, by simpa [Env.upd] using jC, ?_⟩
 rcases hc with hc | ⟨c, h1, h2, h0, h3⟩
 ·exact .inl (by simp [Env.upd, hc])
 ·refine .inr ⟨by simp [Env.upd]; exact h.le0, by simp only [Env.upd, if_true]; exact hf.1, c, by simp only [Env.upd, if_true]; exact h1, by simpa [Env.upd] using h2, h0, fun i j e v x a b d => (h3 i j e v x a b d).le hle⟩
theorem WOk.growArr {w' : World} (h : WOk F0 w0 E w mem clock) (r k kn : Nat) (tW : E.ver r < kn) (jz : clock ≤ iY) (lQ : kn ≤ iY) (iX : TypeId) (i6 : Nat) (uM : List (List Dat)) (hr : mem[r]? = some (.arr k iX i6 uM))
  (b cap : Nat) (es : List (List Dat)) (j6 : ∀ e, e ∈ es → e.length = i6) (jB : es.length ≤ cap) (jC : cap ≤ maxLen)
  (hb : b = w.heap.size ∨ (b = E.blk r ∧ E.cap r ≠ 0))
  (jO : Bel w0.heap.size w w') (hold : ∀ i, i < w.heap.size → i ≠ b → w'.heap[i]? = w.heap[i]?)
  (hc : cap = 0 ∨ ∃ c, w'.heap[b]? = some (.cells c iX (0, 0)) ∧ c.size = cap * i6 ∧ (∀ v ∈ c, v.oneCell' = true) ∧ ∀ (i j : Nat) e v x, es[i]? = some e → e[j]? = some x → c[i * i6 + j]? = some v → DRep E.F w v x) :
  let E' := E.upd r b cap kn
  WOk F0 w0 E' w' (mem.set r (.arr kn iX i6 es)) iY ∧ EnvLe E w E' w' := by
 intro E'
 have hf := h.fresh
 have ho := h.mem.ok r _ hr
 have mB : ¬ (E.F b ∨ E.N b) ∧ w0.heap.size ≤ b := by
  rcases hb with rfl | ⟨rfl, hz⟩
  · exact ⟨hf.1, h.le0⟩
  · have := ho.lt (show Blk.has E r _ from hz); exact ⟨this.2.2, this.2.1⟩
 have nC : ∀ s x, s ≠ r → mem[s]? = some x → x.has E s → E.blk s ≠ b := by
  intro s x hs hx hh
  rcases hb with rfl | ⟨rfl, hz⟩
  · exact hf.2 s x hx hh
  · exact h.mem.apart s r x _ hx hr hh hz hs
 have hle : EnvLe E w E' w' := Env.upd_le _ _ _ _ tW (fun i hi => hold i (h.FN i hi) (fun e => mB.1 (e ▸ hi)))
 refine h.turnV _ _ _ _ _ _ tW jz lQ (Bj r _) jO hold nC mB.1 ?_
 refine ⟨by simp [Env.upd], ho.2.1, j6, by simpa [Env.upd] using jB, by simpa [Env.upd] using jC, ?_⟩
 rcases hc with hc | ⟨c, h1, h2, h0, h3⟩
 ·exact .inl (by simp [Env.upd, hc])
 ·refine .inr ⟨by simp [Env.upd]; exact mB.2, by simp only [Env.upd, if_true]; exact mB.1, c, by simp only [Env.upd, if_true]; exact h1, by simpa [Env.upd] using h2, h0, fun i j e v x a b d => (h3 i j e v x a b d).le hle⟩
theorem WOk.later {w' : World} (h : WOk F0 w0 E w mem clock) (hb : Bel w.heap.size w w') (G : Nat → Prop) (hG : ∀ k, G k → w.heap.size ≤ k ∧ k < w'.heap.size) :
  let E' : Env := { E with F := fun k => E.F k ∨ G k }
  WOk F0 w0 E' w' mem clock ∧ EnvLe E w E' w' := by
 intro E'
 have hle : EnvLe E w E' w' := ⟨fun _ hk => .inl hk, fun k hk => hb.block k (h.F k hk).1, fun _ => Nat.le_refl _, fun _ _ => ⟨rfl, rfl⟩, fun k hk => ⟨hk, hb.block k (h.N k hk).1⟩⟩
 refine ⟨⟨h.below.trans (hb.mono h.le0), fun k hk => .inl (h.base k hk), fun k hk => ?_, ⟨h.mem.clock, fun r x hx => ?_, fun r r' x x' hx kL h1 h2 j2 => ?_⟩, fun k hk => ⟨dF (h.N k hk).1 hb.size, ?_⟩⟩, hle⟩
 ·rcases hk with hk | hk
  ·have := h.F k hk; exact ⟨dF this.1 hb.size, this.2⟩
  ·have := hG k hk; have := h.le0; exact ⟨by omega, .inr (by omega)⟩
 ·have ho := h.mem.ok r x hx
  refine ho.le hle (fun _ => rfl) (fun hh => hb.block _ (ho.lt hh).1) (fun hh => ?_)
  rintro ((hk | hk) | hk)
  ·exact (ho.lt hh).2.2 (.inl hk)
  ·have := hG _ hk; have := (ho.lt hh).1; omega
  ·exact (ho.lt hh).2.2 (.inr hk)
 ·refine h.mem.apart r r' x x' hx kL ?_ ?_ j2
  ·cases x <;> exact h1
  ·cases x' <;> exact h2
 ·rintro (h1 | h1)
  ·exact (h.N k hk).2 h1
  ·have := hG k h1; have := (h.N k hk).1; omega
theorem WOk.freeze (h : WOk F0 w0 E w mem clock) (r k : Nat) (iX : TypeId) (i6 : Nat) (es : List (List Dat)) (hr : mem[r]? = some (.arr k iX i6 es)) :
  let E' : Env := { E with F := fun i => E.F i ∨ (i = E.blk r ∧ E.cap r ≠ 0) }
  WOk F0 w0 E' w (mem.set r .dead) clock ∧ EnvLe E w E' w := by
 intro E'
 have ho := h.mem.ok r _ hr
 have hle : EnvLe E w E' w := ⟨fun _ hk => .inl hk, fun k hk => rfl, fun _ => Nat.le_refl _, fun _ _ => ⟨rfl, rfl⟩, fun _ hk => ⟨hk, rfl⟩⟩
 refine ⟨⟨h.below, fun k hk => .inl (h.base k hk), fun i hi => ?_, ⟨h.mem.clock, fun s x hx => ?_, fun s s' x x' hx kL h1 h2 j2 => ?_⟩, fun k hk => ⟨(h.N k hk).1, ?_⟩⟩, hle⟩
 ·rcases hi with hi | ⟨rfl, hz⟩
  ·exact h.F i hi
  ·have := ho.lt (show Blk.has E r _ from hz)
   exact ⟨this.1, .inr this.2.1⟩
 ·rcases Bj r _ s x hx with ⟨rfl, rfl⟩ | ⟨e, jj⟩
  ·trivial
  ·have mX := h.mem.ok s x jj
   refine mX.le hle (fun _ => rfl) (fun _ => rfl) (fun hh => ?_)
   rintro ((hk | ⟨hk, hz⟩) | hk)
   ·exact (mX.lt hh).2.2 (.inl hk)
   ·exact h.mem.apart s r x _ jj hr hh (show Blk.has E r _ from hz) e hk
   ·exact (mX.lt hh).2.2 (.inr hk)
 ·rcases Bj r _ s x hx with ⟨rfl, rfl⟩ | ⟨e, jj⟩
  ·exact h1.elim
  ·rcases Bj r _ s' x' kL with ⟨rfl, rfl⟩ | ⟨e', jW⟩
   ·exact h2.elim
   ·refine h.mem.apart s s' x x' jj jW ?_ ?_ j2
    ·cases x <;> exact h1
    ·cases x' <;> exact h2
 ·rintro (h1 | ⟨rfl, hz⟩)
  ·exact (h.N k hk).2 h1
  ·exact (ho.lt (show Blk.has E r _ from hz)).2.2 (.inr hk)
theorem WOk.drop {f' : List Blk} (h : WOk F0 w0 E w mem clock) (hm : ∀ (s : Nat) x, f'[s]? = some x → x.live → mem[s]? = some x) : WOk F0 w0 E w f' clock := by
 refine ⟨h.below, h.base, h.F, ⟨h.mem.clock, fun s x hx => ?_, fun s s' x x' hx kL h1 h2 j2 => h.mem.apart s s' x x' (hm s x hx h1.live) (hm s' x' kL h2.live) h1 h2 j2⟩, h.N⟩
 cases x <;> first | trivial | exact h.mem.ok s _ (hm s _ hx trivial)
end
inductive TD where
 | int (k : IntKind)
 | bool
 | str
 | struct (fs : List (Nat × TypeId))
 | array (n : Nat) (e : TypeId)
 | slice (e : TypeId)
 | plain
def TD.agg : TD → Bool
 | .struct _ => true
 | .array _ _ => true
 | _ => false
structure TI where
 size : Nat
 bytes : Nat
 zero : List Value
 desc : TD
 eqs : Bool := false
def Vc (P : Program) (t : TypeId) : TD → Prop
 | .int k => P.underlying t = some (.int k)
 | .bool => P.underlying t = some .bool
 | .str => P.underlying t = some .string
 | .struct fs => ∃ fields, P.underlying t = some (.struct fields) ∧ fields.toList.map (fun f => (f.offset, f.type)) = fs
 | .array n e => P.underlying t = some (.array n e)
 | .slice e => P.underlying t = some (.slice e)
 | .plain => ∃ d, P.underlying t = some d ∧ (match d with | .struct _ => False | .array _ _ => False | _ => True)
def JH : Value → Value → Bool
 | .int _ a, .int _ b => a == b
 | .bool a, .bool b => a == b
 | .string a, .string b => a.toList == b.toList
 | _, _ => false
def Cy : List Value → List Value → Bool
 | x :: xs, y :: ys => JH x y && Cy xs ys
 | _, _ => true
def alike : Value → Value → Prop
 | .int k _, .int k' _ => k = k'
 | .bool _, .bool _ => True
 | .string _, .string _ => True
 | _, _ => False
def Dw : List Value → List Value → Prop
 | x :: xs, y :: ys => alike x y ∧ Dw xs ys
 | [], [] => True
 | _, _ => False
def a7 (P : Program) (t : TypeId) (zero : List Value) : Prop :=
 ∀ (w : World) (x y : Operand) (xs ys : List Value), Dw zero xs → Dw zero ys →
  ((do eqGuard .eql t x y (.agg xs.toArray) (.agg ys.toArray); binOp .eql t (.agg xs.toArray) (.agg ys.toArray) : Sem Value).run P w = .ok (.bool (Cy xs ys)) w) ∧
  ((do eqGuard .neq t x y (.agg xs.toArray) (.agg ys.toArray); binOp .neq t (.agg xs.toArray) (.agg ys.toArray) : Sem Value).run P w = .ok (.bool !(Cy xs ys)) w)
structure TOk (P : Program) (t : TypeId) (i : TI) : Prop where
 info : ∃ f z, P.info? t = some f ∧ f.size = i.size ∧ f.bytes = i.bytes ∧ f.zero = some z ∧ z.cells = i.zero.toArray
 ones : ∀ v ∈ i.zero, v.oneCell' = true
 desc : Vc P t i.desc
 eqv : i.eqs = true → a7 P t i.zero
def AL (P : Program) (T : TypeId → Option TI) : Prop := ∀ t i, T t = some i → TOk P t i
def lit (v : Value) : SVal := .c (.d (.lit v))
def int (n : Int) : SVal := lit (.int .i64 n)
def DP (b : Bool) : SVal := lit (.bool b)
def B0 : Value → Cell
 | .slice none 0 0 => .emp
 | v => .d (.lit v)
def SVal.cells : SVal → Option (List Cell)
 | .c x => some [x]
 | .agg xs => some xs
 | _ => none
def Cell.dat : Cell → Option Dat
 | .d x => some x
 | .emp => some (.sl [])
 | _ => none
def Eh : List Cell → Option (List Dat)
 | [] => some []
 | c :: cs => match c.dat, Eh cs with
   | some x, some xs => some (x :: xs)
   | _, _ => none
def OC (agg : Bool) (cs : List Cell) : SVal :=
 match agg, cs with
 | true, cs => .agg cs
 | false, [x] => .c x
 | false, _ => .junk
def C1 (mem : List Blk) (r k : Nat) : Prop :=
 match mem[r]? with
 | some (.box k' _) => k' = k
 | some (.arr k' _ _ _) => k' = k
 | _ => False
section
variable (P : Program) (T : TypeId → Option TI) (F0 : Nat → Prop) (w0 : World)
structure FnOk (f : FuncId) : Prop where
 ex : ∃ fn, P.funcs[f]? = some fn ∧ (fn.name == "runtime.NumGoroutine") = false ∧ fn.body.isNone = false
def MCall (f : FuncId) (args : List SVal) (mem : List Blk) (clock : Nat) (R : SVal → List Blk → Nat → Prop) : Prop :=
 FnOk P f ∧ ∀ (E : Env) (w : World) (vs : List Value), WOk F0 w0 E w mem clock → vs.length = args.length →
  (∀ (i : Nat) v x, vs[i]? = some v → args[i]? = some x → SRep E w v x) →
  Calls P f vs.toArray w fun e w' => ∃ v E' r f' iY, e = .returned v ∧ EnvLe E w E' w' ∧ WOk F0 w0 E' w' f' iY ∧ SRep E' w' v r ∧ R r f' iY
def Me (b want : Bool) (A C : Prop) : Prop := (b = want → A) ∧ (b = !want → C)
theorem XY {A C : Prop} : Me true true A C = A := by simp [Me]
theorem XZ {A C : Prop} : Me false true A C = C := by simp [Me]
def OD {α : Type} (o : Option α) (f : α → Prop) : Prop :=
 match o with
 | some e => f e
 | none => False
theorem Kt {α : Type} {o : Option α} {f : α → Prop} (h : OD o f) : ∃ e, o = some e ∧ f e := by
 cases o with
 | none => exact h.elim
 | some e => exact ⟨e, rfl, h⟩
theorem Cg {α : Type} {o : Option α} {f : α → Prop} {e : α} (h : o = some e) (hf : f e) : OD o f := by subst h; exact hf
def Du (σ : St) (t : TypeId) (x : SVal) (V : SVal → Prop) : Prop :=
 match T t with
 | none => False
 | some i => (i.desc.agg = true ∨ i.size = 1) ∧
   match x with
   | .c (.bp r k o) => (match σ.mem[r]? with
     | some (.box k' cs) => k' = k ∧ o + i.size ≤ cs.length ∧ V (OC i.desc.agg ((cs.drop o).take i.size))
     | _ => False)
   | .c (.fp e o) => o + i.size ≤ e.length ∧ V (OC i.desc.agg (((e.drop o).take i.size).map .d))
   | .c (.ap r k i6 n o) => (match σ.mem[r]? with
     | some (.arr k' _ jf es) => k' = k ∧ jf = i6 ∧ OD es[n]? fun e => o + i.size ≤ e.length ∧ V (OC i.desc.agg (((e.drop o).take i.size).map .d))
     | _ => False)
   | _ => False
def Fe (σ : St) (t : TypeId) (x v : SVal) (K : St → Prop) : Prop :=
 match T t, v.cells with
 | some i, some cs => cs.length = i.size ∧
   match x with
   | .c (.bp r k o) => (match σ.mem[r]? with
     | some (.box k' lg) => k' = k ∧ o + i.size ≤ lg.length ∧ K { σ with mem := σ.mem.set r (.box k (lg.take o ++ cs ++ lg.drop (o + i.size))) }
     | _ => False)
   | .c (.ap r k i6 n o) => (match σ.mem[r]?, Eh cs with
     | some (.arr k' iX jf es), some ds => k' = k ∧ jf = i6 ∧ o + i.size ≤ i6 ∧ OD es[n]? fun e =>
        K { σ with mem := σ.mem.set r (.arr k iX i6 (es.set n (e.take o ++ ds ++ e.drop (o + i.size)))) }
     | _, _ => False)
   | _ => False
 | _, _ => False
def FM (σ : St) (s : TypeId) (f : Nat) (x : SVal) (V : SVal → Prop) : Prop :=
 match T s with
 | some ⟨_, _, _, .struct fs, _⟩ => (match fs[f]? with
   | some (off, ft) => (match T ft with
     | some j => j.size ≠ 0 ∧ (match x with
       | .c (.bp r k o) => C1 σ.mem r k ∧ V (.c (.bp r k (o + off)))
       | .c (.fp e o) => V (.c (.fp e (o + off)))
       | .c (.ap r k i6 n o) => C1 σ.mem r k ∧ V (.c (.ap r k i6 n (o + off)))
       | _ => False)
     | none => False)
   | none => False)
 | _ => False
def Ff (σ : St) (t : TypeId) (x i : SVal) (V : SVal → Prop) : Prop :=
 match i with
 | .c (.d (.lit (.int _ n))) => 0 ≤ n ∧ (match T t with
   | some ⟨_, _, _, .slice e, _⟩ => (match T e with
     | some ei => (match x with
       | .c (.d (.sl es)) => OD es[n.toNat]? fun el => el.length = ei.size ∧ V (.c (.fp el 0))
       | .c (.arr r k m) => n < (m : Int) ∧ (match σ.mem[r]? with
         | some (.arr k' _ i6 es) => k' = k ∧ i6 = ei.size ∧ m ≤ es.length ∧ V (.c (.ap r k i6 n.toNat 0))
         | _ => False)
       | _ => False)
     | none => False)
   | some ⟨_, _, _, .array m e, _⟩ => n < (m : Int) ∧ (match T e with
     | some ei => (match x with
       | .c (.bp r k o) => C1 σ.mem r k ∧ V (.c (.bp r k (o + n.toNat * ei.size)))
       | .c (.fp el o) => V (.c (.fp el (o + n.toNat * ei.size)))
       | _ => False)
     | none => False)
   | _ => False)
 | _ => False
def Oz (d : Nat) : Option SVal → Option Int
 | none => some d
 | some (.c (.d (.lit (.int _ n)))) => some n
 | _ => none
def HT (σ : St) (t : TypeId) (x : SVal) (lo hi : Option SVal) (V : SVal → Prop) : Prop :=
 match T t, x with
 | some ⟨_, _, _, .str, _⟩, .c (.d (.lit (.string s))) => (match Oz 0 lo, Oz s.size hi with
   | some l, some h => 0 ≤ l ∧ l ≤ h ∧ h ≤ (s.size : Int) ∧ V (lit (.string (s.extract l.toNat h.toNat)))
   | _, _ => False)
 | some ⟨_, _, _, .slice e, _⟩, .c (.d (.sl es)) => (match T e, Oz 0 lo, Oz es.length hi with
   | some ei, some l, some h => (∀ el, el ∈ es → el.length = ei.size) ∧ 0 ≤ l ∧ l ≤ h ∧ h ≤ (es.length : Int) ∧ V (.c (.d (.sl ((es.take h.toNat).drop l.toNat))))
   | _, _, _ => False)
 | some ⟨_, _, _, .slice e, _⟩, .c .emp => (match T e, Oz 0 lo, Oz 0 hi with
   | some _, some l, some h => l = 0 ∧ h = 0 ∧ V (.c .emp)
   | _, _, _ => False)
 | some ⟨_, _, _, .slice e, _⟩, .c (.arr r k m) => (match T e, Oz 0 lo, Oz m hi, σ.mem[r]? with
   | some _, some l, some h, some (.arr k' _ _ es) => k' = k ∧ m ≤ es.length ∧ l = 0 ∧ 0 ≤ h ∧ h ≤ (m : Int) ∧ V (.c (.arr r k h.toNat))
   | _, _, _, _ => False)
 | _, _ => False
def Nq (σ : St) (t : TypeId) (x : SVal) (V : SVal → Prop) : Prop :=
 match T t, x with
 | some ⟨_, _, _, .slice _, _⟩, .c (.d (.sl es)) => V (int es.length)
 | some ⟨_, _, _, .slice _, _⟩, .c .emp => V (int 0)
 | some ⟨_, _, _, .slice _, _⟩, .c (.arr r k n) => C1 σ.mem r k ∧ V (int n)
 | some ⟨_, _, _, .str, _⟩, .c (.d (.lit (.string s))) => V (int s.size)
 | some ⟨_, _, _, .array n _, _⟩, _ => V (int n)
 | _, _ => False
def Gh : SVal → Option (List (List Dat))
 | .c (.d (.sl ys)) => some ys
 | .c .emp => some []
 | _ => none
def EZ (σ : St) (t : TypeId) (s y : SVal) (dst : Option Tmp) (K : St → Prop) : Prop :=
 match T t with
 | some ⟨_, _, _, .slice e, _⟩ => (match T e, Gh y with
   | some ei, some ys => 0 < ei.size ∧ ei.zero.length = ei.size ∧ (∀ el, el ∈ ys → el.length = ei.size) ∧ (match s with
     | .c .emp => ys.length ≤ maxLen ∧ ys.length * ei.bytes ≤ 140737488355328 ∧
         K ({ σ with mem := σ.mem ++ [Blk.arr (σ.clock + 1) e ei.size ys], clock := σ.clock + 1 }.putO dst (.c (.arr σ.mem.length (σ.clock + 1) ys.length)))
     | .c (.arr r k n) => (match σ.mem[r]? with
       | some (.arr k' e' i6 es) => k' = k ∧ e' = e ∧ i6 = ei.size ∧ n ≤ es.length ∧ n + ys.length ≤ maxLen ∧ (n + ys.length) * ei.bytes ≤ 140737488355328 ∧
          K ({ σ with mem := σ.mem.set r (.arr (σ.clock + 1) e ei.size (es.take n ++ ys)), clock := σ.clock + 1 }.putO dst (.c (.arr r (σ.clock + 1) (n + ys.length))))
       | _ => False)
     | _ => False)
   | _, _ => False)
 | _ => False
def OE (σ : St) (t : TypeId) (l c : SVal) (dst : Option Tmp) (K : St → Prop) : Prop :=
 match T t, l, c with
 | some ⟨_, _, _, .slice e, _⟩, .c (.d (.lit (.int _ n))), .c (.d (.lit (.int _ m))) => (match T e with
   | some ei => (match Eh (ei.zero.map B0) with
     | some z => 0 < ei.size ∧ ei.zero.length = ei.size ∧ 0 ≤ n ∧ n ≤ m ∧ m ≤ 9223372036854775807 ∧ (ei.bytes : Int) * m ≤ 281474976710656 ∧
       K ({ σ with mem := σ.mem ++ [Blk.arr (σ.clock + 1) e ei.size (List.replicate n.toNat z)], clock := σ.clock + 1 }.putO dst (.c (.arr σ.mem.length (σ.clock + 1) n.toNat)))
     | none => False)
   | none => False)
 | _, _, _ => False
def Ei (σ : St) (size : Nat) : List (Nat × Operand) → Nat → Option (List (List Dat))
 | [], _ => some []
 | (i, x) :: rest, k => if i = k then (match (σ.ev x).cells with
     | some cs => (match Eh cs, Ei σ size rest (k + 1) with
       | some ds, some r => if ds.length = size then some (ds :: r) else none
       | _, _ => none)
     | none => none) else none
def CE (σ : St) (t : TypeId) (len : Nat) (parts : List (Nat × Operand)) (V : SVal → Prop) : Prop :=
 match T t with
 | some ⟨_, _, _, .slice e, _⟩ => (match T e with
   | some ei => (match len with
     | 0 => parts = [] ∧ V (.c .emp)
     | n + 1 => 0 < ei.size ∧ ei.zero.length = ei.size ∧ (n + 1) * ei.size ≤ 16777216 ∧ parts.length = n + 1 ∧ (match Ei σ ei.size parts 0 with
       | some es => V (.c (.d (.sl es)))
       | none => False))
   | none => False)
 | _ => False
def JI (σ : St) (fs : List (Nat × TypeId)) : List (Nat × Operand) → List Cell → Option (List Cell)
 | [], cs => some cs
 | (i, x) :: rest, cs => match fs[i]?, (σ.ev x).cells with
   | some (off, ft), some ns => (match T ft with
     | some j => if ns.length = j.size ∧ off + ns.length ≤ cs.length then JI σ fs rest (cs.take off ++ ns ++ cs.drop (off + ns.length)) else none
     | none => none)
   | _, _ => none
def Ku (σ : St) (t : TypeId) (parts : List (Nat × Operand)) (V : SVal → Prop) : Prop :=
 match T t with
 | some ⟨_, _, zero, .struct fs, _⟩ => fs.all (fun p => (T p.2).isSome) = true ∧ (match JI T σ fs parts (zero.map B0) with
   | some cs => V (.agg cs)
   | none => False)
 | _ => False
def Nr (k : IntKind) (a b : Int) : Int := k.wrap (BitVec.ofInt k.bits a &&& BitVec.ofInt k.bits b).toNat
def Q5 (op : BinOp) (k : IntKind) (a b : Int) (V : SVal → Prop) : Prop :=
 match op with
 | .add => V (lit (.int k (k.wrap (a + b))))
 | .sub => V (lit (.int k (k.wrap (a - b))))
 | .mul => V (lit (.int k (k.wrap (a * b))))
 | .quo => b ≠ 0 ∧ V (lit (.int k (k.wrap (a.tdiv b))))
 | .rem => b ≠ 0 ∧ V (lit (.int k (a.tmod b)))
 | .and => V (lit (.int k (Nr k a b)))
 | .eql => V (DP (a == b))
 | .neq => V (DP (a != b))
 | .lss => V (DP (decide (a < b)))
 | .leq => V (DP (decide (a ≤ b)))
 | .gtr => V (DP (decide (a > b)))
 | .geq => V (DP (decide (a ≥ b)))
 | _ => False
def a8 (op : BinOp) (a b : ByteArray) (V : SVal → Prop) : Prop :=
 match op with
 | .add => a.size + b.size ≤ maxLen ∧ V (lit (.string (a ++ b)))
 | .eql => V (DP (a.toList == b.toList))
 | .neq => V (DP !(a.toList == b.toList))
 | .lss => V (DP (Op.bytesLess a.toList b.toList))
 | .leq => V (DP (Op.bytesLess a.toList b.toList || a.toList == b.toList))
 | .gtr => V (DP !(Op.bytesLess a.toList b.toList || a.toList == b.toList))
 | .geq => V (DP !(Op.bytesLess a.toList b.toList))
 | _ => False
def D8 : List Cell → Option (List Value)
 | [] => some []
 | .d (.lit v) :: cs => (match D8 cs with
   | some vs => some (v :: vs)
   | none => none)
 | _ => none
def OF (op : BinOp) (t : TypeId) (x y : SVal) (V : SVal → Prop) : Prop :=
 match x, y with
 | .c (.d (.lit (.int k a))), .c (.d (.lit (.int k' b))) => k = k' ∧ Q5 op k a b V
 | .c (.d (.lit (.string a))), .c (.d (.lit (.string b))) => a8 op a b V
 | .c (.d (.lit (.bool a))), .c (.d (.lit (.bool b))) => (match T t with
   | some ⟨_, _, _, .bool, _⟩ => (match op with
     | .eql => V (DP (a == b))
     | .neq => V (DP (!(a == b)))
     | _ => False)
   | _ => False)
 | .agg xs, .agg ys => (match T t, D8 xs, D8 ys with
   | some i, some us, some vs => i.eqs = true ∧ Dw i.zero us ∧ Dw i.zero vs ∧ (match op with
     | .eql => V (DP (Cy us vs))
     | .neq => V (DP (!(Cy us vs)))
     | _ => False)
   | _, _, _ => False)
 | _, _ => False
def dL (op : UnOp) (x : SVal) (V : SVal → Prop) : Prop :=
 match op, x with
 | .not, .c (.d (.lit (.bool b))) => V (DP !b)
 | .neg, .c (.d (.lit (.int k n))) => V (lit (.int k (k.wrap (0 - n))))
 | _, _ => False
def OG (src dst : TypeId) (x : SVal) (V : SVal → Prop) : Prop :=
 match T src, T dst, x with
 | some _, some ⟨_, _, _, .int k, _⟩, .c (.d (.lit (.int _ n))) => V (lit (.int k (k.wrap n)))
 | _, _, _ => False
def Gv (σ : St) : List Operand → Option (List Cell)
 | [] => some []
 | x :: xs => match σ.ev x, Gv σ xs with
   | .c c, some cs => some (c :: cs)
   | _, _ => none
def OH (σ : St) (fn : Fn) (first captured : List Operand) (V : SVal → Prop) : Prop :=
 match fn, first, captured with
 | .func f, [], [] => V (lit (.func (.func f) #[] #[]))
 | .func f, [], js => (match Gv σ js with
   | some cs => (match Eh cs with
     | some ds => V (.c (.d (.clo f ds)))
     | none => V (.c (.clo f cs)))
   | none => False)
 | _, _, _ => False
def Cr : SVal → Option (FuncId × List Cell)
 | .c (.d (.lit (.func (.func f) first js))) => if first.size = 0 ∧ js.size = 0 then some (f, []) else none
 | .c (.d (.clo f ds)) => some (f, ds.map .d)
 | .c (.clo f cs) => some (f, cs)
 | _ => none
def DQ (σ : St) (c : Call) (dst : Option Tmp) (K : St → Prop) : Prop :=
 match c.callee with
 | .value f => (match Cr (σ.ev f) with
   | some (g, js) => MCall P F0 w0 g (c.args.toList.map σ.ev ++ js.map .c) σ.mem σ.clock fun r f' iY => K ({ σ with mem := f', clock := iY }.putO dst r)
   | none => False)
 | .builtin .len => (match c.args.toList, c.argTypes.toList with
   | [x], [t] => Nq T σ t (σ.ev x) fun v => K (σ.putO dst v)
   | _, _ => False)
 | .builtin .append => (match c.args.toList, c.argTypes.toList with
   | [s, y], [t, t'] => t' = t ∧ EZ T σ t (σ.ev s) (σ.ev y) dst K
   | _, _ => False)
 | .builtin .min => (match c.args.toList with
   | [x, y] => (match σ.ev x, σ.ev y with
     | .c (.d (.lit (.int k a))), .c (.d (.lit (.int k' b))) => k = k' ∧ K (σ.putO dst (lit (.int k (if b < a then b else a))))
     | _, _ => False)
   | _ => False)
 | .builtin .max => (match c.args.toList with
   | [x, y] => (match σ.ev x, σ.ev y with
     | .c (.d (.lit (.int k a))), .c (.d (.lit (.int k' b))) => k = k' ∧ K (σ.putO dst (lit (.int k (if a < b then b else a))))
     | _, _ => False)
   | _ => False)
 | _ => False
def AV (o : Oper) (σ : St) (K : St → Prop) : Prop :=
 match o.op with
 | .move x => K (σ.putO o.dst (σ.ev x))
 | .assign x => K (σ.putO o.dst (σ.ev x))
 | .pick c a b => (match σ.ev c with
   | .c (.d (.lit (.bool t))) => Me t true (K (σ.putO o.dst (σ.ev a))) (K (σ.putO o.dst (σ.ev b)))
   | _ => False)
 | .alloc t => (match T t with
   | some i => K ({ σ with mem := σ.mem ++ [Blk.box (σ.clock + 1) (i.zero.map B0)], clock := σ.clock + 1 }.putO o.dst (.c (.bp σ.mem.length (σ.clock + 1) 0)))
   | none => False)
 | .box _ x => (match (σ.ev x).cells with
   | some cs => K ({ σ with mem := σ.mem ++ [Blk.box (σ.clock + 1) cs], clock := σ.clock + 1 }.putO o.dst (.c (.bp σ.mem.length (σ.clock + 1) 0)))
   | none => False)
 | .load t x => Du T σ t (σ.ev x) fun v => K (σ.putO o.dst v)
 | .store t x v => Fe T σ t (σ.ev x) (σ.ev v) fun σ' => K (σ'.putO o.dst .junk)
 | .fieldAddr s x f => FM T σ s f (σ.ev x) fun v => K (σ.putO o.dst v)
 | .indexAddr t x i => Ff T σ t (σ.ev x) (σ.ev i) fun v => K (σ.putO o.dst v)
 | .slice t x lo hi mx => mx.isNone = true ∧ HT T σ t (σ.ev x) (lo.map σ.ev) (hi.map σ.ev) fun v => K (σ.putO o.dst v)
 | .binOp op t x y _ => OF T op t (σ.ev x) (σ.ev y) fun v => K (σ.putO o.dst v)
 | .unOp op _ x => dL op (σ.ev x) fun v => K (σ.putO o.dst v)
 | .convert s d x => OG T s d (σ.ev x) fun v => K (σ.putO o.dst v)
 | .build t parts => Ku T σ t parts.toList fun v => K (σ.putO o.dst v)
 | .buildSlice t len parts => CE T σ t len parts.toList fun v => K (σ.putO o.dst v)
 | .makeSlice t l c => OE T σ t (σ.ev l) (σ.ev c) o.dst K
 | .makeFunc fn first captured => OH σ fn first.toList captured.toList fun v => K (σ.putO o.dst v)
 | .extract x i => (match σ.ev x with
   | .tup xs => (match xs[i]? with
     | some v => K (σ.putO o.dst v)
     | none => False)
   | _ => False)
 | .call c => DQ P T F0 w0 σ c o.dst K
 | .defer c => (match c.callee, c.args.toList with
   | .value f, [] => (match Cr (σ.ev f) with
     | some (g, js) => K ({ σ with defers := (g, js) :: σ.defers }.putO o.dst .junk)
     | none => False)
   | _, _ => False)
 | _ => False
end
section
variable {P : Program} {T : TypeId → Option TI} {F0 : Nat → Prop} {w0 w : World} {E : Env} {mem : List Blk} {clock : Nat}
theorem SRep.lit_inv (h : SRep E w v (.c (.d (.lit u)))) : v = u := by
 cases h with | c h => cases h with | d h => cases h with | lit _ _ => rfl
theorem TOk.isAgg {i : TI} (h : TOk P t i) : (isAgg t).run P w = .ok i.desc.agg w := by
 have hd := h.desc
 cases hi : i.desc <;> rw [hi] at hd <;> simp only [Vc] at hd
 ·simp [Go.isAgg, run_underlying hd, TD.agg]
 ·simp [Go.isAgg, run_underlying hd, TD.agg]
 ·simp [Go.isAgg, run_underlying hd, TD.agg]
 ·obtain ⟨fs, hd, _⟩ := hd; simp [Go.isAgg, run_underlying hd, TD.agg]
 ·simp [Go.isAgg, run_underlying hd, TD.agg]
 ·simp [Go.isAgg, run_underlying hd, TD.agg]
 ·obtain ⟨d, hd, hn⟩ := hd
  simp only [Go.isAgg, Sem.run_bind, run_underlying hd, Result.andThen_ok, TD.agg]
  cases d <;> first | rfl | exact hn.elim
theorem TOk.sizeOf {i : TI} (h : TOk P t i) : (sizeOf t).run P w = .ok i.size w := by
 obtain ⟨f, z, h1, h2, _⟩ := h.info
 simp [Go.sizeOf, typeInfo, h1, h2]
theorem FO {i : TI} (h : TOk P t i) (ha : i.desc.agg = true ∨ i.size = 1) (vs : List Value) (hl : vs.length = i.size) (b off : Nat)
   (hc : ∀ (j : Nat) v, vs[j]? = some v → w.cell? ⟨b, off + j, none⟩ = some v) :
   ∃ v, (Instr.loadAt t (.pointer (some ⟨b, off, none⟩))).run P w = .ok v w ∧ ((i.desc.agg = true ∧ v = .agg vs.toArray) ∨ (i.desc.agg = false ∧ vs = [v])) := by
 cases pO : i.desc.agg with
 | true =>
   have hr := run_loadCells_list (P := P) w ⟨b, off, none⟩ vs (fun j v hv => by rw [Addr.add_lit]; exact hc j v hv)
   refine ⟨.agg vs.toArray, ?_, .inl ⟨rfl, rfl⟩⟩
   rw [hl] at hr
   simp [Instr.loadAt, Instr.sureAddr, loadVar, h.isAgg, pO, h.sizeOf, hr]
 | false =>
   have h1 : i.size = 1 := by rcases ha with ha | ha <;> simp_all
   match vs, hl with
   | [v], _ =>
     have hv := hc 0 v rfl
     refine ⟨v, ?_, .inr ⟨rfl, rfl⟩⟩
     simp [Instr.loadAt, Instr.sureAddr, loadVar, h.isAgg, pO]
     simp at hv
     simp [hv]
   | [], hl => simp [h1] at hl
   | _ :: _ :: _, hl => simp [h1] at hl
theorem I1 {agg : Bool} {vs : List Value} {cs : List Cell} (hl : vs.length = cs.length)
  (hd : ∀ (j : Nat) v x, vs[j]? = some v → cs[j]? = some x → CRep E w v x) (h : (agg = true ∧ v = .agg vs.toArray) ∨ (agg = false ∧ vs = [v])) : SRep E w v (OC agg cs) := by
 rcases h with ⟨rfl, rfl⟩ | ⟨rfl, rfl⟩
 ·exact .agg cs vs hl hd
 ·match cs, hl with
  | [x], _ => exact .c (hd 0 v x rfl rfl)
theorem Bx {b j : Nat} {c : Array Value} {fr : Nat × Nat} (h : w.heap[b]? = some (.cells c iX fr)) : w.cell? ⟨b, j, none⟩ = c[j]? := by
 simp [World.cell?, h]
theorem getElem?_window {α : Type} (l : List α) (o n j : Nat) : ((l.drop o).take n)[j]? = if j < n then l[o + j]? else none := by
 rw [Mc]
 split
 ·rw [ZA]
 ·rfl
theorem CS {α : Type} (l : List α) (o n : Nat) (h : o + n ≤ l.length) : ((l.drop o).take n).length = n := by
 simp; omega
theorem Ns (hT : AL P T) {σ : St} (h : WOk F0 w0 E w σ.mem σ.clock) {x : SVal} (hx : SRep E w u x) {V : SVal → Prop} (hl : Du T σ t x V) :
  ∃ v s, (Instr.loadAt t u).run P w = .ok v w ∧ SRep E w v s ∧ V s := by
 unfold Du at hl
 split at hl
 ·exact hl.elim
 ·rename_i i hi
  have ht := hT t i hi
  obtain ⟨ha, hl⟩ := hl
  split at hl
  ·rename_i r k o
   split at hl
   ·rename_i k' cs hm
    obtain ⟨rfl, hlen, hV⟩ := hl
    obtain ⟨h1, _, _, c, iX, h4, h5, h6⟩ := h.mem.ok r _ hm
    have hu : u = .pointer (some ⟨E.blk r, o, none⟩) := by cases hx with | c hx => cases hx with | bp _ _ _ _ _ _ hh => exact hh h1
    subst hu
    obtain ⟨v, hr, hv⟩ := FO ht ha ((c.toList.drop o).take i.size) (CS _ _ _ (by simp; omega)) (E.blk r) o (fun j v hv => by
     rw [Bx h4]
     rw [getElem?_window] at hv
     split at hv
     · simpa using hv
     · cases hv)
    refine ⟨v, _, hr, I1 ?_ (fun j v x hv hx => ?_) hv, hV⟩
    ·rw [CS _ _ _ (by simp; omega), CS _ _ _ hlen]
    ·rw [getElem?_window] at hv hx
     split at hv
     · rename_i hj
       rw [if_pos hj] at hx
       exact h6 (o + j) v x (by simpa using hv) hx
     · cases hv
   ·exact hl.elim
  ·rename_i e o
   obtain ⟨hlen, hV⟩ := hl
   cases hx with | c hx => cases hx with | fp _ _ b off us hF hc hd =>
   obtain ⟨v, hr, hv⟩ := FO ht ha ((List.range i.size).map fun j => us (o + j)) (by simp) b (off + o) (fun j v hv => by
    simp only [BU] at hv
    by_cases hj : j < i.size
    ·simp [hj] at hv
     rw [ZG, hc (o + j) (by omega), hv]
    ·simp [hj] at hv)
   refine ⟨v, _, hr, I1 ?_ (fun j v x hv hx => ?_) hv, hV⟩
   ·simp; omega
   ·simp only [BU] at hv
    by_cases hj : j < i.size
    ·simp [hj] at hv
     rw [BU, getElem?_window, if_pos hj] at hx
     cases oi : e[o + j]? with
     | none => rw [oi] at hx; cases hx
     | some y =>
       rw [oi] at hx
       simp at hx
       subst hx; subst hv
       exact .d (hd (o + j) y oi)
    ·simp [hj] at hv
  ·rename_i r k i6 n o
   split at hl
   ·rename_i k' iX jf es hm
    obtain ⟨rfl, rfl, hl⟩ := hl
    obtain ⟨e, he, hlen, hV⟩ := Kt hl
    obtain ⟨h1, jD, j3, jB, _, h6⟩ := h.mem.ok r _ hm
    have hu : u = .pointer (some ⟨E.blk r, n * jf + o, none⟩) := by cases hx with | c hx => cases hx with | ap _ _ _ _ _ _ _ _ hh => exact hh h1
    subst hu
    have hn := lt_of_getElem? he
    have jo : e.length = jf := j3 e (Cb he)
    rcases h6 with h6 | ⟨_, _, c, h4, h5, _, h6⟩
    ·omega
    have j8 : n * jf + jf ≤ c.size := by
     rw [h5]
     have : (n + 1) * jf ≤ E.cap r * jf := HJ _ (by omega)
     rw [Gg, Kf] at this
     exact this
    obtain ⟨v, hr, hv⟩ := FO ht ha ((c.toList.drop (n * jf + o)).take i.size) (CS _ _ _ (by simp; omega)) (E.blk r) (n * jf + o) (fun j v hv => by
     rw [Bx h4]
     rw [getElem?_window] at hv
     split at hv
     · simpa using hv
     · cases hv)
    refine ⟨v, _, hr, I1 ?_ (fun j v x hv hx => ?_) hv, hV⟩
    ·rw [CS _ _ _ (by simp; omega)]; simp; omega
    ·rw [getElem?_window] at hv
     split at hv
     · rename_i hj
       rw [BU, getElem?_window, if_pos hj] at hx
       cases oi : e[o + j]? with
       | none => rw [oi] at hx; cases hx
       | some y =>
         rw [oi] at hx
         simp at hx
         subst hx
         exact .d (h6 n (o + j) e v y he oi (by rw [← ZG]; simpa using hv))
     · cases hv
   ·exact hl.elim
  ·exact hl.elim
theorem SRep.cellsOf {s : SVal} {cs : List Cell} (h : SRep E w v s) (hc : s.cells = some cs) :
   v.cells.size = cs.length ∧ (∀ u ∈ v.cells.toList, u.oneCell' = true) ∧ ∀ (j : Nat) u x, v.cells[j]? = some u → cs[j]? = some x → CRep E w u x := by
 cases h with
 | c h =>
   simp only [SVal.cells, Option.some.injEq] at hc
   subst hc
   have h1 := h.one
   have hv : v.cells = #[v] := by cases v <;> first | rfl | (simp [Value.oneCell'] at h1)
   rw [hv]
   refine ⟨rfl, fun u hu => by simp at hu; subst hu; exact h1, fun j u x hu hx => ?_⟩
   cases j with
   | zero => simp at hu hx; subst hu; subst hx; exact h
   | succ j => simp at hx
 | agg xs vs hl hd =>
   simp only [SVal.cells, Option.some.injEq] at hc
   subst hc
   refine ⟨by simpa [Value.cells] using hl, fun u hu => ?_, fun j u x hu hx => hd j u x (by simpa [Value.cells] using hu) hx⟩
   obtain ⟨j, hj⟩ := L0.1 (show u ∈ vs by simpa [Value.cells] using hu)
   have i7 := lt_of_getElem? hj
   exact (hd j u (xs[j]'(by omega)) hj (Bo _)).one
 | tup => simp [SVal.cells] at hc
 | und => simp [SVal.cells] at hc
 | junk => simp [SVal.cells] at hc
theorem WOk.poke {w' : World} (h : WOk F0 w0 E w mem clock) (r : Nat) (ob nb : Blk) (hr : mem[r]? = some ob) (hh : ob.has E r) (sP : nb.has E r → ob.has E r)
  (jO : Bel w0.heap.size w w') (jT : ∀ i, i ≠ E.blk r → w'.heap[i]? = w.heap[i]?)
  (jV : EnvLe E w E w' → BlkOk w0.heap.size E w' r nb) : WOk F0 w0 E w' (mem.set r nb) clock ∧ EnvLe E w E w' := by
 have ho := h.mem.ok r ob hr
 have i7 := ho.lt hh
 have hle : EnvLe E w E w' := ⟨fun _ hk => hk, fun k hk => jT k (fun e => i7.2.2 (.inl (e ▸ hk))), fun _ => Nat.le_refl _, fun _ _ => ⟨rfl, rfl⟩, fun k hk => ⟨hk, jT k (fun e => i7.2.2 (.inr (e ▸ hk)))⟩⟩
 refine ⟨⟨h.below.trans jO, h.base, fun i hi => ⟨dF (h.F i hi).1 jO.size, (h.F i hi).2⟩, ⟨h.mem.clock, fun s x hx => ?_, fun s s' x x' hx kL h1 h2 j2 => ?_⟩, fun i hi => ⟨dF (h.N i hi).1 jO.size, (h.N i hi).2⟩⟩, hle⟩
 ·rcases Bj r _ s x hx with ⟨rfl, rfl⟩ | ⟨e, jj⟩
  · exact jV hle
  · have mX := h.mem.ok s x jj
    exact mX.le hle (fun _ => rfl) (fun hs => jT _ (fun q => h.mem.apart s r x ob jj hr hs hh e q)) (fun hs => (mX.lt hs).2.2)
 ·rcases Bj r _ s x hx with ⟨rfl, rfl⟩ | ⟨e, jj⟩
  · rcases Bj s _ s' x' kL with ⟨rfl, rfl⟩ | ⟨e', jW⟩
    ·exact absurd rfl j2
    ·exact h.mem.apart s s' ob x' hr jW (sP h1) h2 j2
  · rcases Bj r _ s' x' kL with ⟨rfl, rfl⟩ | ⟨e', jW⟩
    ·exact h.mem.apart s s' x ob jj hr h1 (sP h2) j2
    ·exact h.mem.apart s s' x x' jj jW h1 h2 j2
theorem CO (w : World) (g : Nat) (cs : Array Value) (h : n0 ≤ g) : Bel n0 w (w.setRow g cs) :=
 ⟨⟨rfl, rfl, rfl, by simp, fun k hk => setRow_other w g k cs (by omega)⟩, Nat.le_refl _⟩
theorem Gw {i : TI} (h : TOk P t i) (v : Value) (hv : v.cells.size = i.size) (h1 : ∀ u ∈ v.cells.toList, u.oneCell' = true) (b off : Nat) (c : Array Value) (iX : TypeId)
  (hb : w.heap[b]? = some (.cells c iX (0, 0))) (j8 : off + i.size ≤ c.size) :
  (Instr.storeAt t (.pointer (some ⟨b, off, none⟩)) v).run P w = .ok () (w.setRow b (c.toList.take off ++ v.cells.toList ++ c.toList.drop (off + i.size)).toArray) := by
 have kp := run_storeCells_at P b off iX v.cells.toList 0 c w hb (by simp [hv]; omega) h1
 simp only [Nat.add_zero, U2, hv] at kp
 simp [Instr.storeAt, Instr.sureAddr, storeVar, h.sizeOf, hv, kp]
theorem getElem?_splice {α : Type} {l m : List α} {o j : Nat} (ho : o + m.length ≤ l.length) :
  (l.take o ++ m ++ l.drop (o + m.length))[j]? = if j < o then l[j]? else if j < o + m.length then m[j - o]? else l[j]? := by
 have e1 : (List.take o l).length = o := by simp; omega
 have e2 : (List.take o l ++ m).length = o + m.length := by simp; omega
 rw [aU, e2]
 by_cases h2 : j < o + m.length
 ·rw [if_pos h2, aU, e1]
  by_cases h1 : j < o
  · rw [if_pos h1, if_pos h1, Mc, if_pos h1]
  · rw [if_neg h1, if_neg h1, if_pos h2]
 ·rw [if_neg h2, if_neg (show ¬ j < o by omega), if_neg h2, ZA]
  congr 1
  omega
theorem By {α : Type} {l m : List α} {o : Nat} (ho : o + m.length ≤ l.length) : (l.take o ++ m ++ l.drop (o + m.length)).length = l.length := by
 simp; omega
theorem DR {c : Array Value} {m : List Value} {o o' : Nat} (h0 : ∀ v ∈ c, v.oneCell' = true) (hm : ∀ v ∈ m, v.oneCell' = true) (hv : v ∈ c.toList.take o ++ m ++ c.toList.drop o') : v.oneCell' = true := by
 rcases EY.1 hv with hv | hv
 ·rcases EY.1 hv with hv | hv
  ·exact h0 v (by simpa using I0 hv)
  ·exact hm v hv
 ·exact h0 v (by simpa using Tn hv)
theorem EF : ∀ {cs : List Cell} {ds : List Dat}, Eh cs = some ds → ds.length = cs.length
 | [], ds, h => by simp [Eh] at h; subst h; rfl
 | c :: cs, ds, h => by
   simp only [Eh] at h
   split at h
   ·rename_i x xs hx sQ
    simp at h
    subst h
    simp [EF sQ]
   ·cases h
theorem CRep.dat {c : Cell} {x : Dat} (h : CRep E w v c) (hx : c.dat = some x) : DRep E.F w v x := by
 cases h <;> simp [Cell.dat] at hx
 ·subst hx; assumption
 ·subst hx; exact .emp _ _
theorem EG : ∀ {cs : List Cell} {ds : List Dat} {j : Nat} {v : Value} {x : Dat}, Eh cs = some ds → (∀ y, cs[j]? = some y → CRep E w v y) → ds[j]? = some x → DRep E.F w v x
 | [], ds, j, v, x, h, _, hx => by simp [Eh] at h; subst h; simp at hx
 | c :: cs, ds, j, v, x, h, hc, hx => by
   simp only [Eh] at h
   split at h
   ·rename_i y ys hy oP
    simp at h
    subst h
    cases j with
    | zero => simp at hx; subst hx; exact (hc c rfl).dat hy
    | succ j => exact EG oP (fun y hy => hc y (by simpa using hy)) (by simpa using hx)
   ·cases h
theorem OI (hT : AL P T) {σ : St} (h : WOk F0 w0 E w σ.mem σ.clock) {x y : SVal} (hx : SRep E w u x) (hy : SRep E w v y) {K : St → Prop} (hl : Fe T σ t x y K) :
  ∃ w' f', (Instr.storeAt t u v).run P w = .ok () w' ∧ EnvLe E w E w' ∧ WOk F0 w0 E w' f' σ.clock ∧ K { σ with mem := f' } := by
 unfold Fe at hl
 split at hl
 ·rename_i i cs hi jF
  have ht := hT t i hi
  obtain ⟨oQ, hl⟩ := hl
  obtain ⟨lh, me, mo⟩ := hy.cellsOf jF
  have kM : v.cells.toList.length = i.size := by simp [lh, oQ]
  split at hl
  ·rename_i r k o
   split at hl
   ·rename_i k' lg hm
    obtain ⟨rfl, hlen, hK⟩ := hl
    have ho := h.mem.ok r _ hm
    obtain ⟨h1, h2, h3, c, iX, h4, h5, h6⟩ := ho
    have hu : u = .pointer (some ⟨E.blk r, o, none⟩) := by cases hx with | c hx => cases hx with | bp _ _ _ _ _ _ hh => exact hh h1
    subst hu
    have hr := Gw (P := P) (w := w) ht v (by omega) me (E.blk r) o c iX h4 (by omega)
    have hp := h.poke (w' := w.setRow (E.blk r) (c.toList.take o ++ v.cells.toList ++ c.toList.drop (o + i.size)).toArray) r _ (.box k' (lg.take o ++ cs ++ lg.drop (o + i.size))) hm trivial (fun _ => trivial) (CO w _ _ h2) (fun i hi => setRow_other w _ i _ hi) (fun hle => by
     refine ⟨h1, h2, h3, _, iX, setRow_heap w _ c _ iX _ h4, ?_, fun j v' x' jE kL => ?_⟩
     ·have e1 := By (l := c.toList) (m := v.cells.toList) (o := o) (by simp; omega)
      have e2 := By (l := lg) (m := cs) (o := o) (by omega)
      rw [kM] at e1
      rw [oQ] at e2
      simp only [XT, e1, e2, U2, h5]
     ·have e1 := getElem?_splice (l := c.toList) (m := v.cells.toList) (o := o) (j := j) (by simp; omega)
      have e2 := getElem?_splice (l := lg) (m := cs) (o := o) (j := j) (by omega)
      rw [kM] at e1
      rw [oQ] at e2
      simp only [XM] at jE
      rw [e1] at jE
      rw [e2] at kL
      by_cases a1 : j < o
      ·rw [if_pos a1] at jE kL
       exact (h6 j v' x' (by simpa using jE) kL).le hle
      ·rw [if_neg a1] at jE kL
       by_cases a2 : j < o + i.size
       ·rw [if_pos a2] at jE kL
        exact (mo (j - o) v' x' (by simpa using jE) kL).le hle
       ·rw [if_neg a2] at jE kL
        exact (h6 j v' x' (by simpa using jE) kL).le hle)
    exact ⟨_, _, hr, hp.2, hp.1, hK⟩
   ·exact hl.elim
  ·rename_i r k i6 n o
   split at hl
   ·rename_i k' iX jf es ds hm nw
    obtain ⟨rfl, rfl, hlen, hl⟩ := hl
    obtain ⟨e, he, hK⟩ := Kt hl
    have ho := h.mem.ok r _ hm
    obtain ⟨h1, jD, j3, jB, jC, h6⟩ := ho
    have hu : u = .pointer (some ⟨E.blk r, n * jf + o, none⟩) := by cases hx with | c hx => cases hx with | ap _ _ _ _ _ _ _ _ hh => exact hh h1
    subst hu
    have hn := lt_of_getElem? he
    have jo : e.length = jf := j3 e (Cb he)
    have lR := EF nw
    rcases h6 with h6 | ⟨h2, h3, c, h4, h5, h0, h6⟩
    ·omega
    have j8 : n * jf + jf ≤ c.size := by
     rw [h5]
     have : (n + 1) * jf ≤ E.cap r * jf := HJ _ (by omega)
     rw [Gg, Kf] at this
     exact this
    have sS : E.cap r ≠ 0 := by omega
    have hr := Gw (P := P) (w := w) ht v (by omega) me (E.blk r) (n * jf + o) c iX h4 (by omega)
    have hp := h.poke (w' := w.setRow (E.blk r) (c.toList.take (n * jf + o) ++ v.cells.toList ++ c.toList.drop (n * jf + o + i.size)).toArray) r _ (.arr k' iX jf (es.set n (e.take o ++ ds ++ e.drop (o + i.size)))) hm sS (fun q => q) (CO w _ _ h2) (fun i hi => setRow_other w _ i _ hi) (fun hle => by
     have e2 := By (l := e) (m := ds) (o := o) (by omega)
     refine ⟨h1, jD, fun e' kd => ?_, by simpa using jB, jC, .inr ⟨h2, h3, _, setRow_heap w _ c _ iX _ h4, ?_, fun v' jE => ?_, fun i' j' e' v' x' q1 q2 q3 => ?_⟩⟩
     ·rcases aP kd with q | q
      ·exact j3 e' q
      ·subst q; rw [show i.size = ds.length by omega, e2, jo]
     ·have e1 := By (l := c.toList) (m := v.cells.toList) (o := n * jf + o) (by simp; omega)
      rw [kM] at e1
      simp only [XT, e1, U2, h5]
     ·exact DR h0 me (by simpa using jE)
     ·have e1 := getElem?_splice (l := c.toList) (m := v.cells.toList) (o := n * jf + o) (j := i' * jf + j') (by simp; omega)
      rw [kM] at e1
      simp only [XM] at q3
      rw [e1] at q3
      by_cases jG : i' = n
      ·subst jG
       rw [J5 (by omega)] at q1
       simp only [Option.some.injEq] at q1
       subst q1
       have e3 := getElem?_splice (l := e) (m := ds) (o := o) (j := j') (by omega)
       rw [show ds.length = i.size by omega] at e3
       rw [e3] at q2
       by_cases a1 : j' < o
       ·rw [if_pos a1] at q2
        rw [if_pos (by omega)] at q3
        exact (h6 i' j' e v' x' he q2 (by simpa using q3)).le hle
       ·rw [if_neg a1] at q2
        rw [if_neg (by omega)] at q3
        by_cases a2 : j' < o + i.size
        ·rw [if_pos a2] at q2
         rw [if_pos (by omega)] at q3
         have uN : v.cells[j' - o]? = some v' := by
          rw [show i' * jf + j' - (i' * jf + o) = j' - o by omega] at q3
          simpa using q3
         exact (EG (v := v') nw (fun y hy => mo (j' - o) v' y uN hy) q2).le hle
        ·rw [if_neg a2] at q2
         rw [if_neg (by omega)] at q3
         exact (h6 i' j' e v' x' he q2 (by simpa using q3)).le hle
      ·rw [J7 (fun q => jG q.symm)] at q1
       have hj : j' < jf := by have := lt_of_getElem? q2; rw [j3 e' (Cb q1)] at this; exact this
       have yb : ¬ (n * jf + o ≤ i' * jf + j' ∧ i' * jf + j' < n * jf + o + i.size) := by
        rintro ⟨a1, a2⟩
        rcases Nat.lt_or_gt_of_ne jG with i7 | yc
        ·have : (i' + 1) * jf ≤ n * jf := HJ _ i7
         rw [Gg, Kf] at this
         omega
        ·have : (n + 1) * jf ≤ i' * jf := HJ _ yc
         rw [Gg, Kf] at this
         omega
       have uN : c.toList[i' * jf + j']? = some v' := by
        by_cases a1 : i' * jf + j' < n * jf + o
        ·rw [if_pos a1] at q3; exact q3
        ·rw [if_neg a1, if_neg (by omega)] at q3; exact q3
       exact (h6 i' j' e' v' x' q1 q2 (by simpa using uN)).le hle)
    exact ⟨_, _, hr, hp.2, hp.1, hK⟩
   ·exact hl.elim
  ·exact hl.elim
 ·exact hl.elim
end
end Go.Abs
end
section
namespace Go.Abs
variable {p q : Prop}

theorem ks (h : q) (f : q → p := by intro h; with_reducible (first | exact ZK h | exact Se h | exact Vi h | exact Vj h | exact ZJ h | exact ZL h | exact Sf h | exact ZM h | exact Vk h | exact ZN h | exact Sg h | exact V4 h | exact ZT h)) : p := f h
theorem ko (h : q) (f : q → p := by intro h; first | ((with_reducible refine ME ?_); first | exact Z4 h) | ((with_reducible refine SG ?_); first | exact Z5 h | exact Z6 h) | ((with_reducible refine pP ?_); first | exact qW h) | ((with_reducible refine Wc ?_); first | exact ZS h | exact Wm h) | ((with_reducible refine Pu ?_); first | exact SH h | exact SI h | exact pQ h | exact oR h) | ((with_reducible refine SA ?_); first | exact Wd h) | ((with_reducible refine MB ?_); first | exact Px h) | ((with_reducible refine Wa ?_); first | exact ZV h | exact We h | exact sT h | exact ZW h | exact ZX h | exact ZY h | exact Xj h | exact ae h | exact eX h | exact af h) | ((with_reducible refine Sq ?_); first | exact Xl h | exact qX h) | ((with_reducible refine O7 ?_); first | exact Td h) | ((with_reducible refine O8 ?_); first | exact Te h) | ((with_reducible refine SC ?_); first | exact Py h | exact PA h | exact Pz h | exact PB h) | ((with_reducible refine Pn ?_); first | exact PJ h | exact MF h | exact MG h) | ((with_reducible refine Pl ?_); first | exact PG h | exact PH h | exact PI h) | ((with_reducible refine SB ?_); first | exact Wl h | exact pR h) | ((with_reducible refine Po ?_); first | exact Wg h | exact Wh h | exact Wi h | exact Wj h | exact NW h | exact NY h | exact Z1 h | exact Z2 h) | ((with_reducible refine Pm ?_); first | exact EN h) | ((with_reducible refine MC ?_); first | exact MH h | exact PN h) | ((with_reducible refine K2 ?_); first | exact MI h) | ((with_reducible refine Pr ?_); first | exact SJ h) | ((with_reducible refine ZU ?_); first | exact ZZ h | exact Z0 h) | ((with_reducible refine SE ?_); first | exact Wf h | exact KR h | exact I8 h | exact Mv h) | ((with_reducible refine Wb ?_); first | exact Z3 h) | ((with_reducible refine Pp ?_); first | exact SK h) | ((with_reducible refine Ps ?_); first | exact PK h | exact PM h | exact oS h | exact EO h) | ((with_reducible refine MD ?_); first | exact Wk h) | ((with_reducible refine Pq ?_); first | exact pS h | exact pT h | exact SL h) | ((with_reducible refine Pt ?_); first | exact SM h)) : p := f h
theorem kw (h : q) (f : q → p := by intro h; first | exact w1 h | exact Ab h | exact AJ h | exact w7 h) : p := f h
theorem kv {r : Prop} (h : q) (g : r) (f : q → r → p := by intro h g; first | exact w2 h g | exact w3 h g | exact w4 h g | exact w5 h g | exact w6 h g | exact m1 h g | exact m2 h g | exact m4 h g) : p := f h g
theorem gx {α : Type} {l : List α} {i : Nat} (h : i < l.length) : ∃ x, l[i]? = some x := ⟨_, Bo h⟩
end Go.Abs
end
