/-
  Arrays of the call's own whose elements hold cells: handles of other slices of its own.
-/
import Derived.Test.YtmpgmjlanngkfaaGreatByt
import Derived.Lib.Overlaps
import Derived.Lib.AppendZerosOnto
section
section
namespace Go.Abs
open Go.RowKit
section
variable {P : Program} {T : TypeId → Option TI} {F0 : Nat → Prop} {w0 w : World} {E : Env} {mem : List Blk} {ck : Nat}

/-- One entry is seen in another way. -/
theorem WOk.swap (h : WOk F0 w0 E w mem ck) (r : Nat) (ob nb : Blk) (hr : mem[r]? = some ob) (hhn : nb.has E r → ob.has E r) (hnew : BlkOk w0.heap.size E w r nb) : WOk F0 w0 E w (mem.set r nb) ck := by
  refine ⟨h.below, h.base, h.F, ⟨h.mem.clock, fun s x hx => ?_, fun s s' x x' hx hx' h1 h2 hne => ?_⟩, h.N⟩
  · rcases set_turn r _ s x hx with ⟨rfl, rfl⟩ | ⟨e, hx0⟩
    · exact hnew
    · exact h.mem.ok s x hx0
  · rcases set_turn r _ s x hx with ⟨rfl, rfl⟩ | ⟨e, hx0⟩
    · rcases set_turn s _ s' x' hx' with ⟨rfl, rfl⟩ | ⟨e', hx0'⟩
      · exact absurd rfl hne
      · exact h.mem.apart s s' ob x' hr hx0' (hhn h1) h2 hne
    · rcases set_turn r _ s' x' hx' with ⟨rfl, rfl⟩ | ⟨e', hx0'⟩
      · exact h.mem.apart s s' x ob hx0 hr h1 (hhn h2) hne
      · exact h.mem.apart s s' x x' hx0 hx0' h1 h2 hne

/-- What a pinned array's block holds. -/
theorem WOk.cells (h : WOk F0 w0 E w mem ck) {r k b c : Nat} {ety : TypeId} {esz : Nat} {es : List (List Dat)} (hr : mem[r]? = some (.arrc k ety esz es b c)) (hc : 0 < c) :
    E.ver r = k ∧ 0 < esz ∧ (∀ e ∈ es, e.length = esz) ∧ es.length ≤ c ∧ c ≤ maxLen ∧ w0.heap.size ≤ b ∧ ¬ (E.F b ∨ E.N b) ∧ E.blk r = b ∧ E.cap r = c ∧
      ∃ cur, w.heap[b]? = some (.cells cur ety (0, 0)) ∧ cur.size = c * esz ∧ (∀ v ∈ cur, v.oneCell' = true) ∧ Flat (DRep E.F w) esz es cur.toList := by
  obtain ⟨⟨h1, h2, h3, h4, h5, h6⟩, h7, h8⟩ := h.mem.ok r _ hr
  rcases h6 with h6 | ⟨g1, g2, cur, g3, g4, g5, g6⟩
  · omega
  · refine ⟨h1, h2, h3, by omega, by omega, by rw [← h8]; exact g1, by rw [← h8]; exact g2, h8, h7, cur, by rw [← h8]; exact g3, by rw [g4, h7], g5, fun i j e v x q1 q2 q3 => g6 i j e v x q1 q2 (by simpa using q3)⟩

/-- The source of a copy: cells somewhere. -/
structure From (E : Env) (w : World) (esz : Nat) (u : Value) (m : Nat) (ys : List (List Dat)) (news : List Value) : Prop where
  src : ∃ a n c, u = .slice (some a) n c ∧ m ≤ n ∧ ∀ j v, news[j]? = some v → w.cell? (a.add j) = some v
  len : news.length = ys.length * esz
  m : ys.length = m
  sz : ∀ e ∈ ys, e.length = esz
  one : ∀ v ∈ news, v.oneCell' = true
  fl : Flat (DRep E.F w) esz ys news

theorem From.data {v : Value} {ys : List (List Dat)} (h : DRep E.F w v (.sl ys)) {esz : Nat} (hy : ∀ e ∈ ys, e.length = esz) (hne : ys ≠ []) : ∃ news, From E w esz v ys.length ys news ∧ ∃ a c, v = .slice (some a) ys.length c := by
  obtain ⟨b, off, cap, news, rfl, h1, h2, h3, h4⟩ := h.flat hy hne
  exact ⟨news, ⟨⟨_, _, _, rfl, Nat.le_refl _, h2⟩, h1, rfl, hy, h3, h4⟩, _, _, rfl⟩

end

section
variable {P : Program} {T : TypeId → Option TI} {F0 : Nat → Prop} {w0 : World}
variable {dr : Bool} {ops rest : List Oper} {K : St → Prop} {n : Nat} {sl : List (Nat × SVal)} {mem : List Blk} {ck : Nat} {df : List (FuncId × List Cell)} {acc : List Nat}
variable {d : Tmp} {op : Op} {ty : TypeId} {pos : String} {aft : Array Edge} {g : Option (Nat × Bool)}

end

section
variable {P : Program} {T : TypeId → Option TI} {B : Base} {Q : Ex → St → Prop} {n : Nat} {sl : List (Nat × SVal)} {mem : List Blk} {ck : Nat} {df : List (FuncId × List Cell)}

end
end Go.Abs
end
end
section
section
section
namespace Go.Abs
open Go.RowKit

/-- The entries of a map of data, as the general map has them. -/
def asPV (es : List (Value × Dat)) : List (Value × PV) := es.map fun e => (e.1, PV.one e.2)

section
variable {P : Program} {F0 : Nat → Prop} {w0 w : World} {E : Env} {mem : List Blk} {ck : Nat}

theorem McOk.look {es : List (Value × Cell)} {bs : List Nat} {c : Nat} {A : Array MapEntry} (h : McOk E w es bs c A) {kv : Value} {p : Cell} {i : Nat} (hi : es[i]? = some (kv, p)) :
    ∃ m, A[i]? = some m ∧ m.key = kv ∧ CRep E w m.val p ∧ findE kv A.toList 0 = some (i, m.val) := by
  obtain ⟨h1, h2, h3, h0, h4, h5⟩ := h
  have hlt := lt_of_getElem? hi
  have hm : A[i]? = some (A[i]'(by omega)) := Array.getElem?_eq_getElem _
  obtain ⟨q1, p', q2, q3⟩ := h5 i _ hm
  rw [hi] at q2
  simp only [Option.some.injEq, Prod.mk.injEq] at q2
  obtain ⟨q4, q5⟩ := q2
  subst q5
  refine ⟨_, hm, q4.symm, q3, ?_⟩
  have := findE_some (k := kv) (es := A.toList) (i := 0) (j := i) (e := A[i]'(by omega)) (by rw [Array.getElem?_toList]; exact hm) q4.symm (fun l e' hl he => by
    obtain ⟨_, p2, q6, _⟩ := h5 l e' (by rw [← Array.getElem?_toList]; exact he)
    intro q
    have hp := List.pairwise_iff_getElem.1 h0 l i (by simp; omega) (by simpa using hlt) hl
    apply hp
    have hlt2 := lt_of_getElem? q6
    rw [List.getElem?_eq_getElem hlt2] at q6
    rw [List.getElem?_eq_getElem hlt] at hi
    simp only [Option.some.injEq] at q6 hi
    simp only [List.getElem_map, q6, hi, q])
  simpa using this

theorem McOk.not {es : List (Value × Cell)} {bs : List Nat} {c : Nat} {A : Array MapEntry} (h : McOk E w es bs c A) {kv : Value} (hn : ∀ e ∈ es, e.1 ≠ kv) : findE kv A.toList 0 = none := by
  refine findE_none fun e he => ?_
  obtain ⟨i, hi⟩ := List.mem_iff_getElem?.1 he
  obtain ⟨_, p, q, _⟩ := h.2.2.2.2.2 i e (by rw [← Array.getElem?_toList]; exact hi)
  exact fun q' => hn _ (List.mem_of_getElem? q) q'.symm

theorem McOk.good {es : List (Value × Cell)} {bs : List Nat} {c : Nat} {A : Array MapEntry} {G : Value → Prop} (h : McOk E w es bs c A) (hg : ∀ e ∈ es, G e.1) : ∀ e ∈ A.toList, G e.key := by
  intro e he
  obtain ⟨i, hi⟩ := List.mem_iff_getElem?.1 he
  obtain ⟨_, p, q, _⟩ := h.2.2.2.2.2 i e (by rw [← Array.getElem?_toList]; exact hi)
  exact hg _ (List.mem_of_getElem? q)

/-- Memory that is let go at its end; what its arrays hold becomes data. -/
def CFb (mem : List Blk) (base : Nat) : Cell → Dat → Prop
  | .arr r k n, y => base ≤ r ∧ ∃ t z es, mem[r]? = some (.arr k t z es) ∧ n ≤ es.length ∧ y = .sl (es.take n)
  | c, y => c.dat = some y

def thawE (E : Env) (mem : List Blk) (base : Nat) : Env :=
  { E with F := fun b => E.F b ∨ ∃ r k t z es, base ≤ r ∧ mem[r]? = some (.arr k t z es) ∧ E.cap r ≠ 0 ∧ b = E.blk r }

end

section
variable {P : Program} {T : TypeId → Option TI} {F0 : Nat → Prop} {w0 : World}
variable {dr : Bool} {ops rest : List Oper} {K : St → Prop} {n : Nat} {sl : List (Nat × SVal)} {mem : List Blk} {ck : Nat} {df : List (FuncId × List Cell)} {acc : List Nat}
variable {d : Tmp} {op : Op} {ty : TypeId} {pos : String} {aft : Array Edge} {g : Option (Nat × Bool)}

/-! Maps of data. -/
/-! Maps of cells. -/
end

section
variable {P : Program} {T : TypeId → Option TI} {B : Base} {Q : Ex → St → Prop} {n : Nat} {sl : List (Nat × SVal)} {mem : List Blk} {ck : Nat} {df : List (FuncId × List Cell)}

end
end Go.Abs
end
end
section
section
namespace Go.Abs
open Go.RowKit
section
variable {P : Program} {T : TypeId → Option TI} {F0 : Nat → Prop} {w0 w : World} {E : Env} {mem : List Blk} {ck : Nat}

/-- Elements, one after the other. -/
def FlatC (D : Value → Cell → Prop) (esz : Nat) (es : List (List Cell)) (c : List Value) : Prop :=
  ∀ (i j : Nat) e v x, es[i]? = some e → e[j]? = some x → c[i * esz + j]? = some v → D v x

end

section
variable {P : Program} {T : TypeId → Option TI} {F0 : Nat → Prop} {w0 : World}
variable {dr : Bool} {ops rest : List Oper} {K : St → Prop} {n : Nat} {sl : List (Nat × SVal)} {mem : List Blk} {ck : Nat} {df : List (FuncId × List Cell)} {acc : List Nat}
variable {d : Tmp} {op : Op} {ty : TypeId} {pos : String} {aft : Array Edge} {g : Option (Nat × Bool)}

end

section
variable {P : Program} {T : TypeId → Option TI} {B : Base} {Q : Ex → St → Prop} {n : Nat} {sl : List (Nat × SVal)} {mem : List Blk} {ck : Nat} {df : List (FuncId × List Cell)}

end
end Go.Abs
end
end
end
