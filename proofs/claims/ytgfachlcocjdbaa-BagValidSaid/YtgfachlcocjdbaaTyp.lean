/-
  What the plain types of the program are as data.
-/
import Derived.Test.YtgfachlcocjdbaaLast
import Derived.Test.YtgfachlcocjdbaaTypes
namespace Go.Abs
open Go.RowKit

section
variable {P : Program} {T : TypeId → Option TI} {t : TypeId} {i : TI} {xs : List Dat}

theorem bytes_of (hT : TypesOk P T) (ht : T t = some i) : P.bytesOf t = i.bytes := by
  obtain ⟨f, z, h1, _, h3, _⟩ := (hT t i ht).info
  simp [Program.bytesOf, h1, h3]

def inI (z : Int) : Prop := -9223372036854775808 ≤ z ∧ z ≤ 9223372036854775807

theorem ty_int (hT : TypesOk P T) (ht : T t = some i) (hi : i.desc = .int .i64) (h : TyD P t xs) : ∃ z, xs = [.lit (.int .i64 z)] ∧ inI z := by
  have hu := (hT t i ht).desc
  rw [hi] at hu
  obtain ⟨n, h⟩ := h
  cases n with
  | zero => exact h.elim
  | succ n =>
    simp only [tyD, show P.underlying t = some (.int .i64) from hu] at h
    obtain ⟨z, h1, h2⟩ := h
    refine ⟨z, h1, ?_⟩
    simpa [Lit.wf, IntKind.min, IntKind.max, IntKind.signed, IntKind.bits, inI] using h2

theorem ty_str (hT : TypesOk P T) (ht : T t = some i) (hi : i.desc = .str) (h : TyD P t xs) : ∃ s : ByteArray, xs = [.lit (.string s)] ∧ s.size ≤ reachBytes := by
  have hu := (hT t i ht).desc
  rw [hi] at hu
  obtain ⟨n, h⟩ := h
  cases n with
  | zero => exact h.elim
  | succ n => simpa only [tyD, show P.underlying t = some .string from hu] using h

theorem ty_slice (hT : TypesOk P T) {e : TypeId} {ei : TI} (ht : T t = some i) (hi : i.desc = .slice e) (he : T e = some ei) (h : TyD P t xs) : ∃ es, xs = [.sl es] ∧ es.length * ei.bytes ≤ reachBytes ∧ ∀ el ∈ es, TyD P e el := by
  have hu := (hT t i ht).desc
  rw [hi] at hu
  obtain ⟨n, h⟩ := h
  cases n with
  | zero => exact h.elim
  | succ n =>
    simp only [tyD, show P.underlying t = some (.slice e) from hu] at h
    obtain ⟨es, h1, h2, h3⟩ := h
    rw [bytes_of hT he] at h2
    exact ⟨es, h1, h2, fun el hel => ⟨n, h3 el hel⟩⟩

theorem ty_struct (hT : TypesOk P T) {fs : List (Nat × TypeId)} (ht : T t = some i) (hi : i.desc = .struct fs) (h : TyD P t xs) : pieces (TyD P) P.cellsOf (fs.map (·.2)) xs := by
  have hu := (hT t i ht).desc
  rw [hi] at hu
  obtain ⟨fields, hu, hf⟩ := hu
  obtain ⟨n, h⟩ := h
  cases n with
  | zero => exact h.elim
  | succ n =>
    simp only [tyD, hu] at h
    have e : fs.map (·.2) = fields.toList.map (·.type) := by rw [← hf]; simp
    rw [e]
    exact pieces_mono (fun t a q => ⟨n, q⟩) _ _ h

theorem list_lift {α : Type} {f : α → List Dat} {Q : α → Prop} : ∀ (es : List (List Dat)), (∀ el ∈ es, ∃ a, el = f a ∧ Q a) → ∃ l : List α, es = l.map f ∧ ∀ a ∈ l, Q a
  | [], _ => ⟨[], rfl, by simp⟩
  | e :: es, h => by
    obtain ⟨a, rfl, ha⟩ := h e (by simp)
    obtain ⟨l, rfl, hl⟩ := list_lift es (fun el hel => h el (by simp [hel]))
    exact ⟨a :: l, rfl, fun b hb => by rcases List.mem_cons.1 hb with rfl | hb; exact ha; exact hl b hb⟩
end
end Go.Abs
