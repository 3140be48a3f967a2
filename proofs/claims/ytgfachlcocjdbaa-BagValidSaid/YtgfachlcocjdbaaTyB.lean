/-
  The plain types of the program: values, rows, entries, numbers (for laws about tapes).
-/
import Derived.Test.YtgfachlcocjdbaaTyp
import Derived.Test.YtgfachlcocjdbaaTap
namespace Go.Proofs.Ytgfachlcocjdbaa
open Go.Abs Go.RowKit

def Val.wf (v : Val) : Prop := inI v.kind ∧ inI v.int ∧ v.text.size ≤ reachBytes

theorem ty_val {xs : List Dat} (h : TyD Try.prog 41 xs) : ∃ v : Val, xs = v.d ∧ v.wf := by
  obtain ⟨a, b, rfl, _, h1, a', b', rfl, _, h2, a'', b'', rfl, _, h3, rfl⟩ := ty_struct hT rfl rfl h
  obtain ⟨z1, rfl, w1⟩ := ty_int hT rfl rfl h1
  obtain ⟨z2, rfl, w2⟩ := ty_int hT rfl rfl h2
  obtain ⟨s, rfl, w3⟩ := ty_str hT rfl rfl h3
  exact ⟨⟨z1, z2, s⟩, rfl, w1, w2, w3⟩

theorem ty_row {xs : List Dat} (h : TyD Try.prog 32 xs) : ∃ r : List Val, xs = [rowD r] ∧ r.length * 32 ≤ reachBytes ∧ ∀ v ∈ r, v.wf := by
  obtain ⟨es, rfl, h1, h2⟩ := ty_slice hT rfl rfl rfl h
  obtain ⟨l, rfl, hl⟩ := list_lift (f := Val.d) (Q := Val.wf) es (fun el hel => ty_val (h2 el hel))
  exact ⟨l, rfl, by rw [List.length_map] at h1; exact h1, hl⟩

theorem ty_entry {xs : List Dat} (h : TyD Try.prog 34 xs) : ∃ e : Entry, xs = e.d ∧ inI e.count := by
  obtain ⟨a, b, rfl, _, h1, a', b', rfl, _, h2, rfl⟩ := ty_struct hT rfl rfl h
  obtain ⟨r, rfl, _⟩ := ty_row h1
  obtain ⟨z2, rfl, w2⟩ := ty_int hT rfl rfl h2
  exact ⟨⟨r, z2⟩, rfl, w2⟩

theorem ty_bag {xs : List Dat} (h : TyD Try.prog 23 xs) : ∃ r : List Entry, xs = [bagD r] ∧ r.length * 32 ≤ reachBytes ∧ ∀ e ∈ r, inI e.count := by
  obtain ⟨es, rfl, h1, h2⟩ := ty_slice hT rfl rfl rfl h
  obtain ⟨l, rfl, hl⟩ := list_lift (f := Entry.d) (Q := fun e => inI e.count) es (fun el hel => ty_entry (h2 el hel))
  exact ⟨l, rfl, by rw [List.length_map] at h1; exact h1, hl⟩

theorem ty_nums {xs : List Dat} (h : TyD Try.prog 22 xs) : ∃ r : List Int, xs = [numD r] ∧ r.length ≤ 17592186044416 := by
  obtain ⟨es, rfl, h1, h2⟩ := ty_slice hT rfl rfl rfl h
  obtain ⟨l, rfl, hl⟩ := list_lift (f := iD) (Q := inI) es (fun el hel => ty_int hT rfl rfl (h2 el hel))
  refine ⟨l, rfl, ?_⟩
  rw [List.length_map] at h1
  have h2 : l.length * 8 ≤ 140737488351232 := h1
  omega
end Go.Proofs.Ytgfachlcocjdbaa
