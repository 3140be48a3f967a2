/-
  The plain types of the program: published groups, numbers.
-/
import Derived.Test.YtlacmjfgaehhkaaTyR
import Derived.Test.YtlacmjfgaehhkaaPub2
namespace Go.Proofs.Ytlacmjfgaehhkaa
open Go.Abs Go.RowKit

theorem ty_pub {xs : List Dat} (h : TyD Try.prog 43 xs) : ∃ e : Pub, xs = e.d ∧ inI e.count := by
  obtain ⟨a, b, rfl, _, h1, a', b', rfl, _, h2, rfl⟩ := ty_struct hT rfl rfl h
  obtain ⟨r, rfl, _⟩ := ty_row h1
  obtain ⟨z2, rfl, w2⟩ := ty_int hT rfl rfl h2
  exact ⟨⟨r, z2⟩, rfl, w2⟩

theorem ty_pubs {xs : List Dat} (h : TyD Try.prog 31 xs) : ∃ r : List Pub, xs = [pubD r] ∧ ∀ e ∈ r, inI e.count := by
  obtain ⟨es, rfl, h1, h2⟩ := ty_slice hT rfl rfl rfl h
  obtain ⟨l, rfl, hl⟩ := list_lift (f := Pub.d) (Q := fun e => inI e.count) es (fun el hel => ty_pub (h2 el hel))
  exact ⟨l, rfl, hl⟩

theorem ty_ints {xs : List Dat} (h : TyD Try.prog 34 xs) : ∃ r : List Int, xs = [intsD r] ∧ r.length * 8 ≤ reachBytes ∧ ∀ z ∈ r, inI z := by
  obtain ⟨es, rfl, h1, h2⟩ := ty_slice hT rfl rfl rfl h
  obtain ⟨l, rfl, hl⟩ := list_lift (f := intD) (Q := inI) es (fun el hel => ty_int hT rfl rfl (h2 el hel))
  exact ⟨l, rfl, by rw [List.length_map] at h1; exact h1, hl⟩

end Go.Proofs.Ytlacmjfgaehhkaa
