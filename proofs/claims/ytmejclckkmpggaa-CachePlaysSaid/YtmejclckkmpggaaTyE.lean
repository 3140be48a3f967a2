/-
  The laws' own types: acts, lists of bags, two bags.
-/
import Derived.Test.YtmejclckkmpggaaTyC
import Derived.Test.YtmejclckkmpggaaLce
namespace Go.Proofs.Ytmejclckkmpggaa
open Go.Abs Go.RowKit

theorem ty_act {xs : List Dat} (h : TyD Try.prog 51 xs) : ∃ a : Act, xs = a.d ∧ (inI a.kind ∧ inI a.day ∧ inI a.view) := by
  obtain ⟨a, b, rfl, _, h1, a', b', rfl, _, h2, a'', b'', rfl, _, h3, a3, b3, rfl, _, h4, rfl⟩ := ty_struct hT rfl rfl h
  obtain ⟨z1, rfl, w1⟩ := ty_int hT rfl rfl h1
  obtain ⟨v, rfl, w2⟩ := ty_val h2
  obtain ⟨z3, rfl, w3⟩ := ty_int hT rfl rfl h3
  obtain ⟨z4, rfl, w4⟩ := ty_int hT rfl rfl h4
  exact ⟨⟨z1, v, z3, z4⟩, rfl, w1, w3, w4⟩
end Go.Proofs.Ytmejclckkmpggaa
