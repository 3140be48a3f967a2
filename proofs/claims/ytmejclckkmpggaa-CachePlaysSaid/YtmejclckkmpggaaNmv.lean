/-
  The document's Normalize gives a valid bag. Plain.
-/
import Derived.Test.YtmejclckkmpggaaSum
import Derived.Test.YtmejclckkmpggaaSmr
namespace Go.Proofs.Ytmejclckkmpggaa
open Go.Abs Go.RowKit
set_option linter.unusedSimpArgs false
set_option maxRecDepth 100000

theorem good_of : ∀ {l : List Entry} {p : Option Entry}, (∀ e ∈ l, e.ok = true) → l.Pairwise eR → (∀ q, p = some q → ∀ e ∈ l, eR q e) → goodFrom p l = true
  | [], _, _, _, _ => rfl
  | x :: l, p, h, hs, hp => by
    obtain ⟨h1, h2⟩ := List.pairwise_cons.1 hs
    have ih := good_of (p := some x) (fun e he => h e (by simp [he])) h2 (fun q hq => by cases hq; exact h1)
    simp only [goodFrom, Bool.and_eq_true]
    refine ⟨⟨h x (by simp), ?_⟩, ih⟩
    cases p with
    | none => rfl
    | some q => exact decide_eq_true (hp q rfl x (by simp))

end Go.Proofs.Ytmejclckkmpggaa
