/-
  ReleasePublishes: for every input the law returns true.
-/
import Derived.Test.YtlacmjfgaehhkaaTyR
import Derived.Test.YtlacmjfgaehhkaaLawA
import Derived.Test.YtlacmjfgaehhkaaRows
namespace Go.Proofs.Ytlacmjfgaehhkaa
open Go.Abs Go.ChangeShapes Go.WideShapes Go.ChangeAt Go.RowKit

theorem own : ownKnob Try.prog.godebug = none := by kernel_rfl
theorem laidOut : laidOutB Try.prog = true := by kernel_rfl

theorem publishes_all (ps : List PV) (h : TyPs Try.prog Try.f3.params.toList ps) : PCall Try.prog 3 ps (.v (.one (.lit (.bool true)))) := by
  match ps, h with
  | [.agg x1, .one x2, .one x3], ⟨h1, h2, h3, _⟩ =>
    obtain ⟨r, rfl, _⟩ := ty_rls h1.2
    obtain ⟨z, hz, _⟩ := ty_int3 h2.2
    obtain ⟨rows, hr, _⟩ := ty_bag h3.2
    simp only [List.cons.injEq, and_true] at hz hr
    subst hz; subst hr
    exact law_c r z rows
  | [.one _, _, _], ⟨h1, _⟩ => exact absurd h1.1 (by decide +kernel)
  | [_, .agg _, _], ⟨_, h2, _⟩ => exact absurd h2.1 (by decide +kernel)
  | [_, _, .agg _], ⟨_, _, h3, _⟩ => exact absurd h3.1 (by decide +kernel)
  | [], h => exact h.elim
  | [_], h => exact h.2.elim
  | [_, _], h => exact h.2.2.elim
  | _ :: _ :: _ :: _ :: _, h => exact h.2.2.2.elim

set_option maxRecDepth 100000 in
theorem publishes_lifted (os : Os) (started : os.Started) (H : Type) (enc : TypeId × Value → H) :
    ReturnsInHanded {} Try.checked os 3 .any (Rows.releasePublishesSpec.pre6 enc Try.prog Try.f3 Rows.releasePublishesRow.domain false) (Rows.releasePublishesSpec.post enc Try.prog Try.f3 false true false false) := by
  refine returnsInHanded_of_change_sized (C := Try.checked) own started (by kernel_rfl) Try.func3
    (ChangeSpec.witness6 (enc := enc) (C := Try.checked) false ⟨#[], #[.agg #[.string ⟨#[]⟩, .string ⟨#[]⟩, .int .i64 0], .int .i64 0, .slice none 0 0], []⟩ 8 (by kernel_rfl) (by kernel_rfl) (by kernel_rfl) (by kernel_rfl)) ?_
  intro W base args ds gs before hval hW _ hsz _
  exact law_calls (tb := 4) (S := [23, 9, 3, 24, 41, 39, 38, 2]) laidOut (by kernel_rfl) (by kernel_rfl) (by kernel_rfl) (by kernel_rfl) rfl
    (fun ds hl => match ds, hl with | [_, _, _], _ => ⟨rfl, rfl, rfl⟩) publishes_all hval hW hsz

theorem publishes_holds : Rows.ReleasePublishesSaid :=
  OpenClaim.holds_of_wide 3 Try.f3 rfl rfl rfl rfl rfl rfl rfl ⟨rfl, rfl, rfl, rfl, rfl⟩ rfl rfl rfl rfl rfl (by kernel_rfl) Try.func3 (by kernel_rfl)
    (of_decide_eq_true (by kernel_rfl)) (by unfold Func.isWrapper; first | (rw [if_pos (by decide +kernel)]; kernel_rfl) | (rw [if_neg (by decide +kernel)]; exact ⟨rfl, rfl⟩))
    (fun os started H enc _ => publishes_lifted os started H enc)
end Go.Proofs.Ytlacmjfgaehhkaa
