/-
  AlgebraProject: for every input the law returns true.
-/
import Derived.Test.YtiidgbfdghplhaaTyB
import Derived.Test.YtiidgbfdghplhaaLas
import Derived.Test.YtiidgbfdghplhaaRows
namespace Go.Proofs.Ytiidgbfdghplhaa
open Go.Abs Go.ChangeShapes Go.WideShapes Go.ChangeAt Go.RowKit

theorem own : ownKnob Try.prog.godebug = none := by kernel_rfl
theorem laidOut : laidOutB Try.prog = true := by kernel_rfl

theorem algebraProject_all (ps : List PV) (h : TyPs Try.prog Try.f3.params.toList ps) : PCall Try.prog 3 ps (.v (.one (.lit (.bool true)))) := by
  match ps, h with
  | [.one x0, .one x1, .one x2], ⟨h0, h1, h2, _⟩ =>
    obtain ⟨t, e0, w0⟩ := ty_nums h0.2
    simp only [List.cons.injEq, and_true] at e0
    subst e0
    obtain ⟨b, e1, w1⟩ := ty_bag h1.2
    simp only [List.cons.injEq, and_true] at e1
    subst e1
    obtain ⟨a, e2, w2⟩ := ty_nums h2.2
    simp only [List.cons.injEq, and_true] at e2
    subst e2
    exact lawProject_c t b a w0
  | [.agg _, _, _], ⟨q, _, _, _⟩ => exact absurd q.1 (by decide +kernel)
  | [_, .agg _, _], ⟨_, q, _, _⟩ => exact absurd q.1 (by decide +kernel)
  | [_, _, .agg _], ⟨_, _, q, _⟩ => exact absurd q.1 (by decide +kernel)
  | [], h => exact h.elim
  | [_], h => exact h.2.elim
  | [_, _], h => exact h.2.2.elim
  | _ :: _ :: _ :: _ :: _, h => exact h.2.2.2.elim

set_option maxRecDepth 100000 in
theorem algebraProject_lifted (os : Os) (started : os.Started) (H : Type) (enc : TypeId × Value → H) :
    ReturnsInHanded {} Try.checked os 3 .any (Rows.algebraProjectSpec.pre6 enc Try.prog Try.f3 Rows.algebraProjectRow.domain false) (Rows.algebraProjectSpec.post enc Try.prog Try.f3 false true false false) := by
  refine returnsInHanded_of_change_sized (C := Try.checked) own started (by kernel_rfl) Try.func3
    (ChangeSpec.witness6 (enc := enc) (C := Try.checked) false ⟨#[], #[.slice none 0 0, .slice none 0 0, .slice none 0 0], []⟩ 8 (by kernel_rfl) (by kernel_rfl) (by kernel_rfl) (by kernel_rfl)) ?_
  intro W base args ds gs before hval hW _ hsz _
  exact law_calls (tb := 4) (S := [22, 3, 23, 38, 36, 34, 2, 9]) laidOut (by kernel_rfl) (by kernel_rfl) (by kernel_rfl) (by kernel_rfl) rfl
    (fun ds hl => match ds, hl with | [_, _, _], _ => ⟨rfl, rfl, rfl⟩) algebraProject_all hval hW hsz

theorem algebraProject_holds : Rows.AlgebraProjectSaid :=
  OpenClaim.holds_of_wide 3 Try.f3 rfl rfl rfl rfl rfl rfl rfl ⟨rfl, rfl, rfl, rfl, rfl⟩ rfl rfl rfl rfl rfl (by kernel_rfl) Try.func3 (by kernel_rfl)
    (of_decide_eq_true (by kernel_rfl)) (by unfold Func.isWrapper; first | (rw [if_pos (by decide +kernel)]; kernel_rfl) | (rw [if_neg (by decide +kernel)]; exact ⟨rfl, rfl⟩))
    (fun os started H enc _ => algebraProject_lifted os started H enc)

end Go.Proofs.Ytiidgbfdghplhaa
