/-
  AlgebraAssociates: for every input the law returns true.
-/
import Derived.Test.YtiidgbfdghplhaaTyB
import Derived.Test.YtiidgbfdghplhaaLat
import Derived.Test.YtiidgbfdghplhaaRows
namespace Go.Proofs.Ytiidgbfdghplhaa
open Go.Abs Go.ChangeShapes Go.WideShapes Go.ChangeAt Go.RowKit

theorem own : ownKnob Try.prog.godebug = none := by kernel_rfl
theorem laidOut : laidOutB Try.prog = true := by kernel_rfl

theorem algebraAssociates_all (ps : List PV) (h : TyPs Try.prog Try.f5.params.toList ps) : PCall Try.prog 5 ps (.v (.one (.lit (.bool true)))) := by
  match ps, h with
  | [.one x0], ⟨h0, _⟩ =>
    obtain ⟨t, e0, w0⟩ := ty_nums h0.2
    simp only [List.cons.injEq, and_true] at e0
    subst e0
    exact lawAssoc_c t w0
  | [.agg _], ⟨q, _⟩ => exact absurd q.1 (by decide +kernel)
  | [], h => exact h.elim
  | _ :: _ :: _, h => exact h.2.elim

set_option maxRecDepth 100000 in
theorem algebraAssociates_lifted (os : Os) (started : os.Started) (H : Type) (enc : TypeId × Value → H) :
    ReturnsInHanded {} Try.checked os 5 .any (Rows.algebraAssociatesSpec.pre6 enc Try.prog Try.f5 Rows.algebraAssociatesRow.domain false) (Rows.algebraAssociatesSpec.post enc Try.prog Try.f5 false true false false) := by
  refine returnsInHanded_of_change_sized (C := Try.checked) own started (by kernel_rfl) Try.func5
    (ChangeSpec.witness6 (enc := enc) (C := Try.checked) false ⟨#[], #[.slice none 0 0], []⟩ 8 (by kernel_rfl) (by kernel_rfl) (by kernel_rfl) (by kernel_rfl)) ?_
  intro W base args ds gs before hval hW _ hsz _
  exact law_calls (tb := 4) (S := [22, 3]) laidOut (by kernel_rfl) (by kernel_rfl) (by kernel_rfl) (by kernel_rfl) rfl
    (fun ds hl => match ds, hl with | [_], _ => ⟨rfl, rfl, rfl⟩) algebraAssociates_all hval hW hsz

theorem algebraAssociates_holds : Rows.AlgebraAssociatesSaid :=
  OpenClaim.holds_of_wide 5 Try.f5 rfl rfl rfl rfl rfl rfl rfl ⟨rfl, rfl, rfl, rfl, rfl⟩ rfl rfl rfl rfl rfl (by kernel_rfl) Try.func5 (by kernel_rfl)
    (of_decide_eq_true (by kernel_rfl)) (by unfold Func.isWrapper; first | (rw [if_pos (by decide +kernel)]; kernel_rfl) | (rw [if_neg (by decide +kernel)]; exact ⟨rfl, rfl⟩))
    (fun os started H enc _ => algebraAssociates_lifted os started H enc)

end Go.Proofs.Ytiidgbfdghplhaa
