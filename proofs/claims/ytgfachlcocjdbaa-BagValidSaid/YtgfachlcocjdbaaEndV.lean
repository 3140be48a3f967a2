/-
  BagValid: for every input the law returns true.
-/
import Derived.Test.YtgfachlcocjdbaaTyB
import Derived.Test.YtgfachlcocjdbaaLawV
import Derived.Test.YtgfachlcocjdbaaRows
namespace Go.Proofs.Ytgfachlcocjdbaa
open Go.Abs Go.ChangeShapes Go.WideShapes Go.ChangeAt Go.RowKit

theorem own : ownKnob Try.prog.godebug = none := by kernel_rfl
theorem laidOut : laidOutB Try.prog = true := by kernel_rfl

theorem bagValid_all (ps : List PV) (h : TyPs Try.prog Try.f6.params.toList ps) : PCall Try.prog 6 ps (.v (.one (.lit (.bool true)))) := by
  match ps, h with
  | [.one x0, .one x1], ⟨h0, h1, _⟩ =>
    obtain ⟨t, e0, w0⟩ := ty_nums h0.2
    simp only [List.cons.injEq, and_true] at e0
    subst e0
    obtain ⟨b, e1, w1⟩ := ty_bag h1.2
    simp only [List.cons.injEq, and_true] at e1
    subst e1
    exact lawValid_c t b w0
  | [.agg _, _], ⟨q, _, _⟩ => exact absurd q.1 (by decide +kernel)
  | [_, .agg _], ⟨_, q, _⟩ => exact absurd q.1 (by decide +kernel)
  | [], h => exact h.elim
  | [_], h => exact h.2.elim
  | _ :: _ :: _ :: _, h => exact h.2.2.elim

set_option maxRecDepth 100000 in
theorem bagValid_lifted (os : Os) (started : os.Started) (H : Type) (enc : TypeId × Value → H) :
    ReturnsInHanded {} Try.checked os 6 .any (Rows.bagValidSpec.pre6 enc Try.prog Try.f6 Rows.bagValidRow.domain false) (Rows.bagValidSpec.post enc Try.prog Try.f6 false true false false) := by
  refine returnsInHanded_of_change_sized (C := Try.checked) own started (by kernel_rfl) Try.func6
    (ChangeSpec.witness6 (enc := enc) (C := Try.checked) false ⟨#[], #[.slice none 0 0, .slice none 0 0], []⟩ 8 (by kernel_rfl) (by kernel_rfl) (by kernel_rfl) (by kernel_rfl)) ?_
  intro W base args ds gs before hval hW _ hsz _
  exact law_calls (tb := 4) (S := [22, 3, 23, 34, 32, 41, 2, 9]) laidOut (by kernel_rfl) (by kernel_rfl) (by kernel_rfl) (by kernel_rfl) rfl
    (fun ds hl => match ds, hl with | [_, _], _ => ⟨rfl, rfl, rfl⟩) bagValid_all hval hW hsz

theorem bagValid_holds : Rows.BagValidSaid :=
  OpenClaim.holds_of_wide 6 Try.f6 rfl rfl rfl rfl rfl rfl rfl ⟨rfl, rfl, rfl, rfl, rfl⟩ rfl rfl rfl rfl rfl (by kernel_rfl) Try.func6 (by kernel_rfl)
    (of_decide_eq_true (by kernel_rfl)) (by unfold Func.isWrapper; first | (rw [if_pos (by decide +kernel)]; kernel_rfl) | (rw [if_neg (by decide +kernel)]; exact ⟨rfl, rfl⟩))
    (fun os started H enc _ => bagValid_lifted os started H enc)

end Go.Proofs.Ytgfachlcocjdbaa
