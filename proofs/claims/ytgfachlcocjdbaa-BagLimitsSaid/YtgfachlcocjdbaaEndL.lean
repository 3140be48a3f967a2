/-
  BagLimits: for every input the law returns true.
-/
import Derived.Test.YtgfachlcocjdbaaTyB
import Derived.Test.YtgfachlcocjdbaaLim
import Derived.Test.YtgfachlcocjdbaaRows
namespace Go.Proofs.Ytgfachlcocjdbaa
open Go.Abs Go.ChangeShapes Go.WideShapes Go.ChangeAt Go.RowKit

theorem own : ownKnob Try.prog.godebug = none := by kernel_rfl
theorem laidOut : laidOutB Try.prog = true := by kernel_rfl

theorem ty_byte {xs : List Dat} (h : TyD Try.prog 5 xs) : ∃ z : Int, xs = [.lit (.int .u8 z)] ∧ 0 ≤ z ∧ z ≤ 255 := ty_u8 hT rfl rfl h

theorem bagLimits_all (ps : List PV) (h : TyPs Try.prog Try.f5.params.toList ps) : PCall Try.prog 5 ps (.v (.one (.lit (.bool true)))) := by
  match ps, h with
  | [.one x0], ⟨h0, _⟩ =>
    obtain ⟨n, e0, w0⟩ := ty_byte h0.2
    simp only [List.cons.injEq, and_true] at e0
    subst e0
    exact lawLimits_c n w0.1 w0.2
  | [.agg _], ⟨q, _⟩ => exact absurd q.1 (by decide +kernel)
  | [], h => exact h.elim
  | _ :: _ :: _, h => exact h.2.elim

set_option maxRecDepth 100000 in
theorem bagLimits_lifted (os : Os) (started : os.Started) (H : Type) (enc : TypeId × Value → H) :
    ReturnsInHanded {} Try.checked os 5 .any (Rows.bagLimitsSpec.pre6 enc Try.prog Try.f5 Rows.bagLimitsRow.domain false) (Rows.bagLimitsSpec.post enc Try.prog Try.f5 false true false false) := by
  refine returnsInHanded_of_change_sized (C := Try.checked) own started (by kernel_rfl) Try.func5
    (ChangeSpec.witness6 (enc := enc) (C := Try.checked) false ⟨#[], #[.int .u8 0], []⟩ 8 (by kernel_rfl) (by kernel_rfl) (by kernel_rfl) (by kernel_rfl)) ?_
  intro W base args ds gs before hval hW _ hsz _
  exact law_calls (tb := 4) (S := [5]) laidOut (by kernel_rfl) (by kernel_rfl) (by kernel_rfl) (by kernel_rfl) rfl
    (fun ds hl => match ds, hl with | [_], _ => ⟨rfl, rfl, rfl⟩) bagLimits_all hval hW hsz

theorem bagLimits_holds : Rows.BagLimitsSaid :=
  OpenClaim.holds_of_wide 5 Try.f5 rfl rfl rfl rfl rfl rfl rfl ⟨rfl, rfl, rfl, rfl, rfl⟩ rfl rfl rfl rfl rfl (by kernel_rfl) Try.func5 (by kernel_rfl)
    (of_decide_eq_true (by kernel_rfl)) (by unfold Func.isWrapper; first | (rw [if_pos (by decide +kernel)]; kernel_rfl) | (rw [if_neg (by decide +kernel)]; exact ⟨rfl, rfl⟩))
    (fun os started H enc _ => bagLimits_lifted os started H enc)

end Go.Proofs.Ytgfachlcocjdbaa
