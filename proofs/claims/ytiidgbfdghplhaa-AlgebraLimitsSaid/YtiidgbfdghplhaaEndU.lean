/-
  AlgebraLimits: for every input the law returns true.
-/
import Derived.Test.YtiidgbfdghplhaaTyB
import Derived.Test.YtiidgbfdghplhaaLau
import Derived.Test.YtiidgbfdghplhaaRows
namespace Go.Proofs.Ytiidgbfdghplhaa
open Go.Abs Go.ChangeShapes Go.WideShapes Go.ChangeAt Go.RowKit

theorem own : ownKnob Try.prog.godebug = none := by kernel_rfl
theorem laidOut : laidOutB Try.prog = true := by kernel_rfl

theorem ty_byte {xs : List Dat} (h : TyD Try.prog 5 xs) : ∃ z : Int, xs = [.lit (.int .u8 z)] ∧ 0 ≤ z ∧ z ≤ 255 := ty_u8 hT rfl rfl h

theorem algebraLimits_all (ps : List PV) (h : TyPs Try.prog Try.f4.params.toList ps) : PCall Try.prog 4 ps (.v (.one (.lit (.bool true)))) := by
  match ps, h with
  | [.one x0], ⟨h0, _⟩ =>
    obtain ⟨n, e0, w0⟩ := ty_byte h0.2
    simp only [List.cons.injEq, and_true] at e0
    subst e0
    exact lawAlgLimits_c n w0.1 w0.2
  | [.agg _], ⟨q, _⟩ => exact absurd q.1 (by decide +kernel)
  | [], h => exact h.elim
  | _ :: _ :: _, h => exact h.2.elim

set_option maxRecDepth 100000 in
theorem algebraLimits_lifted (os : Os) (started : os.Started) (H : Type) (enc : TypeId × Value → H) :
    ReturnsInHanded {} Try.checked os 4 .any (Rows.algebraLimitsSpec.pre6 enc Try.prog Try.f4 Rows.algebraLimitsRow.domain false) (Rows.algebraLimitsSpec.post enc Try.prog Try.f4 false true false false) := by
  refine returnsInHanded_of_change_sized (C := Try.checked) own started (by kernel_rfl) Try.func4
    (ChangeSpec.witness6 (enc := enc) (C := Try.checked) false ⟨#[], #[.int .u8 0], []⟩ 8 (by kernel_rfl) (by kernel_rfl) (by kernel_rfl) (by kernel_rfl)) ?_
  intro W base args ds gs before hval hW _ hsz _
  exact law_calls (tb := 4) (S := [5]) laidOut (by kernel_rfl) (by kernel_rfl) (by kernel_rfl) (by kernel_rfl) rfl
    (fun ds hl => match ds, hl with | [_], _ => ⟨rfl, rfl, rfl⟩) algebraLimits_all hval hW hsz

theorem algebraLimits_holds : Rows.AlgebraLimitsSaid :=
  OpenClaim.holds_of_wide 4 Try.f4 rfl rfl rfl rfl rfl rfl rfl ⟨rfl, rfl, rfl, rfl, rfl⟩ rfl rfl rfl rfl rfl (by kernel_rfl) Try.func4 (by kernel_rfl)
    (of_decide_eq_true (by kernel_rfl)) (by unfold Func.isWrapper; first | (rw [if_pos (by decide +kernel)]; kernel_rfl) | (rw [if_neg (by decide +kernel)]; exact ⟨rfl, rfl⟩))
    (fun os started H enc _ => algebraLimits_lifted os started H enc)

end Go.Proofs.Ytiidgbfdghplhaa
