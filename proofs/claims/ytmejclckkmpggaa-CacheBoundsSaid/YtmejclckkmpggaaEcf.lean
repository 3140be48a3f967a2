/-
  CacheBounds: for every input the law returns true.
-/
import Derived.Test.YtmejclckkmpggaaTyC
import Derived.Test.YtmejclckkmpggaaLcf
import Derived.Test.YtmejclckkmpggaaRows
namespace Go.Proofs.Ytmejclckkmpggaa
open Go.Abs Go.ChangeShapes Go.WideShapes Go.ChangeAt Go.RowKit

theorem own : ownKnob Try.prog.godebug = none := by kernel_rfl
theorem laidOut : laidOutB Try.prog = true := by kernel_rfl

theorem ty_ints {xs : List Dat} (h : TyD Try.prog 42 xs) : ∃ r : List Int, xs = [intsD r] ∧ r.length ≤ 17592186044416 := by
  obtain ⟨es, rfl, h1, h2⟩ := ty_slice hT rfl rfl rfl h
  obtain ⟨l, rfl, hl⟩ := list_lift (f := fun n => [.lit (.int .i64 n)]) (Q := inI) es (fun el hel => ty_int hT rfl rfl (h2 el hel))
  refine ⟨l, rfl, ?_⟩
  rw [List.length_map] at h1
  have h2 : l.length * 8 ≤ 140737488351232 := h1
  omega

theorem cacheBounds_all (ps : List PV) (h : TyPs Try.prog Try.f5.params.toList ps) : PCall Try.prog 5 ps (.v (.one (.lit (.bool true)))) := by
  match ps, h with
  | [.one x0, .one x1], ⟨h0, h1, _⟩ =>
    obtain ⟨n, e0, w0⟩ := ty_int3 h0.2
    simp only [List.cons.injEq, and_true] at e0
    subst e0
    obtain ⟨order, e1, w1⟩ := ty_ints h1.2
    simp only [List.cons.injEq, and_true] at e1
    subst e1
    exact lawBounds_c n order w1
  | [.agg _, _], ⟨q, _, _⟩ => exact absurd q.1 (by decide +kernel)
  | [_, .agg _], ⟨_, q, _⟩ => exact absurd q.1 (by decide +kernel)
  | [], h => exact h.elim
  | [_], h => exact h.2.elim
  | _ :: _ :: _ :: _, h => exact h.2.2.elim

set_option maxRecDepth 100000 in
theorem cacheBounds_lifted (os : Os) (started : os.Started) (H : Type) (enc : TypeId × Value → H) :
    ReturnsInHanded {} Try.checked os 5 .any (Rows.cacheBoundsSpec.pre6 enc Try.prog Try.f5 Rows.cacheBoundsRow.domain false) (Rows.cacheBoundsSpec.post enc Try.prog Try.f5 false true false false) := by
  refine returnsInHanded_of_change_sized (C := Try.checked) own started (by kernel_rfl) Try.func5
    (ChangeSpec.witness6 (enc := enc) (C := Try.checked) false ⟨#[], #[.int .i64 0, .slice none 0 0], []⟩ 8 (by kernel_rfl) (by kernel_rfl) (by kernel_rfl) (by kernel_rfl)) ?_
  intro W base args ds gs before hval hW _ hsz _
  exact law_calls (tb := 4) (S := [3, 42]) laidOut (by kernel_rfl) (by kernel_rfl) (by kernel_rfl) (by kernel_rfl) rfl
    (fun ds hl => match ds, hl with | [_, _], _ => ⟨rfl, rfl, rfl⟩) cacheBounds_all hval hW hsz

theorem cacheBounds_holds : Rows.CacheBoundsSaid :=
  OpenClaim.holds_of_wide 5 Try.f5 rfl rfl rfl rfl rfl rfl rfl ⟨rfl, rfl, rfl, rfl, rfl⟩ rfl rfl rfl rfl rfl (by kernel_rfl) Try.func5 (by kernel_rfl)
    (of_decide_eq_true (by kernel_rfl)) (by unfold Func.isWrapper; first | (rw [if_pos (by decide +kernel)]; kernel_rfl) | (rw [if_neg (by decide +kernel)]; exact ⟨rfl, rfl⟩))
    (fun os started H enc _ => cacheBounds_lifted os started H enc)

end Go.Proofs.Ytmejclckkmpggaa
