/-
  ReleaseHides: for every input the law returns true.
-/
import Derived.Test.YtlacmjfgaehhkaaTyR
import Derived.Test.YtlacmjfgaehhkaaLawD
import Derived.Test.YtlacmjfgaehhkaaRows
namespace Go.Proofs.Ytlacmjfgaehhkaa
open Go.Abs Go.ChangeShapes Go.WideShapes Go.ChangeAt Go.RowKit

theorem own : ownKnob Try.prog.godebug = none := by kernel_rfl
theorem laidOut : laidOutB Try.prog = true := by kernel_rfl

theorem ty_ints44 {xs : List Dat} (h : TyD Try.prog 34 xs) : ∃ r : List Int, xs = [intsD r] ∧ r.length ≤ 17592186044416 := by
  obtain ⟨es, rfl, h1, h2⟩ := ty_slice hT rfl rfl rfl h
  obtain ⟨l, rfl, hl⟩ := list_lift (f := intD) (Q := inI) es (fun el hel => ty_int hT rfl rfl (h2 el hel))
  refine ⟨l, rfl, ?_⟩
  rw [List.length_map] at h1
  have h2 : l.length * 8 ≤ 140737488351232 := h1
  omega

theorem relHides_all (ps : List PV) (h : TyPs Try.prog Try.f5.params.toList ps) : PCall Try.prog 5 ps (.v (.one (.lit (.bool true)))) := by
  match ps, h with
  | [.one x0, .one x1, .one x2], ⟨h0, h1, h2, _⟩ =>
    obtain ⟨n, e0, w0⟩ := ty_int3 h0.2
    simp only [List.cons.injEq, and_true] at e0
    subst e0
    obtain ⟨counts, e1, w1⟩ := ty_ints44 h1.2
    simp only [List.cons.injEq, and_true] at e1
    subst e1
    obtain ⟨noise, e2, w2⟩ := ty_ints44 h2.2
    simp only [List.cons.injEq, and_true] at e2
    subst e2
    exact lawHides_c n counts noise w1 w2
  | [.agg _, _, _], ⟨q, _, _, _⟩ => exact absurd q.1 (by decide +kernel)
  | [_, .agg _, _], ⟨_, q, _, _⟩ => exact absurd q.1 (by decide +kernel)
  | [_, _, .agg _], ⟨_, _, q, _⟩ => exact absurd q.1 (by decide +kernel)
  | [], h => exact h.elim
  | [_], h => exact h.2.elim
  | [_, _], h => exact h.2.2.elim
  | _ :: _ :: _ :: _ :: _, h => exact h.2.2.2.elim

set_option maxRecDepth 100000 in
theorem relHides_lifted (os : Os) (started : os.Started) (H : Type) (enc : TypeId × Value → H) :
    ReturnsInHanded {} Try.checked os 5 .any (Rows.releaseHidesSpec.pre6 enc Try.prog Try.f5 Rows.releaseHidesRow.domain false) (Rows.releaseHidesSpec.post enc Try.prog Try.f5 false true false false) := by
  refine returnsInHanded_of_change_sized (C := Try.checked) own started (by kernel_rfl) Try.func5
    (ChangeSpec.witness6 (enc := enc) (C := Try.checked) false ⟨#[], #[.int .i64 0, .slice none 0 0, .slice none 0 0], []⟩ 8 (by kernel_rfl) (by kernel_rfl) (by kernel_rfl) (by kernel_rfl)) ?_
  intro W base args ds gs before hval hW _ hsz _
  exact law_calls (tb := 4) (S := [3, 34]) laidOut (by kernel_rfl) (by kernel_rfl) (by kernel_rfl) (by kernel_rfl) rfl
    (fun ds hl => match ds, hl with | [_, _, _], _ => ⟨rfl, rfl, rfl⟩) relHides_all hval hW hsz

theorem relHides_holds : Rows.ReleaseHidesSaid :=
  OpenClaim.holds_of_wide 5 Try.f5 rfl rfl rfl rfl rfl rfl rfl ⟨rfl, rfl, rfl, rfl, rfl⟩ rfl rfl rfl rfl rfl (by kernel_rfl) Try.func5 (by kernel_rfl)
    (of_decide_eq_true (by kernel_rfl)) (by unfold Func.isWrapper; first | (rw [if_pos (by decide +kernel)]; kernel_rfl) | (rw [if_neg (by decide +kernel)]; exact ⟨rfl, rfl⟩))
    (fun os started H enc _ => relHides_lifted os started H enc)

end Go.Proofs.Ytlacmjfgaehhkaa
