/-
  ReleaseFinds, ReleaseDifferences and ReleaseSingle: for every input the laws return true.
-/
import Derived.Test.YtlacmjfgaehhkaaTyS
import Derived.Test.YtlacmjfgaehhkaaRows
import Derived.Test.YtlacmjfgaehhkaaLawE
import Derived.Test.YtlacmjfgaehhkaaLawF
import Derived.Test.YtlacmjfgaehhkaaLawG
namespace Go.Proofs.Ytlacmjfgaehhkaa
open Go.Abs Go.ChangeShapes Go.WideShapes Go.ChangeAt Go.RowKit

theorem own : ownKnob Try.prog.godebug = none := by kernel_rfl
theorem laidOut : laidOutB Try.prog = true := by kernel_rfl

theorem relFinds_all (ps : List PV) (h : TyPs Try.prog Try.f9.params.toList ps) : PCall Try.prog 9 ps (.v (.one (.lit (.bool true)))) := by
  match ps, h with
  | [.one x0, .one x1, .one x2], ⟨h0, h1, h2, _⟩ =>
    obtain ⟨a, e0, w0⟩ := ty_pubs h0.2
    simp only [List.cons.injEq, and_true] at e0
    subst e0
    obtain ⟨b, e1, w1⟩ := ty_pubs h1.2
    simp only [List.cons.injEq, and_true] at e1
    subst e1
    obtain ⟨keys, e2, w2⟩ := ty_row h2.2
    simp only [List.cons.injEq, and_true] at e2
    subst e2
    exact lawFinds_c a b keys w0 w1
  | [.agg _, _, _], ⟨q, _, _, _⟩ => exact absurd q.1 (by decide +kernel)
  | [_, .agg _, _], ⟨_, q, _, _⟩ => exact absurd q.1 (by decide +kernel)
  | [_, _, .agg _], ⟨_, _, q, _⟩ => exact absurd q.1 (by decide +kernel)
  | [], h => exact h.elim
  | [_], h => exact h.2.elim
  | [_, _], h => exact h.2.2.elim
  | _ :: _ :: _ :: _ :: _, h => exact h.2.2.2.elim

set_option maxRecDepth 100000 in
theorem relFinds_lifted (os : Os) (started : os.Started) (H : Type) (enc : TypeId × Value → H) :
    ReturnsInHanded {} Try.checked os 9 .any (Rows.releaseFindsSpec.pre6 enc Try.prog Try.f9 Rows.releaseFindsRow.domain false) (Rows.releaseFindsSpec.post enc Try.prog Try.f9 false true false false) := by
  refine returnsInHanded_of_change_sized (C := Try.checked) own started (by kernel_rfl) Try.func9
    (ChangeSpec.witness6 (enc := enc) (C := Try.checked) false ⟨#[], #[.slice none 0 0, .slice none 0 0, .slice none 0 0], []⟩ 8 (by kernel_rfl) (by kernel_rfl) (by kernel_rfl) (by kernel_rfl)) ?_
  intro W base args ds gs before hval hW _ hsz _
  exact law_calls (tb := 4) (S := [31, 43, 39, 38, 3, 2, 9]) laidOut (by kernel_rfl) (by kernel_rfl) (by kernel_rfl) (by kernel_rfl) rfl
    (fun ds hl => match ds, hl with | [_, _, _], _ => ⟨rfl, rfl, rfl⟩) relFinds_all hval hW hsz

theorem relFinds_holds : Rows.ReleaseFindsSaid :=
  OpenClaim.holds_of_wide 9 Try.f9 rfl rfl rfl rfl rfl rfl rfl ⟨rfl, rfl, rfl, rfl, rfl⟩ rfl rfl rfl rfl rfl (by kernel_rfl) Try.func9 (by kernel_rfl)
    (of_decide_eq_true (by kernel_rfl)) (by unfold Func.isWrapper; first | (rw [if_pos (by decide +kernel)]; kernel_rfl) | (rw [if_neg (by decide +kernel)]; exact ⟨rfl, rfl⟩))
    (fun os started H enc _ => relFinds_lifted os started H enc)

theorem relDifferences_all (ps : List PV) (h : TyPs Try.prog Try.f10.params.toList ps) : PCall Try.prog 10 ps (.v (.one (.lit (.bool true)))) := by
  match ps, h with
  | [.one x0, .one x1, .one x2], ⟨h0, h1, h2, _⟩ =>
    obtain ⟨n, e0, w0⟩ := ty_int3 h0.2
    simp only [List.cons.injEq, and_true] at e0
    subst e0
    obtain ⟨a, e1, w1⟩ := ty_ints h1.2
    simp only [List.cons.injEq, and_true] at e1
    subst e1
    obtain ⟨b, e2, w2⟩ := ty_ints h2.2
    simp only [List.cons.injEq, and_true] at e2
    subst e2
    exact lawDifferences_c n a b
  | [.agg _, _, _], ⟨q, _, _, _⟩ => exact absurd q.1 (by decide +kernel)
  | [_, .agg _, _], ⟨_, q, _, _⟩ => exact absurd q.1 (by decide +kernel)
  | [_, _, .agg _], ⟨_, _, q, _⟩ => exact absurd q.1 (by decide +kernel)
  | [], h => exact h.elim
  | [_], h => exact h.2.elim
  | [_, _], h => exact h.2.2.elim
  | _ :: _ :: _ :: _ :: _, h => exact h.2.2.2.elim

set_option maxRecDepth 100000 in
theorem relDifferences_lifted (os : Os) (started : os.Started) (H : Type) (enc : TypeId × Value → H) :
    ReturnsInHanded {} Try.checked os 10 .any (Rows.releaseDifferencesSpec.pre6 enc Try.prog Try.f10 Rows.releaseDifferencesRow.domain false) (Rows.releaseDifferencesSpec.post enc Try.prog Try.f10 false true false false) := by
  refine returnsInHanded_of_change_sized (C := Try.checked) own started (by kernel_rfl) Try.func10
    (ChangeSpec.witness6 (enc := enc) (C := Try.checked) false ⟨#[], #[.int .i64 0, .slice none 0 0, .slice none 0 0], []⟩ 8 (by kernel_rfl) (by kernel_rfl) (by kernel_rfl) (by kernel_rfl)) ?_
  intro W base args ds gs before hval hW _ hsz _
  exact law_calls (tb := 4) (S := [3, 34]) laidOut (by kernel_rfl) (by kernel_rfl) (by kernel_rfl) (by kernel_rfl) rfl
    (fun ds hl => match ds, hl with | [_, _, _], _ => ⟨rfl, rfl, rfl⟩) relDifferences_all hval hW hsz

theorem relDifferences_holds : Rows.ReleaseDifferencesSaid :=
  OpenClaim.holds_of_wide 10 Try.f10 rfl rfl rfl rfl rfl rfl rfl ⟨rfl, rfl, rfl, rfl, rfl⟩ rfl rfl rfl rfl rfl (by kernel_rfl) Try.func10 (by kernel_rfl)
    (of_decide_eq_true (by kernel_rfl)) (by unfold Func.isWrapper; first | (rw [if_pos (by decide +kernel)]; kernel_rfl) | (rw [if_neg (by decide +kernel)]; exact ⟨rfl, rfl⟩))
    (fun os started H enc _ => relDifferences_lifted os started H enc)

theorem relSingle_all (ps : List PV) (h : TyPs Try.prog Try.f8.params.toList ps) : PCall Try.prog 8 ps (.v (.one (.lit (.bool true)))) := by
  match ps, h with
  | [.one x0, .one x1, .one x2], ⟨h0, h1, h2, _⟩ =>
    obtain ⟨n, e0, w0⟩ := ty_int3 h0.2
    simp only [List.cons.injEq, and_true] at e0
    subst e0
    obtain ⟨counts, e1, w1⟩ := ty_ints h1.2
    simp only [List.cons.injEq, and_true] at e1
    subst e1
    obtain ⟨at_, e2, w2⟩ := ty_int3 h2.2
    simp only [List.cons.injEq, and_true] at e2
    subst e2
    exact lawSingle_c n counts at_
  | [.agg _, _, _], ⟨q, _, _, _⟩ => exact absurd q.1 (by decide +kernel)
  | [_, .agg _, _], ⟨_, q, _, _⟩ => exact absurd q.1 (by decide +kernel)
  | [_, _, .agg _], ⟨_, _, q, _⟩ => exact absurd q.1 (by decide +kernel)
  | [], h => exact h.elim
  | [_], h => exact h.2.elim
  | [_, _], h => exact h.2.2.elim
  | _ :: _ :: _ :: _ :: _, h => exact h.2.2.2.elim

set_option maxRecDepth 100000 in
theorem relSingle_lifted (os : Os) (started : os.Started) (H : Type) (enc : TypeId × Value → H) :
    ReturnsInHanded {} Try.checked os 8 .any (Rows.releaseSingleSpec.pre6 enc Try.prog Try.f8 Rows.releaseSingleRow.domain false) (Rows.releaseSingleSpec.post enc Try.prog Try.f8 false true false false) := by
  refine returnsInHanded_of_change_sized (C := Try.checked) own started (by kernel_rfl) Try.func8
    (ChangeSpec.witness6 (enc := enc) (C := Try.checked) false ⟨#[], #[.int .i64 0, .slice none 0 0, .int .i64 0], []⟩ 8 (by kernel_rfl) (by kernel_rfl) (by kernel_rfl) (by kernel_rfl)) ?_
  intro W base args ds gs before hval hW _ hsz _
  exact law_calls (tb := 4) (S := [3, 34]) laidOut (by kernel_rfl) (by kernel_rfl) (by kernel_rfl) (by kernel_rfl) rfl
    (fun ds hl => match ds, hl with | [_, _, _], _ => ⟨rfl, rfl, rfl⟩) relSingle_all hval hW hsz

theorem relSingle_holds : Rows.ReleaseSingleSaid :=
  OpenClaim.holds_of_wide 8 Try.f8 rfl rfl rfl rfl rfl rfl rfl ⟨rfl, rfl, rfl, rfl, rfl⟩ rfl rfl rfl rfl rfl (by kernel_rfl) Try.func8 (by kernel_rfl)
    (of_decide_eq_true (by kernel_rfl)) (by unfold Func.isWrapper; first | (rw [if_pos (by decide +kernel)]; kernel_rfl) | (rw [if_neg (by decide +kernel)]; exact ⟨rfl, rfl⟩))
    (fun os started H enc _ => relSingle_lifted os started H enc)

end Go.Proofs.Ytlacmjfgaehhkaa
