/-
  CacheParts: for every input the law returns true.
-/
import Derived.Test.YtmejclckkmpggaaTyC
import Derived.Test.YtmejclckkmpggaaLcc
import Derived.Test.YtmejclckkmpggaaRows
namespace Go.Proofs.Ytmejclckkmpggaa
open Go.Abs Go.ChangeShapes Go.WideShapes Go.ChangeAt Go.RowKit

theorem own : ownKnob Try.prog.godebug = none := by kernel_rfl
theorem laidOut : laidOutB Try.prog = true := by kernel_rfl

theorem cacheParts_all (ps : List PV) (h : TyPs Try.prog Try.f8.params.toList ps) : PCall Try.prog 8 ps (.v (.one (.lit (.bool true)))) := by
  match ps, h with
  | [.one x0, .one x1], ⟨h0, h1, _⟩ =>
    obtain ⟨rows, e0, w0⟩ := ty_bag h0.2
    simp only [List.cons.injEq, and_true] at e0
    subst e0
    obtain ⟨col, e1, w1⟩ := ty_int3 h1.2
    simp only [List.cons.injEq, and_true] at e1
    subst e1
    exact lawParts_c rows col
  | [.agg _, _], ⟨q, _, _⟩ => exact absurd q.1 (by decide +kernel)
  | [_, .agg _], ⟨_, q, _⟩ => exact absurd q.1 (by decide +kernel)
  | [], h => exact h.elim
  | [_], h => exact h.2.elim
  | _ :: _ :: _ :: _, h => exact h.2.2.elim

set_option maxRecDepth 100000 in
theorem cacheParts_lifted (os : Os) (started : os.Started) (H : Type) (enc : TypeId × Value → H) :
    ReturnsInHanded {} Try.checked os 8 .any (Rows.cachePartsSpec.pre6 enc Try.prog Try.f8 Rows.cachePartsRow.domain false) (Rows.cachePartsSpec.post enc Try.prog Try.f8 false true false false) := by
  refine returnsInHanded_of_change_sized (C := Try.checked) own started (by kernel_rfl) Try.func8
    (ChangeSpec.witness6 (enc := enc) (C := Try.checked) false ⟨#[], #[.slice none 0 0, .int .i64 0], []⟩ 8 (by kernel_rfl) (by kernel_rfl) (by kernel_rfl) (by kernel_rfl)) ?_
  intro W base args ds gs before hval hW _ hsz _
  exact law_calls (tb := 4) (S := [22, 36, 33, 24, 3, 2, 9]) laidOut (by kernel_rfl) (by kernel_rfl) (by kernel_rfl) (by kernel_rfl) rfl
    (fun ds hl => match ds, hl with | [_, _], _ => ⟨rfl, rfl, rfl⟩) cacheParts_all hval hW hsz

theorem cacheParts_holds : Rows.CachePartsSaid :=
  OpenClaim.holds_of_wide 8 Try.f8 rfl rfl rfl rfl rfl rfl rfl ⟨rfl, rfl, rfl, rfl, rfl⟩ rfl rfl rfl rfl rfl (by kernel_rfl) Try.func8 (by kernel_rfl)
    (of_decide_eq_true (by kernel_rfl)) (by unfold Func.isWrapper; first | (rw [if_pos (by decide +kernel)]; kernel_rfl) | (rw [if_neg (by decide +kernel)]; exact ⟨rfl, rfl⟩))
    (fun os started H enc _ => cacheParts_lifted os started H enc)

end Go.Proofs.Ytmejclckkmpggaa
