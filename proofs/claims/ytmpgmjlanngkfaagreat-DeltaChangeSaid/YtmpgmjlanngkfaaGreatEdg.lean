/-
  DeltaChange: for every input the law returns true.
-/
import Derived.Test.YtmpgmjlanngkfaaGreatJod
import Derived.Test.YtmpgmjlanngkfaaGreatLdg
import Derived.Test.YtmpgmjlanngkfaaGreatRows
section
namespace Go.Proofs.YtmpgmjlanngkfaaGreat
open Go.Abs Go.ChangeShapes Go.WideShapes Go.ChangeAt Go.RowKit
theorem NM : ownKnob Tryz.prog.godebug = none := by kernel_rfl
theorem Yr : laidOutB Tryz.prog = true := by kernel_rfl
theorem Ka (ps : List PV) (h : Y4 Tryz.prog Tryz.f7.params.toList ps) : PC 7 ps (.v (.one (.lit (.bool true)))) := by
 match ps, h with
 | [.one x0], ⟨h0, _⟩ =>
   obtain ⟨t, e0, w0⟩ := Zt h0.2
   simp only [XV, and_true] at e0
   subst e0
   exact Ql t w0
 | [.agg _], ⟨q, _⟩ => exact absurd q.1 (by decide +kernel)
 | [], h => exact h.elim
 | _ :: _ :: _, h => exact h.2.elim
set_option maxRecDepth 100000 in
theorem H0 (os : Os) (started : os.Started) (H : Type) (enc : TypeId × Value → H) :
  ReturnsInHanded {} Tryz.checked os 7 .any (Rows.deltaChangeSpec.pre6 enc Tryz.prog Tryz.f7 Rows.deltaChangeRow.domain false) (Rows.deltaChangeSpec.post enc Tryz.prog Tryz.f7 false true false false) := by
 refine returnsInHanded_of_change_sized (C := Tryz.checked) NM started (by kernel_rfl) Tryz.func7
  (ChangeSpec.witness6 (enc := enc) (C := Tryz.checked) false ⟨#[], #[.slice none 0 0], []⟩ 8 (by kernel_rfl) (by kernel_rfl) (by kernel_rfl) (by kernel_rfl)) ?_
 intro W base args ds gs before jQ hW _ j3 _
 exact Uw (tb := 4) (S := [22, 3]) Yr (by kernel_rfl) (by kernel_rfl) (by kernel_rfl) (by kernel_rfl) rfl
  (fun ds hl => match ds, hl with | [_], _ => ⟨rfl, rfl, rfl⟩) Ka jQ hW j3
theorem deltaChange_holds : Rows.DeltaChangeSaid :=
 OpenClaim.holds_of_wide 7 Tryz.f7 rfl rfl rfl rfl rfl rfl rfl ⟨rfl, rfl, rfl, rfl, rfl⟩ rfl rfl rfl rfl rfl (by kernel_rfl) Tryz.func7 (by kernel_rfl)
  (of_decide_eq_true (by kernel_rfl)) (by unfold Func.isWrapper; first | (rw [if_pos (by decide +kernel)]; kernel_rfl) | (rw [if_neg (by decide +kernel)]; exact ⟨rfl, rfl⟩))
  (fun os started H enc _ => H0 os started H enc)
end Go.Proofs.YtmpgmjlanngkfaaGreat
end
