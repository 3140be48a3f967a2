/-
  DeltaTouched: for every input the law returns true.
-/
import Derived.Test.YtmpgmjlanngkfaaGreatAgt
import Derived.Test.YtmpgmjlanngkfaaGreatLdt
import Derived.Test.YtmpgmjlanngkfaaGreatRows
section
namespace Go.Proofs.YtmpgmjlanngkfaaGreat
open Go.Abs Go.ChangeShapes Go.WideShapes Go.ChangeAt Go.RowKit
theorem LY : ownKnob Tryz.prog.godebug = none := by kernel_rfl
theorem UR : laidOutB Tryz.prog = true := by kernel_rfl
theorem H6 (ps : List PV) (h : Vk Tryz.prog Tryz.f8.params.toList ps) : PC 8 ps (.v (.one (.lit (.bool true)))) := by
 match ps, h with
 | [.one x0], ⟨h0, _⟩ =>
   obtain ⟨t, e0, w0⟩ := VD h0.2
   simp only [Uh, and_true] at e0
   subst e0
   exact Mj t w0
 | [.agg _], ⟨q, _⟩ => exact absurd q.1 (by decide +kernel)
 | [], h => exact h.elim
 | _ :: _ :: _, h => exact h.2.elim
set_option maxRecDepth 100000 in
theorem GO (os : Os) (started : os.Started) (H : Type) (enc : TypeId × Value → H) :
  ReturnsInHanded {} Tryz.checked os 8 .any (Rows.deltaTouchedSpec.pre6 enc Tryz.prog Tryz.f8 Rows.deltaTouchedRow.domain false) (Rows.deltaTouchedSpec.post enc Tryz.prog Tryz.f8 false true false false) := by
 refine returnsInHanded_of_change_sized (C := Tryz.checked) LY started (by kernel_rfl) Tryz.func8
  (ChangeSpec.witness6 (enc := enc) (C := Tryz.checked) false ⟨#[], #[.slice none 0 0], []⟩ 8 (by kernel_rfl) (by kernel_rfl) (by kernel_rfl) (by kernel_rfl)) ?_
 intro W base args ds gs before hval hW _ hsz _
 exact Rr (tb := 4) (S := [22, 3]) UR (by kernel_rfl) (by kernel_rfl) (by kernel_rfl) (by kernel_rfl) rfl
  (fun ds hl => match ds, hl with | [_], _ => ⟨rfl, rfl, rfl⟩) H6 hval hW hsz
theorem deltaTouched_holds : Rows.DeltaTouchedSaid :=
 OpenClaim.holds_of_wide 8 Tryz.f8 rfl rfl rfl rfl rfl rfl rfl ⟨rfl, rfl, rfl, rfl, rfl⟩ rfl rfl rfl rfl rfl (by kernel_rfl) Tryz.func8 (by kernel_rfl)
  (of_decide_eq_true (by kernel_rfl)) (by unfold Func.isWrapper; first | (rw [if_pos (by decide +kernel)]; kernel_rfl) | (rw [if_neg (by decide +kernel)]; exact ⟨rfl, rfl⟩))
  (fun os started H enc _ => GO os started H enc)
end Go.Proofs.YtmpgmjlanngkfaaGreat
end
