/-
  DeltaAdds: for every input the law returns true.
-/
import Derived.Test.YtmpgmjlanngkfaaGreatTpo
import Derived.Test.YtmpgmjlanngkfaaGreatLdc
import Derived.Test.YtmpgmjlanngkfaaGreatRows
section
namespace Go.Proofs.YtmpgmjlanngkfaaGreat
open Go.Abs Go.ChangeShapes Go.WideShapes Go.ChangeAt Go.RowKit
theorem Kw : ownKnob Tryz.prog.godebug = none := by kernel_rfl
theorem LX : laidOutB Tryz.prog = true := by kernel_rfl
theorem Kx (ps : List PV) (h : Uw Tryz.prog Tryz.f4.params.toList ps) : PC 4 ps (.v (.one (.lit (.bool true)))) := by
 match ps, h with
 | [.one x0], ⟨h0, _⟩ =>
   obtain ⟨t, e0, w0⟩ := QH h0.2
   simp only [U4, and_true] at e0
   subst e0
   exact RJ t w0
 | [.agg _], ⟨q, _⟩ => exact absurd q.1 (by decide +kernel)
 | [], h => exact h.elim
 | _ :: _ :: _, h => exact h.2.elim
set_option maxRecDepth 100000 in
theorem HL (os : Os) (started : os.Started) (H : Type) (enc : TypeId × Value → H) :
  ReturnsInHanded {} Tryz.checked os 4 .any (Rows.deltaAddsSpec.pre6 enc Tryz.prog Tryz.f4 Rows.deltaAddsRow.domain false) (Rows.deltaAddsSpec.post enc Tryz.prog Tryz.f4 false true false false) := by
 refine returnsInHanded_of_change_sized (C := Tryz.checked) Kw started (by kernel_rfl) Tryz.func4
  (ChangeSpec.witness6 (enc := enc) (C := Tryz.checked) false ⟨#[], #[.slice none 0 0], []⟩ 8 (by kernel_rfl) (by kernel_rfl) (by kernel_rfl) (by kernel_rfl)) ?_
 intro W base args ds gs before hval hW _ hsz _
 exact Ln (tb := 4) (S := [22, 3]) LX (by kernel_rfl) (by kernel_rfl) (by kernel_rfl) (by kernel_rfl) rfl
  (fun ds hl => match ds, hl with | [_], _ => ⟨rfl, rfl, rfl⟩) Kx hval hW hsz
theorem deltaAdds_holds : Rows.DeltaAddsSaid :=
 OpenClaim.holds_of_wide 4 Tryz.f4 rfl rfl rfl rfl rfl rfl rfl ⟨rfl, rfl, rfl, rfl, rfl⟩ rfl rfl rfl rfl rfl (by kernel_rfl) Tryz.func4 (by kernel_rfl)
  (of_decide_eq_true (by kernel_rfl)) (by unfold Func.isWrapper; first | (rw [if_pos (by decide +kernel)]; kernel_rfl) | (rw [if_neg (by decide +kernel)]; exact ⟨rfl, rfl⟩))
  (fun os started H enc _ => HL os started H enc)
end Go.Proofs.YtmpgmjlanngkfaaGreat
end
