/-
  DeltaDerive: for every input the law returns true.
-/
import Derived.Test.YtmpgmjlanngkfaaGreatTyB
import Derived.Test.YtmpgmjlanngkfaaGreatLde
import Derived.Test.YtmpgmjlanngkfaaGreatRows
section
namespace Go.Proofs.YtmpgmjlanngkfaaGreat
open Go.Abs Go.ChangeShapes Go.WideShapes Go.ChangeAt Go.RowKit
theorem MS : ownKnob Tryz.prog.godebug = none := by kernel_rfl
theorem U6 : laidOutB Tryz.prog = true := by kernel_rfl
theorem IW (ps : List PV) (h : VD Tryz.prog Tryz.f3.params.toList ps) : PCall Tryz.prog 3 ps (.v (.one (.lit (.bool true)))) := by
 match ps, h with
 | [.one x0], ⟨h0, _⟩ =>
   obtain ⟨t, e0, w0⟩ := V1 h0.2
   simp only [List.cons.injEq, and_true] at e0
   subst e0
   exact NU t w0
 | [.agg _], ⟨q, _⟩ => exact absurd q.1 (by decide +kernel)
 | [], h => exact h.elim
 | _ :: _ :: _, h => exact h.2.elim
set_option maxRecDepth 100000 in
theorem GP (os : Os) (started : os.Started) (H : Type) (enc : TypeId × Value → H) :
  ReturnsInHanded {} Tryz.checked os 3 .any (Rows.deltaDeriveSpec.pre6 enc Tryz.prog Tryz.f3 Rows.deltaDeriveRow.domain false) (Rows.deltaDeriveSpec.post enc Tryz.prog Tryz.f3 false true false false) := by
 refine returnsInHanded_of_change_sized (C := Tryz.checked) MS started (by kernel_rfl) Tryz.func3
  (ChangeSpec.witness6 (enc := enc) (C := Tryz.checked) false ⟨#[], #[.slice none 0 0], []⟩ 8 (by kernel_rfl) (by kernel_rfl) (by kernel_rfl) (by kernel_rfl)) ?_
 intro W base args ds gs before hval hW _ hsz _
 exact Rp (tb := 4) (S := [22, 3]) U6 (by kernel_rfl) (by kernel_rfl) (by kernel_rfl) (by kernel_rfl) rfl
  (fun ds hl => match ds, hl with | [_], _ => ⟨rfl, rfl, rfl⟩) IW hval hW hsz
theorem deltaDerive_holds : Rows.DeltaDeriveSaid :=
 OpenClaim.holds_of_wide 3 Tryz.f3 rfl rfl rfl rfl rfl rfl rfl ⟨rfl, rfl, rfl, rfl, rfl⟩ rfl rfl rfl rfl rfl (by kernel_rfl) Tryz.func3 (by kernel_rfl)
  (of_decide_eq_true (by kernel_rfl)) (by unfold Func.isWrapper; first | (rw [if_pos (by decide +kernel)]; kernel_rfl) | (rw [if_neg (by decide +kernel)]; exact ⟨rfl, rfl⟩))
  (fun os started H enc _ => GP os started H enc)
end Go.Proofs.YtmpgmjlanngkfaaGreat
end
