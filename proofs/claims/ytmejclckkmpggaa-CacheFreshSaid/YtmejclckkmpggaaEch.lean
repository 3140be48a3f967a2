/-
  CacheFresh: for every input the law returns true.
-/
import Derived.Test.YtmejclckkmpggaaTyC
import Derived.Test.YtmejclckkmpggaaLci
import Derived.Test.YtmejclckkmpggaaRows
namespace Go.Proofs.Ytmejclckkmpggaa
open Go.Abs Go.ChangeShapes Go.WideShapes Go.ChangeAt Go.RowKit

theorem own : ownKnob Try.prog.godebug = none := by kernel_rfl
theorem laidOut : laidOutB Try.prog = true := by kernel_rfl

theorem ty_two30 {xs : List Dat} (h : TyD Try.prog 66 xs) : ∃ z : List Entry × List Entry, xs = [bagD z.1, bagD z.2] ∧ True := by
  obtain ⟨a, b, rfl, _, h1, a', b', rfl, _, h2, rfl⟩ := ty_array hT rfl rfl h
  obtain ⟨z1, rfl, w1⟩ := ty_bag h1
  obtain ⟨z2, rfl, w2⟩ := ty_bag h2
  exact ⟨(z1, z2), rfl, trivial⟩

theorem cacheFresh_all (ps : List PV) (h : TyPs Try.prog Try.f11.params.toList ps) : PCall Try.prog 11 ps (.v (.one (.lit (.bool true)))) := by
  match ps, h with
  | [.agg x0, .agg x1, .one x2], ⟨h0, h1, h2, _⟩ =>
    obtain ⟨c, rfl, w0⟩ := ty_conf h0.2
    obtain ⟨views, rfl, w1⟩ := ty_two30 h1.2
    obtain ⟨values, e2, w2⟩ := ty_row h2.2
    simp only [List.cons.injEq, and_true] at e2
    subst e2
    exact lawFresh_c c views.1 views.2 values
  | [.one _, _, _], ⟨q, _, _, _⟩ => exact absurd q.1 (by decide +kernel)
  | [_, .one _, _], ⟨_, q, _, _⟩ => exact absurd q.1 (by decide +kernel)
  | [_, _, .agg _], ⟨_, _, q, _⟩ => exact absurd q.1 (by decide +kernel)
  | [], h => exact h.elim
  | [_], h => exact h.2.elim
  | [_, _], h => exact h.2.2.elim
  | _ :: _ :: _ :: _ :: _, h => exact h.2.2.2.elim

set_option maxRecDepth 100000 in
theorem cacheFresh_lifted (os : Os) (started : os.Started) (H : Type) (enc : TypeId × Value → H) :
    ReturnsInHanded {} Try.checked os 11 .any (Rows.cacheFreshSpec.pre6 enc Try.prog Try.f11 Rows.cacheFreshRow.domain false) (Rows.cacheFreshSpec.post enc Try.prog Try.f11 false true false false) := by
  refine returnsInHanded_of_change_sized (C := Try.checked) own started (by kernel_rfl) Try.func11
    (ChangeSpec.witness6 (enc := enc) (C := Try.checked) false ⟨#[], #[.agg #[.string ⟨#[]⟩, .string ⟨#[]⟩, .int .i64 0, .int .i64 0], .agg #[.slice none 0 0, .slice none 0 0], .slice none 0 0], []⟩ 8 (by kernel_rfl) (by kernel_rfl) (by kernel_rfl) (by kernel_rfl)) ?_
  intro W base args ds gs before hval hW _ hsz _
  exact law_calls (tb := 4) (S := [31, 9, 3, 66, 22, 36, 33, 24, 2]) laidOut (by kernel_rfl) (by kernel_rfl) (by kernel_rfl) (by kernel_rfl) rfl
    (fun ds hl => match ds, hl with | [_, _, _], _ => ⟨rfl, rfl, rfl⟩) cacheFresh_all hval hW hsz

theorem cacheFresh_holds : Rows.CacheFreshSaid :=
  OpenClaim.holds_of_wide 11 Try.f11 rfl rfl rfl rfl rfl rfl rfl ⟨rfl, rfl, rfl, rfl, rfl⟩ rfl rfl rfl rfl rfl (by kernel_rfl) Try.func11 (by kernel_rfl)
    (of_decide_eq_true (by kernel_rfl)) (by unfold Func.isWrapper; first | (rw [if_pos (by decide +kernel)]; kernel_rfl) | (rw [if_neg (by decide +kernel)]; exact ⟨rfl, rfl⟩))
    (fun os started H enc _ => cacheFresh_lifted os started H enc)

end Go.Proofs.Ytmejclckkmpggaa
