/-
  AggregateFold: for every input the law returns true.
-/
import Derived.Test.YtojfhaoleedmkaaGreatTyB
import Derived.Test.YtojfhaoleedmkaaGreatLgf
import Derived.Test.YtojfhaoleedmkaaGreatRows
namespace Go.Proofs.YtojfhaoleedmkaaGreat
open Go.Abs Go.ChangeShapes Go.WideShapes Go.ChangeAt Go.RowKit
theorem own : ownKnob Tryz.prog.godebug = none := by kernel_rfl
theorem laidOut : laidOutB Tryz.prog = true := by kernel_rfl
theorem ty_int3 {xs : List Dat} (h : TyD Tryz.prog 3 xs) : ∃ z : Int, xs = [.lit (.int .i64 z)] ∧ True := by
  obtain ⟨z, rfl, _⟩ := ty_int hT rfl rfl h
  exact ⟨z, rfl, trivial⟩
theorem aggregateFold_all (ps : List PV) (h : TyPs Tryz.prog Tryz.f7.params.toList ps) : PCall Tryz.prog 7 ps (.v (.one (.lit (.bool true)))) := by
  match ps, h with
  | [.one x0, .one x1, .one x2], ⟨h0, h1, h2, _⟩ =>
    obtain ⟨t, e0, w0⟩ := ty_nums h0.2
    simp only [List.cons.injEq, and_true] at e0
    subst e0
    obtain ⟨f, e1, w1⟩ := ty_int3 h1.2
    simp only [List.cons.injEq, and_true] at e1
    subst e1
    obtain ⟨l, e2, w2⟩ := ty_bag h2.2
    simp only [List.cons.injEq, and_true] at e2
    subst e2
    exact lawFold_c t f l w0
  | [.agg _, _, _], ⟨q, _, _, _⟩ => exact absurd q.1 (by decide +kernel)
  | [_, .agg _, _], ⟨_, q, _, _⟩ => exact absurd q.1 (by decide +kernel)
  | [_, _, .agg _], ⟨_, _, q, _⟩ => exact absurd q.1 (by decide +kernel)
  | [], h => exact h.elim
  | [_], h => exact h.2.elim
  | [_, _], h => exact h.2.2.elim
  | _ :: _ :: _ :: _ :: _, h => exact h.2.2.2.elim
set_option maxRecDepth 100000 in
theorem aggregateFold_lifted (os : Os) (started : os.Started) (H : Type) (enc : TypeId × Value → H) :
    ReturnsInHanded {} Tryz.checked os 7 .any (Rows.aggregateFoldSpec.pre6 enc Tryz.prog Tryz.f7 Rows.aggregateFoldRow.domain false) (Rows.aggregateFoldSpec.post enc Tryz.prog Tryz.f7 false true false false) := by
  refine returnsInHanded_of_change_sized (C := Tryz.checked) own started (by kernel_rfl) Tryz.func7
    (ChangeSpec.witness6 (enc := enc) (C := Tryz.checked) false ⟨#[], #[.slice none 0 0, .int .i64 0, .slice none 0 0], []⟩ 8 (by kernel_rfl) (by kernel_rfl) (by kernel_rfl) (by kernel_rfl)) ?_
  intro W base args ds gs before hval hW _ hsz _
  exact law_calls (tb := 4) (S := [22, 3, 25, 49, 47, 53, 2, 9]) laidOut (by kernel_rfl) (by kernel_rfl) (by kernel_rfl) (by kernel_rfl) rfl
    (fun ds hl => match ds, hl with | [_, _, _], _ => ⟨rfl, rfl, rfl⟩) aggregateFold_all hval hW hsz
theorem aggregateFold_holds : Rows.AggregateFoldSaid :=
  OpenClaim.holds_of_wide 7 Tryz.f7 rfl rfl rfl rfl rfl rfl rfl ⟨rfl, rfl, rfl, rfl, rfl⟩ rfl rfl rfl rfl rfl (by kernel_rfl) Tryz.func7 (by kernel_rfl)
    (of_decide_eq_true (by kernel_rfl)) (by unfold Func.isWrapper; first | (rw [if_pos (by decide +kernel)]; kernel_rfl) | (rw [if_neg (by decide +kernel)]; exact ⟨rfl, rfl⟩))
    (fun os started H enc _ => aggregateFold_lifted os started H enc)
end Go.Proofs.YtojfhaoleedmkaaGreat
