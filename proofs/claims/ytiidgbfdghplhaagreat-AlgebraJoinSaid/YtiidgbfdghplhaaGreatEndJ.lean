/-
  AlgebraJoin: for every input the law returns true.
-/
import Derived.Test.YtiidgbfdghplhaaGreatTyB
import Derived.Test.YtiidgbfdghplhaaGreatLaj
import Derived.Test.YtiidgbfdghplhaaGreatRows
namespace Go.Proofs.YtiidgbfdghplhaaGreat
open Go.Abs Go.ChangeShapes Go.WideShapes Go.ChangeAt Go.RowKit

theorem own : ownKnob Tryz.prog.godebug = none := by kernel_rfl
theorem laidOut : laidOutB Tryz.prog = true := by kernel_rfl

theorem ty_pair {xs : List Dat} (h : TyD Tryz.prog 30 xs) : ∃ p : Int × Int, xs = [.lit (.int .i64 p.1), .lit (.int .i64 p.2)] ∧ True := by
  obtain ⟨a, b, rfl, _, h1, a', b', rfl, _, h2, rfl⟩ := ty_array hT rfl rfl h
  obtain ⟨z1, rfl, _⟩ := ty_int hT rfl rfl h1
  obtain ⟨z2, rfl, _⟩ := ty_int hT rfl rfl h2
  exact ⟨(z1, z2), rfl, trivial⟩
theorem ty_on {xs : List Dat} (h : TyD Tryz.prog 24 xs) : ∃ r : List (Int × Int), xs = [onD r] ∧ True := by
  obtain ⟨es, rfl, _, h2⟩ := ty_slice hT rfl rfl rfl h
  obtain ⟨l, rfl, _⟩ := list_lift (f := fun p : Int × Int => [.lit (.int .i64 p.1), .lit (.int .i64 p.2)]) (Q := fun _ => True) es (fun el hel => ty_pair (h2 el hel))
  exact ⟨l, rfl, trivial⟩

theorem algebraJoin_all (ps : List PV) (h : TyPs Tryz.prog Tryz.f3.params.toList ps) : PCall Tryz.prog 3 ps (.v (.one (.lit (.bool true)))) := by
  match ps, h with
  | [.one x0, .one x1, .one x2], ⟨h0, h1, h2, _⟩ =>
    obtain ⟨t, e0, w0⟩ := ty_nums h0.2
    simp only [List.cons.injEq, and_true] at e0
    subst e0
    obtain ⟨b, e1, w1⟩ := ty_bag h1.2
    simp only [List.cons.injEq, and_true] at e1
    subst e1
    obtain ⟨on, e2, w2⟩ := ty_on h2.2
    simp only [List.cons.injEq, and_true] at e2
    subst e2
    exact lawJoin_c t b on w0
  | [.agg _, _, _], ⟨q, _, _, _⟩ => exact absurd q.1 (by decide +kernel)
  | [_, .agg _, _], ⟨_, q, _, _⟩ => exact absurd q.1 (by decide +kernel)
  | [_, _, .agg _], ⟨_, _, q, _⟩ => exact absurd q.1 (by decide +kernel)
  | [], h => exact h.elim
  | [_], h => exact h.2.elim
  | [_, _], h => exact h.2.2.elim
  | _ :: _ :: _ :: _ :: _, h => exact h.2.2.2.elim

set_option maxRecDepth 100000 in
theorem algebraJoin_lifted (os : Os) (started : os.Started) (H : Type) (enc : TypeId × Value → H) :
    ReturnsInHanded {} Tryz.checked os 3 .any (Rows.algebraJoinSpec.pre6 enc Tryz.prog Tryz.f3 Rows.algebraJoinRow.domain false) (Rows.algebraJoinSpec.post enc Tryz.prog Tryz.f3 false true false false) := by
  refine returnsInHanded_of_change_sized (C := Tryz.checked) own started (by kernel_rfl) Tryz.func3
    (ChangeSpec.witness6 (enc := enc) (C := Tryz.checked) false ⟨#[], #[.slice none 0 0, .slice none 0 0, .slice none 0 0], []⟩ 8 (by kernel_rfl) (by kernel_rfl) (by kernel_rfl) (by kernel_rfl)) ?_
  intro W base args ds gs before hval hW _ hsz _
  exact law_calls (tb := 4) (S := [22, 3, 23, 59, 57, 61, 2, 9, 24, 30]) laidOut (by kernel_rfl) (by kernel_rfl) (by kernel_rfl) (by kernel_rfl) rfl
    (fun ds hl => match ds, hl with | [_, _, _], _ => ⟨rfl, rfl, rfl⟩) algebraJoin_all hval hW hsz

theorem algebraJoin_holds : Rows.AlgebraJoinSaid :=
  OpenClaim.holds_of_wide 3 Tryz.f3 rfl rfl rfl rfl rfl rfl rfl ⟨rfl, rfl, rfl, rfl, rfl⟩ rfl rfl rfl rfl rfl (by kernel_rfl) Tryz.func3 (by kernel_rfl)
    (of_decide_eq_true (by kernel_rfl)) (by unfold Func.isWrapper; first | (rw [if_pos (by decide +kernel)]; kernel_rfl) | (rw [if_neg (by decide +kernel)]; exact ⟨rfl, rfl⟩))
    (fun os started H enc _ => algebraJoin_lifted os started H enc)

end Go.Proofs.YtiidgbfdghplhaaGreat
