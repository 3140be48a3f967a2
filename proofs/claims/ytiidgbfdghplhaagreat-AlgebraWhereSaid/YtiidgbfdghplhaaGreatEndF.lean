/-
  AlgebraWhere: for every input the law returns true.
-/
import Derived.Test.YtiidgbfdghplhaaGreatTyB
import Derived.Test.YtiidgbfdghplhaaGreatLwh
import Derived.Test.YtiidgbfdghplhaaGreatRows
namespace Go.Proofs.YtiidgbfdghplhaaGreat
open Go.Abs Go.ChangeShapes Go.WideShapes Go.ChangeAt Go.RowKit

theorem own : ownKnob Tryz.prog.godebug = none := by kernel_rfl
theorem laidOut : laidOutB Tryz.prog = true := by kernel_rfl

theorem ty_term {xs : List Dat} (h : TyD Tryz.prog 70 xs) : ∃ t : Trm, xs = t.d ∧ True := by
  obtain ⟨a, b, rfl, _, h1, a', b', rfl, _, h2, a'', b'', rfl, _, h3, rfl⟩ := ty_struct hT rfl rfl h
  obtain ⟨z1, rfl, _⟩ := ty_int hT rfl rfl h1
  obtain ⟨v, rfl, _⟩ := ty_val h2
  obtain ⟨z2, rfl, _⟩ := ty_int hT rfl rfl h3
  exact ⟨⟨z1, v, z2⟩, rfl, trivial⟩
theorem ty_expr {xs : List Dat} (h : TyD Tryz.prog 37 xs) : ∃ e : List Trm, xs = [exprD e] ∧ True := by
  obtain ⟨es, rfl, _, h2⟩ := ty_slice hT rfl rfl rfl h
  obtain ⟨l, rfl, _⟩ := list_lift (f := Trm.d) (Q := fun _ => True) es (fun el hel => ty_term (h2 el hel))
  exact ⟨l, rfl, trivial⟩

theorem algebraWhere_all (ps : List PV) (h : TyPs Tryz.prog Tryz.f5.params.toList ps) : PCall Tryz.prog 5 ps (.v (.one (.lit (.bool true)))) := by
  match ps, h with
  | [.one x0, .one x1, .one x2], ⟨h0, h1, h2, _⟩ =>
    obtain ⟨t, e0, w0⟩ := ty_nums h0.2
    simp only [List.cons.injEq, and_true] at e0
    subst e0
    obtain ⟨b, e1, w1⟩ := ty_bag h1.2
    simp only [List.cons.injEq, and_true] at e1
    subst e1
    obtain ⟨e, e2, w2⟩ := ty_expr h2.2
    simp only [List.cons.injEq, and_true] at e2
    subst e2
    exact lawWhere_c t b e w0
  | [.agg _, _, _], ⟨q, _, _, _⟩ => exact absurd q.1 (by decide +kernel)
  | [_, .agg _, _], ⟨_, q, _, _⟩ => exact absurd q.1 (by decide +kernel)
  | [_, _, .agg _], ⟨_, _, q, _⟩ => exact absurd q.1 (by decide +kernel)
  | [], h => exact h.elim
  | [_], h => exact h.2.elim
  | [_, _], h => exact h.2.2.elim
  | _ :: _ :: _ :: _ :: _, h => exact h.2.2.2.elim

set_option maxRecDepth 100000 in
theorem algebraWhere_lifted (os : Os) (started : os.Started) (H : Type) (enc : TypeId × Value → H) :
    ReturnsInHanded {} Tryz.checked os 5 .any (Rows.algebraWhereSpec.pre6 enc Tryz.prog Tryz.f5 Rows.algebraWhereRow.domain false) (Rows.algebraWhereSpec.post enc Tryz.prog Tryz.f5 false true false false) := by
  refine returnsInHanded_of_change_sized (C := Tryz.checked) own started (by kernel_rfl) Tryz.func5
    (ChangeSpec.witness6 (enc := enc) (C := Tryz.checked) false ⟨#[], #[.slice none 0 0, .slice none 0 0, .slice none 0 0], []⟩ 8 (by kernel_rfl) (by kernel_rfl) (by kernel_rfl) (by kernel_rfl)) ?_
  intro W base args ds gs before hval hW _ hsz _
  exact law_calls (tb := 4) (S := [22, 3, 23, 59, 57, 61, 2, 9, 37, 70]) laidOut (by kernel_rfl) (by kernel_rfl) (by kernel_rfl) (by kernel_rfl) rfl
    (fun ds hl => match ds, hl with | [_, _, _], _ => ⟨rfl, rfl, rfl⟩) algebraWhere_all hval hW hsz

theorem algebraWhere_holds : Rows.AlgebraWhereSaid :=
  OpenClaim.holds_of_wide 5 Tryz.f5 rfl rfl rfl rfl rfl rfl rfl ⟨rfl, rfl, rfl, rfl, rfl⟩ rfl rfl rfl rfl rfl (by kernel_rfl) Tryz.func5 (by kernel_rfl)
    (of_decide_eq_true (by kernel_rfl)) (by unfold Func.isWrapper; first | (rw [if_pos (by decide +kernel)]; kernel_rfl) | (rw [if_neg (by decide +kernel)]; exact ⟨rfl, rfl⟩))
    (fun os started H enc _ => algebraWhere_lifted os started H enc)

end Go.Proofs.YtiidgbfdghplhaaGreat
