/-
  CachePlays: for every input the law returns true.
-/
import Derived.Test.YtmejclckkmpggaaTyE
import Derived.Test.YtmejclckkmpggaaLcg
import Derived.Test.YtmejclckkmpggaaRows
namespace Go.Proofs.Ytmejclckkmpggaa
open Go.Abs Go.ChangeShapes Go.WideShapes Go.ChangeAt Go.RowKit

theorem own : ownKnob Try.prog.godebug = none := by kernel_rfl
theorem laidOut : laidOutB Try.prog = true := by kernel_rfl

theorem ty_bags {xs : List Dat} (h : TyD Try.prog 48 xs) : ∃ r : List (List Entry), xs = [bagsD r] ∧ True := by
  obtain ⟨es, rfl, h1, h2⟩ := ty_slice hT rfl rfl rfl h
  obtain ⟨l, rfl, hl⟩ := list_lift (f := fun b => [bagD b]) (Q := fun _ => True) es (fun el hel => by
    obtain ⟨r, h3, _⟩ := ty_bag (h2 el hel)
    exact ⟨r, h3, trivial⟩)
  exact ⟨l, rfl, trivial⟩
theorem ty_acts {xs : List Dat} (h : TyD Try.prog 49 xs) : ∃ r : List Act, xs = [actsD r] ∧ True := by
  obtain ⟨es, rfl, h1, h2⟩ := ty_slice hT rfl rfl rfl h
  obtain ⟨l, rfl, hl⟩ := list_lift (f := Act.d) (Q := fun _ => True) es (fun el hel => by
    obtain ⟨r, h3, _⟩ := ty_act (h2 el hel)
    exact ⟨r, h3, trivial⟩)
  exact ⟨l, rfl, trivial⟩

theorem cachePlays_all (ps : List PV) (h : TyPs Try.prog Try.f6.params.toList ps) : PCall Try.prog 6 ps (.v (.one (.lit (.bool true)))) := by
  match ps, h with
  | [.agg x0, .one x1, .one x2], ⟨h0, h1, h2, _⟩ =>
    obtain ⟨c, rfl, w0⟩ := ty_conf h0.2
    obtain ⟨views, e1, w1⟩ := ty_bags h1.2
    simp only [List.cons.injEq, and_true] at e1
    subst e1
    obtain ⟨acts, e2, w2⟩ := ty_acts h2.2
    simp only [List.cons.injEq, and_true] at e2
    subst e2
    exact lawPlays_c c views acts
  | [.one _, _, _], ⟨q, _, _, _⟩ => exact absurd q.1 (by decide +kernel)
  | [_, .agg _, _], ⟨_, q, _, _⟩ => exact absurd q.1 (by decide +kernel)
  | [_, _, .agg _], ⟨_, _, q, _⟩ => exact absurd q.1 (by decide +kernel)
  | [], h => exact h.elim
  | [_], h => exact h.2.elim
  | [_, _], h => exact h.2.2.elim
  | _ :: _ :: _ :: _ :: _, h => exact h.2.2.2.elim

set_option maxRecDepth 100000 in
theorem cachePlays_lifted (os : Os) (started : os.Started) (H : Type) (enc : TypeId × Value → H) :
    ReturnsInHanded {} Try.checked os 6 .any (Rows.cachePlaysSpec.pre6 enc Try.prog Try.f6 Rows.cachePlaysRow.domain false) (Rows.cachePlaysSpec.post enc Try.prog Try.f6 false true false false) := by
  refine returnsInHanded_of_change_sized (C := Try.checked) own started (by kernel_rfl) Try.func6
    (ChangeSpec.witness6 (enc := enc) (C := Try.checked) false ⟨#[], #[.agg #[.string ⟨#[]⟩, .string ⟨#[]⟩, .int .i64 0, .int .i64 0], .slice none 0 0, .slice none 0 0], []⟩ 8 (by kernel_rfl) (by kernel_rfl) (by kernel_rfl) (by kernel_rfl)) ?_
  intro W base args ds gs before hval hW _ hsz _
  exact law_calls (tb := 4) (S := [31, 9, 3, 48, 22, 36, 33, 24, 2, 49, 51]) laidOut (by kernel_rfl) (by kernel_rfl) (by kernel_rfl) (by kernel_rfl) rfl
    (fun ds hl => match ds, hl with | [_, _, _], _ => ⟨rfl, rfl, rfl⟩) cachePlays_all hval hW hsz

theorem cachePlays_holds : Rows.CachePlaysSaid :=
  OpenClaim.holds_of_wide 6 Try.f6 rfl rfl rfl rfl rfl rfl rfl ⟨rfl, rfl, rfl, rfl, rfl⟩ rfl rfl rfl rfl rfl (by kernel_rfl) Try.func6 (by kernel_rfl)
    (of_decide_eq_true (by kernel_rfl)) (by unfold Func.isWrapper; first | (rw [if_pos (by decide +kernel)]; kernel_rfl) | (rw [if_neg (by decide +kernel)]; exact ⟨rfl, rfl⟩))
    (fun os started H enc _ => cachePlays_lifted os started H enc)

end Go.Proofs.Ytmejclckkmpggaa
