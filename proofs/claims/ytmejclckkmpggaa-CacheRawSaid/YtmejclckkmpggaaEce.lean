/-
  CacheRaw: for every input the law returns true.
-/
import Derived.Test.YtmejclckkmpggaaTyE
import Derived.Test.YtmejclckkmpggaaLce
import Derived.Test.YtmejclckkmpggaaRows
namespace Go.Proofs.Ytmejclckkmpggaa
open Go.Abs Go.ChangeShapes Go.WideShapes Go.ChangeAt Go.RowKit

theorem own : ownKnob Try.prog.godebug = none := by kernel_rfl
theorem laidOut : laidOutB Try.prog = true := by kernel_rfl

theorem cacheRaw_all (ps : List PV) (h : TyPs Try.prog Try.f7.params.toList ps) : PCall Try.prog 7 ps (.v (.one (.lit (.bool true)))) := by
  match ps, h with
  | [.agg x0, .one x1, .agg x2], ⟨h0, h1, h2, _⟩ =>
    obtain ⟨c, rfl, w0⟩ := ty_conf h0.2
    obtain ⟨s, e1, w1⟩ := ty_cachs h1.2
    simp only [List.cons.injEq, and_true] at e1
    subst e1
    obtain ⟨a, rfl, w2⟩ := ty_act h2.2
    exact lawRaw_c c s a
  | [.one _, _, _], ⟨q, _, _, _⟩ => exact absurd q.1 (by decide +kernel)
  | [_, .agg _, _], ⟨_, q, _, _⟩ => exact absurd q.1 (by decide +kernel)
  | [_, _, .one _], ⟨_, _, q, _⟩ => exact absurd q.1 (by decide +kernel)
  | [], h => exact h.elim
  | [_], h => exact h.2.elim
  | [_, _], h => exact h.2.2.elim
  | _ :: _ :: _ :: _ :: _, h => exact h.2.2.2.elim

set_option maxRecDepth 100000 in
theorem cacheRaw_lifted (os : Os) (started : os.Started) (H : Type) (enc : TypeId × Value → H) :
    ReturnsInHanded {} Try.checked os 7 .any (Rows.cacheRawSpec.pre6 enc Try.prog Try.f7 Rows.cacheRawRow.domain false) (Rows.cacheRawSpec.post enc Try.prog Try.f7 false true false false) := by
  refine returnsInHanded_of_change_sized (C := Try.checked) own started (by kernel_rfl) Try.func7
    (ChangeSpec.witness6 (enc := enc) (C := Try.checked) false ⟨#[], #[.agg #[.string ⟨#[]⟩, .string ⟨#[]⟩, .int .i64 0, .int .i64 0], .slice none 0 0, .agg #[.int .i64 0, .int .i64 0, .int .i64 0, .string ⟨#[]⟩, .int .i64 0, .int .i64 0]], []⟩ 8 (by kernel_rfl) (by kernel_rfl) (by kernel_rfl) (by kernel_rfl)) ?_
  intro W base args ds gs before hval hW _ hsz _
  exact law_calls (tb := 4) (S := [31, 9, 3, 37, 46, 24, 2, 22, 36, 33, 51]) laidOut (by kernel_rfl) (by kernel_rfl) (by kernel_rfl) (by kernel_rfl) rfl
    (fun ds hl => match ds, hl with | [_, _, _], _ => ⟨rfl, rfl, rfl⟩) cacheRaw_all hval hW hsz

theorem cacheRaw_holds : Rows.CacheRawSaid :=
  OpenClaim.holds_of_wide 7 Try.f7 rfl rfl rfl rfl rfl rfl rfl ⟨rfl, rfl, rfl, rfl, rfl⟩ rfl rfl rfl rfl rfl (by kernel_rfl) Try.func7 (by kernel_rfl)
    (of_decide_eq_true (by kernel_rfl)) (by unfold Func.isWrapper; first | (rw [if_pos (by decide +kernel)]; kernel_rfl) | (rw [if_neg (by decide +kernel)]; exact ⟨rfl, rfl⟩))
    (fun os started H enc _ => cacheRaw_lifted os started H enc)

end Go.Proofs.Ytmejclckkmpggaa
