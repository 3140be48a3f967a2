/-
  ReleaseValid and ReleaseThreshold: for every input the laws return true.
-/
import Derived.Test.YtlacmjfgaehhkaaTyR
import Derived.Test.YtlacmjfgaehhkaaLawB
import Derived.Test.YtlacmjfgaehhkaaRows
namespace Go.Proofs.Ytlacmjfgaehhkaa
open Go.Abs Go.ChangeShapes Go.WideShapes Go.ChangeAt Go.RowKit

theorem own : ownKnob Try.prog.godebug = none := by kernel_rfl
theorem laidOut : laidOutB Try.prog = true := by kernel_rfl

theorem ty_pub {xs : List Dat} (h : TyD Try.prog 43 xs) : ∃ e : Pub, xs = e.d ∧ inI e.count := by
  obtain ⟨a, b, rfl, _, h1, a', b', rfl, _, h2, rfl⟩ := ty_struct hT rfl rfl h
  obtain ⟨r, rfl, _⟩ := ty_row h1
  obtain ⟨z2, rfl, w2⟩ := ty_int hT rfl rfl h2
  exact ⟨⟨r, z2⟩, rfl, w2⟩

theorem ty_pubs {xs : List Dat} (h : TyD Try.prog 31 xs) : ∃ r : List Pub, xs = [pubD r] ∧ ∀ e ∈ r, inI e.count := by
  obtain ⟨es, rfl, h1, h2⟩ := ty_slice hT rfl rfl rfl h
  obtain ⟨l, rfl, hl⟩ := list_lift (f := Pub.d) (Q := fun e => inI e.count) es (fun el hel => ty_pub (h2 el hel))
  exact ⟨l, rfl, hl⟩

theorem ty_ints {xs : List Dat} (h : TyD Try.prog 34 xs) : ∃ r : List Int, xs = [intsD r] ∧ r.length * 8 ≤ reachBytes ∧ ∀ z ∈ r, inI z := by
  obtain ⟨es, rfl, h1, h2⟩ := ty_slice hT rfl rfl rfl h
  obtain ⟨l, rfl, hl⟩ := list_lift (f := intD) (Q := inI) es (fun el hel => ty_int hT rfl rfl (h2 el hel))
  exact ⟨l, rfl, by rw [List.length_map] at h1; exact h1, hl⟩

theorem relValid_all (ps : List PV) (h : TyPs Try.prog Try.f7.params.toList ps) : PCall Try.prog 7 ps (.v (.one (.lit (.bool true)))) := by
  match ps, h with
  | [.agg x0, .one x1, .one x2], ⟨h0, h1, h2, _⟩ =>
    obtain ⟨r, rfl, w0⟩ := ty_rls h0.2
    obtain ⟨l, e1, w1⟩ := ty_pubs h1.2
    simp only [List.cons.injEq, and_true] at e1
    subst e1
    obtain ⟨counts, e2, w2⟩ := ty_ints h2.2
    simp only [List.cons.injEq, and_true] at e2
    subst e2
    exact lawValid_c r l counts
  | [.one _, _, _], ⟨q, _, _, _⟩ => exact absurd q.1 (by decide +kernel)
  | [_, .agg _, _], ⟨_, q, _, _⟩ => exact absurd q.1 (by decide +kernel)
  | [_, _, .agg _], ⟨_, _, q, _⟩ => exact absurd q.1 (by decide +kernel)
  | [], h => exact h.elim
  | [_], h => exact h.2.elim
  | [_, _], h => exact h.2.2.elim
  | _ :: _ :: _ :: _ :: _, h => exact h.2.2.2.elim

set_option maxRecDepth 100000 in
theorem relValid_lifted (os : Os) (started : os.Started) (H : Type) (enc : TypeId × Value → H) :
    ReturnsInHanded {} Try.checked os 7 .any (Rows.releaseValidSpec.pre6 enc Try.prog Try.f7 Rows.releaseValidRow.domain false) (Rows.releaseValidSpec.post enc Try.prog Try.f7 false true false false) := by
  refine returnsInHanded_of_change_sized (C := Try.checked) own started (by kernel_rfl) Try.func7
    (ChangeSpec.witness6 (enc := enc) (C := Try.checked) false ⟨#[], #[.agg #[.string ⟨#[]⟩, .string ⟨#[]⟩, .int .i64 0], .slice none 0 0, .slice none 0 0], []⟩ 8 (by kernel_rfl) (by kernel_rfl) (by kernel_rfl) (by kernel_rfl)) ?_
  intro W base args ds gs before hval hW _ hsz _
  exact law_calls (tb := 4) (S := [23, 9, 3, 31, 43, 39, 38, 2, 34]) laidOut (by kernel_rfl) (by kernel_rfl) (by kernel_rfl) (by kernel_rfl) rfl
    (fun ds hl => match ds, hl with | [_, _, _], _ => ⟨rfl, rfl, rfl⟩) relValid_all hval hW hsz

theorem relValid_holds : Rows.ReleaseValidSaid :=
  OpenClaim.holds_of_wide 7 Try.f7 rfl rfl rfl rfl rfl rfl rfl ⟨rfl, rfl, rfl, rfl, rfl⟩ rfl rfl rfl rfl rfl (by kernel_rfl) Try.func7 (by kernel_rfl)
    (of_decide_eq_true (by kernel_rfl)) (by unfold Func.isWrapper; first | (rw [if_pos (by decide +kernel)]; kernel_rfl) | (rw [if_neg (by decide +kernel)]; exact ⟨rfl, rfl⟩))
    (fun os started H enc _ => relValid_lifted os started H enc)

theorem relThreshold_all (ps : List PV) (h : TyPs Try.prog Try.f4.params.toList ps) : PCall Try.prog 4 ps (.v (.one (.lit (.bool true)))) := by
  match ps, h with
  | [.one x0, .one x1], ⟨h0, h1, _⟩ =>
    obtain ⟨n, e0, w0⟩ := ty_int3 h0.2
    simp only [List.cons.injEq, and_true] at e0
    subst e0
    obtain ⟨counts, e1, w1⟩ := ty_ints h1.2
    simp only [List.cons.injEq, and_true] at e1
    subst e1
    exact lawThreshold_c n counts
  | [.agg _, _], ⟨q, _, _⟩ => exact absurd q.1 (by decide +kernel)
  | [_, .agg _], ⟨_, q, _⟩ => exact absurd q.1 (by decide +kernel)
  | [], h => exact h.elim
  | [_], h => exact h.2.elim
  | _ :: _ :: _ :: _, h => exact h.2.2.elim

set_option maxRecDepth 100000 in
theorem relThreshold_lifted (os : Os) (started : os.Started) (H : Type) (enc : TypeId × Value → H) :
    ReturnsInHanded {} Try.checked os 4 .any (Rows.releaseThresholdSpec.pre6 enc Try.prog Try.f4 Rows.releaseThresholdRow.domain false) (Rows.releaseThresholdSpec.post enc Try.prog Try.f4 false true false false) := by
  refine returnsInHanded_of_change_sized (C := Try.checked) own started (by kernel_rfl) Try.func4
    (ChangeSpec.witness6 (enc := enc) (C := Try.checked) false ⟨#[], #[.int .i64 0, .slice none 0 0], []⟩ 8 (by kernel_rfl) (by kernel_rfl) (by kernel_rfl) (by kernel_rfl)) ?_
  intro W base args ds gs before hval hW _ hsz _
  exact law_calls (tb := 4) (S := [3, 34]) laidOut (by kernel_rfl) (by kernel_rfl) (by kernel_rfl) (by kernel_rfl) rfl
    (fun ds hl => match ds, hl with | [_, _], _ => ⟨rfl, rfl, rfl⟩) relThreshold_all hval hW hsz

theorem relThreshold_holds : Rows.ReleaseThresholdSaid :=
  OpenClaim.holds_of_wide 4 Try.f4 rfl rfl rfl rfl rfl rfl rfl ⟨rfl, rfl, rfl, rfl, rfl⟩ rfl rfl rfl rfl rfl (by kernel_rfl) Try.func4 (by kernel_rfl)
    (of_decide_eq_true (by kernel_rfl)) (by unfold Func.isWrapper; first | (rw [if_pos (by decide +kernel)]; kernel_rfl) | (rw [if_neg (by decide +kernel)]; exact ⟨rfl, rfl⟩))
    (fun os started H enc _ => relThreshold_lifted os started H enc)

end Go.Proofs.Ytlacmjfgaehhkaa
