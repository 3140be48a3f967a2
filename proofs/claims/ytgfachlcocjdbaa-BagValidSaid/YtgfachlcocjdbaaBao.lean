/-
  Normalize does not depend on the order, and keeps a valid bag: in plain terms.
-/
import Derived.Test.YtgfachlcocjdbaaSam
import Derived.Test.YtgfachlcocjdbaaTaq
namespace Go.Proofs.Ytgfachlcocjdbaa
open Go.Abs Go.RowKit
set_option linter.unusedSimpArgs false
set_option maxRecDepth 100000

theorem all_clean {l : List Entry} (h : l.all entryIn = true) : ∀ e ∈ l, rowClean e.row := fun e he => by
  have := List.all_eq_true.1 h e he
  simp only [entryIn, Bool.and_eq_true] at this
  exact rowOK_clean this.1

theorem mem_sortE (l : List Entry) : ∀ e, e ∈ sortE l → ∃ x ∈ l, x.row = e.row := by
  induction l using sortE.induct with
  | case1 l h => intro e he; rw [sortE, dif_pos h] at he; exact ⟨e, (List.mem_filter.1 he).1, rfl⟩
  | case2 l h ih1 ih2 =>
    intro e he
    rw [sortE, dif_neg h] at he
    obtain ⟨x, hx, hr⟩ := mem_mergeE _ _ e he
    rcases hx with hx | hx
    · obtain ⟨y, hy, hq⟩ := ih1 x hx
      exact ⟨y, List.mem_of_mem_take hy, hq.trans hr⟩
    · obtain ⟨y, hy, hq⟩ := ih2 x hx
      exact ⟨y, List.mem_of_mem_drop hy, hq.trans hr⟩

theorem good_of : ∀ {l : List Entry} {p : Option Entry}, (∀ e ∈ l, e.ok = true) → l.Pairwise eR → (∀ q, p = some q → ∀ e ∈ l, eR q e) → goodFrom p l = true
  | [], _, _, _, _ => rfl
  | x :: l, p, h, hs, hp => by
    obtain ⟨h1, h2⟩ := List.pairwise_cons.1 hs
    have ih := good_of (p := some x) (fun e he => h e (by simp [he])) h2 (fun q hq => by cases hq; exact h1)
    simp only [goodFrom, Bool.and_eq_true]
    refine ⟨⟨h x (by simp), ?_⟩, ih⟩
    cases p with
    | none => rfl
    | some q => exact decide_eq_true (hp q rfl x (by simp))

/-- What a good Normalize returns. -/
theorem norm_good {l : List Entry} (h : (normE l).2 = 0) : (normE l).1 = sortE l ∧ Sorted (sortE l) ∧ bagValid (sortE l) = true ∧ ∀ r, sumK (sortE l) r = sumK l r := by
  unfold normE at *
  split at h
  · rename_i hall
    rw [if_pos hall]
    obtain ⟨p1, p2⟩ := sortE_says l (all_clean hall)
    refine ⟨fits_ok h, p1, ?_, p2⟩
    unfold fitsE at h
    split at h
    · cases h
    · split at h
      · rename_i hl hc
        simp only [bagValid, Bool.and_eq_true, decide_eq_true_eq]
        refine ⟨by omega, good_of (fun e he => ?_) p1.up (by simp)⟩
        have h1 := List.all_eq_true.1 hc e he
        obtain ⟨x, hx, hr⟩ := mem_sortE l e he
        have h2 := List.all_eq_true.1 hall x hx
        simp only [entryIn, Bool.and_eq_true] at h2
        simp only [Entry.ok, Bool.and_eq_true, decide_eq_true_eq]
        rw [← hr]
        exact ⟨⟨h2.1, h1⟩, p1.nz e he⟩
      · cases h
  · cases h

theorem sorted_of_valid {l : List Entry} (h : bagValid l = true) : Sorted l := by
  obtain ⟨_, hm⟩ := valid_mem h
  refine ⟨?_, fun e he => (hm e he).2.2, fun e he => rowOK_clean (hm e he).1⟩
  simp only [bagValid, Bool.and_eq_true] at h
  have key : ∀ {l : List Entry} {p : Option Entry}, goodFrom p l = true → l.Pairwise eR ∧ ∀ q, p = some q → ∀ e ∈ l, eR q e := by
    intro l
    induction l with
    | nil => intro p _; exact ⟨.nil, by simp⟩
    | cons x l ih =>
      intro p hp
      simp only [goodFrom, Bool.and_eq_true] at hp
      obtain ⟨i1, i2⟩ := ih hp.2
      refine ⟨List.pairwise_cons.2 ⟨i2 x rfl, i1⟩, fun q hq e he => ?_⟩
      subst hq
      have hqx : eR q x := by simpa [eR] using hp.1.2
      rcases List.mem_cons.1 he with rfl | he
      · exact hqx
      · exact eR_tr _ _ _ hqx (i2 x rfl e he)
  exact (key h.2).1

end Go.Proofs.Ytgfachlcocjdbaa
