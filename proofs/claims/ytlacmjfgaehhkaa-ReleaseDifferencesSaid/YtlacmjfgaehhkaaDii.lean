/-
  Releases: both Differences are one.
-/
import Derived.Test.YtlacmjfgaehhkaaDih
import Derived.Test.YtlacmjfgaehhkaaLawC
import Derived.Test.YtlacmjfgaehhkaaTyp
namespace Go.Proofs.Ytlacmjfgaehhkaa
open Go.Abs Go.RowKit
attribute [local irreducible] ARun kont MCall PCall HCall resVal SF CF CFs defersOk slotsIn memIn fin finM VLe
set_option linter.unusedSimpArgs false
set_option maxRecDepth 100000
set_option maxHeartbeats 4000000

def isClean (k : List Val) : Prop := k.map Val.clean = k
def pR (p q : Pub) : Prop := rowCmp p.keys q.keys < 0
theorem pR_irr (p : Pub) : ¬ pR p p := by unfold pR; rw [rowCmp_ok.refl]; omega
theorem pR_tr (p q r : Pub) (h1 : pR p q) (h2 : pR q r) : pR p r := rowCmp_ok.trans _ _ _ h1 h2

theorem kc_clean (p : Pub) : isClean (kc p) := map_clean_clean _
theorem cmp0_clean {a b : List Val} (ha : isClean a) (hb : isClean b) (h : rowCmp a b = 0) : a = b := by
  have := (rowCmp_ok.zero a b).1 h
  rw [ha, hb] at this; exact this

theorem findP_key (l : List Pub) {k k' : List Val} (h : k.map Val.clean = k'.map Val.clean) : findP l k = findP l k' := by
  unfold findP
  congr 2
  funext p
  have : rowCmp p.keys k = 0 ↔ rowCmp p.keys k' = 0 := by rw [rowCmp_ok.zero, rowCmp_ok.zero, h]
  simp [this]
theorem diffAt_kc (a b : List Pub) (p : Pub) : diffAt a b (kc p) = diffAt a b p.keys := by
  unfold diffAt cntP
  rw [findP_key a (kc_clean p), findP_key b (kc_clean p)]

theorem dd_mem (a b : List Pub) : ∀ (S : List (List Val)) (prev : Option (List Val)), (∀ q, prev = some q → isClean q ∧ ∀ k ∈ S, ¬ rowCmp k q < 0) → S.Pairwise (fun x y => ¬ rowCmp y x < 0) → (∀ k ∈ S, isClean k) →
    (∀ p, p ∈ ddFrom a b prev S ↔ ∃ k ∈ S, prev ≠ some k ∧ diffAt a b k ≠ 0 ∧ p = ⟨k, diffAt a b k⟩) ∧ (ddFrom a b prev S).Pairwise pR
  | [], _, _, _, _ => by simp [ddFrom]
  | k :: S, prev, hp, hs, hc => by
    obtain ⟨hs1, hs2⟩ := List.pairwise_cons.1 hs
    have hck := hc k (by simp)
    obtain ⟨ih1, ih2⟩ := dd_mem a b S (some k) (fun q hq => by cases hq; exact ⟨hck, hs1⟩) hs2 (fun x hx => hc x (by simp [hx]))
    have hany : prev.any (fun q => decide (rowCmp q k = 0)) = true ↔ prev = some k := by
      constructor
      · intro h
        cases hq : prev with
        | none => rw [hq] at h; cases h
        | some q =>
          rw [hq] at h
          have h0 : rowCmp q k = 0 := by simpa using h
          rw [cmp0_clean (hp q hq).1 hck h0]
      · rintro rfl
        simp [rowCmp_ok.refl]
    have hfst : ∀ p, p ∈ (if prev.any (fun q => decide (rowCmp q k = 0)) = true ∨ diffAt a b k = 0 then [] else [⟨k, diffAt a b k⟩] : List Pub) ↔ prev ≠ some k ∧ diffAt a b k ≠ 0 ∧ p = ⟨k, diffAt a b k⟩ := by
      intro p
      split
      · rename_i h
        rw [hany] at h
        refine ⟨nofun, fun ⟨h1, h2, _⟩ => ?_⟩
        rcases h with h | h
        · exact absurd h h1
        · exact absurd h h2
      · rename_i h
        rw [hany] at h
        rw [List.mem_singleton]
        exact ⟨fun hq => ⟨fun h1 => h (.inl h1), fun h2 => h (.inr h2), hq⟩, fun hq => hq.2.2⟩
    refine ⟨fun p => ?_, ?_⟩
    · rw [ddFrom, List.mem_append, hfst, ih1]
      constructor
      · rintro (⟨h1, h2, h3⟩ | ⟨k', hk', h1, h2, h3⟩)
        · exact ⟨k, by simp, h1, h2, h3⟩
        · refine ⟨k', by simp [hk'], fun h => ?_, h2, h3⟩
          have h4 := (hp k' h).2 k (by simp)
          have h5 := hs1 k' hk'
          apply h1
          have : rowCmp k k' = 0 := by
            have := rowCmp_ok.anti k k'
            omega
          rw [cmp0_clean hck (hc k' (by simp [hk'])) this]
      · rintro ⟨k', hk', h1, h2, h3⟩
        rcases List.mem_cons.1 hk' with rfl | hk'
        · exact .inl ⟨h1, h2, h3⟩
        · by_cases he : k = k'
          · subst he; exact .inl ⟨h1, h2, h3⟩
          · exact .inr ⟨k', hk', fun h => he (by cases h; rfl), h2, h3⟩
    · rw [ddFrom, List.pairwise_append]
      refine ⟨?_, ih2, fun p hpm q hqm => ?_⟩
      · split <;> simp
      · obtain ⟨_, _, rfl⟩ := (hfst p).1 hpm
        obtain ⟨k', hk', h1, _, rfl⟩ := (ih1 q).1 hqm
        have h5 := hs1 k' hk'
        have h6 := rowCmp_ok.anti k k'
        have : rowCmp k k' ≠ 0 := fun h => h1 (by rw [cmp0_clean hck (hc k' (by simp [hk'])) h])
        show rowCmp k k' < 0
        omega

theorem diffP_mem (a b : List Pub) : (∀ p, p ∈ diffP a b ↔ ∃ e ∈ a ++ b, diffAt a b e.keys ≠ 0 ∧ p = ⟨kc e, diffAt a b e.keys⟩) ∧ (diffP a b).Pairwise pR := by
  have hperm := sortF_perm rowCmp_ok.swo (keysAll a b)
  obtain ⟨h1, h2⟩ := dd_mem a b (sortF rowCmp (keysAll a b)) none (fun q hq => by cases hq) (sortF_sorted rowCmp_ok.swo _) (fun k hk => by
    rcases List.mem_append.1 (hperm.mem_iff.1 hk) with h | h
    · obtain ⟨p, _, rfl⟩ := List.mem_map.1 h; exact kc_clean p
    · obtain ⟨p, _, rfl⟩ := List.mem_map.1 h; exact kc_clean p)
  refine ⟨fun p => ?_, h2⟩
  rw [diffP, h1]
  constructor
  · rintro ⟨k, hk, _, hd, rfl⟩
    rw [hperm.mem_iff, keysAll, ← List.map_append] at hk
    obtain ⟨e, he, rfl⟩ := List.mem_map.1 hk
    rw [diffAt_kc] at hd ⊢
    exact ⟨e, he, hd, rfl⟩
  · rintro ⟨e, he, hd, rfl⟩
    refine ⟨kc e, ?_, nofun, by rwa [diffAt_kc], by rw [diffAt_kc]⟩
    rw [hperm.mem_iff, keysAll, ← List.map_append]
    exact List.mem_map.2 ⟨e, he, rfl⟩

theorem findP_some_iff (l : List Pub) (k : List Val) : (findP l k).isSome = true ↔ ∃ p ∈ l, kc p = k.map Val.clean := by
  unfold findP
  rw [Option.isSome_map, List.find?_isSome]
  simp only [decide_eq_true_eq, rowCmp_ok.zero]
  rfl

theorem refTo_mem (a b : List Pub) : ∀ i, i ≤ (a ++ b).length → (∀ p, p ∈ refTo a b i ↔ ∃ e ∈ (a ++ b).take i, cntP a e.keys ≠ cntP b e.keys ∧ p = ⟨kc e, diffAt a b e.keys⟩) ∧ (refTo a b i).Pairwise pR
  | 0, _ => by simp [refTo]
  | i + 1, hi => by
    obtain ⟨ih1, ih2⟩ := refTo_mem a b i (by omega)
    have hv : (a ++ b)[i]? = some (a ++ b)[i] := List.getElem?_eq_getElem (by omega)
    generalize (a ++ b)[i] = e at hv
    have htk : (a ++ b).take (i + 1) = (a ++ b).take i ++ [e] := by rw [List.take_add_one, hv]; rfl
    rw [refTo, hv, htk]
    dsimp only
    unfold refStep
    split
    · rename_i h
      refine ⟨fun p => ?_, ih2⟩
      rw [ih1]
      constructor
      · rintro ⟨x, hx, h2⟩
        exact ⟨x, by simp [hx], h2⟩
      · rintro ⟨x, hx, h2, h3⟩
        rcases List.mem_append.1 hx with hx | hx
        · exact ⟨x, hx, h2, h3⟩
        · obtain rfl : x = e := by simpa using hx
          rcases h with h | h
          · obtain ⟨y, hy, hk⟩ := (findP_some_iff _ _).1 h
            have hk' : y.keys.map Val.clean = x.keys.map Val.clean := hk
            refine ⟨y, hy, ?_, ?_⟩
            · unfold cntP at *
              rw [findP_key a hk', findP_key b hk']; exact h2
            · rw [h3]
              unfold diffAt cntP
              rw [findP_key a hk', findP_key b hk', hk]; rfl
          · exact absurd h h2
    · rename_i h
      have h1 : ∀ y ∈ (a ++ b).take i, kc y ≠ kc e := fun y hy hk => h (.inl ((findP_some_iff _ _).2 ⟨y, hy, hk⟩))
      have h2 : cntP a e.keys ≠ cntP b e.keys := fun hq => h (.inr hq)
      refine ⟨fun p => ?_, ?_⟩
      · rw [(bub_perm _ _ _).mem_iff, List.mem_cons, ih1]
        constructor
        · rintro (rfl | ⟨x, hx, h3⟩)
          · exact ⟨e, by simp, h2, rfl⟩
          · exact ⟨x, by simp [hx], h3⟩
        · rintro ⟨x, hx, h3, h4⟩
          rcases List.mem_append.1 hx with hx | hx
          · exact .inr ⟨x, hx, h3, h4⟩
          · obtain rfl : x = e := by simpa using hx
            exact .inl h4
      · refine bub_sorted pR_tr _ _ (by simpa using ih2) (fun q _ hq => by simpa [pubLt, pR] using hq) (fun q hqm hq => ?_) (fun q hq => by simp at hq)
        have hqm : q ∈ refTo a b i := by simpa using hqm
        obtain ⟨y, hy, _, rfl⟩ := (ih1 q).1 hqm
        have hne := h1 y hy
        simp only [pubLt, decide_eq_false_iff_not] at hq
        have h5 : rowCmp (kc e) (kc y) ≠ 0 := fun h0 => hne (cmp0_clean (kc_clean e) (kc_clean y) h0).symm
        have h6 := rowCmp_ok.anti (kc e) (kc y)
        show rowCmp (kc y) (kc e) < 0
        omega

theorem cntP_in {l : List Pub} (h : ∀ p ∈ l, inI p.count) (k : List Val) : inI (cntP l k) := by
  unfold cntP findP
  cases hf : l.find? (fun p => decide (rowCmp p.keys k = 0)) with
  | none => exact ⟨by decide, by decide⟩
  | some p => exact h p (List.mem_of_find?_eq_some hf)

theorem wrap_sub0 {x y : Int} (hx : inI x) (hy : inI y) : IntKind.i64.wrap (y - x) = 0 ↔ x = y := by
  obtain ⟨h1, h2⟩ := hx
  obtain ⟨h3, h4⟩ := hy
  simp only [IntKind.wrap, IntKind.signed, IntKind.bits]
  constructor
  · intro h
    split at h <;> omega
  · rintro rfl
    rw [Int.sub_self]; decide

theorem diff_eq (a b : List Pub) (ha : ∀ p ∈ a, inI p.count) (hb : ∀ p ∈ b, inI p.count) : diffP a b = refDiff a b := by
  obtain ⟨h1, h2⟩ := diffP_mem a b
  obtain ⟨h3, h4⟩ := refTo_mem a b (a.length + b.length) (by simp)
  refine sorted_unique pR_irr pR_tr h2 h4 fun p => ?_
  rw [h1, refDiff, h3, List.take_of_length_le (by simp)]
  have : ∀ e : Pub, diffAt a b e.keys ≠ 0 ↔ cntP a e.keys ≠ cntP b e.keys := fun e => not_congr (wrap_sub0 (cntP_in ha _) (cntP_in hb _))
  simp only [this]
end Go.Proofs.Ytlacmjfgaehhkaa
