/-
  Aggregates, the document's: Correct.
-/
import Derived.Test.YtojfhaoleedmkaaGreatRgw
import Derived.Test.YtojfhaoleedmkaaGreatRgv
import Derived.Test.YtojfhaoleedmkaaGreatRgs
import Derived.Test.YtojfhaoleedmkaaGreatLga
namespace Go.Proofs.YtojfhaoleedmkaaGreat
open Go.Abs Go.RowKit
attribute [local irreducible] ARun kont MCall PCall HCall resVal SF CF CFs defersOk slotsIn memIn fin finM VLe
set_option linter.unusedSimpArgs false
set_option maxRecDepth 100000
set_option maxHeartbeats 4000000
theorem plusS_ok {n : Nat} {x y : Sta} (hx : SOk n x) (hy : SOk n y) : SOk n (plusS x y) := by
  obtain ⟨a1, a2, a3⟩ := hx
  obtain ⟨_, b2, b3⟩ := hy
  refine ⟨a1, ?_, ?_⟩
  · show (List.zipWith _ x.sums y.sums).length = n
    rw [List.length_zipWith]; omega
  · show (List.zipWith _ x.some y.some).length = n
    rw [List.length_zipWith]; omega
theorem mergeS_ok {n : Nat} {g d : List Sta} : (∀ s ∈ g, SOk n s) → (∀ s ∈ d, SOk n s) → ∀ s ∈ mergeS g d, SOk n s := by
  induction g, d using mergeS.induct with
  | case1 d => intro _ h; rw [mergeS_nil']; exact h
  | case2 g _ => intro h _; rw [mergeS_nil]; exact h
  | case3 x g y d h ih =>
    intro hg hd s hs
    rw [mergeS, if_pos h] at hs
    rcases List.mem_cons.1 hs with rfl | hs
    · exact hg _ (by simp)
    · exact ih (fun t ht => hg t (by simp [ht])) hd s hs
  | case4 x g y d h1 h2 ih =>
    intro hg hd s hs
    rw [mergeS, if_neg h1, if_pos h2] at hs
    rcases List.mem_cons.1 hs with rfl | hs
    · exact hd _ (by simp)
    · exact ih hg (fun t ht => hd t (by simp [ht])) s hs
  | case5 x g y d h1 h2 ih =>
    intro hg hd s hs
    rw [mergeS, if_neg h1, if_neg h2] at hs
    rcases List.mem_cons.1 hs with rfl | hs
    · exact plusS_ok (hg x (by simp)) (hd y (by simp))
    · exact ih (fun t ht => hg t (by simp [ht])) (fun t ht => hd t (by simp [ht])) s hs
theorem good_nz {ag : List Agg} {s : Sta} (h : staOk ag s = true) : nzS s = true := by
  have := (staOk_says h).2.2
  simp only [numsOk, Bool.and_eq_true] at this
  exact this.1.2
theorem states_nz {b : List Entry} {keys : List Itm} {ag : List Agg} : ∀ s ∈ (statesE b keys ag).1, nzS s = true := fun s hs => by
  unfold statesE at hs
  split at hs
  · exact (List.mem_filter.1 hs).2
  · cases hs
def refCorrectE (g : List Sta) (change : List Entry) (keys : List Itm) (ag : List Agg) : List Sta × Int :=
  if stsOk ag g = true ∧ (statesE change keys ag).2 = 0 then
    if ((mergeS g (statesE change keys ag).1).filter nzS).length ≤ 4096 then
      if ((mergeS g (statesE change keys ag).1).filter nzS).all limsE = true then ((mergeS g (statesE change keys ag).1).filter nzS, 0) else ([], 9)
    else ([], 8)
  else ([], 1)
theorem refCorrect_c (g : List Sta) (change : List Entry) (keys : List Itm) (ag : List Agg) (hcl : change.length ≤ 1000) (hkl : keys.length ≤ 10000) (hal : ag.length ≤ 10000) : PCall Tryz.prog 68 [.one (stsD g), .one (bagD change), .one (itmD keys), .one (aggD ag)] (.tup [.one (stsD (refCorrectE g change keys ag).1), .one (.lit (.int .i64 (refCorrectE g change keys ag).2))]) := by
  have hv := refAggValid_c g ag hal
  have hst := refStates_c change keys ag hcl hkl hal
  unfold refCorrectE
  by_cases h12 : stsOk ag g = true ∧ (statesE change keys ag).2 = 0
  · obtain ⟨h1, h2⟩ := h12
    rw [if_pos ⟨h1, h2⟩]
    rw [h1] at hv
    obtain ⟨hgl, hgm⟩ := stsOk_says h1
    have hgz : ∀ s ∈ g, nzS s = true := by
      simp only [stsOk, Bool.and_eq_true] at h1
      exact fun s hs => good_nz (goodS_mem h1.2 s hs)
    have hdz := states_nz (b := change) (keys := keys) (ag := ag)
    obtain ⟨_, hdl, hdm⟩ := statesE_ok h2
    rw [h2] at hst
    generalize (statesE change keys ag).1 = d at hst hdl hdm hdz ⊢
    have hMo : ∀ s ∈ (mergeS g d).filter nzS, SOk ag.length s := fun s hs => mergeS_ok hgm hdm s (List.mem_filter.1 hs).1
    clear h1 h2
    refine pcallN hT Tryz.func68 Tryz.ntmps68 [.tmp 8, .tmp 9] fun B => ?_
    repeat' (first | refine ks ?_ | refine ko ?_ | refine s_indexD ?_ (hel := (by first | exact rfl)) | refine s_call (hv) ?_ | refine s_call (hst) ?_ | refine s_kT ?_ | refine f_ret2 def_nil ?_ ?_ | refine t_tmp ?_ | refine t_tmpE ?_)
    refine s_own 12 90 4 ?_
    refine s_lp (X := List Sta × List Sta × Nat × List Sta) [0, 10, 12, 13, 14, 31, 32, 33, 34, 35, 36, 37, 38, 39, 40, 41, 42, 43, 44, 45, 46, 47, 48, 49, 50, 51, 52, 53, 54, 55, 56, 57, 58, 59, 60, 61, 62, 63, 64, 65, 66, 67, 68, 69, 70, 71, 72, 73, 74, 75, 76, 77, 78, 79, 80, 81, 82, 83, 84, 85, 86, 87, 88, 89, 90, 91, 92, 93, 94, 95] (fun x => (∀ e ∈ x.1, e ∈ g) ∧ (∀ e ∈ x.2.1, e ∈ d) ∧ x.1.length ≤ g.length ∧ x.2.1.length ≤ d.length ∧ x.2.2.2.length + x.1.length + x.2.1.length ≤ g.length + d.length ∧ x.2.2.2 ++ (mergeS x.1 x.2.1).filter nzS = (mergeS g d).filter nzS) (fun x lz => (0, .c (.d (stsD x.1))) :: (10, .c (.d (stsD x.2.1))) :: (12, .c (.arr 0 x.2.2.1 x.2.2.2.length)) :: lz) (fun x => [.arr x.2.2.1 90 4 (x.2.2.2.map Sta.d)]) (fun x => x.1.length + x.2.1.length) ((g, d, 1, [])) ?_ ?_ ?_ ?_
    repeat' (first | exact slots_nil | refine kw ?_ | refine kv ?_ ?_ | exact memIn_nil | omega)
    all_goals try (exact ⟨fun e h => h, fun e h => h, Nat.le_refl _, Nat.le_refl _, by simp, rfl⟩)
    rintro ⟨a', b', k, out⟩ c ⟨h1, h2, h3, h4, h5, hinv⟩
    dsimp only at h1 h2 h3 h4 h5 hinv ⊢
    cases a' with
    | nil =>
      cases b' with
      | nil =>
        rw [mergeS_nil, List.filter_nil, List.append_nil] at hinv
        rw [← hinv] at hMo ⊢
        clear hinv
        by_cases h3 : out.length ≤ 4096
        · rw [if_pos h3]
          repeat' (first | refine s_freeze (r := 0) (m := out.length) (es1 := out.map Sta.d) 12 ?_ | refine ks ?_ | refine ko ?_ | refine s_indexD ?_ (hel := (by first | exact rfl)) | refine s_kT ?_ | refine f_ret2 def_nil ?_ ?_ | refine t_tmp ?_ | refine t_tmpE ?_)
          refine s_lp (X := Nat) [8, 9, 15, 99, 100, 101, 102, 103, 104, 105, 106, 107, 108, 109, 110] (fun x => x ≤ out.length ∧ (out.take x).all limsE = true) (fun x lz => (15, (.c (.d (.lit (.int .i64 x))))) :: lz) (fun x => []) (fun x => out.length - x) (0) ?_ ?_ ?_ ?_
          repeat' (first | exact slots_nil | refine kw ?_ | refine kv ?_ ?_ | exact memIn_nil | omega)
          all_goals try (exact ⟨by simp, by simp⟩)
          rintro i c2 ⟨hi, hi2⟩
          by_cases hlt : i < out.length
          · have hx : out[i]? = some out[i] := List.getElem?_eq_getElem hlt
            obtain ⟨o1, o2, o3⟩ := hMo _ (List.getElem_mem hlt)
            generalize out[i] = s at hx o1 o2 o3
            have hx2 : (out.map Sta.d)[i]? = some s.d := by rw [List.getElem?_map, hx]; rfl
            have hnu := numbers_c s (by omega) (by omega)
            cases hq : limsE s with
            | true =>
              rw [hq] at hnu
              repeat' (first | refine ks ?_ | refine ko ?_ | refine s_indexD ?_ (hel := (by first | exact idx_map hx2 (by omega) | exact hx2 | exact rfl)) | refine s_call (hnu) ?_ | refine s_kT ?_ | refine f_ret2 def_nil ?_ ?_ | refine t_tmp ?_ | refine t_tmpE ?_)
              (apply s_round (i + 1); all_goals (try dsimp only); all_goals (try (repeat' (first | exact slots_nil | refine kw ?_ | refine kv ?_ ?_ | exact memIn_nil | omega))))
              all_goals exact ⟨by omega, take_all limsE hx hi2 hq⟩
            | false =>
              rw [hq] at hnu
              rw [not_all limsE hx hq, if_neg (by decide)]
              repeat' (first | refine ks ?_ | refine ko ?_ | refine s_indexD ?_ (hel := (by first | exact idx_map hx2 (by omega) | exact hx2 | exact rfl)) | refine s_call (hnu) ?_ | refine s_kT ?_ | refine f_ret2 def_nil ?_ ?_ | refine t_tmp ?_ | refine t_tmpE ?_)
              all_goals rfl
          · rw [take_ge (show out.length ≤ i by omega)] at hi2
            rw [hi2, if_pos rfl]
            repeat' (first | refine ks ?_ | refine ko ?_ | refine s_indexD ?_ (hel := (by first | exact rfl)) | refine s_kT ?_ | refine f_ret2 def_nil ?_ ?_ | refine t_tmp ?_ | refine t_tmpE ?_)
            all_goals rfl
        · rw [if_neg h3]
          repeat' (first | refine ks ?_ | refine ko ?_ | refine s_indexD ?_ (hel := (by first | exact rfl)) | refine s_kT ?_ | refine f_ret2 def_nil ?_ ?_ | refine t_tmp ?_ | refine t_tmpE ?_)
          all_goals rfl
      | cons q b2 =>
        have hq := hdz q (h2 q (by simp))
        have hvy : ((q :: b2).map Sta.d)[0]? = some q.d := rfl
        have hlb : (q :: b2).length = b2.length + 1 := rfl
        rw [mergeS_nil', List.filter_cons_of_pos hq] at hinv
        repeat' (first | refine ks ?_ | refine ko ?_ | refine s_indexD ?_ (hel := (by first | exact idx_map hvy (by omega) | exact hvy | exact rfl)) | refine s_kT ?_ | refine f_ret2 def_nil ?_ ?_ | refine t_tmp ?_ | refine t_tmpE ?_)
        (apply s_round (([], b2, _, out ++ [q])); all_goals (try dsimp only); all_goals (try (repeat' (first | exact slots_nil | refine w1 ?_ | refine w3 ?_ ?_ | exact memIn_nil | refine memIn_same ?_ | refine m1 ?_ ?_ | omega))))
        all_goals first
          | (rw [take_ge (by simp)]; rfl)
          | (rw [List.map_append]; rfl)
          | (rw [List.length_append]; rfl)
          | exact ⟨h1, fun e h => h2 e (by simp [h]), by omega, by omega, by rw [List.length_append, List.length_singleton]; simp only [List.length_nil] at h5 ⊢; omega, by rw [← hinv, List.append_assoc, mergeS_nil']; rfl⟩
          | skip
    | cons p a2 =>
      have hpz := hgz p (h1 p (by simp))
      have hvx : ((p :: a2).map Sta.d)[0]? = some p.d := rfl
      have hla : (p :: a2).length = a2.length + 1 := rfl
      obtain ⟨hx1, hx2, hx3⟩ := hgm p (h1 p (by simp))
      cases b' with
      | nil =>
        rw [mergeS_nil, List.filter_cons_of_pos hpz] at hinv
        repeat' (first | refine ks ?_ | refine ko ?_ | refine s_indexD ?_ (hel := (by first | exact idx_map hvx (by omega) | exact hvx | exact rfl)) | refine s_kT ?_ | refine f_ret2 def_nil ?_ ?_ | refine t_tmp ?_ | refine t_tmpE ?_)
        (apply s_round ((a2, [], _, out ++ [p])); all_goals (try dsimp only); all_goals (try (repeat' (first | exact slots_nil | refine w1 ?_ | refine w3 ?_ ?_ | exact memIn_nil | refine memIn_same ?_ | refine m1 ?_ ?_ | omega))))
        all_goals first
          | (rw [take_ge (by simp)]; rfl)
          | (rw [List.map_append]; rfl)
          | (rw [List.length_append]; rfl)
          | exact ⟨fun e h => h1 e (by simp [h]), h2, by omega, by omega, by rw [List.length_append, List.length_singleton]; simp only [List.length_nil] at h5 ⊢; omega, by rw [← hinv, List.append_assoc, mergeS_nil]; rfl⟩
          | skip
      | cons q b2 =>
        have hq := hdz q (h2 q (by simp))
        have hvy : ((q :: b2).map Sta.d)[0]? = some q.d := rfl
        have hlb : (q :: b2).length = b2.length + 1 := rfl
        have hso := hgm p (h1 p (by simp))
        have hsd := hdm q (h2 q (by simp))
        have hcm := refCompareRows_c p.key q.key
        rw [mergeS] at hinv
        rcases Int.lt_trichotomy (rowCmp p.key q.key) 0 with hc | hc | hc
        · rw [if_pos hc, List.filter_cons_of_pos hpz] at hinv
          repeat' (first | refine ks ?_ | refine ko ?_ | refine s_indexD ?_ (hel := (by first | exact idx_map hvx (by omega) | exact idx_map hvy (by omega) | exact hvx | exact hvy | exact rfl)) | refine s_call (hcm) ?_ | refine s_kT ?_ | refine f_ret2 def_nil ?_ ?_ | refine t_tmp ?_ | refine t_tmpE ?_)
          (apply s_round ((a2, q :: b2, _, out ++ [p])); all_goals (try dsimp only); all_goals (try (repeat' (first | exact slots_nil | refine w1 ?_ | refine w3 ?_ ?_ | exact memIn_nil | refine memIn_same ?_ | refine m1 ?_ ?_ | omega))))
          all_goals first
            | (rw [take_ge (by simp)]; rfl)
            | (rw [List.map_append]; rfl)
            | (rw [List.length_append]; rfl)
            | exact ⟨fun e h => h1 e (by simp [h]), h2, by omega, by omega, by rw [List.length_append, List.length_singleton]; omega, by rw [← hinv, List.append_assoc]; rfl⟩
            | skip
        · rw [if_neg (by omega), if_neg (by omega)] at hinv
          have hpl := plus_c p q ag.length hal hso.2.1 hso.2.2 hsd.2.1 hsd.2.2
          have hpo := plusS_ok hso hsd
          have o2 : (plusS p q).sums.length = ag.length := hpo.2.1
          have o3 : (plusS p q).some.length = ag.length := hpo.2.2
          have hem := empty_c (plusS p q) (by omega) (by omega)
          rw [empty_zero (by omega)] at hem
          generalize plusS p q = r at hinv hpl hem hpo o2 o3
          cases hz : r.zero with
          | true =>
            rw [hz] at hem
            rw [List.filter_cons_of_neg (by unfold nzS; rw [hz]; decide)] at hinv
            repeat' (first | refine ks ?_ | refine ko ?_ | refine s_indexD ?_ (hel := (by first | exact idx_map hvx (by omega) | exact idx_map hvy (by omega) | exact hvx | exact hvy | exact rfl)) | refine s_call (hcm) ?_ | refine s_call (hpl) ?_ | refine s_call (hem) ?_ | refine s_kT ?_ | refine f_ret2 def_nil ?_ ?_ | refine t_tmp ?_ | refine t_tmpE ?_)
            (apply s_round ((a2, b2, _, out)); all_goals (try dsimp only); all_goals (try (repeat' (first | exact slots_nil | refine w1 ?_ | refine w3 ?_ ?_ | exact memIn_nil | refine memIn_same ?_ | refine m1 ?_ ?_ | omega))))
            all_goals first
              | (rw [take_ge (by simp)]; rfl)
              | exact ⟨fun e h => h1 e (by simp [h]), fun e h => h2 e (by simp [h]), by omega, by omega, by omega, hinv⟩
              | skip
          | false =>
            rw [hz] at hem
            rw [List.filter_cons_of_pos (by unfold nzS; rw [hz]; decide)] at hinv
            repeat' (first | refine ks ?_ | refine ko ?_ | refine s_indexD ?_ (hel := (by first | exact idx_map hvx (by omega) | exact idx_map hvy (by omega) | exact hvx | exact hvy | exact rfl)) | refine s_call (hcm) ?_ | refine s_call (hpl) ?_ | refine s_call (hem) ?_ | refine s_kT ?_ | refine f_ret2 def_nil ?_ ?_ | refine t_tmp ?_ | refine t_tmpE ?_)
            (apply s_round ((a2, b2, _, out ++ [r])); all_goals (try dsimp only); all_goals (try (repeat' (first | exact slots_nil | refine w1 ?_ | refine w3 ?_ ?_ | exact memIn_nil | refine memIn_same ?_ | refine m1 ?_ ?_ | omega))))
            all_goals first
              | (rw [take_ge (by simp)]; rfl)
              | (rw [List.map_append]; rfl)
              | (rw [List.length_append]; rfl)
              | exact ⟨fun e h => h1 e (by simp [h]), fun e h => h2 e (by simp [h]), by omega, by omega, by rw [List.length_append, List.length_singleton]; omega, by rw [← hinv, List.append_assoc]; rfl⟩
              | skip
        · rw [if_neg (by omega), if_pos hc, List.filter_cons_of_pos hq] at hinv
          repeat' (first | refine ks ?_ | refine ko ?_ | refine s_indexD ?_ (hel := (by first | exact idx_map hvx (by omega) | exact idx_map hvy (by omega) | exact hvx | exact hvy | exact rfl)) | refine s_call (hcm) ?_ | refine s_kT ?_ | refine f_ret2 def_nil ?_ ?_ | refine t_tmp ?_ | refine t_tmpE ?_)
          (apply s_round ((p :: a2, b2, _, out ++ [q])); all_goals (try dsimp only); all_goals (try (repeat' (first | exact slots_nil | refine w1 ?_ | refine w3 ?_ ?_ | exact memIn_nil | refine memIn_same ?_ | refine m1 ?_ ?_ | omega))))
          all_goals first
            | (rw [take_ge (by simp)]; rfl)
            | (rw [List.map_append]; rfl)
            | (rw [List.length_append]; rfl)
            | exact ⟨h1, fun e h => h2 e (by simp [h]), by omega, by omega, by rw [List.length_append, List.length_singleton]; omega, by rw [← hinv, List.append_assoc]; rfl⟩
            | skip
  · rw [if_neg h12]
    by_cases h1 : stsOk ag g = true
    · rw [h1] at hv
      rcases statesE_or change keys ag with h | h
      · exact absurd ⟨h1, h⟩ h12
      rw [h] at hst
      refine pcallN hT Tryz.func68 Tryz.ntmps68 [.tmp 8, .tmp 9] fun B => ?_
      repeat' (first | refine ks ?_ | refine ko ?_ | refine s_indexD ?_ (hel := (by first | exact rfl)) | refine s_call (hv) ?_ | refine s_call (hst) ?_ | refine s_kT ?_ | refine f_ret2 def_nil ?_ ?_ | refine t_tmp ?_ | refine t_tmpE ?_)
      all_goals rfl
    · rw [show stsOk ag g = false by simpa using h1] at hv
      generalize (statesE change keys ag).1 = D at hst
      generalize (statesE change keys ag).2 = e at hst
      refine pcallN hT Tryz.func68 Tryz.ntmps68 [.tmp 8, .tmp 9] fun B => ?_
      repeat' (first | refine ks ?_ | refine ko ?_ | refine s_indexD ?_ (hel := (by first | exact rfl)) | refine s_call (hv) ?_ | refine s_call (hst) ?_ | refine s_kT ?_ | refine f_ret2 def_nil ?_ ?_ | refine t_tmp ?_ | refine t_tmpE ?_)
      all_goals rfl
end Go.Proofs.YtojfhaoleedmkaaGreat
