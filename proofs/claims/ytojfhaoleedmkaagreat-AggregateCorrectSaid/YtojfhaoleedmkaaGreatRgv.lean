/-
  Aggregates, the document's: Valid.
-/
import Derived.Test.YtojfhaoleedmkaaGreatRge
import Derived.Test.YtojfhaoleedmkaaGreatHom
namespace Go.Proofs.YtojfhaoleedmkaaGreat
open Go.Abs Go.RowKit
attribute [local irreducible] ARun kont MCall PCall HCall resVal SF CF CFs defersOk slotsIn memIn fin finM VLe
set_option linter.unusedSimpArgs false
set_option maxRecDepth 100000
set_option maxHeartbeats 4000000
def zOk (t : Agg × Int × Int) : Bool := !decide (t.1.func = 0) || (decide (t.2.1 = 0) && decide (t.2.2 = 0))
theorem tri_nums {ag : List Agg} {s : Sta} (h1 : s.sums.length = ag.length) (h2 : s.some.length = ag.length) : numsOk ag s = (limsE s && !s.zero && (tri ag s).all zOk) := by
  have key : ∀ (ag : List Agg) (l m : List Int), l.length = ag.length → m.length = ag.length → (ag.zip (l.zip m)).all triOk = ((l.zip m).all limP && (ag.zip (l.zip m)).all zOk) := by
    intro ag
    induction ag with
    | nil =>
      intro l m h1 h2
      obtain rfl := List.length_eq_zero_iff.1 h1
      rfl
    | cons x ag ih =>
      intro l m h1 h2
      cases l with
      | nil => simp at h1
      | cons a l =>
        cases m with
        | nil => simp at h2
        | cons b m =>
          have := ih l m (by simpa using h1) (by simpa using h2)
          simp only [List.zip_cons_cons, List.all_cons, this, triOk, limP, zOk]
          cases inW b 1073741824 <;> cases inW a 4611686018427387904 <;> cases decide (x.func = 0) <;> cases decide (a = 0) <;> cases decide (b = 0) <;> cases (l.zip m).all limP <;> simp
  unfold numsOk
  rw [decide_eq_true h1, decide_eq_true h2]
  unfold tri limsE
  rw [key ag s.sums s.some h1 h2]
  cases inW s.count 1073741824 <;> cases s.zero <;> cases (s.sums.zip s.some).all limP <;> simp
theorem refAggValid_c (l : List Sta) (ag : List Agg) (hal : ag.length ≤ 10000) : PCall Tryz.prog 113 [.one (stsD l), .one (aggD ag)] (.v (.one (.lit (.bool (stsOk ag l))))) := by
  by_cases hl : l.length ≤ 4096
  · have e0 : stsOk ag l = goodS ag none l := by unfold stsOk; rw [decide_eq_true hl, Bool.true_and]
    rw [e0]
    refine pcallN hT Tryz.func113 Tryz.ntmps113 [.tmp 4] fun B => ?_
    repeat' (first | refine ks ?_ | refine ko ?_ | refine s_indexD ?_ (hel := (by first | exact rfl)) | refine s_kT ?_ | refine s_kF ?_ | refine f_ret1 def_nil ?_ | refine t_tmp ?_)
    refine s_lp (X := Nat) [4, 5, 6, 7, 11, 12, 13, 14, 15, 16, 17, 18, 19, 20, 21, 22, 23, 24, 25, 26, 27, 28, 29, 30, 31, 32, 33, 34, 35, 36, 37, 38, 39, 40, 41, 42, 43, 44, 45, 46, 47, 48, 49, 50, 51, 52, 53, 54, 55, 56, 57, 58, 59, 60, 61, 62, 63, 64, 65, 66, 67, 68, 69, 70, 71, 72, 73, 74, 75, 76, 77, 78, 79, 80, 81, 82, 83, 84, 85, 86, 87, 88, 89, 90, 91, 92, 93, 94, 95, 96, 97, 98, 99] (fun x => x ≤ l.length ∧ goodS ag none l = goodS ag (prevS l x) (l.drop x)) (fun x lz => (5, (.c (.d (.lit (.int .i64 x))))) :: lz) (fun x => []) (fun x => l.length - x) (0) ?_ ?_ ?_ ?_
    repeat' (first | exact slots_nil | refine kw ?_ | exact memIn_nil | omega)
    · exact ⟨by simp, by simp [prevS]⟩
    rintro i c ⟨hi, hinv⟩
    by_cases hlt : i < l.length
    · have hv : l[i]? = some l[i] := List.getElem?_eq_getElem hlt
      generalize l[i] = e at hv
      have hv2 : (l.map Sta.d)[i]? = some e.d := by rw [List.getElem?_map, hv]; rfl
      rw [goodS_step hv] at hinv
      have hr := refValidRow_c e.key
      cases h2 : rowOK e.key with
      | false =>
        rw [h2] at hr
        rw [hinv, show staOk ag e = false by unfold staOk; rw [h2]; simp]
        repeat' (first | refine s_freezeV 6 ?_ | refine ks ?_ | refine ko ?_ | refine s_indexD ?_ (hel := (by first | exact idx_map hv2 (by omega) | exact hv2 | exact rfl)) | refine s_call (hr) ?_ | refine s_kT ?_ | refine s_kF ?_ | refine f_ret1 def_nil ?_ | refine t_tmp ?_)
        all_goals rfl
      | true =>
        rw [h2] at hr
        by_cases h1 : e.key.length ≤ 8
        · have hst : staOk ag e = numsOk ag e := by unfold staOk; rw [h2, decide_eq_true h1]; rfl
          rw [hst] at hinv
          clear hst
          have hprev : i = 0 ∨ ∃ p : Sta, 0 < i ∧ prevS l i = some p ∧ (l.map Sta.d)[((i : Int) - 1).toNat]? = some p.d := by
            rcases i with _ | j
            · exact .inl rfl
            · have hu : l[j]? = some l[j] := List.getElem?_eq_getElem (by omega)
              exact .inr ⟨l[j], by omega, by simp [prevS, hu], by rw [show (((j + 1 : Nat) : Int) - 1).toNat = j by omega, List.getElem?_map, hu]; rfl⟩
          rcases hprev with hi0 | ⟨p, hi1, hp, hu2⟩
          · have hp : prevS l i = none := by rw [hi0]; rfl
            rw [hp] at hinv
            dsimp only at hinv
            rw [Bool.and_true] at hinv
            by_cases h3 : e.sums.length = ag.length
            · by_cases h4 : e.some.length = ag.length
              · have hn := numbers_c e (by omega) (by omega)
                have he := empty_c e (by omega) (by omega)
                rw [empty_zero (by omega)] at he
                rw [tri_nums h3 h4] at hinv
                cases h5 : limsE e with
                | false =>
                  rw [h5] at hn
                  rw [hinv, h5]
                  repeat' (first | refine s_freezeV 6 ?_ | refine ks ?_ | refine ko ?_ | refine s_indexD ?_ (hel := (by first | exact idx_map hv2 (by omega) | exact hv2 | exact rfl)) | refine s_call (hr) ?_ | refine s_call (hn) ?_ | refine s_call (he) ?_ | refine s_kT ?_ | refine s_kF ?_ | refine f_ret1 def_nil ?_ | refine t_tmp ?_)
                  all_goals rfl
                | true =>
                  rw [h5] at hn
                  cases h6 : e.zero with
                  | true =>
                    rw [h6] at he
                    rw [hinv, h5, h6]
                    repeat' (first | refine s_freezeV 6 ?_ | refine ks ?_ | refine ko ?_ | refine s_indexD ?_ (hel := (by first | exact idx_map hv2 (by omega) | exact hv2 | exact rfl)) | refine s_call (hr) ?_ | refine s_call (hn) ?_ | refine s_call (he) ?_ | refine s_kT ?_ | refine s_kF ?_ | refine f_ret1 def_nil ?_ | refine t_tmp ?_)
                    all_goals rfl
                  | false =>
                    rw [h6] at he
                    rw [h5, h6, Bool.not_false, Bool.true_and, Bool.true_and] at hinv
                    repeat' (first | refine s_freezeV 6 ?_ | refine ks ?_ | refine ko ?_ | refine s_indexD ?_ (hel := (by first | exact idx_map hv2 (by omega) | exact hv2 | exact rfl)) | refine s_call (hr) ?_ | refine s_call (hn) ?_ | refine s_call (he) ?_ | refine s_kT ?_ | refine s_kF ?_ | refine f_ret1 def_nil ?_ | refine t_tmp ?_)
                    refine s_lp (X := Nat) [4, 7, 72, 73, 74, 75, 76, 77, 78, 79, 80, 81, 82, 83, 84, 85, 86, 87, 88, 89, 90, 91, 92, 93, 94, 95, 96, 97, 98, 99] (fun x => x ≤ ag.length ∧ ((tri ag e).take x).all zOk = true) (fun x lz => (7, (.c (.d (.lit (.int .i64 x))))) :: lz) (fun x => []) (fun x => ag.length - x) (0) ?_ ?_ ?_ ?_
                    repeat' (first | exact slots_nil | refine kw ?_ | exact memIn_nil | omega)
                    all_goals try (exact ⟨by simp, by simp⟩)
                    rintro k c2 ⟨hk, hk2⟩
                    by_cases hkl : k < ag.length
                    · have hy : ag[k]? = some ag[k] := List.getElem?_eq_getElem hkl
                      have hu3 : e.sums[k]? = some (e.sums[k]'(by omega)) := List.getElem?_eq_getElem _
                      have hu4 : e.some[k]? = some (e.some[k]'(by omega)) := List.getElem?_eq_getElem _
                      generalize ag[k] = y at hy
                      generalize e.sums[k]'(by omega) = a at hu3
                      generalize e.some[k]'(by omega) = b at hu4
                      have hy2 : (ag.map Agg.d)[k]? = some y.d := by rw [List.getElem?_map, hy]; rfl
                      have ht := tri_get hy hu3 hu4
                      have hbad : zOk (y, a, b) = false → (tri ag e).all zOk = false := not_all zOk ht
                      have hgood : zOk (y, a, b) = true → ((tri ag e).take (k + 1)).all zOk = true := take_all zOk ht hk2
                      by_cases hf : y.func = 0
                      · by_cases ha0 : a = 0
                        · by_cases hb0 : b = 0
                          · subst ha0; subst hb0
                            repeat' (first | refine ks ?_ | refine ko ?_ | refine s_indexD ?_ (hel := (by first | exact idx_map hy2 (by omega) | exact idx_map hu3 (by omega) | exact idx_map hu4 (by omega) | exact hy2 | exact hu3 | exact hu4 | exact rfl)) | refine s_kT ?_ | refine s_kF ?_ | refine f_ret1 def_nil ?_ | refine t_tmp ?_)
                            (apply s_round (k + 1); all_goals (try dsimp only); all_goals (try (repeat' (first | exact slots_nil | refine kw ?_ | exact memIn_nil | omega))))
                            all_goals first
                              | rfl
                              | exact ⟨by omega, hgood (by simp [zOk])⟩
                          · rw [hinv, hbad (by simp [zOk, hf, hb0]), Bool.false_and]
                            repeat' (first | refine ks ?_ | refine ko ?_ | refine s_indexD ?_ (hel := (by first | exact idx_map hy2 (by omega) | exact idx_map hu3 (by omega) | exact idx_map hu4 (by omega) | exact hy2 | exact hu3 | exact hu4 | exact rfl)) | refine s_kT ?_ | refine s_kF ?_ | refine f_ret1 def_nil ?_ | refine t_tmp ?_)
                            all_goals rfl
                        · rw [hinv, hbad (by simp [zOk, hf, ha0]), Bool.false_and]
                          repeat' (first | refine ks ?_ | refine ko ?_ | refine s_indexD ?_ (hel := (by first | exact idx_map hy2 (by omega) | exact idx_map hu3 (by omega) | exact idx_map hu4 (by omega) | exact hy2 | exact hu3 | exact hu4 | exact rfl)) | refine s_kT ?_ | refine s_kF ?_ | refine f_ret1 def_nil ?_ | refine t_tmp ?_)
                          all_goals rfl
                      · repeat' (first | refine ks ?_ | refine ko ?_ | refine s_indexD ?_ (hel := (by first | exact idx_map hy2 (by omega) | exact idx_map hu3 (by omega) | exact idx_map hu4 (by omega) | exact hy2 | exact hu3 | exact hu4 | exact rfl)) | refine s_kT ?_ | refine s_kF ?_ | refine f_ret1 def_nil ?_ | refine t_tmp ?_)
                        (apply s_round (k + 1); all_goals (try dsimp only); all_goals (try (repeat' (first | exact slots_nil | refine kw ?_ | exact memIn_nil | omega))))
                        all_goals first
                          | rfl
                          | exact ⟨by omega, hgood (by simp [zOk, hf])⟩
                    · have htl := tri_len h3 h4
                      rw [take_ge (show (tri ag e).length ≤ k by omega)] at hk2
                      rw [hk2, Bool.true_and] at hinv
                      repeat' (first | refine ks ?_ | refine ko ?_ | refine s_indexD ?_ (hel := (by first | exact rfl)) | refine s_kT ?_ | refine s_kF ?_ | refine f_ret1 def_nil ?_ | refine t_tmp ?_)
                      (apply s_round (i + 1); all_goals (try dsimp only); all_goals (try (repeat' (first | exact slots_nil | refine kw ?_ | exact memIn_nil | omega))))
                      all_goals first
                        | rfl
                        | exact ⟨by omega, hinv⟩
              · rw [hinv, show numsOk ag e = false by unfold numsOk; rw [decide_eq_false h4]; simp]
                repeat' (first | refine s_freezeV 6 ?_ | refine ks ?_ | refine ko ?_ | refine s_indexD ?_ (hel := (by first | exact idx_map hv2 (by omega) | exact hv2 | exact rfl)) | refine s_call (hr) ?_ | refine s_kT ?_ | refine s_kF ?_ | refine f_ret1 def_nil ?_ | refine t_tmp ?_)
                all_goals rfl
            · rw [hinv, show numsOk ag e = false by unfold numsOk; rw [decide_eq_false h3]; simp]
              repeat' (first | refine s_freezeV 6 ?_ | refine ks ?_ | refine ko ?_ | refine s_indexD ?_ (hel := (by first | exact idx_map hv2 (by omega) | exact hv2 | exact rfl)) | refine s_call (hr) ?_ | refine s_kT ?_ | refine s_kF ?_ | refine f_ret1 def_nil ?_ | refine t_tmp ?_)
              all_goals rfl
          · have hcm := refCompareRows_c p.key e.key
            rw [hp] at hinv
            dsimp only at hinv
            by_cases hc : rowCmp p.key e.key < 0
            · rw [decide_eq_true hc, Bool.and_true] at hinv
              by_cases h3 : e.sums.length = ag.length
              · by_cases h4 : e.some.length = ag.length
                · have hn := numbers_c e (by omega) (by omega)
                  have he := empty_c e (by omega) (by omega)
                  rw [empty_zero (by omega)] at he
                  rw [tri_nums h3 h4] at hinv
                  cases h5 : limsE e with
                  | false =>
                    rw [h5] at hn
                    rw [hinv, h5]
                    repeat' (first | refine s_freezeV 6 ?_ | refine ks ?_ | refine ko ?_ | refine s_indexD ?_ (hel := (by first | exact idx_map hv2 (by omega) | exact idx_map hu2 (by omega) | exact hv2 | exact hu2 | exact rfl)) | refine s_call (hr) ?_ | refine s_call (hn) ?_ | refine s_call (he) ?_ | refine s_call (hcm) ?_ | refine s_kT ?_ | refine s_kF ?_ | refine f_ret1 def_nil ?_ | refine t_tmp ?_)
                    all_goals rfl
                  | true =>
                    rw [h5] at hn
                    cases h6 : e.zero with
                    | true =>
                      rw [h6] at he
                      rw [hinv, h5, h6]
                      repeat' (first | refine s_freezeV 6 ?_ | refine ks ?_ | refine ko ?_ | refine s_indexD ?_ (hel := (by first | exact idx_map hv2 (by omega) | exact idx_map hu2 (by omega) | exact hv2 | exact hu2 | exact rfl)) | refine s_call (hr) ?_ | refine s_call (hn) ?_ | refine s_call (he) ?_ | refine s_call (hcm) ?_ | refine s_kT ?_ | refine s_kF ?_ | refine f_ret1 def_nil ?_ | refine t_tmp ?_)
                      all_goals rfl
                    | false =>
                      rw [h6] at he
                      rw [h5, h6, Bool.not_false, Bool.true_and, Bool.true_and] at hinv
                      repeat' (first | refine s_freezeV 6 ?_ | refine ks ?_ | refine ko ?_ | refine s_indexD ?_ (hel := (by first | exact idx_map hv2 (by omega) | exact idx_map hu2 (by omega) | exact hv2 | exact hu2 | exact rfl)) | refine s_call (hr) ?_ | refine s_call (hn) ?_ | refine s_call (he) ?_ | refine s_call (hcm) ?_ | refine s_kT ?_ | refine s_kF ?_ | refine f_ret1 def_nil ?_ | refine t_tmp ?_)
                      refine s_lp (X := Nat) [4, 7, 72, 73, 74, 75, 76, 77, 78, 79, 80, 81, 82, 83, 84, 85, 86, 87, 88, 89, 90, 91, 92, 93, 94, 95, 96, 97, 98, 99] (fun x => x ≤ ag.length ∧ ((tri ag e).take x).all zOk = true) (fun x lz => (7, (.c (.d (.lit (.int .i64 x))))) :: lz) (fun x => []) (fun x => ag.length - x) (0) ?_ ?_ ?_ ?_
                      repeat' (first | exact slots_nil | refine kw ?_ | exact memIn_nil | omega)
                      all_goals try (exact ⟨by simp, by simp⟩)
                      rintro k c2 ⟨hk, hk2⟩
                      by_cases hkl : k < ag.length
                      · have hy : ag[k]? = some ag[k] := List.getElem?_eq_getElem hkl
                        have hu3 : e.sums[k]? = some (e.sums[k]'(by omega)) := List.getElem?_eq_getElem _
                        have hu4 : e.some[k]? = some (e.some[k]'(by omega)) := List.getElem?_eq_getElem _
                        generalize ag[k] = y at hy
                        generalize e.sums[k]'(by omega) = a at hu3
                        generalize e.some[k]'(by omega) = b at hu4
                        have hy2 : (ag.map Agg.d)[k]? = some y.d := by rw [List.getElem?_map, hy]; rfl
                        have ht := tri_get hy hu3 hu4
                        have hbad : zOk (y, a, b) = false → (tri ag e).all zOk = false := not_all zOk ht
                        have hgood : zOk (y, a, b) = true → ((tri ag e).take (k + 1)).all zOk = true := take_all zOk ht hk2
                        by_cases hf : y.func = 0
                        · by_cases ha0 : a = 0
                          · by_cases hb0 : b = 0
                            · subst ha0; subst hb0
                              repeat' (first | refine ks ?_ | refine ko ?_ | refine s_indexD ?_ (hel := (by first | exact idx_map hy2 (by omega) | exact idx_map hu3 (by omega) | exact idx_map hu4 (by omega) | exact hy2 | exact hu3 | exact hu4 | exact rfl)) | refine s_kT ?_ | refine s_kF ?_ | refine f_ret1 def_nil ?_ | refine t_tmp ?_)
                              (apply s_round (k + 1); all_goals (try dsimp only); all_goals (try (repeat' (first | exact slots_nil | refine kw ?_ | exact memIn_nil | omega))))
                              all_goals first
                                | rfl
                                | exact ⟨by omega, hgood (by simp [zOk])⟩
                            · rw [hinv, hbad (by simp [zOk, hf, hb0]), Bool.false_and]
                              repeat' (first | refine ks ?_ | refine ko ?_ | refine s_indexD ?_ (hel := (by first | exact idx_map hy2 (by omega) | exact idx_map hu3 (by omega) | exact idx_map hu4 (by omega) | exact hy2 | exact hu3 | exact hu4 | exact rfl)) | refine s_kT ?_ | refine s_kF ?_ | refine f_ret1 def_nil ?_ | refine t_tmp ?_)
                              all_goals rfl
                          · rw [hinv, hbad (by simp [zOk, hf, ha0]), Bool.false_and]
                            repeat' (first | refine ks ?_ | refine ko ?_ | refine s_indexD ?_ (hel := (by first | exact idx_map hy2 (by omega) | exact idx_map hu3 (by omega) | exact idx_map hu4 (by omega) | exact hy2 | exact hu3 | exact hu4 | exact rfl)) | refine s_kT ?_ | refine s_kF ?_ | refine f_ret1 def_nil ?_ | refine t_tmp ?_)
                            all_goals rfl
                        · repeat' (first | refine ks ?_ | refine ko ?_ | refine s_indexD ?_ (hel := (by first | exact idx_map hy2 (by omega) | exact idx_map hu3 (by omega) | exact idx_map hu4 (by omega) | exact hy2 | exact hu3 | exact hu4 | exact rfl)) | refine s_kT ?_ | refine s_kF ?_ | refine f_ret1 def_nil ?_ | refine t_tmp ?_)
                          (apply s_round (k + 1); all_goals (try dsimp only); all_goals (try (repeat' (first | exact slots_nil | refine kw ?_ | exact memIn_nil | omega))))
                          all_goals first
                            | rfl
                            | exact ⟨by omega, hgood (by simp [zOk, hf])⟩
                      · have htl := tri_len h3 h4
                        rw [take_ge (show (tri ag e).length ≤ k by omega)] at hk2
                        rw [hk2, Bool.true_and] at hinv
                        repeat' (first | refine ks ?_ | refine ko ?_ | refine s_indexD ?_ (hel := (by first | exact rfl)) | refine s_kT ?_ | refine s_kF ?_ | refine f_ret1 def_nil ?_ | refine t_tmp ?_)
                        (apply s_round (i + 1); all_goals (try dsimp only); all_goals (try (repeat' (first | exact slots_nil | refine kw ?_ | exact memIn_nil | omega))))
                        all_goals first
                          | rfl
                          | exact ⟨by omega, hinv⟩
                · rw [hinv, show numsOk ag e = false by unfold numsOk; rw [decide_eq_false h4]; simp]
                  repeat' (first | refine s_freezeV 6 ?_ | refine ks ?_ | refine ko ?_ | refine s_indexD ?_ (hel := (by first | exact idx_map hv2 (by omega) | exact idx_map hu2 (by omega) | exact hv2 | exact hu2 | exact rfl)) | refine s_call (hr) ?_ | refine s_call (hcm) ?_ | refine s_kT ?_ | refine s_kF ?_ | refine f_ret1 def_nil ?_ | refine t_tmp ?_)
                  all_goals rfl
              · rw [hinv, show numsOk ag e = false by unfold numsOk; rw [decide_eq_false h3]; simp]
                repeat' (first | refine s_freezeV 6 ?_ | refine ks ?_ | refine ko ?_ | refine s_indexD ?_ (hel := (by first | exact idx_map hv2 (by omega) | exact idx_map hu2 (by omega) | exact hv2 | exact hu2 | exact rfl)) | refine s_call (hr) ?_ | refine s_call (hcm) ?_ | refine s_kT ?_ | refine s_kF ?_ | refine f_ret1 def_nil ?_ | refine t_tmp ?_)
                all_goals rfl
            · rw [hinv, decide_eq_false hc, Bool.and_false, Bool.false_and]
              repeat' (first | refine s_freezeV 6 ?_ | refine ks ?_ | refine ko ?_ | refine s_indexD ?_ (hel := (by first | exact idx_map hv2 (by omega) | exact idx_map hu2 (by omega) | exact hv2 | exact hu2 | exact rfl)) | refine s_call (hr) ?_ | refine s_call (hcm) ?_ | refine s_kT ?_ | refine s_kF ?_ | refine f_ret1 def_nil ?_ | refine t_tmp ?_)
              all_goals rfl
        · rw [hinv, show staOk ag e = false by unfold staOk; rw [decide_eq_false h1]; simp]
          repeat' (first | refine s_freezeV 6 ?_ | refine ks ?_ | refine ko ?_ | refine s_indexD ?_ (hel := (by first | exact idx_map hv2 (by omega) | exact hv2 | exact rfl)) | refine s_call (hr) ?_ | refine s_kT ?_ | refine s_kF ?_ | refine f_ret1 def_nil ?_ | refine t_tmp ?_)
          all_goals rfl
    · rw [hinv, List.drop_eq_nil_of_le (by omega), goodS]
      repeat' (first | refine ks ?_ | refine ko ?_ | refine s_indexD ?_ (hel := (by first | exact rfl)) | refine s_kT ?_ | refine s_kF ?_ | refine f_ret1 def_nil ?_ | refine t_tmp ?_)
      all_goals rfl
  · have e0 : stsOk ag l = false := by unfold stsOk; rw [decide_eq_false hl, Bool.false_and]
    rw [e0]
    refine pcallN hT Tryz.func113 Tryz.ntmps113 [.tmp 4] fun B => ?_
    repeat' (first | refine ks ?_ | refine ko ?_ | refine s_indexD ?_ (hel := (by first | exact rfl)) | refine s_kT ?_ | refine s_kF ?_ | refine f_ret1 def_nil ?_ | refine t_tmp ?_)
    all_goals rfl
end Go.Proofs.YtojfhaoleedmkaaGreat
