/-
  AggregateCorrect: the law returns true.
-/
import Derived.Test.YtojfhaoleedmkaaGreatRgx
import Derived.Test.YtojfhaoleedmkaaGreatLga
import Derived.Test.YtojfhaoleedmkaaGreatSpg
section
namespace Go.Proofs.YtojfhaoleedmkaaGreat
open Go.Abs Go.RowKit
set_option linter.unusedSimpArgs false
set_option maxRecDepth 100000
def ShOk (ag : List Agg) (s : Sta) : Prop := s.key.length ≤ 8 ∧ rowOK s.key = true ∧ s.sums.length = ag.length ∧ s.some.length = ag.length ∧ (tri ag s).all zOk = true
theorem sta_sh {ag : List Agg} {s : Sta} (h : staOk ag s = true) : ShOk ag s := by
  obtain ⟨h1, h2, h3⟩ := staOk_says h
  obtain ⟨h4, h5⟩ := numsOk_len h3
  rw [tri_nums h4 h5] at h3
  simp only [Bool.and_eq_true] at h3
  exact ⟨h1, h2, h4, h5, h3.2⟩
theorem sh_sta {ag : List Agg} {s : Sta} (h : ShOk ag s) (hz : nzS s = true) (hl : limsE s = true) : staOk ag s = true := by
  obtain ⟨h1, h2, h3, h4, h5⟩ := h
  have hz : s.zero = false := by simpa [nzS] using hz
  unfold staOk
  rw [tri_nums h3 h4, h2, h5, hl, hz, decide_eq_true h1]; rfl
theorem sta_lims {ag : List Agg} {s : Sta} (h : staOk ag s = true) : limsE s = true := by
  obtain ⟨_, _, h3⟩ := staOk_says h
  obtain ⟨h4, h5⟩ := numsOk_len h3
  rw [tri_nums h4 h5] at h3
  simp only [Bool.and_eq_true] at h3
  exact h3.1.1
theorem zOk_iff (t : Agg × Int × Int) : zOk t = true ↔ (t.1.func = 0 → t.2.1 = 0 ∧ t.2.2 = 0) := by
  unfold zOk
  by_cases h : t.1.func = 0 <;> simp [h]
theorem tri_plus : ∀ (ag : List Agg) (a b c d : List Int), (ag.zip (a.zip b)).all zOk = true → (ag.zip (c.zip d)).all zOk = true → (ag.zip ((List.zipWith (fun x y => w64 (x + y)) a c).zip (List.zipWith (fun x y => w64 (x + y)) b d))).all zOk = true
  | [], _, _, _, _, _, _ => rfl
  | x :: ag, [], _, _, _, _, _ => by simp
  | x :: ag, _ :: _, [], _, _, _, _ => by simp
  | x :: ag, _ :: _, _ :: _, [], _, _, _ => by simp
  | x :: ag, _ :: _, _ :: _, _ :: _, [], _, _ => by simp
  | x :: ag, p :: a, q :: b, r :: c, s :: d, h1, h2 => by
    simp only [List.zip_cons_cons, List.all_cons, Bool.and_eq_true] at h1 h2
    simp only [List.zipWith_cons_cons, List.zip_cons_cons, List.all_cons, Bool.and_eq_true]
    refine ⟨?_, tri_plus ag a b c d h1.2 h2.2⟩
    rw [zOk_iff] at h1 h2 ⊢
    intro hf
    obtain ⟨e1, e2⟩ := h1.1 hf
    obtain ⟨e3, e4⟩ := h2.1 hf
    dsimp only at e1 e2 e3 e4 ⊢
    rw [e1, e2, e3, e4]
    exact ⟨by decide +kernel, by decide +kernel⟩
theorem plus_sh {ag : List Agg} {x y : Sta} (hx : ShOk ag x) (hy : ShOk ag y) : ShOk ag (plusS x y) := by
  obtain ⟨a1, a2, a3, a4, a5⟩ := hx
  obtain ⟨_, _, b3, b4, b5⟩ := hy
  refine ⟨a1, a2, ?_, ?_, tri_plus ag x.sums x.some y.sums y.some a5 b5⟩
  · show (List.zipWith _ x.sums y.sums).length = _
    rw [List.length_zipWith]; omega
  · show (List.zipWith _ x.some y.some).length = _
    rw [List.length_zipWith]; omega
theorem merge_sh {ag : List Agg} {g d : List Sta} : (∀ s ∈ g, ShOk ag s) → (∀ s ∈ d, ShOk ag s) → ∀ s ∈ mergeS g d, ShOk ag s := by
  induction g, d using mergeS.induct with
  | case1 d => intro _ h; rw [mergeS_nil']; exact h
  | case2 g _ => intro h _; rw [mergeS_nil]; exact h
  | case3 x g y d h ih =>
    intro hg hd s hs
    rw [mergeS, if_pos h] at hs
    rcases List.mem_cons.1 hs with rfl | hs
    · exact hg _ (by simp)
    · exact ih (fun t ht => hg t (by simp [ht])) hd s hs
  | case4 x g y d h1 h2 ih =>
    intro hg hd s hs
    rw [mergeS, if_neg h1, if_pos h2] at hs
    rcases List.mem_cons.1 hs with rfl | hs
    · exact hd _ (by simp)
    · exact ih hg (fun t ht => hd t (by simp [ht])) s hs
  | case5 x g y d h1 h2 ih =>
    intro hg hd s hs
    rw [mergeS, if_neg h1, if_neg h2] at hs
    rcases List.mem_cons.1 hs with rfl | hs
    · exact plus_sh (hg x (by simp)) (hd y (by simp))
    · exact ih (fun t ht => hg t (by simp [ht])) (fun t ht => hd t (by simp [ht])) s hs
theorem tri_allF {ag : List Agg} {f g : Agg → Int} {P : Agg × Int × Int → Bool} (h : ∀ x ∈ ag, P (x, f x, g x) = true) : (ag.zip ((ag.map f).zip (ag.map g))).all P = true := by
  induction ag with
  | nil => rfl
  | cons x ag ih =>
    rw [List.map_cons, List.map_cons, List.zip_cons_cons, List.zip_cons_cons, List.all_cons, h x (by simp), ih fun y hy => h y (by simp [hy])]; rfl
theorem states_sh {b : List Entry} {keys : List Itm} {ag : List Agg} : (∀ s ∈ (statesE b keys ag).1, ShOk ag s) ∧ (statesE b keys ag).1.Pairwise sR ∧ clS (statesE b keys ag).1 := by
  unfold statesE
  split
  · rename_i hc
    have hK : CleanK b (keyE keys) := fun e _ => keyE_clean keys e.row
    have hup := stsE_up (ag := ag) hK
    rw [← stsE_says] at hup
    refine ⟨fun s hs => ?_, hup.1, hup.2⟩
    obtain ⟨g, hg, rfl⟩ := List.mem_map.1 (List.mem_filter.1 hs).1
    obtain ⟨⟨e, _, h1⟩, _⟩ := grpE_mem hK hg
    have hkl : g.1.length = keys.length := by rw [← h1, keyE_len]
    refine ⟨by show g.1.length ≤ 8; have := hc.2.1; omega, ?_, List.length_map .., List.length_map .., ?_⟩
    · show rowOK g.1 = true
      simp only [rowOK, Bool.and_eq_true, decide_eq_true_eq, List.all_eq_true]
      refine ⟨by have := hc.2.1; omega, fun v hv => ?_⟩
      rw [← h1] at hv
      obtain ⟨it, _, rfl⟩ := List.mem_map.1 hv
      exact evE_valid ..
    · refine tri_allF fun x _ => ?_
      rw [zOk_iff]
      intro hf
      dsimp only at hf
      exact ⟨if_neg (by omega), if_neg (by omega)⟩
  · exact ⟨(fun s hs => by cases hs), List.Pairwise.nil, (fun s hs => by cases hs)⟩
theorem goodS_from {ag : List Agg} : ∀ {l : List Sta} {p : Option Sta}, (∀ s ∈ l, staOk ag s = true) → l.Pairwise sR → (∀ q, p = some q → ∀ s ∈ l, sR q s) → goodS ag p l = true
  | [], p, _, _, _ => by rw [goodS.eq_def]
  | e :: l, p, h, hs, hp => by
    obtain ⟨h1, h2⟩ := List.pairwise_cons.1 hs
    have ih := goodS_from (p := some e) (fun s hm => h s (by simp [hm])) h2 (fun q hq => by cases hq; exact h1)
    rw [goodS.eq_def]
    dsimp only
    rw [ih, h e (by simp), Bool.and_true, Bool.true_and]
    cases p with
    | none => rfl
    | some q => exact decide_eq_true (hp q rfl e (by simp))
theorem goodS_up {ag : List Agg} : ∀ {l : List Sta} {p : Option Sta}, goodS ag p l = true → l.Pairwise sR ∧ ∀ q, p = some q → ∀ s ∈ l, sR q s
  | [], _, _ => ⟨List.Pairwise.nil, (fun _ _ _ h => by cases h)⟩
  | e :: l, p, h => by
    rw [goodS.eq_def] at h
    simp only [Bool.and_eq_true] at h
    obtain ⟨⟨_, h2⟩, h3⟩ := h
    obtain ⟨i1, i2⟩ := goodS_up h3
    refine ⟨List.pairwise_cons.2 ⟨i2 e rfl, i1⟩, fun q hq s hs => ?_⟩
    subst hq
    have hqe : sR q e := of_decide_eq_true (p := rowCmp q.key e.key < 0) h2
    rcases List.mem_cons.1 hs with rfl | hs
    · exact hqe
    · exact sR_tr q e s hqe (i2 e rfl s hs)
theorem refCorrect_eq (g : List Sta) (change : List Entry) (keys : List Itm) (ag : List Agg) : refCorrectE g change keys ag = correctE g change keys ag := by
  unfold refCorrectE correctE
  by_cases h1 : stsOk ag g = true
  · by_cases h2 : (statesE change keys ag).2 = 0
    · rw [if_pos ⟨h1, h2⟩, if_pos h1, if_pos h2]
      obtain ⟨d1, d2, d3⟩ := states_sh (b := change) (keys := keys) (ag := ag)
      generalize (statesE change keys ag).1 = d at d1 d2 d3
      have hg := h1
      simp only [stsOk, Bool.and_eq_true] at hg
      have g1 : ∀ s ∈ g, ShOk ag s := fun s hs => sta_sh (goodS_mem hg.2 s hs)
      have g2 := (goodS_up hg.2).1
      have g3 : clS g := fun s hs => rowOK_clean (g1 s hs).2.1
      have hm := merge_sh g1 d1
      have hu := List.Pairwise.sublist (List.filter_sublist (p := nzS)) (mergeS_up g2 d2 g3 d3)
      by_cases h3 : ((mergeS g d).filter nzS).length ≤ 4096
      · rw [if_pos h3, if_pos h3]
        have key : ((mergeS g d).filter nzS).all limsE = stsOk ag ((mergeS g d).filter nzS) := by
          rw [Bool.eq_iff_iff]
          constructor
          · intro h
            unfold stsOk
            rw [decide_eq_true h3, Bool.true_and]
            refine goodS_from (fun s hs => ?_) hu (by simp)
            obtain ⟨q1, q2⟩ := List.mem_filter.1 hs
            exact sh_sta (hm s q1) q2 (List.all_eq_true.1 h s hs)
          · intro h
            simp only [stsOk, Bool.and_eq_true] at h
            exact List.all_eq_true.2 fun s hs => sta_lims (goodS_mem h.2 s hs)
        rw [key]
      · rw [if_neg h3, if_neg h3]
    · rw [if_neg (fun h => h2 h.2), if_pos h1, if_neg h2]
  · rw [if_neg (fun h => h1 h.1), if_neg h1]
end Go.Proofs.YtojfhaoleedmkaaGreat
end
section
namespace Go.Proofs.YtojfhaoleedmkaaGreat
open Go.Abs Go.RowKit
attribute [local irreducible] ARun kont MCall PCall HCall resVal SF CF CFs defersOk slotsIn memIn fin finM VLe
set_option linter.unusedSimpArgs false
set_option maxRecDepth 100000
set_option maxHeartbeats 4000000
theorem statesE_small (b : List Entry) (keys : List Itm) (ag : List Agg) : (statesE b keys ag).1.length ≤ b.length ∧ ∀ s ∈ (statesE b keys ag).1, s.sums.length = ag.length ∧ s.some.length = ag.length := by
  unfold statesE
  split
  · rename_i hc
    have hK : CleanK b (keyE keys) := fun e _ => keyE_clean keys e.row
    refine ⟨?_, fun s hs => ?_⟩
    · have h1 := List.length_filter_le nzS ((grpE b (keyE keys)).map (stE ag))
      have h2 := grpE_len b _ hK
      rw [List.length_map] at h1
      dsimp only
      omega
    · obtain ⟨g, hg, rfl⟩ := List.mem_map.1 (List.mem_filter.1 hs).1
      exact ⟨by simp [stE], by simp [stE]⟩
  · exact ⟨Nat.zero_le _, (fun s hs => by cases hs)⟩
theorem corrects_c (g : List Sta) (d : List Entry) (ks : List Itm) (ag : List Agg) (hd : d.length ≤ 1000) (hk : ks.length ≤ 10000) (ha : ag.length ≤ 10000) : PCall Tryz.prog 24 [.one (stsD g), .one (bagD d), .one (itmD ks), .one (aggD ag)] (.v (.one (.lit (.bool true)))) := by
  have g1 := correct_c g d ks ag hk ha
  have g2 := refCorrect_c g d ks ag hd hk ha
  rw [refCorrect_eq] at g2
  have s1 := sameG_c (correctE g d ks ag).1
  generalize correctE g d ks ag = R at g1 g2 s1
  obtain ⟨r, e⟩ := R
  dsimp only at g1 g2 s1
  refine pcallN hT Tryz.func24 Tryz.ntmps24 [.tmp 8] fun B => ?_
  repeat' (first | refine Go.Abs.ks ?_ | refine ko ?_ | refine s_call (g1) ?_ | refine s_call (g2) ?_ | refine s_call (s1) ?_ | refine s_kT ?_ | refine f_ret1 def_nil ?_ | refine t_tmp ?_)
  all_goals rfl
theorem lawCorrect_c (t : List Int) (ht : t.length ≤ 17592186044416) : PCall Tryz.prog 5 [.one (numD t)] (.v (.one (.lit (.bool true)))) := by
  have hnew := new_h t ht
  have hok := newTape9_ok ht
  obtain ⟨ks, t1, ok1, lk, c1⟩ := keys_h ⟨t, 0⟩ 2 3 hok (by omega) (by omega) (by omega)
  obtain ⟨ag, t2, ok2, la, -, c2⟩ := exacts_h t1 3 3 ok1 (by omega) (by omega) (by omega)
  obtain ⟨b, t3, ok3, vb, -, lb, c3⟩ := bag_h t2 3 8 true ok2 (by omega) (by omega)
  obtain ⟨d, t4, ok4, vd, -, ld, c4⟩ := bag_h t3 3 6 true ok3 (by omega) (by omega)
  obtain ⟨q1, q2⟩ := statesE_small b ks ag
  have gs := refStates_c b ks ag (by omega) (by omega) (by omega)
  generalize statesE b ks ag = R at gs q1 q2
  obtain ⟨s, e⟩ := R
  dsimp only at gs q1 q2
  obtain ⟨s', t5, ok5, c5⟩ := spoilG_h t4 s ok4 (by omega) (fun x hx => by have := q2 x hx; omega)
  obtain ⟨d', t6, ok6, ld', c6⟩ := spoil_h t5 d ok5 (by omega)
  obtain ⟨ag', t7, ok7, la', -, c7⟩ := aggs_h t6 3 3 ok6 (by omega) (by omega) (by omega)
  have r1 := corrects_c s d ks ag (by omega) (by omega) (by omega)
  have r2 := corrects_c s' d ks ag (by omega) (by omega) (by omega)
  have r3 := corrects_c s d' ks ag (by omega) (by omega) (by omega)
  have r4 := corrects_c s d ks ag' (by omega) (by omega) (by omega)
  refine pcallN hT Tryz.func5 Tryz.ntmps5 [.tmp 2] fun B => ?_
  repeat' (first | refine Go.Abs.ks ?_ | refine ko ?_ | refine s_call (gs) ?_ | refine s_call (r1) ?_ | refine s_call (r2) ?_ | refine s_call (r3) ?_ | refine s_call (r4) ?_ | refine s_call (awake09_c) ?_ | refine s_callH [] (hnew) ?_ | refine s_callH [1] (c1) ?_ | refine s_callH [1] (c2) ?_ | refine s_callH [1] (c3) ?_ | refine s_callH [1] (c4) ?_ | refine s_callH [1] (c5) ?_ | refine s_callH [1] (c6) ?_ | refine s_callH [1] (c7) ?_ | refine f_ret1 def_nil ?_ | refine t_tmp ?_)
  all_goals rfl
end Go.Proofs.YtojfhaoleedmkaaGreat
end
