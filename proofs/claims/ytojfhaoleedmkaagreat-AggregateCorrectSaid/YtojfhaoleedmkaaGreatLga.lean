/-
  AggregateGroup: the law returns true.
-/
import Derived.Test.YtojfhaoleedmkaaGreatAgq
import Derived.Test.YtojfhaoleedmkaaGreatAgs
import Derived.Test.YtojfhaoleedmkaaGreatRge
import Derived.Test.YtojfhaoleedmkaaGreatRgc
import Derived.Test.YtojfhaoleedmkaaGreatAgn
import Derived.Test.YtojfhaoleedmkaaGreatTkg
import Derived.Test.YtojfhaoleedmkaaGreatSpb
section
namespace Go.Proofs.YtojfhaoleedmkaaGreat
open Go.Abs Go.RowKit
attribute [local irreducible] ARun kont MCall PCall HCall resVal SF CF CFs defersOk slotsIn memIn fin finM VLe
set_option linter.unusedSimpArgs false
set_option maxRecDepth 100000
set_option maxHeartbeats 4000000
theorem goodS_mem {ag : List Agg} : ∀ {l : List Sta} {p : Option Sta}, goodS ag p l = true → ∀ s ∈ l, staOk ag s = true
  | [], _, _, _, h => by cases h
  | e :: l, p, h, s, hs => by
    rw [goodS.eq_def] at h
    simp only [Bool.and_eq_true] at h
    rcases List.mem_cons.1 hs with rfl | hs
    · exact h.1.1
    · exact goodS_mem h.2 s hs
theorem staOk_says {ag : List Agg} {s : Sta} (h : staOk ag s = true) : s.key.length ≤ 8 ∧ rowOK s.key = true ∧ numsOk ag s = true := by
  simpa [staOk, Bool.and_eq_true, and_assoc] using h
theorem numsOk_len {ag : List Agg} {s : Sta} (h : numsOk ag s = true) : s.sums.length = ag.length ∧ s.some.length = ag.length := by
  simp only [numsOk, Bool.and_eq_true, decide_eq_true_eq] at h
  exact ⟨h.1.1.1.1, h.1.1.1.2⟩
theorem stsOk_says {ag : List Agg} {l : List Sta} (h : stsOk ag l = true) : l.length ≤ 4096 ∧ ∀ s ∈ l, SOk ag.length s := by
  simp only [stsOk, Bool.and_eq_true, decide_eq_true_eq] at h
  refine ⟨h.1, fun s hs => ?_⟩
  obtain ⟨h1, _, h3⟩ := staOk_says (goodS_mem h.2 s hs)
  obtain ⟨h4, h5⟩ := numsOk_len h3
  exact ⟨by omega, h4, h5⟩
theorem statesE_or (b : List Entry) (keys : List Itm) (ag : List Agg) : (statesE b keys ag).2 = 0 ∨ statesE b keys ag = ([], 1) := by
  unfold statesE
  split
  · exact .inl rfl
  · exact .inr rfl
theorem statesE_ok {b : List Entry} {keys : List Itm} {ag : List Agg} (h : (statesE b keys ag).2 = 0) : keys.length + ag.length ≤ 8 ∧ (statesE b keys ag).1.length ≤ 4096 ∧ ∀ s ∈ (statesE b keys ag).1, SOk ag.length s := by
  unfold statesE at h ⊢
  split at h
  · rename_i hc
    rw [if_pos hc]
    have hK : CleanK b (keyE keys) := fun e _ => keyE_clean keys e.row
    refine ⟨hc.2.1, ?_, fun s hs => ?_⟩
    · have h1 := List.length_filter_le nzS ((grpE b (keyE keys)).map (stE ag))
      have h2 := grpE_len b _ hK
      have h3 := (valid_mem hc.1).1
      rw [List.length_map] at h1
      dsimp only
      omega
    · obtain ⟨g, hg, rfl⟩ := List.mem_map.1 (List.mem_filter.1 hs).1
      obtain ⟨⟨e, _, h1⟩, _⟩ := grpE_mem hK hg
      refine ⟨?_, by simp [stE], by simp [stE]⟩
      show g.1.length ≤ 100000
      rw [← h1, keyE_len]
      have := hc.2.1
      omega
  · exact absurd h (by decide)
def correctE (g : List Sta) (change : List Entry) (keys : List Itm) (ag : List Agg) : List Sta × Int :=
  if stsOk ag g = true then
    if (statesE change keys ag).2 = 0 then
      if ((mergeS g (statesE change keys ag).1).filter nzS).length ≤ 4096 then
        if stsOk ag ((mergeS g (statesE change keys ag).1).filter nzS) = true then ((mergeS g (statesE change keys ag).1).filter nzS, 0) else ([], 9)
      else ([], 8)
    else ([], 1)
  else ([], 1)
theorem aggCorrect1_d : DeferOk Tryz.prog 77 0 := by
  refine ⟨⟨_, Tryz.func77, by kernel_rfl, by kernel_rfl⟩, fun vs w hl => ?_⟩
  match vs, hl with
  | [], _ =>
    refine callsD_of_wpS Tryz.func77 rfl fun c₀ cs hu => ?_
    apply wpS_region
    simp [wpOpsS, go_sem, recoverD, hu, Tryz.ntmps77, Exit.thenS]
    cases c₀
    simp_all [bodyPostS, results, Tryz.results77]
theorem correct_c (g : List Sta) (change : List Entry) (keys : List Itm) (ag : List Agg) (hkl : keys.length ≤ 10000) (hal : ag.length ≤ 10000) : PCall Tryz.prog 37 [.one (stsD g), .one (bagD change), .one (itmD keys), .one (aggD ag)] (.tup [.one (stsD (correctE g change keys ag).1), .one (.lit (.int .i64 (correctE g change keys ag).2))]) := by
  have hv := aggValid_c g ag hal
  have hst := states_c change keys ag hkl hal
  unfold correctE
  by_cases h1 : stsOk ag g = true
  · rw [if_pos h1]
    rw [h1] at hv
    obtain ⟨hgl, hgm⟩ := stsOk_says h1
    by_cases h2 : (statesE change keys ag).2 = 0
    · obtain ⟨_, hdl, hdm⟩ := statesE_ok h2
      rw [if_pos h2]
      rw [h2] at hst
      have hm := smerge_c g (statesE change keys ag).1 ag.length hgl hdl hgm hdm hal
      have hv2 := aggValid_c ((mergeS g (statesE change keys ag).1).filter nzS) ag hal
      generalize (mergeS g (statesE change keys ag).1).filter nzS = M at hm hv2 ⊢
      generalize (statesE change keys ag).1 = D at hst hm
      by_cases h3 : M.length ≤ 4096
      · rw [if_pos h3]
        by_cases h4 : stsOk ag M = true
        · rw [if_pos h4]
          rw [h4] at hv2
          refine pcallN hT Tryz.func37 Tryz.ntmps37 [.tmp 8, .tmp 9] fun B => ?_
          repeat' (first | refine ks ?_ | refine ko ?_ | refine s_call (hv) ?_ | refine s_call (hst) ?_ | refine s_call (hm) ?_ | refine s_call (hv2) ?_ | refine f_ret2 (by repeat (first | exact def_nil | refine def_cons aggCorrect1_d ?_)) ?_ ?_ | refine t_tmp ?_ | refine t_tmpE ?_)
          all_goals rfl
        · rw [if_neg h4]
          rw [show stsOk ag M = false by simpa using h4] at hv2
          refine pcallN hT Tryz.func37 Tryz.ntmps37 [.tmp 8, .tmp 9] fun B => ?_
          repeat' (first | refine ks ?_ | refine ko ?_ | refine s_call (hv) ?_ | refine s_call (hst) ?_ | refine s_call (hm) ?_ | refine s_call (hv2) ?_ | refine f_ret2 (by repeat (first | exact def_nil | refine def_cons aggCorrect1_d ?_)) ?_ ?_ | refine t_tmp ?_ | refine t_tmpE ?_)
          all_goals rfl
      · rw [if_neg h3]
        refine pcallN hT Tryz.func37 Tryz.ntmps37 [.tmp 8, .tmp 9] fun B => ?_
        repeat' (first | refine ks ?_ | refine ko ?_ | refine s_call (hv) ?_ | refine s_call (hst) ?_ | refine s_call (hm) ?_ | refine f_ret2 (by repeat (first | exact def_nil | refine def_cons aggCorrect1_d ?_)) ?_ ?_ | refine t_tmp ?_ | refine t_tmpE ?_)
        all_goals rfl
    · rw [if_neg h2]
      rcases statesE_or change keys ag with h | h
      · exact absurd h h2
      rw [h] at hst
      refine pcallN hT Tryz.func37 Tryz.ntmps37 [.tmp 8, .tmp 9] fun B => ?_
      repeat' (first | refine ks ?_ | refine ko ?_ | refine s_call (hv) ?_ | refine s_call (hst) ?_ | refine f_ret2 (by repeat (first | exact def_nil | refine def_cons aggCorrect1_d ?_)) ?_ ?_ | refine t_tmp ?_ | refine t_tmpE ?_)
      all_goals rfl
  · rw [if_neg h1]
    rw [show stsOk ag g = false by simpa using h1] at hv
    refine pcallN hT Tryz.func37 Tryz.ntmps37 [.tmp 8, .tmp 9] fun B => ?_
    repeat' (first | refine ks ?_ | refine ko ?_ | refine s_call (hv) ?_ | refine f_ret2 (by repeat (first | exact def_nil | refine def_cons aggCorrect1_d ?_)) ?_ ?_ | refine t_tmp ?_ | refine t_tmpE ?_)
    all_goals rfl
end Go.Proofs.YtojfhaoleedmkaaGreat
end
section
section
namespace Go.Proofs.YtojfhaoleedmkaaGreat
open Go.Abs Go.RowKit
attribute [local irreducible] ARun kont MCall PCall HCall resVal SF CF CFs defersOk slotsIn memIn fin finM VLe
set_option linter.unusedSimpArgs false
set_option maxRecDepth 100000
set_option maxHeartbeats 4000000
theorem grpE_one {b : List Entry} {kf : List Val → List Val} {k : List Val} (hk : CleanK b kf) (hne : b ≠ []) (h : ∀ e ∈ b, kf e.row = k) : grpE b kf = [(k, b)] := by
  obtain ⟨x, hx⟩ := List.exists_mem_of_ne_nil b hne
  have hc : rowClean k := h x hx ▸ hk x hx
  have hkeys : keysE b kf = [k] := by
    obtain ⟨h1, h2, h3⟩ := keys_says hk
    refine sorted_unique kR_irr kR_tr h1 (List.pairwise_singleton ..) fun y => ?_
    rw [h3, List.mem_singleton]
    constructor
    · rintro ⟨e, he, rfl⟩; exact h e he
    · rintro rfl; exact ⟨x, hx, h x hx⟩
  unfold grpE
  rw [hkeys, List.map_singleton, List.filter_eq_self.2 fun e he => (atK_iff hk he hc).2 (h e he)]
def k1 : List Itm := [⟨⟨#[107]⟩, [⟨2, Val.null, 0⟩]⟩]
def a2 : List Agg := [⟨⟨#[110]⟩, 0, []⟩, ⟨⟨#[115]⟩, 1, [⟨2, Val.null, 1⟩]⟩]
def five : List Entry := [⟨[Val.ofInt 1, Val.null], 1⟩, ⟨[Val.ofInt 1, Val.ofInt 5], 2⟩]
def less : List Entry := [⟨[Val.ofInt 1, Val.ofInt 5], -1⟩]
def S1 : Sta := ⟨[Val.ofInt 1], 3, [0, 10], [0, 2]⟩
def S2 : Sta := ⟨[Val.ofInt 1], 2, [0, 5], [0, 1]⟩
def D1 : Sta := ⟨[Val.ofInt 1], -1, [0, -5], [0, -1]⟩
theorem five_grp : grpE five (keyE k1) = [([Val.ofInt 1], five)] := by
  refine grpE_one (fun e _ => keyE_clean k1 e.row) (by simp [five]) fun e he => ?_
  have h : five.all (fun e => sameRow (keyE k1 e.row) [Val.ofInt 1]) = true := by decide +kernel
  exact sr_iff.1 (List.all_eq_true.1 h e he)
theorem less_grp : grpE less (keyE k1) = [([Val.ofInt 1], less)] := by
  refine grpE_one (fun e _ => keyE_clean k1 e.row) (by simp [less]) fun e he => ?_
  have h : less.all (fun e => sameRow (keyE k1 e.row) [Val.ofInt 1]) = true := by decide +kernel
  exact sr_iff.1 (List.all_eq_true.1 h e he)
theorem aw_group : groupE five k1 a2 = ([⟨[Val.ofInt 1, Val.ofInt 3, Val.ofInt 10], 1⟩], 0) := by
  unfold groupE
  rw [if_pos ⟨by decide +kernel, by decide⟩, five_grp, List.map_singleton]
  have e0 : ∀ x : Agg, x.func = 0 → foldE x.func (valsE x five) = Val.ofInt 3 := fun x hx => by
    unfold foldE; rw [if_pos hx]; rfl
  have e1 : foldE 1 (valsE ⟨⟨#[115]⟩, 1, [⟨2, Val.null, 1⟩]⟩ five) = Val.ofInt 10 := by
    unfold foldE
    rw [if_neg (by decide), if_pos rfl, show cntV (valsE ⟨⟨#[115]⟩, 1, [⟨2, Val.null, 1⟩]⟩ five) = 2 by decide +kernel, show sumV (valsE ⟨⟨#[115]⟩, 1, [⟨2, Val.null, 1⟩]⟩ five) = 10 by decide +kernel, if_neg (by decide)]
  have hr : grpRow a2 ([Val.ofInt 1], five) = [Val.ofInt 1, Val.ofInt 3, Val.ofInt 10] := by
    show [Val.ofInt 1] ++ [foldE 0 (valsE ⟨⟨#[110]⟩, 0, []⟩ five), foldE 1 (valsE ⟨⟨#[115]⟩, 1, [⟨2, Val.null, 1⟩]⟩ five)] = _
    rw [e1, e0 ⟨⟨#[110]⟩, 0, []⟩ rfl]; rfl
  rw [hr]
  exact norm_valid (by decide +kernel)
theorem five_st : stE a2 ([Val.ofInt 1], five) = S1 := by
  show Sta.mk _ (nE five) [suE five ⟨⟨#[110]⟩, 0, []⟩, suE five ⟨⟨#[115]⟩, 1, [⟨2, Val.null, 1⟩]⟩] [coE five ⟨⟨#[110]⟩, 0, []⟩, coE five ⟨⟨#[115]⟩, 1, [⟨2, Val.null, 1⟩]⟩] = _
  rw [show nE five = 3 by decide +kernel, show suE five ⟨⟨#[110]⟩, 0, []⟩ = 0 by decide +kernel, show suE five ⟨⟨#[115]⟩, 1, [⟨2, Val.null, 1⟩]⟩ = 10 by decide +kernel, show coE five ⟨⟨#[110]⟩, 0, []⟩ = 0 by decide +kernel, show coE five ⟨⟨#[115]⟩, 1, [⟨2, Val.null, 1⟩]⟩ = 2 by decide +kernel]
  rfl
theorem less_st : stE a2 ([Val.ofInt 1], less) = D1 := by
  show Sta.mk _ (nE less) [suE less ⟨⟨#[110]⟩, 0, []⟩, suE less ⟨⟨#[115]⟩, 1, [⟨2, Val.null, 1⟩]⟩] [coE less ⟨⟨#[110]⟩, 0, []⟩, coE less ⟨⟨#[115]⟩, 1, [⟨2, Val.null, 1⟩]⟩] = _
  rw [show nE less = -1 by decide +kernel, show suE less ⟨⟨#[110]⟩, 0, []⟩ = 0 by decide +kernel, show suE less ⟨⟨#[115]⟩, 1, [⟨2, Val.null, 1⟩]⟩ = -5 by decide +kernel, show coE less ⟨⟨#[110]⟩, 0, []⟩ = 0 by decide +kernel, show coE less ⟨⟨#[115]⟩, 1, [⟨2, Val.null, 1⟩]⟩ = -1 by decide +kernel]
  rfl
theorem aw_states : statesE five k1 a2 = ([S1], 0) := by
  unfold statesE
  rw [if_pos ⟨by decide +kernel, by decide, by decide⟩, five_grp, List.map_singleton, five_st]; rfl
theorem aw_less : statesE less k1 a2 = ([D1], 0) := by
  unfold statesE
  rw [if_pos ⟨by decide +kernel, by decide, by decide⟩, less_grp, List.map_singleton, less_st]; rfl
theorem aw_plus : plusS S1 D1 = S2 := by
  show Sta.mk _ (w64 (3 + -1)) [w64 (0 + 0), w64 (10 + -5)] [w64 (0 + 0), w64 (2 + -1)] = _
  rw [show w64 (3 + -1) = 2 by decide +kernel, show w64 (0 + 0) = 0 by decide +kernel, show w64 (10 + -5) = 5 by decide +kernel, show w64 (2 + -1) = 1 by decide +kernel]; rfl
theorem aw_merge : (mergeS [S1] [D1]).filter nzS = [S2] := by
  have h : rowCmp S1.key D1.key = 0 := rowCmp_ok.refl _
  rw [mergeS, if_neg (by omega), if_neg (by omega), mergeS_nil, aw_plus]; rfl
theorem aw_correct : correctE [S1] less k1 a2 = ([S2], 0) := by
  unfold correctE
  rw [aw_less, aw_merge, if_pos (show stsOk a2 [S1] = true by decide +kernel), if_pos rfl, if_pos (by decide), if_pos (show stsOk a2 [S2] = true by decide +kernel)]
theorem column_c (n : Int) : PCall Tryz.prog 109 [.one (.lit (.int .i64 n))] (.v (.one (exprD [⟨2, Val.null, n⟩]))) := by
  refine pcallN hT Tryz.func109 Tryz.ntmps109 [.tmp 2] fun B => ?_
  repeat' (first | refine ks ?_ | refine ko ?_ | refine f_ret1 def_nil ?_ | refine t_tmp ?_)
  all_goals rfl
theorem five_c : PCall Tryz.prog 56 [] (.v (.one (bagD five))) := by
  have i1 := refInt_c 1
  have i5 := refInt_c 5
  unfold five
  generalize Val.ofInt 1 = u1 at i1 ⊢
  generalize Val.ofInt 5 = u5 at i5 ⊢
  refine pcallN hT Tryz.func56 Tryz.ntmps56 [.tmp 0] fun B => ?_
  repeat' (first | refine ks ?_ | refine ko ?_ | refine s_call (i1) ?_ | refine s_call (i5) ?_ | refine f_ret1 def_nil ?_ | refine t_tmp ?_)
  all_goals rfl
theorem keys1_c : PCall Tryz.prog 57 [] (.v (.one (itmD k1))) := by
  have h := column_c 0
  refine pcallN hT Tryz.func57 Tryz.ntmps57 [.tmp 0] fun B => ?_
  repeat' (first | refine ks ?_ | refine ko ?_ | refine s_call (h) ?_ | refine f_ret1 def_nil ?_ | refine t_tmp ?_)
  all_goals rfl
theorem sums_c : PCall Tryz.prog 58 [] (.v (.one (aggD a2))) := by
  have h := column_c 1
  refine pcallN hT Tryz.func58 Tryz.ntmps58 [.tmp 0] fun B => ?_
  repeat' (first | refine ks ?_ | refine ko ?_ | refine s_call (h) ?_ | refine f_ret1 def_nil ?_ | refine t_tmp ?_)
  all_goals rfl
theorem awake09_c : PCall Tryz.prog 19 [] (.v (.one (.lit (.bool true)))) := by
  have i1 := refInt_c 1
  have i3 := refInt_c 3
  have i5 := refInt_c 5
  have i10 := refInt_c 10
  have c1 := five_c
  have c2 := keys1_c
  have c3 := sums_c
  have g1 := group_c five k1 a2 (by decide) (by decide)
  rw [aw_group] at g1
  have g2 := states_c five k1 a2 (by decide) (by decide)
  rw [aw_states] at g2
  have g3 := correct_c [S1] less k1 a2 (by decide) (by decide)
  rw [aw_correct] at g3
  have s1 := same06_c [⟨[Val.ofInt 1, Val.ofInt 3, Val.ofInt 10], 1⟩] [⟨[Val.ofInt 1, Val.ofInt 3, Val.ofInt 10], 1⟩]
  rw [sameBag_refl] at s1
  have s2 := sameG_c [S2]
  unfold less at g3
  unfold S2 at g3 s2
  generalize Val.ofInt 1 = u1 at *
  generalize Val.ofInt 3 = u3 at *
  generalize Val.ofInt 5 = u5 at *
  generalize Val.ofInt 10 = u10 at *
  generalize five = F at *
  generalize k1 = K at *
  generalize a2 = A at *
  generalize S1 = X at *
  dsimp only at g1 g2 g3
  refine pcallN hT Tryz.func19 Tryz.ntmps19 [.tmp 0] fun B => ?_
  repeat' (first | refine ks ?_ | refine ko ?_ | refine s_call (i1) ?_ | refine s_call (i3) ?_ | refine s_call (i5) ?_ | refine s_call (i10) ?_ | refine s_call (c1) ?_ | refine s_call (c2) ?_ | refine s_call (c3) ?_ | refine s_call (g1) ?_ | refine s_call (g2) ?_ | refine s_call (g3) ?_ | refine s_call (s1) ?_ | refine s_call (s2) ?_ | refine f_ret1 def_nil ?_ | refine t_tmp ?_)
  all_goals rfl
end Go.Proofs.YtojfhaoleedmkaaGreat
end
section
section
namespace Go.Proofs.YtojfhaoleedmkaaGreat
open Go.Abs Go.RowKit
set_option linter.unusedSimpArgs false
set_option maxRecDepth 100000
theorem sumV_perm {L L' : List (Val × Int)} (h : L.Perm L') : sumV L = sumV L' := sum_perm h
theorem cntV_perm {L L' : List (Val × Int)} (h : L.Perm L') : cntV L = cntV L' := sum_perm h
def exC (ex : List Trm) (e : Entry) : Val × Int := (evE ex e.row, e.count)
theorem vcs_ex (ex : List Trm) (l : List Entry) : vcs (l.map (exF ex)) = l.map (exC ex) := by
  unfold vcs; rw [List.map_map]; rfl
theorem valI_vcs (p : Entry → Bool) (ex : List Trm) (b : List Entry) : (vcs (valI p (exF ex) b)).Perm ((b.filter p).map (exC ex)) := by
  rw [← vcs_ex]; exact (valI_says p (exF ex) b).2.map _
theorem kP_atK {keys : List Itm} {b : List Entry} {key : List Val} (hc : rowClean key) : b.filter (kP keys key) = b.filter (atK (keyE keys) key) := by
  refine List.filter_congr fun e he => ?_
  have h1 := atK_iff (b := b) (kf := keyE keys) (fun e _ => keyE_clean keys e.row) he hc
  rw [Bool.eq_iff_iff, h1]
  exact sr_iff
theorem exC_valid (ex : List Trm) (e : Entry) : (exC ex e).1.valid = true := evE_valid ..
theorem ex_bnd {ex : List Trm} {es : List Entry} (hl : es.length ≤ 4096) (hc : ∀ e ∈ es, -262144 ≤ e.count ∧ e.count ≤ 262144) : Bnd (es.map (exC ex)) := by
  refine ⟨by rw [List.length_map]; exact hl, fun y hy => ?_⟩
  obtain ⟨e, he, rfl⟩ := List.mem_map.1 hy
  exact ⟨val_range (exC_valid ex e), hc e he⟩
theorem ex_val (ex : List Trm) (es : List Entry) : ValC (es.map (exC ex)) := fun y hy => by
  obtain ⟨e, he, rfl⟩ := List.mem_map.1 hy
  unfold Val.clean
  rw [if_pos (exC_valid ex e)]
theorem bnd_perm {L L' : List (Val × Int)} (h : L.Perm L') (hb : Bnd L') : Bnd L := ⟨by rw [h.length_eq]; exact hb.1, fun x hx => hb.2 x (h.mem_iff.1 hx)⟩
theorem valI_asc (p : Entry → Bool) (ex : List Trm) (b : List Entry) : AscV (vcs (valI p (exF ex) b)) := by
  obtain ⟨h1, h2⟩ := valI_says p (exF ex) b
  unfold AscV vcs
  rw [List.pairwise_map]
  refine List.Pairwise.imp_of_mem (fun {x y} hx hy h => ?_) h1
  obtain ⟨a, _, rfl⟩ := List.mem_map.1 (h2.mem_iff.1 hx)
  obtain ⟨c, _, rfl⟩ := List.mem_map.1 (h2.mem_iff.1 hy)
  intro q
  refine h ?_
  have q : (evE ex c.row).cmp (evE ex a.row) < 0 := q
  show rowCmp [evE ex c.row] [evE ex a.row] < 0
  rw [rowCmp]
  split <;> first | exact q | (exfalso; omega)
theorem grp_vals {keys : List Itm} {b : List Entry} {key : List Val} (hc : rowClean key) (hl : b.length ≤ 4096) (hb : ∀ e ∈ b, -262144 ≤ e.count ∧ e.count ≤ 262144) (ex : List Trm) :
    Bnd (vcs (valI (kP keys key) (exF ex) b)) ∧ AscV (vcs (valI (kP keys key) (exF ex) b)) ∧ ValC (vcs (valI (kP keys key) (exF ex) b)) ∧ (vcs (valI (kP keys key) (exF ex) b)).Perm ((b.filter (atK (keyE keys) key)).map (exC ex)) := by
  have h := valI_vcs (kP keys key) ex b
  rw [kP_atK hc] at h
  refine ⟨bnd_perm h (ex_bnd (Nat.le_trans (List.length_filter_le _ _) hl) fun e he => hb e (List.mem_filter.1 he).1), valI_asc .., fun x hx => ex_val ex _ x (h.mem_iff.1 hx), h⟩
theorem grp_sums {keys : List Itm} {b : List Entry} {key : List Val} (hc : rowClean key) (hl : b.length ≤ 4096) (hb : ∀ e ∈ b, -262144 ≤ e.count ∧ e.count ≤ 262144) {x : Agg} (hf : x.func = 1) :
    sumV (vcs (valI (kP keys key) (exF x.expr) b)) = suE (b.filter (atK (keyE keys) key)) x ∧ cntV (vcs (valI (kP keys key) (exF x.expr) b)) = coE (b.filter (atK (keyE keys) key)) x := by
  obtain ⟨_, _, _, h4⟩ := grp_vals (keys := keys) hc hl hb x.expr
  have he : (b.filter (atK (keyE keys) key)).map (exC x.expr) = valsE x (b.filter (atK (keyE keys) key)) := by
    unfold valsE
    refine List.map_congr_left fun e _ => ?_
    unfold vlE exC
    rw [if_neg (by omega)]
  unfold suE coE
  rw [if_pos hf, if_pos hf, sumV_perm h4, cntV_perm h4, he]
  exact ⟨rfl, rfl⟩
theorem grp_count {keys : List Itm} {b : List Entry} {key : List Val} (hc : rowClean key) (ex : List Trm) : nE (valI (kP keys key) (exF ex) b) = nE (b.filter (atK (keyE keys) key)) := by
  have h := (valI_says (kP keys key) (exF ex) b).2
  rw [kP_atK hc] at h
  unfold nE
  rw [sum_perm h, List.map_map]; rfl
end Go.Proofs.YtojfhaoleedmkaaGreat
end
section
section
namespace Go.Proofs.YtojfhaoleedmkaaGreat
open Go.Abs Go.RowKit
attribute [local irreducible] ARun kont MCall PCall HCall resVal SF CF CFs defersOk slotsIn memIn fin finM VLe
set_option linter.unusedSimpArgs false
set_option maxRecDepth 100000
set_option maxHeartbeats 4000000
noncomputable def grE (ag : List Agg) (keys : List Itm) (b : List Entry) (k : List Val) : Entry := ⟨grpRow ag (k, b.filter (atK (keyE keys) k)), 1⟩
theorem keysE_mem {b : List Entry} {keys : List Itm} {k : List Val} (h : k ∈ keysE b (keyE keys)) : rowClean k ∧ k.length = keys.length := by
  have hK : CleanK b (keyE keys) := fun e _ => keyE_clean keys e.row
  obtain ⟨_, h2, h3⟩ := keys_says hK
  refine ⟨h2 k h, ?_⟩
  obtain ⟨e, _, rfl⟩ := (h3 k).1 h
  exact keyE_len ..
end Go.Proofs.YtojfhaoleedmkaaGreat
end
section
namespace Go.Proofs.YtojfhaoleedmkaaGreat
open Go.Abs Go.RowKit
attribute [local irreducible] ARun kont MCall PCall HCall resVal SF CF CFs defersOk slotsIn memIn fin finM VLe
set_option linter.unusedSimpArgs false
set_option maxRecDepth 100000
set_option maxHeartbeats 4000000
theorem newTape9_ok {l : List Int} (h : l.length ≤ 17592186044416) : (Tape.mk l 0).ok := ⟨h, by simp⟩
end Go.Proofs.YtojfhaoleedmkaaGreat
end
end
end
end
