/-
  Aggregates, plain: the rows of groups.
-/
import Derived.Test.YtojfhaoleedmkaaGreatAgq
import Derived.Test.YtojfhaoleedmkaaGreatAgs
import Derived.Test.YtojfhaoleedmkaaGreatRgn
import Derived.Test.YtojfhaoleedmkaaGreatAgo
section
namespace Go.Proofs.YtojfhaoleedmkaaGreat
open Go.Abs Go.RowKit
attribute [local irreducible] ARun kont MCall PCall HCall resVal SF CF CFs defersOk slotsIn memIn fin finM VLe
set_option linter.unusedSimpArgs false
set_option maxRecDepth 100000
set_option maxHeartbeats 4000000
theorem goodS_mem {ag : List Agg} : ∀ {l : List Sta} {p : Option Sta}, goodS ag p l = true → ∀ s ∈ l, staOk ag s = true
  | [], _, _, _, h => by cases h
  | e :: l, p, h, s, hs => by
    rw [goodS.eq_def] at h
    simp only [Bool.and_eq_true] at h
    rcases List.mem_cons.1 hs with rfl | hs
    · exact h.1.1
    · exact goodS_mem h.2 s hs
theorem staOk_says {ag : List Agg} {s : Sta} (h : staOk ag s = true) : s.key.length ≤ 8 ∧ rowOK s.key = true ∧ numsOk ag s = true := by
  simpa [staOk, Bool.and_eq_true, and_assoc] using h
theorem numsOk_len {ag : List Agg} {s : Sta} (h : numsOk ag s = true) : s.sums.length = ag.length ∧ s.some.length = ag.length := by
  simp only [numsOk, Bool.and_eq_true, decide_eq_true_eq] at h
  exact ⟨h.1.1.1.1, h.1.1.1.2⟩
theorem stsOk_says {ag : List Agg} {l : List Sta} (h : stsOk ag l = true) : l.length ≤ 4096 ∧ ∀ s ∈ l, SOk ag.length s := by
  simp only [stsOk, Bool.and_eq_true, decide_eq_true_eq] at h
  refine ⟨h.1, fun s hs => ?_⟩
  obtain ⟨h1, _, h3⟩ := staOk_says (goodS_mem h.2 s hs)
  obtain ⟨h4, h5⟩ := numsOk_len h3
  exact ⟨by omega, h4, h5⟩
theorem statesE_or (b : List Entry) (keys : List Itm) (ag : List Agg) : (statesE b keys ag).2 = 0 ∨ statesE b keys ag = ([], 1) := by
  unfold statesE
  split
  · exact .inl rfl
  · exact .inr rfl
theorem statesE_ok {b : List Entry} {keys : List Itm} {ag : List Agg} (h : (statesE b keys ag).2 = 0) : keys.length + ag.length ≤ 8 ∧ (statesE b keys ag).1.length ≤ 4096 ∧ ∀ s ∈ (statesE b keys ag).1, SOk ag.length s := by
  unfold statesE at h ⊢
  split at h
  · rename_i hc
    rw [if_pos hc]
    have hK : CleanK b (keyE keys) := fun e _ => keyE_clean keys e.row
    refine ⟨hc.2.1, ?_, fun s hs => ?_⟩
    · have h1 := List.length_filter_le nzS ((grpE b (keyE keys)).map (stE ag))
      have h2 := grpE_len b _ hK
      have h3 := (valid_mem hc.1).1
      rw [List.length_map] at h1
      dsimp only
      omega
    · obtain ⟨g, hg, rfl⟩ := List.mem_map.1 (List.mem_filter.1 hs).1
      obtain ⟨⟨e, _, h1⟩, _⟩ := grpE_mem hK hg
      refine ⟨?_, by simp [stE], by simp [stE]⟩
      show g.1.length ≤ 100000
      rw [← h1, keyE_len]
      have := hc.2.1
      omega
  · exact absurd h (by decide)
def correctE (g : List Sta) (change : List Entry) (keys : List Itm) (ag : List Agg) : List Sta × Int :=
  if stsOk ag g = true then
    if (statesE change keys ag).2 = 0 then
      if ((mergeS g (statesE change keys ag).1).filter nzS).length ≤ 4096 then
        if stsOk ag ((mergeS g (statesE change keys ag).1).filter nzS) = true then ((mergeS g (statesE change keys ag).1).filter nzS, 0) else ([], 9)
      else ([], 8)
    else ([], 1)
  else ([], 1)
theorem aggCorrect1_d : DeferOk Tryz.prog 77 0 := by
  refine ⟨⟨_, Tryz.func77, by kernel_rfl, by kernel_rfl⟩, fun vs w hl => ?_⟩
  match vs, hl with
  | [], _ =>
    refine callsD_of_wpS Tryz.func77 rfl fun c₀ cs hu => ?_
    apply wpS_region
    simp [wpOpsS, go_sem, recoverD, hu, Tryz.ntmps77, Exit.thenS]
    cases c₀
    simp_all [bodyPostS, results, Tryz.results77]
theorem correct_c (g : List Sta) (change : List Entry) (keys : List Itm) (ag : List Agg) (hkl : keys.length ≤ 10000) (hal : ag.length ≤ 10000) : PCall Tryz.prog 37 [.one (stsD g), .one (bagD change), .one (itmD keys), .one (aggD ag)] (.tup [.one (stsD (correctE g change keys ag).1), .one (.lit (.int .i64 (correctE g change keys ag).2))]) := by
  have hv := aggValid_c g ag hal
  have hst := states_c change keys ag hkl hal
  unfold correctE
  by_cases h1 : stsOk ag g = true
  · rw [if_pos h1]
    rw [h1] at hv
    obtain ⟨hgl, hgm⟩ := stsOk_says h1
    by_cases h2 : (statesE change keys ag).2 = 0
    · obtain ⟨_, hdl, hdm⟩ := statesE_ok h2
      rw [if_pos h2]
      rw [h2] at hst
      have hm := smerge_c g (statesE change keys ag).1 ag.length hgl hdl hgm hdm hal
      have hv2 := aggValid_c ((mergeS g (statesE change keys ag).1).filter nzS) ag hal
      generalize (mergeS g (statesE change keys ag).1).filter nzS = M at hm hv2 ⊢
      generalize (statesE change keys ag).1 = D at hst hm
      by_cases h3 : M.length ≤ 4096
      · rw [if_pos h3]
        by_cases h4 : stsOk ag M = true
        · rw [if_pos h4]
          rw [h4] at hv2
          refine pcallN hT Tryz.func37 Tryz.ntmps37 [.tmp 8, .tmp 9] fun B => ?_
          repeat' (first | refine ks ?_ | refine ko ?_ | refine s_call (hv) ?_ | refine s_call (hst) ?_ | refine s_call (hm) ?_ | refine s_call (hv2) ?_ | refine f_ret2 (by repeat (first | exact def_nil | refine def_cons aggCorrect1_d ?_)) ?_ ?_ | refine t_tmp ?_ | refine t_tmpE ?_)
          all_goals rfl
        · rw [if_neg h4]
          rw [show stsOk ag M = false by simpa using h4] at hv2
          refine pcallN hT Tryz.func37 Tryz.ntmps37 [.tmp 8, .tmp 9] fun B => ?_
          repeat' (first | refine ks ?_ | refine ko ?_ | refine s_call (hv) ?_ | refine s_call (hst) ?_ | refine s_call (hm) ?_ | refine s_call (hv2) ?_ | refine f_ret2 (by repeat (first | exact def_nil | refine def_cons aggCorrect1_d ?_)) ?_ ?_ | refine t_tmp ?_ | refine t_tmpE ?_)
          all_goals rfl
      · rw [if_neg h3]
        refine pcallN hT Tryz.func37 Tryz.ntmps37 [.tmp 8, .tmp 9] fun B => ?_
        repeat' (first | refine ks ?_ | refine ko ?_ | refine s_call (hv) ?_ | refine s_call (hst) ?_ | refine s_call (hm) ?_ | refine f_ret2 (by repeat (first | exact def_nil | refine def_cons aggCorrect1_d ?_)) ?_ ?_ | refine t_tmp ?_ | refine t_tmpE ?_)
        all_goals rfl
    · rw [if_neg h2]
      rcases statesE_or change keys ag with h | h
      · exact absurd h h2
      rw [h] at hst
      refine pcallN hT Tryz.func37 Tryz.ntmps37 [.tmp 8, .tmp 9] fun B => ?_
      repeat' (first | refine ks ?_ | refine ko ?_ | refine s_call (hv) ?_ | refine s_call (hst) ?_ | refine f_ret2 (by repeat (first | exact def_nil | refine def_cons aggCorrect1_d ?_)) ?_ ?_ | refine t_tmp ?_ | refine t_tmpE ?_)
      all_goals rfl
  · rw [if_neg h1]
    rw [show stsOk ag g = false by simpa using h1] at hv
    refine pcallN hT Tryz.func37 Tryz.ntmps37 [.tmp 8, .tmp 9] fun B => ?_
    repeat' (first | refine ks ?_ | refine ko ?_ | refine s_call (hv) ?_ | refine f_ret2 (by repeat (first | exact def_nil | refine def_cons aggCorrect1_d ?_)) ?_ ?_ | refine t_tmp ?_ | refine t_tmpE ?_)
    all_goals rfl
end Go.Proofs.YtojfhaoleedmkaaGreat
end
section
section
namespace Go.Proofs.YtojfhaoleedmkaaGreat
open Go.Abs Go.RowKit
attribute [local irreducible] ARun kont MCall PCall HCall resVal SF CF CFs defersOk slotsIn memIn fin finM VLe
set_option linter.unusedSimpArgs false
set_option maxRecDepth 100000
set_option maxHeartbeats 4000000
theorem grpE_one {b : List Entry} {kf : List Val → List Val} {k : List Val} (hk : CleanK b kf) (hne : b ≠ []) (h : ∀ e ∈ b, kf e.row = k) : grpE b kf = [(k, b)] := by
  obtain ⟨x, hx⟩ := List.exists_mem_of_ne_nil b hne
  have hc : rowClean k := h x hx ▸ hk x hx
  have hkeys : keysE b kf = [k] := by
    obtain ⟨h1, h2, h3⟩ := keys_says hk
    refine sorted_unique kR_irr kR_tr h1 (List.pairwise_singleton ..) fun y => ?_
    rw [h3, List.mem_singleton]
    constructor
    · rintro ⟨e, he, rfl⟩; exact h e he
    · rintro rfl; exact ⟨x, hx, h x hx⟩
  unfold grpE
  rw [hkeys, List.map_singleton, List.filter_eq_self.2 fun e he => (atK_iff hk he hc).2 (h e he)]
def k1 : List Itm := [⟨⟨#[107]⟩, [⟨2, Val.null, 0⟩]⟩]
def a2 : List Agg := [⟨⟨#[110]⟩, 0, []⟩, ⟨⟨#[115]⟩, 1, [⟨2, Val.null, 1⟩]⟩]
def five : List Entry := [⟨[Val.ofInt 1, Val.null], 1⟩, ⟨[Val.ofInt 1, Val.ofInt 5], 2⟩]
def less : List Entry := [⟨[Val.ofInt 1, Val.ofInt 5], -1⟩]
def S1 : Sta := ⟨[Val.ofInt 1], 3, [0, 10], [0, 2]⟩
def S2 : Sta := ⟨[Val.ofInt 1], 2, [0, 5], [0, 1]⟩
def D1 : Sta := ⟨[Val.ofInt 1], -1, [0, -5], [0, -1]⟩
theorem five_grp : grpE five (keyE k1) = [([Val.ofInt 1], five)] := by
  refine grpE_one (fun e _ => keyE_clean k1 e.row) (by simp [five]) fun e he => ?_
  have h : five.all (fun e => sameRow (keyE k1 e.row) [Val.ofInt 1]) = true := by decide +kernel
  exact sr_iff.1 (List.all_eq_true.1 h e he)
theorem less_grp : grpE less (keyE k1) = [([Val.ofInt 1], less)] := by
  refine grpE_one (fun e _ => keyE_clean k1 e.row) (by simp [less]) fun e he => ?_
  have h : less.all (fun e => sameRow (keyE k1 e.row) [Val.ofInt 1]) = true := by decide +kernel
  exact sr_iff.1 (List.all_eq_true.1 h e he)
theorem aw_group : groupE five k1 a2 = ([⟨[Val.ofInt 1, Val.ofInt 3, Val.ofInt 10], 1⟩], 0) := by
  unfold groupE
  rw [if_pos ⟨by decide +kernel, by decide⟩, five_grp, List.map_singleton]
  have e0 : ∀ x : Agg, x.func = 0 → foldE x.func (valsE x five) = Val.ofInt 3 := fun x hx => by
    unfold foldE; rw [if_pos hx]; rfl
  have e1 : foldE 1 (valsE ⟨⟨#[115]⟩, 1, [⟨2, Val.null, 1⟩]⟩ five) = Val.ofInt 10 := by
    unfold foldE
    rw [if_neg (by decide), if_pos rfl, show cntV (valsE ⟨⟨#[115]⟩, 1, [⟨2, Val.null, 1⟩]⟩ five) = 2 by decide +kernel, show sumV (valsE ⟨⟨#[115]⟩, 1, [⟨2, Val.null, 1⟩]⟩ five) = 10 by decide +kernel, if_neg (by decide)]
  have hr : grpRow a2 ([Val.ofInt 1], five) = [Val.ofInt 1, Val.ofInt 3, Val.ofInt 10] := by
    show [Val.ofInt 1] ++ [foldE 0 (valsE ⟨⟨#[110]⟩, 0, []⟩ five), foldE 1 (valsE ⟨⟨#[115]⟩, 1, [⟨2, Val.null, 1⟩]⟩ five)] = _
    rw [e1, e0 ⟨⟨#[110]⟩, 0, []⟩ rfl]; rfl
  rw [hr]
  exact norm_valid (by decide +kernel)
theorem five_st : stE a2 ([Val.ofInt 1], five) = S1 := by
  show Sta.mk _ (nE five) [suE five ⟨⟨#[110]⟩, 0, []⟩, suE five ⟨⟨#[115]⟩, 1, [⟨2, Val.null, 1⟩]⟩] [coE five ⟨⟨#[110]⟩, 0, []⟩, coE five ⟨⟨#[115]⟩, 1, [⟨2, Val.null, 1⟩]⟩] = _
  rw [show nE five = 3 by decide +kernel, show suE five ⟨⟨#[110]⟩, 0, []⟩ = 0 by decide +kernel, show suE five ⟨⟨#[115]⟩, 1, [⟨2, Val.null, 1⟩]⟩ = 10 by decide +kernel, show coE five ⟨⟨#[110]⟩, 0, []⟩ = 0 by decide +kernel, show coE five ⟨⟨#[115]⟩, 1, [⟨2, Val.null, 1⟩]⟩ = 2 by decide +kernel]
  rfl
theorem less_st : stE a2 ([Val.ofInt 1], less) = D1 := by
  show Sta.mk _ (nE less) [suE less ⟨⟨#[110]⟩, 0, []⟩, suE less ⟨⟨#[115]⟩, 1, [⟨2, Val.null, 1⟩]⟩] [coE less ⟨⟨#[110]⟩, 0, []⟩, coE less ⟨⟨#[115]⟩, 1, [⟨2, Val.null, 1⟩]⟩] = _
  rw [show nE less = -1 by decide +kernel, show suE less ⟨⟨#[110]⟩, 0, []⟩ = 0 by decide +kernel, show suE less ⟨⟨#[115]⟩, 1, [⟨2, Val.null, 1⟩]⟩ = -5 by decide +kernel, show coE less ⟨⟨#[110]⟩, 0, []⟩ = 0 by decide +kernel, show coE less ⟨⟨#[115]⟩, 1, [⟨2, Val.null, 1⟩]⟩ = -1 by decide +kernel]
  rfl
theorem aw_states : statesE five k1 a2 = ([S1], 0) := by
  unfold statesE
  rw [if_pos ⟨by decide +kernel, by decide, by decide⟩, five_grp, List.map_singleton, five_st]; rfl
theorem aw_less : statesE less k1 a2 = ([D1], 0) := by
  unfold statesE
  rw [if_pos ⟨by decide +kernel, by decide, by decide⟩, less_grp, List.map_singleton, less_st]; rfl
theorem aw_plus : plusS S1 D1 = S2 := by
  show Sta.mk _ (w64 (3 + -1)) [w64 (0 + 0), w64 (10 + -5)] [w64 (0 + 0), w64 (2 + -1)] = _
  rw [show w64 (3 + -1) = 2 by decide +kernel, show w64 (0 + 0) = 0 by decide +kernel, show w64 (10 + -5) = 5 by decide +kernel, show w64 (2 + -1) = 1 by decide +kernel]; rfl
theorem aw_merge : (mergeS [S1] [D1]).filter nzS = [S2] := by
  have h : rowCmp S1.key D1.key = 0 := rowCmp_ok.refl _
  rw [mergeS, if_neg (by omega), if_neg (by omega), mergeS_nil, aw_plus]; rfl
theorem aw_correct : correctE [S1] less k1 a2 = ([S2], 0) := by
  unfold correctE
  rw [aw_less, aw_merge, if_pos (show stsOk a2 [S1] = true by decide +kernel), if_pos rfl, if_pos (by decide), if_pos (show stsOk a2 [S2] = true by decide +kernel)]
theorem column_c (n : Int) : PCall Tryz.prog 109 [.one (.lit (.int .i64 n))] (.v (.one (exprD [⟨2, Val.null, n⟩]))) := by
  refine pcallN hT Tryz.func109 Tryz.ntmps109 [.tmp 2] fun B => ?_
  repeat' (first | refine ks ?_ | refine ko ?_ | refine f_ret1 def_nil ?_ | refine t_tmp ?_)
  all_goals rfl
theorem five_c : PCall Tryz.prog 56 [] (.v (.one (bagD five))) := by
  have i1 := refInt_c 1
  have i5 := refInt_c 5
  unfold five
  generalize Val.ofInt 1 = u1 at i1 ⊢
  generalize Val.ofInt 5 = u5 at i5 ⊢
  refine pcallN hT Tryz.func56 Tryz.ntmps56 [.tmp 0] fun B => ?_
  repeat' (first | refine ks ?_ | refine ko ?_ | refine s_call (i1) ?_ | refine s_call (i5) ?_ | refine f_ret1 def_nil ?_ | refine t_tmp ?_)
  all_goals rfl
theorem keys1_c : PCall Tryz.prog 57 [] (.v (.one (itmD k1))) := by
  have h := column_c 0
  refine pcallN hT Tryz.func57 Tryz.ntmps57 [.tmp 0] fun B => ?_
  repeat' (first | refine ks ?_ | refine ko ?_ | refine s_call (h) ?_ | refine f_ret1 def_nil ?_ | refine t_tmp ?_)
  all_goals rfl
theorem sums_c : PCall Tryz.prog 58 [] (.v (.one (aggD a2))) := by
  have h := column_c 1
  refine pcallN hT Tryz.func58 Tryz.ntmps58 [.tmp 0] fun B => ?_
  repeat' (first | refine ks ?_ | refine ko ?_ | refine s_call (h) ?_ | refine f_ret1 def_nil ?_ | refine t_tmp ?_)
  all_goals rfl
theorem awake09_c : PCall Tryz.prog 19 [] (.v (.one (.lit (.bool true)))) := by
  have i1 := refInt_c 1
  have i3 := refInt_c 3
  have i5 := refInt_c 5
  have i10 := refInt_c 10
  have c1 := five_c
  have c2 := keys1_c
  have c3 := sums_c
  have g1 := group_c five k1 a2 (by decide) (by decide)
  rw [aw_group] at g1
  have g2 := states_c five k1 a2 (by decide) (by decide)
  rw [aw_states] at g2
  have g3 := correct_c [S1] less k1 a2 (by decide) (by decide)
  rw [aw_correct] at g3
  have s1 := same06_c [⟨[Val.ofInt 1, Val.ofInt 3, Val.ofInt 10], 1⟩] [⟨[Val.ofInt 1, Val.ofInt 3, Val.ofInt 10], 1⟩]
  rw [sameBag_refl] at s1
  have s2 := sameG_c [S2]
  unfold less at g3
  unfold S2 at g3 s2
  generalize Val.ofInt 1 = u1 at *
  generalize Val.ofInt 3 = u3 at *
  generalize Val.ofInt 5 = u5 at *
  generalize Val.ofInt 10 = u10 at *
  generalize five = F at *
  generalize k1 = K at *
  generalize a2 = A at *
  generalize S1 = X at *
  dsimp only at g1 g2 g3
  refine pcallN hT Tryz.func19 Tryz.ntmps19 [.tmp 0] fun B => ?_
  repeat' (first | refine ks ?_ | refine ko ?_ | refine s_call (i1) ?_ | refine s_call (i3) ?_ | refine s_call (i5) ?_ | refine s_call (i10) ?_ | refine s_call (c1) ?_ | refine s_call (c2) ?_ | refine s_call (c3) ?_ | refine s_call (g1) ?_ | refine s_call (g2) ?_ | refine s_call (g3) ?_ | refine s_call (s1) ?_ | refine s_call (s2) ?_ | refine f_ret1 def_nil ?_ | refine t_tmp ?_)
  all_goals rfl
end Go.Proofs.YtojfhaoleedmkaaGreat
end
section
section
section
namespace Go.Proofs.YtojfhaoleedmkaaGreat
open Go.Abs Go.RowKit
set_option linter.unusedSimpArgs false
set_option maxRecDepth 100000
def exC (ex : List Trm) (e : Entry) : Val × Int := (evE ex e.row, e.count)
end Go.Proofs.YtojfhaoleedmkaaGreat
end
section
namespace Go.Proofs.YtojfhaoleedmkaaGreat
open Go.Abs Go.RowKit
attribute [local irreducible] ARun kont MCall PCall HCall resVal SF CF CFs defersOk slotsIn memIn fin finM VLe
set_option linter.unusedSimpArgs false
set_option maxRecDepth 100000
set_option maxHeartbeats 4000000
noncomputable def grE (ag : List Agg) (keys : List Itm) (b : List Entry) (k : List Val) : Entry := ⟨grpRow ag (k, b.filter (atK (keyE keys) k)), 1⟩
theorem groupE_keys {b : List Entry} {keys : List Itm} {ag : List Agg} (h : positiveE b = true ∧ keys.length + ag.length ≤ 8) : groupE b keys ag = normE ((keysE b (keyE keys)).map (grE ag keys b)) := by
  unfold groupE grpE
  rw [if_pos h, List.map_map]; rfl
theorem keysE_mem {b : List Entry} {keys : List Itm} {k : List Val} (h : k ∈ keysE b (keyE keys)) : rowClean k ∧ k.length = keys.length := by
  have hK : CleanK b (keyE keys) := fun e _ => keyE_clean keys e.row
  obtain ⟨_, h2, h3⟩ := keys_says hK
  refine ⟨h2 k h, ?_⟩
  obtain ⟨e, _, rfl⟩ := (h3 k).1 h
  exact keyE_len ..
end Go.Proofs.YtojfhaoleedmkaaGreat
end
end
section
namespace Go.Proofs.YtojfhaoleedmkaaGreat
open Go.Abs Go.RowKit
set_option linter.unusedSimpArgs false
set_option maxRecDepth 100000
theorem nthE_mem : ∀ (S : List (Val × Int)) (i : Int), nthE S i = Val.null ∨ ∃ x ∈ S, x.1 = nthE S i
  | [], _ => .inl rfl
  | x :: S, i => by
    rw [nthE]
    split
    · exact .inr ⟨x, by simp, rfl⟩
    · rcases nthE_mem S (i - x.2) with h | ⟨y, hy, h⟩
      · exact .inl h
      · exact .inr ⟨y, by simp [hy], h⟩
theorem foldE_valid (f : Int) {L : List (Val × Int)} (h : ∀ x ∈ L, x.1.valid = true) : (foldE f L).valid = true := by
  have hA : ∀ i, (nthE (ascE L) i).valid = true := fun i => by
    rcases nthE_mem (ascE L) i with h1 | ⟨x, hx, h1⟩
    · rw [h1]; exact nullV
    · rw [← h1]; exact h x (List.mem_filter.1 ((ascE_perm L).mem_iff.1 hx)).1
  have hI : ∀ n, (Val.ofInt n).valid = true := fun n => by unfold Val.ofInt; exact clean_valid' _
  unfold foldE
  repeat' split
  all_goals first
    | exact hI _
    | exact nullV
    | exact hA _
theorem rowCmp_app : ∀ {a b x y : List Val}, a.length = b.length → rowCmp a b < 0 → rowCmp (a ++ x) (b ++ y) < 0
  | [], [], _, _, _, h => by simp [rowCmp] at h
  | u :: a, v :: b, x, y, hl, h => by
    rw [List.cons_append, List.cons_append, rowCmp]
    rw [rowCmp] at h
    split
    · rename_i q
      rw [if_pos q] at h
      exact rowCmp_app (by simpa using hl) h
    · rename_i q
      rw [if_neg q] at h; exact h
  | [], _ :: _, _, _, hl, _ => by simp at hl
  | _ :: _, [], _, _, hl, _ => by simp at hl
theorem keyE_val (keys : List Itm) (row : List Val) : ∀ v ∈ keyE keys row, v.valid = true := fun v hv => by
  obtain ⟨it, _, rfl⟩ := List.mem_map.1 hv
  exact evE_valid ..
theorem grpRow_val {ag : List Agg} {keys : List Itm} {b : List Entry} {k : List Val} (hk : k ∈ keysE b (keyE keys)) (es : List Entry) : ∀ v ∈ grpRow ag (k, es), v.valid = true := fun v hv => by
  obtain ⟨_, _, h3⟩ := keys_says (b := b) (kf := keyE keys) fun e _ => keyE_clean keys e.row
  rcases List.mem_append.1 hv with hv | hv
  · obtain ⟨e, _, rfl⟩ := (h3 k).1 hk
    exact keyE_val keys e.row v hv
  · obtain ⟨x, _, rfl⟩ := List.mem_map.1 hv
    refine foldE_valid _ fun y hy => ?_
    obtain ⟨e, _, rfl⟩ := List.mem_map.1 hy
    exact vlE_valid x e
theorem rows_valid {ag : List Agg} {keys : List Itm} {b : List Entry} (hl : b.length ≤ 4096) (h8 : keys.length + ag.length ≤ 8) : bagValid ((keysE b (keyE keys)).map (grE ag keys b)) = true := by
  have hK : CleanK b (keyE keys) := fun e _ => keyE_clean keys e.row
  obtain ⟨h1, _, _⟩ := keys_says hK
  have hlen := keysE_len b _ hK
  rw [bagValid, good_of (fun e he => ?_) ?_ (by simp), Bool.and_true]
  · simp only [decide_eq_true_eq, List.length_map]; omega
  · rw [List.pairwise_map]
    refine List.Pairwise.imp_of_mem (fun {x y} hx hy h => ?_) h1
    exact rowCmp_app (by rw [(keysE_mem hx).2, (keysE_mem hy).2]) h
  · obtain ⟨k, hk, rfl⟩ := List.mem_map.1 he
    have q1 : rowOK (grE ag keys b k).row = true := by
      simp only [rowOK, Bool.and_eq_true, decide_eq_true_eq, List.all_eq_true]
      refine ⟨?_, grpRow_val hk _⟩
      show (grpRow ag (k, _)).length ≤ _
      rw [grpRow_len, (keysE_mem hk).2]
      omega
    simp only [Entry.ok, q1, Bool.true_and]
    show (countOK 1 && decide ((1 : Int) ≠ 0)) = true
    decide
theorem group_rows {ag : List Agg} {keys : List Itm} {b : List Entry} (hp : positiveE b = true) (h8 : keys.length + ag.length ≤ 8) : groupE b keys ag = ((keysE b (keyE keys)).map (grE ag keys b), 0) := by
  rw [groupE_keys ⟨hp, h8⟩]
  exact norm_valid (rows_valid (valid_mem (pos_mem hp).1).1 h8)
end Go.Proofs.YtojfhaoleedmkaaGreat
end
end
end
