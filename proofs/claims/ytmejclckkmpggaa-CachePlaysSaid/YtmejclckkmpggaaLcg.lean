/-
  CachePlays.
-/
import Derived.Test.YtmejclckkmpggaaLce
import Derived.Test.YtmejclckkmpggaaLcf
namespace Go.Proofs.Ytmejclckkmpggaa
open Go.Abs Go.RowKit
attribute [local irreducible] ARun kont MCall PCall HCall resVal SF CF CFs defersOk slotsIn memIn fin finM VLe
set_option linter.unusedSimpArgs false
set_option maxRecDepth 100000
set_option maxHeartbeats 4000000

def bagsD (l : List (List Entry)) : Dat := .sl (l.map fun b => [bagD b])
def actsD (l : List Act) : Dat := .sl (l.map Act.d)

theorem fill_eq (c : Conf) (rows : List Entry) (day : Int) : ∀ s : List Cach, fillE c rows day s = (s.filter fun x => decide (0 < (selE rows c.col x.val).length)).map fun x => ⟨x.val, selE rows c.col x.val, day⟩
  | [] => rfl
  | x :: s => by
    have ih := fill_eq c rows day s
    unfold fillE at ih ⊢
    rw [List.flatMap_cons, ih, List.filter_cons, fillF]
    by_cases h : 0 < (selE rows c.col x.val).length <;> simp [h]
theorem refill_valid (c : Conf) (s : List Cach) (rows : List Entry) (day : Int) : validC (refillE c s rows day) = true := by
  unfold refillE
  split
  · rename_i h
    simp only [Bool.and_eq_true] at h
    obtain ⟨⟨⟨h1, h2⟩, h3⟩, h4⟩ := h
    obtain ⟨g1, g2, g3⟩ := validC_iff.1 h1
    refine validC_iff.2 ⟨Nat.le_trans (fill_len ..) g1, fun e he => ?_, ?_⟩
    · rw [fill_eq] at he
      obtain ⟨x, hx, rfl⟩ := List.mem_map.1 he
      have := g2 x (List.mem_filter.1 hx).1
      simp only [Cach.ok, Bool.and_eq_true] at this ⊢
      exact ⟨⟨this.1.1, selE_valid h2 ..⟩, h4⟩
    · rw [fill_eq, List.pairwise_map]
      exact (g3.sublist List.filter_sublist).imp fun {a b} h => h
  · rfl
theorem pur_valid (s : List Cach) (vs : List Val) : validC (purE s vs) = true := by
  unfold purE
  split
  · rename_i h; exact validC_sub h List.filter_sublist
  · rfl
theorem exp_valid (c : Conf) (s : List Cach) (day : Int) : validC (expE c s day) = true := by
  unfold expE
  split
  · rename_i h; simp only [Bool.and_eq_true] at h; exact validC_sub h.1.1 List.filter_sublist
  · rfl
theorem look_err (c : Conf) (s : List Cach) (rows : List Entry) (v : Val) (day : Int) : (lookE c s rows v day).2.2 = 0 ∨ (lookE c s rows v day).2.2 = 1 := by
  unfold lookE
  split
  · left; split <;> rfl
  · right; rfl
theorem valid_len {s : List Cach} (h : validC s = true) : s.length ≤ 100000 := by have := (validC_iff.1 h).1; omega

theorem after_c (c : Conf) (s : List Cach) (rows : List Entry) (h : validC s = true) :
    PCall Try.prog 21 [.one (cachD s), .one (cachD s)] (.v (.one (.lit (.bool true)))) ∧ PCall Try.prog 28 [.one (cachD s)] (.v (.one (.lit (.bool true)))) ∧
    ∃ b, PCall Try.prog 29 [.agg c.d, .one (cachD s), .one (bagD rows)] (.v (.one (.lit (.bool b)))) ∧ PCall Try.prog 30 [.agg c.d, .one (cachD s), .one (bagD rows)] (.v (.one (.lit (.bool b)))) := by
  have g1 := refSame_c s s
  rw [sameCs_refl] at g1
  have g2 := cvalid_c s
  rw [h] at g2
  exact ⟨g1, g2, _, fresh_c c s rows, refFresh_c c s rows (valid_len h)⟩

theorem lawPlays0_c (c : Conf) (views : List (List Entry)) (acts : List Act) (hvn : views.length = 0) : PCall Try.prog 6 [.agg c.d, .one (bagsD views), .one (actsD acts)] (.v (.one (.lit (.bool true)))) := by
  have hu : IntKind.u64.wrap (views.length : Int) = views.length ∨ 4 < views.length := by
    by_cases h : views.length ≤ 4
    · left; exact u64_small (by omega) (by omega)
    · right; omega
  refine pcallN hT Try.func6 Try.ntmps6 [.tmp 6] fun B => ?_
  repeat' (first | (with_reducible (first | refine k_seq ?_ | refine k_block ?_ | refine k_skip ?_ | refine k_exit ?_ | refine k_ret ?_ | refine n_seq ?_ | refine n_block ?_ | refine e_seq ?_ | refine e_here ?_ | refine r_seq ?_ | refine o_exit ?_)) | refine s_reg ?_ | refine s_ifT ?_ | refine s_ifF ?_ | refine r_end ?_ | refine s_endD ?_ | refine s_skipS ?_ | refine s_move ?_ | refine s_assign ?_ | refine s_int ?_ | refine s_loadB1 ?_ | refine s_loadFA ?_ | refine s_loadBA ?_ | refine s_indexD ?_ (hel := (by first | exact rfl)) | refine s_fieldB ?_ | refine s_call (awake30_c) ?_ | refine s_pick ?_ | refine s_lenD ?_ | refine s_storeB ?_ | refine s_bslice ?_ | refine s_extract ?_ | refine s_alloc ?_ | refine s_not ?_ | refine s_box ?_ | refine s_split rfl rfl (fun hb => ?_) (fun hb => ?_) | refine f_ret1 def_nil ?_ | refine t_tmp ?_)
  all_goals try rfl
  have hvl : views.length ≤ 4 := by omega
  have hal : acts.length ≤ 24 := by omega
  have hu : IntKind.u64.wrap (views.length : Int) = views.length := by omega
  refine s_lp (X := Nat) [6, 7, 28, 29, 30, 31, 32, 33, 34, 35, 36, 37, 38, 39, 40] (fun x => x ≤ views.length) (fun x lz => (7, (.c (.d (.lit (.int .i64 x))))) :: lz) (fun x => [.box 1 (c.d.map .d)]) (fun x => views.length - x) (0) ?_ ?_ ?_ ?_
  repeat' (first | exact slots_nil | refine w1 ?_ | exact memIn_nil | refine memIn_same ?_ | omega)
  rintro i ck hi
  by_cases hil : i < views.length
  · omega
  · repeat' (first | (with_reducible (first | refine k_seq ?_ | refine k_block ?_ | refine k_skip ?_ | refine k_exit ?_ | refine k_ret ?_ | refine n_seq ?_ | refine n_block ?_ | refine e_seq ?_ | refine e_here ?_ | refine r_seq ?_ | refine o_exit ?_)) | refine s_reg ?_ | refine s_ifT ?_ | refine s_ifF ?_ | refine r_end ?_ | refine s_endD ?_ | refine s_skipS ?_ | refine s_move ?_ | refine s_assign ?_ | refine s_int ?_ | refine s_loadB1 ?_ | refine s_loadFA ?_ | refine s_loadBA ?_ | refine s_indexD ?_ (hel := (by first | exact rfl)) | refine s_fieldB ?_ | refine s_pick ?_ | refine s_lenD ?_ | refine s_storeB ?_ | refine s_bslice ?_ | refine s_extract ?_ | refine s_alloc ?_ | refine s_not ?_ | refine s_box ?_ | refine s_split rfl rfl (fun hb => ?_) (fun hb => ?_) | refine f_ret1 def_nil ?_ | refine t_tmp ?_)
    refine s_lp (X := Nat × List Cach) [6, 8, 9, 10, 11, 12, 13, 14, 15, 16, 17, 18, 41, 42, 43, 44, 45, 46, 47, 48, 49, 50, 51, 52, 53, 54, 55, 56, 57, 58, 59, 60, 61, 62, 63, 64, 65, 66, 67, 68, 69, 70, 71, 72, 73, 74, 75, 76, 77, 78, 79, 80, 81, 82, 83, 84, 85, 86, 87, 88, 89, 90, 91, 92, 93, 94, 95, 96, 97, 98, 99, 100, 101, 102, 103, 104, 105, 106, 107, 108, 109, 110, 111, 112, 113, 114, 115, 116, 117, 118, 119, 120, 121, 122, 123, 124, 125, 126, 127, 128, 129, 130, 131, 132, 133, 134, 135, 136, 137, 138, 139, 140, 141, 142, 143, 144, 145, 146, 147, 148, 149, 150, 151, 152, 153, 154, 155, 156, 157, 158, 159, 160, 161, 162, 163, 164, 165, 166, 167, 168, 169, 170] (fun x => x.1 ≤ acts.length ∧ validC x.2 = true) (fun x lz => (10, (.c (.d (.lit (.int .i64 x.1))))) :: (8, .c (.d (cachD x.2))) :: (9, .c (.d (cachD x.2))) :: lz) (fun x => [.box 1 (c.d.map .d)]) (fun x => acts.length - x.1) ((0, [])) ?_ ?_ ?_ ?_
    repeat' (first | exact slots_nil | refine w1 ?_ | exact memIn_nil | refine memIn_same ?_ | omega)
    · exact ⟨by simp, rfl⟩
    rintro ⟨j, s⟩ ck1 ⟨hj, hvs⟩
    dsimp only at hj hvs ⊢
    by_cases hjl : j < acts.length
    · have ha : acts[j]? = some acts[j] := List.getElem?_eq_getElem hjl
      generalize acts[j] = a at ha
      have hk : 0 ≤ andInt .i64 a.kind 3 ∧ andInt .i64 a.kind 3 ≤ 3 := and_mask a.kind 3 (by omega)
      have hk : andInt .i64 a.kind 3 = 0 ∨ andInt .i64 a.kind 3 = 1 ∨ andInt .i64 a.kind 3 = 2 ∨ andInt .i64 a.kind 3 = 3 := by omega
      have hsl := valid_len hvs
      rcases hk with hk | hk | hk | hk
      · have h1 := lookup_c c s [] a.val a.day
        have h2 := refLookup_c c s [] a.val a.day hsl
        have hlv := look_valid c s [] a.val a.day
        have hle := look_err c s [] a.val a.day
        generalize lookE c s [] a.val a.day = r at h1 h2 hlv hle
        obtain ⟨x, l, e⟩ := r
        unfold lookR at h1 h2
        dsimp only at h1 h2 hlv hle
        obtain ⟨g1, g2, b1, g3, g4⟩ := after_c c x [] hlv
        obtain ⟨k1, k2, b2, k3, k4⟩ := after_c c s [] hvs
        have g5 := sameBag26_c l l
        rw [sameBag_refl] at g5
        rcases hle with rfl | rfl
        · repeat' (first | refine s_neIs ?_ | refine s_neBs ?_ | (with_reducible (first | refine k_seq ?_ | refine k_block ?_ | refine k_skip ?_ | refine k_exit ?_ | refine k_ret ?_ | refine n_seq ?_ | refine n_block ?_ | refine e_seq ?_ | refine e_here ?_ | refine r_seq ?_ | refine o_exit ?_)) | refine s_reg ?_ | refine s_ifT ?_ | refine s_ifF ?_ | refine r_end ?_ | refine s_endD ?_ | refine s_skipS ?_ | refine s_move ?_ | refine s_assign ?_ | refine s_int ?_ | refine s_loadB1 ?_ | refine s_loadFA ?_ | refine s_loadBA ?_ | refine s_indexD ?_ (hel := (by first | exact idx_map ha (by omega) | exact ha | exact rfl)) | refine s_fieldB ?_ | refine s_call (h1) ?_ | refine s_call (h2) ?_ | refine s_call (g1) ?_ | refine s_call (g2) ?_ | refine s_call (g3) ?_ | refine s_call (g4) ?_ | refine s_call (g5) ?_ | refine s_pick ?_ | refine s_lenD ?_ | refine s_storeB ?_ | refine s_bslice ?_ | refine s_extract ?_ | refine s_alloc ?_ | refine s_not ?_ | refine s_box ?_ | refine s_split rfl rfl (fun hb => ?_) (fun hb => ?_) | refine f_ret1 def_nil ?_ | refine t_tmp ?_)
          (apply s_round ((j + 1, x)); all_goals (try dsimp only); all_goals (try (repeat' (first | exact slots_nil | refine w1 ?_ | exact memIn_nil | refine memIn_same ?_ | omega))))
          all_goals exact ⟨by omega, hlv⟩
        · repeat' (first | refine s_neIs ?_ | refine s_neBs ?_ | (with_reducible (first | refine k_seq ?_ | refine k_block ?_ | refine k_skip ?_ | refine k_exit ?_ | refine k_ret ?_ | refine n_seq ?_ | refine n_block ?_ | refine e_seq ?_ | refine e_here ?_ | refine r_seq ?_ | refine o_exit ?_)) | refine s_reg ?_ | refine s_ifT ?_ | refine s_ifF ?_ | refine r_end ?_ | refine s_endD ?_ | refine s_skipS ?_ | refine s_move ?_ | refine s_assign ?_ | refine s_int ?_ | refine s_loadB1 ?_ | refine s_loadFA ?_ | refine s_loadBA ?_ | refine s_indexD ?_ (hel := (by first | exact idx_map ha (by omega) | exact ha | exact rfl)) | refine s_fieldB ?_ | refine s_call (h1) ?_ | refine s_call (h2) ?_ | refine s_call (g1) ?_ | refine s_call (g5) ?_ | refine s_call (k1) ?_ | refine s_call (k2) ?_ | refine s_call (k3) ?_ | refine s_call (k4) ?_ | refine s_pick ?_ | refine s_lenD ?_ | refine s_storeB ?_ | refine s_bslice ?_ | refine s_extract ?_ | refine s_alloc ?_ | refine s_not ?_ | refine s_box ?_ | refine s_split rfl rfl (fun hb => ?_) (fun hb => ?_) | refine f_ret1 def_nil ?_ | refine t_tmp ?_)
          (apply s_round ((j + 1, s)); all_goals (try dsimp only); all_goals (try (repeat' (first | exact slots_nil | refine w1 ?_ | exact memIn_nil | refine memIn_same ?_ | omega))))
          all_goals exact ⟨by omega, hvs⟩
      · have h1 := refill_c c s [] a.day
        have h2 := refRefill_c c s [] a.day hsl
        have hlv := refill_valid c s [] a.day
        generalize refillE c s [] a.day = x at h1 h2 hlv
        obtain ⟨g1, g2, b1, g3, g4⟩ := after_c c x [] hlv
        repeat' (first | refine s_neIs ?_ | refine s_neBs ?_ | (with_reducible (first | refine k_seq ?_ | refine k_block ?_ | refine k_skip ?_ | refine k_exit ?_ | refine k_ret ?_ | refine n_seq ?_ | refine n_block ?_ | refine e_seq ?_ | refine e_here ?_ | refine r_seq ?_ | refine o_exit ?_)) | refine s_reg ?_ | refine s_ifT ?_ | refine s_ifF ?_ | refine r_end ?_ | refine s_endD ?_ | refine s_skipS ?_ | refine s_move ?_ | refine s_assign ?_ | refine s_int ?_ | refine s_loadB1 ?_ | refine s_loadFA ?_ | refine s_loadBA ?_ | refine s_indexD ?_ (hel := (by first | exact idx_map ha (by omega) | exact ha | exact rfl)) | refine s_fieldB ?_ | refine s_call (h1) ?_ | refine s_call (h2) ?_ | refine s_call (g1) ?_ | refine s_call (g2) ?_ | refine s_call (g3) ?_ | refine s_call (g4) ?_ | refine s_pick ?_ | refine s_lenD ?_ | refine s_storeB ?_ | refine s_bslice ?_ | refine s_extract ?_ | refine s_alloc ?_ | refine s_not ?_ | refine s_box ?_ | refine s_split rfl rfl (fun hb => ?_) (fun hb => ?_) | refine f_ret1 def_nil ?_ | refine t_tmp ?_)
        (apply s_round ((j + 1, x)); all_goals (try dsimp only); all_goals (try (repeat' (first | exact slots_nil | refine w1 ?_ | exact memIn_nil | refine memIn_same ?_ | omega))))
        all_goals exact ⟨by omega, hlv⟩
      · have h1 := purge_c s [a.val] (by simp)
        have h2 := refPurge_c s [a.val] (by simp) hsl
        have hlv := pur_valid s [a.val]
        generalize purE s [a.val] = x at h1 h2 hlv
        obtain ⟨g1, g2, b1, g3, g4⟩ := after_c c x [] hlv
        repeat' (first | refine s_neIs ?_ | refine s_neBs ?_ | (with_reducible (first | refine k_seq ?_ | refine k_block ?_ | refine k_skip ?_ | refine k_exit ?_ | refine k_ret ?_ | refine n_seq ?_ | refine n_block ?_ | refine e_seq ?_ | refine e_here ?_ | refine r_seq ?_ | refine o_exit ?_)) | refine s_reg ?_ | refine s_ifT ?_ | refine s_ifF ?_ | refine r_end ?_ | refine s_endD ?_ | refine s_skipS ?_ | refine s_move ?_ | refine s_assign ?_ | refine s_int ?_ | refine s_loadB1 ?_ | refine s_loadFA ?_ | refine s_loadBA ?_ | refine s_indexD ?_ (hel := (by first | exact idx_map ha (by omega) | exact ha | exact rfl)) | refine s_fieldB ?_ | refine s_call (h1) ?_ | refine s_call (h2) ?_ | refine s_call (g1) ?_ | refine s_call (g2) ?_ | refine s_call (g3) ?_ | refine s_call (g4) ?_ | refine s_pick ?_ | refine s_lenD ?_ | refine s_storeB ?_ | refine s_bslice ?_ | refine s_extract ?_ | refine s_alloc ?_ | refine s_not ?_ | refine s_box ?_ | refine s_split rfl rfl (fun hb => ?_) (fun hb => ?_) | refine f_ret1 def_nil ?_ | refine t_tmp ?_)
        (apply s_round ((j + 1, x)); all_goals (try dsimp only); all_goals (try (repeat' (first | exact slots_nil | refine w1 ?_ | exact memIn_nil | refine memIn_same ?_ | omega))))
        all_goals exact ⟨by omega, hlv⟩
      · have h1 := expire_c c s a.day
        have h2 := refExpire_c c s a.day hsl
        have hlv := exp_valid c s a.day
        generalize expE c s a.day = x at h1 h2 hlv
        obtain ⟨g1, g2, b1, g3, g4⟩ := after_c c x [] hlv
        repeat' (first | refine s_neIs ?_ | refine s_neBs ?_ | (with_reducible (first | refine k_seq ?_ | refine k_block ?_ | refine k_skip ?_ | refine k_exit ?_ | refine k_ret ?_ | refine n_seq ?_ | refine n_block ?_ | refine e_seq ?_ | refine e_here ?_ | refine r_seq ?_ | refine o_exit ?_)) | refine s_reg ?_ | refine s_ifT ?_ | refine s_ifF ?_ | refine r_end ?_ | refine s_endD ?_ | refine s_skipS ?_ | refine s_move ?_ | refine s_assign ?_ | refine s_int ?_ | refine s_loadB1 ?_ | refine s_loadFA ?_ | refine s_loadBA ?_ | refine s_indexD ?_ (hel := (by first | exact idx_map ha (by omega) | exact ha | exact rfl)) | refine s_fieldB ?_ | refine s_call (h1) ?_ | refine s_call (h2) ?_ | refine s_call (g1) ?_ | refine s_call (g2) ?_ | refine s_call (g3) ?_ | refine s_call (g4) ?_ | refine s_pick ?_ | refine s_lenD ?_ | refine s_storeB ?_ | refine s_bslice ?_ | refine s_extract ?_ | refine s_alloc ?_ | refine s_not ?_ | refine s_box ?_ | refine s_split rfl rfl (fun hb => ?_) (fun hb => ?_) | refine f_ret1 def_nil ?_ | refine t_tmp ?_)
        (apply s_round ((j + 1, x)); all_goals (try dsimp only); all_goals (try (repeat' (first | exact slots_nil | refine w1 ?_ | exact memIn_nil | refine memIn_same ?_ | omega))))
        all_goals exact ⟨by omega, hlv⟩
    · repeat' (first | (with_reducible (first | refine k_seq ?_ | refine k_block ?_ | refine k_skip ?_ | refine k_exit ?_ | refine k_ret ?_ | refine n_seq ?_ | refine n_block ?_ | refine e_seq ?_ | refine e_here ?_ | refine r_seq ?_ | refine o_exit ?_)) | refine s_reg ?_ | refine s_ifT ?_ | refine s_ifF ?_ | refine r_end ?_ | refine s_endD ?_ | refine s_skipS ?_ | refine s_move ?_ | refine s_assign ?_ | refine s_int ?_ | refine s_loadB1 ?_ | refine s_loadFA ?_ | refine s_loadBA ?_ | refine s_indexD ?_ (hel := (by first | exact rfl)) | refine s_fieldB ?_ | refine s_call (awake30_c) ?_ | refine s_pick ?_ | refine s_lenD ?_ | refine s_storeB ?_ | refine s_bslice ?_ | refine s_extract ?_ | refine s_alloc ?_ | refine s_not ?_ | refine s_box ?_ | refine s_split rfl rfl (fun hb => ?_) (fun hb => ?_) | refine f_ret1 def_nil ?_ | refine t_tmp ?_)
      all_goals rfl

theorem lawPlays1_c (c : Conf) (views : List (List Entry)) (acts : List Act) (hvn : 0 < views.length) : PCall Try.prog 6 [.agg c.d, .one (bagsD views), .one (actsD acts)] (.v (.one (.lit (.bool true)))) := by
  have hu : IntKind.u64.wrap (views.length : Int) = views.length ∨ 4 < views.length := by
    by_cases h : views.length ≤ 4
    · left; exact u64_small (by omega) (by omega)
    · right; omega
  refine pcallN hT Try.func6 Try.ntmps6 [.tmp 6] fun B => ?_
  repeat' (first | (with_reducible (first | refine k_seq ?_ | refine k_block ?_ | refine k_skip ?_ | refine k_exit ?_ | refine k_ret ?_ | refine n_seq ?_ | refine n_block ?_ | refine e_seq ?_ | refine e_here ?_ | refine r_seq ?_ | refine r_block ?_ | refine o_exit ?_ | refine o_ret ?_)) | refine s_reg ?_ | refine s_ifT ?_ | refine s_ifF ?_ | refine s_if rfl (fun hb => ?_) (fun hb => ?_) | refine r_end ?_ | refine s_endD ?_ | refine s_skipS ?_ | refine s_move ?_ | refine s_assign ?_ | refine s_int ?_ | refine s_loadF1 ?_ | refine s_loadB1 ?_ | refine s_loadFA ?_ | refine s_loadBA ?_ | refine s_indexD ?_ (hel := (by first | exact rfl)) | refine s_fieldB ?_ | refine s_call (awake30_c) ?_ | refine s_pick ?_ | refine s_lenD ?_ | refine s_storeB ?_ | refine s_bslice ?_ | refine s_extract ?_ | refine s_alloc ?_ | refine s_not ?_ | refine s_conv ?_ | refine s_box ?_ | refine s_split rfl rfl (fun hb => ?_) (fun hb => ?_) | refine f_ret1 def_nil ?_ | refine t_tmp ?_)
  all_goals try rfl
  have hvl : views.length ≤ 4 := by omega
  have hal : acts.length ≤ 24 := by omega
  have hu : IntKind.u64.wrap (views.length : Int) = views.length := by omega
  refine s_lp (X := Nat) [6, 7, 28, 29, 30, 31, 32, 33, 34, 35, 36, 37, 38, 39, 40] (fun x => x ≤ views.length) (fun x lz => (7, (.c (.d (.lit (.int .i64 x))))) :: lz) (fun x => [.box 1 (c.d.map .d)]) (fun x => views.length - x) (0) ?_ ?_ ?_ ?_
  repeat' (first | exact slots_nil | refine w1 ?_ | exact memIn_nil | refine memIn_same ?_ | omega)
  rintro i ck hi
  by_cases hil : i < views.length
  · have hv : views[i]? = some views[i] := List.getElem?_eq_getElem hil
    generalize views[i] = b at hv
    have hsh := short_c b
    cases hs : shortE b with
    | false =>
      rw [hs] at hsh
      repeat' (first | (with_reducible (first | refine k_seq ?_ | refine k_block ?_ | refine k_skip ?_ | refine k_exit ?_ | refine k_ret ?_ | refine n_seq ?_ | refine n_block ?_ | refine e_seq ?_ | refine e_here ?_ | refine r_seq ?_ | refine r_block ?_ | refine o_exit ?_ | refine o_ret ?_)) | refine s_reg ?_ | refine s_ifT ?_ | refine s_ifF ?_ | refine s_if rfl (fun hb => ?_) (fun hb => ?_) | refine r_end ?_ | refine s_endD ?_ | refine s_skipS ?_ | refine s_move ?_ | refine s_assign ?_ | refine s_int ?_ | refine s_loadF1 ?_ | refine s_loadB1 ?_ | refine s_loadFA ?_ | refine s_loadBA ?_ | refine s_indexD ?_ (hel := (by first | exact idx_map hv (by omega) | exact hv | exact rfl)) | refine s_fieldB ?_ | refine s_call (hsh) ?_ | refine s_call (awake30_c) ?_ | refine s_pick ?_ | refine s_lenD ?_ | refine s_storeB ?_ | refine s_bslice ?_ | refine s_extract ?_ | refine s_alloc ?_ | refine s_not ?_ | refine s_conv ?_ | refine s_box ?_ | refine s_split rfl rfl (fun hb => ?_) (fun hb => ?_) | refine f_ret1 def_nil ?_ | refine t_tmp ?_)
      all_goals rfl
    | true =>
      rw [hs] at hsh
      repeat' (first | (with_reducible (first | refine k_seq ?_ | refine k_block ?_ | refine k_skip ?_ | refine k_exit ?_ | refine k_ret ?_ | refine n_seq ?_ | refine n_block ?_ | refine e_seq ?_ | refine e_here ?_ | refine r_seq ?_ | refine r_block ?_ | refine o_exit ?_ | refine o_ret ?_)) | refine s_reg ?_ | refine s_ifT ?_ | refine s_ifF ?_ | refine s_if rfl (fun hb => ?_) (fun hb => ?_) | refine r_end ?_ | refine s_endD ?_ | refine s_skipS ?_ | refine s_move ?_ | refine s_assign ?_ | refine s_int ?_ | refine s_loadF1 ?_ | refine s_loadB1 ?_ | refine s_loadFA ?_ | refine s_loadBA ?_ | refine s_indexD ?_ (hel := (by first | exact idx_map hv (by omega) | exact hv | exact rfl)) | refine s_fieldB ?_ | refine s_call (hsh) ?_ | refine s_pick ?_ | refine s_lenD ?_ | refine s_storeB ?_ | refine s_bslice ?_ | refine s_extract ?_ | refine s_alloc ?_ | refine s_not ?_ | refine s_conv ?_ | refine s_box ?_ | refine s_split rfl rfl (fun hb => ?_) (fun hb => ?_) | refine f_ret1 def_nil ?_ | refine t_tmp ?_)
      (apply s_round (i + 1); all_goals (try dsimp only); all_goals (try (repeat' (first | exact slots_nil | refine w1 ?_ | exact memIn_nil | refine memIn_same ?_ | omega))))
  · repeat' (first | (with_reducible (first | refine k_seq ?_ | refine k_block ?_ | refine k_skip ?_ | refine k_exit ?_ | refine k_ret ?_ | refine n_seq ?_ | refine n_block ?_ | refine e_seq ?_ | refine e_here ?_ | refine r_seq ?_ | refine r_block ?_ | refine o_exit ?_ | refine o_ret ?_)) | refine s_reg ?_ | refine s_ifT ?_ | refine s_ifF ?_ | refine s_if rfl (fun hb => ?_) (fun hb => ?_) | refine r_end ?_ | refine s_endD ?_ | refine s_skipS ?_ | refine s_move ?_ | refine s_assign ?_ | refine s_int ?_ | refine s_loadF1 ?_ | refine s_loadB1 ?_ | refine s_loadFA ?_ | refine s_loadBA ?_ | refine s_indexD ?_ (hel := (by first | exact rfl)) | refine s_fieldB ?_ | refine s_pick ?_ | refine s_lenD ?_ | refine s_storeB ?_ | refine s_bslice ?_ | refine s_extract ?_ | refine s_alloc ?_ | refine s_not ?_ | refine s_conv ?_ | refine s_box ?_ | refine s_split rfl rfl (fun hb => ?_) (fun hb => ?_) | refine f_ret1 def_nil ?_ | refine t_tmp ?_)
    refine s_lp (X := Nat × List Cach) [6, 8, 9, 10, 11, 12, 13, 14, 15, 16, 17, 18, 41, 42, 43, 44, 45, 46, 47, 48, 49, 50, 51, 52, 53, 54, 55, 56, 57, 58, 59, 60, 61, 62, 63, 64, 65, 66, 67, 68, 69, 70, 71, 72, 73, 74, 75, 76, 77, 78, 79, 80, 81, 82, 83, 84, 85, 86, 87, 88, 89, 90, 91, 92, 93, 94, 95, 96, 97, 98, 99, 100, 101, 102, 103, 104, 105, 106, 107, 108, 109, 110, 111, 112, 113, 114, 115, 116, 117, 118, 119, 120, 121, 122, 123, 124, 125, 126, 127, 128, 129, 130, 131, 132, 133, 134, 135, 136, 137, 138, 139, 140, 141, 142, 143, 144, 145, 146, 147, 148, 149, 150, 151, 152, 153, 154, 155, 156, 157, 158, 159, 160, 161, 162, 163, 164, 165, 166, 167, 168, 169, 170] (fun x => x.1 ≤ acts.length ∧ validC x.2 = true) (fun x lz => (10, (.c (.d (.lit (.int .i64 x.1))))) :: (8, .c (.d (cachD x.2))) :: (9, .c (.d (cachD x.2))) :: lz) (fun x => [.box 1 (c.d.map .d)]) (fun x => acts.length - x.1) ((0, [])) ?_ ?_ ?_ ?_
    repeat' (first | exact slots_nil | refine w1 ?_ | exact memIn_nil | refine memIn_same ?_ | omega)
    · exact ⟨by simp, rfl⟩
    rintro ⟨j, s⟩ ck1 ⟨hj, hvs⟩
    dsimp only at hj hvs ⊢
    by_cases hjl : j < acts.length
    · have ha : acts[j]? = some acts[j] := List.getElem?_eq_getElem hjl
      generalize acts[j] = a at ha
      have hk : 0 ≤ andInt .i64 a.kind 3 ∧ andInt .i64 a.kind 3 ≤ 3 := and_mask a.kind 3 (by omega)
      have hk : andInt .i64 a.kind 3 = 0 ∨ andInt .i64 a.kind 3 = 1 ∨ andInt .i64 a.kind 3 = 2 ∨ andInt .i64 a.kind 3 = 3 := by omega
      obtain ⟨q1, q2⟩ := u64_rem a.view (m := views.length) (by omega) (by omega)
      rw [← hu] at q1 q2
      have hv : views[(IntKind.i64.wrap ((IntKind.u64.wrap a.view).tmod (IntKind.u64.wrap (views.length : Int)))).toNat]? = some views[(IntKind.i64.wrap ((IntKind.u64.wrap a.view).tmod (IntKind.u64.wrap (views.length : Int)))).toNat] := List.getElem?_eq_getElem (by omega)
      generalize views[(IntKind.i64.wrap ((IntKind.u64.wrap a.view).tmod (IntKind.u64.wrap (views.length : Int)))).toNat] = rows at hv
      have hsl := valid_len hvs
      rcases hk with hk | hk | hk | hk
      · have h1 := lookup_c c s rows a.val a.day
        have h2 := refLookup_c c s rows a.val a.day hsl
        have hlv := look_valid c s rows a.val a.day
        have hle := look_err c s rows a.val a.day
        generalize lookE c s rows a.val a.day = r at h1 h2 hlv hle
        obtain ⟨x, l, e⟩ := r
        unfold lookR at h1 h2
        dsimp only at h1 h2 hlv hle
        obtain ⟨g1, g2, b1, g3, g4⟩ := after_c c x rows hlv
        obtain ⟨k1, k2, b2, k3, k4⟩ := after_c c s rows hvs
        have g5 := sameBag26_c l l
        rw [sameBag_refl] at g5
        rcases hle with rfl | rfl
        · repeat' (first | refine s_neIs ?_ | refine s_neBs ?_ | (with_reducible (first | refine k_seq ?_ | refine k_block ?_ | refine k_skip ?_ | refine k_exit ?_ | refine k_ret ?_ | refine n_seq ?_ | refine n_block ?_ | refine e_seq ?_ | refine e_here ?_ | refine r_seq ?_ | refine r_block ?_ | refine o_exit ?_ | refine o_ret ?_)) | refine s_reg ?_ | refine s_ifT ?_ | refine s_ifF ?_ | refine s_if rfl (fun hb => ?_) (fun hb => ?_) | refine r_end ?_ | refine s_endD ?_ | refine s_skipS ?_ | refine s_move ?_ | refine s_assign ?_ | refine s_int ?_ | refine s_loadF1 ?_ | refine s_loadB1 ?_ | refine s_loadFA ?_ | refine s_loadBA ?_ | refine s_indexD ?_ (hel := (by first | exact idx_map ha (by omega) | exact idx_map hv (by omega) | exact ha | exact hv | exact rfl)) | refine s_fieldB ?_ | refine s_call (h1) ?_ | refine s_call (h2) ?_ | refine s_call (g1) ?_ | refine s_call (g2) ?_ | refine s_call (g3) ?_ | refine s_call (g4) ?_ | refine s_call (g5) ?_ | refine s_pick ?_ | refine s_lenD ?_ | refine s_storeB ?_ | refine s_bslice ?_ | refine s_extract ?_ | refine s_alloc ?_ | refine s_not ?_ | refine s_conv ?_ | refine s_box ?_ | refine s_split rfl rfl (fun hb => ?_) (fun hb => ?_) | refine f_ret1 def_nil ?_ | refine t_tmp ?_)
          (apply s_round ((j + 1, x)); all_goals (try dsimp only); all_goals (try (repeat' (first | exact slots_nil | refine w1 ?_ | exact memIn_nil | refine memIn_same ?_ | omega))))
          all_goals exact ⟨by omega, hlv⟩
        · repeat' (first | refine s_neIs ?_ | refine s_neBs ?_ | (with_reducible (first | refine k_seq ?_ | refine k_block ?_ | refine k_skip ?_ | refine k_exit ?_ | refine k_ret ?_ | refine n_seq ?_ | refine n_block ?_ | refine e_seq ?_ | refine e_here ?_ | refine r_seq ?_ | refine r_block ?_ | refine o_exit ?_ | refine o_ret ?_)) | refine s_reg ?_ | refine s_ifT ?_ | refine s_ifF ?_ | refine s_if rfl (fun hb => ?_) (fun hb => ?_) | refine r_end ?_ | refine s_endD ?_ | refine s_skipS ?_ | refine s_move ?_ | refine s_assign ?_ | refine s_int ?_ | refine s_loadF1 ?_ | refine s_loadB1 ?_ | refine s_loadFA ?_ | refine s_loadBA ?_ | refine s_indexD ?_ (hel := (by first | exact idx_map ha (by omega) | exact idx_map hv (by omega) | exact ha | exact hv | exact rfl)) | refine s_fieldB ?_ | refine s_call (h1) ?_ | refine s_call (h2) ?_ | refine s_call (g1) ?_ | refine s_call (g5) ?_ | refine s_call (k1) ?_ | refine s_call (k2) ?_ | refine s_call (k3) ?_ | refine s_call (k4) ?_ | refine s_pick ?_ | refine s_lenD ?_ | refine s_storeB ?_ | refine s_bslice ?_ | refine s_extract ?_ | refine s_alloc ?_ | refine s_not ?_ | refine s_conv ?_ | refine s_box ?_ | refine s_split rfl rfl (fun hb => ?_) (fun hb => ?_) | refine f_ret1 def_nil ?_ | refine t_tmp ?_)
          (apply s_round ((j + 1, s)); all_goals (try dsimp only); all_goals (try (repeat' (first | exact slots_nil | refine w1 ?_ | exact memIn_nil | refine memIn_same ?_ | omega))))
          all_goals exact ⟨by omega, hvs⟩
      · have h1 := refill_c c s rows a.day
        have h2 := refRefill_c c s rows a.day hsl
        have hlv := refill_valid c s rows a.day
        generalize refillE c s rows a.day = x at h1 h2 hlv
        obtain ⟨g1, g2, b1, g3, g4⟩ := after_c c x rows hlv
        repeat' (first | refine s_neIs ?_ | refine s_neBs ?_ | (with_reducible (first | refine k_seq ?_ | refine k_block ?_ | refine k_skip ?_ | refine k_exit ?_ | refine k_ret ?_ | refine n_seq ?_ | refine n_block ?_ | refine e_seq ?_ | refine e_here ?_ | refine r_seq ?_ | refine r_block ?_ | refine o_exit ?_ | refine o_ret ?_)) | refine s_reg ?_ | refine s_ifT ?_ | refine s_ifF ?_ | refine s_if rfl (fun hb => ?_) (fun hb => ?_) | refine r_end ?_ | refine s_endD ?_ | refine s_skipS ?_ | refine s_move ?_ | refine s_assign ?_ | refine s_int ?_ | refine s_loadF1 ?_ | refine s_loadB1 ?_ | refine s_loadFA ?_ | refine s_loadBA ?_ | refine s_indexD ?_ (hel := (by first | exact idx_map ha (by omega) | exact idx_map hv (by omega) | exact ha | exact hv | exact rfl)) | refine s_fieldB ?_ | refine s_call (h1) ?_ | refine s_call (h2) ?_ | refine s_call (g1) ?_ | refine s_call (g2) ?_ | refine s_call (g3) ?_ | refine s_call (g4) ?_ | refine s_pick ?_ | refine s_lenD ?_ | refine s_storeB ?_ | refine s_bslice ?_ | refine s_extract ?_ | refine s_alloc ?_ | refine s_not ?_ | refine s_conv ?_ | refine s_box ?_ | refine s_split rfl rfl (fun hb => ?_) (fun hb => ?_) | refine f_ret1 def_nil ?_ | refine t_tmp ?_)
        (apply s_round ((j + 1, x)); all_goals (try dsimp only); all_goals (try (repeat' (first | exact slots_nil | refine w1 ?_ | exact memIn_nil | refine memIn_same ?_ | omega))))
        all_goals exact ⟨by omega, hlv⟩
      · have h1 := purge_c s [a.val] (by simp)
        have h2 := refPurge_c s [a.val] (by simp) hsl
        have hlv := pur_valid s [a.val]
        generalize purE s [a.val] = x at h1 h2 hlv
        obtain ⟨g1, g2, b1, g3, g4⟩ := after_c c x rows hlv
        repeat' (first | refine s_neIs ?_ | refine s_neBs ?_ | (with_reducible (first | refine k_seq ?_ | refine k_block ?_ | refine k_skip ?_ | refine k_exit ?_ | refine k_ret ?_ | refine n_seq ?_ | refine n_block ?_ | refine e_seq ?_ | refine e_here ?_ | refine r_seq ?_ | refine r_block ?_ | refine o_exit ?_ | refine o_ret ?_)) | refine s_reg ?_ | refine s_ifT ?_ | refine s_ifF ?_ | refine s_if rfl (fun hb => ?_) (fun hb => ?_) | refine r_end ?_ | refine s_endD ?_ | refine s_skipS ?_ | refine s_move ?_ | refine s_assign ?_ | refine s_int ?_ | refine s_loadF1 ?_ | refine s_loadB1 ?_ | refine s_loadFA ?_ | refine s_loadBA ?_ | refine s_indexD ?_ (hel := (by first | exact idx_map ha (by omega) | exact idx_map hv (by omega) | exact ha | exact hv | exact rfl)) | refine s_fieldB ?_ | refine s_call (h1) ?_ | refine s_call (h2) ?_ | refine s_call (g1) ?_ | refine s_call (g2) ?_ | refine s_call (g3) ?_ | refine s_call (g4) ?_ | refine s_pick ?_ | refine s_lenD ?_ | refine s_storeB ?_ | refine s_bslice ?_ | refine s_extract ?_ | refine s_alloc ?_ | refine s_not ?_ | refine s_conv ?_ | refine s_box ?_ | refine s_split rfl rfl (fun hb => ?_) (fun hb => ?_) | refine f_ret1 def_nil ?_ | refine t_tmp ?_)
        (apply s_round ((j + 1, x)); all_goals (try dsimp only); all_goals (try (repeat' (first | exact slots_nil | refine w1 ?_ | exact memIn_nil | refine memIn_same ?_ | omega))))
        all_goals exact ⟨by omega, hlv⟩
      · have h1 := expire_c c s a.day
        have h2 := refExpire_c c s a.day hsl
        have hlv := exp_valid c s a.day
        generalize expE c s a.day = x at h1 h2 hlv
        obtain ⟨g1, g2, b1, g3, g4⟩ := after_c c x rows hlv
        repeat' (first | refine s_neIs ?_ | refine s_neBs ?_ | (with_reducible (first | refine k_seq ?_ | refine k_block ?_ | refine k_skip ?_ | refine k_exit ?_ | refine k_ret ?_ | refine n_seq ?_ | refine n_block ?_ | refine e_seq ?_ | refine e_here ?_ | refine r_seq ?_ | refine r_block ?_ | refine o_exit ?_ | refine o_ret ?_)) | refine s_reg ?_ | refine s_ifT ?_ | refine s_ifF ?_ | refine s_if rfl (fun hb => ?_) (fun hb => ?_) | refine r_end ?_ | refine s_endD ?_ | refine s_skipS ?_ | refine s_move ?_ | refine s_assign ?_ | refine s_int ?_ | refine s_loadF1 ?_ | refine s_loadB1 ?_ | refine s_loadFA ?_ | refine s_loadBA ?_ | refine s_indexD ?_ (hel := (by first | exact idx_map ha (by omega) | exact idx_map hv (by omega) | exact ha | exact hv | exact rfl)) | refine s_fieldB ?_ | refine s_call (h1) ?_ | refine s_call (h2) ?_ | refine s_call (g1) ?_ | refine s_call (g2) ?_ | refine s_call (g3) ?_ | refine s_call (g4) ?_ | refine s_pick ?_ | refine s_lenD ?_ | refine s_storeB ?_ | refine s_bslice ?_ | refine s_extract ?_ | refine s_alloc ?_ | refine s_not ?_ | refine s_conv ?_ | refine s_box ?_ | refine s_split rfl rfl (fun hb => ?_) (fun hb => ?_) | refine f_ret1 def_nil ?_ | refine t_tmp ?_)
        (apply s_round ((j + 1, x)); all_goals (try dsimp only); all_goals (try (repeat' (first | exact slots_nil | refine w1 ?_ | exact memIn_nil | refine memIn_same ?_ | omega))))
        all_goals exact ⟨by omega, hlv⟩
    · repeat' (first | (with_reducible (first | refine k_seq ?_ | refine k_block ?_ | refine k_skip ?_ | refine k_exit ?_ | refine k_ret ?_ | refine n_seq ?_ | refine n_block ?_ | refine e_seq ?_ | refine e_here ?_ | refine r_seq ?_ | refine r_block ?_ | refine o_exit ?_ | refine o_ret ?_)) | refine s_reg ?_ | refine s_ifT ?_ | refine s_ifF ?_ | refine s_if rfl (fun hb => ?_) (fun hb => ?_) | refine r_end ?_ | refine s_endD ?_ | refine s_skipS ?_ | refine s_move ?_ | refine s_assign ?_ | refine s_int ?_ | refine s_loadF1 ?_ | refine s_loadB1 ?_ | refine s_loadFA ?_ | refine s_loadBA ?_ | refine s_indexD ?_ (hel := (by first | exact rfl)) | refine s_fieldB ?_ | refine s_call (awake30_c) ?_ | refine s_pick ?_ | refine s_lenD ?_ | refine s_storeB ?_ | refine s_bslice ?_ | refine s_extract ?_ | refine s_alloc ?_ | refine s_not ?_ | refine s_conv ?_ | refine s_box ?_ | refine s_split rfl rfl (fun hb => ?_) (fun hb => ?_) | refine f_ret1 def_nil ?_ | refine t_tmp ?_)
      all_goals rfl

theorem lawPlays_c (c : Conf) (views : List (List Entry)) (acts : List Act) : PCall Try.prog 6 [.agg c.d, .one (bagsD views), .one (actsD acts)] (.v (.one (.lit (.bool true)))) := by
  by_cases h : 0 < views.length
  · exact lawPlays1_c c views acts h
  · exact lawPlays0_c c views acts (by omega)
end Go.Proofs.Ytmejclckkmpggaa
