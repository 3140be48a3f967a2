/-
  CacheRaw.
-/
import Derived.Test.YtmejclckkmpggaaCan
import Derived.Test.YtmejclckkmpggaaLcd
import Derived.Test.YtmejclckkmpggaaEqs
namespace Go.Proofs.Ytmejclckkmpggaa
open Go.Abs Go.RowKit
attribute [local irreducible] ARun kont MCall PCall HCall resVal SF CF CFs defersOk slotsIn memIn fin finM VLe
set_option linter.unusedSimpArgs false
set_option maxRecDepth 100000
set_option maxHeartbeats 4000000

structure Act where
  kind : Int
  val : Val
  day : Int
  view : Int
def Act.d (a : Act) : List Dat := [.lit (.int .i64 a.kind), .lit (.int .i64 a.val.kind), .lit (.int .i64 a.val.int), .lit (.string a.val.text), .lit (.int .i64 a.day), .lit (.int .i64 a.view)]

theorem small_len {s : List Cach} (h : smallE s = true) : s.length ≤ 30 := by
  simp only [smallE, Bool.and_eq_true, decide_eq_true_eq] at h; exact h.2

theorem lawRaw_c (c : Conf) (s : List Cach) (a : Act) : PCall Try.prog 7 [.agg c.d, .one (cachD s), .agg a.d] (.v (.one (.lit (.bool true)))) := by
  have hsm := small_c s
  cases hz : smallE s with
  | false =>
    rw [hz] at hsm
    refine pcallN hT Try.func7 Try.ntmps7 [.tmp 6] fun B => ?_
    repeat' (first | (with_reducible (first | refine k_seq ?_ | refine k_skip ?_ | refine k_ret ?_ | refine n_seq ?_ | refine r_seq ?_)) | refine s_reg ?_ | refine s_ifT ?_ | refine s_ifF ?_ | refine r_end ?_ | refine s_endD ?_ | refine s_move ?_ | refine s_assign ?_ | refine s_eqB ?_ | refine s_loadB1 ?_ | refine s_loadBA ?_ | refine s_fieldB ?_ | refine s_call (hsm) ?_ | refine s_call (awake30_c) ?_ | refine s_pick ?_ | refine s_bslice ?_ | refine s_extract ?_ | refine s_not ?_ | refine s_box ?_ | refine s_build ?_ | refine f_ret1 def_nil ?_ | refine t_tmp ?_)
    all_goals rfl
  | true =>
    rw [hz] at hsm
    have hl := small_len hz
    have h1 := lookup_c c s [⟨[a.val], 1⟩] a.val a.day
    have h2 := refLookup_c c s [⟨[a.val], 1⟩] a.val a.day (by omega)
    have h3 := cvalid_c s
    have h4 := refCValid_c s (by omega)
    have h5 := refill_c c s [⟨[a.val], 1⟩] a.day
    have h6 := refRefill_c c s [⟨[a.val], 1⟩] a.day (by omega)
    have h7 := purge_c s [a.val] (by simp)
    have h8 := refPurge_c s [a.val] (by simp) (by omega)
    have h9 := expire_c c s a.day
    have h10 := refExpire_c c s a.day (by omega)
    have h11 := fresh_c c s [⟨[a.val], 1⟩]
    have h12 := refFresh_c c s [⟨[a.val], 1⟩] (by omega)
    generalize lookE c s [⟨[a.val], 1⟩] a.val a.day = r at h1 h2
    generalize refillE c s [⟨[a.val], 1⟩] a.day = q1 at h5 h6
    generalize purE s [a.val] = q2 at h7 h8
    generalize expE c s a.day = q3 at h9 h10
    generalize freshE c s [⟨[a.val], 1⟩] = b1 at h11 h12
    generalize validC s = b2 at h3 h4
    obtain ⟨x, l, e⟩ := r
    unfold lookR at h1 h2
    have g1 := refSame_c x x
    have g2 := refSame_c q1 q1
    have g3 := refSame_c q2 q2
    have g4 := refSame_c q3 q3
    have g5 := sameBag26_c l l
    rw [sameCs_refl] at g1 g2 g3 g4
    rw [sameBag_refl] at g5
    cases b1 <;> cases b2
    all_goals
      refine pcallN hT Try.func7 Try.ntmps7 [.tmp 6] fun B => ?_
      repeat' (first | refine s_eqIs ?_ | (with_reducible (first | refine k_seq ?_ | refine k_skip ?_ | refine k_ret ?_ | refine n_seq ?_ | refine r_seq ?_)) | refine s_reg ?_ | refine s_ifT ?_ | refine s_ifF ?_ | refine r_end ?_ | refine s_endD ?_ | refine s_move ?_ | refine s_assign ?_ | refine s_eqB ?_ | refine s_loadB1 ?_ | refine s_loadBA ?_ | refine s_fieldB ?_ | refine s_call (hsm) ?_ | refine s_call (awake30_c) ?_ | refine s_call (h1) ?_ | refine s_call (h2) ?_ | refine s_call (h3) ?_ | refine s_call (h4) ?_ | refine s_call (h5) ?_ | refine s_call (h6) ?_ | refine s_call (h7) ?_ | refine s_call (h8) ?_ | refine s_call (h9) ?_ | refine s_call (h10) ?_ | refine s_call (h11) ?_ | refine s_call (h12) ?_ | refine s_call (g1) ?_ | refine s_call (g2) ?_ | refine s_call (g3) ?_ | refine s_call (g4) ?_ | refine s_call (g5) ?_ | refine s_pick ?_ | refine s_bslice ?_ | refine s_extract ?_ | refine s_not ?_ | refine s_box ?_ | refine s_build ?_ | refine f_ret1 def_nil ?_ | refine t_tmp ?_)
      dsimp only [List.toList_toArray, List.append]
      repeat' (first | refine s_eqIs ?_ | (with_reducible (first | refine k_seq ?_ | refine k_skip ?_ | refine k_ret ?_ | refine n_seq ?_ | refine r_seq ?_)) | refine s_reg ?_ | refine s_ifT ?_ | refine s_ifF ?_ | refine r_end ?_ | refine s_endD ?_ | refine s_move ?_ | refine s_assign ?_ | refine s_eqB ?_ | refine s_loadB1 ?_ | refine s_loadBA ?_ | refine s_fieldB ?_ | refine s_call (hsm) ?_ | refine s_call (awake30_c) ?_ | refine s_call (h1) ?_ | refine s_call (h2) ?_ | refine s_call (h3) ?_ | refine s_call (h4) ?_ | refine s_call (h5) ?_ | refine s_call (h6) ?_ | refine s_call (h7) ?_ | refine s_call (h8) ?_ | refine s_call (h9) ?_ | refine s_call (h10) ?_ | refine s_call (h11) ?_ | refine s_call (h12) ?_ | refine s_call (g1) ?_ | refine s_call (g2) ?_ | refine s_call (g3) ?_ | refine s_call (g4) ?_ | refine s_call (g5) ?_ | refine s_pick ?_ | refine s_bslice ?_ | refine s_extract ?_ | refine s_not ?_ | refine s_box ?_ | refine s_build ?_ | refine f_ret1 def_nil ?_ | refine t_tmp ?_)
      all_goals rfl
end Go.Proofs.Ytmejclckkmpggaa
