/-
  AggregateExact, AggregateNever: the laws return true.
-/
import Derived.Test.YtojfhaoleedmkaaGreatLga
import Derived.Test.YtojfhaoleedmkaaGreatLgp
import Derived.Test.YtojfhaoleedmkaaGreatXct
import Derived.Test.YtojfhaoleedmkaaGreatTpo
namespace Go.Proofs.YtojfhaoleedmkaaGreat
open Go.Abs Go.RowKit
attribute [local irreducible] ARun kont MCall PCall HCall resVal SF CF CFs defersOk slotsIn memIn fin finM VLe
set_option linter.unusedSimpArgs false
set_option maxRecDepth 100000
set_option maxHeartbeats 4000000
theorem pos_of {b : List Entry} (vb : bagValid b = true) (pb : ∀ e ∈ b, 0 < e.count) : positiveE b = true := by
  unfold positiveE
  rw [vb, Bool.true_and, List.all_eq_true]
  intro e he
  have := pb e he
  simp; omega
theorem shows_c {ag : List Agg} {keys : List Itm} {b : List Entry} {n w : Nat} (h : Tiny n w b) (hn : n ≤ 1000) (h8 : keys.length + ag.length ≤ 8) (hx : exactE ag = true) (hp : ∀ e ∈ b, 0 < e.count) : PCall Tryz.prog 35 [.one (stsD (stsE ag (keyE keys) b)), .one (aggD ag)] (.tup [.one (bagD ((keysE b (keyE keys)).map (grE ag keys b))), .one (.lit (.int .i64 0))]) := by
  obtain ⟨h1, h2⟩ := show_tiny h hn h8 hx hp
  have ok := stsE_ok (ag := ag) (keys := keys) h hn (by omega)
  have hs := show_c (stsE ag (keyE keys) b) ag (by omega) hx ok h2 (stsOk_says ok).1
  rw [h1, norm_valid (rows_valid (valid_mem h.v).1 h8)] at hs
  exact hs
theorem lawExact_c (t : List Int) (ht : t.length ≤ 17592186044416) : PCall Tryz.prog 9 [.one (numD t)] (.v (.one (.lit (.bool true)))) := by
  have hnew := new_h t ht
  have hok := newTape9_ok ht
  obtain ⟨b, t1, ok1, vb, -, lb, tb, pb, c1⟩ := bagP_h ⟨t, 0⟩ 3 8 hok (by omega) (by omega)
  obtain ⟨d, t2, ok2, vd, -, ld, td, c2⟩ := bagT_h t1 3 6 true ok1 (by omega) (by omega)
  obtain ⟨ks, t3, ok3, lk, c3⟩ := keys_h t2 2 3 ok2 (by omega) (by omega) (by omega)
  obtain ⟨ag, t4, ok4, la, hx, c4⟩ := exacts_h t3 3 3 ok3 (by omega) (by omega) (by omega)
  have h8 : ks.length + ag.length ≤ 8 := by omega
  obtain ⟨s, hadd, ts, hw⟩ := addT9 tb td (by omega)
  have g1 := states_c b ks ag (by omega) (by omega)
  rw [statesE_tiny tb h8 hx] at g1
  have g2 := shows_c tb (by omega) h8 hx pb
  have g3 := group_c b ks ag (by omega) (by omega)
  rw [group_rows (pos_of vb pb) h8] at g3
  have g4 := add_c b d
  rw [hadd] at g4
  have g5 := correct_c (stsE ag (keyE ks) b) d ks ag (by omega) (by omega)
  rw [correct_tiny tb td ts (by omega) (by omega) (by omega) h8 hx hw] at g5
  have g6 := states_c s ks ag (by omega) (by omega)
  rw [statesE_tiny ts h8 hx] at g6
  have g7 := aggValid_c (stsE ag (keyE ks) b) ag (by omega)
  rw [stsE_ok tb (by omega) (by omega)] at g7
  have s1 := sameSelf_c ((keysE b (keyE ks)).map (grE ag ks b))
  have s2 := sameG_c (stsE ag (keyE ks) s)
  generalize (keysE b (keyE ks)).map (grE ag ks b) = R at g2 g3 s1
  generalize stsE ag (keyE ks) b = S at g1 g2 g5 g7
  generalize stsE ag (keyE ks) s = U at g5 g6 s2
  dsimp only at g1 g3 g4 g5 g6
  refine pcallN hT Tryz.func9 Tryz.ntmps9 [.tmp 2] fun B => ?_
  repeat' (first | refine Go.Abs.ks ?_ | refine ko ?_ | refine s_call (g1) ?_ | refine s_call (g2) ?_ | refine s_call (g3) ?_ | refine s_call (g4) ?_ | refine s_call (g5) ?_ | refine s_call (g6) ?_ | refine s_call (g7) ?_ | refine s_call (s1) ?_ | refine s_call (s2) ?_ | refine s_call (awake09_c) ?_ | refine s_callH [] (hnew) ?_ | refine s_callH [1] (c1) ?_ | refine s_callH [1] (c2) ?_ | refine s_callH [1] (c3) ?_ | refine s_callH [1] (c4) ?_ | refine f_ret1 def_nil ?_ | refine t_tmp ?_)
  all_goals rfl
theorem lawNever_c (t : List Int) (ht : t.length ≤ 17592186044416) : PCall Tryz.prog 10 [.one (numD t)] (.v (.one (.lit (.bool true)))) := by
  have hnew := new_h t ht
  have hok := newTape9_ok ht
  obtain ⟨b, t1, ok1, vb, -, lb, tb, pb, c1⟩ := bagP_h ⟨t, 0⟩ 3 8 hok (by omega) (by omega)
  obtain ⟨d, t2, ok2, vd, -, ld, td, pd, c2⟩ := bagP_h t1 3 6 ok1 (by omega) (by omega)
  obtain ⟨ks, t3, ok3, lk, c3⟩ := keys_h t2 2 3 ok2 (by omega) (by omega) (by omega)
  obtain ⟨ag, t4, ok4, la, hx, c4⟩ := exacts_h t3 3 3 ok3 (by omega) (by omega) (by omega)
  have h8 : ks.length + ag.length ≤ 8 := by omega
  obtain ⟨s, hadd, ts, hw⟩ := addT9 tb td (by omega)
  obtain ⟨m, hneg, tm, hwm⟩ := negT9 td (by omega)
  have g1 := states_c s ks ag (by omega) (by omega)
  rw [statesE_tiny ts h8 hx] at g1
  have g2 := shows_c tb (by omega) h8 hx pb
  have g3 := group_c b ks ag (by omega) (by omega)
  rw [group_rows (pos_of vb pb) h8] at g3
  have g4 := add_c b d
  rw [hadd] at g4
  have g5 := correct_c (stsE ag (keyE ks) s) m ks ag (by omega) (by omega)
  rw [correct_tiny ts tm tb (by omega) (by omega) (by omega) h8 hx (fun g => by rw [hw, hwm]; omega)] at g5
  have g6 := subtract_c [] d
  rw [hneg] at g6
  have s1 := sameSelf_c ((keysE b (keyE ks)).map (grE ag ks b))
  generalize (keysE b (keyE ks)).map (grE ag ks b) = R at g2 g3 s1
  generalize stsE ag (keyE ks) b = S at g2 g5
  generalize stsE ag (keyE ks) s = U at g1 g5
  dsimp only at g1 g3 g4 g5 g6
  refine pcallN hT Tryz.func10 Tryz.ntmps10 [.tmp 2] fun B => ?_
  repeat' (first | refine Go.Abs.ks ?_ | refine ko ?_ | refine s_call (g1) ?_ | refine s_call (g2) ?_ | refine s_call (g3) ?_ | refine s_call (g4) ?_ | refine s_call (g5) ?_ | refine s_call (g6) ?_ | refine s_call (s1) ?_ | refine s_call (awake09_c) ?_ | refine s_callH [] (hnew) ?_ | refine s_callH [1] (c1) ?_ | refine s_callH [1] (c2) ?_ | refine s_callH [1] (c3) ?_ | refine s_callH [1] (c4) ?_ | refine f_ret1 def_nil ?_ | refine t_tmp ?_)
  all_goals rfl
end Go.Proofs.YtojfhaoleedmkaaGreat
