/-
  AlgebraLinear: the law returns true.
-/
import Derived.Test.YtiidgbfdghplhaaGreatLam
import Derived.Test.YtiidgbfdghplhaaGreatLin
import Derived.Test.YtiidgbfdghplhaaGreatTab
import Derived.Test.YtiidgbfdghplhaaGreatTex
namespace Go.Proofs.YtiidgbfdghplhaaGreat
open Go.Abs Go.RowKit
attribute [local irreducible] ARun kont MCall PCall HCall resVal SF CF CFs defersOk slotsIn memIn fin finM VLe
set_option linter.unusedSimpArgs false
set_option maxRecDepth 100000
set_option maxHeartbeats 4000000

theorem added_c (a b s : List Entry) (ha : bagValid a = true) (hb : bagValid b = true) (h : addE 1 a b = (s, 0)) : PCall Tryz.prog 27 [.one (bagD a), .one (bagD b), .one (bagD s)] (.v (.one (.lit (.bool true)))) := by
  have h1 := refAddV_c a b ha hb
  rw [h] at h1
  dsimp only at h1
  have h2 := same06_c s s
  rw [sameBag_refl] at h2
  refine pcallN hT Tryz.func27 Tryz.ntmps27 [.tmp 6] fun B => ?_
  repeat' (first | (with_reducible (first | refine k_seq ?_ | refine k_ret ?_ | refine n_seq ?_)) | refine s_reg ?_ | refine r_end ?_ | refine s_move ?_ | refine s_assign ?_ | refine s_int ?_ | refine s_call (h1) ?_ | refine s_call (h2) ?_ | refine s_pick ?_ | refine s_extract ?_ | refine f_ret1 def_nil ?_ | refine t_tmp ?_)
  all_goals rfl

theorem lawLinear_c (t : List Int) (ht : t.length ≤ 17592186044416) : PCall Tryz.prog 7 [.one (numD t)] (.v (.one (.lit (.bool true)))) := by
  have hnew := new_h t ht
  have hok : (Tape.mk t 0).ok := ⟨ht, by simp⟩
  obtain ⟨a, t1, ok1, -, -, -, ta, c1⟩ := bagT_h ⟨t, 0⟩ 3 5 true hok (by omega) (by omega)
  obtain ⟨b, t2, ok2, -, -, -, tb, c2⟩ := bagT_h t1 3 5 true ok1 (by omega) (by omega)
  obtain ⟨c, t3, ok3, -, -, -, tc, c3⟩ := bagT_h t2 2 5 true ok2 (by omega) (by omega)
  obtain ⟨f, t4, ok4, -, c4⟩ := expr_h 3 (by omega) (by omega) 3 t3 ok3 (by omega)
  obtain ⟨e1, t5, ok5, -, c5⟩ := expr_h 3 (by omega) (by omega) 2 t4 ok4 (by omega)
  obtain ⟨e2, t6, ok6, -, c6⟩ := expr_h 3 (by omega) (by omega) 2 t5 ok5 (by omega)
  obtain ⟨v1, t7, ok7, l7, c7⟩ := nextE_h t6 3 ok6 (by omega) (by omega)
  obtain ⟨v2, t8, ok8, l8, c8⟩ := nextE_h t7 2 ok7 (by omega) (by omega)
  obtain ⟨s, hs, ts, ws⟩ := addT ta tb (by omega)
  have k0 := add_c a b
  rw [hs] at k0
  obtain ⟨wa, ga⟩ := whereT ta f
  obtain ⟨wb, gb⟩ := whereT tb f
  obtain ⟨ww, gs⟩ := whereT ts f
  have add1 := added_c _ _ _ wa.v wb.v (lin_op wa wb ww.v (by omega) fun g => by rw [gs, ga, gb, ws])
  have p1 := where_c a f
  have p2 := where_c b f
  have p3 := where_c s f
  obtain ⟨x, mx, tx, gx⟩ := mapT ts [e1, e2] (by simp) (by omega)
  obtain ⟨y, my, ty, gy⟩ := mapT ta [e1, e2] (by simp) (by omega)
  obtain ⟨z, mz, tz, gz⟩ := mapT tb [e1, e2] (by simp) (by omega)
  have add2 := added_c y z x ty.v tz.v (lin_op ty tz tx.v (by omega) fun g => by rw [gx, gy, gz, ws])
  have p4 := map_c s [e1, e2]
  have p5 := map_c a [e1, e2]
  have p6 := map_c b [e1, e2]
  rw [mx] at p4
  rw [my] at p5
  rw [mz] at p6
  obtain ⟨ju, tu⟩ := joinT ts tc [((v1 : Int), (v2 : Int))] (by omega) (by omega) (by omega)
  obtain ⟨jv, tv⟩ := joinT ta tc [((v1 : Int), (v2 : Int))] (by omega) (by omega) (by omega)
  obtain ⟨jw, tw⟩ := joinT tb tc [((v1 : Int), (v2 : Int))] (by omega) (by omega) (by omega)
  have add3 := added_c _ _ _ tv.v tw.v (lin_op tv tw tu.v (by omega) fun g => by
    rw [wS_join g ts tc _ (by omega), wS_join g ta tc _ (by omega), wS_join g tb tc _ (by omega), ws])
  have p7 := algJoin_c s c [((v1 : Int), (v2 : Int))] (by simp)
  have p8 := algJoin_c a c [((v1 : Int), (v2 : Int))] (by simp)
  have p9 := algJoin_c b c [((v1 : Int), (v2 : Int))] (by simp)
  rw [ju] at p7
  rw [jv] at p8
  rw [jw] at p9
  obtain ⟨qp, tp⟩ := projT ts [2, 0] (by simp) (by simp) (by omega)
  obtain ⟨qq, tq⟩ := projT ta [2, 0] (by simp) (by simp) (by omega)
  obtain ⟨qr, tr⟩ := projT tb [2, 0] (by simp) (by simp) (by omega)
  have add4 := added_c _ _ _ tq.v tr.v (lin_op tq tr tp.v (by omega) fun g => by
    rw [wS_projT g ts _ (by simp), wS_projT g ta _ (by simp), wS_projT g tb _ (by simp), ws])
  have p10 := project_c s [2, 0]
  have p11 := project_c a [2, 0]
  have p12 := project_c b [2, 0]
  rw [qp] at p10
  rw [qq] at p11
  rw [qr] at p12
  clear ju jv jw qp qq qr tu tv tw tp tq tr mx my mz tx ty tz gx gy gz wa wb ww ga gb gs hs ts ws ta tb tc
  generalize whereE a f = A1 at *
  generalize whereE b f = A2 at *
  generalize whereE s f = A3 at *
  generalize sortE (pairsE s c [((v1 : Int), (v2 : Int))]) = u at *
  generalize sortE (pairsE a c [((v1 : Int), (v2 : Int))]) = v at *
  generalize sortE (pairsE b c [((v1 : Int), (v2 : Int))]) = w at *
  generalize sortE (s.map (proj1 [2, 0])) = p at *
  generalize sortE (a.map (proj1 [2, 0])) = q at *
  generalize sortE (b.map (proj1 [2, 0])) = r at *
  dsimp only [bagR, bagI, partsD, List.map] at k0 p4 p5 p6 p7 p8 p9 p10 p11 p12
  refine pcallN hT Tryz.func7 Tryz.ntmps7 [.tmp 2] fun B => ?_
  repeat' (first | (with_reducible (first | refine k_seq ?_ | refine k_skip ?_ | refine k_ret ?_ | refine n_seq ?_)) | refine s_reg ?_ | refine s_ifF ?_ | refine r_end ?_ | refine s_move ?_ | refine s_assign ?_ | refine s_int ?_ | refine s_call (k0) ?_ | refine s_call (p1) ?_ | refine s_call (p2) ?_ | refine s_call (p3) ?_ | refine s_call (p4) ?_ | refine s_call (p5) ?_ | refine s_call (p6) ?_ | refine s_call (p7) ?_ | refine s_call (p8) ?_ | refine s_call (p9) ?_ | refine s_call (p10) ?_ | refine s_call (p11) ?_ | refine s_call (p12) ?_ | refine s_call (add1) ?_ | refine s_call (add2) ?_ | refine s_call (add3) ?_ | refine s_call (add4) ?_ | refine s_call (awake08_c) ?_ | refine s_callH [] (hnew) ?_ | refine s_callH [1] (c1) ?_ | refine s_callH [1] (c2) ?_ | refine s_callH [1] (c3) ?_ | refine s_callH [1] (c4) ?_ | refine s_callH [1] (c5) ?_ | refine s_callH [1] (c6) ?_ | refine s_callH [1] (c7) ?_ | refine s_callH [1] (c8) ?_ | refine s_pick ?_ | refine s_bslice ?_ | refine s_extract ?_ | refine s_buildA ?_ | refine f_ret1 def_nil ?_ | refine t_tmp ?_)
  all_goals rfl
end Go.Proofs.YtiidgbfdghplhaaGreat
