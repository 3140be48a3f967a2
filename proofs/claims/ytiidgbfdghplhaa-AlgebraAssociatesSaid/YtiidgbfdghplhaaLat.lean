/-
  AlgebraAssociates: the law returns true.
-/
import Derived.Test.YtiidgbfdghplhaaLas
import Derived.Test.YtiidgbfdghplhaaAss
import Derived.Test.YtiidgbfdghplhaaTab
namespace Go.Proofs.Ytiidgbfdghplhaa
open Go.Abs Go.RowKit
attribute [local irreducible] ARun kont MCall PCall HCall resVal SF CF CFs defersOk slotsIn memIn fin finM VLe
set_option linter.unusedSimpArgs false
set_option maxRecDepth 100000
set_option maxHeartbeats 4000000

theorem newTape2_ok {l : List Int} (h : l.length ≤ 17592186044416) : (Tape.mk l 0).ok := ⟨h, by simp⟩
theorem next2_e (t : Tape) (n : Nat) (ht : t.ok) (h1 : 1 ≤ n) (h2 : n ≤ 1000000) : ∃ (v : Nat) (t' : Tape), t'.ok ∧ v < n ∧ HCall Try.prog 9 [.c (.bp 0 0 0), .c (.d (.lit (.int .i64 n)))] [(.box 0 [.d (numD (t).l), .d (.lit (.int .i64 (t).at_))])] (.c (.d (.lit (.int .i64 v)))) [(.box 0 [.d (numD (t').l), .d (.lit (.int .i64 (t').at_))])] := by
  have h := next_h t n ht (by omega) (by omega)
  obtain ⟨b1, b2⟩ := t.nx_bd n
  have e : t.nx n = ((t.nx n).toNat : Int) := by omega
  rw [e] at h
  exact ⟨_, _, ht.go n, by omega, h⟩

theorem lawAssoc_c (t : List Int) (ht : t.length ≤ 17592186044416) : PCall Try.prog 5 [.one (numD t)] (.v (.one (.lit (.bool true)))) := by
  have hnew := new_h t ht
  have hok := newTape2_ok ht
  obtain ⟨a, t1, ok1, -, -, -, ta, c1⟩ := bagT_h ⟨t, 0⟩ 2 4 true hok (by omega) (by omega)
  obtain ⟨b, t2, ok2, -, -, -, tb, c2⟩ := bagT_h t1 2 4 true ok1 (by omega) (by omega)
  obtain ⟨c, t3, ok3, -, -, -, tc, c3⟩ := bagT_h t2 2 4 true ok2 (by omega) (by omega)
  obtain ⟨i, t4, ok4, l1, n1⟩ := next2_e t3 2 ok3 (by omega) (by omega)
  obtain ⟨j, t5, ok5, l2, n2⟩ := next2_e t4 2 ok4 (by omega) (by omega)
  obtain ⟨m, t6, ok6, l3, n3⟩ := next2_e t5 2 ok5 (by omega) (by omega)
  obtain ⟨n, t7, ok7, l4, n4⟩ := next2_e t6 2 ok6 (by omega) (by omega)
  obtain ⟨j1, tx⟩ := joinT ta tb [((i : Int), (j : Int))] (by omega) (by omega) (by omega)
  obtain ⟨j2, -⟩ := joinT tx tc [((2 : Int) + (m : Int), (n : Int))] (by omega) (by omega) (by omega)
  obtain ⟨j3, tu⟩ := joinT tb tc [((m : Int), (n : Int))] (by omega) (by omega) (by omega)
  obtain ⟨j4, -⟩ := joinT ta tu [((i : Int), (j : Int))] (by omega) (by omega) (by omega)
  obtain ⟨j5, tp⟩ := joinT tb ta [((j : Int), (i : Int))] (by omega) (by omega) (by omega)
  obtain ⟨j6, -⟩ := projT tp [2, 3, 0, 1] (by simp) (by simp) (by omega)
  have has := assocE ta tb tc (i := i) (m := m) (n := n) l2
  rw [Int.natCast_add, show ((2 : Nat) : Int) = 2 from rfl] at has
  have hcm := commE ta tb (i : Int) (j : Int)
  rw [← has] at j4
  rw [hcm] at j6
  have k1 := algJoin_c a b [((i : Int), (j : Int))] (by simp)
  have k2 := algJoin_c (sortE (pairsE a b [((i : Int), (j : Int))])) c [((2 : Int) + (m : Int), (n : Int))] (by simp)
  have k3 := algJoin_c b c [((m : Int), (n : Int))] (by simp)
  have k4 := algJoin_c a (sortE (pairsE b c [((m : Int), (n : Int))])) [((i : Int), (j : Int))] (by simp)
  have k5 := algJoin_c b a [((j : Int), (i : Int))] (by simp)
  have k6 := project_c (sortE (pairsE b a [((j : Int), (i : Int))])) [2, 3, 0, 1]
  rw [j1] at k1
  rw [j2] at k2
  rw [j3] at k3
  rw [j4] at k4
  rw [j5] at k5
  rw [j6] at k6
  clear j1 j2 j3 j4 j5 j6 has hcm ta tb tc tx tu tp
  generalize sortE (pairsE (sortE (pairsE a b [((i : Int), (j : Int))])) c [((2 : Int) + (m : Int), (n : Int))]) = y at *
  generalize sortE (pairsE a b [((i : Int), (j : Int))]) = x at *
  generalize sortE (pairsE b c [((m : Int), (n : Int))]) = u at *
  generalize sortE (pairsE b a [((j : Int), (i : Int))]) = p at *
  dsimp only [bagR, bagI] at k1 k2 k3 k4 k5 k6
  have s1 := same06_c y y
  have s2 := same06_c x x
  rw [sameBag_refl] at s1 s2
  refine pcallN hT Try.func5 Try.ntmps5 [.tmp 2] fun B => ?_
  repeat' (first | (with_reducible (first | refine k_seq ?_ | refine k_skip ?_ | refine k_ret ?_ | refine n_seq ?_)) | refine s_reg ?_ | refine s_ifF ?_ | refine r_end ?_ | refine s_move ?_ | refine s_assign ?_ | refine s_int ?_ | refine s_call (k1) ?_ | refine s_call (k2) ?_ | refine s_call (k3) ?_ | refine s_call (k4) ?_ | refine s_call (k5) ?_ | refine s_call (k6) ?_ | refine s_call (s1) ?_ | refine s_call (s2) ?_ | refine s_call (awake08_c) ?_ | refine s_callH [] (hnew) ?_ | refine s_callH [1] (c1) ?_ | refine s_callH [1] (c2) ?_ | refine s_callH [1] (c3) ?_ | refine s_callH [1] (n1) ?_ | refine s_callH [1] (n2) ?_ | refine s_callH [1] (n3) ?_ | refine s_callH [1] (n4) ?_ | refine s_pick ?_ | refine s_bslice ?_ | refine s_extract ?_ | refine s_buildA ?_ | refine f_ret1 def_nil ?_ | refine t_tmp ?_)
  all_goals rfl
end Go.Proofs.Ytiidgbfdghplhaa
