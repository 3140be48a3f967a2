/-
  AlgebraProject: the law returns true.
-/
import Derived.Test.YtiidgbfdghplhaaAlj
import Derived.Test.YtiidgbfdghplhaaPrk
import Derived.Test.YtiidgbfdghplhaaMpe
import Derived.Test.YtiidgbfdghplhaaSpb
import Derived.Test.YtiidgbfdghplhaaSml
import Derived.Test.YtiidgbfdghplhaaTab
section
namespace Go.Proofs.Ytiidgbfdghplhaa
open Go.Abs Go.RowKit
attribute [local irreducible] ARun kont MCall PCall HCall resVal SF CF CFs defersOk slotsIn memIn fin finM VLe
set_option linter.unusedSimpArgs false
set_option maxRecDepth 100000
set_option maxHeartbeats 4000000

def tx (n : UInt8) : Val := Val.ofText ⟨#[n]⟩
theorem tx_valid (n : UInt8) : (tx n).valid = true := clean_valid' _

theorem pair_c (n : Int) (s : ByteArray) (c : Int) : PCall Try.prog 22 [.one (.lit (.int .i64 n)), .one (.lit (.string s)), .one (.lit (.int .i64 c))] (.v (.agg (Entry.mk [Val.ofInt n, Val.ofText s] c).d)) := by
  have h1 := refInt_c n
  have h2 := refText_c s
  generalize Val.ofInt n = u at h1 ⊢
  generalize Val.ofText s = v at h2 ⊢
  refine pcallN hT Try.func22 Try.ntmps22 [.cell 6 38] fun B => ?_
  repeat' (first | (with_reducible (first | refine k_seq ?_ | refine k_ret ?_ | refine n_seq ?_)) | refine s_reg ?_ | refine r_end ?_ | refine s_move ?_ | refine s_call (h1) ?_ | refine s_call (h2) ?_ | refine s_storeB ?_ | refine s_bslice ?_ | refine s_alloc ?_ | refine s_build ?_ | refine f_ret1 def_nil ?_ | refine t_cellG ?_ | exact cfs_nil | refine cfs_cons ?_ ?_ | refine cf_d ?_)
  all_goals rfl

theorem joins_c (a b : List Entry) (on : List (Int × Int)) (hon : on.length ≤ 10000) : PCall Try.prog 14 [.one (bagD a), .one (bagD b), .one (onD on)] (.v (.one (.lit (.bool true)))) := by
  have h1 := algJoin_c a b on hon
  have h2 := refJoin_c a b on
  have h3 := same06_c (refJoinE a b on).1 (refJoinE a b on).1
  rw [sameBag_refl] at h3
  generalize refJoinE a b on = R at h1 h2 h3
  obtain ⟨r, e⟩ := R
  dsimp only [bagR] at h1 h2 h3
  refine pcallN hT Try.func14 Try.ntmps14 [.tmp 6] fun B => ?_
  repeat' (first | (with_reducible (first | refine k_seq ?_ | refine k_ret ?_ | refine n_seq ?_)) | refine s_reg ?_ | refine r_end ?_ | refine s_move ?_ | refine s_assign ?_ | refine s_int ?_ | refine s_call (h1) ?_ | refine s_call (h2) ?_ | refine s_call (h3) ?_ | refine s_pick ?_ | refine s_extract ?_ | refine s_kT ?_ | refine f_ret1 def_nil ?_ | refine t_tmp ?_)
  all_goals rfl

theorem projects_c (b : List Entry) (cols : List Int) : PCall Try.prog 10 [.one (bagD b), .one (intsD cols)] (.v (.one (.lit (.bool true)))) := by
  have h1 := project_c b cols
  have h2 := refProject_c b cols
  have h3 := same06_c (projE b cols).1 (projE b cols).1
  rw [sameBag_refl] at h3
  generalize projE b cols = R at h1 h2 h3
  obtain ⟨r, e⟩ := R
  dsimp only [bagI] at h1 h2 h3
  refine pcallN hT Try.func10 Try.ntmps10 [.tmp 4] fun B => ?_
  repeat' (first | (with_reducible (first | refine k_seq ?_ | refine k_ret ?_ | refine n_seq ?_)) | refine s_reg ?_ | refine r_end ?_ | refine s_move ?_ | refine s_assign ?_ | refine s_int ?_ | refine s_call (h1) ?_ | refine s_call (h2) ?_ | refine s_call (h3) ?_ | refine s_pick ?_ | refine s_extract ?_ | refine s_kT ?_ | refine f_ret1 def_nil ?_ | refine t_tmp ?_)
  all_goals rfl

theorem awJoin : refJoinE [⟨[Val.ofInt 1, tx 97], 2⟩] [⟨[Val.ofInt 1, tx 98], 3⟩] [(0, 0)] = ([⟨[Val.ofInt 1, tx 97, Val.ofInt 1, tx 98], 6⟩], 0) := by
  have hi : (Val.ofInt 1).valid = true := clean_valid' _
  have n1 : ∀ (n : UInt8) (c : Int), -262144 ≤ c → c ≤ 262144 → c ≠ 0 → narrowE [⟨[Val.ofInt 1, tx n], c⟩] = true := fun n c h1 h2 h3 => by
    simp [narrowE, bagValid, goodFrom, Entry.ok, rowOK, hi, tx_valid, countOK, h1, h2, h3]
  unfold refJoinE
  rw [n1 97 2 (by omega) (by omega) (by omega), n1 98 3 (by omega) (by omega) (by omega), Bool.and_self, if_pos rfl]
  have hp : pairsE [⟨[Val.ofInt 1, tx 97], 2⟩] [⟨[Val.ofInt 1, tx 98], 3⟩] [(0, 0)] = [⟨[Val.ofInt 1, tx 97, Val.ofInt 1, tx 98], 6⟩] := by
    have hm : meetsE [Val.ofInt 1, tx 97] [Val.ofInt 1, tx 98] [(0, 0)] = true := by
      have hk : (Val.ofInt 1).kind ≠ 0 := by decide +kernel
      simp [meetsE, atE, hk, sameVal_refl]
    simp [pairsE, pairs1, hm, pairE]
  rw [hp, sumR, dif_pos (by simp)]
  simp [boundE]

theorem awProj : projE [⟨[Val.ofInt 1, tx 97], 1⟩, ⟨[Val.ofInt 2, tx 97], 1⟩] [1] = ([⟨[tx 97], 2⟩], 0) := by
  have hi : (Val.ofInt 1).valid = true := clean_valid' _
  have hj : (Val.ofInt 2).valid = true := clean_valid' _
  have hlt : rowCmp [Val.ofInt 1, tx 97] [Val.ofInt 2, tx 97] < 0 := by decide +kernel
  have hv : bagValid [⟨[Val.ofInt 1, tx 97], 1⟩, ⟨[Val.ofInt 2, tx 97], 1⟩] = true := by simp [bagValid, goodFrom, Entry.ok, rowOK, hi, hj, tx_valid, countOK, hlt]
  have ht : rowOK [tx 97] = true := by simp [rowOK, tx_valid]
  have hm : [(⟨[Val.ofInt 1, tx 97], 1⟩ : Entry), ⟨[Val.ofInt 2, tx 97], 1⟩].map (proj1 [1]) = [⟨[tx 97], 1⟩, ⟨[tx 97], 1⟩] := by simp [proj1, atE]
  unfold projE
  rw [hv, hm, if_pos (by simp)]
  have hall : ([⟨[tx 97], 1⟩, ⟨[tx 97], 1⟩] : List Entry).all entryIn = true := by simp [entryIn, ht, countOK]
  obtain ⟨q1, q2⟩ := sortE_says ([⟨[tx 97], 1⟩, ⟨[tx 97], 1⟩] : List Entry) (by simpa using rowOK_clean ht)
  have hs : sortE [⟨[tx 97], 1⟩, ⟨[tx 97], 1⟩] = [⟨[tx 97], 2⟩] := by
    refine q1.unique ⟨List.pairwise_singleton _ _, by simp, by simpa using rowOK_clean ht⟩ fun r => ?_
    rw [q2]
    simp only [sumK]
    split <;> omega
  rw [normE, if_pos hall, hs]; rfl

theorem awake08_c : PCall Try.prog 12 [] (.v (.one (.lit (.bool true)))) := by
  have p1 : PCall Try.prog 22 [.one (.lit (.int .i64 1)), .one (.lit (.string ⟨#[97]⟩)), .one (.lit (.int .i64 2))] (.v (.agg (Entry.mk [Val.ofInt 1, tx 97] 2).d)) := pair_c _ _ _
  have p2 : PCall Try.prog 22 [.one (.lit (.int .i64 1)), .one (.lit (.string ⟨#[98]⟩)), .one (.lit (.int .i64 3))] (.v (.agg (Entry.mk [Val.ofInt 1, tx 98] 3).d)) := pair_c _ _ _
  have p3 : PCall Try.prog 22 [.one (.lit (.int .i64 1)), .one (.lit (.string ⟨#[97]⟩)), .one (.lit (.int .i64 1))] (.v (.agg (Entry.mk [Val.ofInt 1, tx 97] 1).d)) := pair_c _ _ _
  have p4 : PCall Try.prog 22 [.one (.lit (.int .i64 2)), .one (.lit (.string ⟨#[97]⟩)), .one (.lit (.int .i64 1))] (.v (.agg (Entry.mk [Val.ofInt 2, tx 97] 1).d)) := pair_c _ _ _
  have c1 := algJoin_c [⟨[Val.ofInt 1, tx 97], 2⟩] [⟨[Val.ofInt 1, tx 98], 3⟩] [(0, 0)] (by simp)
  rw [awJoin] at c1
  have c2 := project_c [⟨[Val.ofInt 1, tx 97], 1⟩, ⟨[Val.ofInt 2, tx 97], 1⟩] [1]
  rw [awProj] at c2
  have s1 := same06_c [⟨[tx 97], 2⟩] [⟨[tx 97], 2⟩]
  rw [sameBag_refl] at s1
  have o1 : PCall Try.prog 23 [.one (.lit (.string ⟨#[97]⟩))] (.v (.agg (tx 97).d)) := refText_c _
  generalize tx 97 = u at *
  generalize tx 98 = v at *
  generalize Val.ofInt 1 = m at *
  generalize Val.ofInt 2 = n at *
  dsimp only [bagR, bagI] at c1 c2
  refine pcallN hT Try.func12 Try.ntmps12 [.tmp 0] fun B => ?_
  repeat' (first | (with_reducible (first | refine k_seq ?_ | refine k_ret ?_ | refine n_seq ?_)) | refine s_reg ?_ | refine r_end ?_ | refine s_move ?_ | refine s_assign ?_ | refine s_int ?_ | refine s_loadF1 ?_ | refine s_indexD ?_ (hel := (by first | exact rfl)) | refine s_fieldF ?_ | refine s_call (p1) ?_ | refine s_call (p2) ?_ | refine s_call (p3) ?_ | refine s_call (p4) ?_ | refine s_call (c1) ?_ | refine s_call (c2) ?_ | refine s_call (s1) ?_ | refine s_call (o1) ?_ | refine s_pick ?_ | refine s_lenD ?_ | refine s_bslice ?_ | refine s_extract ?_ | refine s_build ?_ | refine s_buildA ?_ | refine f_ret1 def_nil ?_ | refine t_tmp ?_)
  all_goals rfl
end Go.Proofs.Ytiidgbfdghplhaa
end
section
namespace Go.Proofs.Ytiidgbfdghplhaa
open Go.Abs Go.RowKit
attribute [local irreducible] ARun kont MCall PCall HCall resVal SF CF CFs defersOk slotsIn memIn fin finM VLe
set_option linter.unusedSimpArgs false
set_option maxRecDepth 100000
set_option maxHeartbeats 4000000

theorem newTape_ok {l : List Int} (h : l.length ≤ 17592186044416) : (Tape.mk l 0).ok := ⟨h, by simp⟩
theorem next_e (t : Tape) (n : Nat) (ht : t.ok) (h1 : 1 ≤ n) (h2 : n ≤ 1000000) : ∃ (v : Nat) (t' : Tape), t'.ok ∧ v < n ∧ HCall Try.prog 9 [.c (.bp 0 0 0), .c (.d (.lit (.int .i64 n)))] [(.box 0 [.d (numD (t).l), .d (.lit (.int .i64 (t).at_))])] (.c (.d (.lit (.int .i64 v)))) [(.box 0 [.d (numD (t').l), .d (.lit (.int .i64 (t').at_))])] := by
  have h := next_h t n ht (by omega) (by omega)
  obtain ⟨b1, b2⟩ := t.nx_bd n
  have e : t.nx n = ((t.nx n).toNat : Int) := by omega
  rw [e] at h
  exact ⟨_, _, ht.go n, by omega, h⟩

theorem lawProject_c (t : List Int) (b : List Entry) (cols : List Int) (ht : t.length ≤ 17592186044416) : PCall Try.prog 3 [.one (numD t), .one (bagD b), .one (intsD cols)] (.v (.one (.lit (.bool true)))) := by
  have hnew := new_h t ht
  have hok := newTape_ok ht
  obtain ⟨x, t1, ok1, vx, -, lx, c1⟩ := bag_h ⟨t, 0⟩ 3 8 true hok (by omega) (by omega)
  obtain ⟨v1, t2, ok2, l1, n1⟩ := next_e t1 3 ok1 (by omega) (by omega)
  obtain ⟨v2, t3, ok3, l2, n2⟩ := next_e t2 5 ok2 (by omega) (by omega)
  obtain ⟨v3, t4, ok4, l3, n3⟩ := next_e t3 3 ok3 (by omega) (by omega)
  obtain ⟨v4, t5, ok5, l4, n4⟩ := next_e t4 4 ok4 (by omega) (by omega)
  obtain ⟨x', t6, ok6, -, c2⟩ := spoil_h t5 x ok5 (by omega)
  have hl : intsD ([(v1 : Int), (v2 : Int) - 1, (v3 : Int)].take v4) = .sl (([[.lit (.int .i64 v1)], [.lit (.int .i64 ((v2 : Int) - 1))], [.lit (.int .i64 v3)]] : List (List Dat)).take v4) := by
    rw [intsD, List.map_take]; rfl
  have q1 := projects_c x ([(v1 : Int), (v2 : Int) - 1, (v3 : Int)].take v4)
  have q2 := projects_c x' ([(v1 : Int), (v2 : Int) - 1, (v3 : Int)].take v4)
  have q3 := projects_c x cols
  have q4 := projects_c b ([(v1 : Int), (v2 : Int) - 1, (v3 : Int)].take v4)
  have q5 := projects_c [] ([(v1 : Int), (v2 : Int) - 1, (v3 : Int)].take v4)
  have q6 := projects_c x []
  rw [hl] at q1 q2 q4 q5
  have sb := smallBag_c b
  cases hsb : smallE b with
  | true =>
    rw [hsb] at sb
    by_cases hcl : 12 < cols.length
    · clear q3 q4
      refine pcallN hT Try.func3 Try.ntmps3 [.tmp 6] fun B => ?_
      repeat' (first | (with_reducible (first | refine k_seq ?_ | refine k_skip ?_ | refine k_ret ?_ | refine n_seq ?_)) | refine s_reg ?_ | refine s_ifT ?_ | refine s_ifF ?_ | refine r_end ?_ | refine s_skipS ?_ | refine s_move ?_ | refine s_assign ?_ | refine s_int ?_ | refine s_call (sb) ?_ | refine s_call (q1) ?_ | refine s_call (q2) ?_ | refine s_call (q5) ?_ | refine s_call (q6) ?_ | refine s_call (awake08_c) ?_ | refine s_callH [] (hnew) ?_ | refine s_callH [1] (c1) ?_ | refine s_callH [1] (n1) ?_ | refine s_callH [1] (n2) ?_ | refine s_callH [1] (n3) ?_ | refine s_callH [1] (n4) ?_ | refine s_callH [1] (c2) ?_ | refine s_pick ?_ | refine s_lenD ?_ | refine s_bslice ?_ | refine s_not ?_ | refine s_sliceD ?_ | refine f_ret1 def_nil ?_ | refine t_tmp ?_)
      all_goals rfl
    · clear q5 q6
      refine pcallN hT Try.func3 Try.ntmps3 [.tmp 6] fun B => ?_
      repeat' (first | (with_reducible (first | refine k_seq ?_ | refine k_skip ?_ | refine k_ret ?_ | refine n_seq ?_)) | refine s_reg ?_ | refine s_ifT ?_ | refine s_ifF ?_ | refine r_end ?_ | refine s_skipS ?_ | refine s_move ?_ | refine s_assign ?_ | refine s_int ?_ | refine s_call (sb) ?_ | refine s_call (q1) ?_ | refine s_call (q2) ?_ | refine s_call (q3) ?_ | refine s_call (q4) ?_ | refine s_call (awake08_c) ?_ | refine s_callH [] (hnew) ?_ | refine s_callH [1] (c1) ?_ | refine s_callH [1] (n1) ?_ | refine s_callH [1] (n2) ?_ | refine s_callH [1] (n3) ?_ | refine s_callH [1] (n4) ?_ | refine s_callH [1] (c2) ?_ | refine s_pick ?_ | refine s_lenD ?_ | refine s_bslice ?_ | refine s_not ?_ | refine s_sliceD ?_ | refine f_ret1 def_nil ?_ | refine t_tmp ?_)
      all_goals rfl
  | false =>
    rw [hsb] at sb
    clear q3 q4
    refine pcallN hT Try.func3 Try.ntmps3 [.tmp 6] fun B => ?_
    repeat' (first | (with_reducible (first | refine k_seq ?_ | refine k_skip ?_ | refine k_ret ?_ | refine n_seq ?_)) | refine s_reg ?_ | refine s_ifT ?_ | refine s_ifF ?_ | refine r_end ?_ | refine s_skipS ?_ | refine s_move ?_ | refine s_assign ?_ | refine s_int ?_ | refine s_call (sb) ?_ | refine s_call (q1) ?_ | refine s_call (q2) ?_ | refine s_call (q5) ?_ | refine s_call (q6) ?_ | refine s_call (awake08_c) ?_ | refine s_callH [] (hnew) ?_ | refine s_callH [1] (c1) ?_ | refine s_callH [1] (n1) ?_ | refine s_callH [1] (n2) ?_ | refine s_callH [1] (n3) ?_ | refine s_callH [1] (n4) ?_ | refine s_callH [1] (c2) ?_ | refine s_pick ?_ | refine s_lenD ?_ | refine s_bslice ?_ | refine s_not ?_ | refine s_sliceD ?_ | refine f_ret1 def_nil ?_ | refine t_tmp ?_)
    all_goals rfl
end Go.Proofs.Ytiidgbfdghplhaa
end
