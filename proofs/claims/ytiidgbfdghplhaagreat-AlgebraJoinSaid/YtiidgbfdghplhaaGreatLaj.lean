/-
  AlgebraJoin: the law returns true.
-/
import Derived.Test.YtiidgbfdghplhaaGreatAlj
import Derived.Test.YtiidgbfdghplhaaGreatPrk
import Derived.Test.YtiidgbfdghplhaaGreatMpe
import Derived.Test.YtiidgbfdghplhaaGreatSpb
import Derived.Test.YtiidgbfdghplhaaGreatSml
import Derived.Test.YtiidgbfdghplhaaGreatTab
section
namespace Go.Proofs.YtiidgbfdghplhaaGreat
open Go.Abs Go.RowKit
attribute [local irreducible] ARun kont MCall PCall HCall resVal SF CF CFs defersOk slotsIn memIn fin finM VLe
set_option linter.unusedSimpArgs false
set_option maxRecDepth 100000
set_option maxHeartbeats 4000000

def tx (n : UInt8) : Val := Val.ofText ⟨#[n]⟩
theorem tx_valid (n : UInt8) : (tx n).valid = true := clean_valid' _

theorem pair_c (n : Int) (s : ByteArray) (c : Int) : PCall Tryz.prog 32 [.one (.lit (.int .i64 n)), .one (.lit (.string s)), .one (.lit (.int .i64 c))] (.v (.agg (Entry.mk [Val.ofInt n, Val.ofText s] c).d)) := by
  have h1 := refInt_c n
  have h2 := refText_c s
  generalize Val.ofInt n = u at h1 ⊢
  generalize Val.ofText s = v at h2 ⊢
  refine pcallN hT Tryz.func32 Tryz.ntmps32 [.cell 6 59] fun B => ?_
  repeat' (first | (with_reducible (first | refine k_seq ?_ | refine k_ret ?_ | refine n_seq ?_)) | refine s_reg ?_ | refine r_end ?_ | refine s_move ?_ | refine s_call (h1) ?_ | refine s_call (h2) ?_ | refine s_storeB ?_ | refine s_bslice ?_ | refine s_alloc ?_ | refine s_build ?_ | refine f_ret1 def_nil ?_ | refine t_cellG ?_ | exact cfs_nil | refine cfs_cons ?_ ?_ | refine cf_d ?_)
  all_goals rfl

theorem joins_c (a b : List Entry) (on : List (Int × Int)) (hon : on.length ≤ 10000) : PCall Tryz.prog 12 [.one (bagD a), .one (bagD b), .one (onD on)] (.v (.one (.lit (.bool true)))) := by
  have h1 := algJoin_c a b on hon
  have h2 := refJoin_c a b on
  have h3 := same06_c (refJoinE a b on).1 (refJoinE a b on).1
  rw [sameBag_refl] at h3
  generalize refJoinE a b on = R at h1 h2 h3
  obtain ⟨r, e⟩ := R
  dsimp only [bagR] at h1 h2 h3
  refine pcallN hT Tryz.func12 Tryz.ntmps12 [.tmp 6] fun B => ?_
  repeat' (first | (with_reducible (first | refine k_seq ?_ | refine k_ret ?_ | refine n_seq ?_)) | refine s_reg ?_ | refine r_end ?_ | refine s_move ?_ | refine s_assign ?_ | refine s_int ?_ | refine s_call (h1) ?_ | refine s_call (h2) ?_ | refine s_call (h3) ?_ | refine s_pick ?_ | refine s_extract ?_ | refine s_kT ?_ | refine f_ret1 def_nil ?_ | refine t_tmp ?_)
  all_goals rfl

theorem awJoin : refJoinE [⟨[Val.ofInt 1, tx 97], 2⟩] [⟨[Val.ofInt 1, tx 98], 3⟩] [(0, 0)] = ([⟨[Val.ofInt 1, tx 97, Val.ofInt 1, tx 98], 6⟩], 0) := by
  have hi : (Val.ofInt 1).valid = true := clean_valid' _
  have n1 : ∀ (n : UInt8) (c : Int), -262144 ≤ c → c ≤ 262144 → c ≠ 0 → narrowE [⟨[Val.ofInt 1, tx n], c⟩] = true := fun n c h1 h2 h3 => by
    simp [narrowE, bagValid, goodFrom, Entry.ok, rowOK, hi, tx_valid, countOK, h1, h2, h3]
  unfold refJoinE
  rw [n1 97 2 (by omega) (by omega) (by omega), n1 98 3 (by omega) (by omega) (by omega), Bool.and_self, if_pos rfl]
  have hp : pairsE [⟨[Val.ofInt 1, tx 97], 2⟩] [⟨[Val.ofInt 1, tx 98], 3⟩] [(0, 0)] = [⟨[Val.ofInt 1, tx 97, Val.ofInt 1, tx 98], 6⟩] := by
    have hm : meetsE [Val.ofInt 1, tx 97] [Val.ofInt 1, tx 98] [(0, 0)] = true := by
      have hk : (Val.ofInt 1).kind ≠ 0 := by decide +kernel
      simp [meetsE, atE, hk, sameVal_refl]
    simp [pairsE, pairs1, hm, pairE]
  rw [hp, sumR, dif_pos (by simp)]
  simp [boundE]

theorem awProj : projE [⟨[Val.ofInt 1, tx 97], 1⟩, ⟨[Val.ofInt 2, tx 97], 1⟩] [1] = ([⟨[tx 97], 2⟩], 0) := by
  have hi : (Val.ofInt 1).valid = true := clean_valid' _
  have hj : (Val.ofInt 2).valid = true := clean_valid' _
  have hlt : rowCmp [Val.ofInt 1, tx 97] [Val.ofInt 2, tx 97] < 0 := by decide +kernel
  have hv : bagValid [⟨[Val.ofInt 1, tx 97], 1⟩, ⟨[Val.ofInt 2, tx 97], 1⟩] = true := by simp [bagValid, goodFrom, Entry.ok, rowOK, hi, hj, tx_valid, countOK, hlt]
  have ht : rowOK [tx 97] = true := by simp [rowOK, tx_valid]
  have hm : [(⟨[Val.ofInt 1, tx 97], 1⟩ : Entry), ⟨[Val.ofInt 2, tx 97], 1⟩].map (proj1 [1]) = [⟨[tx 97], 1⟩, ⟨[tx 97], 1⟩] := by simp [proj1, atE]
  unfold projE
  rw [hv, hm, if_pos (by simp)]
  have hall : ([⟨[tx 97], 1⟩, ⟨[tx 97], 1⟩] : List Entry).all entryIn = true := by simp [entryIn, ht, countOK]
  obtain ⟨q1, q2⟩ := sortE_says ([⟨[tx 97], 1⟩, ⟨[tx 97], 1⟩] : List Entry) (by simpa using rowOK_clean ht)
  have hs : sortE [⟨[tx 97], 1⟩, ⟨[tx 97], 1⟩] = [⟨[tx 97], 2⟩] := by
    refine q1.unique ⟨List.pairwise_singleton _ _, by simp, by simpa using rowOK_clean ht⟩ fun r => ?_
    rw [q2]
    simp only [sumK]
    split <;> omega
  rw [normE, if_pos hall, hs]; rfl

theorem awake08_c : PCall Tryz.prog 14 [] (.v (.one (.lit (.bool true)))) := by
  have p1 : PCall Tryz.prog 32 [.one (.lit (.int .i64 1)), .one (.lit (.string ⟨#[97]⟩)), .one (.lit (.int .i64 2))] (.v (.agg (Entry.mk [Val.ofInt 1, tx 97] 2).d)) := pair_c _ _ _
  have p2 : PCall Tryz.prog 32 [.one (.lit (.int .i64 1)), .one (.lit (.string ⟨#[98]⟩)), .one (.lit (.int .i64 3))] (.v (.agg (Entry.mk [Val.ofInt 1, tx 98] 3).d)) := pair_c _ _ _
  have p3 : PCall Tryz.prog 32 [.one (.lit (.int .i64 1)), .one (.lit (.string ⟨#[97]⟩)), .one (.lit (.int .i64 1))] (.v (.agg (Entry.mk [Val.ofInt 1, tx 97] 1).d)) := pair_c _ _ _
  have p4 : PCall Tryz.prog 32 [.one (.lit (.int .i64 2)), .one (.lit (.string ⟨#[97]⟩)), .one (.lit (.int .i64 1))] (.v (.agg (Entry.mk [Val.ofInt 2, tx 97] 1).d)) := pair_c _ _ _
  have c1 := algJoin_c [⟨[Val.ofInt 1, tx 97], 2⟩] [⟨[Val.ofInt 1, tx 98], 3⟩] [(0, 0)] (by simp)
  rw [awJoin] at c1
  have c2 := project_c [⟨[Val.ofInt 1, tx 97], 1⟩, ⟨[Val.ofInt 2, tx 97], 1⟩] [1]
  rw [awProj] at c2
  have s1 := same06_c [⟨[tx 97], 2⟩] [⟨[tx 97], 2⟩]
  rw [sameBag_refl] at s1
  have o1 : PCall Tryz.prog 33 [.one (.lit (.string ⟨#[97]⟩))] (.v (.agg (tx 97).d)) := refText_c _
  generalize tx 97 = u at *
  generalize tx 98 = v at *
  generalize Val.ofInt 1 = m at *
  generalize Val.ofInt 2 = n at *
  dsimp only [bagR, bagI] at c1 c2
  refine pcallN hT Tryz.func14 Tryz.ntmps14 [.tmp 0] fun B => ?_
  repeat' (first | (with_reducible (first | refine k_seq ?_ | refine k_ret ?_ | refine n_seq ?_)) | refine s_reg ?_ | refine r_end ?_ | refine s_move ?_ | refine s_assign ?_ | refine s_int ?_ | refine s_loadF1 ?_ | refine s_indexD ?_ (hel := (by first | exact rfl)) | refine s_fieldF ?_ | refine s_call (p1) ?_ | refine s_call (p2) ?_ | refine s_call (p3) ?_ | refine s_call (p4) ?_ | refine s_call (c1) ?_ | refine s_call (c2) ?_ | refine s_call (s1) ?_ | refine s_call (o1) ?_ | refine s_pick ?_ | refine s_lenD ?_ | refine s_bslice ?_ | refine s_extract ?_ | refine s_build ?_ | refine s_buildA ?_ | refine f_ret1 def_nil ?_ | refine t_tmp ?_)
  all_goals rfl
end Go.Proofs.YtiidgbfdghplhaaGreat
end
section
namespace Go.Proofs.YtiidgbfdghplhaaGreat
open Go.Abs Go.RowKit
attribute [local irreducible] ARun kont MCall PCall HCall resVal SF CF CFs defersOk slotsIn memIn fin finM VLe
set_option linter.unusedSimpArgs false
set_option maxRecDepth 100000
set_option maxHeartbeats 4000000

theorem newTape_ok {l : List Int} (h : l.length ≤ 17592186044416) : (Tape.mk l 0).ok := ⟨h, by simp⟩
theorem next_e (t : Tape) (n : Nat) (ht : t.ok) (h1 : 1 ≤ n) (h2 : n ≤ 1000000) : ∃ (v : Nat) (t' : Tape), t'.ok ∧ v < n ∧ HCall Tryz.prog 11 [.c (.bp 0 0 0), .c (.d (.lit (.int .i64 n)))] [(.box 0 [.d (numD (t).l), .d (.lit (.int .i64 (t).at_))])] (.c (.d (.lit (.int .i64 v)))) [(.box 0 [.d (numD (t').l), .d (.lit (.int .i64 (t').at_))])] := by
  have h := next_h t n ht (by omega) (by omega)
  obtain ⟨b1, b2⟩ := t.nx_bd n
  have e : t.nx n = ((t.nx n).toNat : Int) := by omega
  rw [e] at h
  exact ⟨_, _, ht.go n, by omega, h⟩

theorem lawJoin_c (t : List Int) (b : List Entry) (on : List (Int × Int)) (ht : t.length ≤ 17592186044416) : PCall Tryz.prog 3 [.one (numD t), .one (bagD b), .one (onD on)] (.v (.one (.lit (.bool true)))) := by
  have hnew := new_h t ht
  have hok := newTape_ok ht
  obtain ⟨x, t1, ok1, -, -, lx, c1⟩ := bag_h ⟨t, 0⟩ 3 8 true hok (by omega) (by omega)
  obtain ⟨y, t2, ok2, -, -, ly, c2⟩ := bag_h t1 2 8 true ok1 (by omega) (by omega)
  obtain ⟨v1, t3, ok3, l1, n1⟩ := next_e t2 3 ok2 (by omega) (by omega)
  obtain ⟨v2, t4, ok4, l2, n2⟩ := next_e t3 2 ok3 (by omega) (by omega)
  obtain ⟨v3, t5, ok5, l3, n3⟩ := next_e t4 5 ok4 (by omega) (by omega)
  obtain ⟨v4, t6, ok6, l4, n4⟩ := next_e t5 4 ok5 (by omega) (by omega)
  obtain ⟨v5, t7, ok7, l5, n5⟩ := next_e t6 3 ok6 (by omega) (by omega)
  obtain ⟨y', t8, ok8, -, c3⟩ := spoil_h t7 y ok7 (by omega)
  obtain ⟨x', t9, ok9, -, c4⟩ := spoil_h t8 x ok8 (by omega)
  have hl : onD ([((v1 : Int), (v2 : Int)), ((v3 : Int) - 1, (v4 : Int) - 1)].take v5) = .sl (([[.lit (.int .i64 v1), .lit (.int .i64 v2)], [.lit (.int .i64 ((v3 : Int) - 1)), .lit (.int .i64 ((v4 : Int) - 1))]] : List (List Dat)).take v5) := by
    rw [onD, List.map_take]; rfl
  have hlen : ([((v1 : Int), (v2 : Int)), ((v3 : Int) - 1, (v4 : Int) - 1)].take v5).length ≤ 10000 := by
    have := List.length_take_le v5 [((v1 : Int), (v2 : Int)), ((v3 : Int) - 1, (v4 : Int) - 1)]
    simp at this ⊢; omega
  have q1 := joins_c x y _ hlen
  have q2 := joins_c x y' _ hlen
  have q3 := joins_c x' y _ hlen
  have q4 := joins_c b y _ hlen
  have q5 := joins_c [] y _ hlen
  have q6 := joins_c x y [] (by simp)
  rw [hl] at q1 q2 q3 q4 q5
  clear hl hlen
  have sb := smallBag_c b
  cases hsb : smallE b with
  | true =>
    rw [hsb] at sb
    by_cases hcl : 12 < on.length
    · clear q4
      refine pcallN hT Tryz.func3 Tryz.ntmps3 [.tmp 6] fun B => ?_
      repeat' (first | (with_reducible (first | refine k_seq ?_ | refine k_block ?_ | refine k_skip ?_ | refine k_exit ?_ | refine k_ret ?_ | refine n_seq ?_ | refine n_block ?_ | refine e_seq ?_ | refine e_here ?_ | refine r_seq ?_ | refine r_block ?_ | refine o_exit ?_ | refine o_ret ?_)) | refine s_reg ?_ | refine s_ifT ?_ | refine s_ifF ?_ | refine s_if rfl (fun hb => ?_) (fun hb => ?_) | refine s_past ?_ | refine r_end ?_ | refine s_endD ?_ | refine s_skipS ?_ | refine s_skipU ?_ | refine s_skipN ?_ | refine s_skipUN ?_ | refine s_move ?_ | refine s_assign ?_ | refine s_int ?_ | refine s_str ?_ | refine s_eqB ?_ | refine s_neB ?_ | refine s_eqA ?_ | refine s_neA ?_ | refine s_shr ?_ | refine s_shl ?_ | refine s_or ?_ | refine s_xor ?_ | refine s_eqNil (fun b hnil => ?_) | refine s_call (sb) ?_ | refine s_call (q1) ?_ | refine s_call (q2) ?_ | refine s_call (q3) ?_ | refine s_call (q5) ?_ | refine s_call (q6) ?_ | refine s_call (awake08_c) ?_ | refine s_callH [] (hnew) ?_ | refine s_callH [1] (c1) ?_ | refine s_callH [1] (c2) ?_ | refine s_callH [1] (n1) ?_ | refine s_callH [1] (n2) ?_ | refine s_callH [1] (n3) ?_ | refine s_callH [1] (n4) ?_ | refine s_callH [1] (n5) ?_ | refine s_callH [1] (c3) ?_ | refine s_callH [1] (c4) ?_ | refine s_pick ?_ | refine s_pickB ?_ | refine s_lenD ?_ | refine s_lenE ?_ | refine s_lenS ?_ | refine s_lenA ?_ | refine s_appE ?_ | refine s_appA ?_ | refine s_min ?_ | refine s_max ?_ | refine s_bslice0 ?_ | refine s_bslice ?_ | refine s_not ?_ | refine s_neg ?_ | refine s_build ?_ | refine s_sliceD ?_ | refine s_sliceS ?_ | refine s_sliceE ?_ | refine s_sliceA ?_ | refine s_buildA ?_ | refine s_kT ?_ | refine s_kF ?_ | refine s_split rfl rfl (fun hb => ?_) (fun hb => ?_) | refine f_ret1 def_nil ?_ | refine f_ret2 def_nil ?_ ?_ | refine f_ret3 def_nil ?_ ?_ ?_ | refine f_end1 def_nil ?_ | refine t_tmp ?_ | refine t_tmpE ?_ | refine t_tmpA rfl rfl ?_ ?_ | refine d_tmpG rfl ?_ | refine t_cell (P := Tryz.prog) ?_ | refine t_cellG ?_ | exact cfs_nil | refine cfs_cons ?_ ?_ | refine cf_d ?_ | refine cf_emp ?_ | refine cf_arr rfl ?_ ?_)
      all_goals rfl
    · have q7 := joins_c x y on (by omega)
      clear q5 q6
      refine pcallN hT Tryz.func3 Tryz.ntmps3 [.tmp 6] fun B => ?_
      repeat' (first | (with_reducible (first | refine k_seq ?_ | refine k_block ?_ | refine k_skip ?_ | refine k_exit ?_ | refine k_ret ?_ | refine n_seq ?_ | refine n_block ?_ | refine e_seq ?_ | refine e_here ?_ | refine r_seq ?_ | refine r_block ?_ | refine o_exit ?_ | refine o_ret ?_)) | refine s_reg ?_ | refine s_ifT ?_ | refine s_ifF ?_ | refine s_if rfl (fun hb => ?_) (fun hb => ?_) | refine s_past ?_ | refine r_end ?_ | refine s_endD ?_ | refine s_skipS ?_ | refine s_skipU ?_ | refine s_skipN ?_ | refine s_skipUN ?_ | refine s_move ?_ | refine s_assign ?_ | refine s_int ?_ | refine s_str ?_ | refine s_eqB ?_ | refine s_neB ?_ | refine s_eqA ?_ | refine s_neA ?_ | refine s_shr ?_ | refine s_shl ?_ | refine s_or ?_ | refine s_xor ?_ | refine s_eqNil (fun b hnil => ?_) | refine s_call (sb) ?_ | refine s_call (q1) ?_ | refine s_call (q2) ?_ | refine s_call (q3) ?_ | refine s_call (q4) ?_ | refine s_call (q7) ?_ | refine s_call (awake08_c) ?_ | refine s_callH [] (hnew) ?_ | refine s_callH [1] (c1) ?_ | refine s_callH [1] (c2) ?_ | refine s_callH [1] (n1) ?_ | refine s_callH [1] (n2) ?_ | refine s_callH [1] (n3) ?_ | refine s_callH [1] (n4) ?_ | refine s_callH [1] (n5) ?_ | refine s_callH [1] (c3) ?_ | refine s_callH [1] (c4) ?_ | refine s_pick ?_ | refine s_pickB ?_ | refine s_lenD ?_ | refine s_lenE ?_ | refine s_lenS ?_ | refine s_lenA ?_ | refine s_appE ?_ | refine s_appA ?_ | refine s_min ?_ | refine s_max ?_ | refine s_bslice0 ?_ | refine s_bslice ?_ | refine s_not ?_ | refine s_neg ?_ | refine s_build ?_ | refine s_sliceD ?_ | refine s_sliceS ?_ | refine s_sliceE ?_ | refine s_sliceA ?_ | refine s_buildA ?_ | refine s_kT ?_ | refine s_kF ?_ | refine s_split rfl rfl (fun hb => ?_) (fun hb => ?_) | refine f_ret1 def_nil ?_ | refine f_ret2 def_nil ?_ ?_ | refine f_ret3 def_nil ?_ ?_ ?_ | refine f_end1 def_nil ?_ | refine t_tmp ?_ | refine t_tmpE ?_ | refine t_tmpA rfl rfl ?_ ?_ | refine d_tmpG rfl ?_ | refine t_cell (P := Tryz.prog) ?_ | refine t_cellG ?_ | exact cfs_nil | refine cfs_cons ?_ ?_ | refine cf_d ?_ | refine cf_emp ?_ | refine cf_arr rfl ?_ ?_)
      all_goals rfl
  | false =>
    rw [hsb] at sb
    clear q4
    refine pcallN hT Tryz.func3 Tryz.ntmps3 [.tmp 6] fun B => ?_
    repeat' (first | (with_reducible (first | refine k_seq ?_ | refine k_block ?_ | refine k_skip ?_ | refine k_exit ?_ | refine k_ret ?_ | refine n_seq ?_ | refine n_block ?_ | refine e_seq ?_ | refine e_here ?_ | refine r_seq ?_ | refine r_block ?_ | refine o_exit ?_ | refine o_ret ?_)) | refine s_reg ?_ | refine s_ifT ?_ | refine s_ifF ?_ | refine s_if rfl (fun hb => ?_) (fun hb => ?_) | refine s_past ?_ | refine r_end ?_ | refine s_endD ?_ | refine s_skipS ?_ | refine s_skipU ?_ | refine s_skipN ?_ | refine s_skipUN ?_ | refine s_move ?_ | refine s_assign ?_ | refine s_int ?_ | refine s_str ?_ | refine s_eqB ?_ | refine s_neB ?_ | refine s_eqA ?_ | refine s_neA ?_ | refine s_shr ?_ | refine s_shl ?_ | refine s_or ?_ | refine s_xor ?_ | refine s_eqNil (fun b hnil => ?_) | refine s_call (sb) ?_ | refine s_call (q1) ?_ | refine s_call (q2) ?_ | refine s_call (q3) ?_ | refine s_call (q5) ?_ | refine s_call (q6) ?_ | refine s_call (awake08_c) ?_ | refine s_callH [] (hnew) ?_ | refine s_callH [1] (c1) ?_ | refine s_callH [1] (c2) ?_ | refine s_callH [1] (n1) ?_ | refine s_callH [1] (n2) ?_ | refine s_callH [1] (n3) ?_ | refine s_callH [1] (n4) ?_ | refine s_callH [1] (n5) ?_ | refine s_callH [1] (c3) ?_ | refine s_callH [1] (c4) ?_ | refine s_pick ?_ | refine s_pickB ?_ | refine s_lenD ?_ | refine s_lenE ?_ | refine s_lenS ?_ | refine s_lenA ?_ | refine s_appE ?_ | refine s_appA ?_ | refine s_min ?_ | refine s_max ?_ | refine s_bslice0 ?_ | refine s_bslice ?_ | refine s_not ?_ | refine s_neg ?_ | refine s_build ?_ | refine s_sliceD ?_ | refine s_sliceS ?_ | refine s_sliceE ?_ | refine s_sliceA ?_ | refine s_buildA ?_ | refine s_kT ?_ | refine s_kF ?_ | refine s_split rfl rfl (fun hb => ?_) (fun hb => ?_) | refine f_ret1 def_nil ?_ | refine f_ret2 def_nil ?_ ?_ | refine f_ret3 def_nil ?_ ?_ ?_ | refine f_end1 def_nil ?_ | refine t_tmp ?_ | refine t_tmpE ?_ | refine t_tmpA rfl rfl ?_ ?_ | refine d_tmpG rfl ?_ | refine t_cell (P := Tryz.prog) ?_ | refine t_cellG ?_ | exact cfs_nil | refine cfs_cons ?_ ?_ | refine cf_d ?_ | refine cf_emp ?_ | refine cf_arr rfl ?_ ?_)
    all_goals rfl
end Go.Proofs.YtiidgbfdghplhaaGreat
end
