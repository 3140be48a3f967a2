/-
  Laws of layer 8: the sanity check, Join and Project against the document's.
-/
import Derived.Test.YtiidgbfdghplhaaGreatCfn
import Derived.Test.YtiidgbfdghplhaaGreatJor
import Derived.Test.YtiidgbfdghplhaaGreatJoj
import Derived.Test.YtiidgbfdghplhaaGreatBag
import Derived.Test.YtiidgbfdghplhaaGreatPrk
import Derived.Test.YtiidgbfdghplhaaGreatMpe
section
namespace Go.Proofs.YtiidgbfdghplhaaGreat
open Go.Abs Go.RowKit
attribute [local irreducible] ARun kont MCall PCall HCall resVal SF CF CFs defersOk slotsIn memIn fin finM VLe
set_option linter.unusedSimpArgs false
set_option maxRecDepth 100000
set_option maxHeartbeats 4000000

theorem joinable1_c (e : Entry) : PCall Tryz.prog 90 [.agg e.d] (.v (.one (.lit (.bool (decide (8 < (e.row.length : Int))))))) := by
  refine pcallN hT Tryz.func90 Tryz.ntmps90 [.tmp 2] fun B => ?_
  repeat' (first | (with_reducible (first | refine k_seq ?_ | refine k_ret ?_ | refine n_seq ?_)) | refine s_reg ?_ | refine r_end ?_ | refine s_assign ?_ | refine s_int ?_ | refine s_loadB1 ?_ | refine s_fieldB ?_ | refine s_lenD ?_ | refine s_box ?_ | refine f_ret1 def_nil ?_ | refine t_tmp ?_)
  all_goals rfl

theorem joinable_c (b : List Entry) : PCall Tryz.prog 50 [.one (bagD b)] (.v (.one (.lit (.bool (narrowE b))))) := by
  have hc := containsE_c 90 _ joinable1_c b
  have hv := bagValid_c b
  have hn : narrowE b = (bagValid b && !(b.any fun e => decide (8 < (e.row.length : Int)))) := by
    unfold narrowE
    rw [Bool.and_comm]
    congr 1
    rw [List.not_any_eq_all_not]
    congr 1
    funext e
    rw [Bool.eq_iff_iff]
    simp
    omega
  rw [hn]
  cases h : bagValid b <;> rw [h] at hv
  · refine pcallN hT Tryz.func50 Tryz.ntmps50 [.tmp 2] fun B => ?_
    repeat' (first | (with_reducible (first | refine k_seq ?_ | refine k_ret ?_ | refine n_seq ?_)) | refine s_reg ?_ | refine r_end ?_ | refine s_skipS ?_ | refine s_move ?_ | refine s_assign ?_ | refine s_call (hv) ?_ | refine s_call (hc) ?_ | refine s_pick ?_ | refine s_not ?_ | refine f_ret1 def_nil ?_ | refine t_tmp ?_)
    all_goals rfl
  · refine pcallN hT Tryz.func50 Tryz.ntmps50 [.tmp 2] fun B => ?_
    repeat' (first | (with_reducible (first | refine k_seq ?_ | refine k_ret ?_ | refine n_seq ?_)) | refine s_reg ?_ | refine r_end ?_ | refine s_skipS ?_ | refine s_move ?_ | refine s_assign ?_ | refine s_call (hv) ?_ | refine s_call (hc) ?_ | refine s_pick ?_ | refine s_not ?_ | refine f_ret1 def_nil ?_ | refine t_tmp ?_)
    all_goals rfl

theorem algJoin1_d : DeferOk Tryz.prog 49 0 := by
  refine ⟨⟨_, Tryz.func49, by kernel_rfl, by kernel_rfl⟩, fun vs w hl => ?_⟩
  match vs, hl with
  | [], _ =>
    refine callsD_of_wpS Tryz.func49 rfl fun c₀ cs hu => ?_
    apply wpS_region
    simp [wpOpsS, go_sem, recoverD, hu, Tryz.ntmps49, Exit.thenS]
    cases c₀
    simp_all [bodyPostS, results, Tryz.results49]

theorem algJoin_c (a b : List Entry) (on : List (Int × Int)) (hon : on.length ≤ 10000) : PCall Tryz.prog 24 [.one (bagD a), .one (bagD b), .one (onD on)] (bagR (refJoinE a b on)) := by
  have hna := joinable_c a
  have hnb := joinable_c b
  unfold refJoinE
  cases na : narrowE a
  · rw [na] at hna
    refine pcallN hT Tryz.func24 Tryz.ntmps24 [.tmp 6, .tmp 7] fun B => ?_
    repeat' (first | (with_reducible (first | refine k_seq ?_ | refine k_skip ?_ | refine k_ret ?_ | refine n_seq ?_ | refine r_seq ?_)) | refine s_reg ?_ | refine s_ifT ?_ | refine s_ifF ?_ | refine r_end ?_ | refine s_skipS ?_ | refine s_move ?_ | refine s_assign ?_ | refine s_call (hna) ?_ | refine s_pick ?_ | refine s_extract ?_ | refine s_not ?_ | refine s_defer ?_ | refine f_ret2 (by repeat (first | exact def_nil | refine def_cons algJoin1_d ?_)) ?_ ?_ | refine t_tmp ?_ | refine t_tmpE ?_)
    all_goals rfl
  cases nb : narrowE b
  · rw [na] at hna
    rw [nb] at hnb
    refine pcallN hT Tryz.func24 Tryz.ntmps24 [.tmp 6, .tmp 7] fun B => ?_
    repeat' (first | (with_reducible (first | refine k_seq ?_ | refine k_skip ?_ | refine k_ret ?_ | refine n_seq ?_ | refine r_seq ?_)) | refine s_reg ?_ | refine s_ifT ?_ | refine s_ifF ?_ | refine r_end ?_ | refine s_skipS ?_ | refine s_move ?_ | refine s_assign ?_ | refine s_call (hna) ?_ | refine s_call (hnb) ?_ | refine s_pick ?_ | refine s_extract ?_ | refine s_not ?_ | refine s_defer ?_ | refine f_ret2 (by repeat (first | exact def_nil | refine def_cons algJoin1_d ?_)) ?_ ?_ | refine t_tmp ?_ | refine t_tmpE ?_)
    all_goals rfl
  rw [na] at hna
  rw [nb] at hnb
  rw [Bool.and_self, if_pos rfl]
  obtain ⟨al, am⟩ := narrow_mem na
  obtain ⟨bl, bm⟩ := narrow_mem nb
  have hs := join_says on na nb
  have hj := join_c a b on al bl hon (fun e he => ⟨(am e he).1, (am e he).2.1⟩) (fun e he => ⟨(bm e he).1, (bm e he).2.1⟩) ((boundE (sumR (pairsE a b on))).1, ((boundE (sumR (pairsE a b on))).2 : Int)) (by
    cases hf : finJ a b on with
    | none => rw [hf] at hs; simp only at hs ⊢; rw [hs]; rfl
    | some r =>
      rw [hf] at hs
      obtain ⟨rs, h1, h2, h3⟩ := hs
      refine ⟨rs, h1, h2, ?_⟩
      rw [h3]
      split <;> rfl)
  simp only at hj
  generalize boundE (sumR (pairsE a b on)) = R at hj ⊢
  refine pcallN hT Tryz.func24 Tryz.ntmps24 [.tmp 6, .tmp 7] fun B => ?_
  repeat' (first | (with_reducible (first | refine k_seq ?_ | refine k_skip ?_ | refine k_ret ?_ | refine n_seq ?_ | refine r_seq ?_)) | refine s_reg ?_ | refine s_ifT ?_ | refine s_ifF ?_ | refine r_end ?_ | refine s_skipS ?_ | refine s_move ?_ | refine s_assign ?_ | refine s_call (hna) ?_ | refine s_call (hnb) ?_ | refine s_call (hj) ?_ | refine s_pick ?_ | refine s_extract ?_ | refine s_not ?_ | refine s_defer ?_ | refine f_ret2 (by repeat (first | exact def_nil | refine def_cons algJoin1_d ?_)) ?_ ?_ | refine t_tmp ?_ | refine t_tmpE ?_)
  all_goals rfl
end Go.Proofs.YtiidgbfdghplhaaGreat
end
section
namespace Go.Proofs.YtiidgbfdghplhaaGreat
open Go.Abs Go.RowKit
attribute [local irreducible] ARun kont MCall PCall HCall resVal SF CF CFs defersOk slotsIn memIn fin finM VLe
set_option linter.unusedSimpArgs false
set_option maxRecDepth 100000
set_option maxHeartbeats 4000000

def tx (n : UInt8) : Val := Val.ofText ⟨#[n]⟩
theorem tx_valid (n : UInt8) : (tx n).valid = true := clean_valid' _

theorem pair_c (n : Int) (s : ByteArray) (c : Int) : PCall Tryz.prog 32 [.one (.lit (.int .i64 n)), .one (.lit (.string s)), .one (.lit (.int .i64 c))] (.v (.agg (Entry.mk [Val.ofInt n, Val.ofText s] c).d)) := by
  have h1 := refInt_c n
  have h2 := refText_c s
  generalize Val.ofInt n = u at h1 ⊢
  generalize Val.ofText s = v at h2 ⊢
  refine pcallN hT Tryz.func32 Tryz.ntmps32 [.cell 6 59] fun B => ?_
  repeat' (first | (with_reducible (first | refine k_seq ?_ | refine k_ret ?_ | refine n_seq ?_)) | refine s_reg ?_ | refine r_end ?_ | refine s_move ?_ | refine s_call (h1) ?_ | refine s_call (h2) ?_ | refine s_storeB ?_ | refine s_bslice ?_ | refine s_alloc ?_ | refine s_build ?_ | refine f_ret1 def_nil ?_ | refine t_cellG ?_ | exact cfs_nil | refine cfs_cons ?_ ?_ | refine cf_d ?_)
  all_goals rfl

theorem awJoin : refJoinE [⟨[Val.ofInt 1, tx 97], 2⟩] [⟨[Val.ofInt 1, tx 98], 3⟩] [(0, 0)] = ([⟨[Val.ofInt 1, tx 97, Val.ofInt 1, tx 98], 6⟩], 0) := by
  have hi : (Val.ofInt 1).valid = true := clean_valid' _
  have n1 : ∀ (n : UInt8) (c : Int), -262144 ≤ c → c ≤ 262144 → c ≠ 0 → narrowE [⟨[Val.ofInt 1, tx n], c⟩] = true := fun n c h1 h2 h3 => by
    simp [narrowE, bagValid, goodFrom, Entry.ok, rowOK, hi, tx_valid, countOK, h1, h2, h3]
  unfold refJoinE
  rw [n1 97 2 (by omega) (by omega) (by omega), n1 98 3 (by omega) (by omega) (by omega), Bool.and_self, if_pos rfl]
  have hp : pairsE [⟨[Val.ofInt 1, tx 97], 2⟩] [⟨[Val.ofInt 1, tx 98], 3⟩] [(0, 0)] = [⟨[Val.ofInt 1, tx 97, Val.ofInt 1, tx 98], 6⟩] := by
    have hm : meetsE [Val.ofInt 1, tx 97] [Val.ofInt 1, tx 98] [(0, 0)] = true := by
      have hk : (Val.ofInt 1).kind ≠ 0 := by decide +kernel
      simp [meetsE, atE, hk, sameVal_refl]
    simp [pairsE, pairs1, hm, pairE]
  rw [hp, sumR, dif_pos (by simp)]
  simp [boundE]

theorem awProj : projE [⟨[Val.ofInt 1, tx 97], 1⟩, ⟨[Val.ofInt 2, tx 97], 1⟩] [1] = ([⟨[tx 97], 2⟩], 0) := by
  have hi : (Val.ofInt 1).valid = true := clean_valid' _
  have hj : (Val.ofInt 2).valid = true := clean_valid' _
  have hlt : rowCmp [Val.ofInt 1, tx 97] [Val.ofInt 2, tx 97] < 0 := by decide +kernel
  have hv : bagValid [⟨[Val.ofInt 1, tx 97], 1⟩, ⟨[Val.ofInt 2, tx 97], 1⟩] = true := by simp [bagValid, goodFrom, Entry.ok, rowOK, hi, hj, tx_valid, countOK, hlt]
  have ht : rowOK [tx 97] = true := by simp [rowOK, tx_valid]
  have hm : [(⟨[Val.ofInt 1, tx 97], 1⟩ : Entry), ⟨[Val.ofInt 2, tx 97], 1⟩].map (proj1 [1]) = [⟨[tx 97], 1⟩, ⟨[tx 97], 1⟩] := by simp [proj1, atE]
  unfold projE
  rw [hv, hm, if_pos (by simp)]
  have hall : ([⟨[tx 97], 1⟩, ⟨[tx 97], 1⟩] : List Entry).all entryIn = true := by simp [entryIn, ht, countOK]
  obtain ⟨q1, q2⟩ := sortE_says ([⟨[tx 97], 1⟩, ⟨[tx 97], 1⟩] : List Entry) (by simpa using rowOK_clean ht)
  have hs : sortE [⟨[tx 97], 1⟩, ⟨[tx 97], 1⟩] = [⟨[tx 97], 2⟩] := by
    refine q1.unique ⟨List.pairwise_singleton _ _, by simp, by simpa using rowOK_clean ht⟩ fun r => ?_
    rw [q2]
    simp only [sumK]
    split <;> omega
  rw [normE, if_pos hall, hs]; rfl

theorem awake08_c : PCall Tryz.prog 14 [] (.v (.one (.lit (.bool true)))) := by
  have p1 : PCall Tryz.prog 32 [.one (.lit (.int .i64 1)), .one (.lit (.string ⟨#[97]⟩)), .one (.lit (.int .i64 2))] (.v (.agg (Entry.mk [Val.ofInt 1, tx 97] 2).d)) := pair_c _ _ _
  have p2 : PCall Tryz.prog 32 [.one (.lit (.int .i64 1)), .one (.lit (.string ⟨#[98]⟩)), .one (.lit (.int .i64 3))] (.v (.agg (Entry.mk [Val.ofInt 1, tx 98] 3).d)) := pair_c _ _ _
  have p3 : PCall Tryz.prog 32 [.one (.lit (.int .i64 1)), .one (.lit (.string ⟨#[97]⟩)), .one (.lit (.int .i64 1))] (.v (.agg (Entry.mk [Val.ofInt 1, tx 97] 1).d)) := pair_c _ _ _
  have p4 : PCall Tryz.prog 32 [.one (.lit (.int .i64 2)), .one (.lit (.string ⟨#[97]⟩)), .one (.lit (.int .i64 1))] (.v (.agg (Entry.mk [Val.ofInt 2, tx 97] 1).d)) := pair_c _ _ _
  have c1 := algJoin_c [⟨[Val.ofInt 1, tx 97], 2⟩] [⟨[Val.ofInt 1, tx 98], 3⟩] [(0, 0)] (by simp)
  rw [awJoin] at c1
  have c2 := project_c [⟨[Val.ofInt 1, tx 97], 1⟩, ⟨[Val.ofInt 2, tx 97], 1⟩] [1]
  rw [awProj] at c2
  have s1 := same06_c [⟨[tx 97], 2⟩] [⟨[tx 97], 2⟩]
  rw [sameBag_refl] at s1
  have o1 : PCall Tryz.prog 33 [.one (.lit (.string ⟨#[97]⟩))] (.v (.agg (tx 97).d)) := refText_c _
  generalize tx 97 = u at *
  generalize tx 98 = v at *
  generalize Val.ofInt 1 = m at *
  generalize Val.ofInt 2 = n at *
  dsimp only [bagR, bagI] at c1 c2
  refine pcallN hT Tryz.func14 Tryz.ntmps14 [.tmp 0] fun B => ?_
  repeat' (first | (with_reducible (first | refine k_seq ?_ | refine k_ret ?_ | refine n_seq ?_)) | refine s_reg ?_ | refine r_end ?_ | refine s_move ?_ | refine s_assign ?_ | refine s_int ?_ | refine s_loadF1 ?_ | refine s_indexD ?_ (hel := (by first | exact rfl)) | refine s_fieldF ?_ | refine s_call (p1) ?_ | refine s_call (p2) ?_ | refine s_call (p3) ?_ | refine s_call (p4) ?_ | refine s_call (c1) ?_ | refine s_call (c2) ?_ | refine s_call (s1) ?_ | refine s_call (o1) ?_ | refine s_pick ?_ | refine s_lenD ?_ | refine s_bslice ?_ | refine s_extract ?_ | refine s_build ?_ | refine s_buildA ?_ | refine f_ret1 def_nil ?_ | refine t_tmp ?_)
  all_goals rfl
end Go.Proofs.YtiidgbfdghplhaaGreat
end
