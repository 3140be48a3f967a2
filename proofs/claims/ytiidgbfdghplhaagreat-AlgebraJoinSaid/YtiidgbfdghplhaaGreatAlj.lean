/-
  Algebra: Join of the program is the document's.
-/
import Derived.Test.YtiidgbfdghplhaaGreatCfn
import Derived.Test.YtiidgbfdghplhaaGreatJor
import Derived.Test.YtiidgbfdghplhaaGreatJoj
import Derived.Test.YtiidgbfdghplhaaGreatDefer
namespace Go.Proofs.YtiidgbfdghplhaaGreat
open Go.Abs Go.RowKit
attribute [local irreducible] ARun kont MCall PCall HCall resVal SF CF CFs defersOk slotsIn memIn fin finM VLe
set_option linter.unusedSimpArgs false
set_option maxRecDepth 100000
set_option maxHeartbeats 4000000

theorem joinable1_c (e : Entry) : PCall Tryz.prog 90 [.agg e.d] (.v (.one (.lit (.bool (decide (8 < (e.row.length : Int))))))) := by
  refine pcallN hT Tryz.func90 Tryz.ntmps90 [.tmp 2] fun B => ?_
  repeat' (first | (with_reducible (first | refine k_seq ?_ | refine k_ret ?_ | refine n_seq ?_)) | refine s_reg ?_ | refine r_end ?_ | refine s_assign ?_ | refine s_int ?_ | refine s_loadB1 ?_ | refine s_fieldB ?_ | refine s_lenD ?_ | refine s_box ?_ | refine f_ret1 def_nil ?_ | refine t_tmp ?_)
  all_goals rfl

theorem joinable_c (b : List Entry) : PCall Tryz.prog 50 [.one (bagD b)] (.v (.one (.lit (.bool (narrowE b))))) := by
  have hc := containsE_c 90 _ joinable1_c b
  have hv := bagValid_c b
  have hn : narrowE b = (bagValid b && !(b.any fun e => decide (8 < (e.row.length : Int)))) := by
    unfold narrowE
    rw [Bool.and_comm]
    congr 1
    rw [List.not_any_eq_all_not]
    congr 1
    funext e
    rw [Bool.eq_iff_iff]
    simp
    omega
  rw [hn]
  cases h : bagValid b <;> rw [h] at hv
  · refine pcallN hT Tryz.func50 Tryz.ntmps50 [.tmp 2] fun B => ?_
    repeat' (first | (with_reducible (first | refine k_seq ?_ | refine k_ret ?_ | refine n_seq ?_)) | refine s_reg ?_ | refine r_end ?_ | refine s_skipS ?_ | refine s_move ?_ | refine s_assign ?_ | refine s_call (hv) ?_ | refine s_call (hc) ?_ | refine s_pick ?_ | refine s_not ?_ | refine f_ret1 def_nil ?_ | refine t_tmp ?_)
    all_goals rfl
  · refine pcallN hT Tryz.func50 Tryz.ntmps50 [.tmp 2] fun B => ?_
    repeat' (first | (with_reducible (first | refine k_seq ?_ | refine k_ret ?_ | refine n_seq ?_)) | refine s_reg ?_ | refine r_end ?_ | refine s_skipS ?_ | refine s_move ?_ | refine s_assign ?_ | refine s_call (hv) ?_ | refine s_call (hc) ?_ | refine s_pick ?_ | refine s_not ?_ | refine f_ret1 def_nil ?_ | refine t_tmp ?_)
    all_goals rfl

theorem algJoin1_d : DeferOk Tryz.prog 49 0 := by
  refine ⟨⟨_, Tryz.func49, by kernel_rfl, by kernel_rfl⟩, fun vs w hl => ?_⟩
  match vs, hl with
  | [], _ =>
    refine callsD_of_wpS Tryz.func49 rfl fun c₀ cs hu => ?_
    apply wpS_region
    simp [wpOpsS, go_sem, recoverD, hu, Tryz.ntmps49, Exit.thenS]
    cases c₀
    simp_all [bodyPostS, results, Tryz.results49]

theorem algJoin_c (a b : List Entry) (on : List (Int × Int)) (hon : on.length ≤ 10000) : PCall Tryz.prog 24 [.one (bagD a), .one (bagD b), .one (onD on)] (bagR (refJoinE a b on)) := by
  have hna := joinable_c a
  have hnb := joinable_c b
  unfold refJoinE
  cases na : narrowE a
  · rw [na] at hna
    refine pcallN hT Tryz.func24 Tryz.ntmps24 [.tmp 6, .tmp 7] fun B => ?_
    repeat' (first | (with_reducible (first | refine k_seq ?_ | refine k_skip ?_ | refine k_ret ?_ | refine n_seq ?_ | refine r_seq ?_)) | refine s_reg ?_ | refine s_ifT ?_ | refine s_ifF ?_ | refine r_end ?_ | refine s_skipS ?_ | refine s_move ?_ | refine s_assign ?_ | refine s_call (hna) ?_ | refine s_pick ?_ | refine s_extract ?_ | refine s_not ?_ | refine s_defer ?_ | refine f_ret2 (by repeat (first | exact def_nil | refine def_cons algJoin1_d ?_)) ?_ ?_ | refine t_tmp ?_ | refine t_tmpE ?_)
    all_goals rfl
  cases nb : narrowE b
  · rw [na] at hna
    rw [nb] at hnb
    refine pcallN hT Tryz.func24 Tryz.ntmps24 [.tmp 6, .tmp 7] fun B => ?_
    repeat' (first | (with_reducible (first | refine k_seq ?_ | refine k_skip ?_ | refine k_ret ?_ | refine n_seq ?_ | refine r_seq ?_)) | refine s_reg ?_ | refine s_ifT ?_ | refine s_ifF ?_ | refine r_end ?_ | refine s_skipS ?_ | refine s_move ?_ | refine s_assign ?_ | refine s_call (hna) ?_ | refine s_call (hnb) ?_ | refine s_pick ?_ | refine s_extract ?_ | refine s_not ?_ | refine s_defer ?_ | refine f_ret2 (by repeat (first | exact def_nil | refine def_cons algJoin1_d ?_)) ?_ ?_ | refine t_tmp ?_ | refine t_tmpE ?_)
    all_goals rfl
  rw [na] at hna
  rw [nb] at hnb
  rw [Bool.and_self, if_pos rfl]
  obtain ⟨al, am⟩ := narrow_mem na
  obtain ⟨bl, bm⟩ := narrow_mem nb
  have hs := join_says on na nb
  have hj := join_c a b on al bl hon (fun e he => ⟨(am e he).1, (am e he).2.1⟩) (fun e he => ⟨(bm e he).1, (bm e he).2.1⟩) ((boundE (sumR (pairsE a b on))).1, ((boundE (sumR (pairsE a b on))).2 : Int)) (by
    cases hf : finJ a b on with
    | none => rw [hf] at hs; simp only at hs ⊢; rw [hs]; rfl
    | some r =>
      rw [hf] at hs
      obtain ⟨rs, h1, h2, h3⟩ := hs
      refine ⟨rs, h1, h2, ?_⟩
      rw [h3]
      split <;> rfl)
  simp only at hj
  generalize boundE (sumR (pairsE a b on)) = R at hj ⊢
  refine pcallN hT Tryz.func24 Tryz.ntmps24 [.tmp 6, .tmp 7] fun B => ?_
  repeat' (first | (with_reducible (first | refine k_seq ?_ | refine k_skip ?_ | refine k_ret ?_ | refine n_seq ?_ | refine r_seq ?_)) | refine s_reg ?_ | refine s_ifT ?_ | refine s_ifF ?_ | refine r_end ?_ | refine s_skipS ?_ | refine s_move ?_ | refine s_assign ?_ | refine s_call (hna) ?_ | refine s_call (hnb) ?_ | refine s_call (hj) ?_ | refine s_pick ?_ | refine s_extract ?_ | refine s_not ?_ | refine s_defer ?_ | refine f_ret2 (by repeat (first | exact def_nil | refine def_cons algJoin1_d ?_)) ?_ ?_ | refine t_tmp ?_ | refine t_tmpE ?_)
  all_goals rfl
end Go.Proofs.YtiidgbfdghplhaaGreat
