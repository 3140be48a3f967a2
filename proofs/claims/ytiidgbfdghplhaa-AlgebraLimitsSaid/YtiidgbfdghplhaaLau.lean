/-
  AlgebraLimits: the law returns true.
-/
import Derived.Test.YtiidgbfdghplhaaLas
namespace Go.Proofs.Ytiidgbfdghplhaa
open Go.Abs Go.RowKit
attribute [local irreducible] ARun kont MCall PCall HCall resVal SF CF CFs defersOk slotsIn memIn fin finM VLe
set_option linter.unusedSimpArgs false
set_option maxRecDepth 100000
set_option maxHeartbeats 4000000

def numE (i : Nat) : Entry := ⟨[Val.ofInt i], 1⟩
def numL (k : Nat) : List Entry := (List.range k).map numE
theorem numL_snoc (i : Nat) : numL (i + 1) = numL i ++ [numE i] := by
  unfold numL; rw [List.range_succ, List.map_append]; rfl
theorem numL_len (k : Nat) : (numL k).length = k := by simp [numL]
theorem numL_zero : numL 0 = [] := rfl
theorem numE_d (i : Nat) : (numE i).d = [rowD [Val.ofInt i], .lit (.int .i64 1)] := rfl
attribute [local irreducible] numL numE

theorem lawAlgLimits_c (n : Int) (h0 : 0 ≤ n) (h1 : n ≤ 255) : PCall Try.prog 4 [.one (.lit (.int .u8 n))] (.v (.one (.lit (.bool true)))) := by
  have hm3 : n.tmod 3 = n % 3 := Int.tmod_eq_emod_of_nonneg h0
  have hm2 : n.tmod 2 = n % 2 := Int.tmod_eq_emod_of_nonneg h0
  obtain ⟨d, hd⟩ := Int.eq_ofNat_of_zero_le (show 0 ≤ n % 3 by omega)
  obtain ⟨k, hk⟩ := Int.eq_ofNat_of_zero_le (show 0 ≤ n % 2 by omega)
  have hd3 : d ≤ 2 := by omega
  have hk2 : k ≤ 1 := by omega
  rw [hd] at hm3
  rw [hk] at hm2
  have lL := numL_len 64
  obtain ⟨B, hB⟩ : ∃ B, B = numL 64 ++ [⟨[Val.ofInt 100], 1⟩] := ⟨_, rfl⟩
  have lB : B.length = 65 := by rw [hB]; simp [numL_len]
  have q1 := joins_c (numL 64) (B.take 64) [] (by simp)
  have q2 := joins_c (numL 64) B [] (by simp)
  have q3 := joins_c [⟨[Val.null], 512⟩] [⟨[Val.null], 512 + n.tmod 3 - 1⟩] [] (by simp)
  have q4 := joins_c [⟨List.replicate (8 + n.tmod 2).toNat Val.null, 1⟩] [⟨[Val.null], 512⟩] [] (by simp)
  have f3 : List.take 64 ((numL 64).map Entry.d) = (numL 64).map Entry.d := take_ge (by simp [numL_len])
  have f4 : List.take 65 ((numL 64).map Entry.d ++ [[rowD [Val.ofInt 100], .lit (.int .i64 1)]]) = B.map Entry.d := by
    rw [hB, List.map_append]; exact take_ge (by simp [numL_len])
  have hf : List.take (8 + n.tmod 2).toNat (List.replicate (8 + n.tmod 2).toNat Val.null.d) = (List.replicate (8 + n.tmod 2).toNat Val.null).map Val.d := by
    rw [List.map_replicate]; exact take_ge (by simp)
  have o1 : PCall Try.prog 13 [.one (.lit (.int .i64 100))] (.v (.agg (Val.ofInt 100).d)) := refInt_c _
  clear hB hd hk
  refine pcallN hT Try.func4 Try.ntmps4 [.tmp 2] fun B => ?_
  repeat' (first | (with_reducible (first | refine k_seq ?_ | refine k_block ?_ | refine k_skip ?_ | refine k_exit ?_ | refine k_ret ?_ | refine n_seq ?_ | refine n_block ?_ | refine e_seq ?_ | refine e_here ?_ | refine o_exit ?_)) | refine s_reg ?_ | refine s_ifT ?_ | refine s_ifF ?_ | refine r_end ?_ | refine s_move ?_ | refine s_assign ?_ | refine s_int ?_ | refine s_pick ?_ | refine s_appA ?_ | refine s_bslice ?_ | refine s_conv ?_ | refine s_build ?_ | refine s_sliceD ?_ | refine s_make ?_ | refine f_ret1 def_nil ?_ | refine t_tmp ?_)
  refine s_own 3 38 2 ?_
  refine s_own 4 38 2 ?_
  refine s_lp (X := Nat × Nat × Nat) [3, 4, 5, 9, 10, 11, 12, 13, 14, 15, 16, 17, 18, 19, 20, 21, 22, 23, 24, 25, 26] (fun x => x.1 ≤ 64) (fun x lz => (3, .c (.arr 0 x.2.1 x.1)) :: (4, .c (.arr 1 x.2.2 x.1)) :: (5, (.c (.d (.lit (.int .i64 x.1))))) :: lz) (fun x => [.arr x.2.1 38 2 ((numL x.1).map Entry.d), .arr x.2.2 38 2 ((numL x.1).map Entry.d)]) (fun x => 64 - x.1) ((0, 1, 2)) ?_ ?_ ?_ ?_
  repeat' (first | exact slots_nil | refine w1 ?_ | exact memIn_nil | refine m1 ?_ ?_ | omega)
  · rw [numL_zero]; rfl
  · rw [numL_zero]; rfl
  rintro ⟨i, k1, k2⟩ c hi
  dsimp only at hi ⊢
  have li := numL_len i
  by_cases hlt : i < 64
  · repeat' (first | (with_reducible (first | refine k_seq ?_ | refine k_block ?_ | refine k_skip ?_ | refine k_exit ?_ | refine k_ret ?_ | refine n_seq ?_ | refine n_block ?_ | refine e_seq ?_ | refine e_here ?_ | refine o_exit ?_)) | refine s_reg ?_ | refine s_ifT ?_ | refine s_ifF ?_ | refine r_end ?_ | refine s_move ?_ | refine s_assign ?_ | refine s_int ?_ | refine s_call (refInt_c _) ?_ | refine s_pick ?_ | refine s_appA ?_ | refine s_bslice ?_ | refine s_conv ?_ | refine s_build ?_ | refine s_sliceD ?_ | refine s_make ?_ | refine f_ret1 def_nil ?_ | refine t_tmp ?_)
    (apply s_round ((i + 1, _, _)); all_goals (try dsimp only); all_goals (try (repeat' (first | exact slots_nil | refine w1 ?_ | exact memIn_nil | refine m1 ?_ ?_ | omega))))
    all_goals (rw [numL_snoc, List.map_append, List.map_cons, List.map_nil, numE_d]; rfl)
  · obtain rfl : i = 64 := by omega
    repeat' (first | refine s_freeze 3 ?_ (hes := f3) | refine s_freeze 4 ?_ (hes := f4) | refine r_freeze 50 rfl rfl (by simp) hf rfl ?_ | (with_reducible (first | refine k_seq ?_ | refine k_block ?_ | refine k_skip ?_ | refine k_exit ?_ | refine k_ret ?_ | refine n_seq ?_ | refine n_block ?_ | refine e_seq ?_ | refine e_here ?_ | refine o_exit ?_)) | refine s_reg ?_ | refine s_ifT ?_ | refine s_ifF ?_ | refine r_end ?_ | refine s_move ?_ | refine s_assign ?_ | refine s_int ?_ | refine s_call (q1) ?_ | refine s_call (q2) ?_ | refine s_call (q3) ?_ | refine s_call (q4) ?_ | refine s_call (o1) ?_ | refine s_call (awake08_c) ?_ | refine s_pick ?_ | refine s_appA ?_ | refine s_bslice ?_ | refine s_conv ?_ | refine s_build ?_ | refine s_sliceD ?_ | refine s_make ?_ | refine f_ret1 def_nil ?_ | refine t_tmp ?_)
    all_goals rfl
end Go.Proofs.Ytiidgbfdghplhaa
