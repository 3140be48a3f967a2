/-
  BagNormalize.
-/
import Derived.Test.YtgfachlcocjdbaaSpb
import Derived.Test.YtgfachlcocjdbaaSml
import Derived.Test.YtgfachlcocjdbaaLawO
namespace Go.Proofs.Ytgfachlcocjdbaa
open Go.Abs Go.RowKit
attribute [local irreducible] ARun kont MCall PCall HCall resVal SF CF CFs defersOk slotsIn memIn fin finM VLe
set_option linter.unusedSimpArgs false
set_option maxRecDepth 100000
set_option maxHeartbeats 4000000

theorem lawNormalize_c (t : List Int) (l : List Entry) (ht : t.length ≤ 17592186044416) : PCall Try.prog 3 [.one (numD t), .one (bagD l)] (.v (.one (.lit (.bool true)))) := by
  have hnew := new_h t ht
  have hok := newTape_ok ht
  have hent := entries_h ⟨t, 0⟩ 2 12 hok (by omega) (by omega)
  obtain ⟨b1, b2⟩ := (Tape.mk t 0).nx_bd (((12 : Nat) : Int) + 1)
  have hok1 := hok.go (((12 : Nat) : Int) + 1)
  obtain ⟨i0, hi0⟩ := Int.eq_ofNat_of_zero_le b1
  rw [hi0, Int.toNat_natCast] at hent
  rw [hi0] at b1 b2
  have hxo := entS_ok hok1 2 i0
  generalize (Tape.mk t 0).go (((12 : Nat) : Int) + 1) = t1 at hent hok1 hxo
  obtain ⟨hok2, hxl⟩ := hxo
  generalize entS t1 2 i0 = E at hent hok2 hxl
  obtain ⟨xs, t2⟩ := E
  dsimp only at hent hok2 hxl
  have hxn : xs.length ≤ 12 := by omega
  subst hxl
  have f6 : List.take xs.length (xs.map Entry.d) = xs.map Entry.d := take_ge (by simp)
  obtain ⟨ys, t3, ok3, hyl, hsp⟩ := spoil_h t2 xs hok2 (by omega)
  have n1 := normalizes_c xs (by omega)
  have n2 := normalizes_c ys (by omega)
  have n0 := normalizes_c [] (by simp)
  have hsm := smallBag_c l
  cases hs : smallE l with
  | true =>
    have hll : l.length ≤ 40 := by simp only [smallE, Bool.and_eq_true, decide_eq_true_eq] at hs; exact hs.1
    have n3 := normalizes_c l (by omega)
    rw [hs] at hsm
    refine pcallS hT Try.func3 rfl (by kernel_rfl) _ [.tmp 4] Try.ntmps3 rfl rfl (by repeat' (first | exact nfNil rfl | apply nfCons (a := ((_, SVal.c _) : Nat × SVal)) rfl | apply nfCons (a := ((_, SVal.agg _) : Nat × SVal)) rfl)) fun B => ?_
    repeat' (first | refine s_freeze 6 ?_ (hes := f6) | (with_reducible (first | refine k_seq ?_ | refine k_block ?_ | refine k_skip ?_ | refine k_exit ?_ | refine k_ret ?_ | refine n_seq ?_ | refine n_block ?_ | refine e_seq ?_ | refine e_here ?_ | refine r_seq ?_ | refine r_block ?_ | refine o_exit ?_ | refine o_ret ?_)) | ((with_reducible refine is_region ?_); refine s_reg ?_) | ((with_reducible refine is_cond ?_); first | refine s_ifT ?_ | refine s_ifF ?_ | refine s_if rfl (fun hb => ?_) (fun hb => ?_)) | ((with_reducible refine is_exit ?_); refine s_past ?_) | ((with_reducible refine is_end ?_); first | refine r_end ?_ | refine s_endD ?_) | ((with_reducible refine is_guard ?_); first | refine s_skipS ?_ | refine s_skipU ?_ | refine s_skipN ?_ | refine s_skipUN ?_) | ((with_reducible refine is_move ?_); (first | refine s_move ?_ | fail)) | ((with_reducible refine is_assign ?_); (first | refine s_assign ?_ | fail)) | ((with_reducible refine is_call ?_); (first | refine s_call (hsm) ?_ | refine s_call (n1) ?_ | refine s_call (n2) ?_ | refine s_call (n3) ?_ | refine s_call (awake06_c) ?_ | refine s_callH [] (hnew) ?_ | refine s_callH [1] (hent) ?_ | refine s_callH [1] (hsp) ?_ | fail)) | ((with_reducible refine is_pick ?_); (first | refine s_pick ?_ | refine s_pickB ?_ | fail)) | ((with_reducible refine is_un ?_); (first | refine s_not ?_ | refine s_neg ?_ | fail)) | ((with_reducible refine is_guard ?_); first | refine s_kT ?_ | refine s_kF ?_ | refine s_split rfl rfl (fun hb => ?_) (fun hb => ?_)) | ((with_reducible refine is_fin ?_); first | refine f_ret1 def_nil ?_ | refine f_ret2 def_nil ?_ ?_ | refine f_ret3 def_nil ?_ ?_ ?_ | refine f_end1 def_nil ?_) | ((with_reducible refine is_res ?_); first | refine t_tmp ?_ | refine t_tmpE ?_ | refine t_tmpA rfl rfl ?_ ?_ | refine d_tmpG rfl ?_ | refine t_cell (P := Try.prog) ?_ | refine t_cellG ?_) | ((with_reducible refine is_cfs ?_); first | exact cfs_nil | refine cfs_cons ?_ ?_) | ((with_reducible refine is_cf ?_); first | refine cf_d ?_ | refine cf_emp ?_ | refine cf_arr rfl ?_ ?_))
    all_goals first | rfl | trace_state
  | false =>
    rw [hs] at hsm
    refine pcallS hT Try.func3 rfl (by kernel_rfl) _ [.tmp 4] Try.ntmps3 rfl rfl (by repeat' (first | exact nfNil rfl | apply nfCons (a := ((_, SVal.c _) : Nat × SVal)) rfl | apply nfCons (a := ((_, SVal.agg _) : Nat × SVal)) rfl)) fun B => ?_
    repeat' (first | refine s_freeze 6 ?_ (hes := f6) | (with_reducible (first | refine k_seq ?_ | refine k_block ?_ | refine k_skip ?_ | refine k_exit ?_ | refine k_ret ?_ | refine n_seq ?_ | refine n_block ?_ | refine e_seq ?_ | refine e_here ?_ | refine r_seq ?_ | refine r_block ?_ | refine o_exit ?_ | refine o_ret ?_)) | ((with_reducible refine is_region ?_); refine s_reg ?_) | ((with_reducible refine is_cond ?_); first | refine s_ifT ?_ | refine s_ifF ?_ | refine s_if rfl (fun hb => ?_) (fun hb => ?_)) | ((with_reducible refine is_exit ?_); refine s_past ?_) | ((with_reducible refine is_end ?_); first | refine r_end ?_ | refine s_endD ?_) | ((with_reducible refine is_guard ?_); first | refine s_skipS ?_ | refine s_skipU ?_ | refine s_skipN ?_ | refine s_skipUN ?_) | ((with_reducible refine is_move ?_); (first | refine s_move ?_ | fail)) | ((with_reducible refine is_assign ?_); (first | refine s_assign ?_ | fail)) | ((with_reducible refine is_call ?_); (first | refine s_call (hsm) ?_ | refine s_call (n1) ?_ | refine s_call (n2) ?_ | refine s_call (n0) ?_ | refine s_call (awake06_c) ?_ | refine s_callH [] (hnew) ?_ | refine s_callH [1] (hent) ?_ | refine s_callH [1] (hsp) ?_ | fail)) | ((with_reducible refine is_pick ?_); (first | refine s_pick ?_ | refine s_pickB ?_ | fail)) | ((with_reducible refine is_un ?_); (first | refine s_not ?_ | refine s_neg ?_ | fail)) | ((with_reducible refine is_guard ?_); first | refine s_kT ?_ | refine s_kF ?_ | refine s_split rfl rfl (fun hb => ?_) (fun hb => ?_)) | ((with_reducible refine is_fin ?_); first | refine f_ret1 def_nil ?_ | refine f_ret2 def_nil ?_ ?_ | refine f_ret3 def_nil ?_ ?_ ?_ | refine f_end1 def_nil ?_) | ((with_reducible refine is_res ?_); first | refine t_tmp ?_ | refine t_tmpE ?_ | refine t_tmpA rfl rfl ?_ ?_ | refine d_tmpG rfl ?_ | refine t_cell (P := Try.prog) ?_ | refine t_cellG ?_) | ((with_reducible refine is_cfs ?_); first | exact cfs_nil | refine cfs_cons ?_ ?_) | ((with_reducible refine is_cf ?_); first | refine cf_d ?_ | refine cf_emp ?_ | refine cf_arr rfl ?_ ?_))
    all_goals first | rfl | trace_state
end Go.Proofs.Ytgfachlcocjdbaa
