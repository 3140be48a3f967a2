/-
  The tape: rows.
-/
import Derived.Test.YtgfachlcocjdbaaSpo
namespace Go.Proofs.Ytgfachlcocjdbaa
open Go.Abs Go.RowKit
attribute [local irreducible] ARun kont MCall PCall HCall resVal SF CF CFs defersOk slotsIn memIn fin finM VLe
set_option linter.unusedSimpArgs false
set_option maxRecDepth 100000
set_option maxHeartbeats 4000000

theorem val_ok {t : Tape} (h : t.ok) : t.val.2.ok := by
  unfold Tape.val
  split
  · exact h.go 5
  · split
    · exact (h.go 5).go 10
    · exact (h.go 5).go 12

def rowV (t : Tape) : Nat → List Val × Tape
  | 0 => ([], t)
  | j + 1 => ((rowV t j).1 ++ [(rowV t j).2.val.1], (rowV t j).2.val.2)
theorem rowV_ok {t : Tape} (h : t.ok) : ∀ j, (rowV t j).2.ok ∧ (rowV t j).1.length = j
  | 0 => ⟨h, rfl⟩
  | j + 1 => by
    obtain ⟨h1, h2⟩ := rowV_ok h j
    exact ⟨val_ok h1, by rw [rowV]; simp [h2]⟩

/-- Row: a list of at most n values. -/
theorem row_h (t : Tape) (n : Nat) (ht : t.ok) (hn : n ≤ 1000) : ∃ (r : List Val) (t' : Tape), t'.ok ∧ r.length ≤ n ∧ HCall Try.prog 25 [.c (.bp 0 0 0), (.c (.d (.lit (.int .i64 (n : Int)))))] [(.box 0 [.d (numD (t).l), .d (.lit (.int .i64 (t).at_))])] (.c (.arr 1 1 r.length)) [(.box 0 [.d (numD (t').l), .d (.lit (.int .i64 (t').at_))]), .arr 1 41 3 (r.map Val.d)] := by
  have hnx := next_h t ((n : Int) + 1) ht (by omega) (by omega)
  obtain ⟨b1, b2⟩ := t.nx_bd ((n : Int) + 1)
  have ht1 := ht.go ((n : Int) + 1)
  obtain ⟨i, hi⟩ := Int.eq_ofNat_of_zero_le b1
  rw [hi] at hnx b1 b2
  generalize t.go ((n : Int) + 1) = t1 at hnx ht1
  obtain ⟨o1, o2⟩ := rowV_ok ht1 i
  refine ⟨(rowV t1 i).1, (rowV t1 i).2, o1, by omega, ?_⟩
  rw [o2]
  have hin : i ≤ 1000 := by omega
  refine hcallS hT Try.func25 rfl (by kernel_rfl) _ [.tmp 4] Try.ntmps25 rfl rfl rfl (by repeat' (first | exact nfNil rfl | apply nfCons (a := ((_, SVal.c _) : Nat × SVal)) rfl | apply nfCons (a := ((_, SVal.agg _) : Nat × SVal)) rfl)) fun B => ?_
  repeat' (first | (with_reducible (first | refine k_seq ?_ | refine k_block ?_ | refine k_skip ?_ | refine k_exit ?_ | refine k_ret ?_ | refine n_seq ?_ | refine n_block ?_ | refine e_seq ?_ | refine e_here ?_ | refine r_seq ?_ | refine r_block ?_ | refine o_exit ?_ | refine o_ret ?_)) | ((with_reducible refine is_region ?_); refine s_reg ?_) | ((with_reducible refine is_cond ?_); first | refine s_ifT ?_ | refine s_ifF ?_ | refine s_if rfl (fun hb => ?_) (fun hb => ?_)) | ((with_reducible refine is_exit ?_); refine s_past ?_) | ((with_reducible refine is_end ?_); first | refine r_end ?_ | refine s_endD ?_) | ((with_reducible refine is_move ?_); (first | refine s_move ?_ | fail)) | ((with_reducible refine is_assign ?_); (first | refine s_assign ?_ | fail)) | ((with_reducible refine is_bin ?_); (first | refine s_int ?_ | refine s_str ?_ | refine s_eqB ?_ | refine s_neB ?_ | refine s_eqA ?_ | refine s_neA ?_ | refine s_shr ?_ | refine s_shl ?_ | refine s_or ?_ | refine s_xor ?_ | refine s_eqNil (fun b hnil => ?_) | fail)) | ((with_reducible refine is_call ?_); (first | refine s_callH [0] (hnx) ?_ | fail)) | ((with_reducible refine is_built ?_); (first | refine s_lenD ?_ | refine s_lenE ?_ | refine s_lenS ?_ | refine s_lenA ?_ | refine s_appE ?_ | refine s_appA ?_ | refine s_min ?_ | refine s_max ?_ | fail)) | ((with_reducible refine is_bslice ?_); (first | refine s_bslice0 ?_ | refine s_bslice ?_ | fail)) | ((with_reducible refine is_finM ?_); first | refine fh_ret0 def_nil ?_ | refine fh_end0 def_nil ?_ | refine fh_ret1 def_nil ?_ ?_ | refine fh_ret2 def_nil ?_ ?_ | refine fh_cell1 def_nil ?_ ?_) | ((with_reducible refine is_memIn ?_); first | exact memIn_nil | refine memIn_same ?_ | refine m1 ?_ ?_ | refine m2 ?_ ?_ | refine m3 ?_ ?_ ?_ ?_ | refine m4 ?_ ?_ | refine memIn_dead ?_) | ((with_reducible refine is_AM ?_); first | exact am_same | refine am_arr ?_ | refine am_d rfl ?_))
  refine s_own 5 41 3 ?_
  refine s_lp (X := Nat × Nat) [5, 6, 11, 12, 13, 14, 15, 16, 17, 18, 19] (fun x => x.1 ≤ i) (fun x lz => (5, .c (.arr 1 x.2 x.1)) :: (6, (.c (.d (.lit (.int .i64 ((i - x.1 : Nat) : Int)))))) :: lz) (fun x => [(.box 0 [.d (numD ((rowV t1 x.1).2).l), .d (.lit (.int .i64 ((rowV t1 x.1).2).at_))]), .arr x.2 41 3 ((rowV t1 x.1).1.map Val.d)]) (fun x => i - x.1) ((0, 2)) ?_ ?_ ?_ ?_
  repeat' (first | exact slots_nil | refine w1 ?_ | refine w2 ?_ ?_ | refine w3 ?_ ?_ | refine w4 ?_ ?_ | refine w5 ?_ ?_ | refine w6 ?_ ?_ | refine w7 ?_ | exact memIn_nil | refine memIn_same ?_ | refine m1 ?_ ?_ | refine m2 ?_ ?_ | refine m3 ?_ ?_ ?_ ?_ | refine m4 ?_ ?_ | refine memIn_dead ?_ | omega)
  rintro ⟨m, k⟩ c hm
  dsimp only at hm ⊢
  obtain ⟨hok, hlen⟩ := rowV_ok ht1 m
  by_cases hlt : m < i
  · have hv := value_h (rowV t1 m).2 hok
    repeat' (first | (with_reducible (first | refine k_seq ?_ | refine k_block ?_ | refine k_skip ?_ | refine k_exit ?_ | refine k_ret ?_ | refine n_seq ?_ | refine n_block ?_ | refine e_seq ?_ | refine e_here ?_ | refine r_seq ?_ | refine r_block ?_ | refine o_exit ?_ | refine o_ret ?_)) | ((with_reducible refine is_region ?_); refine s_reg ?_) | ((with_reducible refine is_cond ?_); first | refine s_ifT ?_ | refine s_ifF ?_ | refine s_if rfl (fun hb => ?_) (fun hb => ?_)) | ((with_reducible refine is_exit ?_); refine s_past ?_) | ((with_reducible refine is_end ?_); first | refine r_end ?_ | refine s_endD ?_) | ((with_reducible refine is_move ?_); (first | refine s_move ?_ | fail)) | ((with_reducible refine is_assign ?_); (first | refine s_assign ?_ | fail)) | ((with_reducible refine is_bin ?_); (first | refine s_int ?_ | refine s_str ?_ | refine s_eqB ?_ | refine s_neB ?_ | refine s_eqA ?_ | refine s_neA ?_ | refine s_shr ?_ | refine s_shl ?_ | refine s_or ?_ | refine s_xor ?_ | refine s_eqNil (fun b hnil => ?_) | fail)) | ((with_reducible refine is_call ?_); (first | refine s_callH [0] (hv) ?_ | fail)) | ((with_reducible refine is_built ?_); (first | refine s_lenD ?_ | refine s_lenE ?_ | refine s_lenS ?_ | refine s_lenA ?_ | refine s_appE ?_ | refine s_appA ?_ | refine s_min ?_ | refine s_max ?_ | fail)) | ((with_reducible refine is_bslice ?_); (first | refine s_bslice0 ?_ | refine s_bslice ?_ | fail)) | ((with_reducible refine is_finM ?_); first | refine fh_ret0 def_nil ?_ | refine fh_end0 def_nil ?_ | refine fh_ret1 def_nil ?_ ?_ | refine fh_ret2 def_nil ?_ ?_ | refine fh_cell1 def_nil ?_ ?_) | ((with_reducible refine is_memIn ?_); first | exact memIn_nil | refine memIn_same ?_ | refine m1 ?_ ?_ | refine m2 ?_ ?_ | refine m3 ?_ ?_ ?_ ?_ | refine m4 ?_ ?_ | refine memIn_dead ?_) | ((with_reducible refine is_AM ?_); first | exact am_same | refine am_arr ?_ | refine am_d rfl ?_))
    (apply s_round ((m + 1, _)); all_goals (try dsimp only); all_goals (try (repeat' (first | exact slots_nil | refine w1 ?_ | refine w2 ?_ ?_ | refine w3 ?_ ?_ | refine w4 ?_ ?_ | refine w5 ?_ ?_ | refine w6 ?_ ?_ | refine w7 ?_ | exact memIn_nil | refine memIn_same ?_ | refine m1 ?_ ?_ | refine m2 ?_ ?_ | refine m3 ?_ ?_ ?_ ?_ | refine m4 ?_ ?_ | refine memIn_dead ?_ | omega))))
    rw [rowV, List.map_append]; rfl
  · obtain rfl : m = i := by omega
    repeat' (first | (with_reducible (first | refine k_seq ?_ | refine k_block ?_ | refine k_skip ?_ | refine k_exit ?_ | refine k_ret ?_ | refine n_seq ?_ | refine n_block ?_ | refine e_seq ?_ | refine e_here ?_ | refine r_seq ?_ | refine r_block ?_ | refine o_exit ?_ | refine o_ret ?_)) | ((with_reducible refine is_region ?_); refine s_reg ?_) | ((with_reducible refine is_cond ?_); first | refine s_ifT ?_ | refine s_ifF ?_ | refine s_if rfl (fun hb => ?_) (fun hb => ?_)) | ((with_reducible refine is_exit ?_); refine s_past ?_) | ((with_reducible refine is_end ?_); first | refine r_end ?_ | refine s_endD ?_) | ((with_reducible refine is_move ?_); (first | refine s_move ?_ | fail)) | ((with_reducible refine is_assign ?_); (first | refine s_assign ?_ | fail)) | ((with_reducible refine is_bin ?_); (first | refine s_int ?_ | refine s_str ?_ | refine s_eqB ?_ | refine s_neB ?_ | refine s_eqA ?_ | refine s_neA ?_ | refine s_shr ?_ | refine s_shl ?_ | refine s_or ?_ | refine s_xor ?_ | refine s_eqNil (fun b hnil => ?_) | fail)) | ((with_reducible refine is_built ?_); (first | refine s_lenD ?_ | refine s_lenE ?_ | refine s_lenS ?_ | refine s_lenA ?_ | refine s_appE ?_ | refine s_appA ?_ | refine s_min ?_ | refine s_max ?_ | fail)) | ((with_reducible refine is_bslice ?_); (first | refine s_bslice0 ?_ | refine s_bslice ?_ | fail)) | ((with_reducible refine is_finM ?_); first | refine fh_ret0 def_nil ?_ | refine fh_end0 def_nil ?_ | refine fh_ret1 def_nil ?_ ?_ | refine fh_ret2 def_nil ?_ ?_ | refine fh_cell1 def_nil ?_ ?_) | ((with_reducible refine is_memIn ?_); first | exact memIn_nil | refine memIn_same ?_ | refine m1 ?_ ?_ | refine m2 ?_ ?_ | refine m3 ?_ ?_ ?_ ?_ | refine m4 ?_ ?_ | refine memIn_dead ?_) | ((with_reducible refine is_AM ?_); first | exact am_same | refine am_arr ?_ | refine am_d rfl ?_))
end Go.Proofs.Ytgfachlcocjdbaa
