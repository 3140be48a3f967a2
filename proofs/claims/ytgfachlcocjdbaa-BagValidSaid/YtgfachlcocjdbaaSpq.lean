/-
  The tape: rows.
-/
import Derived.Test.YtgfachlcocjdbaaSpo
namespace Go.Proofs.Ytgfachlcocjdbaa
open Go.Abs Go.RowKit
attribute [local irreducible] ARun kont MCall PCall HCall resVal SF CF CFs defersOk slotsIn memIn fin finM VLe
set_option linter.unusedSimpArgs false
set_option maxRecDepth 100000
set_option maxHeartbeats 4000000

theorem val_ok {t : Tape} (h : t.ok) : t.val.2.ok := by
  unfold Tape.val
  split
  · exact h.go 5
  · split
    · exact (h.go 5).go 10
    · exact (h.go 5).go 12

def rowV (t : Tape) : Nat → List Val × Tape
  | 0 => ([], t)
  | j + 1 => ((rowV t j).1 ++ [(rowV t j).2.val.1], (rowV t j).2.val.2)
theorem rowV_ok {t : Tape} (h : t.ok) : ∀ j, (rowV t j).2.ok ∧ (rowV t j).1.length = j
  | 0 => ⟨h, rfl⟩
  | j + 1 => by
    obtain ⟨h1, h2⟩ := rowV_ok h j
    exact ⟨val_ok h1, by rw [rowV]; simp [h2]⟩

/-- Row: a list of at most n values. -/
theorem row_h (t : Tape) (n : Nat) (ht : t.ok) (hn : n ≤ 1000) : ∃ (r : List Val) (t' : Tape), t'.ok ∧ r.length ≤ n ∧ HCall Try.prog 25 [.c (.bp 0 0 0), (.c (.d (.lit (.int .i64 (n : Int)))))] [(.box 0 [.d (numD (t).l), .d (.lit (.int .i64 (t).at_))])] (.c (.arr 1 1 r.length)) [(.box 0 [.d (numD (t').l), .d (.lit (.int .i64 (t').at_))]), .arr 1 41 3 (r.map Val.d)] := by
  have hnx := next_h t ((n : Int) + 1) ht (by omega) (by omega)
  obtain ⟨b1, b2⟩ := t.nx_bd ((n : Int) + 1)
  have ht1 := ht.go ((n : Int) + 1)
  obtain ⟨i, hi⟩ := Int.eq_ofNat_of_zero_le b1
  rw [hi] at hnx b1 b2
  generalize t.go ((n : Int) + 1) = t1 at hnx ht1
  obtain ⟨o1, o2⟩ := rowV_ok ht1 i
  refine ⟨(rowV t1 i).1, (rowV t1 i).2, o1, by omega, ?_⟩
  rw [o2]
  have hin : i ≤ 1000 := by omega
  refine hcallN hT Try.func25 Try.ntmps25 [.tmp 4] fun B => ?_
  repeat' (first | (with_reducible (first | refine k_seq ?_ | refine k_block ?_ | refine k_skip ?_ | refine k_exit ?_ | refine k_ret ?_ | refine n_seq ?_ | refine n_block ?_ | refine e_seq ?_ | refine e_here ?_ | refine o_exit ?_)) | refine s_reg ?_ | refine s_ifT ?_ | refine s_ifF ?_ | refine r_end ?_ | refine s_move ?_ | refine s_assign ?_ | refine s_int ?_ | refine s_callH [0] (hnx) ?_ | refine s_appA ?_ | refine s_bslice ?_ | refine fh_ret1 def_nil ?_ ?_ | exact memIn_nil | refine memIn_same ?_ | refine m1 ?_ ?_ | exact am_same)
  refine s_own 5 41 3 ?_
  refine s_lp (X := Nat × Nat) [5, 6, 11, 12, 13, 14, 15, 16, 17, 18, 19] (fun x => x.1 ≤ i) (fun x lz => (5, .c (.arr 1 x.2 x.1)) :: (6, (.c (.d (.lit (.int .i64 ((i - x.1 : Nat) : Int)))))) :: lz) (fun x => [(.box 0 [.d (numD ((rowV t1 x.1).2).l), .d (.lit (.int .i64 ((rowV t1 x.1).2).at_))]), .arr x.2 41 3 ((rowV t1 x.1).1.map Val.d)]) (fun x => i - x.1) ((0, 2)) ?_ ?_ ?_ ?_
  repeat' (first | exact slots_nil | refine w1 ?_ | exact memIn_nil | refine memIn_same ?_ | refine m1 ?_ ?_ | omega)
  rintro ⟨m, k⟩ c hm
  dsimp only at hm ⊢
  obtain ⟨hok, hlen⟩ := rowV_ok ht1 m
  by_cases hlt : m < i
  · have hv := value_h (rowV t1 m).2 hok
    repeat' (first | (with_reducible (first | refine k_seq ?_ | refine k_block ?_ | refine k_skip ?_ | refine k_exit ?_ | refine k_ret ?_ | refine n_seq ?_ | refine n_block ?_ | refine e_seq ?_ | refine e_here ?_ | refine o_exit ?_)) | refine s_reg ?_ | refine s_ifT ?_ | refine s_ifF ?_ | refine r_end ?_ | refine s_move ?_ | refine s_assign ?_ | refine s_int ?_ | refine s_callH [0] (hv) ?_ | refine s_appA ?_ | refine s_bslice ?_ | refine fh_ret1 def_nil ?_ ?_ | exact memIn_nil | refine memIn_same ?_ | refine m1 ?_ ?_ | exact am_same)
    (apply s_round ((m + 1, _)); all_goals (try dsimp only); all_goals (try (repeat' (first | exact slots_nil | refine w1 ?_ | exact memIn_nil | refine memIn_same ?_ | refine m1 ?_ ?_ | omega))))
    rw [rowV, List.map_append]; rfl
  · obtain rfl : m = i := by omega
    repeat' (first | (with_reducible (first | refine k_seq ?_ | refine k_block ?_ | refine k_skip ?_ | refine k_exit ?_ | refine k_ret ?_ | refine n_seq ?_ | refine n_block ?_ | refine e_seq ?_ | refine e_here ?_ | refine o_exit ?_)) | refine s_reg ?_ | refine s_ifT ?_ | refine s_ifF ?_ | refine r_end ?_ | refine s_move ?_ | refine s_assign ?_ | refine s_int ?_ | refine s_appA ?_ | refine s_bslice ?_ | refine fh_ret1 def_nil ?_ ?_ | exact memIn_nil | refine memIn_same ?_ | refine m1 ?_ ?_ | exact am_same)
end Go.Proofs.Ytgfachlcocjdbaa
