/-
  The tape: lists of entries.
-/
import Derived.Test.YtgfachlcocjdbaaTap
namespace Go.Proofs.Ytgfachlcocjdbaa
open Go.Abs Go.RowKit
attribute [local irreducible] ARun kont MCall PCall HCall resVal SF CF CFs defersOk slotsIn memIn fin finM VLe
set_option linter.unusedSimpArgs false
set_option maxRecDepth 100000
set_option maxHeartbeats 4000000

def rowS (t : Tape) : Nat → List Val × Tape
  | 0 => ([], t)
  | j + 1 => ((rowS t j).1 ++ [(rowS t j).2.short], (rowS t j).2.go 6)
def entNums : List Int := [1, 1, 1, 2, -1, 3, -2, 0]
def Tape.num (t : Tape) : Int := entNums.getD (t.nx 8).toNat 0
def entS (t : Tape) (w : Nat) : Nat → List Entry × Tape
  | 0 => ([], t)
  | m + 1 => ((entS t w m).1 ++ [⟨(rowS (entS t w m).2 w).1, (rowS (entS t w m).2 w).2.num⟩], (rowS (entS t w m).2 w).2.go 8)

theorem rowS_ok {t : Tape} (h : t.ok) : ∀ j, (rowS t j).2.ok ∧ (rowS t j).1.length = j
  | 0 => ⟨h, rfl⟩
  | j + 1 => by
    obtain ⟨h1, h2⟩ := rowS_ok h j
    exact ⟨h1.go 6, by rw [rowS]; simp [h2]⟩
theorem entS_ok {t : Tape} (h : t.ok) (w : Nat) : ∀ m, (entS t w m).2.ok ∧ (entS t w m).1.length = m
  | 0 => ⟨h, rfl⟩
  | m + 1 => by
    obtain ⟨h1, h2⟩ := entS_ok h w m
    exact ⟨(rowS_ok h1 w).1.go 8, by rw [entS]; simp [h2]⟩

theorem entries_h (t : Tape) (w n : Nat) (ht : t.ok) (hw : w ≤ 1000) (hn : n ≤ 1000) : HCall Try.prog 12 [.c (.bp 0 0 0), (.c (.d (.lit (.int .i64 (w : Int))))), (.c (.d (.lit (.int .i64 (n : Int)))))] [(.box 0 [.d (numD (t).l), .d (.lit (.int .i64 (t).at_))])] (.c (.arr 1 1 (t.nx ((n : Int) + 1)).toNat)) [(.box 0 [.d (numD ((entS (t.go ((n : Int) + 1)) w (t.nx ((n : Int) + 1)).toNat).2).l), .d (.lit (.int .i64 ((entS (t.go ((n : Int) + 1)) w (t.nx ((n : Int) + 1)).toNat).2).at_))]), .arr 1 34 2 ((entS (t.go ((n : Int) + 1)) w (t.nx ((n : Int) + 1)).toNat).1.map Entry.d)] := by
  have hnx := next_h t ((n : Int) + 1) ht (by omega) (by omega)
  obtain ⟨b1, b2⟩ := t.nx_bd ((n : Int) + 1)
  have ht1 := ht.go ((n : Int) + 1)
  obtain ⟨i, hi⟩ := Int.eq_ofNat_of_zero_le b1
  rw [hi] at hnx b1 b2 ⊢
  rw [Int.toNat_natCast]
  generalize t.go ((n : Int) + 1) = t1 at hnx ht1
  have hin : i ≤ 1000 := by omega
  refine hcallN hT Try.func12 Try.ntmps12 [.tmp 6] fun B => ?_
  repeat' (first | (with_reducible (first | refine k_seq ?_ | refine k_block ?_ | refine k_skip ?_ | refine k_exit ?_ | refine k_ret ?_ | refine n_seq ?_ | refine n_block ?_ | refine e_seq ?_ | refine e_here ?_ | refine o_exit ?_)) | refine s_reg ?_ | refine s_ifT ?_ | refine s_ifF ?_ | refine r_end ?_ | refine s_move ?_ | refine s_assign ?_ | refine s_int ?_ | refine s_loadF1 ?_ | refine s_indexD ?_ (hel := (by first | exact rfl)) | refine s_callH [0] (hnx) ?_ | refine s_appA ?_ | refine s_bslice ?_ | refine s_build ?_ | refine fh_ret1 def_nil ?_ ?_ | exact memIn_nil | refine memIn_same ?_ | refine m1 ?_ ?_ | refine m2 ?_ ?_ | exact am_same)
  refine s_own 7 34 2 ?_
  refine s_lp (X := Nat × Nat) [7, 8, 9, 10, 15, 16, 17, 18, 19, 20, 21, 22, 23, 24, 25, 26, 27, 28, 29, 30, 31, 32, 33, 34, 35, 36, 37, 38] (fun x => x.1 ≤ i) (fun x lz => (7, .c (.arr 1 x.2 x.1)) :: (8, (.c (.d (.lit (.int .i64 ((i - x.1 : Nat) : Int)))))) :: lz) (fun x => [(.box 0 [.d (numD ((entS t1 w x.1).2).l), .d (.lit (.int .i64 ((entS t1 w x.1).2).at_))]), .arr x.2 34 2 ((entS t1 w x.1).1.map Entry.d)]) (fun x => i - x.1) ((0, 2)) ?_ ?_ ?_ ?_
  repeat' (first | exact slots_nil | refine w1 ?_ | exact memIn_nil | refine memIn_same ?_ | refine m1 ?_ ?_ | refine m2 ?_ ?_ | omega)
  rintro ⟨m, k⟩ c hm
  dsimp only at hm ⊢
  obtain ⟨hok, hlen⟩ := entS_ok ht1 w m
  have hstep : entS t1 w (m + 1) = ((entS t1 w m).1 ++ [⟨(rowS (entS t1 w m).2 w).1, (rowS (entS t1 w m).2 w).2.num⟩], (rowS (entS t1 w m).2 w).2.go 8) := rfl
  by_cases hlt : m < i
  · generalize hE : entS t1 w m = E at hok hlen hstep
    obtain ⟨el, T⟩ := E
    dsimp only at hok hlen hstep ⊢
    repeat' (first | (with_reducible (first | refine k_seq ?_ | refine k_block ?_ | refine k_skip ?_ | refine k_exit ?_ | refine k_ret ?_ | refine n_seq ?_ | refine n_block ?_ | refine e_seq ?_ | refine e_here ?_ | refine o_exit ?_)) | refine s_reg ?_ | refine s_ifT ?_ | refine s_ifF ?_ | refine r_end ?_ | refine s_move ?_ | refine s_assign ?_ | refine s_int ?_ | refine s_loadF1 ?_ | refine s_indexD ?_ (hel := (by first | exact rfl)) | refine s_appA ?_ | refine s_bslice ?_ | refine s_build ?_ | refine fh_ret1 def_nil ?_ ?_ | exact memIn_nil | refine memIn_same ?_ | refine m1 ?_ ?_ | refine m2 ?_ ?_ | exact am_same)
    refine s_own 9 41 3 ?_
    refine s_lp (X := Nat × Nat) [9, 10, 19, 20, 21, 22, 23, 24, 25, 26, 27, 28] (fun x => x.1 ≤ w) (fun x lz => (9, .c (.arr 2 x.2 x.1)) :: (10, (.c (.d (.lit (.int .i64 x.1))))) :: lz) (fun x => [(.box 0 [.d (numD ((rowS T x.1).2).l), .d (.lit (.int .i64 ((rowS T x.1).2).at_))]), .arr k 34 2 (el.map Entry.d), .arr x.2 41 3 ((rowS T x.1).1.map Val.d)]) (fun x => w - x.1) ((0, c + 1)) ?_ ?_ ?_ ?_
    repeat' (first | exact slots_nil | refine w1 ?_ | exact memIn_nil | refine memIn_same ?_ | refine m1 ?_ ?_ | refine m2 ?_ ?_ | omega)
    rintro ⟨j, k2⟩ c2 hj
    dsimp only at hj ⊢
    obtain ⟨rok, rlen⟩ := rowS_ok hok j
    by_cases hlt2 : j < w
    · have hsh := short_h (rowS T j).2 rok
      repeat' (first | (with_reducible (first | refine k_seq ?_ | refine k_block ?_ | refine k_skip ?_ | refine k_exit ?_ | refine k_ret ?_ | refine n_seq ?_ | refine n_block ?_ | refine e_seq ?_ | refine e_here ?_ | refine o_exit ?_)) | refine s_reg ?_ | refine s_ifT ?_ | refine s_ifF ?_ | refine r_end ?_ | refine s_move ?_ | refine s_assign ?_ | refine s_int ?_ | refine s_loadF1 ?_ | refine s_indexD ?_ (hel := (by first | exact rfl)) | refine s_callH [0] (hsh) ?_ | refine s_appA ?_ | refine s_bslice ?_ | refine s_build ?_ | refine fh_ret1 def_nil ?_ ?_ | exact memIn_nil | refine memIn_same ?_ | refine m1 ?_ ?_ | refine m2 ?_ ?_ | exact am_same)
      (apply s_round ((j + 1, _)); all_goals (try dsimp only); all_goals (try (repeat' (first | exact slots_nil | refine w1 ?_ | exact memIn_nil | refine memIn_same ?_ | refine m1 ?_ ?_ | refine m2 ?_ ?_ | omega))))
      rw [rowS, List.map_append]; rfl
    · obtain rfl : j = w := by omega
      have hnx := next_h (rowS T j).2 8 rok (by omega) (by omega)
      obtain ⟨q1, q2⟩ := (rowS T j).2.nx_bd 8
      have hvn : (entNums.map iD)[((rowS T j).2.nx 8).toNat]? = some (iD (rowS T j).2.num) := by
        rw [List.getElem?_map]
        unfold Tape.num
        rw [List.getD_eq_getElem?_getD, List.getElem?_eq_getElem (by simp [entNums]; omega)]; rfl
      have hf9 : List.take j ((rowS T j).1.map Val.d) = (rowS T j).1.map Val.d := take_ge (by simp; omega)
      repeat' (first | refine s_freeze 9 ?_ (hes := hf9) | (with_reducible (first | refine k_seq ?_ | refine k_block ?_ | refine k_skip ?_ | refine k_exit ?_ | refine k_ret ?_ | refine n_seq ?_ | refine n_block ?_ | refine e_seq ?_ | refine e_here ?_ | refine o_exit ?_)) | refine s_reg ?_ | refine s_ifT ?_ | refine s_ifF ?_ | refine r_end ?_ | refine s_move ?_ | refine s_assign ?_ | refine s_int ?_ | refine s_loadF1 ?_ | refine s_indexD ?_ (hel := (by first | exact idx_map hvn (by omega) | exact hvn | exact rfl)) | refine s_callH [0] (hnx) ?_ | refine s_appA ?_ | refine s_bslice ?_ | refine s_build ?_ | refine fh_ret1 def_nil ?_ ?_ | exact memIn_nil | refine memIn_same ?_ | refine m1 ?_ ?_ | refine m2 ?_ ?_ | exact am_same)
      (apply s_round ((m + 1, _)); all_goals (try dsimp only); all_goals (try (repeat' (first | exact slots_nil | refine w1 ?_ | exact memIn_nil | refine memIn_same ?_ | refine m1 ?_ ?_ | refine m2 ?_ ?_ | omega))))
      · rw [hstep]
      · rw [hstep, List.map_append]; rfl
  · obtain rfl : m = i := by omega
    repeat' (first | (with_reducible (first | refine k_seq ?_ | refine k_block ?_ | refine k_skip ?_ | refine k_exit ?_ | refine k_ret ?_ | refine n_seq ?_ | refine n_block ?_ | refine e_seq ?_ | refine e_here ?_ | refine o_exit ?_)) | refine s_reg ?_ | refine s_ifT ?_ | refine s_ifF ?_ | refine r_end ?_ | refine s_move ?_ | refine s_assign ?_ | refine s_int ?_ | refine s_loadF1 ?_ | refine s_indexD ?_ (hel := (by first | exact rfl)) | refine s_appA ?_ | refine s_bslice ?_ | refine s_build ?_ | refine fh_ret1 def_nil ?_ ?_ | exact memIn_nil | refine memIn_same ?_ | refine m1 ?_ ?_ | refine m2 ?_ ?_ | exact am_same)
end Go.Proofs.Ytgfachlcocjdbaa
