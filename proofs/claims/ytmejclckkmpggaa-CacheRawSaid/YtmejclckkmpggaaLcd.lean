/-
  CacheForgets.
-/
import Derived.Test.YtmejclckkmpggaaCaf
import Derived.Test.YtmejclckkmpggaaCag
import Derived.Test.YtmejclckkmpggaaTov
import Derived.Test.YtmejclckkmpggaaNmv
namespace Go.Proofs.Ytmejclckkmpggaa
open Go.Abs Go.RowKit
attribute [local irreducible] ARun kont MCall PCall HCall resVal SF CF CFs defersOk slotsIn memIn fin finM VLe
set_option linter.unusedSimpArgs false
set_option maxRecDepth 100000
set_option maxHeartbeats 4000000

def smallE (s : List Cach) : Bool := s.all (fun x => shortE x.rows) && decide (s.length ≤ 30)

theorem small_c (l : List Cach) : PCall Try.prog 31 [.one (cachD l)] (.v (.one (.lit (.bool (smallE l))))) := by
  refine pcallN hT Try.func31 Try.ntmps31 [.tmp 2] fun B => ?_
  refine k_len 0 rfl fun hll => ?_
  simp only [List.length_map, maxLen] at hll
  repeat' (first | (with_reducible (first | refine k_seq ?_ | refine k_block ?_ | refine k_skip ?_ | refine k_exit ?_ | refine k_ret ?_ | refine n_seq ?_ | refine n_block ?_ | refine e_seq ?_ | refine e_here ?_ | refine r_seq ?_ | refine r_block ?_ | refine o_exit ?_ | refine o_ret ?_)) | refine s_reg ?_ | refine s_ifT ?_ | refine s_ifF ?_ | refine r_end ?_ | refine s_move ?_ | refine s_assign ?_ | refine s_int ?_ | refine s_loadF1 ?_ | refine s_indexD ?_ (hel := (by first | exact rfl)) | refine s_fieldF ?_ | refine s_lenD ?_ | refine s_not ?_ | refine f_ret1 def_nil ?_ | refine t_tmp ?_)
  refine s_lp (X := Nat) [2, 3, 4, 5, 6, 7, 8, 9, 10, 11, 12, 13, 14, 15, 16] (fun x => x ≤ l.length ∧ (l.take x).all (fun x => shortE x.rows) = true) (fun x lz => (3, (.c (.d (.lit (.int .i64 x))))) :: lz) (fun x => []) (fun x => l.length - x) (0) ?_ ?_ ?_ ?_
  repeat' (first | exact slots_nil | refine w1 ?_ | exact memIn_nil | omega)
  · exact ⟨by simp, by simp⟩
  rintro i c ⟨hi, hinv⟩
  by_cases hlt : i < l.length
  · have hv : l[i]? = some l[i] := List.getElem?_eq_getElem hlt
    generalize l[i] = e at hv
    have hsc := short_c e.rows
    cases hr : shortE e.rows with
    | false =>
      rw [hr] at hsc
      rw [smallE, not_all (fun x : Cach => shortE x.rows) hv hr, Bool.false_and]
      repeat' (first | (with_reducible (first | refine k_seq ?_ | refine k_block ?_ | refine k_skip ?_ | refine k_exit ?_ | refine k_ret ?_ | refine n_seq ?_ | refine n_block ?_ | refine e_seq ?_ | refine e_here ?_ | refine r_seq ?_ | refine r_block ?_ | refine o_exit ?_ | refine o_ret ?_)) | refine s_reg ?_ | refine s_ifT ?_ | refine s_ifF ?_ | refine r_end ?_ | refine s_move ?_ | refine s_assign ?_ | refine s_int ?_ | refine s_loadF1 ?_ | refine s_indexD ?_ (hel := (by first | exact idx_map hv (by omega) | exact hv | exact rfl)) | refine s_fieldF ?_ | refine s_call (hsc) ?_ | refine s_lenD ?_ | refine s_not ?_ | refine f_ret1 def_nil ?_ | refine t_tmp ?_)
      all_goals rfl
    | true =>
      rw [hr] at hsc
      repeat' (first | (with_reducible (first | refine k_seq ?_ | refine k_block ?_ | refine k_skip ?_ | refine k_exit ?_ | refine k_ret ?_ | refine n_seq ?_ | refine n_block ?_ | refine e_seq ?_ | refine e_here ?_ | refine r_seq ?_ | refine r_block ?_ | refine o_exit ?_ | refine o_ret ?_)) | refine s_reg ?_ | refine s_ifT ?_ | refine s_ifF ?_ | refine r_end ?_ | refine s_move ?_ | refine s_assign ?_ | refine s_int ?_ | refine s_loadF1 ?_ | refine s_indexD ?_ (hel := (by first | exact idx_map hv (by omega) | exact hv | exact rfl)) | refine s_fieldF ?_ | refine s_call (hsc) ?_ | refine s_lenD ?_ | refine s_not ?_ | refine f_ret1 def_nil ?_ | refine t_tmp ?_)
      (apply s_round (i + 1); all_goals (try dsimp only); all_goals (try (repeat' (first | exact slots_nil | refine w1 ?_ | exact memIn_nil | omega))))
      exact ⟨by omega, take_all (fun x : Cach => shortE x.rows) hv hinv hr⟩
  · rw [take_ge (by omega)] at hinv
    rw [smallE, hinv]
    repeat' (first | (with_reducible (first | refine k_seq ?_ | refine k_block ?_ | refine k_skip ?_ | refine k_exit ?_ | refine k_ret ?_ | refine n_seq ?_ | refine n_block ?_ | refine e_seq ?_ | refine e_here ?_ | refine r_seq ?_ | refine r_block ?_ | refine o_exit ?_ | refine o_ret ?_)) | refine s_reg ?_ | refine s_ifT ?_ | refine s_ifF ?_ | refine r_end ?_ | refine s_move ?_ | refine s_assign ?_ | refine s_int ?_ | refine s_loadF1 ?_ | refine s_indexD ?_ (hel := (by first | exact rfl)) | refine s_fieldF ?_ | refine s_lenD ?_ | refine s_not ?_ | refine f_ret1 def_nil ?_ | refine t_tmp ?_)
    all_goals (refine congrArg Dat.lit (congrArg Value.bool ?_); simp; omega)

end Go.Proofs.Ytmejclckkmpggaa
