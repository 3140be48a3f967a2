/-
  The laws about caches: what is short, and the example of the chapter.
-/
import Derived.Test.YtmejclckkmpggaaCae
namespace Go.Proofs.Ytmejclckkmpggaa
open Go.Abs Go.RowKit
attribute [local irreducible] ARun kont MCall PCall HCall resVal SF CF CFs defersOk slotsIn memIn fin finM VLe
set_option linter.unusedSimpArgs false
set_option maxRecDepth 100000
set_option maxHeartbeats 4000000

def shortE (l : List Entry) : Bool := l.all (fun e => decide (e.row.length ≤ 20)) && decide (l.length ≤ 40)

theorem short_c (l : List Entry) : PCall Try.prog 12 [.one (bagD l)] (.v (.one (.lit (.bool (shortE l))))) := by
  refine pcallN hT Try.func12 Try.ntmps12 [.tmp 2] fun B => ?_
  refine k_len 0 rfl fun hll => ?_
  simp only [List.length_map, maxLen] at hll
  repeat' (first | (with_reducible (first | refine k_seq ?_ | refine k_block ?_ | refine k_skip ?_ | refine k_exit ?_ | refine k_ret ?_ | refine n_seq ?_ | refine n_block ?_ | refine e_seq ?_ | refine e_here ?_ | refine r_seq ?_ | refine r_block ?_ | refine o_exit ?_ | refine o_ret ?_)) | refine s_reg ?_ | refine s_ifT ?_ | refine s_ifF ?_ | refine r_end ?_ | refine s_move ?_ | refine s_assign ?_ | refine s_int ?_ | refine s_loadF1 ?_ | refine s_indexD ?_ (hel := (by first | exact rfl)) | refine s_fieldF ?_ | refine s_lenD ?_ | refine f_ret1 def_nil ?_ | refine t_tmp ?_)
  refine s_lp (X := Nat) [2, 3, 4, 5, 6, 7, 8, 9, 10, 11, 12, 13, 14, 15, 16] (fun x => x ≤ l.length ∧ (l.take x).all (fun e => decide (e.row.length ≤ 20)) = true) (fun x lz => (3, (.c (.d (.lit (.int .i64 x))))) :: lz) (fun x => []) (fun x => l.length - x) (0) ?_ ?_ ?_ ?_
  repeat' (first | exact slots_nil | refine w1 ?_ | exact memIn_nil | omega)
  · exact ⟨by simp, by simp⟩
  rintro i c ⟨hi, hinv⟩
  by_cases hlt : i < l.length
  · have hv : l[i]? = some l[i] := List.getElem?_eq_getElem hlt
    generalize l[i] = e at hv
    by_cases hr : 20 < e.row.length
    · rw [shortE, not_all (fun e : Entry => decide (e.row.length ≤ 20)) hv (by simpa using hr), Bool.false_and]
      repeat' (first | (with_reducible (first | refine k_seq ?_ | refine k_block ?_ | refine k_skip ?_ | refine k_exit ?_ | refine k_ret ?_ | refine n_seq ?_ | refine n_block ?_ | refine e_seq ?_ | refine e_here ?_ | refine r_seq ?_ | refine r_block ?_ | refine o_exit ?_ | refine o_ret ?_)) | refine s_reg ?_ | refine s_ifT ?_ | refine s_ifF ?_ | refine r_end ?_ | refine s_move ?_ | refine s_assign ?_ | refine s_int ?_ | refine s_loadF1 ?_ | refine s_indexD ?_ (hel := (by first | exact idx_map hv (by omega) | exact hv | exact rfl)) | refine s_fieldF ?_ | refine s_lenD ?_ | refine f_ret1 def_nil ?_ | refine t_tmp ?_)
      all_goals rfl
    · repeat' (first | (with_reducible (first | refine k_seq ?_ | refine k_block ?_ | refine k_skip ?_ | refine k_exit ?_ | refine k_ret ?_ | refine n_seq ?_ | refine n_block ?_ | refine e_seq ?_ | refine e_here ?_ | refine r_seq ?_ | refine r_block ?_ | refine o_exit ?_ | refine o_ret ?_)) | refine s_reg ?_ | refine s_ifT ?_ | refine s_ifF ?_ | refine r_end ?_ | refine s_move ?_ | refine s_assign ?_ | refine s_int ?_ | refine s_loadF1 ?_ | refine s_indexD ?_ (hel := (by first | exact idx_map hv (by omega) | exact hv | exact rfl)) | refine s_fieldF ?_ | refine s_lenD ?_ | refine f_ret1 def_nil ?_ | refine t_tmp ?_)
      (apply s_round (i + 1); all_goals (try dsimp only); all_goals (try (repeat' (first | exact slots_nil | refine w1 ?_ | exact memIn_nil | omega))))
      exact ⟨by omega, take_all (fun e : Entry => decide (e.row.length ≤ 20)) hv hinv (by simp; omega)⟩
  · rw [take_ge (by omega)] at hinv
    rw [shortE, hinv]
    repeat' (first | (with_reducible (first | refine k_seq ?_ | refine k_block ?_ | refine k_skip ?_ | refine k_exit ?_ | refine k_ret ?_ | refine n_seq ?_ | refine n_block ?_ | refine e_seq ?_ | refine e_here ?_ | refine r_seq ?_ | refine r_block ?_ | refine o_exit ?_ | refine o_ret ?_)) | refine s_reg ?_ | refine s_ifT ?_ | refine s_ifF ?_ | refine r_end ?_ | refine s_move ?_ | refine s_assign ?_ | refine s_int ?_ | refine s_loadF1 ?_ | refine s_indexD ?_ (hel := (by first | exact rfl)) | refine s_fieldF ?_ | refine s_lenD ?_ | refine f_ret1 def_nil ?_ | refine t_tmp ?_)
    all_goals (refine congrArg Dat.lit (congrArg Value.bool ?_); simp; omega)

theorem short_says {l : List Entry} (h : shortE l = true) : l.length ≤ 40 ∧ ∀ e ∈ l, e.row.length ≤ 20 := by
  simp only [shortE, Bool.and_eq_true, decide_eq_true_eq, List.all_eq_true] at h
  exact ⟨h.2, fun e he => h.1 e he⟩

def v7 : Val := Val.ofInt 7
def wc : Conf := ⟨⟨#[]⟩, ⟨#[]⟩, 0, 2⟩
def wx : Cach := ⟨v7, [⟨[v7], 3⟩], 5⟩

theorem awake30_c : PCall Try.prog 13 [] (.v (.one (.lit (.bool true)))) := by
  have h7 : v7.valid = true := by decide +kernel
  have e7 : v7.clean = v7 := by unfold Val.clean; rw [if_pos h7]
  have s1 : selE [⟨[v7], 3⟩] wc.col v7.clean = [⟨[v7], 3⟩] := by
    rw [selE, List.filter_cons_of_pos (by decide +kernel)]; rfl
  have s2 : selE [] wc.col v7.clean = [] := rfl
  have s3 : [wx].filter (liveE wc.ttl 6) = [wx] := by rw [List.filter_cons_of_pos (by decide +kernel)]; rfl
  have s4 : [wx].filter (liveE wc.ttl 7) = [] := by rw [List.filter_cons_of_neg (by decide +kernel)]; rfl
  have c1 := lookNew0_c wc [] [⟨[v7], 3⟩] v7 5 (by decide +kernel) (by decide +kernel) (by decide +kernel) (by decide +kernel) rfl
  have c2 := lookFound_c wc [wx] [] v7 6 (by decide +kernel) (by decide +kernel) (by decide +kernel) (by decide +kernel) 0 wx (by rw [s3]; rfl) e7.symm (fun j x h => by omega)
  have c3 := lookNew0_c wc [wx] [] v7 7 (by decide +kernel) (by decide +kernel) (by decide +kernel) (by decide +kernel) s4
  rw [s1, e7] at c1
  rw [s3] at c2
  rw [s2, e7] at c3
  have c0 : PCall Try.prog 19 [.one (.lit (.int .i64 7))] (.v (.agg v7.d)) := refInt_c 7
  unfold wx at c2 c3
  clear h7 e7 s1 s2 s3 s4
  generalize v7 = V at *
  refine pcallN hT Try.func13 Try.ntmps13 [.tmp 0] fun B => ?_
  repeat' (first | (with_reducible (first | refine k_seq ?_ | refine k_ret ?_ | refine n_seq ?_)) | refine s_reg ?_ | refine r_end ?_ | refine s_move ?_ | refine s_assign ?_ | refine s_int ?_ | refine s_loadBA ?_ | refine s_call (c0) ?_ | refine s_call (c1) ?_ | refine s_call (c2) ?_ | refine s_call (c3) ?_ | refine s_pick ?_ | refine s_lenD ?_ | refine s_storeB ?_ | refine s_bslice ?_ | refine s_extract ?_ | refine s_alloc ?_ | refine s_build ?_ | refine f_ret1 def_nil ?_ | refine t_tmp ?_)
  all_goals rfl
end Go.Proofs.Ytmejclckkmpggaa
