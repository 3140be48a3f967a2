/-
  bag.limits; a valid bag is sorted (for seats without bag.Normalize).
-/
import Derived.Test.YtmejclckkmpggaaNmv
namespace Go.Proofs.Ytmejclckkmpggaa
open Go.Abs Go.RowKit
attribute [local irreducible] ARun kont MCall PCall HCall resVal SF CF CFs defersOk slotsIn memIn fin finM VLe
set_option linter.unusedSimpArgs false
set_option maxRecDepth 100000
set_option maxHeartbeats 4000000

theorem limits_c (l : List Entry) : PCall Try.prog 93 [.one (bagD l)] (.v (.one (.lit (.int .i64 (fitsE l).2)))) := by
  refine pcallN hT Try.func93 Try.ntmps93 [.tmp 2] fun B => ?_
  repeat' (first | (with_reducible (first | refine k_seq ?_ | refine k_block ?_ | refine k_skip ?_ | refine k_exit ?_ | refine k_ret ?_ | refine n_seq ?_ | refine n_block ?_ | refine e_seq ?_ | refine e_here ?_ | refine r_seq ?_ | refine r_block ?_ | refine o_exit ?_ | refine o_ret ?_)) | refine s_reg ?_ | refine s_ifT ?_ | refine s_ifF ?_ | refine s_if rfl (fun hb => ?_) (fun hb => ?_) | refine r_end ?_ | refine s_move ?_ | refine s_assign ?_ | refine s_int ?_ | refine s_loadB1 ?_ | refine s_loadFA ?_ | refine s_indexD ?_ (hel := (by first | exact rfl)) | refine s_fieldB ?_ | refine s_lenD ?_ | refine s_storeB ?_ | refine s_alloc ?_ | refine s_not ?_ | refine f_ret1 def_nil ?_ | refine t_tmp ?_)
  all_goals try (first | (rw [fitsE, if_pos (by omega)]; rfl) | (rw [fitsE, if_pos (by omega)]))
  have hl : l.length ≤ 4096 := by omega
  refine s_lp (X := Nat) [2, 4, 10, 11, 12, 13, 14, 15, 16, 17, 18] (fun x => x ≤ l.length ∧ (l.take x).all (fun e => countOK e.count) = true) (fun x lz => (10, (.c (.d (.lit (.int .i64 x))))) :: lz) (fun x => []) (fun x => l.length - x) (0) ?_ ?_ ?_ ?_
  repeat' (first | exact slots_nil | refine w1 ?_ | exact memIn_nil | omega)
  · exact ⟨by simp, by simp⟩
  rintro i c ⟨hi, hinv⟩
  by_cases hlt : i < l.length
  · have hv : l[i]? = some l[i] := List.getElem?_eq_getElem hlt
    generalize l[i] = e at hv
    repeat' (first | (with_reducible (first | refine k_seq ?_ | refine k_block ?_ | refine k_skip ?_ | refine k_exit ?_ | refine k_ret ?_ | refine n_seq ?_ | refine n_block ?_ | refine e_seq ?_ | refine e_here ?_ | refine r_seq ?_ | refine r_block ?_ | refine o_exit ?_ | refine o_ret ?_)) | refine s_reg ?_ | refine s_ifT ?_ | refine s_ifF ?_ | refine s_if rfl (fun hb => ?_) (fun hb => ?_) | refine r_end ?_ | refine s_move ?_ | refine s_assign ?_ | refine s_int ?_ | refine s_loadB1 ?_ | refine s_loadFA ?_ | refine s_indexD ?_ (hel := (by first | exact idx_map hv (by omega) | exact hv | exact rfl)) | refine s_fieldB ?_ | refine s_call (inRange_c _) ?_ | refine s_lenD ?_ | refine s_storeB ?_ | refine s_alloc ?_ | refine s_not ?_ | refine f_ret1 def_nil ?_ | refine t_tmp ?_)
    · rw [fitsE, if_neg (by omega), not_all (fun e : Entry => countOK e.count) hv hb]; rfl
    · (apply s_round (i + 1); all_goals (try dsimp only); all_goals (try (repeat' (first | exact slots_nil | refine w1 ?_ | exact memIn_nil | omega))))
      exact ⟨by omega, take_all (fun e : Entry => countOK e.count) hv hinv hb⟩
  · rw [take_ge (by omega)] at hinv
    repeat' (first | (with_reducible (first | refine k_seq ?_ | refine k_block ?_ | refine k_skip ?_ | refine k_exit ?_ | refine k_ret ?_ | refine n_seq ?_ | refine n_block ?_ | refine e_seq ?_ | refine e_here ?_ | refine r_seq ?_ | refine r_block ?_ | refine o_exit ?_ | refine o_ret ?_)) | refine s_reg ?_ | refine s_ifT ?_ | refine s_ifF ?_ | refine s_if rfl (fun hb => ?_) (fun hb => ?_) | refine r_end ?_ | refine s_move ?_ | refine s_assign ?_ | refine s_int ?_ | refine s_loadB1 ?_ | refine s_loadFA ?_ | refine s_indexD ?_ (hel := (by first | exact rfl)) | refine s_fieldB ?_ | refine s_lenD ?_ | refine s_storeB ?_ | refine s_alloc ?_ | refine s_not ?_ | refine f_ret1 def_nil ?_ | refine t_tmp ?_)
    all_goals (rw [fitsE, if_neg (by omega), hinv]; rfl)

theorem sorted_of_valid {l : List Entry} (h : bagValid l = true) : Sorted l := by
  obtain ⟨_, hm⟩ := valid_mem h
  refine ⟨?_, fun e he => (hm e he).2.2, fun e he => rowOK_clean (hm e he).1⟩
  simp only [bagValid, Bool.and_eq_true] at h
  have key : ∀ {l : List Entry} {p : Option Entry}, goodFrom p l = true → l.Pairwise eR ∧ ∀ q, p = some q → ∀ e ∈ l, eR q e := by
    intro l
    induction l with
    | nil => intro p _; exact ⟨.nil, by simp⟩
    | cons x l ih =>
      intro p hp
      simp only [goodFrom, Bool.and_eq_true] at hp
      obtain ⟨i1, i2⟩ := ih hp.2
      refine ⟨List.pairwise_cons.2 ⟨i2 x rfl, i1⟩, fun q hq e he => ?_⟩
      subst hq
      have hqx : eR q x := by simpa [eR] using hp.1.2
      rcases List.mem_cons.1 he with rfl | he
      · exact hqx
      · exact eR_tr _ _ _ hqx (i2 x rfl e he)
  exact (key h.2).1

end Go.Proofs.Ytmejclckkmpggaa
