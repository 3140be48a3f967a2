/-
  slices.ContainsFunc for entries and for numbers.
-/
import Derived.Test.YtiidgbfdghplhaaGreatBag
namespace Go.Proofs.YtiidgbfdghplhaaGreat
open Go.Abs Go.RowKit
attribute [local irreducible] ARun kont MCall PCall HCall resVal SF CF CFs defersOk slotsIn memIn fin finM VLe
set_option linter.unusedSimpArgs false
set_option maxRecDepth 100000
set_option maxHeartbeats 4000000

def intsD (l : List Int) : Dat := .sl (l.map fun n => [.lit (.int .i64 n)])

theorem idxE_c (g : FuncId) (p : Entry → Bool) (hg : ∀ e : Entry, PCall Tryz.prog g [.agg e.d] (.v (.one (.lit (.bool (p e)))))) (b : List Entry) :
    ∃ k : Int, (0 ≤ k ↔ b.any p = true) ∧ PCall Tryz.prog 121 [.one (bagD b), .one (.lit (.func (.func g) #[] #[]))] (.v (.one (.lit (.int .i64 k)))) := by
  have key : ∀ K : Int, (∀ i e, b[i]? = some e → p e = true → (b.take i).all (fun e => !p e) = true → K = i) → (b.all (fun e => !p e) = true → K = -1) →
      PCall Tryz.prog 121 [.one (bagD b), .one (.lit (.func (.func g) #[] #[]))] (.v (.one (.lit (.int .i64 K)))) := by
    intro K hK1 hK2
    refine pcallN hT Tryz.func121 Tryz.ntmps121 [.tmp 4] fun B => ?_
    refine k_len 0 rfl fun hlr => ?_
    simp only [List.length_map, maxLen] at hlr
    repeat' (first | (with_reducible (first | refine k_seq ?_ | refine k_block ?_ | refine k_skip ?_ | refine k_exit ?_ | refine k_ret ?_ | refine n_seq ?_ | refine n_block ?_ | refine e_seq ?_ | refine e_here ?_ | refine r_seq ?_ | refine r_block ?_ | refine o_exit ?_ | refine o_ret ?_)) | refine s_reg ?_ | refine s_ifT ?_ | refine s_ifF ?_ | refine r_end ?_ | refine s_move ?_ | refine s_assign ?_ | refine s_int ?_ | refine s_loadFA ?_ | refine s_indexD ?_ (hel := (by first | exact rfl)) | refine s_lenD ?_ | refine f_ret1 def_nil ?_ | refine t_tmp ?_)
    refine s_lp (X := Nat) [4, 5, 8, 9, 10, 11, 12, 13, 14, 15, 16, 17, 18] (fun x => x ≤ b.length ∧ (b.take x).all (fun e => !p e) = true) (fun x lz => (8, (.c (.d (.lit (.int .i64 x))))) :: lz) (fun x => []) (fun x => b.length - x) (0) ?_ ?_ ?_ ?_
    repeat' (first | exact slots_nil | refine w1 ?_ | exact memIn_nil | omega)
    · exact ⟨by simp, by simp⟩
    rintro i c ⟨hi, hinv⟩
    by_cases hlt : i < b.length
    · have hv : b[i]? = some b[i] := List.getElem?_eq_getElem hlt
      generalize b[i] = e at hv
      have htk : ∀ f : Entry → Bool, (b.take (i + 1)).all f = ((b.take i).all f && f e) := fun f => by rw [List.take_add_one, hv, List.all_append]; simp
      have hge := hg e
      have hk1 := hK1 i e hv
      cases hp : p e
      · rw [hp] at hge
        repeat' (first | (with_reducible (first | refine k_seq ?_ | refine k_block ?_ | refine k_skip ?_ | refine k_exit ?_ | refine k_ret ?_ | refine n_seq ?_ | refine n_block ?_ | refine e_seq ?_ | refine e_here ?_ | refine r_seq ?_ | refine r_block ?_ | refine o_exit ?_ | refine o_ret ?_)) | refine s_reg ?_ | refine s_ifT ?_ | refine s_ifF ?_ | refine r_end ?_ | refine s_move ?_ | refine s_assign ?_ | refine s_int ?_ | refine s_loadFA ?_ | refine s_indexD ?_ (hel := (by first | exact idx_map hv (by omega) | exact hv | exact rfl)) | refine s_call (hge) ?_ | refine s_lenD ?_ | refine f_ret1 def_nil ?_ | refine t_tmp ?_)
        (apply s_round (i + 1); all_goals (try dsimp only); all_goals (try (repeat' (first | exact slots_nil | refine w1 ?_ | exact memIn_nil | omega))))
        exact ⟨by omega, by rw [htk, hinv, hp]; rfl⟩
      · rw [hp] at hge
        rw [hk1 hp hinv]
        repeat' (first | (with_reducible (first | refine k_seq ?_ | refine k_block ?_ | refine k_skip ?_ | refine k_exit ?_ | refine k_ret ?_ | refine n_seq ?_ | refine n_block ?_ | refine e_seq ?_ | refine e_here ?_ | refine r_seq ?_ | refine r_block ?_ | refine o_exit ?_ | refine o_ret ?_)) | refine s_reg ?_ | refine s_ifT ?_ | refine s_ifF ?_ | refine r_end ?_ | refine s_move ?_ | refine s_assign ?_ | refine s_int ?_ | refine s_loadFA ?_ | refine s_indexD ?_ (hel := (by first | exact idx_map hv (by omega) | exact hv | exact rfl)) | refine s_call (hge) ?_ | refine s_lenD ?_ | refine f_ret1 def_nil ?_ | refine t_tmp ?_)
        all_goals rfl
    · have hie : i = b.length := by omega
      subst hie
      rw [List.take_length] at hinv
      rw [hK2 hinv]
      repeat' (first | (with_reducible (first | refine k_seq ?_ | refine k_block ?_ | refine k_skip ?_ | refine k_exit ?_ | refine k_ret ?_ | refine n_seq ?_ | refine n_block ?_ | refine e_seq ?_ | refine e_here ?_ | refine r_seq ?_ | refine r_block ?_ | refine o_exit ?_ | refine o_ret ?_)) | refine s_reg ?_ | refine s_ifT ?_ | refine s_ifF ?_ | refine r_end ?_ | refine s_move ?_ | refine s_assign ?_ | refine s_int ?_ | refine s_loadFA ?_ | refine s_indexD ?_ (hel := (by first | exact rfl)) | refine s_lenD ?_ | refine f_ret1 def_nil ?_ | refine t_tmp ?_)
      all_goals rfl
  cases hf : b.findIdx? p with
  | none =>
    refine ⟨-1, ?_, key (-1) (fun i e he hp _ => ?_) (fun _ => rfl)⟩
    · have : b.any p = false := by
        rw [List.any_eq_false]
        intro x hx
        have := List.findIdx?_eq_none_iff.1 hf x hx
        simpa using this
      rw [this]; simp
    · have := List.findIdx?_eq_none_iff.1 hf e (List.mem_of_getElem? he)
      rw [hp] at this; cases this
  | some j =>
    obtain ⟨hj, hpj, hlt⟩ := List.findIdx?_eq_some_iff_getElem.1 hf
    refine ⟨j, ?_, key j (fun i e he hp hall => ?_) (fun hall => ?_)⟩
    · have : b.any p = true := List.any_eq_true.2 ⟨_, List.getElem_mem hj, hpj⟩
      rw [this]; simp
    · obtain ⟨hil, hie⟩ := List.getElem?_eq_some_iff.1 he
      rcases Nat.lt_trichotomy i j with h | h | h
      · exact absurd (by rw [hie]; exact hp) (hlt i h)
      · rw [h]
      · have hm : b[j] ∈ b.take i := by
          rw [List.mem_take_iff_getElem]
          exact ⟨j, by omega, rfl⟩
        have := List.all_eq_true.1 hall _ hm
        rw [hpj] at this; cases this
    · have := List.all_eq_true.1 hall _ (List.getElem_mem hj)
      rw [hpj] at this; cases this

theorem containsE_c (g : FuncId) (p : Entry → Bool) (hg : ∀ e : Entry, PCall Tryz.prog g [.agg e.d] (.v (.one (.lit (.bool (p e)))))) (b : List Entry) :
    PCall Tryz.prog 89 [.one (bagD b), .one (.lit (.func (.func g) #[] #[]))] (.v (.one (.lit (.bool (b.any p))))) := by
  obtain ⟨k, hk, hc⟩ := idxE_c g p hg b
  refine pcallN hT Tryz.func89 Tryz.ntmps89 [.tmp 4] fun B => ?_
  repeat' (first | (with_reducible (first | refine k_seq ?_ | refine k_ret ?_ | refine n_seq ?_)) | refine s_reg ?_ | refine r_end ?_ | refine s_move ?_ | refine s_assign ?_ | refine s_int ?_ | refine s_call (hc) ?_ | refine f_ret1 def_nil ?_ | refine t_tmp ?_)
  refine congrArg Dat.lit (congrArg Value.bool ?_)
  rw [Bool.eq_iff_iff, decide_eq_true_eq]
  exact hk
theorem idxI_c (g : FuncId) (p : Int → Bool) (hg : ∀ e : Int, PCall Tryz.prog g [.one (.lit (.int .i64 e))] (.v (.one (.lit (.bool (p e)))))) (b : List Int) :
    ∃ k : Int, (0 ≤ k ↔ b.any p = true) ∧ PCall Tryz.prog 96 [.one (intsD b), .one (.lit (.func (.func g) #[] #[]))] (.v (.one (.lit (.int .i64 k)))) := by
  have key : ∀ K : Int, (∀ i e, b[i]? = some e → p e = true → (b.take i).all (fun e => !p e) = true → K = i) → (b.all (fun e => !p e) = true → K = -1) →
      PCall Tryz.prog 96 [.one (intsD b), .one (.lit (.func (.func g) #[] #[]))] (.v (.one (.lit (.int .i64 K)))) := by
    intro K hK1 hK2
    refine pcallN hT Tryz.func96 Tryz.ntmps96 [.tmp 4] fun B => ?_
    refine k_len 0 rfl fun hlr => ?_
    simp only [List.length_map, maxLen] at hlr
    repeat' (first | (with_reducible (first | refine k_seq ?_ | refine k_block ?_ | refine k_skip ?_ | refine k_exit ?_ | refine k_ret ?_ | refine n_seq ?_ | refine n_block ?_ | refine e_seq ?_ | refine e_here ?_ | refine r_seq ?_ | refine r_block ?_ | refine o_exit ?_ | refine o_ret ?_)) | refine s_reg ?_ | refine s_ifT ?_ | refine s_ifF ?_ | refine r_end ?_ | refine s_move ?_ | refine s_assign ?_ | refine s_int ?_ | refine s_loadF1 ?_ | refine s_indexD ?_ (hel := (by first | exact rfl)) | refine s_lenD ?_ | refine f_ret1 def_nil ?_ | refine t_tmp ?_)
    refine s_lp (X := Nat) [4, 5, 8, 9, 10, 11, 12, 13, 14, 15, 16, 17, 18] (fun x => x ≤ b.length ∧ (b.take x).all (fun e => !p e) = true) (fun x lz => (8, (.c (.d (.lit (.int .i64 x))))) :: lz) (fun x => []) (fun x => b.length - x) (0) ?_ ?_ ?_ ?_
    repeat' (first | exact slots_nil | refine w1 ?_ | exact memIn_nil | omega)
    · exact ⟨by simp, by simp⟩
    rintro i c ⟨hi, hinv⟩
    by_cases hlt : i < b.length
    · have hv : b[i]? = some b[i] := List.getElem?_eq_getElem hlt
      generalize b[i] = e at hv
      have htk : ∀ f : Int → Bool, (b.take (i + 1)).all f = ((b.take i).all f && f e) := fun f => by rw [List.take_add_one, hv, List.all_append]; simp
      have hge := hg e
      have hk1 := hK1 i e hv
      cases hp : p e
      · rw [hp] at hge
        repeat' (first | (with_reducible (first | refine k_seq ?_ | refine k_block ?_ | refine k_skip ?_ | refine k_exit ?_ | refine k_ret ?_ | refine n_seq ?_ | refine n_block ?_ | refine e_seq ?_ | refine e_here ?_ | refine r_seq ?_ | refine r_block ?_ | refine o_exit ?_ | refine o_ret ?_)) | refine s_reg ?_ | refine s_ifT ?_ | refine s_ifF ?_ | refine r_end ?_ | refine s_move ?_ | refine s_assign ?_ | refine s_int ?_ | refine s_loadF1 ?_ | refine s_indexD ?_ (hel := (by first | exact idx_map hv (by omega) | exact hv | exact rfl)) | refine s_call (hge) ?_ | refine s_lenD ?_ | refine f_ret1 def_nil ?_ | refine t_tmp ?_)
        (apply s_round (i + 1); all_goals (try dsimp only); all_goals (try (repeat' (first | exact slots_nil | refine w1 ?_ | exact memIn_nil | omega))))
        exact ⟨by omega, by rw [htk, hinv, hp]; rfl⟩
      · rw [hp] at hge
        rw [hk1 hp hinv]
        repeat' (first | (with_reducible (first | refine k_seq ?_ | refine k_block ?_ | refine k_skip ?_ | refine k_exit ?_ | refine k_ret ?_ | refine n_seq ?_ | refine n_block ?_ | refine e_seq ?_ | refine e_here ?_ | refine r_seq ?_ | refine r_block ?_ | refine o_exit ?_ | refine o_ret ?_)) | refine s_reg ?_ | refine s_ifT ?_ | refine s_ifF ?_ | refine r_end ?_ | refine s_move ?_ | refine s_assign ?_ | refine s_int ?_ | refine s_loadF1 ?_ | refine s_indexD ?_ (hel := (by first | exact idx_map hv (by omega) | exact hv | exact rfl)) | refine s_call (hge) ?_ | refine s_lenD ?_ | refine f_ret1 def_nil ?_ | refine t_tmp ?_)
        all_goals rfl
    · have hie : i = b.length := by omega
      subst hie
      rw [List.take_length] at hinv
      rw [hK2 hinv]
      repeat' (first | (with_reducible (first | refine k_seq ?_ | refine k_block ?_ | refine k_skip ?_ | refine k_exit ?_ | refine k_ret ?_ | refine n_seq ?_ | refine n_block ?_ | refine e_seq ?_ | refine e_here ?_ | refine r_seq ?_ | refine r_block ?_ | refine o_exit ?_ | refine o_ret ?_)) | refine s_reg ?_ | refine s_ifT ?_ | refine s_ifF ?_ | refine r_end ?_ | refine s_move ?_ | refine s_assign ?_ | refine s_int ?_ | refine s_loadF1 ?_ | refine s_indexD ?_ (hel := (by first | exact rfl)) | refine s_lenD ?_ | refine f_ret1 def_nil ?_ | refine t_tmp ?_)
      all_goals rfl
  cases hf : b.findIdx? p with
  | none =>
    refine ⟨-1, ?_, key (-1) (fun i e he hp _ => ?_) (fun _ => rfl)⟩
    · have : b.any p = false := by
        rw [List.any_eq_false]
        intro x hx
        have := List.findIdx?_eq_none_iff.1 hf x hx
        simpa using this
      rw [this]; simp
    · have := List.findIdx?_eq_none_iff.1 hf e (List.mem_of_getElem? he)
      rw [hp] at this; cases this
  | some j =>
    obtain ⟨hj, hpj, hlt⟩ := List.findIdx?_eq_some_iff_getElem.1 hf
    refine ⟨j, ?_, key j (fun i e he hp hall => ?_) (fun hall => ?_)⟩
    · have : b.any p = true := List.any_eq_true.2 ⟨_, List.getElem_mem hj, hpj⟩
      rw [this]; simp
    · obtain ⟨hil, hie⟩ := List.getElem?_eq_some_iff.1 he
      rcases Nat.lt_trichotomy i j with h | h | h
      · exact absurd (by rw [hie]; exact hp) (hlt i h)
      · rw [h]
      · have hm : b[j] ∈ b.take i := by
          rw [List.mem_take_iff_getElem]
          exact ⟨j, by omega, rfl⟩
        have := List.all_eq_true.1 hall _ hm
        rw [hpj] at this; cases this
    · have := List.all_eq_true.1 hall _ (List.getElem_mem hj)
      rw [hpj] at this; cases this

theorem containsI_c (g : FuncId) (p : Int → Bool) (hg : ∀ e : Int, PCall Tryz.prog g [.one (.lit (.int .i64 e))] (.v (.one (.lit (.bool (p e)))))) (b : List Int) :
    PCall Tryz.prog 55 [.one (intsD b), .one (.lit (.func (.func g) #[] #[]))] (.v (.one (.lit (.bool (b.any p))))) := by
  obtain ⟨k, hk, hc⟩ := idxI_c g p hg b
  refine pcallN hT Tryz.func55 Tryz.ntmps55 [.tmp 4] fun B => ?_
  repeat' (first | (with_reducible (first | refine k_seq ?_ | refine k_ret ?_ | refine n_seq ?_)) | refine s_reg ?_ | refine r_end ?_ | refine s_move ?_ | refine s_assign ?_ | refine s_int ?_ | refine s_call (hc) ?_ | refine f_ret1 def_nil ?_ | refine t_tmp ?_)
  refine congrArg Dat.lit (congrArg Value.bool ?_)
  rw [Bool.eq_iff_iff, decide_eq_true_eq]
  exact hk
end Go.Proofs.YtiidgbfdghplhaaGreat
