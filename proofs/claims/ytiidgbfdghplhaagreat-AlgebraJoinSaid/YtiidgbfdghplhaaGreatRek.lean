/-
  Algebra: the document's join.
-/
import Derived.Test.YtiidgbfdghplhaaGreatAlc
import Derived.Test.YtiidgbfdghplhaaGreatMpe
import Derived.Test.YtiidgbfdghplhaaGreatBao
section
namespace Go.Proofs.YtiidgbfdghplhaaGreat
open Go.Abs Go.RowKit
attribute [local irreducible] ARun kont MCall PCall HCall resVal SF CF CFs defersOk slotsIn memIn fin finM VLe
set_option linter.unusedSimpArgs false
set_option maxRecDepth 100000
set_option maxHeartbeats 4000000

/-- The sum of a list whose counts are not 0. -/
def sumR (l : List Entry) : List Entry :=
  if h : l.length < 2 then l
  else mergeE (sumR (l.take (l.length / 2))) (sumR (l.drop (l.length / 2)))
  termination_by l.length
  decreasing_by
    · simp; omega
    · simp; omega

theorem sumR_sort (l : List Entry) : (∀ e ∈ l, e.count ≠ 0) → sumR l = sortE l := by
  induction l using sumR.induct with
  | case1 l h =>
    intro hn
    rw [sumR, dif_pos h, sortE, dif_pos (by omega)]
    exact (List.filter_eq_self.2 fun e he => by simp [hn e he]).symm
  | case2 l h ih1 ih2 =>
    intro hn
    rw [sumR, dif_neg h, sortE, dif_neg (by omega), ih1 (fun e he => hn e (List.mem_of_mem_take he)), ih2 (fun e he => hn e (List.mem_of_mem_drop he))]

theorem sumR_len (l : List Entry) : (sumR l).length ≤ l.length := by
  induction l using sumR.induct with
  | case1 l h => rw [sumR, dif_pos h]; exact Nat.le_refl _
  | case2 l h ih1 ih2 =>
    rw [sumR, dif_neg h]
    have := mergeE_len (sumR (l.take (l.length / 2))) (sumR (l.drop (l.length / 2)))
    simp at ih1 ih2 ⊢
    omega

theorem sumR_within (l : List Entry) : within 68719476736 l → within (68719476736 * l.length) (sumR l) := by
  induction l using sumR.induct with
  | case1 l h =>
    intro hw
    rw [sumR, dif_pos h]
    intro e he
    have := hw e he
    have hl : 1 ≤ l.length := by cases l <;> simp at he ⊢
    omega
  | case2 l h ih1 ih2 =>
    intro hw
    rw [sumR, dif_neg h]
    have q1 := ih1 (fun e he => hw e (List.mem_of_mem_take he))
    have q2 := ih2 (fun e he => hw e (List.mem_of_mem_drop he))
    refine within_mono (mergeE_within (by omega) (by omega) _ _ q1 q2) ?_
    simp; omega

theorem mgNil (a : List Entry) : mergeE a [] = a := by cases a <;> simp [mergeE]
theorem mgNil' (b : List Entry) : mergeE [] b = b := by simp [mergeE]

theorem sum_c : ∀ (n : Nat) (l : List Entry), l.length ≤ n → l.length ≤ 16777216 → within 68719476736 l → PCall Tryz.prog 66 [.one (bagD l)] (.v (.one (bagD (sumR l)))) := by
  intro n
  induction n with
  | zero =>
    intro l hl _ _
    have : l = [] := List.eq_nil_of_length_eq_zero (by omega)
    subst this
    refine pcallN hT Tryz.func66 Tryz.ntmps66 [.tmp 2] fun B => ?_
    repeat' (first | (with_reducible (first | refine k_seq ?_ | refine k_block ?_ | refine k_skip ?_ | refine k_exit ?_ | refine k_ret ?_ | refine n_seq ?_ | refine n_block ?_ | refine e_seq ?_ | refine e_here ?_ | refine r_seq ?_ | refine o_exit ?_)) | refine s_reg ?_ | refine s_ifT ?_ | refine s_ifF ?_ | refine s_if rfl (fun hb => ?_) (fun hb => ?_) | refine r_end ?_ | refine s_endD ?_ | refine s_skipS ?_ | refine s_move ?_ | refine s_assign ?_ | refine s_int ?_ | refine s_loadF1 ?_ | refine s_loadFA ?_ | refine s_indexD ?_ (hel := (by first | exact rfl)) | refine s_fieldF ?_ | refine s_pick ?_ | refine s_lenD ?_ | refine s_appA ?_ | refine s_bslice ?_ | refine s_build ?_ | refine s_sliceD ?_ | refine s_kT ?_ | refine s_kF ?_ | refine f_ret1 def_nil ?_ | refine t_tmp ?_ | refine t_tmpA rfl rfl ?_ ?_)
    rw [sumR]; rfl
  | succ n ih =>
    intro l hl hbig hw
    by_cases h1 : l.length < 2
    · rw [sumR, dif_pos h1]
      refine pcallN hT Tryz.func66 Tryz.ntmps66 [.tmp 2] fun B => ?_
      repeat' (first | (with_reducible (first | refine k_seq ?_ | refine k_block ?_ | refine k_skip ?_ | refine k_exit ?_ | refine k_ret ?_ | refine n_seq ?_ | refine n_block ?_ | refine e_seq ?_ | refine e_here ?_ | refine r_seq ?_ | refine o_exit ?_)) | refine s_reg ?_ | refine s_ifT ?_ | refine s_ifF ?_ | refine s_if rfl (fun hb => ?_) (fun hb => ?_) | refine r_end ?_ | refine s_endD ?_ | refine s_skipS ?_ | refine s_move ?_ | refine s_assign ?_ | refine s_int ?_ | refine s_loadF1 ?_ | refine s_loadFA ?_ | refine s_indexD ?_ (hel := (by first | exact rfl)) | refine s_fieldF ?_ | refine s_pick ?_ | refine s_lenD ?_ | refine s_appA ?_ | refine s_bslice ?_ | refine s_build ?_ | refine s_sliceD ?_ | refine s_kT ?_ | refine s_kF ?_ | refine f_ret1 def_nil ?_ | refine t_tmp ?_ | refine t_tmpA rfl rfl ?_ ?_)
      all_goals rfl
    · rw [sumR, dif_neg h1]
      have hlt : (l.take (l.length / 2)).length = l.length / 2 := by simp; omega
      have hld : (l.drop (l.length / 2)).length = l.length - l.length / 2 := by simp
      have c1 := ih (l.take (l.length / 2)) (by omega) (by omega) (fun e he => hw e (List.mem_of_mem_take he))
      have c2 := ih (l.drop (l.length / 2)) (by omega) (by omega) (fun e he => hw e (List.mem_of_mem_drop he))
      have w1 := sumR_within (l.take (l.length / 2)) (fun e he => hw e (List.mem_of_mem_take he))
      have w2 := sumR_within (l.drop (l.length / 2)) (fun e he => hw e (List.mem_of_mem_drop he))
      have l1 := sumR_len (l.take (l.length / 2))
      have l2 := sumR_len (l.drop (l.length / 2))
      generalize sumR (l.take (l.length / 2)) = a at *
      generalize sumR (l.drop (l.length / 2)) = b at *
      have wa : within 1152921504606846976 a := within_mono w1 (by omega)
      have wb : within 1152921504606846976 b := within_mono w2 (by omega)
      refine pcallN hT Tryz.func66 Tryz.ntmps66 [.tmp 2] fun B => ?_
      repeat' (first | (with_reducible (first | refine k_seq ?_ | refine k_block ?_ | refine k_skip ?_ | refine k_exit ?_ | refine k_ret ?_ | refine n_seq ?_ | refine n_block ?_ | refine e_seq ?_ | refine e_here ?_ | refine r_seq ?_ | refine o_exit ?_)) | refine s_reg ?_ | refine s_ifT ?_ | refine s_ifF ?_ | refine s_if rfl (fun hb => ?_) (fun hb => ?_) | refine r_end ?_ | refine s_endD ?_ | refine s_skipS ?_ | refine s_move ?_ | refine s_assign ?_ | refine s_int ?_ | refine s_loadF1 ?_ | refine s_loadFA ?_ | refine s_indexD ?_ (hel := (by first | exact rfl)) | refine s_fieldF ?_ | refine s_call (c1) ?_ | refine s_call (c2) ?_ | refine s_pick ?_ | refine s_lenD ?_ | refine s_appA ?_ | refine s_bslice ?_ | refine s_build ?_ | refine s_sliceD ?_ | refine s_kT ?_ | refine s_kF ?_ | refine f_ret1 def_nil ?_ | refine t_tmp ?_ | refine t_tmpA rfl rfl ?_ ?_)
      clear ih c1 c2 w1 w2 hw
      refine s_own 5 59 2 ?_
      refine s_lp (X := List Entry × List Entry × Nat × List Entry) [3, 4, 5, 6, 7, 24, 25, 26, 27, 28, 29, 30, 31, 32, 33, 34, 35, 36, 37, 38, 39, 40, 41, 42, 43, 44, 45, 46, 47, 48, 49, 50, 51, 52, 53, 54, 55, 56, 57, 58, 59, 60, 61, 62, 63, 64, 65, 66, 67, 68, 69, 70, 71, 72, 73, 74, 75, 76, 77, 78, 79, 80, 81, 82, 83, 84, 85, 86] (fun x => within 1152921504606846976 x.1 ∧ within 1152921504606846976 x.2.1 ∧ x.2.2.2.length + x.1.length + x.2.1.length ≤ 16777216 ∧ x.2.2.2 ++ mergeE x.1 x.2.1 = mergeE a b) (fun x lz => (3, .c (.d (bagD x.1))) :: (4, .c (.d (bagD x.2.1))) :: (5, .c (.arr 0 x.2.2.1 x.2.2.2.length)) :: lz) (fun x => [.arr x.2.2.1 59 2 (x.2.2.2.map Entry.d)]) (fun x => x.1.length + x.2.1.length) ((a, b, 1, [])) ?_ ?_ ?_ ?_
      repeat' (first | exact slots_nil | refine w1 ?_ | exact memIn_nil | refine memIn_same ?_ | omega)
      · exact ⟨wa, wb, by simp; omega, rfl⟩
      rintro ⟨a', b', k, out⟩ c ⟨h3, h4, h5, hinv⟩
      dsimp only at h3 h4 h5 hinv ⊢
      by_cases hend : a'.length = 0 ∨ b'.length = 0
      · have hM : out ++ a' ++ b' = mergeE a b := by
          rw [← hinv]
          rcases hend with h | h
          · obtain rfl := List.length_eq_zero_iff.1 h
            rw [mgNil', List.append_nil]
          · obtain rfl := List.length_eq_zero_iff.1 h
            rw [mgNil, List.append_nil]
        have hend : a'.length = 0 ∨ (0 < a'.length ∧ b'.length = 0) := by omega
        rw [← hM]
        rcases hend with hend | hend
        all_goals
          repeat' (first | (with_reducible (first | refine k_seq ?_ | refine k_block ?_ | refine k_skip ?_ | refine k_exit ?_ | refine k_ret ?_ | refine n_seq ?_ | refine n_block ?_ | refine e_seq ?_ | refine e_here ?_ | refine r_seq ?_ | refine o_exit ?_)) | refine s_reg ?_ | refine s_ifT ?_ | refine s_ifF ?_ | refine s_if rfl (fun hb => ?_) (fun hb => ?_) | refine r_end ?_ | refine s_endD ?_ | refine s_skipS ?_ | refine s_move ?_ | refine s_assign ?_ | refine s_int ?_ | refine s_loadF1 ?_ | refine s_loadFA ?_ | refine s_indexD ?_ (hel := (by first | exact rfl)) | refine s_fieldF ?_ | refine s_pick ?_ | refine s_lenD ?_ | refine s_appA ?_ | refine s_bslice ?_ | refine s_build ?_ | refine s_sliceD ?_ | refine s_kT ?_ | refine s_kF ?_ | refine f_ret1 def_nil ?_ | refine t_tmp ?_ | refine t_tmpA rfl rfl ?_ ?_)
          · simp; omega
          · simp only [List.length_append, List.length_map, List.map_append, bagD]
            rw [List.take_of_length_le (by simp; omega)]
      · obtain ⟨x, a2, rfl⟩ : ∃ x a2, a' = x :: a2 := by
          cases a' with
          | nil => exact absurd (.inl rfl) hend
          | cons x a2 => exact ⟨x, a2, rfl⟩
        obtain ⟨y, b2, rfl⟩ : ∃ y b2, b' = y :: b2 := by
          cases b' with
          | nil => exact absurd (.inr rfl) hend
          | cons y b2 => exact ⟨y, b2, rfl⟩
        obtain ⟨hs1, hs2⟩ := h3 x (by simp)
        obtain ⟨hs3, hs4⟩ := h4 y (by simp)
        have h3' : within 1152921504606846976 a2 := fun e he => h3 e (by simp [he])
        have h4' : within 1152921504606846976 b2 := fun e he => h4 e (by simp [he])
        simp only [List.length_cons] at h5
        have hv : (x :: a2)[0]? = some x := rfl
        have hu : (y :: b2)[0]? = some y := rfl
        rw [mergeE] at hinv
        have ta : List.take (List.map Entry.d a2).length a2 = a2 := by simp
        have tb : List.take (List.map Entry.d b2).length b2 = b2 := by simp
        have da : Dat.sl (List.map Entry.d a2) = bagD a2 := rfl
        have db : Dat.sl (List.map Entry.d b2) = bagD b2 := rfl
        have o1 : ∀ z : Entry, out.length + [[rowD z.row, Dat.lit (Value.int IntKind.i64 z.count)]].length = (out ++ [z]).length := fun z => by simp
        have o2 : ∀ z : Entry, out.map Entry.d ++ [[rowD z.row, Dat.lit (Value.int IntKind.i64 z.count)]] = (out ++ [z]).map Entry.d := fun z => by rw [List.map_append]; rfl
        repeat' (first | (with_reducible (first | refine k_seq ?_ | refine k_block ?_ | refine k_skip ?_ | refine k_exit ?_ | refine k_ret ?_ | refine n_seq ?_ | refine n_block ?_ | refine e_seq ?_ | refine e_here ?_ | refine r_seq ?_ | refine o_exit ?_)) | refine s_reg ?_ | refine s_ifT ?_ | refine s_ifF ?_ | refine s_if rfl (fun hb => ?_) (fun hb => ?_) | refine r_end ?_ | refine s_endD ?_ | refine s_skipS ?_ | refine s_move ?_ | refine s_assign ?_ | refine s_int ?_ | refine s_loadF1 ?_ | refine s_loadFA ?_ | refine s_indexD ?_ (hel := (by first | exact idx_map hv (by omega) | exact idx_map hu (by omega) | exact hv | exact hu | exact rfl)) | refine s_fieldF ?_ | refine s_call (refCompareRows_c _ _) ?_ | refine s_pick ?_ | refine s_lenD ?_ | refine s_appA ?_ | refine s_bslice ?_ | refine s_build ?_ | refine s_sliceD ?_ | refine s_kT ?_ | refine s_kF ?_ | refine f_ret1 def_nil ?_ | refine t_tmp ?_ | refine t_tmpA rfl rfl ?_ ?_)
        · rw [if_pos hb] at hinv
          rw [ta, da, o1 x, o2 x]
          have hq : (out ++ [x]) ++ mergeE a2 (y :: b2) = mergeE a b := by rw [← hinv, List.append_assoc]; rfl
          have hql : (out ++ [x]).length = out.length + 1 := by simp
          generalize out ++ [x] = out2 at hq hql ⊢
          (apply s_round ((a2, y :: b2, _, out2)); all_goals (try dsimp only); all_goals (try (repeat' (first | exact slots_nil | refine w1 ?_ | exact memIn_nil | refine memIn_same ?_ | omega))))
          · exact ⟨h3', h4, by simp only [List.length_cons]; omega, hq⟩
          · simp only [List.length_cons]; omega
        · rw [if_neg (by omega), if_pos hb] at hinv
          rw [tb, db, o1 y, o2 y]
          have hq : (out ++ [y]) ++ mergeE (x :: a2) b2 = mergeE a b := by rw [← hinv, List.append_assoc]; rfl
          have hql : (out ++ [y]).length = out.length + 1 := by simp
          generalize out ++ [y] = out2 at hq hql ⊢
          (apply s_round ((x :: a2, b2, _, out2)); all_goals (try dsimp only); all_goals (try (repeat' (first | exact slots_nil | refine w1 ?_ | exact memIn_nil | refine memIn_same ?_ | omega))))
          · exact ⟨h3, h4', by simp only [List.length_cons]; omega, hq⟩
          · simp only [List.length_cons]; omega
        · rw [if_neg (by omega), if_neg (by omega), if_neg hb] at hinv
          rw [ta, da, tb, db, o1 ⟨x.row, x.count + y.count⟩, o2 ⟨x.row, x.count + y.count⟩]
          have hq : (out ++ [⟨x.row, x.count + y.count⟩]) ++ mergeE a2 b2 = mergeE a b := by rw [← hinv, List.append_assoc]
          have hql : (out ++ [(⟨x.row, x.count + y.count⟩ : Entry)]).length = out.length + 1 := by simp
          generalize out ++ [(⟨x.row, x.count + y.count⟩ : Entry)] = out2 at hq hql ⊢
          (apply s_round ((a2, b2, _, out2)); all_goals (try dsimp only); all_goals (try (repeat' (first | exact slots_nil | refine w1 ?_ | exact memIn_nil | refine memIn_same ?_ | omega))))
          · exact ⟨h3', h4', by omega, hq⟩
          · simp only [List.length_cons]; omega
        · rw [if_neg (by omega), if_neg (by omega), if_pos hb] at hinv
          rw [ta, da, tb, db]
          (apply s_round ((a2, b2, _, out)); all_goals (try dsimp only); all_goals (try (repeat' (first | exact slots_nil | refine w1 ?_ | exact memIn_nil | refine memIn_same ?_ | omega))))
          · exact ⟨h3', h4', by omega, by rw [← hinv]; rfl⟩
          · simp only [List.length_cons]; omega

/-- Whether two rows agree in all pairs of columns. -/
def meetsE (x y : List Val) (on : List (Int × Int)) : Bool := on.all fun p => decide ((atE x p.1).kind ≠ 0) && sameVal (atE x p.1) (atE y p.2)

theorem meets_c (u y : List Val) (on : List (Int × Int)) : PCall Tryz.prog 65 [.one (rowD u), .one (rowD y), .one (onD on)] (.v (.one (.lit (.bool (meetsE u y on))))) := by
  refine pcallN hT Tryz.func65 Tryz.ntmps65 [.tmp 6] fun B => ?_
  refine k_len 2 rfl fun hlr => ?_
  simp only [List.length_map, maxLen] at hlr
  repeat' (first | (with_reducible (first | refine k_seq ?_ | refine k_block ?_ | refine k_skip ?_ | refine k_exit ?_ | refine k_ret ?_ | refine n_seq ?_ | refine n_block ?_ | refine e_seq ?_ | refine e_here ?_ | refine r_seq ?_ | refine r_block ?_ | refine o_exit ?_ | refine o_ret ?_)) | refine s_reg ?_ | refine s_ifT ?_ | refine s_ifF ?_ | refine s_if rfl (fun hb => ?_) (fun hb => ?_) | refine r_end ?_ | refine s_endD ?_ | refine s_skipS ?_ | refine s_move ?_ | refine s_assign ?_ | refine s_int ?_ | refine s_neA ?_ | refine s_loadF1 ?_ | refine s_loadB1 ?_ | refine s_loadBA ?_ | refine s_indexD ?_ (hel := (by first | exact rfl)) | refine s_indexVF ?_ | refine s_fieldB ?_ | refine s_pick ?_ | refine s_lenD ?_ | refine s_storeB ?_ | refine s_alloc ?_ | refine s_split rfl rfl (fun hb => ?_) (fun hb => ?_) | refine f_ret1 def_nil ?_ | refine t_tmp ?_)
  refine s_lp (X := Nat) [6, 7, 8, 9, 10, 11, 12, 13, 14, 15, 16, 17, 18, 19, 20, 21, 22, 23, 24, 25, 26, 27, 28, 29, 30, 31, 32, 33, 34, 35] (fun x => x ≤ on.length ∧ (on.take x).all (fun p => decide ((atE u p.1).kind ≠ 0) && sameVal (atE u p.1) (atE y p.2)) = true) (fun x lz => (7, (.c (.d (.lit (.int .i64 x))))) :: lz) (fun x => []) (fun x => on.length - x) (0) ?_ ?_ ?_ ?_
  repeat' (first | exact slots_nil | refine w1 ?_ | exact memIn_nil | omega)
  · exact ⟨by simp, by simp⟩
  rintro i c ⟨hi, hinv⟩
  by_cases hlt : i < on.length
  · have hv : on[i]? = some on[i] := List.getElem?_eq_getElem hlt
    generalize on[i] = p at hv
    have htk : ∀ f : Int × Int → Bool, (on.take (i + 1)).all f = ((on.take i).all f && f p) := fun f => by rw [List.take_add_one, hv, List.all_append]; simp
    have hfl : (decide ((atE u p.1).kind ≠ 0) && sameVal (atE u p.1) (atE y p.2)) = false → meetsE u y on = false := fun h => by
      unfold meetsE
      rw [Bool.eq_false_iff]
      intro hh
      have := List.all_eq_true.1 hh p (List.mem_of_getElem? hv)
      rw [h] at this; cases this
    have hc1 := refAt8_c u p.1
    have hc2 := refAt8_c y p.2
    generalize hvE : atE u p.1 = v at hc1 hfl
    generalize hwE : atE y p.2 = w at hc2 hfl
    have hls := lits_same v w
    repeat' (first | (with_reducible (first | refine k_seq ?_ | refine k_block ?_ | refine k_skip ?_ | refine k_exit ?_ | refine k_ret ?_ | refine n_seq ?_ | refine n_block ?_ | refine e_seq ?_ | refine e_here ?_ | refine r_seq ?_ | refine r_block ?_ | refine o_exit ?_ | refine o_ret ?_)) | refine s_reg ?_ | refine s_ifT ?_ | refine s_ifF ?_ | refine s_if rfl (fun hb => ?_) (fun hb => ?_) | refine r_end ?_ | refine s_endD ?_ | refine s_skipS ?_ | refine s_move ?_ | refine s_assign ?_ | refine s_int ?_ | refine s_neA ?_ | refine s_loadF1 ?_ | refine s_loadB1 ?_ | refine s_loadBA ?_ | refine s_indexD ?_ (hel := (by first | exact idx_map hv (by omega) | exact hv | exact rfl)) | refine s_indexVF ?_ | refine s_fieldB ?_ | refine s_call (hc1) ?_ | refine s_call (hc2) ?_ | refine s_pick ?_ | refine s_lenD ?_ | refine s_storeB ?_ | refine s_alloc ?_ | refine s_split rfl rfl (fun hb => ?_) (fun hb => ?_) | refine f_ret1 def_nil ?_ | refine t_tmp ?_)
    · rw [hfl (by simp [hb])]
    · rw [hls] at hb
      rw [hfl (by simp [hb])]
    · rename_i hk
      rw [hls] at hb
      (apply s_round (i + 1); all_goals (try dsimp only); all_goals (try (repeat' (first | exact slots_nil | refine w1 ?_ | exact memIn_nil | omega))))
      exact ⟨by omega, by rw [htk, hinv]; simp [hk, hb, hvE, hwE]⟩
  · have hie : i = on.length := by omega
    subst hie
    rw [List.take_length] at hinv
    have hm : meetsE u y on = true := hinv
    rw [hm]
    repeat' (first | (with_reducible (first | refine k_seq ?_ | refine k_block ?_ | refine k_skip ?_ | refine k_exit ?_ | refine k_ret ?_ | refine n_seq ?_ | refine n_block ?_ | refine e_seq ?_ | refine e_here ?_ | refine r_seq ?_ | refine r_block ?_ | refine o_exit ?_ | refine o_ret ?_)) | refine s_reg ?_ | refine s_ifT ?_ | refine s_ifF ?_ | refine s_if rfl (fun hb => ?_) (fun hb => ?_) | refine r_end ?_ | refine s_endD ?_ | refine s_skipS ?_ | refine s_move ?_ | refine s_assign ?_ | refine s_int ?_ | refine s_neA ?_ | refine s_loadF1 ?_ | refine s_loadB1 ?_ | refine s_loadBA ?_ | refine s_indexD ?_ (hel := (by first | exact rfl)) | refine s_indexVF ?_ | refine s_fieldB ?_ | refine s_pick ?_ | refine s_lenD ?_ | refine s_storeB ?_ | refine s_alloc ?_ | refine s_split rfl rfl (fun hb => ?_) (fun hb => ?_) | refine f_ret1 def_nil ?_ | refine t_tmp ?_)
    all_goals rfl

/-- Whether a bag is valid and narrow. -/
def narrowE (b : List Entry) : Bool := b.all (fun e => decide (e.row.length ≤ 8)) && bagValid b

theorem narrow_c (b : List Entry) : PCall Tryz.prog 64 [.one (bagD b)] (.v (.one (.lit (.bool (narrowE b))))) := by
  have hval := refBagValid_c b
  refine pcallN hT Tryz.func64 Tryz.ntmps64 [.tmp 2] fun B => ?_
  refine k_len 0 rfl fun hlr => ?_
  simp only [List.length_map, maxLen] at hlr
  repeat' (first | (with_reducible (first | refine k_seq ?_ | refine k_block ?_ | refine k_skip ?_ | refine k_exit ?_ | refine k_ret ?_ | refine n_seq ?_ | refine n_block ?_ | refine e_seq ?_ | refine e_here ?_ | refine r_seq ?_ | refine r_block ?_ | refine o_exit ?_ | refine o_ret ?_)) | refine s_reg ?_ | refine s_ifT ?_ | refine s_ifF ?_ | refine s_if rfl (fun hb => ?_) (fun hb => ?_) | refine r_end ?_ | refine s_move ?_ | refine s_assign ?_ | refine s_int ?_ | refine s_loadF1 ?_ | refine s_indexD ?_ (hel := (by first | exact rfl)) | refine s_fieldF ?_ | refine s_lenD ?_ | refine f_ret1 def_nil ?_ | refine t_tmp ?_)
  refine s_lp (X := Nat) [2, 3, 4, 5, 6, 7, 8, 9, 10, 11, 12, 13, 14, 15, 16] (fun x => x ≤ b.length ∧ (b.take x).all (fun e => decide (e.row.length ≤ 8)) = true) (fun x lz => (3, (.c (.d (.lit (.int .i64 x))))) :: lz) (fun x => []) (fun x => b.length - x) (0) ?_ ?_ ?_ ?_
  repeat' (first | exact slots_nil | refine w1 ?_ | exact memIn_nil | omega)
  · exact ⟨by simp, by simp⟩
  rintro i c ⟨hi, hinv⟩
  by_cases hlt : i < b.length
  · have hv : b[i]? = some b[i] := List.getElem?_eq_getElem hlt
    generalize b[i] = e at hv
    have htk : ∀ f : Entry → Bool, (b.take (i + 1)).all f = ((b.take i).all f && f e) := fun f => by rw [List.take_add_one, hv, List.all_append]; simp
    repeat' (first | (with_reducible (first | refine k_seq ?_ | refine k_block ?_ | refine k_skip ?_ | refine k_exit ?_ | refine k_ret ?_ | refine n_seq ?_ | refine n_block ?_ | refine e_seq ?_ | refine e_here ?_ | refine r_seq ?_ | refine r_block ?_ | refine o_exit ?_ | refine o_ret ?_)) | refine s_reg ?_ | refine s_ifT ?_ | refine s_ifF ?_ | refine s_if rfl (fun hb => ?_) (fun hb => ?_) | refine r_end ?_ | refine s_move ?_ | refine s_assign ?_ | refine s_int ?_ | refine s_loadF1 ?_ | refine s_indexD ?_ (hel := (by first | exact idx_map hv (by omega) | exact hv | exact rfl)) | refine s_fieldF ?_ | refine s_lenD ?_ | refine f_ret1 def_nil ?_ | refine t_tmp ?_)
    · have hm : narrowE b = false := by
        unfold narrowE
        have : b.all (fun e => decide (e.row.length ≤ 8)) = false := by
          rw [Bool.eq_false_iff]
          intro hh
          have := List.all_eq_true.1 hh e (List.mem_of_getElem? hv)
          simp at this; omega
        rw [this]; rfl
      rw [hm]
    · (apply s_round (i + 1); all_goals (try dsimp only); all_goals (try (repeat' (first | exact slots_nil | refine w1 ?_ | exact memIn_nil | omega))))
      exact ⟨by omega, by rw [htk, hinv]; simp; omega⟩
  · have hie : i = b.length := by omega
    subst hie
    rw [List.take_length] at hinv
    have hm : narrowE b = bagValid b := by unfold narrowE; rw [hinv]; rfl
    rw [hm]
    repeat' (first | (with_reducible (first | refine k_seq ?_ | refine k_block ?_ | refine k_skip ?_ | refine k_exit ?_ | refine k_ret ?_ | refine n_seq ?_ | refine n_block ?_ | refine e_seq ?_ | refine e_here ?_ | refine r_seq ?_ | refine r_block ?_ | refine o_exit ?_ | refine o_ret ?_)) | refine s_reg ?_ | refine s_ifT ?_ | refine s_ifF ?_ | refine s_if rfl (fun hb => ?_) (fun hb => ?_) | refine r_end ?_ | refine s_move ?_ | refine s_assign ?_ | refine s_int ?_ | refine s_loadF1 ?_ | refine s_indexD ?_ (hel := (by first | exact rfl)) | refine s_fieldF ?_ | refine s_call (hval) ?_ | refine s_lenD ?_ | refine f_ret1 def_nil ?_ | refine t_tmp ?_)
    all_goals rfl
end Go.Proofs.YtiidgbfdghplhaaGreat
end
section
namespace Go.Proofs.YtiidgbfdghplhaaGreat
open Go.Abs Go.RowKit
attribute [local irreducible] ARun kont MCall PCall HCall resVal SF CF CFs defersOk slotsIn memIn fin finM VLe
set_option linter.unusedSimpArgs false
set_option maxRecDepth 100000
set_option maxHeartbeats 4000000

def pairE (x y : Entry) : Entry := ⟨x.row ++ y.row, x.count * y.count⟩
/-- The pairs of one row. -/
def pairs1 (x : Entry) (b : List Entry) (on : List (Int × Int)) : List Entry := (b.filter fun y => meetsE x.row y.row on).map (pairE x)
def pairsE (a b : List Entry) (on : List (Int × Int)) : List Entry := a.flatMap fun x => pairs1 x b on

theorem pairs1_snoc {x y : Entry} {b : List Entry} {k : Nat} (on : List (Int × Int)) (h : b[k]? = some y) : pairs1 x (b.take (k + 1)) on = pairs1 x (b.take k) on ++ if meetsE x.row y.row on then [pairE x y] else [] := by
  unfold pairs1
  rw [List.take_add_one, h, List.filter_append, List.map_append]
  congr 1
  by_cases hq : meetsE x.row y.row on = true <;> simp [hq]
theorem pairsE_snoc {x : Entry} {a : List Entry} {i : Nat} (b : List Entry) (on : List (Int × Int)) (h : a[i]? = some x) : pairsE (a.take (i + 1)) b on = pairsE (a.take i) b on ++ pairs1 x b on := by
  unfold pairsE
  rw [List.take_add_one, h, List.flatMap_append]
  simp
theorem prodC {x y : Int} (h : -262144 ≤ x ∧ x ≤ 262144) (g : -262144 ≤ y ∧ y ≤ 262144) : -68719476736 ≤ x * y ∧ x * y ≤ 68719476736 := by
  have h1 : x.natAbs ≤ 262144 := by omega
  have h2 : y.natAbs ≤ 262144 := by omega
  have h3 : (x * y).natAbs ≤ 262144 * 262144 := by rw [Int.natAbs_mul]; exact Nat.mul_le_mul h1 h2
  omega

theorem pairs_mem {a b : List Entry} {on : List (Int × Int)} {e : Entry} (h : e ∈ pairsE a b on) : ∃ x ∈ a, ∃ y ∈ b, meetsE x.row y.row on = true ∧ e = pairE x y := by
  obtain ⟨x, hx, he⟩ := List.mem_flatMap.1 h
  obtain ⟨y, hy, rfl⟩ := List.mem_map.1 he
  obtain ⟨h1, h2⟩ := List.mem_filter.1 hy
  exact ⟨x, hx, y, h1, h2, rfl⟩
theorem pairsE_within {a b : List Entry} {on : List (Int × Int)} (ha : ∀ e ∈ a, -262144 ≤ e.count ∧ e.count ≤ 262144) (hb : ∀ e ∈ b, -262144 ≤ e.count ∧ e.count ≤ 262144) : within 68719476736 (pairsE a b on) := fun e he => by
  obtain ⟨x, hx, y, hy, _, rfl⟩ := pairs_mem he
  exact prodC (ha x hx) (hb y hy)

theorem narrow_mem {l : List Entry} (h : narrowE l = true) : l.length ≤ 4096 ∧ ∀ e ∈ l, rowOK e.row = true ∧ (-262144 ≤ e.count ∧ e.count ≤ 262144) ∧ e.row.length ≤ 8 ∧ e.count ≠ 0 := by
  unfold narrowE at h
  simp only [Bool.and_eq_true] at h
  obtain ⟨h1, h2⟩ := valid_mem h.2
  refine ⟨h1, fun e he => ⟨(h2 e he).1, (h2 e he).2.1, ?_, (h2 e he).2.2⟩⟩
  have := List.all_eq_true.1 h.1 e he
  simpa using this

def boundE (l : List Entry) : List Entry × Nat :=
  if 4096 < l.length then ([], 8)
  else if l.all (fun e => decide (-262144 ≤ e.count ∧ e.count ≤ 262144)) then (l, 0)
  else ([], 9)
def refJoinE (a b : List Entry) (on : List (Int × Int)) : List Entry × Nat :=
  if narrowE a && narrowE b then boundE (sumR (pairsE a b on)) else ([], 1)
def bagR (q : List Entry × Nat) : PRes := .tup [.one (bagD q.1), .one (.lit (.int .i64 q.2))]

theorem refJoin_c (a b : List Entry) (on : List (Int × Int)) : PCall Tryz.prog 30 [.one (bagD a), .one (bagD b), .one (onD on)] (bagR (refJoinE a b on)) := by
  have hna := narrow_c a
  have hnb := narrow_c b
  unfold refJoinE
  cases na : narrowE a
  · rw [na] at hna
    refine pcallN hT Tryz.func30 Tryz.ntmps30 [.tmp 6, .tmp 7] fun B => ?_
    repeat' (first | (with_reducible (first | refine k_seq ?_ | refine k_block ?_ | refine k_skip ?_ | refine k_exit ?_ | refine k_ret ?_ | refine n_seq ?_ | refine n_block ?_ | refine e_seq ?_ | refine e_here ?_ | refine r_seq ?_ | refine r_block ?_ | refine o_exit ?_ | refine o_ret ?_)) | refine s_reg ?_ | refine s_ifT ?_ | refine s_ifF ?_ | refine s_if rfl (fun hb => ?_) (fun hb => ?_) | refine r_end ?_ | refine s_endD ?_ | refine s_skipS ?_ | refine s_move ?_ | refine s_assign ?_ | refine s_int ?_ | refine s_loadF1 ?_ | refine s_indexD ?_ (hel := (by first | exact rfl)) | refine s_fieldF ?_ | refine s_call (hna) ?_ | refine s_pick ?_ | refine s_lenD ?_ | refine s_appE ?_ | refine s_appA ?_ | refine s_bslice0 ?_ | refine s_not ?_ | refine s_build ?_ | refine s_split rfl rfl (fun hb => ?_) (fun hb => ?_) | refine f_ret2 def_nil ?_ ?_ | refine t_tmp ?_ | refine t_tmpE ?_)
    all_goals rfl
  cases nb : narrowE b
  · rw [na] at hna
    rw [nb] at hnb
    refine pcallN hT Tryz.func30 Tryz.ntmps30 [.tmp 6, .tmp 7] fun B => ?_
    repeat' (first | (with_reducible (first | refine k_seq ?_ | refine k_block ?_ | refine k_skip ?_ | refine k_exit ?_ | refine k_ret ?_ | refine n_seq ?_ | refine n_block ?_ | refine e_seq ?_ | refine e_here ?_ | refine r_seq ?_ | refine r_block ?_ | refine o_exit ?_ | refine o_ret ?_)) | refine s_reg ?_ | refine s_ifT ?_ | refine s_ifF ?_ | refine s_if rfl (fun hb => ?_) (fun hb => ?_) | refine r_end ?_ | refine s_endD ?_ | refine s_skipS ?_ | refine s_move ?_ | refine s_assign ?_ | refine s_int ?_ | refine s_loadF1 ?_ | refine s_indexD ?_ (hel := (by first | exact rfl)) | refine s_fieldF ?_ | refine s_call (hna) ?_ | refine s_call (hnb) ?_ | refine s_pick ?_ | refine s_lenD ?_ | refine s_appE ?_ | refine s_appA ?_ | refine s_bslice0 ?_ | refine s_not ?_ | refine s_build ?_ | refine s_split rfl rfl (fun hb => ?_) (fun hb => ?_) | refine f_ret2 def_nil ?_ ?_ | refine t_tmp ?_ | refine t_tmpE ?_)
    all_goals rfl
  rw [na] at hna
  rw [nb] at hnb
  rw [Bool.and_self, if_pos rfl]
  obtain ⟨al, am⟩ := narrow_mem na
  obtain ⟨bl, bm⟩ := narrow_mem nb
  refine pcallN hT Tryz.func30 Tryz.ntmps30 [.tmp 6, .tmp 7] fun B => ?_
  repeat' (first | (with_reducible (first | refine k_seq ?_ | refine k_block ?_ | refine k_skip ?_ | refine k_exit ?_ | refine k_ret ?_ | refine n_seq ?_ | refine n_block ?_ | refine e_seq ?_ | refine e_here ?_ | refine r_seq ?_ | refine r_block ?_ | refine o_exit ?_ | refine o_ret ?_)) | refine s_reg ?_ | refine s_ifT ?_ | refine s_ifF ?_ | refine s_if rfl (fun hb => ?_) (fun hb => ?_) | refine r_end ?_ | refine s_endD ?_ | refine s_skipS ?_ | refine s_move ?_ | refine s_assign ?_ | refine s_int ?_ | refine s_loadF1 ?_ | refine s_indexD ?_ (hel := (by first | exact rfl)) | refine s_fieldF ?_ | refine s_call (hna) ?_ | refine s_call (hnb) ?_ | refine s_pick ?_ | refine s_lenD ?_ | refine s_appE ?_ | refine s_appA ?_ | refine s_bslice0 ?_ | refine s_not ?_ | refine s_build ?_ | refine s_split rfl rfl (fun hb => ?_) (fun hb => ?_) | refine f_ret2 def_nil ?_ ?_ | refine t_tmp ?_ | refine t_tmpE ?_)
  clear hna hnb
  refine s_own 8 59 2 ?_
  refine s_lp (X := Nat × List Entry × Nat) [8, 9, 10, 20, 21, 22, 23, 24, 25, 26, 27, 28, 29, 30, 31, 32, 33, 34, 35, 36, 37, 38, 39, 40, 41, 42, 43, 44, 45, 46, 47, 48, 49, 50, 51, 52, 53, 54, 55, 56, 57, 58, 59, 60, 61, 62, 63, 64, 65, 66, 67, 68, 69, 70, 71] (fun x => x.1 ≤ a.length ∧ x.2.1 = pairsE (a.take x.1) b on ∧ x.2.1.length ≤ x.1 * b.length) (fun x lz => (8, .c (.arr 0 x.2.2 x.2.1.length)) :: (9, (.c (.d (.lit (.int .i64 x.1))))) :: lz) (fun x => [.arr x.2.2 59 2 (x.2.1.map Entry.d)]) (fun x => a.length - x.1) ((0, [], 1)) ?_ ?_ ?_ ?_
  repeat' (first | exact slots_nil | refine w1 ?_ | exact memIn_nil | refine memIn_same ?_ | omega)
  · exact ⟨by omega, by simp [pairsE], by simp⟩
  rintro ⟨i, l, k⟩ c ⟨hi, hinv, hll⟩
  dsimp only at hi hinv hll ⊢
  by_cases hlt : i < a.length
  · have hv : a[i]? = some a[i] := List.getElem?_eq_getElem hlt
    generalize a[i] = p at hv
    have hsn := pairsE_snoc b on hv
    obtain ⟨p1, p2, p3⟩ := am p (List.mem_of_getElem? hv)
    have hmul : i * b.length ≤ 4095 * 4096 := Nat.mul_le_mul (by omega) bl
    have hmul1 : (i + 1) * b.length = i * b.length + b.length := by rw [Nat.add_mul]; omega
    repeat' (first | (with_reducible (first | refine k_seq ?_ | refine k_block ?_ | refine k_skip ?_ | refine k_exit ?_ | refine k_ret ?_ | refine n_seq ?_ | refine n_block ?_ | refine e_seq ?_ | refine e_here ?_ | refine r_seq ?_ | refine r_block ?_ | refine o_exit ?_ | refine o_ret ?_)) | refine s_reg ?_ | refine s_ifT ?_ | refine s_ifF ?_ | refine s_if rfl (fun hb => ?_) (fun hb => ?_) | refine r_end ?_ | refine s_endD ?_ | refine s_skipS ?_ | refine s_move ?_ | refine s_assign ?_ | refine s_int ?_ | refine s_loadF1 ?_ | refine s_indexD ?_ (hel := (by first | exact rfl)) | refine s_fieldF ?_ | refine s_pick ?_ | refine s_lenD ?_ | refine s_appE ?_ | refine s_appA ?_ | refine s_bslice0 ?_ | refine s_not ?_ | refine s_build ?_ | refine s_split rfl rfl (fun hb => ?_) (fun hb => ?_) | refine f_ret2 def_nil ?_ ?_ | refine t_tmp ?_ | refine t_tmpE ?_)
    refine s_lp (X := Nat × List Entry × Nat) [8, 10, 26, 27, 28, 29, 30, 31, 32, 33, 34, 35, 36, 37, 38, 39, 40, 41, 42, 43, 44, 45, 46, 47, 48, 49, 50, 51, 52, 53, 54, 55, 56, 57, 58, 59, 60, 61, 62, 63, 64, 65, 66, 67, 68, 69, 70, 71] (fun x => x.1 ≤ b.length ∧ x.2.1 = l ++ pairs1 p (b.take x.1) on ∧ x.2.1.length ≤ l.length + x.1) (fun x lz => (8, .c (.arr 0 x.2.2 x.2.1.length)) :: (10, (.c (.d (.lit (.int .i64 x.1))))) :: lz) (fun x => [.arr x.2.2 59 2 (x.2.1.map Entry.d)]) (fun x => b.length - x.1) ((0, l, k)) ?_ ?_ ?_ ?_
    repeat' (first | exact slots_nil | refine w1 ?_ | exact memIn_nil | refine memIn_same ?_ | omega)
    · exact ⟨by omega, by simp [pairs1], by simp⟩
    rintro ⟨j, m, k2⟩ c ⟨hj, hinv2, hml⟩
    dsimp only at hj hinv2 hml ⊢
    by_cases hlt2 : j < b.length
    · have hv2 : b[j]? = some b[j] := List.getElem?_eq_getElem hlt2
      generalize b[j] = q at hv2
      obtain ⟨q1, q2, q3⟩ := bm q (List.mem_of_getElem? hv2)
      have hsn2 := pairs1_snoc (x := p) on hv2
      have hpr := prodC p2 q2
      have hmt := meets_c p.row q.row on
      cases hme : meetsE p.row q.row on
      · rw [hme] at hmt
        rw [hme, if_neg (by simp), List.append_nil] at hsn2
        repeat' (first | (with_reducible (first | refine k_seq ?_ | refine k_block ?_ | refine k_skip ?_ | refine k_exit ?_ | refine k_ret ?_ | refine n_seq ?_ | refine n_block ?_ | refine e_seq ?_ | refine e_here ?_ | refine r_seq ?_ | refine r_block ?_ | refine o_exit ?_ | refine o_ret ?_)) | refine s_reg ?_ | refine s_ifT ?_ | refine s_ifF ?_ | refine s_if rfl (fun hb => ?_) (fun hb => ?_) | refine r_end ?_ | refine s_endD ?_ | refine s_skipS ?_ | refine s_move ?_ | refine s_assign ?_ | refine s_int ?_ | refine s_loadF1 ?_ | refine s_indexD ?_ (hel := (by first | exact idx_map hv (by omega) | exact idx_map hv2 (by omega) | exact hv | exact hv2 | exact rfl)) | refine s_fieldF ?_ | refine s_call (hmt) ?_ | refine s_pick ?_ | refine s_lenD ?_ | refine s_appE ?_ | refine s_appA ?_ | refine s_bslice0 ?_ | refine s_not ?_ | refine s_build ?_ | refine s_split rfl rfl (fun hb => ?_) (fun hb => ?_) | refine f_ret2 def_nil ?_ ?_ | refine t_tmp ?_ | refine t_tmpE ?_)
        (apply s_round ((j + 1, m, k2)); all_goals (try dsimp only); all_goals (try (repeat' (first | exact slots_nil | refine w1 ?_ | exact memIn_nil | refine memIn_same ?_ | omega))))
        exact ⟨by omega, by rw [hsn2]; exact hinv2, by omega⟩
      · rw [hme] at hmt
        rw [hme, if_pos rfl] at hsn2
        have o1 : m.length + [[rowD (p.row ++ q.row), Dat.lit (Value.int IntKind.i64 (p.count * q.count))]].length = (m ++ [pairE p q]).length := by simp
        have o2 : m.map Entry.d ++ [[rowD (p.row ++ q.row), Dat.lit (Value.int IntKind.i64 (p.count * q.count))]] = (m ++ [pairE p q]).map Entry.d := by rw [List.map_append]; rfl
        have hcf : CFrs 1 (c + 1 + 1) (p.row.map Val.d ++ q.row.map Val.d) [.arr 1 (c + 1 + 1) (p.row.length + (q.row.map Val.d).length), .d (.lit (.int .i64 (p.count * q.count)))] [rowD (p.row ++ q.row), .lit (.int .i64 (p.count * q.count))] := ⟨.inl ⟨_, rfl, by simp, by rw [List.take_of_length_le (by simp), ← List.map_append]; rfl⟩, .inr rfl, trivial⟩
        repeat' (first | (with_reducible (first | refine k_seq ?_ | refine k_block ?_ | refine k_skip ?_ | refine k_exit ?_ | refine k_ret ?_ | refine n_seq ?_ | refine n_block ?_ | refine e_seq ?_ | refine e_here ?_ | refine r_seq ?_ | refine r_block ?_ | refine o_exit ?_ | refine o_ret ?_)) | refine s_reg ?_ | refine s_ifT ?_ | refine s_ifF ?_ | refine s_if rfl (fun hb => ?_) (fun hb => ?_) | refine r_end ?_ | refine s_endD ?_ | refine s_skipS ?_ | refine s_move ?_ | refine s_assign ?_ | refine s_int ?_ | refine s_loadF1 ?_ | refine s_indexD ?_ (hel := (by first | exact idx_map hv (by omega) | exact idx_map hv2 (by omega) | exact hv | exact hv2 | exact rfl)) | refine s_fieldF ?_ | refine s_call (hmt) ?_ | refine s_pick ?_ | refine s_lenD ?_ | refine s_appE ?_ | refine s_appA ?_ | refine s_bslice0 ?_ | refine s_not ?_ | refine s_build ?_ | refine s_bsliceF 1 ?_ hcf | refine s_split rfl rfl (fun hb => ?_) (fun hb => ?_) | refine f_ret2 def_nil ?_ ?_ | refine t_tmp ?_ | refine t_tmpE ?_)
        rw [o1, o2]
        have hq1 : (m ++ [pairE p q]).length ≤ m.length + 1 := by simp
        have hq2 : m ++ [pairE p q] = l ++ pairs1 p (b.take (j + 1)) on := by rw [hsn2, hinv2, List.append_assoc]
        generalize m ++ [pairE p q] = m2 at hq1 hq2 ⊢
        (apply s_round ((j + 1, m2, _)); all_goals (try dsimp only); all_goals (try (repeat' (first | exact slots_nil | refine w1 ?_ | exact memIn_nil | refine memIn_same ?_ | omega))))
        exact ⟨by omega, hq2, by omega⟩
    · have hje : j = b.length := by omega
      subst hje
      rw [List.take_length] at hinv2
      repeat' (first | (with_reducible (first | refine k_seq ?_ | refine k_block ?_ | refine k_skip ?_ | refine k_exit ?_ | refine k_ret ?_ | refine n_seq ?_ | refine n_block ?_ | refine e_seq ?_ | refine e_here ?_ | refine r_seq ?_ | refine r_block ?_ | refine o_exit ?_ | refine o_ret ?_)) | refine s_reg ?_ | refine s_ifT ?_ | refine s_ifF ?_ | refine s_if rfl (fun hb => ?_) (fun hb => ?_) | refine r_end ?_ | refine s_endD ?_ | refine s_skipS ?_ | refine s_move ?_ | refine s_assign ?_ | refine s_int ?_ | refine s_loadF1 ?_ | refine s_indexD ?_ (hel := (by first | exact rfl)) | refine s_fieldF ?_ | refine s_pick ?_ | refine s_lenD ?_ | refine s_appE ?_ | refine s_appA ?_ | refine s_bslice0 ?_ | refine s_not ?_ | refine s_build ?_ | refine s_split rfl rfl (fun hb => ?_) (fun hb => ?_) | refine f_ret2 def_nil ?_ ?_ | refine t_tmp ?_ | refine t_tmpE ?_)
      (apply s_round ((i + 1, m, k2)); all_goals (try dsimp only); all_goals (try (repeat' (first | exact slots_nil | refine w1 ?_ | exact memIn_nil | refine memIn_same ?_ | omega))))
      exact ⟨by omega, by rw [hsn, hinv2, hinv], by omega⟩
  · have hie : i = a.length := by omega
    subst hie
    rw [List.take_length] at hinv
    have hlb : l.length ≤ 16777216 := by
      have : a.length * b.length ≤ 4096 * 4096 := Nat.mul_le_mul al bl
      omega
    rw [← hinv]
    have hsum := sum_c l.length l (Nat.le_refl _) hlb (by rw [hinv]; exact pairsE_within (fun e he => (am e he).2.1) (fun e he => (bm e he).2.1))
    have hlr := sumR_len l
    have hlr : (sumR l).length ≤ 16777216 := by omega
    generalize sumR l = r at hsum hlr ⊢
    repeat' (first | refine s_freeze 8 ?_ | (with_reducible (first | refine k_seq ?_ | refine k_block ?_ | refine k_skip ?_ | refine k_exit ?_ | refine k_ret ?_ | refine n_seq ?_ | refine n_block ?_ | refine e_seq ?_ | refine e_here ?_ | refine r_seq ?_ | refine r_block ?_ | refine o_exit ?_ | refine o_ret ?_)) | refine s_reg ?_ | refine s_ifT ?_ | refine s_ifF ?_ | refine s_if rfl (fun hb => ?_) (fun hb => ?_) | refine r_end ?_ | refine s_endD ?_ | refine s_skipS ?_ | refine s_move ?_ | refine s_assign ?_ | refine s_int ?_ | refine s_loadF1 ?_ | refine s_indexD ?_ (hel := (by first | exact rfl)) | refine s_fieldF ?_ | refine s_call (hsum) ?_ | refine s_pick ?_ | refine s_lenD ?_ | refine s_appE ?_ | refine s_appA ?_ | refine s_bslice0 ?_ | refine s_not ?_ | refine s_build ?_ | refine s_split rfl rfl (fun hb => ?_) (fun hb => ?_) | refine f_ret2 def_nil ?_ ?_ | refine t_tmp ?_ | refine t_tmpE ?_)
    · unfold boundE; rw [if_pos (by omega)]; rfl
    · unfold boundE; rw [if_pos (by omega)]; rfl
    have hfl : ∀ t : Nat, ∀ e, r[t]? = some e → ¬ (-262144 ≤ e.count ∧ e.count ≤ 262144) → boundE r = ([], 9) := fun t e he hn => by
      unfold boundE
      rw [if_neg (by omega), if_neg]
      intro hh
      have := List.all_eq_true.1 hh e (List.mem_of_getElem? he)
      simp only [decide_eq_true_eq] at this
      exact hn this
    refine s_lp (X := Nat) [6, 7, 11, 77, 78, 79, 80, 81, 82, 83, 84, 85, 86, 87, 88, 89, 90, 91, 92, 93, 94, 95, 96] (fun x => x ≤ r.length ∧ (r.take x).all (fun e => decide (-262144 ≤ e.count ∧ e.count ≤ 262144)) = true) (fun x lz => (11, (.c (.d (.lit (.int .i64 x))))) :: lz) (fun x => [.dead]) (fun x => r.length - x) (0) ?_ ?_ ?_ ?_
    repeat' (first | exact slots_nil | refine w1 ?_ | exact memIn_nil | refine memIn_same ?_ | omega)
    · exact ⟨by simp, by simp⟩
    rintro t c ⟨ht, hq⟩
    by_cases hlt2 : t < r.length
    · have hv : r[t]? = some r[t] := List.getElem?_eq_getElem hlt2
      generalize r[t] = e at hv
      have htk : ∀ f : Entry → Bool, (r.take (t + 1)).all f = ((r.take t).all f && f e) := fun f => by rw [List.take_add_one, hv, List.all_append]; simp
      have hfe := hfl t e hv
      repeat' (first | (with_reducible (first | refine k_seq ?_ | refine k_block ?_ | refine k_skip ?_ | refine k_exit ?_ | refine k_ret ?_ | refine n_seq ?_ | refine n_block ?_ | refine e_seq ?_ | refine e_here ?_ | refine r_seq ?_ | refine r_block ?_ | refine o_exit ?_ | refine o_ret ?_)) | refine s_reg ?_ | refine s_ifT ?_ | refine s_ifF ?_ | refine s_if rfl (fun hb => ?_) (fun hb => ?_) | refine r_end ?_ | refine s_endD ?_ | refine s_skipS ?_ | refine s_move ?_ | refine s_assign ?_ | refine s_int ?_ | refine s_loadF1 ?_ | refine s_indexD ?_ (hel := (by first | exact idx_map hv (by omega) | exact hv | exact rfl)) | refine s_fieldF ?_ | refine s_pick ?_ | refine s_lenD ?_ | refine s_appE ?_ | refine s_appA ?_ | refine s_bslice0 ?_ | refine s_not ?_ | refine s_build ?_ | refine s_split rfl rfl (fun hb => ?_) (fun hb => ?_) | refine f_ret2 def_nil ?_ ?_ | refine t_tmp ?_ | refine t_tmpE ?_)
      · rw [hfe (by omega)]; rfl
      · rw [hfe (by omega)]; rfl
      · rw [hfe (by omega)]; rfl
      · rw [hfe (by omega)]; rfl
      · (apply s_round (t + 1); all_goals (try dsimp only); all_goals (try (repeat' (first | exact slots_nil | refine w1 ?_ | exact memIn_nil | refine memIn_same ?_ | omega))))
        exact ⟨by omega, by rw [htk, hq]; simp; omega⟩
    · have hte : t = r.length := by omega
      subst hte
      rw [List.take_length] at hq
      have hbe : boundE r = (r, 0) := by unfold boundE; rw [if_neg (by omega), if_pos hq]
      rw [hbe]
      repeat' (first | (with_reducible (first | refine k_seq ?_ | refine k_block ?_ | refine k_skip ?_ | refine k_exit ?_ | refine k_ret ?_ | refine n_seq ?_ | refine n_block ?_ | refine e_seq ?_ | refine e_here ?_ | refine r_seq ?_ | refine r_block ?_ | refine o_exit ?_ | refine o_ret ?_)) | refine s_reg ?_ | refine s_ifT ?_ | refine s_ifF ?_ | refine s_if rfl (fun hb => ?_) (fun hb => ?_) | refine r_end ?_ | refine s_endD ?_ | refine s_skipS ?_ | refine s_move ?_ | refine s_assign ?_ | refine s_int ?_ | refine s_loadF1 ?_ | refine s_indexD ?_ (hel := (by first | exact rfl)) | refine s_fieldF ?_ | refine s_pick ?_ | refine s_lenD ?_ | refine s_appE ?_ | refine s_appA ?_ | refine s_bslice0 ?_ | refine s_not ?_ | refine s_build ?_ | refine s_split rfl rfl (fun hb => ?_) (fun hb => ?_) | refine f_ret2 def_nil ?_ ?_ | refine t_tmp ?_ | refine t_tmpE ?_)
      all_goals rfl
end Go.Proofs.YtiidgbfdghplhaaGreat
end
