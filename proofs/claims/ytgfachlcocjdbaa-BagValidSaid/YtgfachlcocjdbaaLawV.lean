/-
  BagValid.
-/
import Derived.Test.YtgfachlcocjdbaaVld
import Derived.Test.YtgfachlcocjdbaaTab
import Derived.Test.YtgfachlcocjdbaaSpb
import Derived.Test.YtgfachlcocjdbaaSml
import Derived.Test.YtgfachlcocjdbaaLawO
import Derived.Test.YtgfachlcocjdbaaEqs
namespace Go.Proofs.Ytgfachlcocjdbaa
open Go.Abs Go.RowKit
attribute [local irreducible] ARun kont MCall PCall HCall resVal SF CF CFs defersOk slotsIn memIn fin finM VLe
set_option linter.unusedSimpArgs false
set_option maxRecDepth 100000
set_option maxHeartbeats 4000000

theorem validLoop (x y b z : List Entry) (hx : x.length ≤ 1000) (hy : y.length ≤ 1000) (hb : b.length ≤ 1000) (hz : z.length ≤ 1000) (i : Nat) (hi : i < 4) : ∃ e : List Entry, ([[bagD x], [bagD y], [bagD b], [bagD z]] : List (List Dat))[i]? = some [bagD e] ∧ e.length ≤ 1000 := by
  match i, hi with
  | 0, _ => exact ⟨x, rfl, hx⟩
  | 1, _ => exact ⟨y, rfl, hy⟩
  | 2, _ => exact ⟨b, rfl, hb⟩
  | 3, _ => exact ⟨z, rfl, hz⟩

theorem lawValid_c (t : List Int) (b0 : List Entry) (ht : t.length ≤ 17592186044416) : PCall Try.prog 6 [.one (numD t), .one (bagD b0)] (.v (.one (.lit (.bool true)))) := by
  have hnew := new_h t ht
  have hok := newTape_ok ht
  obtain ⟨x, t1, ok1, vx, -, lx, c1⟩ := bag_h ⟨t, 0⟩ 3 8 true hok (by omega) (by omega)
  obtain ⟨y, t2, ok2, ly, c2⟩ := spoil_h t1 x ok1 (by omega)
  obtain ⟨z, t3, ok3, vz, -, lz, c3⟩ := bag_h t2 2 5 false ok2 (by omega) (by omega)
  have hsm := smallBag_c b0
  obtain ⟨b, hbl, hbe⟩ : ∃ b : List Entry, b.length ≤ 1000 ∧ b = if smallE b0 then b0 else [] := by
    refine ⟨_, ?_, rfl⟩
    split
    · rename_i hs
      have : b0.length ≤ 40 := by simp only [smallE, Bool.and_eq_true, decide_eq_true_eq] at hs; exact hs.1
      omega
    · simp
  have hL := validLoop x y b z (by omega) (by omega) hbl (by omega)
  have hb0 : smallE b0 = true → b = b0 := fun h => by rw [hbe, if_pos h]
  have hb1 : smallE b0 = false → b = [] := fun h => by rw [hbe, if_neg (by simp [h])]
  clear hbe
  generalize smallE b0 = sm at hsm hb0 hb1
  refine pcallN hT Try.func6 Try.ntmps6 [.tmp 4] fun B => ?_
  repeat' (first | refine k_join (x := .cond (.tmp 14) _ _) ⟨125, [(5, .c (.bp 1 1 0)), (0, .c (.d (numD t))), (1, .c (.d (bagD b)))], [.dead, .box 1 [.d (numD t), .d (.lit (.int .i64 0))]], 3, []⟩ ?_ ?_ | (with_reducible (first | refine k_seq ?_ | refine k_block ?_ | refine k_skip ?_ | refine k_exit ?_ | refine k_ret ?_ | refine n_seq ?_ | refine n_block ?_ | refine e_seq ?_ | refine e_here ?_ | refine o_exit ?_)) | refine s_reg ?_ | refine s_ifT ?_ | refine s_ifF ?_ | refine s_if rfl (fun hb => ?_) (fun hb => ?_) | refine r_end ?_ | refine s_endD ?_ | refine s_skipS ?_ | refine s_move ?_ | refine s_assign ?_ | refine s_int ?_ | refine s_loadF1 ?_ | refine s_indexD ?_ (hel := (by first | exact rfl)) | refine s_fieldF ?_ | refine s_call (hsm) ?_ | refine s_callH [] (hnew) ?_ | refine s_callH [1] (c1) ?_ | refine s_callH [1] (c2) ?_ | refine s_callH [1] (c3) ?_ | refine s_pick ?_ | refine s_lenD ?_ | refine s_bslice ?_ | refine s_not ?_ | refine s_kT ?_ | refine s_kF ?_ | refine f_ret1 def_nil ?_ | refine t_tmp ?_)
  · obtain rfl := hb1 hb
    refine j_end ?_ ?_ (by omega)
    all_goals (repeat' (first | exact slots_nil | refine w1 ?_ | exact memIn_nil | refine memIn_same ?_ | omega))
  · obtain rfl := hb0 hb
    refine j_end ?_ ?_ (by omega)
    all_goals (repeat' (first | exact slots_nil | refine w1 ?_ | exact memIn_nil | refine memIn_same ?_ | omega))
  have hLn : ([[bagD x], [bagD y], [bagD b], [bagD z]] : List (List Dat)).length = 4 := rfl
  generalize ([[bagD x], [bagD y], [bagD b], [bagD z]] : List (List Dat)) = LL at hL hLn ⊢
  refine k_weakS [(8, (.c (.d (.lit (.int .i64 0))))), (7, .c (.d (.sl LL))), (5, .c (.bp 1 1 0))] [.dead, .box 1 [.d (numD t3.l), .d (.lit (.int .i64 t3.at_))]] 10 ?_ ?_ (by omega) ?_
  · repeat' (first | exact slots_nil | refine w1 ?_ | exact memIn_nil | refine memIn_same ?_ | omega)
  · repeat' (first | exact slots_nil | refine w1 ?_ | exact memIn_nil | refine memIn_same ?_ | omega)
  refine s_lp (X := Nat × Tape) [4, 8, 9, 25, 26, 27, 28, 29, 30, 31, 32, 33, 34, 35, 36, 37, 38, 39, 40, 41, 42, 43, 44, 45, 46, 47, 48, 49, 50, 51, 52, 53, 54, 55, 56, 57, 58, 59, 60, 61, 62, 63, 64, 65, 66, 67, 68, 69, 70, 71, 72, 73, 74, 75, 76, 77, 78, 79, 80, 81, 82, 83, 84, 85, 86, 87, 88, 89, 90, 91, 92, 93, 94, 95, 96, 97, 98, 99, 100, 101, 102, 103, 104, 105, 106, 107, 108, 109, 110, 111, 112, 113, 114, 115, 116, 117, 118, 119, 120, 121, 122, 123] (fun x => x.1 ≤ 4 ∧ x.2.ok) (fun x lz => (8, (.c (.d (.lit (.int .i64 x.1))))) :: lz) (fun x => [.dead, .box 1 [.d (numD x.2.l), .d (.lit (.int .i64 x.2.at_))]]) (fun x => 4 - x.1) ((0, t3)) ?_ ?_ ?_ ?_
  repeat' (first | exact slots_nil | refine w1 ?_ | exact memIn_nil | refine memIn_same ?_ | omega)
  all_goals try (exact ⟨by omega, ok3⟩)
  rintro ⟨i, T⟩ c ⟨hi, hT⟩
  dsimp only at hi hT ⊢
  by_cases hlt : i < 4
  · obtain ⟨e, hv, hel⟩ := hL i hlt
    obtain ⟨r, T1, okT1, hr, hrc⟩ := row_h T 3 hT (by omega)
    have hf9 : List.take r.length (r.map Val.d) = r.map Val.d := take_ge (by simp)
    have d1 := bagValid_c e
    have d2 := refBagValid_c e
    have d3 := positive_c e
    have d4 := refPositive_c e
    have d5 := size_c e
    have d6 := refSize_c e
    have d7 := support_c e
    have d8 := refSupport_c e
    have d9 := same06_c (supportE e) (supportE e)
    rw [sameBag_refl] at d9
    generalize bagValid e = g1 at d1 d2
    generalize positiveE e = g2 at d3 d4
    generalize sizeE e = g3 at d5 d6
    generalize supportE e = g4 at d7 d8 d9
    by_cases he : 0 < e.length
    · have hnx := next_h T1 2 okT1 (by omega) (by omega)
      have okT2 := okT1.go 2
      obtain ⟨n1, n2⟩ := T1.nx_bd 2
      generalize T1.nx 2 = w at hnx n1 n2
      generalize T1.go 2 = T2 at hnx okT2
      by_cases hw : w = 0
      · subst hw
        have hny := next_h T2 (e.length : Int) okT2 (by omega) (by omega)
        have okT3 := okT2.go (e.length : Int)
        obtain ⟨m1, m2⟩ := T2.nx_bd (e.length : Int)
        generalize T2.go (e.length : Int) = T3 at hny okT3
        generalize T2.nx (e.length : Int) = kz at hny m1 m2
        obtain ⟨k, rfl⟩ := Int.eq_ofNat_of_zero_le m1
        have hq : e[k]? = some e[k] := List.getElem?_eq_getElem (by omega)
        generalize e[k] = q at hq
        have k1 := count_c e q.row
        have k2 := refCount_c e q.row
        generalize cntE e q.row = g5 at k1 k2
        repeat' (first | refine s_freeze 9 ?_ (hes := hf9) | refine s_neIs ?_ | refine s_neBs ?_ | (with_reducible (first | refine k_seq ?_ | refine k_block ?_ | refine k_skip ?_ | refine k_exit ?_ | refine k_ret ?_ | refine n_seq ?_ | refine n_block ?_ | refine e_seq ?_ | refine e_here ?_ | refine o_exit ?_)) | refine s_reg ?_ | refine s_ifT ?_ | refine s_ifF ?_ | refine s_if rfl (fun hb => ?_) (fun hb => ?_) | refine r_end ?_ | refine s_endD ?_ | refine s_skipS ?_ | refine s_move ?_ | refine s_assign ?_ | refine s_int ?_ | refine s_loadF1 ?_ | refine s_indexD ?_ (hel := (by first | exact idx_map hv (by omega) | exact idx_map hq (by omega) | exact hv | exact hq | exact rfl)) | refine s_fieldF ?_ | refine s_call (d1) ?_ | refine s_call (d2) ?_ | refine s_call (d3) ?_ | refine s_call (d4) ?_ | refine s_call (d5) ?_ | refine s_call (d6) ?_ | refine s_call (d7) ?_ | refine s_call (d8) ?_ | refine s_call (d9) ?_ | refine s_call (k1) ?_ | refine s_call (k2) ?_ | refine s_callH [1] (hrc) ?_ | refine s_callH [1] (hnx) ?_ | refine s_callH [1] (hny) ?_ | refine s_pick ?_ | refine s_lenD ?_ | refine s_bslice ?_ | refine s_not ?_ | refine s_kT ?_ | refine s_kF ?_ | refine f_ret1 def_nil ?_ | refine t_tmp ?_)
        try dsimp only [List.toList_toArray, List.append]
        repeat' (first | refine s_neIs ?_ | refine s_neBs ?_ | (with_reducible (first | refine k_seq ?_ | refine k_block ?_ | refine k_skip ?_ | refine k_exit ?_ | refine k_ret ?_ | refine n_seq ?_ | refine n_block ?_ | refine e_seq ?_ | refine e_here ?_ | refine o_exit ?_)) | refine s_reg ?_ | refine s_ifT ?_ | refine s_ifF ?_ | refine s_if rfl (fun hb => ?_) (fun hb => ?_) | refine r_end ?_ | refine s_endD ?_ | refine s_skipS ?_ | refine s_move ?_ | refine s_assign ?_ | refine s_int ?_ | refine s_loadF1 ?_ | refine s_indexD ?_ (hel := (by first | exact idx_map hv (by omega) | exact idx_map hq (by omega) | exact hv | exact hq | exact rfl)) | refine s_fieldF ?_ | refine s_call (d1) ?_ | refine s_call (d2) ?_ | refine s_call (d3) ?_ | refine s_call (d4) ?_ | refine s_call (d5) ?_ | refine s_call (d6) ?_ | refine s_call (d7) ?_ | refine s_call (d8) ?_ | refine s_call (d9) ?_ | refine s_call (k1) ?_ | refine s_call (k2) ?_ | refine s_pick ?_ | refine s_lenD ?_ | refine s_bslice ?_ | refine s_not ?_ | refine s_kT ?_ | refine s_kF ?_ | refine f_ret1 def_nil ?_ | refine t_tmp ?_)
        (apply s_round ((i + 1, T3)); all_goals (try dsimp only); all_goals (try (repeat' (first | exact slots_nil | refine w1 ?_ | exact memIn_nil | refine memIn_same ?_ | omega))))
        all_goals exact ⟨by omega, okT3⟩
      · skip
        have k1 := count_c e r
        have k2 := refCount_c e r
        generalize cntE e r = g5 at k1 k2
        repeat' (first | refine s_freeze 9 ?_ (hes := hf9) | refine s_neIs ?_ | refine s_neBs ?_ | (with_reducible (first | refine k_seq ?_ | refine k_block ?_ | refine k_skip ?_ | refine k_exit ?_ | refine k_ret ?_ | refine n_seq ?_ | refine n_block ?_ | refine e_seq ?_ | refine e_here ?_ | refine o_exit ?_)) | refine s_reg ?_ | refine s_ifT ?_ | refine s_ifF ?_ | refine s_if rfl (fun hb => ?_) (fun hb => ?_) | refine r_end ?_ | refine s_endD ?_ | refine s_skipS ?_ | refine s_move ?_ | refine s_assign ?_ | refine s_int ?_ | refine s_loadF1 ?_ | refine s_indexD ?_ (hel := (by first | exact idx_map hv (by omega) | exact hv | exact rfl)) | refine s_fieldF ?_ | refine s_call (d1) ?_ | refine s_call (d2) ?_ | refine s_call (d3) ?_ | refine s_call (d4) ?_ | refine s_call (d5) ?_ | refine s_call (d6) ?_ | refine s_call (d7) ?_ | refine s_call (d8) ?_ | refine s_call (d9) ?_ | refine s_call (k1) ?_ | refine s_call (k2) ?_ | refine s_callH [1] (hrc) ?_ | refine s_callH [1] (hnx) ?_ | refine s_pick ?_ | refine s_lenD ?_ | refine s_bslice ?_ | refine s_not ?_ | refine s_kT ?_ | refine s_kF ?_ | refine f_ret1 def_nil ?_ | refine t_tmp ?_)
        try dsimp only [List.toList_toArray, List.append]
        repeat' (first | refine s_neIs ?_ | refine s_neBs ?_ | (with_reducible (first | refine k_seq ?_ | refine k_block ?_ | refine k_skip ?_ | refine k_exit ?_ | refine k_ret ?_ | refine n_seq ?_ | refine n_block ?_ | refine e_seq ?_ | refine e_here ?_ | refine o_exit ?_)) | refine s_reg ?_ | refine s_ifT ?_ | refine s_ifF ?_ | refine s_if rfl (fun hb => ?_) (fun hb => ?_) | refine r_end ?_ | refine s_endD ?_ | refine s_skipS ?_ | refine s_move ?_ | refine s_assign ?_ | refine s_int ?_ | refine s_loadF1 ?_ | refine s_indexD ?_ (hel := (by first | exact idx_map hv (by omega) | exact hv | exact rfl)) | refine s_fieldF ?_ | refine s_call (d1) ?_ | refine s_call (d2) ?_ | refine s_call (d3) ?_ | refine s_call (d4) ?_ | refine s_call (d5) ?_ | refine s_call (d6) ?_ | refine s_call (d7) ?_ | refine s_call (d8) ?_ | refine s_call (d9) ?_ | refine s_call (k1) ?_ | refine s_call (k2) ?_ | refine s_pick ?_ | refine s_lenD ?_ | refine s_bslice ?_ | refine s_not ?_ | refine s_kT ?_ | refine s_kF ?_ | refine f_ret1 def_nil ?_ | refine t_tmp ?_)
        (apply s_round ((i + 1, T2)); all_goals (try dsimp only); all_goals (try (repeat' (first | exact slots_nil | refine w1 ?_ | exact memIn_nil | refine memIn_same ?_ | omega))))
        all_goals exact ⟨by omega, okT2⟩
    · skip
      have k1 := count_c e r
      have k2 := refCount_c e r
      generalize cntE e r = g5 at k1 k2
      repeat' (first | refine s_freeze 9 ?_ (hes := hf9) | refine s_neIs ?_ | refine s_neBs ?_ | (with_reducible (first | refine k_seq ?_ | refine k_block ?_ | refine k_skip ?_ | refine k_exit ?_ | refine k_ret ?_ | refine n_seq ?_ | refine n_block ?_ | refine e_seq ?_ | refine e_here ?_ | refine o_exit ?_)) | refine s_reg ?_ | refine s_ifT ?_ | refine s_ifF ?_ | refine s_if rfl (fun hb => ?_) (fun hb => ?_) | refine r_end ?_ | refine s_endD ?_ | refine s_skipS ?_ | refine s_move ?_ | refine s_assign ?_ | refine s_int ?_ | refine s_loadF1 ?_ | refine s_indexD ?_ (hel := (by first | exact idx_map hv (by omega) | exact hv | exact rfl)) | refine s_fieldF ?_ | refine s_call (d1) ?_ | refine s_call (d2) ?_ | refine s_call (d3) ?_ | refine s_call (d4) ?_ | refine s_call (d5) ?_ | refine s_call (d6) ?_ | refine s_call (d7) ?_ | refine s_call (d8) ?_ | refine s_call (d9) ?_ | refine s_call (k1) ?_ | refine s_call (k2) ?_ | refine s_callH [1] (hrc) ?_ | refine s_pick ?_ | refine s_lenD ?_ | refine s_bslice ?_ | refine s_not ?_ | refine s_kT ?_ | refine s_kF ?_ | refine f_ret1 def_nil ?_ | refine t_tmp ?_)
      try dsimp only [List.toList_toArray, List.append]
      repeat' (first | refine s_neIs ?_ | refine s_neBs ?_ | (with_reducible (first | refine k_seq ?_ | refine k_block ?_ | refine k_skip ?_ | refine k_exit ?_ | refine k_ret ?_ | refine n_seq ?_ | refine n_block ?_ | refine e_seq ?_ | refine e_here ?_ | refine o_exit ?_)) | refine s_reg ?_ | refine s_ifT ?_ | refine s_ifF ?_ | refine s_if rfl (fun hb => ?_) (fun hb => ?_) | refine r_end ?_ | refine s_endD ?_ | refine s_skipS ?_ | refine s_move ?_ | refine s_assign ?_ | refine s_int ?_ | refine s_loadF1 ?_ | refine s_indexD ?_ (hel := (by first | exact idx_map hv (by omega) | exact hv | exact rfl)) | refine s_fieldF ?_ | refine s_call (d1) ?_ | refine s_call (d2) ?_ | refine s_call (d3) ?_ | refine s_call (d4) ?_ | refine s_call (d5) ?_ | refine s_call (d6) ?_ | refine s_call (d7) ?_ | refine s_call (d8) ?_ | refine s_call (d9) ?_ | refine s_call (k1) ?_ | refine s_call (k2) ?_ | refine s_pick ?_ | refine s_lenD ?_ | refine s_bslice ?_ | refine s_not ?_ | refine s_kT ?_ | refine s_kF ?_ | refine f_ret1 def_nil ?_ | refine t_tmp ?_)
      (apply s_round ((i + 1, T1)); all_goals (try dsimp only); all_goals (try (repeat' (first | exact slots_nil | refine w1 ?_ | exact memIn_nil | refine memIn_same ?_ | omega))))
      all_goals exact ⟨by omega, okT1⟩
  · repeat' (first | (with_reducible (first | refine k_seq ?_ | refine k_block ?_ | refine k_skip ?_ | refine k_exit ?_ | refine k_ret ?_ | refine n_seq ?_ | refine n_block ?_ | refine e_seq ?_ | refine e_here ?_ | refine o_exit ?_)) | refine s_reg ?_ | refine s_ifT ?_ | refine s_ifF ?_ | refine s_if rfl (fun hb => ?_) (fun hb => ?_) | refine r_end ?_ | refine s_endD ?_ | refine s_skipS ?_ | refine s_move ?_ | refine s_assign ?_ | refine s_int ?_ | refine s_loadF1 ?_ | refine s_indexD ?_ (hel := (by first | exact rfl)) | refine s_fieldF ?_ | refine s_call (awake06_c) ?_ | refine s_pick ?_ | refine s_lenD ?_ | refine s_bslice ?_ | refine s_not ?_ | refine s_kT ?_ | refine s_kF ?_ | refine f_ret1 def_nil ?_ | refine t_tmp ?_)
    all_goals rfl
end Go.Proofs.Ytgfachlcocjdbaa
