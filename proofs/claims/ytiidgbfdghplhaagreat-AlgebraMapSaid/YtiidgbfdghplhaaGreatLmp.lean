/-
  AlgebraMap: the law returns true.
-/
import Derived.Test.YtiidgbfdghplhaaGreatLam
import Derived.Test.YtiidgbfdghplhaaGreatSpb
import Derived.Test.YtiidgbfdghplhaaGreatTab
import Derived.Test.YtiidgbfdghplhaaGreatSme
import Derived.Test.YtiidgbfdghplhaaGreatSpe
import Derived.Test.YtiidgbfdghplhaaGreatExo
namespace Go.Proofs.YtiidgbfdghplhaaGreat
open Go.Abs Go.RowKit
attribute [local irreducible] ARun kont MCall PCall HCall resVal SF CF CFs defersOk slotsIn memIn fin finM VLe
set_option linter.unusedSimpArgs false
set_option maxRecDepth 100000
set_option maxHeartbeats 4000000

theorem newTapeM_ok {l : List Int} (h : l.length ≤ 17592186044416) : (Tape.mk l 0).ok := ⟨h, by simp⟩

theorem maps_c (b : List Entry) (items : List (List Trm)) : PCall Tryz.prog 18 [.one (bagD b), .one (partsD items)] (.v (.one (.lit (.bool true)))) := by
  have h1 := map_c b items
  have h2 := refMap_c b items
  have h3 := same06_c (mapE b items).1 (mapE b items).1
  rw [sameBag_refl] at h3
  generalize mapE b items = R at h1 h2 h3
  obtain ⟨r, e⟩ := R
  dsimp only [bagI] at h1 h2 h3
  generalize partsD items = L at h1 h2 ⊢
  refine pcallN hT Tryz.func18 Tryz.ntmps18 [.tmp 4] fun B => ?_
  repeat' (first | (with_reducible (first | refine k_seq ?_ | refine k_ret ?_ | refine n_seq ?_)) | refine s_reg ?_ | refine r_end ?_ | refine s_move ?_ | refine s_assign ?_ | refine s_int ?_ | refine s_call (h1) ?_ | refine s_call (h2) ?_ | refine s_call (h3) ?_ | refine s_pick ?_ | refine s_extract ?_ | refine s_kT ?_ | refine f_ret1 def_nil ?_ | refine t_tmp ?_)
  all_goals rfl

theorem lawMap_c (t : List Int) (b : List Entry) (items : List (List Trm)) (ht : t.length ≤ 17592186044416) : PCall Tryz.prog 4 [.one (numD t), .one (bagD b), .one (partsD items)] (.v (.one (.lit (.bool true)))) := by
  have hnew := new_h t ht
  have hok := newTapeM_ok ht
  obtain ⟨x, t1, ok1, vx, -, lx, c1⟩ := bag_h ⟨t, 0⟩ 3 8 true hok (by omega) (by omega)
  obtain ⟨e1, t2, ok2, -, c2⟩ := expr_h 3 (by omega) (by omega) 2 t1 ok1 (by omega)
  obtain ⟨e2, t3, ok3, -, c3⟩ := expr_h 4 (by omega) (by omega) 3 t2 ok2 (by omega)
  obtain ⟨e3, t4, ok4, l4, c4⟩ := expr_h 3 (by omega) (by omega) 2 t3 ok3 (by omega)
  obtain ⟨e4, t5, ok5, -, c5⟩ := spoilE_h t4 e3 ok4 (by omega)
  obtain ⟨v, t6, ok6, l6, c6⟩ := nextE_h t5 4 ok5 (by omega) (by omega)
  obtain ⟨y, t7, ok7, -, c7⟩ := spoil_h t6 x ok6 (by omega)
  have hl : partsD ([e1, e2, e4].take v) = .sl (([[exprD e1], [exprD e2], [exprD e4]] : List (List Dat)).take v) := by
    rw [partsD, List.map_take]; rfl
  have q1 := maps_c x ([e1, e2, e4].take v)
  have q2 := maps_c y ([e1, e2, e4].take v)
  have q3 := maps_c x items
  have q4 := maps_c b ([e1, e2, e4].take v)
  have q5 := maps_c x []
  have q6 := maps_c [] ([e1, e2, e4].take v)
  rw [hl] at q1 q2 q4 q6
  have sb := smallBag_c b
  have sx : PCall Tryz.prog 15 [.one (partsD items)] (.v (.one (.lit (.bool (smallX items))))) := small_c items
  rw [show partsD [] = .sl [] from rfl] at q5
  generalize partsD items = L at sx q3 ⊢
  cases hb : smallE b with
  | true =>
    rw [hb] at sb
    cases hx : smallX items with
    | true =>
      rw [hx] at sx
      clear q5 q6
      refine pcallN hT Tryz.func4 Tryz.ntmps4 [.tmp 6] fun B => ?_
      repeat' (first | (with_reducible (first | refine k_seq ?_ | refine k_skip ?_ | refine k_ret ?_ | refine n_seq ?_)) | refine s_reg ?_ | refine s_ifT ?_ | refine s_ifF ?_ | refine r_end ?_ | refine s_skipS ?_ | refine s_move ?_ | refine s_assign ?_ | refine s_call (sb) ?_ | refine s_call (sx) ?_ | refine s_call (q1) ?_ | refine s_call (q2) ?_ | refine s_call (q3) ?_ | refine s_call (q4) ?_ | refine s_call (awake08_c) ?_ | refine s_callH [] (hnew) ?_ | refine s_callH [1] (c1) ?_ | refine s_callH [1] (c2) ?_ | refine s_callH [1] (c3) ?_ | refine s_callH [1] (c4) ?_ | refine s_callH [1] (c5) ?_ | refine s_callH [1] (c6) ?_ | refine s_callH [1] (c7) ?_ | refine s_pick ?_ | refine s_bslice ?_ | refine s_not ?_ | refine s_sliceD ?_ | refine f_ret1 def_nil ?_ | refine t_tmp ?_)
      all_goals rfl
    | false =>
      rw [hx] at sx
      clear q3 q4
      refine pcallN hT Tryz.func4 Tryz.ntmps4 [.tmp 6] fun B => ?_
      repeat' (first | (with_reducible (first | refine k_seq ?_ | refine k_skip ?_ | refine k_ret ?_ | refine n_seq ?_)) | refine s_reg ?_ | refine s_ifT ?_ | refine s_ifF ?_ | refine r_end ?_ | refine s_skipS ?_ | refine s_move ?_ | refine s_assign ?_ | refine s_call (sb) ?_ | refine s_call (sx) ?_ | refine s_call (q1) ?_ | refine s_call (q2) ?_ | refine s_call (q5) ?_ | refine s_call (q6) ?_ | refine s_call (awake08_c) ?_ | refine s_callH [] (hnew) ?_ | refine s_callH [1] (c1) ?_ | refine s_callH [1] (c2) ?_ | refine s_callH [1] (c3) ?_ | refine s_callH [1] (c4) ?_ | refine s_callH [1] (c5) ?_ | refine s_callH [1] (c6) ?_ | refine s_callH [1] (c7) ?_ | refine s_pick ?_ | refine s_bslice ?_ | refine s_not ?_ | refine s_sliceD ?_ | refine f_ret1 def_nil ?_ | refine t_tmp ?_)
      all_goals rfl
  | false =>
    rw [hb] at sb
    clear q3 q4
    refine pcallN hT Tryz.func4 Tryz.ntmps4 [.tmp 6] fun B => ?_
    repeat' (first | (with_reducible (first | refine k_seq ?_ | refine k_skip ?_ | refine k_ret ?_ | refine n_seq ?_)) | refine s_reg ?_ | refine s_ifT ?_ | refine s_ifF ?_ | refine r_end ?_ | refine s_skipS ?_ | refine s_move ?_ | refine s_assign ?_ | refine s_call (sb) ?_ | refine s_call (sx) ?_ | refine s_call (q1) ?_ | refine s_call (q2) ?_ | refine s_call (q5) ?_ | refine s_call (q6) ?_ | refine s_call (awake08_c) ?_ | refine s_callH [] (hnew) ?_ | refine s_callH [1] (c1) ?_ | refine s_callH [1] (c2) ?_ | refine s_callH [1] (c3) ?_ | refine s_callH [1] (c4) ?_ | refine s_callH [1] (c5) ?_ | refine s_callH [1] (c6) ?_ | refine s_callH [1] (c7) ?_ | refine s_pick ?_ | refine s_bslice ?_ | refine s_not ?_ | refine s_sliceD ?_ | refine f_ret1 def_nil ?_ | refine t_tmp ?_)
    all_goals rfl
end Go.Proofs.YtiidgbfdghplhaaGreat
