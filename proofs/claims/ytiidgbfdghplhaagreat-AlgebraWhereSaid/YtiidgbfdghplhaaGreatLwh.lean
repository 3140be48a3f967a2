/-
  AlgebraWhere: the law returns true.
-/
import Derived.Test.YtiidgbfdghplhaaGreatLam
import Derived.Test.YtiidgbfdghplhaaGreatSpb
import Derived.Test.YtiidgbfdghplhaaGreatTab
import Derived.Test.YtiidgbfdghplhaaGreatSme
import Derived.Test.YtiidgbfdghplhaaGreatExn
namespace Go.Proofs.YtiidgbfdghplhaaGreat
open Go.Abs Go.RowKit
attribute [local irreducible] ARun kont MCall PCall HCall resVal SF CF CFs defersOk slotsIn memIn fin finM VLe
set_option linter.unusedSimpArgs false
set_option maxRecDepth 100000
set_option maxHeartbeats 4000000

theorem newTapeW_ok {l : List Int} (h : l.length ≤ 17592186044416) : (Tape.mk l 0).ok := ⟨h, by simp⟩
theorem sameSelf_c (l : List Entry) : PCall Tryz.prog 19 [.one (bagD l), .one (bagD l)] (.v (.one (.lit (.bool true)))) := by
  have h := same06_c l l
  rw [sameBag_refl] at h
  exact h
theorem where_all {x : List Entry} (h : bagValid x = true) : whereE x [] = x := by
  rw [whereE, h, if_pos rfl]
  exact List.filter_eq_self.2 fun e _ => rfl

theorem lawWhere_c (t : List Int) (b : List Entry) (e : List Trm) (ht : t.length ≤ 17592186044416) : PCall Tryz.prog 5 [.one (numD t), .one (bagD b), .one (exprD e)] (.v (.one (.lit (.bool true)))) := by
  have hnew := new_h t ht
  have hok := newTapeW_ok ht
  obtain ⟨x, t1, ok1, vx, -, lx, c1⟩ := bag_h ⟨t, 0⟩ 3 8 true hok (by omega) (by omega)
  obtain ⟨f, t2, ok2, -, c2⟩ := expr_h 3 (by omega) (by omega) 3 t1 ok1 (by omega)
  obtain ⟨y, t3, ok3, -, c3⟩ := spoil_h t2 x ok2 (by omega)
  have sb := smallBag_c b
  have sx := small_c [e]
  have w1 := where_c x f
  have r1 := refWhere_c x f
  have w2 := where_c y f
  have r2 := refWhere_c y f
  have w5 := where_c x []
  rw [where_all vx] at w5
  have s5 := sameSelf_c x
  generalize whereE x f = A1 at w1 r1
  generalize whereE y f = A2 at w2 r2
  have s1 := sameSelf_c A1
  have s2 := sameSelf_c A2
  by_cases hsm : smallE b = true ∧ smallX [e] = true
  · rw [hsm.1] at sb
    rw [hsm.2] at sx
    have w3 := where_c x e
    have r3 := refWhere_c x e
    have w4 := where_c b f
    have r4 := refWhere_c b f
    generalize whereE x e = A3 at w3 r3
    generalize whereE b f = A4 at w4 r4
    have s3 := sameSelf_c A3
    have s4 := sameSelf_c A4
    refine pcallN hT Tryz.func5 Tryz.ntmps5 [.tmp 6] fun B => ?_
    repeat' (first | (with_reducible (first | refine k_seq ?_ | refine k_skip ?_ | refine k_ret ?_ | refine n_seq ?_)) | refine s_reg ?_ | refine s_ifT ?_ | refine s_ifF ?_ | refine r_end ?_ | refine s_skipS ?_ | refine s_move ?_ | refine s_assign ?_ | refine s_call (sb) ?_ | refine s_call (sx) ?_ | refine s_call (w1) ?_ | refine s_call (r1) ?_ | refine s_call (w2) ?_ | refine s_call (r2) ?_ | refine s_call (w3) ?_ | refine s_call (r3) ?_ | refine s_call (w4) ?_ | refine s_call (r4) ?_ | refine s_call (w5) ?_ | refine s_call (s1) ?_ | refine s_call (s2) ?_ | refine s_call (s3) ?_ | refine s_call (s4) ?_ | refine s_call (s5) ?_ | refine s_call (awake08_c) ?_ | refine s_callH [] (hnew) ?_ | refine s_callH [1] (c1) ?_ | refine s_callH [1] (c2) ?_ | refine s_callH [1] (c3) ?_ | refine s_pick ?_ | refine s_bslice ?_ | refine s_not ?_ | refine f_ret1 def_nil ?_ | refine t_tmp ?_)
    all_goals rfl
  · have w3 := refWhere_c x []
    rw [where_all vx] at w3
    have w4 := where_c [] f
    have r4 := refWhere_c [] f
    rw [show whereE [] f = [] from rfl] at w4 r4
    have s4 := sameSelf_c []
    cases hb : smallE b with
    | true =>
      have hx : smallX [e] = false := by
        cases hq : smallX [e] with
        | false => rfl
        | true => exact absurd ⟨hb, hq⟩ hsm
      rw [hb] at sb
      rw [hx] at sx
      refine pcallN hT Tryz.func5 Tryz.ntmps5 [.tmp 6] fun B => ?_
      repeat' (first | (with_reducible (first | refine k_seq ?_ | refine k_skip ?_ | refine k_ret ?_ | refine n_seq ?_)) | refine s_reg ?_ | refine s_ifT ?_ | refine s_ifF ?_ | refine r_end ?_ | refine s_skipS ?_ | refine s_move ?_ | refine s_assign ?_ | refine s_call (sb) ?_ | refine s_call (sx) ?_ | refine s_call (w1) ?_ | refine s_call (r1) ?_ | refine s_call (w2) ?_ | refine s_call (r2) ?_ | refine s_call (w3) ?_ | refine s_call (w4) ?_ | refine s_call (r4) ?_ | refine s_call (w5) ?_ | refine s_call (s1) ?_ | refine s_call (s2) ?_ | refine s_call (s4) ?_ | refine s_call (s5) ?_ | refine s_call (awake08_c) ?_ | refine s_callH [] (hnew) ?_ | refine s_callH [1] (c1) ?_ | refine s_callH [1] (c2) ?_ | refine s_callH [1] (c3) ?_ | refine s_pick ?_ | refine s_bslice ?_ | refine s_not ?_ | refine f_ret1 def_nil ?_ | refine t_tmp ?_)
      all_goals rfl
    | false =>
      rw [hb] at sb
      refine pcallN hT Tryz.func5 Tryz.ntmps5 [.tmp 6] fun B => ?_
      repeat' (first | (with_reducible (first | refine k_seq ?_ | refine k_skip ?_ | refine k_ret ?_ | refine n_seq ?_)) | refine s_reg ?_ | refine s_ifT ?_ | refine s_ifF ?_ | refine r_end ?_ | refine s_skipS ?_ | refine s_move ?_ | refine s_assign ?_ | refine s_call (sb) ?_ | refine s_call (sx) ?_ | refine s_call (w1) ?_ | refine s_call (r1) ?_ | refine s_call (w2) ?_ | refine s_call (r2) ?_ | refine s_call (w3) ?_ | refine s_call (w4) ?_ | refine s_call (r4) ?_ | refine s_call (w5) ?_ | refine s_call (s1) ?_ | refine s_call (s2) ?_ | refine s_call (s4) ?_ | refine s_call (s5) ?_ | refine s_call (awake08_c) ?_ | refine s_callH [] (hnew) ?_ | refine s_callH [1] (c1) ?_ | refine s_callH [1] (c2) ?_ | refine s_callH [1] (c3) ?_ | refine s_pick ?_ | refine s_bslice ?_ | refine s_not ?_ | refine f_ret1 def_nil ?_ | refine t_tmp ?_)
      all_goals rfl
end Go.Proofs.YtiidgbfdghplhaaGreat
