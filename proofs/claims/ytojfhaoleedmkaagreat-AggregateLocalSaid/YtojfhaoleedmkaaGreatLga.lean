/-
  AggregateGroup: the law returns true.
-/
import Derived.Test.YtojfhaoleedmkaaGreatAgw
import Derived.Test.YtojfhaoleedmkaaGreatRgd
import Derived.Test.YtojfhaoleedmkaaGreatTkg
import Derived.Test.YtojfhaoleedmkaaGreatTex
namespace Go.Proofs.YtojfhaoleedmkaaGreat
open Go.Abs Go.RowKit
attribute [local irreducible] ARun kont MCall PCall HCall resVal SF CF CFs defersOk slotsIn memIn fin finM VLe
set_option linter.unusedSimpArgs false
set_option maxRecDepth 100000
set_option maxHeartbeats 4000000
theorem newTape9_ok {l : List Int} (h : l.length ≤ 17592186044416) : (Tape.mk l 0).ok := ⟨h, by simp⟩
theorem sameSelf_c (l : List Entry) : PCall Tryz.prog 18 [.one (bagD l), .one (bagD l)] (.v (.one (.lit (.bool true)))) := by
  have h := same06_c l l
  rw [sameBag_refl] at h
  exact h
theorem lawGroup_c (t : List Int) (ht : t.length ≤ 17592186044416) : PCall Tryz.prog 3 [.one (numD t)] (.v (.one (.lit (.bool true)))) := by
  have hnew := new_h t ht
  have hok := newTape9_ok ht
  refine pcallN hT Tryz.func3 Tryz.ntmps3 [.tmp 2] fun B => ?_
  repeat' (first | refine Go.Abs.ks ?_ | refine ko ?_ | refine s_callH [] (hnew) ?_ | refine s_kF ?_ | refine f_ret1 def_nil ?_ | refine t_tmp ?_)
  refine s_lp (X := Nat × Tape) [2, 4, 5, 6, 7, 8, 9, 10, 11, 14, 15, 16, 17, 18, 19, 20, 21, 22, 23, 24, 25, 26, 27, 28, 29, 30, 31, 32, 33, 34, 35, 36, 37, 38, 39, 40, 41, 42, 43, 44, 45, 46, 47, 48, 49, 50, 51, 52, 53] (fun x => x.1 ≤ 3 ∧ x.2.ok) (fun x lz => (4, (.c (.d (.lit (.int .i64 x.1))))) :: lz) (fun x => [.dead, .box 1 [.d (numD x.2.l), .d (.lit (.int .i64 x.2.at_))]]) (fun x => 3 - x.1) ((0, ⟨t, 0⟩)) ?_ ?_ ?_ ?_
  repeat' (first | exact slots_nil | refine kw ?_ | exact memIn_nil | omega)
  all_goals try (first | rfl | exact ⟨by omega, hok⟩)
  rintro ⟨i, T⟩ c ⟨hi, hT⟩
  dsimp only at hi hT ⊢
  by_cases hlt : i < 3
  · obtain ⟨b, t1, ok1, vb, -, lb, c1⟩ := bag_h T 3 10 ((i : Int) == 2) hT (by omega) (by omega)
    obtain ⟨ks, t2, ok2, lk, c2⟩ := keys_h t1 2 3 ok1 (by omega) (by omega) (by omega)
    obtain ⟨ag, t3, ok3, la, -, c3⟩ := aggs_h t2 3 3 ok2 (by omega) (by omega) (by omega)
    by_cases h1 : i = 1
    · obtain ⟨b2, t4, ok4, lb2, c4⟩ := spoil_h t3 b ok3 (by omega)
      have g1 := group_c b2 ks ag (by omega) (by omega)
      have g2 := refGroup_c b2 ks ag (by omega) (by omega) (by omega)
      have s1 := sameSelf_c (groupE b2 ks ag).1
      generalize groupE b2 ks ag = R at g1 g2 s1
      obtain ⟨r, e⟩ := R
      dsimp only at g1 g2 s1
      repeat' (first | refine Go.Abs.ks ?_ | refine ko ?_ | refine s_call (g1) ?_ | refine s_call (g2) ?_ | refine s_call (s1) ?_ | refine s_callH [1] (c1) ?_ | refine s_callH [1] (c2) ?_ | refine s_callH [1] (c3) ?_ | refine s_callH [1] (c4) ?_ | refine s_kF ?_ | refine f_ret1 def_nil ?_ | refine t_tmp ?_)
      (apply s_round ((i + 1, t4)); all_goals (try dsimp only); all_goals (try (repeat' (first | exact slots_nil | refine kw ?_ | exact memIn_nil | omega))))
      all_goals first
        | exact ⟨by omega, ok4⟩
        | skip
    · have g1 := group_c b ks ag (by omega) (by omega)
      have g2 := refGroup_c b ks ag (by omega) (by omega) (by omega)
      have s1 := sameSelf_c (groupE b ks ag).1
      generalize groupE b ks ag = R at g1 g2 s1
      obtain ⟨r, e⟩ := R
      dsimp only at g1 g2 s1
      repeat' (first | refine Go.Abs.ks ?_ | refine ko ?_ | refine s_call (g1) ?_ | refine s_call (g2) ?_ | refine s_call (s1) ?_ | refine s_callH [1] (c1) ?_ | refine s_callH [1] (c2) ?_ | refine s_callH [1] (c3) ?_ | refine s_kF ?_ | refine f_ret1 def_nil ?_ | refine t_tmp ?_)
      (apply s_round ((i + 1, t3)); all_goals (try dsimp only); all_goals (try (repeat' (first | exact slots_nil | refine kw ?_ | exact memIn_nil | omega))))
      all_goals first
        | exact ⟨by omega, ok3⟩
        | skip
  · repeat' (first | refine Go.Abs.ks ?_ | refine ko ?_ | refine s_call (awake09_c) ?_ | refine s_kF ?_ | refine f_ret1 def_nil ?_ | refine t_tmp ?_)
    all_goals rfl
end Go.Proofs.YtojfhaoleedmkaaGreat
