/-
  AggregateFold: the law returns true.
-/
import Derived.Test.YtojfhaoleedmkaaGreatLga
import Derived.Test.YtojfhaoleedmkaaGreatRgb
import Derived.Test.YtojfhaoleedmkaaGreatRge
import Derived.Test.YtojfhaoleedmkaaGreatSml
import Derived.Test.YtojfhaoleedmkaaGreatEqv
namespace Go.Proofs.YtojfhaoleedmkaaGreat
open Go.Abs Go.RowKit
attribute [local irreducible] ARun kont MCall PCall HCall resVal SF CF CFs defersOk slotsIn memIn fin finM VLe
set_option linter.unusedSimpArgs false
set_option maxRecDepth 100000
set_option maxHeartbeats 4000000
theorem lawFold_c (t : List Int) (f : Int) (l : List Entry) (ht : t.length ≤ 17592186044416) : PCall Tryz.prog 7 [.one (numD t), .one (.lit (.int .i64 f)), .one (bagD l)] (.v (.one (.lit (.bool true)))) := by
  have hnew := new_h t ht
  have hok := newTape9_ok ht
  obtain ⟨x, t1, ok1, vx, -, lx, c1⟩ := bag_h ⟨t, 0⟩ 1 8 false hok (by omega) (by omega)
  obtain ⟨ag, t2, ok2, la, -, c2⟩ := aggs_h t1 3 3 ok1 (by omega) (by omega) (by omega)
  obtain ⟨y, t3, ok3, ly, c3⟩ := spoil_h t2 x ok2 (by omega)
  have sb := smallBag_c l
  have e1 := exact_c ag (by omega)
  have e2 := refExact_c ag (by omega)
  have p1 := aggFold_c f y
  have p2 := refFold_c f y
  have p3 := aggFold_c f x
  have p4 := refFold_c f x
  have q1 : ∀ z, PCall Tryz.prog 30 [.one (.lit (.int .i64 z)), .one (bagD x)] (.v (.agg (foldP z x).d)) := fun z => aggFold_c z x
  have q2 : ∀ z, PCall Tryz.prog 31 [.one (.lit (.int .i64 z)), .one (bagD x)] (.v (.agg (foldP z x).d)) := fun z => refFold_c z x
  generalize foldP f y = Y at p1 p2
  generalize exactE ag = E at e1 e2
  cases hs : smallE l with
  | true =>
    rw [hs] at sb
    have q3 : ∀ z, PCall Tryz.prog 30 [.one (.lit (.int .i64 z)), .one (bagD l)] (.v (.agg (foldP z l).d)) := fun z => aggFold_c z l
    have q4 : ∀ z, PCall Tryz.prog 31 [.one (.lit (.int .i64 z)), .one (bagD l)] (.v (.agg (foldP z l).d)) := fun z => refFold_c z l
    refine pcallN hT Tryz.func7 Tryz.ntmps7 [.tmp 6] fun B => ?_
    repeat' (first | refine ks ?_ | refine ko ?_ | refine s_call (sb) ?_ | refine s_callH [] (hnew) ?_ | refine s_callH [1] (c1) ?_ | refine f_ret1 def_nil ?_ | refine t_tmp ?_)
    refine s_lp (X := Nat) [6, 9, 19, 20, 21, 22, 23, 24, 25, 26, 27, 28, 29, 30, 31, 32, 33, 34, 35, 36, 37, 38] (fun x => x ≤ 7) (fun x lz => (9, (.c (.d (.lit (.int .i64 ((x : Int) - 1)))))) :: lz) (fun x => [.dead, .box 1 [.d (numD t1.l), .d (.lit (.int .i64 t1.at_))]]) (fun x => 7 - x) (0) ?_ ?_ ?_ ?_
    repeat' (first | exact slots_nil | refine kw ?_ | exact memIn_nil | omega)
    all_goals try rfl
    rintro i c hi
    by_cases hlt : i < 7
    · have r1 := q1 ((i : Int) - 1)
      have r2 := q2 ((i : Int) - 1)
      have r3 := q3 ((i : Int) - 1)
      have r4 := q4 ((i : Int) - 1)
      generalize foldP ((i : Int) - 1) x = A1 at r1 r2
      generalize foldP ((i : Int) - 1) l = A2 at r3 r4
      repeat' (first | refine s_neAs ?_ | refine s_eqAs ?_ | refine ks ?_ | refine ko ?_ | refine s_call (r1) ?_ | refine s_call (r2) ?_ | refine s_call (r3) ?_ | refine s_call (r4) ?_ | refine f_ret1 def_nil ?_ | refine t_tmp ?_)
      (apply s_round (i + 1); all_goals (try dsimp only); all_goals (try (repeat' (first | exact slots_nil | refine kw ?_ | exact memIn_nil | omega))))
      all_goals skip
    · generalize foldP f x = X at p3 p4
      repeat' (first | refine s_neAs ?_ | refine s_eqAs ?_ | refine s_eqBs ?_ | refine ks ?_ | refine ko ?_ | refine s_call (p1) ?_ | refine s_call (p2) ?_ | refine s_call (p3) ?_ | refine s_call (p4) ?_ | refine s_call (e1) ?_ | refine s_call (e2) ?_ | refine s_call (awake09_c) ?_ | refine s_callH [1] (c2) ?_ | refine s_callH [1] (c3) ?_ | refine f_ret1 def_nil ?_ | refine t_tmp ?_)
      all_goals rfl
  | false =>
    rw [hs] at sb
    have q3 : ∀ z, PCall Tryz.prog 30 [.one (.lit (.int .i64 z)), .one (bagD [])] (.v (.agg (foldP z []).d)) := fun z => aggFold_c z []
    have q4 : ∀ z, PCall Tryz.prog 31 [.one (.lit (.int .i64 z)), .one (bagD [])] (.v (.agg (foldP z []).d)) := fun z => refFold_c z []
    refine pcallN hT Tryz.func7 Tryz.ntmps7 [.tmp 6] fun B => ?_
    repeat' (first | refine ks ?_ | refine ko ?_ | refine s_call (sb) ?_ | refine s_callH [] (hnew) ?_ | refine s_callH [1] (c1) ?_ | refine f_ret1 def_nil ?_ | refine t_tmp ?_)
    refine s_lp (X := Nat) [6, 9, 19, 20, 21, 22, 23, 24, 25, 26, 27, 28, 29, 30, 31, 32, 33, 34, 35, 36, 37, 38] (fun x => x ≤ 7) (fun x lz => (9, (.c (.d (.lit (.int .i64 ((x : Int) - 1)))))) :: lz) (fun x => [.dead, .box 1 [.d (numD t1.l), .d (.lit (.int .i64 t1.at_))]]) (fun x => 7 - x) (0) ?_ ?_ ?_ ?_
    repeat' (first | exact slots_nil | refine kw ?_ | exact memIn_nil | omega)
    all_goals try rfl
    rintro i c hi
    by_cases hlt : i < 7
    · have r1 := q1 ((i : Int) - 1)
      have r2 := q2 ((i : Int) - 1)
      have r3 := q3 ((i : Int) - 1)
      have r4 := q4 ((i : Int) - 1)
      generalize foldP ((i : Int) - 1) x = A1 at r1 r2
      generalize foldP ((i : Int) - 1) [] = A2 at r3 r4
      repeat' (first | refine s_neAs ?_ | refine s_eqAs ?_ | refine ks ?_ | refine ko ?_ | refine s_call (r1) ?_ | refine s_call (r2) ?_ | refine s_call (r3) ?_ | refine s_call (r4) ?_ | refine f_ret1 def_nil ?_ | refine t_tmp ?_)
      (apply s_round (i + 1); all_goals (try dsimp only); all_goals (try (repeat' (first | exact slots_nil | refine kw ?_ | exact memIn_nil | omega))))
      all_goals skip
    · generalize foldP f x = X at p3 p4
      repeat' (first | refine s_neAs ?_ | refine s_eqAs ?_ | refine s_eqBs ?_ | refine ks ?_ | refine ko ?_ | refine s_call (p1) ?_ | refine s_call (p2) ?_ | refine s_call (p3) ?_ | refine s_call (p4) ?_ | refine s_call (e1) ?_ | refine s_call (e2) ?_ | refine s_call (awake09_c) ?_ | refine s_callH [1] (c2) ?_ | refine s_callH [1] (c3) ?_ | refine f_ret1 def_nil ?_ | refine t_tmp ?_)
      all_goals rfl
end Go.Proofs.YtojfhaoleedmkaaGreat
