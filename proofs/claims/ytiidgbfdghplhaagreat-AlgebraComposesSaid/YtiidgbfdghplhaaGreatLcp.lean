/-
  AlgebraComposes: the law returns true.
-/
import Derived.Test.YtiidgbfdghplhaaGreatLam
import Derived.Test.YtiidgbfdghplhaaGreatLin
import Derived.Test.YtiidgbfdghplhaaGreatSbs
import Derived.Test.YtiidgbfdghplhaaGreatTab
import Derived.Test.YtiidgbfdghplhaaGreatTex
namespace Go.Proofs.YtiidgbfdghplhaaGreat
open Go.Abs Go.RowKit
attribute [local irreducible] ARun kont MCall PCall HCall resVal SF CF CFs defersOk slotsIn memIn fin finM VLe
set_option linter.unusedSimpArgs false
set_option maxRecDepth 100000
set_option maxHeartbeats 4000000

theorem keepR_left {f : List Trm} {s : List Val} {n : Nat} (hs : s.length = n) (hf : ∀ x ∈ f, ColB n x) (t : List Val) : keepR f (s ++ t) = keepR f s := by
  unfold keepR holdsE
  rw [evE_cols f (s ++ t) s fun x hx o2 => ?_]
  obtain ⟨h1, h2⟩ := hf x hx o2
  obtain ⟨k, hk⟩ := Int.eq_ofNat_of_zero_le h1
  rw [hk] at h2 ⊢
  exact atE_left (by omega)

/-- Where commutes with a join if it concerns the left side only. -/
theorem where_join {b c : List Entry} {B C w : Nat} (tb : Tiny B 3 b) (tc : Tiny C w c) (f : List Trm) (hf : ∀ x ∈ f, ColB 3 x) (on : List (Int × Int)) (hw : w ≤ 8) (hn : B * C ≤ 4096) : sortE (pairsE (whereE b f) c on) = whereE (sortE (pairsE b c on)) f := by
  obtain ⟨tw, gw⟩ := whereT tb f
  obtain ⟨_, tj⟩ := joinT tb tc on (by omega) hw hn
  obtain ⟨_, tu⟩ := joinT tw tc on (by omega) hw hn
  obtain ⟨tv, gv⟩ := whereT tj f
  refine bag_eq tu.v tv.v fun g => ?_
  rw [wS_join g tw tc on (by omega), gw, gv, wS_join _ tb tc on (by omega)]
  refine wS_congr fun s hs => ?_
  have hl := tb.w s hs
  cases hk : keepR f s.row with
  | true =>
    rw [if_pos rfl]
    refine wS_congr fun t _ => ?_
    rw [keepR_left hl hf, hk, if_pos rfl]
  | false =>
    rw [if_neg (by decide)]
    refine Eq.symm ?_
    refine (wS_congr (g := fun _ => 0) fun t _ => ?_).trans (wS_zero c)
    rw [keepR_left hl hf, hk, if_neg (show ¬ false = true by decide)]
    split <;> rfl

theorem lawComposes_c (t : List Int) (ht : t.length ≤ 17592186044416) : PCall Tryz.prog 6 [.one (numD t)] (.v (.one (.lit (.bool true)))) := by
  have hnew := new_h t ht
  have hok : (Tape.mk t 0).ok := ⟨ht, by simp⟩
  obtain ⟨b, t1, ok1, -, -, -, tb, c1⟩ := bagT_h ⟨t, 0⟩ 3 6 true hok (by omega) (by omega)
  obtain ⟨c, t2, ok2, -, -, -, tc, c2⟩ := bagT_h t1 2 6 true ok1 (by omega) (by omega)
  obtain ⟨f0, t3, ok3, -, c3⟩ := expr_h 3 (by omega) (by omega) 2 t2 ok2 (by omega)
  obtain ⟨f1, t4, ok4, -, c4⟩ := expr_h 3 (by omega) (by omega) 2 t3 ok3 (by omega)
  obtain ⟨g0, t5, ok5, -, c5⟩ := expr_h 2 (by omega) (by omega) 2 t4 ok4 (by omega)
  obtain ⟨g1, t6, ok6, -, c6⟩ := expr_h 2 (by omega) (by omega) 2 t5 ok5 (by omega)
  obtain ⟨f, t7, ok7, -, hf, c7⟩ := exprC_h 3 (by omega) (by omega) 3 t6 ok6 (by omega)
  obtain ⟨v1, t8, ok8, l8, c8⟩ := nextE_h t7 3 ok7 (by omega) (by omega)
  obtain ⟨v2, t9, ok9, l9, c9⟩ := nextE_h t8 2 ok8 (by omega) (by omega)
  obtain ⟨r0, s0, d0⟩ := substitute_c g0 [f0, f1] (by simp)
  obtain ⟨r1, s1, d1⟩ := substitute_c g1 [f0, f1] (by simp)
  obtain ⟨o0, e0⟩ := r0
  obtain ⟨o1, e1⟩ := r1
  dsimp only [itemsD, List.map] at d0 d1
  by_cases z0 : e0 = 0
  · by_cases z1 : e1 = 0
    · subst z0; subst z1
      obtain ⟨q0, u1, u2, u3, u4⟩ := s0.resolve_left (by simp)
      obtain ⟨q1, w1, w2, w3, w4⟩ := s1.resolve_left (by simp)
      injection q0 with q0 _
      injection q1 with q1 _
      obtain ⟨x, mx, tx, gx⟩ := mapT tb [f0, f1] (by simp) (by omega)
      obtain ⟨y, my, ty, gy⟩ := mapT tx [g0, g1] (by simp) (by omega)
      obtain ⟨z, mz, tz, gz⟩ := mapT tb [o0, o1] (by simp) (by omega)
      have hyz : y = z := bag_eq ty.v tz.v fun g => by
        rw [gy, gx, gz]
        refine wS_congr fun s _ => ?_
        congr 1
        have h0 := subst_eval s.row u2 u1 u3 u4
        have h1 := subst_eval s.row w2 w1 w3 w4
        simp only [List.map_cons, List.map_nil] at h0 h1 ⊢
        rw [q0, q1, h0, h1]
      subst hyz
      obtain ⟨tw, _⟩ := whereT tb f
      obtain ⟨ju, _⟩ := joinT tw tc [((v1 : Int), (v2 : Int))] (by omega) (by omega) (by omega)
      obtain ⟨jv, _⟩ := joinT tb tc [((v1 : Int), (v2 : Int))] (by omega) (by omega) (by omega)
      rw [where_join tb tc f hf _ (by omega) (by omega)] at ju
      have p1 := map_c b [f0, f1]
      have p2 := map_c x [g0, g1]
      have p3 := map_c b [o0, o1]
      rw [mx] at p1
      rw [my] at p2
      rw [mz] at p3
      have p4 := where_c b f
      have p5 := algJoin_c (whereE b f) c [((v1 : Int), (v2 : Int))] (by simp)
      have p6 := algJoin_c b c [((v1 : Int), (v2 : Int))] (by simp)
      rw [ju] at p5
      rw [jv] at p6
      have p7 := where_c (sortE (pairsE b c [((v1 : Int), (v2 : Int))])) f
      clear ju jv mx my mz s0 s1 u1 u2 u3 u4 w1 w2 w3 w4 gx gy gz tx ty tz tw tb tc q0 q1 hf
      generalize whereE b f = A at *
      generalize sortE (pairsE b c [((v1 : Int), (v2 : Int))]) = V at *
      generalize whereE V f = U at *
      have k1 := same06_c y y
      have k2 := same06_c U U
      rw [sameBag_refl] at k1 k2
      dsimp only [bagR, bagI, partsD, List.map] at p1 p2 p3 p5 p6
      refine pcallN hT Tryz.func6 Tryz.ntmps6 [.tmp 2] fun B => ?_
      repeat' (first | (with_reducible (first | refine k_seq ?_ | refine k_block ?_ | refine k_skip ?_ | refine k_exit ?_ | refine k_ret ?_ | refine n_seq ?_ | refine n_block ?_ | refine e_seq ?_ | refine e_here ?_ | refine r_seq ?_ | refine r_block ?_ | refine o_exit ?_ | refine o_ret ?_)) | refine s_reg ?_ | refine s_ifT ?_ | refine s_ifF ?_ | refine r_end ?_ | refine s_move ?_ | refine s_assign ?_ | refine s_int ?_ | refine s_loadF1 ?_ | refine s_indexD ?_ (hel := (by first | exact rfl)) | refine s_call (p1) ?_ | refine s_callH [] (hnew) ?_ | refine s_callH [1] (c1) ?_ | refine s_callH [1] (c2) ?_ | refine s_callH [1] (c3) ?_ | refine s_callH [1] (c4) ?_ | refine s_callH [1] (c5) ?_ | refine s_callH [1] (c6) ?_ | refine s_pick ?_ | refine s_lenD ?_ | refine s_appA ?_ | refine s_bslice ?_ | refine s_extract ?_ | refine f_ret1 def_nil ?_ | refine t_tmp ?_)
      refine s_own 8 37 1 ?_
      refine s_lp (X := Nat × Nat) [2, 8, 9, 10, 11, 40, 41, 42, 43, 44, 45, 46, 47, 48, 49, 50, 51, 52, 53, 54, 55, 56, 57, 58, 59, 60, 61] (fun x => x.1 ≤ 2) (fun x lz => (8, .c (.arr 2 x.2 x.1)) :: (9, (.c (.d (.lit (.int .i64 x.1))))) :: lz) (fun x => [.dead, .box 1 [.d (numD t6.l), .d (.lit (.int .i64 t6.at_))], .arr x.2 37 1 (([[exprD o0], [exprD o1]] : List (List Dat)).take x.1)]) (fun x => 2 - x.1) ((0, 8)) ?_ ?_ ?_ ?_
      repeat' (first | exact slots_nil | refine w1 ?_ | exact memIn_nil | refine memIn_same ?_ | omega)
      rintro ⟨i, k⟩ ck hi
      dsimp only at hi ⊢
      by_cases hlt : i < 2
      · have hi2 : i = 0 ∨ i = 1 := by omega
        rcases hi2 with rfl | rfl
        · repeat' (first | (with_reducible (first | refine k_seq ?_ | refine k_block ?_ | refine k_skip ?_ | refine k_exit ?_ | refine k_ret ?_ | refine n_seq ?_ | refine n_block ?_ | refine e_seq ?_ | refine e_here ?_ | refine r_seq ?_ | refine r_block ?_ | refine o_exit ?_ | refine o_ret ?_)) | refine s_reg ?_ | refine s_ifT ?_ | refine s_ifF ?_ | refine r_end ?_ | refine s_move ?_ | refine s_assign ?_ | refine s_int ?_ | refine s_loadF1 ?_ | refine s_indexD ?_ (hel := (by first | exact rfl)) | refine s_call (d0) ?_ | refine s_pick ?_ | refine s_lenD ?_ | refine s_appA ?_ | refine s_bslice ?_ | refine s_extract ?_ | refine f_ret1 def_nil ?_ | refine t_tmp ?_)
          (apply s_round ((0 + 1, _)); all_goals (try dsimp only); all_goals (try (repeat' (first | exact slots_nil | refine w1 ?_ | exact memIn_nil | refine memIn_same ?_ | omega))))
          all_goals rfl
        · repeat' (first | (with_reducible (first | refine k_seq ?_ | refine k_block ?_ | refine k_skip ?_ | refine k_exit ?_ | refine k_ret ?_ | refine n_seq ?_ | refine n_block ?_ | refine e_seq ?_ | refine e_here ?_ | refine r_seq ?_ | refine r_block ?_ | refine o_exit ?_ | refine o_ret ?_)) | refine s_reg ?_ | refine s_ifT ?_ | refine s_ifF ?_ | refine r_end ?_ | refine s_move ?_ | refine s_assign ?_ | refine s_int ?_ | refine s_loadF1 ?_ | refine s_indexD ?_ (hel := (by first | exact rfl)) | refine s_call (d1) ?_ | refine s_pick ?_ | refine s_lenD ?_ | refine s_appA ?_ | refine s_bslice ?_ | refine s_extract ?_ | refine f_ret1 def_nil ?_ | refine t_tmp ?_)
          (apply s_round ((1 + 1, _)); all_goals (try dsimp only); all_goals (try (repeat' (first | exact slots_nil | refine w1 ?_ | exact memIn_nil | refine memIn_same ?_ | omega))))
          all_goals rfl
      · obtain rfl : i = 2 := by omega
        have hfr : List.take 2 (([[exprD o0], [exprD o1]] : List (List Dat)).take 2) = [[exprD o0], [exprD o1]] := rfl
        repeat' (first | refine s_freeze 8 ?_ (hes := hfr) | (with_reducible (first | refine k_seq ?_ | refine k_block ?_ | refine k_skip ?_ | refine k_exit ?_ | refine k_ret ?_ | refine n_seq ?_ | refine n_block ?_ | refine e_seq ?_ | refine e_here ?_ | refine r_seq ?_ | refine r_block ?_ | refine o_exit ?_ | refine o_ret ?_)) | refine s_reg ?_ | refine s_ifT ?_ | refine s_ifF ?_ | refine r_end ?_ | refine s_move ?_ | refine s_assign ?_ | refine s_int ?_ | refine s_loadF1 ?_ | refine s_indexD ?_ (hel := (by first | exact rfl)) | refine s_call (p1) ?_ | refine s_call (p2) ?_ | refine s_call (p3) ?_ | refine s_call (p4) ?_ | refine s_call (p5) ?_ | refine s_call (p6) ?_ | refine s_call (p7) ?_ | refine s_call (k1) ?_ | refine s_call (k2) ?_ | refine s_call (awake08_c) ?_ | refine s_callH [1] (c7) ?_ | refine s_callH [1] (c8) ?_ | refine s_callH [1] (c9) ?_ | refine s_pick ?_ | refine s_lenD ?_ | refine s_appA ?_ | refine s_bslice ?_ | refine s_extract ?_ | refine s_buildA ?_ | refine f_ret1 def_nil ?_ | refine t_tmp ?_)
        all_goals rfl
    · subst z0
      clear s0 s1
      refine pcallN hT Tryz.func6 Tryz.ntmps6 [.tmp 2] fun B => ?_
      repeat' (first | (with_reducible (first | refine k_seq ?_ | refine k_block ?_ | refine k_skip ?_ | refine k_exit ?_ | refine k_ret ?_ | refine n_seq ?_ | refine n_block ?_ | refine e_seq ?_ | refine e_here ?_ | refine r_seq ?_ | refine r_block ?_ | refine o_exit ?_ | refine o_ret ?_)) | refine s_reg ?_ | refine s_ifT ?_ | refine s_ifF ?_ | refine r_end ?_ | refine s_move ?_ | refine s_assign ?_ | refine s_int ?_ | refine s_loadF1 ?_ | refine s_indexD ?_ (hel := (by first | exact rfl)) | refine s_callH [] (hnew) ?_ | refine s_callH [1] (c1) ?_ | refine s_callH [1] (c2) ?_ | refine s_callH [1] (c3) ?_ | refine s_callH [1] (c4) ?_ | refine s_callH [1] (c5) ?_ | refine s_callH [1] (c6) ?_ | refine s_pick ?_ | refine s_lenD ?_ | refine s_appA ?_ | refine s_bslice ?_ | refine s_extract ?_ | refine f_ret1 def_nil ?_ | refine t_tmp ?_)
      refine s_own 8 37 1 ?_
      refine s_lp (X := Nat × Nat) [2, 8, 9, 10, 11, 40, 41, 42, 43, 44, 45, 46, 47, 48, 49, 50, 51, 52, 53, 54, 55, 56, 57, 58, 59, 60, 61] (fun x => x.1 ≤ 1) (fun x lz => (8, .c (.arr 2 x.2 x.1)) :: (9, (.c (.d (.lit (.int .i64 x.1))))) :: lz) (fun x => [.dead, .box 1 [.d (numD t6.l), .d (.lit (.int .i64 t6.at_))], .arr x.2 37 1 (([[exprD o0]] : List (List Dat)).take x.1)]) (fun x => 2 - x.1) ((0, 8)) ?_ ?_ ?_ ?_
      repeat' (first | exact slots_nil | refine w1 ?_ | exact memIn_nil | refine memIn_same ?_ | omega)
      rintro ⟨i, k⟩ ck hi
      dsimp only at hi ⊢
      have hi2 : i = 0 ∨ i = 1 := by omega
      rcases hi2 with rfl | rfl
      · repeat' (first | (with_reducible (first | refine k_seq ?_ | refine k_block ?_ | refine k_skip ?_ | refine k_exit ?_ | refine k_ret ?_ | refine n_seq ?_ | refine n_block ?_ | refine e_seq ?_ | refine e_here ?_ | refine r_seq ?_ | refine r_block ?_ | refine o_exit ?_ | refine o_ret ?_)) | refine s_reg ?_ | refine s_ifT ?_ | refine s_ifF ?_ | refine r_end ?_ | refine s_move ?_ | refine s_assign ?_ | refine s_int ?_ | refine s_loadF1 ?_ | refine s_indexD ?_ (hel := (by first | exact rfl)) | refine s_call (d0) ?_ | refine s_pick ?_ | refine s_lenD ?_ | refine s_appA ?_ | refine s_bslice ?_ | refine s_extract ?_ | refine f_ret1 def_nil ?_ | refine t_tmp ?_)
        (apply s_round ((0 + 1, _)); all_goals (try dsimp only); all_goals (try (repeat' (first | exact slots_nil | refine w1 ?_ | exact memIn_nil | refine memIn_same ?_ | omega))))
        all_goals rfl
      · repeat' (first | (with_reducible (first | refine k_seq ?_ | refine k_block ?_ | refine k_skip ?_ | refine k_exit ?_ | refine k_ret ?_ | refine n_seq ?_ | refine n_block ?_ | refine e_seq ?_ | refine e_here ?_ | refine r_seq ?_ | refine r_block ?_ | refine o_exit ?_ | refine o_ret ?_)) | refine s_reg ?_ | refine s_ifT ?_ | refine s_ifF ?_ | refine r_end ?_ | refine s_move ?_ | refine s_assign ?_ | refine s_int ?_ | refine s_loadF1 ?_ | refine s_indexD ?_ (hel := (by first | exact rfl)) | refine s_call (d1) ?_ | refine s_call (awake08_c) ?_ | refine s_pick ?_ | refine s_lenD ?_ | refine s_appA ?_ | refine s_bslice ?_ | refine s_extract ?_ | refine f_ret1 def_nil ?_ | refine t_tmp ?_)
        all_goals rfl
  · clear s0 s1
    refine pcallN hT Tryz.func6 Tryz.ntmps6 [.tmp 2] fun B => ?_
    repeat' (first | (with_reducible (first | refine k_seq ?_ | refine k_block ?_ | refine k_skip ?_ | refine k_exit ?_ | refine k_ret ?_ | refine n_seq ?_ | refine n_block ?_ | refine e_seq ?_ | refine e_here ?_ | refine r_seq ?_ | refine r_block ?_ | refine o_exit ?_ | refine o_ret ?_)) | refine s_reg ?_ | refine s_ifT ?_ | refine s_ifF ?_ | refine r_end ?_ | refine s_move ?_ | refine s_assign ?_ | refine s_int ?_ | refine s_loadF1 ?_ | refine s_indexD ?_ (hel := (by first | exact rfl)) | refine s_callH [] (hnew) ?_ | refine s_callH [1] (c1) ?_ | refine s_callH [1] (c2) ?_ | refine s_callH [1] (c3) ?_ | refine s_callH [1] (c4) ?_ | refine s_callH [1] (c5) ?_ | refine s_callH [1] (c6) ?_ | refine s_pick ?_ | refine s_lenD ?_ | refine s_appA ?_ | refine s_bslice ?_ | refine s_extract ?_ | refine f_ret1 def_nil ?_ | refine t_tmp ?_)
    refine s_own 8 37 1 ?_
    refine s_lp (X := Nat × Nat) [2, 8, 9, 10, 11, 40, 41, 42, 43, 44, 45, 46, 47, 48, 49, 50, 51, 52, 53, 54, 55, 56, 57, 58, 59, 60, 61] (fun x => x.1 = 0) (fun x lz => (8, .c (.arr 2 x.2 x.1)) :: (9, (.c (.d (.lit (.int .i64 x.1))))) :: lz) (fun x => [.dead, .box 1 [.d (numD t6.l), .d (.lit (.int .i64 t6.at_))], .arr x.2 37 1 (([] : List (List Dat)).take x.1)]) (fun x => 2 - x.1) ((0, 8)) ?_ ?_ ?_ ?_
    repeat' (first | exact slots_nil | refine w1 ?_ | exact memIn_nil | refine memIn_same ?_ | omega)
    rintro ⟨i, k⟩ ck hi
    dsimp only at hi ⊢
    subst hi
    repeat' (first | (with_reducible (first | refine k_seq ?_ | refine k_block ?_ | refine k_skip ?_ | refine k_exit ?_ | refine k_ret ?_ | refine n_seq ?_ | refine n_block ?_ | refine e_seq ?_ | refine e_here ?_ | refine r_seq ?_ | refine r_block ?_ | refine o_exit ?_ | refine o_ret ?_)) | refine s_reg ?_ | refine s_ifT ?_ | refine s_ifF ?_ | refine r_end ?_ | refine s_move ?_ | refine s_assign ?_ | refine s_int ?_ | refine s_loadF1 ?_ | refine s_indexD ?_ (hel := (by first | exact rfl)) | refine s_call (d0) ?_ | refine s_call (awake08_c) ?_ | refine s_pick ?_ | refine s_lenD ?_ | refine s_appA ?_ | refine s_bslice ?_ | refine s_extract ?_ | refine f_ret1 def_nil ?_ | refine t_tmp ?_)
    all_goals rfl
end Go.Proofs.YtiidgbfdghplhaaGreat
