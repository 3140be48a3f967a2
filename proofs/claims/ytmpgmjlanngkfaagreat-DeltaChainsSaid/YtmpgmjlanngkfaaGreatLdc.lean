/-
  DeltaChains: the law returns true.
-/
import Derived.Test.YtmpgmjlanngkfaaGreatFit
import Derived.Test.YtmpgmjlanngkfaaGreatVbl
import Derived.Test.YtmpgmjlanngkfaaGreatAvw
import Derived.Test.YtmpgmjlanngkfaaGreatTex
section
namespace Go.Proofs.YtmpgmjlanngkfaaGreat
open Go.Abs Go.RowKit
attribute [local irreducible] ARun kont MCall PCall HCall resVal SF CF CFs defersOk slotsIn memIn fin finM VLe
set_option linter.unusedSimpArgs false
set_option maxRecDepth 100000
set_option maxHeartbeats 4000000
theorem fit_nil9 {b : List Entry} {B w : Nat} (hb : Tiny B w b) (pb : positiveE b = true) (hn : B ≤ 4096) : fitE b [] = (b, 0) := by
  unfold fitE
  rw [add_nil9 hb hn, if_pos ⟨rfl, pb⟩]
theorem pos_lt9 {b : List Entry} (pb : positiveE b = true) : ∀ e ∈ b, 0 < e.count := fun e he => by
  unfold positiveE at pb
  rw [Bool.and_eq_true, List.all_eq_true] at pb
  have h1 := of_decide_eq_true (pb.2 e he)
  have h2 := ((valid_mem pb.1).2 e he).2.2
  omega
theorem lawChains_c (t : List Int) (ht : t.length ≤ 17592186044416) : PCall Tryz.prog 5 [.one (numD t)] (.v (.one (.lit (.bool true)))) := by
  have hnew := new_h t ht
  have hok : (Tape.mk t 0).ok := ⟨ht, by simp⟩
  have haw := awake10_c
  obtain ⟨v, t1, ok1, hv, c1⟩ := anyView_h ⟨t, 0⟩ hok
  obtain ⟨a, t2, ok2, -, -, -, ta, pa, c2⟩ := bagP_h t1 3 6 ok1 (by omega) (by omega)
  obtain ⟨b, t3, ok3, -, -, -, tb, pb, c3⟩ := bagP_h t2 2 6 ok2 (by omega) (by omega)
  obtain ⟨da, t4, ok4, tda, fa, c4⟩ := fitting_h t3 a (3 * 6) 3 ok3 ta pa (by omega) (by omega)
  obtain ⟨a2, f1, h1, ta2, pa2, w1⟩ := fitF9 ta tda fa (by omega)
  obtain ⟨d2, t5, ok5, td2, fd, c5⟩ := fitting_h t4 a2 (3 * 6 + (12 + 3 * 6)) 3 ok4 ta2 (pos_lt9 pa2) (by omega) (by omega)
  obtain ⟨a3, f3, h3, ta3, pa3, w3⟩ := fitF9 ta2 td2 fd (by omega)
  obtain ⟨s, h2, ts, ws⟩ := addT9 tda td2 (by omega)
  obtain ⟨a4, f4, h4, ta4, pa4, w4⟩ := fitF9 ta ts (fun g hg => by have h := fd g hg; rw [w1] at h; rw [ws]; omega) (by omega)
  obtain rfl : a4 = a3 := bag_eq9 ta4.v ta3.v fun g => by rw [w4, ws, w3, w1]; omega
  have pa' := pos_all9 ta.v pa
  have pb' := pos_all9 tb.v pb
  have fb := fit_nil9 tb pb' (by decide)
  have wb : ∀ g, wS g b = wS g b + wS g [] := fun g => by simp [wS]
  obtain ⟨x, ux, wx, g1⟩ := change_tiny (N := 324) (M := 864) hv ta tb tda (tiny_nil 2) pa' pb' f1 ta2 pa2 w1 fb tb pb' wb (by decide) (by decide) (by decide) (by decide) (by decide)
  obtain ⟨y, uy, wy, g2⟩ := change_tiny (N := 864) (M := 1944) hv ta2 tb td2 (tiny_nil 2) pa2 pb' f3 ta3 pa3 w3 fb tb pb' wb (by decide) (by decide) (by decide) (by decide) (by decide)
  obtain ⟨z, uz, wz, g3⟩ := change_tiny (N := 324) (M := 1944) hv ta tb ts (tiny_nil 2) pa' pb' f4 ta4 pa4 w4 fb tb pb' wb (by decide) (by decide) (by decide) (by decide) (by decide)
  obtain ⟨w, e4, u4, -, ww⟩ := addV9 ux uy (by decide)
  obtain rfl : w = z := bag_eq9 u4.v uz.v fun g => by rw [ww, wx, wy, wz]; omega
  have g4 := add_c a da
  rw [h1] at g4
  have g5 := add_c da d2
  rw [h2] at g5
  have g6 := add_c x y
  rw [e4] at g6
  have s1 := sameSelfT_c w
  clear hv pa pb ta tb tda fa f1 h1 ta2 pa2 w1 td2 fd f3 h3 ta3 pa3 w3 h2 ts ws f4 h4 ta4 pa4 w4 pa' pb' fb wb ux wx uy wy uz wz e4 u4 ww
  dsimp only [bagI] at g1 g2 g3 g4 g5 g6
  obtain ⟨vn, vk, vl, vr, von, vw, vi, vd, va⟩ := v
  refine pcallN hT Tryz.func5 Tryz.ntmps5 [.tmp 2] fun B => ?_
  repeat' (first | refine ks ?_ | refine ko ?_ | refine s_call (g1) ?_ | refine s_call (g2) ?_ | refine s_call (g3) ?_ | refine s_call (g4) ?_ | refine s_call (g5) ?_ | refine s_call (g6) ?_ | refine s_call (s1) ?_ | refine s_call (haw) ?_ | refine s_callH [] (hnew) ?_ | refine s_callH [1] (c1) ?_ | refine s_callH [1] (c2) ?_ | refine s_callH [1] (c3) ?_ | refine s_callH [1] (c4) ?_ | refine s_callH [1] (c5) ?_ | refine kf ?_ | fail)
  all_goals rfl
end Go.Proofs.YtmpgmjlanngkfaaGreat
end
