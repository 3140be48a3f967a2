/-
  DeltaAdds: the law returns true.
-/
import Derived.Test.YtmpgmjlanngkfaaGreatFit
import Derived.Test.YtmpgmjlanngkfaaGreatVbl
import Derived.Test.YtmpgmjlanngkfaaGreatAvw
import Derived.Test.YtmpgmjlanngkfaaGreatTex
section
namespace Go.Proofs.YtmpgmjlanngkfaaGreat
open Go.Abs Go.RowKit
attribute [local irreducible] ARun kont MCall PCall HCall resVal SF CF CFs defersOk slotsIn memIn fin finM VLe
set_option linter.unusedSimpArgs false
set_option maxRecDepth 100000
set_option maxHeartbeats 4000000
theorem lawAdds_c (t : List Int) (ht : t.length ≤ 17592186044416) : PCall Tryz.prog 4 [.one (numD t)] (.v (.one (.lit (.bool true)))) := by
  have hnew := new_h t ht
  have hok : (Tape.mk t 0).ok := ⟨ht, by simp⟩
  have haw := awake10_c
  obtain ⟨v, t1, ok1, hv, c1⟩ := anyView_h ⟨t, 0⟩ hok
  obtain ⟨a, t2, ok2, -, -, -, ta, pa, c2⟩ := bagP_h t1 3 6 ok1 (by omega) (by omega)
  obtain ⟨b, t3, ok3, -, -, -, tb, pb, c3⟩ := bagP_h t2 2 6 ok2 (by omega) (by omega)
  obtain ⟨da, t4, ok4, tda, fa, c4⟩ := fitting_h t3 a (3 * 6) 3 ok3 ta pa (by omega) (by omega)
  obtain ⟨db, t5, ok5, tdb, fb, c5⟩ := fitting_h t4 b (3 * 6) 2 ok4 tb pb (by omega) (by omega)
  obtain ⟨a2, f1, h1, ta2, pa2, w1⟩ := fitF9 ta tda fa (by omega)
  obtain ⟨b2, f2, h2, tb2, pb2, w2⟩ := fitF9 tb tdb fb (by omega)
  have pa' := pos_all9 ta.v pa
  have pb' := pos_all9 tb.v pb
  obtain ⟨u1, g1⟩ := derive_tiny (N := 324) hv ta tb pa' pb' (by decide) (by decide) (by decide)
  obtain ⟨u2, g2⟩ := derive_tiny (N := 2304) hv ta2 tb2 pa2 pb2 (by decide) (by decide) (by decide)
  obtain ⟨x, u3, wx, g3⟩ := change_tiny (N := 324) (M := 2304) hv ta tb tda tdb pa' pb' f1 ta2 pa2 w1 f2 tb2 pb2 w2 (by decide) (by decide) (by decide) (by decide) (by decide)
  obtain ⟨s, e4, u4, -, w4⟩ := addV9 u1 u3 (by decide)
  have hs : s = cntW v a2 b2 := bag_eq9 u4.v u2.v fun g => by rw [w4, wx]; omega
  rw [hs] at e4
  have g4 := add_c a da
  rw [h1] at g4
  have g5 := add_c b db
  rw [h2] at g5
  have g6 := add_c (cntW v a b) x
  rw [e4] at g6
  have s1 := sameSelfT_c (cntW v a2 b2)
  clear hv pa pb ta tb tda tdb fa fb f1 f2 h1 h2 ta2 pa2 w1 tb2 pb2 w2 pa' pb' u1 u2 u3 wx u4 w4 hs e4
  generalize cntW v a b = C at g1 g6
  generalize cntW v a2 b2 = Z at g2 g6 s1
  dsimp only [bagI] at g1 g2 g3 g4 g5 g6
  obtain ⟨vn, vk, vl, vr, von, vw, vi, vd, va⟩ := v
  refine pcallN hT Tryz.func4 Tryz.ntmps4 [.tmp 2] fun B => ?_
  repeat' (first | refine ks ?_ | refine ko ?_ | refine s_call (g1) ?_ | refine s_call (g2) ?_ | refine s_call (g3) ?_ | refine s_call (g4) ?_ | refine s_call (g5) ?_ | refine s_call (g6) ?_ | refine s_call (s1) ?_ | refine s_call (haw) ?_ | refine s_callH [] (hnew) ?_ | refine s_callH [1] (c1) ?_ | refine s_callH [1] (c2) ?_ | refine s_callH [1] (c3) ?_ | refine s_callH [1] (c4) ?_ | refine s_callH [1] (c5) ?_ | refine kf ?_ | fail)
  all_goals rfl
end Go.Proofs.YtmpgmjlanngkfaaGreat
end
