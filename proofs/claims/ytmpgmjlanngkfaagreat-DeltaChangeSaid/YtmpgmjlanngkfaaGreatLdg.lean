/-
  DeltaChange: the law returns true.
-/
import Derived.Test.YtmpgmjlanngkfaaGreatRdr
import Derived.Test.YtmpgmjlanngkfaaGreatJch
import Derived.Test.YtmpgmjlanngkfaaGreatExn
import Derived.Test.YtmpgmjlanngkfaaGreatFit
section
namespace Go.Proofs.YtmpgmjlanngkfaaGreat
open Go.Abs Go.RowKit
attribute [local irreducible] ARun Av MCall PCall HCall Ap SF CF CFs Ag Ai As fin AY VLe
set_option linter.unusedSimpArgs false
set_option maxRecDepth 100000
set_option maxHeartbeats 4000000
variable {b dl dr l r : List Entry} {v : Vw}
def neg (e : Entry) : Entry := ⟨e.row, -e.count⟩
theorem Xp (l : List Entry) : l.map (sc (-1)) = l.map neg := by
 apply dE
 intro e _
 show (⟨e.row, -1 * e.count⟩ : Entry) = ⟨e.row, -e.count⟩
 rw [Int.neg_one_mul]
theorem Xq (b : List Entry) (hb : Am b = true) : PC 151 [.one (Ak b)] (.v (.one (Ak (b.map neg)))) := by
 obtain ⟨hl, hm⟩ := AP hb
 refine Ac hT Tryz.func151 Tryz.ntmps151 [.tmp 2] fun B => ?_
 repeat' first | refine kz ?_ | refine Ao ?_ | refine kh ?_ ?_ | exact ⟨⟩ | fail
 refine Bv 3 56 2 ?_
 refine AK (X := Nat × Nat) (List.range' 3 23) (fun x => x.1 ≤ b.length) (fun x lz => (3, .c (.arr 0 x.2 x.1)) :: (4, (iC x.1)) :: lz) (fun x => [.arr x.2 56 2 ((b.take x.1).map (fun e => (neg e).d))]) (fun x => b.length - x.1) ((0, 1)) ?_ ?_ ?_ ?_
 repeat' first | exact k0 | refine kw ?_ | refine kv ?_ ?_ | omega
 rintro ⟨i, k⟩ c hi
 dsimp only at hi ⊢
 have kJ : ((b.take i).map (fun e => (neg e).d)).length = i := by simp; omega
 by_cases i7 : i < b.length
 ·have hv : b[i]? = some b[i] := Bo i7
  have nT := (hm _ (Fo i7)).2.1
  generalize b[i] = e at hv nT
  repeat' first | refine kz ?_ | refine AF hv ?_ | refine Ao ?_ | refine kh ?_ ?_ | exact ⟨⟩ | fail
  apply Af ((i + 1, _)) <;> (try dsimp only) <;> try repeat' first | exact k0 | refine w1 ?_ | refine Ab ?_ | refine m1 ?_ ?_ | omega
  rw [D3 _ hv]; rfl
 ·obtain rfl : i = b.length := by omega
  repeat' first | refine kz ?_ | refine Ao ?_ | refine kh ?_ ?_ | exact ⟨⟩ | fail
  ·simp
  ·rw [Ir, Ah (by simp), show b.map (fun e => (neg e).d) = (b.map neg).map Entry.d by rw [Sc]; rfl]; rfl
theorem HP (a b : List Entry) : PC 101 [.one (Ak a), .one (Ak b)] (.tup [.one (Ak (AN (-1) a b).1), .one (.lit (.int .i64 (AN (-1) a b).2))]) := by
 have h1 := Bz a
 have h2 := Bz b
 by_cases ha : Am a = true
 ·by_cases hb : Am b = true
  ·have l1 := (AP ha).1
   have l2 := (AP hb).1
   have hn := Xq b hb
   have hm := Oc a (b.map neg) (by omega) (by simp; omega) (Fa ha) (by rw [← Xp]; exact Tv (.inr rfl) (Fa hb))
   have he : AN (-1) a b = AU (mergeE a (b.map neg)) := by rw [AN, if_pos ⟨ha, hb⟩, Xp]
   have hf := RS (mergeE a (b.map neg))
   rw [he]
   generalize b.map neg = nb at hn hm hf
   generalize mergeE a nb = M at hm hf
   generalize AU M = R at hf
   obtain ⟨r, er⟩ := R
   dsimp only at hf ⊢
   rw [ha] at h1
   rw [hb] at h2
   refine Ac hT Tryz.func101 Tryz.ntmps101 [.tmp 4, .tmp 5] fun B => ?_
   repeat' first | refine kz ?_ | refine Aa (h1) ?_ | refine Aa (h2) ?_ | refine Aa (hn) ?_ | refine Aa (hm) ?_ | refine Aa (hf) ?_ | refine kh ?_ ?_ | exact ⟨⟩ | fail
   all_goals rfl
  ·have he : AN (-1) a b = ([], 1) := if_neg (fun q => hb q.2)
   rw [he]
   rw [ha] at h1
   rw [show Am b = false by simpa using hb] at h2
   refine Ac hT Tryz.func101 Tryz.ntmps101 [.tmp 4, .tmp 5] fun B => ?_
   repeat' first | refine kz ?_ | refine Aa (h1) ?_ | refine Aa (h2) ?_ | refine kh ?_ ?_ | exact ⟨⟩ | fail
   all_goals rfl
 ·have he : AN (-1) a b = ([], 1) := if_neg (fun q => ha q.1)
  rw [he]
  rw [show Am a = false by simpa using ha] at h1
  refine Ac hT Tryz.func101 Tryz.ntmps101 [.tmp 4, .tmp 5] fun B => ?_
  repeat' first | refine kz ?_ | refine Aa (h1) ?_ | refine Aa (h2) ?_ | refine kh ?_ ?_ | exact ⟨⟩ | fail
  all_goals rfl
def Bf (v : Vw) (l r dl dr : List Entry) : List Entry × List Entry × Bool :=
 if (CN l dl).2 = 0 then (if B8 v = true then ((AN 1 l dl).1, (AN 1 r dr).1, decide ((AN 1 r dr).2 = 0) && Ay (AN 1 r dr).1) else ((AN 1 l dl).1, r, true)) else ([], [], false)
theorem IU (v : Vw) (l r dl dr : List Entry) : PC 100 [.agg v.d, .one (Ak l), .one (Ak r), .one (Ak dl), .one (Ak dr)] (.tup [.one (Ak (Bf v l r dl dr).1), .one (Ak (Bf v l r dl dr).2.1), .one (.lit (.bool (Bf v l r dl dr).2.2))]) := by
 have h1 := Ly l dl
 have h2 := Ly r dr
 have h3 := CW (AN 1 l dl).1
 have h4 := CW (AN 1 r dr).1
 have hu := ah v
 unfold Bf CN
 generalize AN 1 l dl = x at h1 h3 ⊢
 generalize AN 1 r dr = y at h2 h4 ⊢
 obtain ⟨x, e⟩ := x
 obtain ⟨y, f⟩ := y
 dsimp only at h1 h2 h3 h4 ⊢
 by_cases he : e = 0
 ·subst he
  cases hp : Ay x
  ·rw [hp] at h3
   rw [if_neg (show ¬ ((0 : Int) = 0 ∧ false = true) by decide), if_neg (show ¬ (([], 1) : List Entry × Int).2 = 0 by decide)]
   refine Ac hT Tryz.func100 Tryz.ntmps100 [.tmp 10, .tmp 11, .tmp 12] fun B => ?_
   repeat' first | refine kz ?_ | refine Aa (h1) ?_ | refine Aa (h3) ?_ | refine kf ?_ | refine C5 Ad ?_ ?_ ?_
   all_goals rfl
  ·rw [hp] at h3
   rw [if_pos (show (0 : Int) = 0 ∧ true = true from ⟨rfl, rfl⟩), if_pos (show ((x, 0) : List Entry × Int).2 = 0 from rfl)]
   cases s9 : B8 v
   ·rw [s9] at hu
    rw [if_neg (show ¬ (false = true) by decide)]
    refine Ac hT Tryz.func100 Tryz.ntmps100 [.tmp 10, .tmp 11, .tmp 12] fun B => ?_
    repeat' first | refine kz ?_ | refine Aa (h1) ?_ | refine Aa (h3) ?_ | refine Aa (hu) ?_ | refine kf ?_ | refine C5 Ad ?_ ?_ ?_
    all_goals rfl
   ·rw [s9] at hu
    rw [if_pos (show true = true from rfl)]
    by_cases hf : f = 0
    ·subst hf
     rw [show (decide ((0 : Int) = 0) && Ay y) = Ay y from rfl]
     dsimp only
     refine Ac hT Tryz.func100 Tryz.ntmps100 [.tmp 10, .tmp 11, .tmp 12] fun B => ?_
     repeat' first | refine kz ?_ | refine Aa (h1) ?_ | refine Aa (h2) ?_ | refine Aa (h3) ?_ | refine Aa (h4) ?_ | refine Aa (hu) ?_ | refine kf ?_ | refine C5 Ad ?_ ?_ ?_
     all_goals rfl
    ·rw [show (decide (f = 0) && Ay y) = false by simp [hf]]
     dsimp only
     refine Ac hT Tryz.func100 Tryz.ntmps100 [.tmp 10, .tmp 11, .tmp 12] fun B => ?_
     repeat' first | refine kz ?_ | refine Aa (h1) ?_ | refine Aa (h2) ?_ | refine Aa (h3) ?_ | refine Aa (h4) ?_ | refine Aa (hu) ?_ | refine kf ?_ | refine C5 Ad ?_ ?_ ?_
     all_goals rfl
 ·rw [if_neg (show ¬ (e = 0 ∧ Ay x = true) from fun h => he h.1), if_neg (show ¬ (([], 1) : List Entry × Int).2 = 0 by decide)]
  refine Ac hT Tryz.func100 Tryz.ntmps100 [.tmp 10, .tmp 11, .tmp 12] fun B => ?_
  repeat' first | refine kz ?_ | refine Aa (h1) ?_ | refine kf ?_ | refine C5 Ad ?_ ?_ ?_
  all_goals rfl
def Lx (x : List Entry × Int) (ok : Bool) (y : List Entry × Int) : List Entry × Int :=
 if x.2 = 0 then (if ok = true then (if y.2 = 0 then AN (-1) y.1 x.1 else ([], y.2)) else ([], 1)) else ([], x.2)
theorem Qx (v : Vw) (l r dl dr : List Entry) (x y : List Entry × Int)
  (hx : PC 36 [.agg v.d, .one (Ak l), .one (Ak r)] (Bi x))
  (hy : PC 36 [.agg v.d, .one (Ak (Bf v l r dl dr).1), .one (Ak (Bf v l r dl dr).2.1)] (Bi y)) :
  PC 51 [.agg v.d, .one (Ak l), .one (Ak r), .one (Ak dl), .one (Ak dr)] (Bi (Lx x (Bf v l r dl dr).2.2 y)) := by
 have hc := IU v l r dl dr
 have hs := HP y.1 x.1
 unfold Lx
 generalize Bf v l r dl dr = q at hc hy ⊢
 obtain ⟨a, b, ok⟩ := q
 generalize AN (-1) y.1 x.1 = s at hs ⊢
 obtain ⟨x, e⟩ := x
 obtain ⟨y, f⟩ := y
 dsimp only [Bi] at hc hx hy hs ⊢
 by_cases he : e = 0
 ·subst he
  rw [if_pos (show (0 : Int) = 0 from rfl)]
  cases ok
  · rw [if_neg (show ¬ (false = true) by decide)]
    refine Ac hT Tryz.func51 Tryz.ntmps51 [.tmp 10, .tmp 11] fun B => ?_
    repeat' first | refine kz ?_ | refine Aa (hx) ?_ | refine Aa (hc) ?_ | refine kh ?_ ?_ | exact ⟨⟩ | fail
    all_goals rfl
  · rw [if_pos (show true = true from rfl)]
    by_cases hf : f = 0
    ·subst hf
     rw [if_pos (show (0 : Int) = 0 from rfl)]
     refine Ac hT Tryz.func51 Tryz.ntmps51 [.tmp 10, .tmp 11] fun B => ?_
     repeat' first | refine kz ?_ | refine Aa (hx) ?_ | refine Aa (hc) ?_ | refine Aa (hy) ?_ | refine Aa (hs) ?_ | refine kh ?_ ?_ | exact ⟨⟩ | fail
     all_goals rfl
    ·rw [if_neg hf]
     refine Ac hT Tryz.func51 Tryz.ntmps51 [.tmp 10, .tmp 11] fun B => ?_
     repeat' first | refine kz ?_ | refine Aa (hx) ?_ | refine Aa (hc) ?_ | refine Aa (hy) ?_ | refine kh ?_ ?_ | exact ⟨⟩ | fail
     all_goals rfl
 ·rw [if_neg he]
  refine Ac hT Tryz.func51 Tryz.ntmps51 [.tmp 10, .tmp 11] fun B => ?_
  repeat' first | refine kz ?_ | refine Aa (hx) ?_ | refine kh ?_ ?_ | exact ⟨⟩ | fail
  all_goals rfl
noncomputable def rtcE (v : Vw) (ok : Bool) (x : List Entry × Int) (fit : Bool) (y : List Entry × Int) : List (List Val) × Int :=
 if v.kind = 1 ∧ ok = true then (if x.2 = 0 then (if fit = true then (if y.2 = 0 then (if (AN (-1) y.1 x.1).2 = 0 then (Dg (AN (-1) y.1 x.1).1 (AQ v.items), 0) else ([], (AN (-1) y.1 x.1).2)) else ([], y.2)) else ([], 1)) else ([], x.2)) else ([], 1)
theorem Oe (v : Vw) (l r dl dr : List Entry) (kJ : v.items.length ≤ 16) (hl : (AN (-1) (EX v (Bf v l r dl dr).1 (Bf v l r dl dr).2.1).1 (EX v l r).1).1.length ≤ 1000) :
  PC 52 [.agg v.d, .one (Ak l), .one (Ak r), .one (Ak dl), .one (Ak dr)] (HF (rtcE v (A1 v l r) (EX v l r) (Bf v l r dl dr).2.2 (EX v (Bf v l r dl dr).1 (Bf v l r dl dr).2.1))) := by
 have hd := M7 v l r
 have hc := IU v l r dl dr
 have hx := Og v l r
 unfold rtcE
 by_cases hk : v.kind = 1
 ·cases pz : A1 v l r
  ·rw [pz] at hd
   rw [if_neg (by simp)]
   dsimp only [HF]
   refine Ac hT Tryz.func52 Tryz.ntmps52 [.tmp 10, .tmp 11] fun B => ?_
   repeat' first | refine kz ?_ | refine Aa (hd) ?_ | refine kh ?_ ?_ | exact ⟨⟩ | fail
   all_goals rfl
  ·rw [pz] at hd
   rw [if_pos ⟨hk, rfl⟩]
   generalize Bf v l r dl dr = q at hc hl ⊢
   obtain ⟨a, b, ok⟩ := q
   have hy := Og v a b
   dsimp only at hl ⊢
   generalize EX v l r = x at hx hl ⊢
   generalize EX v a b = y at hy hl ⊢
   have hs := HP y.1 x.1
   have qt := Na (AN (-1) y.1 x.1).1 v.items hl kJ
   generalize AN (-1) y.1 x.1 = s at hs qt ⊢
   clear hl
   obtain ⟨x, e⟩ := x
   obtain ⟨y, f⟩ := y
   obtain ⟨s, g⟩ := s
   dsimp only [Bi] at hc hx hy hs qt ⊢
   by_cases he : e = 0
   ·subst he
    rw [if_pos (show (0 : Int) = 0 from rfl)]
    cases ok
    ·rw [if_neg (show ¬ (false = true) by decide)]
     dsimp only [HF]
     refine Ac hT Tryz.func52 Tryz.ntmps52 [.tmp 10, .tmp 11] fun B => ?_
     repeat' first | refine kz ?_ | refine Aa (hd) ?_ | refine Aa (hx) ?_ | refine Aa (hc) ?_ | refine kh ?_ ?_ | exact ⟨⟩ | fail
     all_goals rfl
    ·rw [if_pos (show true = true from rfl)]
     by_cases hf : f = 0
     ·subst hf
      rw [if_pos (show (0 : Int) = 0 from rfl)]
      by_cases hg : g = 0
      ·subst hg
       rw [if_pos (show (0 : Int) = 0 from rfl)]
       dsimp only [HF]
       refine Ac hT Tryz.func52 Tryz.ntmps52 [.tmp 10, .tmp 11] fun B => ?_
       repeat' first | refine kz ?_ | refine Aa (hd) ?_ | refine Aa (hx) ?_ | refine Aa (hc) ?_ | refine Aa (hy) ?_ | refine Aa (hs) ?_ | refine Aa (qt) ?_ | refine kh ?_ ?_ | exact ⟨⟩ | fail
       all_goals rfl
      ·rw [if_neg hg]
       dsimp only [HF]
       refine Ac hT Tryz.func52 Tryz.ntmps52 [.tmp 10, .tmp 11] fun B => ?_
       repeat' first | refine kz ?_ | refine Aa (hd) ?_ | refine Aa (hx) ?_ | refine Aa (hc) ?_ | refine Aa (hy) ?_ | refine Aa (hs) ?_ | refine kh ?_ ?_ | exact ⟨⟩ | fail
       all_goals rfl
     ·rw [if_neg hf]
      dsimp only [HF]
      refine Ac hT Tryz.func52 Tryz.ntmps52 [.tmp 10, .tmp 11] fun B => ?_
      repeat' first | refine kz ?_ | refine Aa (hd) ?_ | refine Aa (hx) ?_ | refine Aa (hc) ?_ | refine Aa (hy) ?_ | refine kh ?_ ?_ | exact ⟨⟩ | fail
      all_goals rfl
   ·rw [if_neg he]
    dsimp only [HF]
    refine Ac hT Tryz.func52 Tryz.ntmps52 [.tmp 10, .tmp 11] fun B => ?_
    repeat' first | refine kz ?_ | refine Aa (hd) ?_ | refine Aa (hx) ?_ | refine kh ?_ ?_ | exact ⟨⟩ | fail
    all_goals rfl
 ·rw [if_neg fun h => hk h.1]
  dsimp only [HF]
  refine Ac hT Tryz.func52 Tryz.ntmps52 [.tmp 10, .tmp 11] fun B => ?_
  repeat' first | refine kz ?_ | refine kh ?_ ?_ | exact ⟨⟩ | fail
  all_goals rfl
theorem RV (l : List (List Val)) (hl : l.length ≤ 1000000) : PC 53 [.one (cO l), .one (cO l)] (.v (.one (.lit (.bool true)))) := by
 refine Ac hT Tryz.func53 Tryz.ntmps53 [.tmp 4] fun B => ?_
 repeat' first | refine kz ?_ | refine Ao ?_ | refine kf ?_ | fail
 refine AK (X := Nat) ([4, 5] ++ List.range' 11 16) (fun x => x ≤ l.length) (fun x lz => (5, (iC x)) :: lz) (fun x => []) (fun x => l.length - x) (0) ?_ ?_ ?_ ?_
 repeat' first | exact k0 | refine kw ?_ | omega
 rintro i c hi
 by_cases i7 : i < l.length
 ·obtain ⟨q, hv⟩ := gx i7
  have hs := LG q q
  rw [Ga] at hs
  have jN : (l.map rD)[i]? = some [A0 q] := by rw [BU, hv]; rfl
  repeat' first | refine kz ?_ | refine AF jN ?_ | refine Ao ?_ | refine Aa (hs) ?_ | refine kf ?_ | fail
  apply Af (i + 1) <;> (try dsimp only) <;> try repeat' first | exact k0 | refine kw ?_ | omega
 ·repeat' first | refine kz ?_ | refine Ao ?_ | refine kf ?_ | fail
  all_goals rfl
theorem W7 {c : List Entry} (h : (CN b c).2 = 0) : (CN b c).1 = (AN 1 b c).1 ∧ AN 1 b c = ((AN 1 b c).1, 0) ∧ Ay (AN 1 b c).1 = true := by
 unfold CN at *
 split at h
 ·rename_i hp
  rw [if_pos hp]
  exact ⟨rfl, Prod.ext rfl hp.1, hp.2⟩
 ·cases h
theorem S7 {c : List Entry} (h : (CN b c).2 ≠ 0) : CN b c = ([], 1) := by
 unfold CN at *
 split
 ·rename_i hp; rw [if_pos hp] at h; exact absurd rfl h
 ·rfl
theorem S8 (b c : List Entry) : (decide ((AN 1 b c).2 = 0) && Ay (AN 1 b c).1) = decide ((CN b c).2 = 0) := by
 unfold CN
 by_cases h : (AN 1 b c).2 = 0 ∧ Ay (AN 1 b c).1 = true
 ·rw [if_pos h, h.2, decide_eq_true h.1]; rfl
 ·rw [if_neg h]
  by_cases h1 : (AN 1 b c).2 = 0
  ·have h2 : Ay (AN 1 b c).1 = false := by simpa using fun q => h ⟨h1, q⟩
   rw [h2, Bool.and_false]; rfl
  ·rw [decide_eq_false h1]; rfl
theorem RO (hk : Ef v = true) (hr : A1 v l r = true) (h : (Bf v l r dl dr).2.2 = true) :
  Dn v l r dl dr = ((Bf v l r dl dr).1, if B8 v = true then (Bf v l r dl dr).2.1 else [], 0) ∧ A1 v (Bf v l r dl dr).1 (Bf v l r dl dr).2.1 = true ∧
  AN 1 l dl = ((Bf v l r dl dr).1, 0) ∧ (B8 v = true → AN 1 r dr = ((Bf v l r dl dr).2.1, 0)) := by
 unfold Bf at *
 by_cases h1 : (CN l dl).2 = 0
 ·obtain ⟨f1, f2, f3⟩ := W7 h1
  rw [if_pos h1] at h ⊢
  cases hu : B8 v
  ·rw [hu, if_neg (show ¬ (false = true) by decide)] at h
   rw [if_neg (show ¬ (false = true) by decide), if_neg (show ¬ (false = true) by decide)]
   refine ⟨?_, ?_, f2, fun q => by cases q⟩
   ·rw [Dn, if_neg (show ¬ ((CN l dl).2 = 0 ∧ B8 v = true) by simp [hu]), h1, f1]
   ·unfold A1
    rw [hk, hu, f3]; rfl
  ·rw [hu, if_pos (show true = true from rfl), S8] at h
   have h2 : (CN r dr).2 = 0 := of_decide_eq_true h
   obtain ⟨g1, g2, g3⟩ := W7 h2
   rw [if_pos (show true = true from rfl), if_pos (show true = true from rfl)]
   refine ⟨?_, ?_, f2, fun _ => g2⟩
   ·rw [Dn, if_pos ⟨h1, hu⟩, h2, f1, g1]
   ·unfold A1
    rw [hk, f3]
    dsimp only
    rw [g3, Bool.or_true]; rfl
 ·rw [if_neg h1] at h
  cases h
theorem Lr (h : (Bf v l r dl dr).2.2 = false) : (Dn v l r dl dr).2.2 = 1 := by
 unfold Bf at h
 by_cases h1 : (CN l dl).2 = 0
 ·rw [if_pos h1] at h
  cases hu : B8 v
  ·rw [hu, if_neg (show ¬ (false = true) by decide)] at h
   cases h
  ·rw [hu, if_pos (show true = true from rfl), S8] at h
   have h2 : (CN r dr).2 ≠ 0 := of_decide_eq_false h
   rw [Dn, if_pos ⟨h1, hu⟩, S7 h2]
 ·rw [Dn, if_neg (fun q => h1 q.1), S7 h1]
theorem W8 {s : List Entry} (hk : Ef v = true) (hd : A1 v l r = true) (h : (Bf v l r dl dr).2.2 = true) (hs : B3 A7 v l r = (s, 0)) :
  HI A7 (LY A7 v.on [(dl, r), (l, dr), (dl, dr)] []) v s l r dl dr = B3 A7 v (Bf v l r dl dr).1 (Bf v l r dl dr).2.1 := by
 obtain ⟨h1, -, h3, h4⟩ := RO hk hd h
 unfold HI
 rw [h1]
 dsimp only
 unfold B3 at hs ⊢
 cases hr : Cf v
 ·have hu : B8 v = true := by simp [B8, hr]
  rw [hr, if_neg (show ¬ (false = true) by decide)] at hs
  rw [if_pos ⟨rfl, rfl⟩, if_neg (show ¬ (false = true) by decide), hu, if_pos (show true = true from rfl)]
  by_cases hc : (LY A7 v.on [(dl, r), (l, dr), (dl, dr)] []).2 = 0
  ·rw [if_pos hc]
   exact WS h3 (h4 hu) hs (Prod.ext rfl hc)
  ·rw [if_neg hc]
 ·rw [if_neg (fun q => by cases q.2), if_pos (show true = true from rfl)]
def iH (v : Vw) (l r dl dr : List Entry) : List Entry × List Entry × Int :=
 if v.kind = 2 then Nl v l r dl dr else ([], [], 0)
theorem S9 (hk : v.kind = 2) (hd : A1 v l r = true) : cntK v l r = AN 1 l r := by
 unfold cntK Ov
 rw [if_pos hd, if_pos hk]
theorem Ta (hk : v.kind ≠ 2) (hd : A1 v l r = true) : cntK v l r = if (B3 A7 v l r).2 = 0 then JE groupE v (B3 A7 v l r).1 else ([], (B3 A7 v l r).2) := by
 unfold cntK Ov
 rw [if_pos hd, if_neg hk]
theorem W9 (hd : A1 v l r = false) : cntK v l r = ([], 1) := by
 unfold cntK Ov
 rw [hd, if_neg (by decide)]
theorem Hw (hd : A1 v l r = true) : Ef v = true := by
 unfold A1 at hd
 rw [BM] at hd
 exact hd.1
theorem Ux (hk : v.kind = 2) : Mb (A1 v l r) (Nl v l r dl dr) = Lx (cntK v l r) (Bf v l r dl dr).2.2 (cntK v (Bf v l r dl dr).1 (Bf v l r dl dr).2.1) := by
 unfold Mb Lx
 cases hd : A1 v l r
 ·rw [W9 hd]; rfl
 have hu : B8 v = true := by simp [B8, hk]
 rw [if_pos (show true = true from rfl), S9 hk hd]
 unfold Nl
 by_cases he : (AN 1 l r).2 = 0
 ·rw [if_pos he, if_pos he]
  cases hf : (Bf v l r dl dr).2.2
  ·rw [if_neg (show ¬ (false = true) by decide), Lr hf]; rfl
  ·obtain ⟨h1, h2, -, -⟩ := RO (Hw hd) hd hf
   rw [if_pos (show true = true from rfl), S9 hk h2, h1, hu, if_pos (show true = true from rfl), if_pos (show (0 : Int) = 0 from rfl)]
 ·rw [if_neg he, if_neg he, if_neg he]
theorem Uy (hk : v.kind ≠ 2) : Mb (A1 v l r) (LS (B3 A7 v l r) (JE groupE v (B3 A7 v l r).1) (HI A7 (LY A7 v.on [(dl, r), (l, dr), (dl, dr)] []) v (B3 A7 v l r).1 l r dl dr) (JE groupE v (HI A7 (LY A7 v.on [(dl, r), (l, dr), (dl, dr)] []) v (B3 A7 v l r).1 l r dl dr).1)) = Lx (cntK v l r) (Bf v l r dl dr).2.2 (cntK v (Bf v l r dl dr).1 (Bf v l r dl dr).2.1) := by
 unfold Mb Lx
 cases hd : A1 v l r
 ·rw [W9 hd]; rfl
 rw [if_pos (show true = true from rfl), Ta hk hd]
 unfold LS
 by_cases he : (B3 A7 v l r).2 = 0
 ·rw [if_pos he, if_pos he]
  by_cases ho : (JE groupE v (B3 A7 v l r).1).2 = 0
  ·rw [if_pos ho, if_pos ho]
   cases hf : (Bf v l r dl dr).2.2
   ·rw [if_neg (show ¬ (false = true) by decide)]
    have hj : (HI A7 (LY A7 v.on [(dl, r), (l, dr), (dl, dr)] []) v (B3 A7 v l r).1 l r dl dr).2 = 1 := by
     unfold HI
     rw [if_neg (fun q => by rw [Lr hf] at q; exact absurd q.1 (by decide))]
     exact Lr hf
    generalize HI A7 (LY A7 v.on [(dl, r), (l, dr), (dl, dr)] []) v (B3 A7 v l r).1 l r dl dr = j at hj ⊢
    obtain ⟨j, e⟩ := j
    dsimp only at hj
    subst hj
    rfl
   ·obtain ⟨-, h2, -, -⟩ := RO (Hw hd) hd hf
    rw [if_pos (show true = true from rfl), Ta hk h2, W8 (Hw hd) hd hf (Prod.ext rfl he)]
    generalize B3 A7 v (Bf v l r dl dr).1 (Bf v l r dl dr).2.1 = j
    by_cases h3 : j.2 = 0
    ·rw [if_pos h3, if_pos h3]
    ·rw [if_neg h3, if_neg h3, if_neg h3, if_neg h3]
  ·rw [if_neg ho, if_neg ho, if_neg ho]
 ·rw [if_neg he, if_neg he, if_neg he, if_neg he]
theorem Xa : tchE v (A1 v l r) (B3 A7 v l r) (HI A7 (LY A7 v.on [(dl, r), (l, dr), (dl, dr)] []) v (B3 A7 v l r).1 l r dl dr) (AN (-1) (A9 (HI A7 (LY A7 v.on [(dl, r), (l, dr), (dl, dr)] []) v (B3 A7 v l r).1 l r dl dr).1 v.wher) (A9 (B3 A7 v l r).1 v.wher)) = rtcE v (A1 v l r) (EX v l r) (Bf v l r dl dr).2.2 (EX v (Bf v l r dl dr).1 (Bf v l r dl dr).2.1) := by
 unfold tchE rtcE
 by_cases hk : v.kind = 1 ∧ A1 v l r = true
 ·have hd := hk.2
  rw [if_pos hk, if_pos hk]
  unfold EX
  by_cases he : (B3 A7 v l r).2 = 0
  ·rw [if_pos he, if_pos he, if_pos (show ((A9 (B3 A7 v l r).1 v.wher, 0) : List Entry × Int).2 = 0 from rfl)]
   cases hf : (Bf v l r dl dr).2.2
   ·have hj : (HI A7 (LY A7 v.on [(dl, r), (l, dr), (dl, dr)] []) v (B3 A7 v l r).1 l r dl dr).2 = 1 := by
     unfold HI
     rw [if_neg (fun q => by rw [Lr hf] at q; exact absurd q.1 (by decide))]
     exact Lr hf
    generalize HI A7 (LY A7 v.on [(dl, r), (l, dr), (dl, dr)] []) v (B3 A7 v l r).1 l r dl dr = j at hj ⊢
    obtain ⟨j, e⟩ := j
    dsimp only at hj
    subst hj
    rfl
   ·rw [if_pos (show true = true from rfl), W8 (Hw hd) hd hf (Prod.ext rfl he)]
    generalize B3 A7 v (Bf v l r dl dr).1 (Bf v l r dl dr).2.1 = j
    by_cases h3 : j.2 = 0
    ·rw [if_pos h3, if_pos h3, if_pos (show ((A9 j.1 v.wher, 0) : List Entry × Int).2 = 0 from rfl)]
     dsimp only
     rw [YS]
    ·rw [if_neg h3, if_neg h3, if_neg h3]
  ·rw [if_neg he, if_neg he, if_neg he]
 ·rw [if_neg hk, if_neg hk]
theorem Qi (l dl : List Entry) : (AN 1 l dl).1.length ≤ l.length + dl.length := by
 unfold AN
 split
 ·unfold AU
  have h := DJ l (dl.map (sc 1))
  rw [BR] at h
  split
  ·simp
  ·split
   ·exact h
   ·simp
 ·simp
theorem Xb (l dl : List Entry) : (AN (-1) l dl).1.length ≤ l.length + dl.length := by
 unfold AN
 split
 ·unfold AU
  have h := DJ l (dl.map (sc (-1)))
  rw [BR] at h
  split
  ·simp
  ·split
   ·exact h
   ·simp
 ·simp
theorem Y7 (s : Int) (a b : List Entry) : (AN s a b).1.length ≤ 10000 := by
 unfold AN
 split
 ·unfold AU
  split
  ·simp
  ·split
   ·dsimp only; omega
   ·simp
 ·simp
theorem RP (b : List Entry) (e : List Trm) : (A9 b e).length ≤ b.length := by
 unfold A9
 split
 ·exact Q1 ..
 ·simp
theorem Y8 (l1 : l.length ≤ 6) (l2 : r.length ≤ 6) (l3 : dl.length ≤ 19) (l4 : dr.length ≤ 19) : (Bf v l r dl dr).1.length ≤ 25 ∧ (Bf v l r dl dr).2.1.length ≤ 25 := by
 have h1 := Qi l dl
 have h2 := Qi r dr
 unfold Bf
 split
 ·split
  ·dsimp only; omega
  ·dsimp only; omega
 ·simp
theorem Qj {a : List Entry} {n : Nat} (h : (B3 A7 v a b).1.length ≤ n) : (EX v a b).1.length ≤ n := by
 unfold EX
 split
 ·exact LX (RP ..) h
 ·simp
theorem Qk (v : Vw) {a : List Entry} {n : Nat} (la : a.length ≤ n) (lb : b.length ≤ n) (h1 : 1 ≤ n) : (B3 A7 v a b).1.length ≤ n * n := by
 unfold B3
 split
 ·exact LX la (Nat.le_mul_of_pos_left n h1)
 ·exact LX (Qg a b v.on) (ZF la lb)
theorem Hx (hv : v.near) (l1 : l.length ≤ 6) (l2 : r.length ≤ 6) (l3 : dl.length ≤ 19) (l4 : dr.length ≤ 19) : PC 22 [.agg v.d, .one (Ak l), .one (Ak r), .one (Ak dl), .one (Ak dr)] (.v (.one (.lit (.bool true)))) := by
 have hi : v.items.length ≤ 10000 := by have := hv.items; omega
 have ha : v.aggs.length ≤ 10000 := by have := hv.aggs; omega
 have oz : v.on.length ≤ 10000 := by have := hv.onl; omega
 obtain ⟨b1, b2⟩ := Y8 (v := v) l1 l2 l3 l4
 have rV := HS A7 v l r fun _ => Ri l r v.on oz
 have jR : ∀ j, PC 42 [.agg v.d, .one (Ak j)] (Bi (JE groupE v j)) := fun j => QU groupE v j hi fun _ => X8 _ _ _ hi ha
 have rW : ∀ j, PC 55 [.agg v.d, .one (Ak j), .one (Ak l), .one (Ak r), .one (Ak dl), .one (Ak dr)] (Bi (HI A7 (LY A7 v.on [(dl, r), (l, dr), (dl, dr)] []) v j l r dl dr)) := fun j =>
  HQ A7 _ v j l r dl dr (fun _ => Ri _ _ v.on oz) fun _ => Ow A7 v l r dl dr fun p _ => Ri p.1 p.2 v.on oz
 have d1 := JY v l r hi ha (Qh v (by omega) (by omega))
 have d2 := JY v (Bf v l r dl dr).1 (Bf v l r dl dr).2.1 hi ha (Qh v (by omega) (by omega))
 have g2 := Qx v l r dl dr _ _ d1 d2
 have s1 := Qj (v := v) (Qk v (n := 6) l1 l2 (by omega))
 have s2 := Qj (v := v) (Qk v (n := 25) b1 b2 (by omega))
 have s3 := Xb (EX v (Bf v l r dl dr).1 (Bf v l r dl dr).2.1).1 (EX v l r).1
 have g4 := Oe v l r dl dr (by have := hv.items; omega) (by omega)
 have g3 := UW v l r dl dr (B3 A7 v l r) _ hi (fun _ => rV) (fun _ => rW _) (Y7 ..)
 rw [Xa] at g3
 have g1 : PC 18 [.agg v.d, .one (Ak l), .one (Ak r), .one (Ak dl), .one (Ak dr)] (Bi (Lx (cntK v l r) (Bf v l r dl dr).2.2 (cntK v (Bf v l r dl dr).1 (Bf v l r dl dr).2.1))) := by
  by_cases hk : v.kind = 2
  ·rw [← Ux hk]
   exact U1 v l r dl dr hk
  ·rw [← Uy hk]
   exact LU v l r dl dr _ fun _ => J3 v l r dl dr _ _ _ _ hk rV (jR _) (rW _) (jR _)
 change PCall _ _ _ (Bi (Lx (cntK v l r) (Bf v l r dl dr).2.2 (cntK v (Bf v l r dl dr).1 (Bf v l r dl dr).2.1))) at g2
 have e1 := QE (Lx (cntK v l r) (Bf v l r dl dr).2.2 (cntK v (Bf v l r dl dr).1 (Bf v l r dl dr).2.1)).1 (Lx (cntK v l r) (Bf v l r dl dr).2.2 (cntK v (Bf v l r dl dr).1 (Bf v l r dl dr).2.1)).1
 rw [Gb] at e1
 have nZ : (rtcE v (A1 v l r) (EX v l r) (Bf v l r dl dr).2.2 (EX v (Bf v l r dl dr).1 (Bf v l r dl dr).2.1)).1.length ≤ 1000000 := by
  have np := I6 (AN (-1) (EX v (Bf v l r dl dr).1 (Bf v l r dl dr).2.1).1 (EX v l r).1).1 (AQ v.items) fun e _ => B4 _ _
  unfold rtcE
  repeat' split
  all_goals first
   | (dsimp only; omega)
   | simp
 have e2 := RV _ nZ
 generalize Lx (cntK v l r) (Bf v l r dl dr).2.2 (cntK v (Bf v l r dl dr).1 (Bf v l r dl dr).2.1) = R at g1 g2 e1
 generalize rtcE v (A1 v l r) (EX v l r) (Bf v l r dl dr).2.2 (EX v (Bf v l r dl dr).1 (Bf v l r dl dr).2.1) = Q at g3 g4 e2
 clear rV jR rW d1 d2 s1 s2 s3 b1 b2 nZ l1 l2 l3 l4 hi ha oz hv
 obtain ⟨R, e⟩ := R
 obtain ⟨Q, f⟩ := Q
 obtain ⟨vn, vk, vl, vr, uB, vw, vi, vd, va⟩ := v
 dsimp only [Bi, HF, Vw.d] at g1 g2 g3 g4 e1 e2 ⊢
 refine Ac hT Tryz.func22 Tryz.ntmps22 [.tmp 10] fun B => ?_
 repeat' first | refine kz ?_ | refine Aa (g1) ?_ | refine Aa (g2) ?_ | refine Aa (g3) ?_ | refine Aa (g4) ?_ | refine Aa (e1) ?_ | refine Aa (e2) ?_ | refine kf ?_ | fail
 all_goals rfl
theorem Ql (t : List Int) (ht : t.length ≤ 17592186044416) : PC 7 [.one (Ds t)] (.v (.one (.lit (.bool true)))) := by
 have jV := fj t ht
 have ll : (Tape.mk t 0).ok := ⟨ht, by simp⟩
 have zG := TO
 refine Ac hT Tryz.func7 Tryz.ntmps7 [.tmp 2] fun B => ?_
 repeat' first | refine kz ?_ | refine Ae [] (jV) ?_ | refine kf ?_ | fail
 refine AK (X := Nat × Tape) ([2] ++ List.range' 4 6 ++ List.range' 12 38) (fun x => x.1 ≤ 4 ∧ x.2.ok) (fun x lz => (4, (iC x.1)) :: lz) (fun x => [.dead, .box 1 [.d (Ds x.2.l), .d (.lit (.int .i64 x.2.at_))]]) (fun x => 4 - x.1) ((0, ⟨t, 0⟩)) ?_ ?_ ?_ ?_
 repeat' first | exact k0 | refine kw ?_ | omega
 all_goals try (first | rfl | exact ⟨by omega, ll⟩)
 rintro ⟨i, T⟩ c ⟨hi, hT⟩
 dsimp only at hi hT ⊢
 by_cases i7 : i < 4
 ·obtain ⟨v, t1, jv, hv, c1⟩ := TN T hT
  obtain ⟨a, t2, jr, ⟨ta, la, pa⟩, c2⟩ := Rm t1 3 6 false jv (by omega) (by omega)
  have pa := pa rfl
  obtain ⟨b, t3, kl, ⟨tb, lb, pb⟩, c3⟩ := Rm t2 2 6 false jr (by omega) (by omega)
  have pb := pb rfl
  obtain ⟨da, t4, rF, ⟨-, lda⟩, -, c4⟩ := K9 t3 a (3 * 6) 3 kl ta pa (by omega) (by omega)
  obtain ⟨db, t5, uC, ⟨-, ldb⟩, -, c5⟩ := K9 t4 b (3 * 6) 2 rF tb pb (by omega) (by omega)
  have hn := Y6 hv
  clear ta tb pa pb
  by_cases h1 : i = 1
  ·obtain ⟨zH, t6, tN, ⟨-, zI, -⟩, c6⟩ := Rm t5 3 5 true uC (by omega) (by omega)
   have d1 := Hx hn (l := a) (r := b) (dl := zH) (dr := db) (by omega) (by omega) (by omega) (by omega)
   clear hv hn
   obtain ⟨vn, vk, vl, vr, uB, vw, vi, vd, va⟩ := v
   repeat' first | refine kz ?_ | refine Aa (d1) ?_ | refine Ae [1] (c1) ?_ | refine Ae [1] (c2) ?_ | refine Ae [1] (c3) ?_ | refine Ae [1] (c4) ?_ | refine Ae [1] (c5) ?_ | refine Ae [1] (c6) ?_ | refine kf ?_ | fail
   apply Af ((i + 1, t6)) <;> (try dsimp only) <;> try repeat' first | exact k0 | refine kw ?_ | omega
   all_goals first
    | exact ⟨by omega, tN⟩
    | skip
  by_cases h2 : i = 2
  ·obtain ⟨zJ, t6, tN, zK, c6⟩ := Zh t5 db uC (by omega)
   have d1 := Hx hn (l := a) (r := b) (dl := da) (dr := zJ) (by omega) (by omega) (by omega) (by omega)
   clear hv hn
   obtain ⟨vn, vk, vl, vr, uB, vw, vi, vd, va⟩ := v
   repeat' first | refine kz ?_ | refine Aa (d1) ?_ | refine Ae [1] (c1) ?_ | refine Ae [1] (c2) ?_ | refine Ae [1] (c3) ?_ | refine Ae [1] (c4) ?_ | refine Ae [1] (c5) ?_ | refine Ae [1] (c6) ?_ | refine kf ?_ | fail
   apply Af ((i + 1, t6)) <;> (try dsimp only) <;> try repeat' first | exact k0 | refine kw ?_ | omega
   all_goals first
    | exact ⟨by omega, tN⟩
    | skip
  by_cases h3 : i = 3
  ·obtain ⟨v2, t6, tN, kK, c6⟩ := QH t5 v uC hv
   have d1 := Hx kK (l := a) (r := b) (dl := da) (dr := db) (by omega) (by omega) (by omega) (by omega)
   clear hv hn kK
   obtain ⟨vn, vk, vl, vr, uB, vw, vi, vd, va⟩ := v
   obtain ⟨wn, wk, wl, wr, won, ww, wi, wd, wa⟩ := v2
   repeat' first | refine kz ?_ | refine Aa (d1) ?_ | refine Ae [1] (c1) ?_ | refine Ae [1] (c2) ?_ | refine Ae [1] (c3) ?_ | refine Ae [1] (c4) ?_ | refine Ae [1] (c5) ?_ | refine Ae [1] (c6) ?_ | refine kf ?_ | fail
   apply Af ((i + 1, t6)) <;> (try dsimp only) <;> try repeat' first | exact k0 | refine kw ?_ | omega
   all_goals first
    | exact ⟨by omega, tN⟩
    | skip
  ·have d1 := Hx hn (l := a) (r := b) (dl := da) (dr := db) (by omega) (by omega) (by omega) (by omega)
   clear hv hn
   obtain ⟨vn, vk, vl, vr, uB, vw, vi, vd, va⟩ := v
   repeat' first | refine kz ?_ | refine Aa (d1) ?_ | refine Ae [1] (c1) ?_ | refine Ae [1] (c2) ?_ | refine Ae [1] (c3) ?_ | refine Ae [1] (c4) ?_ | refine Ae [1] (c5) ?_ | refine kf ?_ | fail
   apply Af ((i + 1, t5)) <;> (try dsimp only) <;> try repeat' first | exact k0 | refine kw ?_ | omega
   all_goals first
    | exact ⟨by omega, uC⟩
    | skip
 ·repeat' first | refine kz ?_ | refine Aa (zG) ?_ | refine kf ?_ | fail
  all_goals rfl
end Go.Proofs.YtmpgmjlanngkfaaGreat
end
