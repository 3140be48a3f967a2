/-
  Views: whether the right source counts, whether a view can be derived, the join of its sources, and the changed bags.
-/
import Derived.Test.YtmpgmjlanngkfaaGreatMrg
import Derived.Test.YtmpgmjlanngkfaaGreatExa
import Derived.Test.YtmpgmjlanngkfaaGreatExn
import Derived.Test.YtmpgmjlanngkfaaGreatExo
import Derived.Test.YtmpgmjlanngkfaaGreatAgj
section
namespace Go.Proofs.YtmpgmjlanngkfaaGreat
open Go.Abs Go.RowKit
attribute [local irreducible] ARun At MCall PCall HCall Am SF CF CFs Ah Aj Ar fin AW VLe
set_option linter.unusedSimpArgs false
set_option maxRecDepth 100000
set_option maxHeartbeats 4000000
theorem OK : DeferOk Tryz.prog 46 0 := by
 refine ⟨⟨_, Tryz.func46, by kernel_rfl, by kernel_rfl⟩, fun vs w hl => ?_⟩
 match vs, hl with
 | [], _ =>
   refine callsD_of_wpS Tryz.func46 rfl fun c₀ cs hu => ?_
   apply wpS_region
   simp [wpOpsS, go_sem, recoverD, hu, Tryz.ntmps46, Exit.thenS]
   cases c₀
   simp_all [bodyPostS, results, Tryz.results46]
theorem FK : DeferOk Tryz.prog 94 0 := by
 refine ⟨⟨_, Tryz.func94, by kernel_rfl, by kernel_rfl⟩, fun vs w hl => ?_⟩
 match vs, hl with
 | [], _ =>
   refine callsD_of_wpS Tryz.func94 rfl fun c₀ cs hu => ?_
   apply wpS_region
   simp [wpOpsS, go_sem, recoverD, hu, Tryz.ntmps94, Exit.thenS]
   cases c₀
   simp_all [bodyPostS, results, Tryz.results94]
def B3 (s : Int) (a b : List Entry) : List Entry × Int := if Al a ∧ Al b then A2 (mergeE a (b.map (sc s))) else ([], 1)
theorem Sa (a b : List Entry) : PCall Tryz.prog 19 [.one (Ap a), .one (Ap b)] (.tup [.one (Ap (B3 1 a b).1), .one (.lit (.int .i64 (B3 1 a b).2))]) := by
 have h1 := BX a
 have h2 := BX b
 by_cases ha : Al a = true
 ·by_cases hb : Al b = true
  ·have hm := NY a b 1 (.inl rfl) ha hb
   have he : B3 1 a b = A2 (mergeE a (b.map (sc 1))) := if_pos ⟨ha, hb⟩
   rw [he]
   generalize A2 (mergeE a (b.map (sc 1))) = R at hm
   obtain ⟨r, er⟩ := R
   dsimp only at hm ⊢
   rw [ha] at h1
   rw [hb] at h2
   refine Ac hT Tryz.func19 Tryz.ntmps19 [.tmp 4, .tmp 5] fun B => ?_
   repeat' (first | refine kz ?_ | refine Aa (h1) ?_ | refine Aa (h2) ?_ | refine Aa (hm) ?_ | refine Ay (by repeat (first | exact Af | refine Aq OK ?_)) ?_ ?_ | refine kf ?_ | fail)
   all_goals rfl
  ·have he : B3 1 a b = ([], 1) := if_neg (fun q => hb q.2)
   rw [he]
   rw [ha] at h1
   rw [show Al b = false by simpa using hb] at h2
   refine Ac hT Tryz.func19 Tryz.ntmps19 [.tmp 4, .tmp 5] fun B => ?_
   repeat' (first | refine kz ?_ | refine Aa (h1) ?_ | refine Aa (h2) ?_ | refine Ay (by repeat (first | exact Af | refine Aq OK ?_)) ?_ ?_ | refine kf ?_ | fail)
   all_goals rfl
 ·have he : B3 1 a b = ([], 1) := if_neg (fun q => ha q.1)
  rw [he]
  rw [show Al a = false by simpa using ha] at h1
  refine Ac hT Tryz.func19 Tryz.ntmps19 [.tmp 4, .tmp 5] fun B => ?_
  repeat' (first | refine kz ?_ | refine Aa (h1) ?_ | refine Aa (h2) ?_ | refine Ay (by repeat (first | exact Af | refine Aq OK ?_)) ?_ ?_ | refine kf ?_ | fail)
  all_goals rfl
theorem OL (a b : List Entry) : PCall Tryz.prog 45 [.one (Ap a), .one (Ap b)] (.tup [.one (Ap (B3 (-1) a b).1), .one (.lit (.int .i64 (B3 (-1) a b).2))]) := by
 have h1 := BX a
 have h2 := BX b
 by_cases ha : Al a = true
 ·by_cases hb : Al b = true
  ·have hm := NY a b (-1) (.inr rfl) ha hb
   have he : B3 (-1) a b = A2 (mergeE a (b.map (sc (-1)))) := if_pos ⟨ha, hb⟩
   rw [he]
   generalize A2 (mergeE a (b.map (sc (-1)))) = R at hm
   obtain ⟨r, er⟩ := R
   dsimp only at hm ⊢
   rw [ha] at h1
   rw [hb] at h2
   refine Ac hT Tryz.func45 Tryz.ntmps45 [.tmp 4, .tmp 5] fun B => ?_
   repeat' (first | refine kz ?_ | refine Aa (h1) ?_ | refine Aa (h2) ?_ | refine Aa (hm) ?_ | refine Ay (by repeat (first | exact Af | refine Aq FK ?_)) ?_ ?_ | refine kf ?_ | fail)
   all_goals rfl
  ·have he : B3 (-1) a b = ([], 1) := if_neg (fun q => hb q.2)
   rw [he]
   rw [ha] at h1
   rw [show Al b = false by simpa using hb] at h2
   refine Ac hT Tryz.func45 Tryz.ntmps45 [.tmp 4, .tmp 5] fun B => ?_
   repeat' (first | refine kz ?_ | refine Aa (h1) ?_ | refine Aa (h2) ?_ | refine Ay (by repeat (first | exact Af | refine Aq FK ?_)) ?_ ?_ | refine kf ?_ | fail)
   all_goals rfl
 ·have he : B3 (-1) a b = ([], 1) := if_neg (fun q => ha q.1)
  rw [he]
  rw [show Al a = false by simpa using ha] at h1
  refine Ac hT Tryz.func45 Tryz.ntmps45 [.tmp 4, .tmp 5] fun B => ?_
  repeat' (first | refine kz ?_ | refine Aa (h1) ?_ | refine Aa (h2) ?_ | refine Ay (by repeat (first | exact Af | refine Aq FK ?_)) ?_ ?_ | refine kf ?_ | fail)
  all_goals rfl
end Go.Proofs.YtmpgmjlanngkfaaGreat
end
section
namespace Go.Proofs.YtmpgmjlanngkfaaGreat
open Go.Abs Go.RowKit
set_option linter.unusedSimpArgs false
set_option maxRecDepth 100000
def Cr : List Entry → Nat
 | [] => 0
 | e :: l => e.count.natAbs + Cr l
theorem IR (a b : List Entry) : Cr (a ++ b) = Cr a + Cr b := by
 induction a with
 | nil => simp [Cr]
 | cons e a ih => simp only [List.cons_append, Cr, ih]; omega
theorem Ot (a b : List Entry) : Cr (mergeE a b) ≤ Cr a + Cr b := by
  induction a, b using mergeE.induct with
  | case1 b => simp [mergeE, Cr]
  | case2 a h => rw [mergeE]; · omega
                 · exact h
  | case3 x a y b h ih => rw [mergeE, if_pos h]; simp only [Cr] at ih ⊢; omega
  | case4 x a y b h1 h2 ih => rw [mergeE, if_neg h1, if_pos h2]; simp only [Cr] at ih ⊢; omega
  | case5 x a y b h1 h2 ih =>
    rw [mergeE, if_neg h1, if_neg h2, IR]
    simp only [Cr] at ih ⊢
    split
    · simp only [Cr]; omega
    · simp only [Cr]; omega
theorem Ou (p : Entry → Bool) (l : List Entry) : Cr (l.filter p) ≤ Cr l := by
 induction l with
 | nil => exact Nat.le_refl _
 | cons e l ih =>
   rw [List.filter_cons]
   split
   ·simp only [Cr]; omega
   ·simp only [Cr]; omega
theorem Kf (l : List Entry) : Cr (sortE l) ≤ Cr l := by
 induction l using sortE.induct with
 | case1 l h => rw [sortE, dif_pos h]; exact Ou _ _
 | case2 l h ih1 ih2 =>
   rw [sortE, dif_neg h]
   have h1 := Ot (sortE (l.take (l.length / 2))) (sortE (l.drop (l.length / 2)))
   have h2 := IR (l.take (l.length / 2)) (l.drop (l.length / 2))
   rw [List.take_append_drop] at h2
   omega
theorem Ut {l : List Entry} {e : Entry} (h : e ∈ l) : e.count.natAbs ≤ Cr l := by
 induction l with
 | nil => cases h
 | cons x l ih =>
   rcases List.mem_cons.1 h with rfl | h
   ·simp only [Cr]; omega
   ·have := ih h; simp only [Cr]; omega
theorem Ov {l : List Entry} (h : ∀ e ∈ l, e.count ≠ 0) : l.length ≤ Cr l := by
 induction l with
 | nil => exact Nat.le_refl _
 | cons e l ih =>
   have h1 := ih fun x hx => h x (by simp [hx])
   have h2 := h e (by simp)
   simp only [Cr, List.length_cons]; omega
theorem VZ {l : List Entry} {n : Nat} (h : ∀ e ∈ l, e.count.natAbs ≤ n) : Cr l ≤ n * l.length := by
 induction l with
 | nil => exact Nat.zero_le _
 | cons e l ih =>
   have h1 := ih fun x hx => h x (by simp [hx])
   have h2 := h e (by simp)
   simp only [Cr, List.length_cons, Nat.mul_add]; omega
def wS (f : List Val → Int) : List Entry → Int
 | [] => 0
 | e :: l => e.count * f e.row + wS f l
def az (r s : List Val) : Int := if Ak s r = 0 then 1 else 0
structure Tiny (n w : Nat) (b : List Entry) : Prop where
 v : Al b = true
 w : ∀ e ∈ b, e.row.length = w
 s : Cr b ≤ n
theorem Tiny.cl {n w : Nat} {b : List Entry} (h : Tiny n w b) : ∀ e ∈ b, AI e.row := fun e he => BD ((AZ h.v).2 e he).1
theorem V0 {l : List Entry} {n w : Nat} (hr : ∀ e ∈ l, AQ e.row = true) (hw : ∀ e ∈ l, e.row.length = w) (hs : Cr l ≤ n) (hn : n ≤ 4096) : Tiny n w (sortE l) ∧ ∀ e ∈ sortE l, e.count.natAbs ≤ 4096 := by
 obtain ⟨h1, _⟩ := CJ l fun e he => BD (hr e he)
 have h2 := Kf l
 have h3 : ∀ e ∈ sortE l, e.count.natAbs ≤ 4096 := fun e he => by have := Ut he; omega
 have h4 := Ov h1.nz
 refine ⟨⟨?_, fun e he => ?_, by omega⟩, h3⟩
 ·rw [Al, LE (fun e he => ?_) h1.up (by simp), Bool.and_true]
  ·simp only [decide_eq_true_eq]; omega
  ·obtain ⟨x, hx, q⟩ := HX l e he
   have a1 := hr x hx
   rw [q] at a1
   have a2 := h1.nz e he
   have a3 := h3 e he
   simp only [Entry.ok, a1, Az, Bool.true_and, Bool.and_eq_true, decide_eq_true_eq]
   omega
 ·obtain ⟨x, hx, q⟩ := HX l e he
  rw [← q]; exact hw x hx
theorem PC (l : List Entry) : l.map (sc 1) = l := by
 conv => rhs; rw [← List.map_id l]
 refine List.map_congr_left fun e _ => ?_
 show (⟨e.row, 1 * e.count⟩ : Entry) = e
 rw [Int.one_mul]
structure TinV (n : Nat) (b : List Entry) : Prop where
 v : Al b = true
 s : Cr b ≤ n
theorem TinV.cl {n : Nat} {b : List Entry} (h : TinV n b) : ∀ e ∈ b, AI e.row := fun e he => BD ((AZ h.v).2 e he).1
end Go.Proofs.YtmpgmjlanngkfaaGreat
end
section
namespace Go.Proofs.YtmpgmjlanngkfaaGreat
open Go.Abs Go.RowKit
attribute [local irreducible] ARun At MCall PCall HCall Am SF CF CFs Ah Aj Ar fin AW VLe
set_option linter.unusedSimpArgs false
set_option maxRecDepth 100000
set_option maxHeartbeats 4000000
def AG (l : List Entry) : Bool := Al l && l.all (fun e => decide (0 ≤ e.count))
theorem Ea (l : List Entry) : PCall Tryz.prog 87 [.one (Ap l)] (.v (.one (.lit (.bool (AG l))))) := by
 have hvc := BX l
 cases hb : Al l with
 | false =>
   rw [hb] at hvc
   have he : AG l = false := by simp [AG, hb]
   rw [he]
   refine Ac hT Tryz.func87 Tryz.ntmps87 [.tmp 2] fun B => ?_
   repeat' (first | refine kz ?_ | refine ki ?_ | refine Aa (hvc) ?_ | refine kf ?_ | fail)
   all_goals rfl
 | true =>
   rw [hb] at hvc
   have he : AG l = l.all (fun e => decide (0 ≤ e.count)) := by simp [AG, hb]
   obtain ⟨hl, hm⟩ := AZ hb
   rw [he]
   refine Ac hT Tryz.func87 Tryz.ntmps87 [.tmp 2] fun B => ?_
   repeat' (first | refine kz ?_ | refine ki ?_ | refine Aa (hvc) ?_ | refine kf ?_ | fail)
   refine AO (X := Nat) [2, 4, 10, 11, 12, 13, 14, 15, 16, 17] (fun x => x ≤ l.length ∧ (l.take x).all (fun e => decide (0 ≤ e.count)) = true) (fun x lz => (10, (.c (.d (.lit (.int .i64 x))))) :: lz) (fun x => []) (fun x => l.length - x) (0) ?_ ?_ ?_ ?_
   repeat' (first | exact k0 | refine kw ?_ | omega)
   ·exact ⟨by simp, by simp⟩
   rintro i c ⟨hi, hinv⟩
   by_cases hlt : i < l.length
   ·have hv : l[i]? = some l[i] := List.getElem?_eq_getElem hlt
    generalize l[i] = e at hv
    by_cases hr : e.count < 0
    ·rw [DP (fun e : Entry => decide (0 ≤ e.count)) hv (by simpa using hr)]
     repeat' (first | refine kz ?_ | refine kx hv ?_ | refine ki ?_ | refine kf ?_ | fail)
     all_goals rfl
    ·repeat' (first | refine kz ?_ | refine kx hv ?_ | refine ki ?_ | refine kf ?_ | fail)
     (apply Ae (i + 1); all_goals (try dsimp only); all_goals (try (repeat' (first | exact k0 | refine kw ?_ | omega))))
     exact ⟨by omega, Cw (fun e : Entry => decide (0 ≤ e.count)) hv hinv (by simp; omega)⟩
   ·rw [Ag (by omega)] at hinv
    rw [hinv]
    repeat' (first | refine kz ?_ | refine ki ?_ | refine kf ?_ | fail)
    all_goals rfl
theorem EC (l : List Entry) : PCall Tryz.prog 132 [.one (Ap l)] (.v (.one (.lit (.bool (AG l))))) := by
 have hvc := BL l
 refine Ac hT Tryz.func132 Tryz.ntmps132 [.tmp 2] fun B => ?_
 refine fsq 0 rfl fun hll => ?_
 simp only [List.length_map, maxLen] at hll
 repeat' (first | refine kz ?_ | refine ki ?_ | refine kf ?_ | fail)
 refine AO (X := Nat) [2, 3, 4, 5, 6, 7, 8, 9, 10, 11, 12, 13, 14, 15] (fun x => x ≤ l.length ∧ (l.take x).all (fun e => decide (0 ≤ e.count)) = true) (fun x lz => (3, (.c (.d (.lit (.int .i64 x))))) :: lz) (fun x => []) (fun x => l.length - x) (0) ?_ ?_ ?_ ?_
 repeat' (first | exact k0 | refine kw ?_ | omega)
 ·exact ⟨by simp, by simp⟩
 rintro i c ⟨hi, hinv⟩
 by_cases hlt : i < l.length
 ·have hv : l[i]? = some l[i] := List.getElem?_eq_getElem hlt
  generalize l[i] = e at hv
  by_cases hr : e.count < 0
  ·rw [AG, DP (fun e : Entry => decide (0 ≤ e.count)) hv (by simpa using hr), Bool.and_false]
   repeat' (first | refine kz ?_ | refine kx hv ?_ | refine ki ?_ | refine kf ?_ | fail)
   all_goals rfl
  ·repeat' (first | refine kz ?_ | refine kx hv ?_ | refine ki ?_ | refine kf ?_ | fail)
   (apply Ae (i + 1); all_goals (try dsimp only); all_goals (try (repeat' (first | exact k0 | refine kw ?_ | omega))))
   exact ⟨by omega, Cw (fun e : Entry => decide (0 ≤ e.count)) hv hinv (by simp; omega)⟩
 ·rw [Ag (by omega)] at hinv
  rw [AG, hinv, Bool.and_true]
  repeat' (first | refine kz ?_ | refine ki ?_ | refine Aa (hvc) ?_ | refine kf ?_ | fail)
  all_goals rfl
structure Vw where
 name : ByteArray
 kind : Int
 left : ByteArray
 right : ByteArray
 on : List (Int × Int)
 wher : List Trm
 items : List Itm
 distinct : Bool
 aggs : List Agg
def Vw.d (v : Vw) : List Dat := [.lit (.string v.name), .lit (.int .i64 v.kind), .lit (.string v.left), .lit (.string v.right), RX v.on, AK v.wher, IU v.items, .lit (.bool v.distinct), QD v.aggs]
def B0 (v : Vw) : Bool := v.right.toList == (⟨#[]⟩ : ByteArray).toList
def Dv (v : Vw) : Bool := !B0 v || decide (v.kind = 2)
def Fs (v : Vw) : Bool := decide (v.kind = 0) || decide (v.kind = 1) || decide (v.kind = 2)
def B1 (v : Vw) (l r : List Entry) : Bool := Fs v && (AG l && (!Dv v || AG r))
def EW (b c : List Entry) : List Entry × Int := if (B3 1 b c).2 = 0 ∧ AG (B3 1 b c).1 = true then ((B3 1 b c).1, 0) else ([], 1)
def Ed (v : Vw) (l r dl dr : List Entry) : List Entry × List Entry × Int :=
 if (EW l dl).2 = 0 ∧ Dv v = true then ((EW l dl).1, (EW r dr).1, (EW r dr).2) else ((EW l dl).1, [], (EW l dl).2)
def Hd (J : List Entry → List Entry → List (Int × Int) → List Entry × Int) (v : Vw) (l r : List Entry) : List Entry × Int :=
 if B0 v = true then (l, 0) else J l r v.on
theorem F8 {v : Vw} (h : B0 v = true) : (v.right.toList == (⟨#[]⟩ : ByteArray).toList) = true := h
theorem F9 {v : Vw} (h : B0 v = false) : (v.right.toList == (⟨#[]⟩ : ByteArray).toList) = false := h
theorem IS (v : Vw) : PCall Tryz.prog 88 [.agg v.d] (.v (.one (.lit (.bool (Dv v))))) := by
 cases hr : B0 v
 ·rw [show Dv v = true by simp [Dv, hr]]
  have h1 := F9 hr
  have h2 : (!(v.right.toList == (⟨#[]⟩ : ByteArray).toList)) = true := by rw [h1]; rfl
  refine Ac hT Tryz.func88 Tryz.ntmps88 [.tmp 2] fun B => ?_
  repeat' (first | refine kz ?_ | refine kf ?_ | fail)
  all_goals rfl
 ·rw [show Dv v = decide (v.kind = 2) by simp [Dv, hr]]
  have h1 := F8 hr
  have h2 : (!(v.right.toList == (⟨#[]⟩ : ByteArray).toList)) = false := by rw [h1]; rfl
  refine Ac hT Tryz.func88 Tryz.ntmps88 [.tmp 2] fun B => ?_
  repeat' (first | refine kz ?_ | refine kf ?_ | fail)
  all_goals rfl
theorem IT (v : Vw) (l r : List Entry) : PCall Tryz.prog 40 [.agg v.d, .one (Ap l), .one (Ap r)] (.v (.one (.lit (.bool (B1 v l r))))) := by
 have hu := IS v
 have hl := Ea l
 have hq := Ea r
 unfold B1
 by_cases hk : Fs v = true
 ·rw [hk, Bool.true_and]
  have hk3 : v.kind = 0 ∨ v.kind = 1 ∨ v.kind = 2 := by simpa [Fs, or_assoc] using hk
  generalize Dv v = u at hu ⊢
  generalize AG l = pl at hl ⊢
  generalize AG r = pr at hq ⊢
  obtain h0 | h0 | h0 := hk3
  all_goals
   cases pl <;> cases u <;> cases pr
  all_goals
   (refine Ac hT Tryz.func40 Tryz.ntmps40 [.tmp 6] fun B => ?_
    repeat' (first | refine kz ?_ | refine Aa (hl) ?_ | refine Aa (hu) ?_ | refine Aa (hq) ?_ | refine kf ?_ | fail))
  all_goals rfl
 ·have hk3 : ¬ (v.kind = 0) ∧ ¬ (v.kind = 1) ∧ ¬ (v.kind = 2) := by simpa [Fs, not_or, and_assoc] using hk
  rw [show Fs v = false by simpa using hk, Bool.false_and]
  obtain ⟨h0, h1, h2⟩ := hk3
  refine Ac hT Tryz.func40 Tryz.ntmps40 [.tmp 6] fun B => ?_
  repeat' (first | refine kz ?_ | refine kf ?_ | fail)
  all_goals rfl
theorem OA (b c : List Entry) : PCall Tryz.prog 149 [.one (Ap b), .one (Ap c)] (Bw (EW b c)) := by
 have ha := Sa b c
 have hp := Ea (B3 1 b c).1
 unfold EW
 generalize B3 1 b c = s at ha hp ⊢
 obtain ⟨s, e⟩ := s
 dsimp only at ha hp ⊢
 by_cases he : e = 0
 ·subst he
  cases h : AG s
  ·rw [h] at hp
   rw [if_neg (by simp)]
   refine Ac hT Tryz.func149 Tryz.ntmps149 [.tmp 4, .tmp 5] fun B => ?_
   repeat' (first | refine kz ?_ | refine Aa (ha) ?_ | refine Aa (hp) ?_ | refine kf ?_ | refine kg ?_ ?_ | fail)
   all_goals rfl
  ·rw [h] at hp
   rw [if_pos ⟨rfl, rfl⟩]
   refine Ac hT Tryz.func149 Tryz.ntmps149 [.tmp 4, .tmp 5] fun B => ?_
   repeat' (first | refine kz ?_ | refine Aa (ha) ?_ | refine Aa (hp) ?_ | refine kf ?_ | refine kg ?_ ?_ | fail)
   all_goals rfl
 ·rw [if_neg fun h => he h.1]
  refine Ac hT Tryz.func149 Tryz.ntmps149 [.tmp 4, .tmp 5] fun B => ?_
  repeat' (first | refine kz ?_ | refine Aa (ha) ?_ | refine Aa (hp) ?_ | refine kf ?_ | refine kg ?_ ?_ | fail)
  all_goals rfl
theorem Iu (v : Vw) (l r dl dr : List Entry) : PCall Tryz.prog 93 [.agg v.d, .one (Ap l), .one (Ap r), .one (Ap dl), .one (Ap dr)] (.tup [.one (Ap (Ed v l r dl dr).1), .one (Ap (Ed v l r dl dr).2.1), .one (.lit (.int .i64 (Ed v l r dl dr).2.2))]) := by
 have hl := OA l dl
 have hr := OA r dr
 have hu := IS v
 unfold Ed
 generalize EW l dl = x at hl ⊢
 generalize EW r dr = y at hr ⊢
 obtain ⟨x, e⟩ := x
 dsimp only [Bw] at hl hr ⊢
 by_cases he : e = 0
 ·subst he
  cases h : Dv v
  ·rw [h] at hu
   rw [if_neg (by simp)]
   refine Ac hT Tryz.func93 Tryz.ntmps93 [.tmp 10, .tmp 11, .tmp 12] fun B => ?_
   repeat' (first | refine kz ?_ | refine Aa (hl) ?_ | refine Aa (hu) ?_ | refine Aa (hr) ?_ | refine kf ?_ | refine GU Af ?_ ?_ ?_)
   all_goals rfl
  ·rw [h] at hu
   rw [if_pos ⟨rfl, rfl⟩]
   refine Ac hT Tryz.func93 Tryz.ntmps93 [.tmp 10, .tmp 11, .tmp 12] fun B => ?_
   repeat' (first | refine kz ?_ | refine Aa (hl) ?_ | refine Aa (hu) ?_ | refine Aa (hr) ?_ | refine kf ?_ | refine GU Af ?_ ?_ ?_)
   all_goals rfl
 ·rw [if_neg fun h => he h.1]
  refine Ac hT Tryz.func93 Tryz.ntmps93 [.tmp 10, .tmp 11, .tmp 12] fun B => ?_
  repeat' (first | refine kz ?_ | refine Aa (hl) ?_ | refine Aa (hu) ?_ | refine Aa (hr) ?_ | refine kf ?_ | refine GU Af ?_ ?_ ?_)
  all_goals rfl
theorem GD (J : List Entry → List Entry → List (Int × Int) → List Entry × Int) (v : Vw) (l r : List Entry) (hj : B0 v = false → PCall Tryz.prog 89 [.one (Ap l), .one (Ap r), .one (RX v.on)] (Bw (J l r v.on))) : PCall Tryz.prog 41 [.agg v.d, .one (Ap l), .one (Ap r)] (Bw (Hd J v l r)) := by
 unfold Hd
 cases h : B0 v
 ·have h1 := F9 h
  have hj := hj h
  rw [if_neg (by simp)]
  generalize J l r v.on = x at hj ⊢
  dsimp only [Bw] at hj ⊢
  refine Ac hT Tryz.func41 Tryz.ntmps41 [.tmp 6, .tmp 7] fun B => ?_
  repeat' (first | refine kz ?_ | refine Aa (hj) ?_ | refine kg ?_ ?_ | refine kf ?_ | fail)
  all_goals rfl
 ·have h1 := F8 h
  rw [if_pos rfl]
  refine Ac hT Tryz.func41 Tryz.ntmps41 [.tmp 6, .tmp 7] fun B => ?_
  repeat' (first | refine kz ?_ | refine kg ?_ ?_ | refine kf ?_ | fail)
  all_goals rfl
end Go.Proofs.YtmpgmjlanngkfaaGreat
end
