/-
  The tape's views over sources of three and two columns.
-/
import Derived.Test.YtmpgmjlanngkfaaGreatRgd
import Derived.Test.YtmpgmjlanngkfaaGreatSpe
import Derived.Test.YtmpgmjlanngkfaaGreatVew
import Derived.Test.YtmpgmjlanngkfaaGreatRej
import Derived.Test.YtmpgmjlanngkfaaGreatArw
section
namespace Go.Proofs.YtmpgmjlanngkfaaGreat
open Go.Abs Go.RowKit
attribute [local irreducible] ARun At MCall PCall HCall Am SF CF CFs Ah Aj Ar fin AW VLe
set_option linter.unusedSimpArgs false
set_option maxRecDepth 100000
set_option maxHeartbeats 4000000
theorem Me (s : ByteArray) (hs : s.size ≤ 100) (n : Nat) (hn : n < 10) : PCall Tryz.prog 50 [.one (.lit (.string s)), .one (.lit (.int .i64 n))] (.v (.one (.lit (.string (s ++ (⟨#[UInt8.ofNat (48 + n)]⟩ : ByteArray)))))) := by
 have h1 : (⟨#[UInt8.ofNat (48 + n)]⟩ : ByteArray).size = 1 := rfl
 have hes : [[Dat.lit (.int .u8 (IntKind.u8.wrap (IntKind.i64.wrap (48 + (n : Int).tmod 10))))]] = [UInt8.ofNat (48 + n)].map Mg := by
  have hc : n = 0 ∨ n = 1 ∨ n = 2 ∨ n = 3 ∨ n = 4 ∨ n = 5 ∨ n = 6 ∨ n = 7 ∨ n = 8 ∨ n = 9 := by omega
  rcases hc with rfl | rfl | rfl | rfl | rfl | rfl | rfl | rfl | rfl | rfl <;> rfl
 refine Ac hT Tryz.func50 Tryz.ntmps50 [.tmp 4] fun B => ?_
 repeat' (first | refine HZ (l := [UInt8.ofNat (48 + n)]) ?_ (hes := hes) | (refine S3 (b := (⟨#[UInt8.ofNat (48 + n)]⟩ : ByteArray)) ?_ (hv := .add (by simp only [maxLen]; omega))) | refine kz ?_ | refine A4 Af ?_ | refine Bo ?_)
 all_goals rfl
theorem Qy (t : Tape) (n m : Nat) (ht : t.ok) (hn : n ≤ 3) (h1 : 1 ≤ m) (hm : m ≤ 1000) : ∃ (l : List Itm) (t' : Tape), t'.ok ∧ l.length ≤ n ∧ (∀ x ∈ l, x.expr.length ≤ 16) ∧ HCall Tryz.prog 21 [.c (.bp 0 0 0), (.c (.d (.lit (.int .i64 (n : Int))))), (.c (.d (.lit (.int .i64 (m : Int)))))] [(.box 0 [.d (Ax (t).l), .d (.lit (.int .i64 (t).at_))])] (.c (.d (IU l))) [(.box 0 [.d (Ax (t').l), .d (.lit (.int .i64 (t').at_))])] := by
 obtain ⟨w, t1, ok1, hw, n1⟩ := AV t (n + 1) ht (by omega) (by omega)
 rw [show ((n + 1 : Nat) : Int) = (n : Int) + 1 by omega] at n1
 have hits : ∀ k : Nat, k ≤ w → ∃ (f : Nat → Itm) (ts : Nat → Tape), ts 0 = t1 ∧ (ts k).ok ∧ ∀ i, i < k → ∃ (z : Nat) (t2 : Tape), (z < 2 ∧ (f i).expr.length ≤ 16) ∧ (f i).name = (⟨#[107]⟩ : ByteArray) ++ (⟨#[UInt8.ofNat (48 + i)]⟩ : ByteArray) ∧ HCall Tryz.prog 30 [.c (.bp 0 0 0), .c (.d (.lit (.int .i64 2)))] [(.box 0 [.d (Ax ((ts i)).l), .d (.lit (.int .i64 ((ts i)).at_))])] (.c (.d (.lit (.int .i64 z)))) [(.box 0 [.d (Ax (t2).l), .d (.lit (.int .i64 (t2).at_))])] ∧ HCall Tryz.prog 31 [.c (.bp 0 0 0), (.c (.d (.lit (.int .i64 ((z + 1 : Nat) : Int))))), (.c (.d (.lit (.int .i64 (m : Int)))))] [(.box 0 [.d (Ax (t2).l), .d (.lit (.int .i64 (t2).at_))])] (.c (.d (AK (f i).expr))) [(.box 0 [.d (Ax ((ts (i + 1))).l), .d (.lit (.int .i64 ((ts (i + 1))).at_))])] := by
  intro k
  induction k with
  | zero => intro _; exact ⟨fun _ => ⟨⟨#[]⟩, []⟩, fun _ => t1, rfl, ok1, fun i hi => by omega⟩
  | succ k ih =>
    intro hk
    obtain ⟨f, ts, e0, okk, hf⟩ := ih (by omega)
    obtain ⟨z, t2, ok2, hz, n2⟩ := AV (ts k) 2 okk (by omega) (by omega)
    obtain ⟨e, t3, ok3, hel, c3⟩ := Hb m h1 hm (z + 1) t2 ok2 (by omega)
    have hel : e.length ≤ 16 := Nat.le_trans hel (Nat.pow_le_pow_right (show 0 < 4 by omega) (show z + 1 ≤ 2 by omega))
    refine ⟨fun i => if i = k then ⟨(⟨#[107]⟩ : ByteArray) ++ (⟨#[UInt8.ofNat (48 + k)]⟩ : ByteArray), e⟩ else f i, fun i => if i = k + 1 then t3 else ts i, by simp [e0], by simp [ok3], fun i hi => ?_⟩
    by_cases him : i = k
    · subst him
      refine ⟨z, t2, ⟨hz, by simpa using hel⟩, by simp, ?_, ?_⟩
      · simp only [show ¬ i = i + 1 by omega, if_false]; exact n2
      · simp only [if_true]; exact c3
    · have := hf i (by omega)
      simp only [if_neg him, show ¬ i = k + 1 by omega, show ¬ i + 1 = k + 1 by omega, if_false]
      exact this
 obtain ⟨f, ts, e0, okw, hf⟩ := hits w (Nat.le_refl _)
 clear hits
 refine ⟨(List.range w).map f, ts w, okw, by simp; omega, fun x hx => ?_, ?_⟩
 ·obtain ⟨i, hi, rfl⟩ := List.mem_map.1 hx
  obtain ⟨_, _, ⟨_, h⟩, _⟩ := hf i (List.mem_range.1 hi)
  exact h
 rw [← e0] at n1
 refine As hT Tryz.func21 Tryz.ntmps21 [.tmp 6] fun B => ?_
 repeat' (first | refine kz ?_ | refine Ad [0] (n1) ?_ | refine kg ?_ ?_ | exact k0 | refine Ab ?_ | refine m1 ?_ ?_)
 refine BA 7 86 2 ?_
 refine AO (X := Nat × Nat × Tape) [7, 8, 13, 14, 15, 16, 17, 18, 19, 20, 21, 22, 23, 24, 25, 26, 27, 28, 29] (fun x => x.1 ≤ w ∧ x.2.2 = ts x.1) (fun x lz => (7, .c (.arr 1 x.2.1 x.1)) :: (8, (.c (.d (.lit (.int .i64 ((w - x.1 : Nat) : Int)))))) :: lz) (fun x => [(.box 0 [.d (Ax (x.2.2).l), .d (.lit (.int .i64 (x.2.2).at_))]), .arr x.2.1 86 2 (((List.range x.1).map f).map Itm.d)]) (fun x => w - x.1) ((0, 2, ts 0)) ?_ ?_ ?_ ?_
 repeat' (first | exact k0 | refine kw ?_ | refine kv ?_ ?_ | omega)
 all_goals try (first | rfl | exact ⟨Nat.zero_le _, rfl⟩)
 rintro ⟨i, v, T'⟩ c ⟨hi, hT'⟩
 dsimp only at hi hT' ⊢
 by_cases hlt : i < w
 ·obtain ⟨z, t2, ⟨hz, _⟩, hnm, n2, c3⟩ := hf i hlt
  have hdg := Me (⟨#[107]⟩ : ByteArray) (by decide) i (by omega)
  rw [← hnm] at hdg
  rw [← hT'] at n2
  rw [show ((z + 1 : Nat) : Int) = 1 + (z : Int) by omega] at c3
  have hs : ((List.range i).map f).map Itm.d ++ [[Dat.lit (.string (f i).name), AK (f i).expr]] = ((List.range (i + 1)).map f).map Itm.d := by rw [List.range_succ]; simp [Itm.d]
  have hal : (((List.range i).map f).map Itm.d).length = i := by simp
  generalize f i = y at hs hdg c3
  clear hf hnm hT'
  generalize ((List.range i).map f).map Itm.d = A at hs hal ⊢
  generalize hq : ts (i + 1) = T2 at c3
  repeat' (first | refine kz ?_ | refine Aa (hdg) ?_ | refine Ad [0] (n2) ?_ | refine Ad [0] (c3) ?_ | refine kg ?_ ?_ | exact k0 | refine Ab ?_ | refine m1 ?_ ?_)
  (apply Ae ((i + 1, _, T2)); all_goals (try dsimp only); all_goals (try (repeat' (first | exact k0 | refine w1 ?_ | refine Ab ?_ | refine m1 ?_ ?_ | omega))))
  all_goals first
    | exact ⟨by omega, hq.symm⟩
    | (rw [Ag (by omega)]; exact hs)
    | skip
 ·obtain rfl : i = w := by omega
  rw [hT']
  clear hf
  repeat' (first | (refine Aw (r := 1) (m := i) (es1 := ((List.range i).map f).map Itm.d) 7 ?_ (hl := by simp) (hes := Ag (by rw [List.length_map, List.length_map, List.length_range]; exact Nat.le_refl _))) | refine kz ?_ | refine AX Af ?_ ?_ | exact k0 | refine Ab ?_ | refine m1 ?_ ?_)
  all_goals rfl
theorem Py (m : Nat) (h1 : 1 ≤ m) (hm : m ≤ 1000) (t1 : Tape) (ok1 : t1.ok) : ∀ k : Nat, ∃ (f : Nat → Agg) (ts : Nat → Tape), ts 0 = t1 ∧ (ts k).ok ∧ ∀ i, i < k → ∃ (z : Nat) (t2 : Tape), z < 5 ∧ (f i).name = (⟨#[97]⟩ : ByteArray) ++ (⟨#[UInt8.ofNat (48 + i)]⟩ : ByteArray) ∧ (f i).func = z ∧ HCall Tryz.prog 30 [.c (.bp 0 0 0), .c (.d (.lit (.int .i64 5)))] [(.box 0 [.d (Ax ((ts i)).l), .d (.lit (.int .i64 ((ts i)).at_))])] (.c (.d (.lit (.int .i64 z)))) [(.box 0 [.d (Ax (t2).l), .d (.lit (.int .i64 (t2).at_))])] ∧
   ((z = 0 ∧ (f i).expr = [] ∧ ts (i + 1) = t2) ∨ (z ≠ 0 ∧ ∃ (q : Nat) (t3 : Tape), q < 2 ∧ HCall Tryz.prog 30 [.c (.bp 0 0 0), .c (.d (.lit (.int .i64 2)))] [(.box 0 [.d (Ax (t2).l), .d (.lit (.int .i64 (t2).at_))])] (.c (.d (.lit (.int .i64 q)))) [(.box 0 [.d (Ax (t3).l), .d (.lit (.int .i64 (t3).at_))])] ∧ HCall Tryz.prog 31 [.c (.bp 0 0 0), (.c (.d (.lit (.int .i64 ((q + 1 : Nat) : Int))))), (.c (.d (.lit (.int .i64 (m : Int)))))] [(.box 0 [.d (Ax (t3).l), .d (.lit (.int .i64 (t3).at_))])] (.c (.d (AK (f i).expr))) [(.box 0 [.d (Ax ((ts (i + 1))).l), .d (.lit (.int .i64 ((ts (i + 1))).at_))])])) := by
 intro k
 induction k with
 | zero => exact ⟨fun _ => ⟨⟨#[]⟩, 0, []⟩, fun _ => t1, rfl, ok1, fun i hi => by omega⟩
 | succ k ih =>
   obtain ⟨f, ts, e0, okk, hf⟩ := ih
   obtain ⟨z, t2, ok2, hz, n2⟩ := AV (ts k) 5 okk (by omega) (by omega)
   obtain ⟨q, t3, ok3, hq, n3⟩ := AV t2 2 ok2 (by omega) (by omega)
   obtain ⟨e, t4, ok4, _, c4⟩ := Hb m h1 hm (q + 1) t3 ok3 (by omega)
   refine ⟨fun i => if i = k then ⟨(⟨#[97]⟩ : ByteArray) ++ (⟨#[UInt8.ofNat (48 + k)]⟩ : ByteArray), z, if z = 0 then [] else e⟩ else f i, fun i => if i = k + 1 then (if z = 0 then t2 else t4) else ts i, by simp [e0], ?_, fun i hi => ?_⟩
   · simp only [if_true]; split
     ·exact ok2
     ·exact ok4
   · by_cases him : i = k
     ·subst him
      refine ⟨z, t2, hz, by simp, by simp, ?_, ?_⟩
      ·simp only [show ¬ i = i + 1 by omega, if_false]; exact n2
      ·by_cases hz0 : z = 0
       ·exact .inl ⟨hz0, by simp [hz0], by simp [hz0]⟩
       ·refine .inr ⟨hz0, q, t3, hq, n3, ?_⟩
        simp only [if_true, if_neg hz0]; exact c4
     ·have := hf i (by omega)
      simp only [if_neg him, show ¬ i = k + 1 by omega, show ¬ i + 1 = k + 1 by omega, if_false]
      exact this
theorem Yd (t : Tape) (n m : Nat) (ht : t.ok) (hn : n ≤ 3) (h1 : 1 ≤ m) (hm : m ≤ 1000) : ∃ (l : List Agg) (t' : Tape), t'.ok ∧ l.length ≤ n ∧ (∀ x ∈ l, 0 ≤ x.func ∧ x.func ≤ 4) ∧ HCall Tryz.prog 23 [.c (.bp 0 0 0), (.c (.d (.lit (.int .i64 (n : Int))))), (.c (.d (.lit (.int .i64 (m : Int)))))] [(.box 0 [.d (Ax (t).l), .d (.lit (.int .i64 (t).at_))])] (.c (.d (QD l))) [(.box 0 [.d (Ax (t').l), .d (.lit (.int .i64 (t').at_))])] := by
 obtain ⟨w, t1, ok1, hw, n1⟩ := AV t (n + 1) ht (by omega) (by omega)
 rw [show ((n + 1 : Nat) : Int) = (n : Int) + 1 by omega] at n1
 obtain ⟨f, ts, e0, okw, hf⟩ := Py m h1 hm t1 ok1 w
 refine ⟨(List.range w).map f, ts w, okw, by simp; omega, fun x hx => ?_, ?_⟩
 ·obtain ⟨i, hi, rfl⟩ := List.mem_map.1 hx
  obtain ⟨z, _, hz, _, hfn, _⟩ := hf i (List.mem_range.1 hi)
  rw [hfn]; omega
 rw [← e0] at n1
 refine As hT Tryz.func23 Tryz.ntmps23 [.tmp 6] fun B => ?_
 repeat' (first | refine kz ?_ | refine Ad [0] (n1) ?_ | refine kg ?_ ?_ | exact k0 | refine Ab ?_ | refine m1 ?_ ?_)
 refine BA 7 49 3 ?_
 refine AO (X := Nat × Nat × Tape) [7, 8, 9, 14, 15, 16, 17, 18, 19, 20, 21, 22, 23, 24, 25, 26, 27, 28, 29, 30, 31, 32, 33, 34, 35, 36, 37] (fun x => x.1 ≤ w ∧ x.2.2 = ts x.1) (fun x lz => (7, .c (.arr 1 x.2.1 x.1)) :: (8, (.c (.d (.lit (.int .i64 ((w - x.1 : Nat) : Int)))))) :: lz) (fun x => [(.box 0 [.d (Ax (x.2.2).l), .d (.lit (.int .i64 (x.2.2).at_))]), .arr x.2.1 49 3 (((List.range x.1).map f).map Agg.d)]) (fun x => w - x.1) ((0, 2, ts 0)) ?_ ?_ ?_ ?_
 repeat' (first | exact k0 | refine kw ?_ | refine kv ?_ ?_ | omega)
 all_goals try (first | rfl | exact ⟨Nat.zero_le _, rfl⟩)
 rintro ⟨i, v, T'⟩ c ⟨hi, hT'⟩
 dsimp only at hi hT' ⊢
 by_cases hlt : i < w
 ·obtain ⟨z, t2, hz, hnm, hfn, n2, hrest⟩ := hf i hlt
  have hdg := Me (⟨#[97]⟩ : ByteArray) (by decide) i (by omega)
  rw [← hnm] at hdg
  rw [← hT'] at n2
  rw [← hfn] at n2
  have hs : ((List.range i).map f).map Agg.d ++ [[Dat.lit (.string (f i).name), Dat.lit (.int .i64 (f i).func), AK (f i).expr]] = ((List.range (i + 1)).map f).map Agg.d := by rw [List.range_succ]; simp [Agg.d]
  have hal : (((List.range i).map f).map Agg.d).length = i := by simp
  generalize f i = y at hs hdg n2 hrest hfn
  clear hf hnm hT'
  generalize ((List.range i).map f).map Agg.d = A at hs hal ⊢
  generalize hq : ts (i + 1) = T2 at hrest
  obtain ⟨name, func, expr⟩ := y
  dsimp only at hs hdg n2 hrest hfn
  rcases hrest with ⟨hz0, hex, rfl⟩ | ⟨hz0, q, t3, hq2, n3, c3⟩
  ·have hf0 : func = 0 := by omega
   subst hex
   subst hf0
   repeat' (first | refine kz ?_ | refine Aa (hdg) ?_ | refine Ad [0] (n2) ?_ | refine kg ?_ ?_ | exact k0 | refine Ab ?_ | refine m1 ?_ ?_)
   (apply Ae ((i + 1, _, T2)); all_goals (try dsimp only); all_goals (try (repeat' (first | exact k0 | refine w1 ?_ | refine Ab ?_ | refine m1 ?_ ?_ | omega))))
   all_goals first
     | exact ⟨by omega, hq.symm⟩
     | (rw [Ag (by omega)]; exact hs)
     | skip
  ·have hf0 : func ≠ 0 := by omega
   rw [show ((q + 1 : Nat) : Int) = 1 + (q : Int) by omega] at c3
   repeat' (first | refine kz ?_ | refine Aa (hdg) ?_ | refine Ad [0] (n2) ?_ | refine Ad [0] (n3) ?_ | refine Ad [0] (c3) ?_ | refine kg ?_ ?_ | exact k0 | refine Ab ?_ | refine m1 ?_ ?_)
   (apply Ae ((i + 1, _, T2)); all_goals (try dsimp only); all_goals (try (repeat' (first | exact k0 | refine w1 ?_ | refine Ab ?_ | refine m1 ?_ ?_ | omega))))
   all_goals first
     | exact ⟨by omega, hq.symm⟩
     | (rw [Ag (by omega)]; exact hs)
     | skip
 ·obtain rfl : i = w := by omega
  rw [hT']
  clear hf
  repeat' (first | (refine Aw (r := 1) (m := i) (es1 := ((List.range i).map f).map Agg.d) 7 ?_ (hl := by simp) (hes := Ag (by rw [List.length_map, List.length_map, List.length_range]; exact Nat.le_refl _))) | refine kz ?_ | refine AX Af ?_ ?_ | exact k0 | refine Ab ?_ | refine m1 ?_ ?_)
  all_goals rfl
def ay (x : Agg) : Agg := if x.func = 0 then x else ⟨x.name, 1, x.expr⟩
def U1 (p : Int × Int) : List Dat := [.lit (.int .i64 p.1), .lit (.int .i64 p.2)]
structure Vw.ok (v : Vw) : Prop where
 kind : v.kind = 0 ∨ v.kind = 1 ∨ v.kind = 2
 items : v.items.length ≤ 3
 aggs : v.aggs.length ≤ 3
 fits : v.items.length + v.aggs.length ≤ 8
 func : ∀ x ∈ v.aggs, 0 ≤ x.func ∧ x.func ≤ 4
 onl : v.on.length ≤ 2
 cols : ∀ p ∈ v.on, 0 ≤ p.1 ∧ p.1 < 3 ∧ 0 ≤ p.2 ∧ p.2 < 2
 exprs : ∀ x ∈ v.items, x.expr.length ≤ 16
theorem Hm {cs cs' : List Cell} (h : CLes cs cs') : AM (.agg cs) (.agg cs') := h
theorem MJ (n : Nat) (h1 : 1 ≤ n) (hn : n ≤ 1000) (k : Int) (hk : k = 0 ∨ k = 1) (t : Tape) (ht : t.ok) : ∃ (e : List Trm) (ks : List Itm) (d : Bool) (ag : List Agg) (t' : Tape), t'.ok ∧ (ks.length ≤ 3 ∧ ∀ x ∈ ks, x.expr.length ≤ 16) ∧ ag.length ≤ 3 ∧ (∀ x ∈ ag, 0 ≤ x.func ∧ x.func ≤ 4) ∧ ∃ (w : Nat) (t1 t2 : Tape),
  HCall Tryz.prog 30 [.c (.bp 0 0 0), .c (.d (.lit (.int .i64 2)))] [(.box 0 [.d (Ax (t).l), .d (.lit (.int .i64 (t).at_))])] (.c (.d (.lit (.int .i64 w)))) [(.box 0 [.d (Ax (t1).l), .d (.lit (.int .i64 (t1).at_))])] ∧
  ((w = 0 ∧ HCall Tryz.prog 31 [.c (.bp 0 0 0), (.c (.d (.lit (.int .i64 3)))), (.c (.d (.lit (.int .i64 (n : Int)))))] [(.box 0 [.d (Ax (t1).l), .d (.lit (.int .i64 (t1).at_))])] (.c (.d (AK e))) [(.box 0 [.d (Ax (t2).l), .d (.lit (.int .i64 (t2).at_))])]) ∨ (w ≠ 0 ∧ e = [] ∧ t2 = t1)) ∧
  ((k = 0 ∧ ag = [] ∧ ∃ (z : Nat) (t3 : Tape), d = ((z : Int) == 0) ∧ HCall Tryz.prog 21 [.c (.bp 0 0 0), (.c (.d (.lit (.int .i64 3)))), (.c (.d (.lit (.int .i64 (n : Int)))))] [(.box 0 [.d (Ax (t2).l), .d (.lit (.int .i64 (t2).at_))])] (.c (.d (IU ks))) [(.box 0 [.d (Ax (t3).l), .d (.lit (.int .i64 (t3).at_))])] ∧ HCall Tryz.prog 30 [.c (.bp 0 0 0), .c (.d (.lit (.int .i64 3)))] [(.box 0 [.d (Ax (t3).l), .d (.lit (.int .i64 (t3).at_))])] (.c (.d (.lit (.int .i64 z)))) [(.box 0 [.d (Ax (t').l), .d (.lit (.int .i64 (t').at_))])]) ∨
   (k = 1 ∧ d = false ∧ ∃ t3 : Tape, HCall Tryz.prog 21 [.c (.bp 0 0 0), (.c (.d (.lit (.int .i64 2)))), (.c (.d (.lit (.int .i64 (n : Int)))))] [(.box 0 [.d (Ax (t2).l), .d (.lit (.int .i64 (t2).at_))])] (.c (.d (IU ks))) [(.box 0 [.d (Ax (t3).l), .d (.lit (.int .i64 (t3).at_))])] ∧ HCall Tryz.prog 23 [.c (.bp 0 0 0), (.c (.d (.lit (.int .i64 3)))), (.c (.d (.lit (.int .i64 (n : Int)))))] [(.box 0 [.d (Ax (t3).l), .d (.lit (.int .i64 (t3).at_))])] (.c (.d (QD ag))) [(.box 0 [.d (Ax (t').l), .d (.lit (.int .i64 (t').at_))])])) := by
 obtain ⟨w, t1, ok1, hw, n1⟩ := AV t 2 ht (by omega) (by omega)
 have he : ∃ (e : List Trm) (t2 : Tape), t2.ok ∧ ((w = 0 ∧ HCall Tryz.prog 31 [.c (.bp 0 0 0), (.c (.d (.lit (.int .i64 3)))), (.c (.d (.lit (.int .i64 (n : Int)))))] [(.box 0 [.d (Ax (t1).l), .d (.lit (.int .i64 (t1).at_))])] (.c (.d (AK e))) [(.box 0 [.d (Ax (t2).l), .d (.lit (.int .i64 (t2).at_))])]) ∨ (w ≠ 0 ∧ e = [] ∧ t2 = t1)) := by
  by_cases h0 : w = 0
  · obtain ⟨e, t2, ok2, _, c2⟩ := Hb n h1 hn 3 t1 ok1 (by omega)
    exact ⟨e, t2, ok2, .inl ⟨h0, c2⟩⟩
  · exact ⟨[], t1, ok1, .inr ⟨h0, rfl, rfl⟩⟩
 obtain ⟨e, t2, ok2, he⟩ := he
 rcases hk with rfl | rfl
 ·obtain ⟨ks, t3, ok3, lk, lx, c3⟩ := Qy t2 3 n ok2 (by omega) h1 hn
  obtain ⟨z, t4, ok4, _, n4⟩ := AV t3 3 ok3 (by omega) (by omega)
  exact ⟨e, ks, _, [], t4, ok4, ⟨lk, lx⟩, by simp, (fun x hx => by cases hx), w, t1, t2, n1, he, .inl ⟨rfl, rfl, z, t3, rfl, c3, n4⟩⟩
 ·obtain ⟨ks, t3, ok3, lk, lx, c3⟩ := Qy t2 2 n ok2 (by omega) h1 hn
  obtain ⟨ag, t4, ok4, la, fa, c4⟩ := Yd t3 3 n ok3 (by omega) h1 hn
  exact ⟨e, ks, false, ag, t4, ok4, ⟨by omega, lx⟩, la, fa, w, t1, t2, n1, he, .inr ⟨rfl, rfl, t3, c3, c4⟩⟩
theorem Xi (t : Tape) (ht : t.ok) : ∀ m : Nat, ∃ (f : Nat → Int × Int) (ts : Nat → Tape), ts 0 = t ∧ (ts m).ok ∧ (∀ i, i < m → 0 ≤ (f i).1 ∧ (f i).1 < 3 ∧ 0 ≤ (f i).2 ∧ (f i).2 < 2) ∧ ∀ i, i < m → ∃ t2 : Tape,
   HCall Tryz.prog 30 [.c (.bp 0 0 0), .c (.d (.lit (.int .i64 3)))] [(.box 0 [.d (Ax ((ts i)).l), .d (.lit (.int .i64 ((ts i)).at_))])] (.c (.d (.lit (.int .i64 (f i).1)))) [(.box 0 [.d (Ax (t2).l), .d (.lit (.int .i64 (t2).at_))])] ∧ HCall Tryz.prog 30 [.c (.bp 0 0 0), .c (.d (.lit (.int .i64 2)))] [(.box 0 [.d (Ax (t2).l), .d (.lit (.int .i64 (t2).at_))])] (.c (.d (.lit (.int .i64 (f i).2)))) [(.box 0 [.d (Ax ((ts (i + 1))).l), .d (.lit (.int .i64 ((ts (i + 1))).at_))])] := by
 intro m
 induction m with
 | zero => exact ⟨fun _ => (0, 0), fun _ => t, rfl, ht, fun i hi => by omega, fun i hi => by omega⟩
 | succ m ih =>
   obtain ⟨f, ts, e0, okm, hb, hf⟩ := ih
   obtain ⟨p, t2, ok2, hp, n2⟩ := AV (ts m) 3 okm (by omega) (by omega)
   obtain ⟨q, t3, ok3, hq, n3⟩ := AV t2 2 ok2 (by omega) (by omega)
   refine ⟨fun i => if i = m then ((p : Int), (q : Int)) else f i, fun i => if i = m + 1 then t3 else ts i, by simp [e0], by simp [ok3], fun i hi => ?_, fun i hi => ?_⟩
   ·by_cases him : i = m
    ·subst him; simp only [if_true]; omega
    ·simp only [him, if_false]; exact hb i (by omega)
   ·by_cases him : i = m
    ·subst him
     refine ⟨t2, ?_, ?_⟩
     ·simp only [show ¬ i = i + 1 by omega, if_false, if_true]; exact n2
     ·simp only [if_true]; exact n3
    ·have := hf i (by omega)
     simp only [him, show ¬ i = m + 1 by omega, show ¬ i + 1 = m + 1 by omega, if_false]
     exact this
theorem QL (t : Tape) (ht : t.ok) : ∃ (v : Vw) (t' : Tape), t'.ok ∧ v.ok ∧ HCall Tryz.prog 10 [.c (.bp 0 0 0), (.c (.d (.lit (.int .i64 3)))), (.c (.d (.lit (.int .i64 2))))] [(.box 0 [.d (Ax (t).l), .d (.lit (.int .i64 (t).at_))])] (.agg (v.d.map .d)) [(.box 0 [.d (Ax (t').l), .d (.lit (.int .i64 (t').at_))])] := by
 obtain ⟨z, t1, ok1, hz, n1⟩ := AV t 6 ht (by omega) (by omega)
 obtain ⟨k, hk, hkl⟩ : ∃ k : Int, (k = 0 ∨ k = 1 ∨ k = 2) ∧ ([[.lit (.int .i64 0)], [.lit (.int .i64 0)], [.lit (.int .i64 0)], [.lit (.int .i64 1)], [.lit (.int .i64 1)], [.lit (.int .i64 2)]] : List (List Dat))[z]? = some [.lit (.int .i64 k)] := by
  match z, hz with
  | 0, _ => exact ⟨_, .inl rfl, rfl⟩
  | 1, _ => exact ⟨_, .inl rfl, rfl⟩
  | 2, _ => exact ⟨_, .inl rfl, rfl⟩
  | 3, _ => exact ⟨_, .inr (.inl rfl), rfl⟩
  | 4, _ => exact ⟨_, .inr (.inl rfl), rfl⟩
  | 5, _ => exact ⟨_, .inr (.inr rfl), rfl⟩
  | z + 6, h => omega
 by_cases h2 : k = 2
 ·subst h2
  refine ⟨⟨⟨#[]⟩, 2, ⟨#[]⟩, ⟨#[114]⟩, [], [], [], false, []⟩, t1, ok1, ⟨.inr (.inr rfl), by simp, by simp, by simp, (fun x hx => by cases hx), by simp, (fun x hx => by cases hx), fun x hx => by cases hx⟩, ?_⟩
  refine As hT Tryz.func10 Tryz.ntmps10 [.cell 6 30] fun B => ?_
  repeat' (first | refine Go.Abs.ks ?_ | refine ko ?_ | refine kx hkl ?_ | refine ki ?_ | refine Ad [0] (n1) ?_ | refine Cn Af ?_ ?_ | (refine Hm ?_; (repeat' (first | exact trivial | refine And.intro (Or.inl rfl) ?_ | refine And.intro (Or.inr ⟨_, rfl, rfl⟩) ?_))) | exact k0 | refine Ab ?_ | refine m1 ?_ ?_)
  all_goals rfl
 have hk2 : k = 0 ∨ k = 1 := by omega
 obtain ⟨q, t2, ok2, hq, n2⟩ := AV t1 2 ok1 (by omega) (by omega)
 by_cases hb : q = 0
 ·obtain ⟨m, t3, ok3, hm, n3⟩ := AV t2 3 ok2 (by omega) (by omega)
  obtain ⟨f, ts, e0, okm, hb2, hf⟩ := Xi t3 ok3 m
  rw [← e0] at n3
  obtain ⟨e, ks, d, ag, t', ok', ⟨lk, lx⟩, la, fa, w, t4, t5, n4, hw, hd⟩ := MJ 5 (by omega) (by omega) k hk2 (ts m) okm
  refine ⟨⟨⟨#[]⟩, k, ⟨#[]⟩, ⟨#[114]⟩, (List.range m).map f, e, ks, d, ag⟩, t', ok', ⟨hk, lk, la, by dsimp only; omega, fa, by simp; omega, fun p hp => ?_, lx⟩, ?_⟩
  · obtain ⟨i, hi, rfl⟩ := List.mem_map.1 hp
    exact hb2 i (List.mem_range.1 hi)
  refine As hT Tryz.func10 Tryz.ntmps10 [.cell 6 30] fun B => ?_
  repeat' (first | refine Go.Abs.ks ?_ | refine ko ?_ | refine kx hkl ?_ | refine ki ?_ | refine Ad [0] (n1) ?_ | refine Ad [0] (n2) ?_ | refine Ad [0] (n3) ?_ | exact k0 | refine Ab ?_ | refine m1 ?_ ?_)
  refine Ht 2 4 66 2 ?_
  refine AO (X := Nat × Nat × Tape) [9, 31, 32, 33, 34, 35, 36, 37, 38, 39, 40, 41, 42, 43, 44, 45, 46] (fun x => x.1 ≤ m ∧ x.2.2 = ts x.1) (fun x lz => (9, (.c (.d (.lit (.int .i64 ((m - x.1 : Nat) : Int)))))) :: lz) (fun x => [(.box 0 [.d (Ax (x.2.2).l), .d (.lit (.int .i64 (x.2.2).at_))]), .box 1 [.d (.lit (.string ⟨#[]⟩)), .d (.lit (.int .i64 0)), .d (.lit (.string ⟨#[]⟩)), .d (.lit (.string ⟨#[]⟩)), .emp, .emp, .emp, .d (.lit (.bool false)), .emp], .box 3 [.d (.lit (.string ⟨#[]⟩)), .d (.lit (.int .i64 k)), .d (.lit (.string ⟨#[]⟩)), .d (.lit (.string ⟨#[114]⟩)), .arr 3 x.2.1 x.1, .emp, .emp, .d (.lit (.bool false)), .emp], .arr x.2.1 66 2 (((List.range x.1).map f).map U1)]) (fun x => m - x.1) ((0, 6, ts 0)) ?_ ?_ ?_ ?_
  repeat' (first | exact k0 | refine kw ?_ | refine kv ?_ ?_ | omega)
  all_goals try (first | rfl | exact ⟨Nat.zero_le _, rfl⟩)
  rintro ⟨i, v, T'⟩ c ⟨hi, hT'⟩
  dsimp only at hi hT' ⊢
  by_cases hlt : i < m
  · obtain ⟨t6, n6, n7⟩ := hf i hlt
    have hs : ((List.range i).map f).map U1 ++ [[.lit (.int .i64 (f i).1), .lit (.int .i64 (f i).2)]] = ((List.range (i + 1)).map f).map U1 := by rw [List.range_succ]; simp [U1]
    have hal : (((List.range i).map f).map U1).length = i := by simp
    rw [← hT'] at n6
    clear hf hb2 hd hw n4
    generalize (f i).1 = p1 at hs n6
    generalize (f i).2 = p2 at hs n7
    generalize ((List.range i).map f).map U1 = A at hs hal ⊢
    generalize hZ : ((List.range (i + 1)).map f).map U1 = Z at hs
    generalize hq2 : ts (i + 1) = T2 at n7
    refine Wu 3 fun hr => ?_
    refine G0 ?_
    repeat' (first | refine Dq (dr := true) ?_ | refine Dr (dr := true) ?_ | refine E3 (dr := true) 0 n6 ?_ | refine E3 (dr := true) 0 n7 ?_ | refine BS (dr := true) ?_ | (refine Ig (dr := true) (ei := V2) (k := v) (es := A) (ys := [[.lit (.int .i64 p1), .lit (.int .i64 p2)]]) (es' := Z) 3 (c + 1) (j := i) (m := i + 1) ?_ (by omega) (by omega) (by omega) rfl (by simp only [maxLen]; omega) (by simp only [V2]; omega) (AF rfl A1) (by rw [Ag (by omega)]; exact hs)) | refine Go.Abs.ks ?_ | refine ko ?_ | refine ki ?_ | refine NW ?_ | exact k0 | refine Ab ?_ | refine m1 ?_ ?_)
    (apply Ae ((i + 1, c + 1, T2)); all_goals (try dsimp only); all_goals (try (repeat' (first | exact k0 | refine kw ?_ | refine kv ?_ ?_ | omega))))
    all_goals first
      | exact ⟨by omega, hq2.symm⟩
      | exact hZ.symm
      | skip
  · obtain rfl : i = m := by omega
    have hal : (((List.range i).map f).map U1).length = i := by simp
    rw [hT']
    clear hf hb2
    refine Gq 2 4 3 (es1 := ((List.range i).map f).map U1) ?_ rfl rfl rfl (by omega) (Ag (by omega)) rfl
    rcases hw with ⟨rfl, c5⟩ | ⟨hw0, rfl, rfl⟩ <;> rcases hd with ⟨rfl, rfl, z3, t6, rfl, c6, c7⟩ | ⟨rfl, rfl, t6, c6, c7⟩
    all_goals
      (repeat' (first | refine Go.Abs.ks ?_ | refine ko ?_ | refine ki ?_ | refine Ad [0] (n4) ?_ | refine Ad [0] (c5) ?_ | refine Ad [0] (c6) ?_ | refine Ad [0] (c7) ?_ | refine Cn Af ?_ ?_ | (refine Hm ?_; (repeat' (first | exact trivial | refine And.intro (Or.inl rfl) ?_ | refine And.intro (Or.inr ⟨_, rfl, rfl⟩) ?_))) | exact k0 | refine Ab ?_ | refine m1 ?_ ?_))
    all_goals rfl
 ·obtain ⟨e, ks, d, ag, t', ok', ⟨lk, lx⟩, la, fa, w, t4, t5, n4, hw, hd⟩ := MJ 3 (by omega) (by omega) k hk2 t2 ok2
  refine ⟨⟨⟨#[]⟩, k, ⟨#[]⟩, ⟨#[]⟩, [], e, ks, d, ag⟩, t', ok', ⟨hk, lk, la, by dsimp only; omega, fa, by simp, (fun p hp => by cases hp), lx⟩, ?_⟩
  rcases hw with ⟨rfl, c5⟩ | ⟨hw0, rfl, rfl⟩ <;> rcases hd with ⟨rfl, rfl, z3, t6, rfl, c6, c7⟩ | ⟨rfl, rfl, t6, c6, c7⟩
  all_goals
    (refine As hT Tryz.func10 Tryz.ntmps10 [.cell 6 30] fun B => ?_
     repeat' (first | refine Go.Abs.ks ?_ | refine ko ?_ | refine kx hkl ?_ | refine ki ?_ | refine Ad [0] (n1) ?_ | refine Ad [0] (n2) ?_ | refine Ad [0] (n4) ?_ | refine Ad [0] (c5) ?_ | refine Ad [0] (c6) ?_ | refine Ad [0] (c7) ?_ | refine Cn Af ?_ ?_ | (refine Hm ?_; (repeat' (first | exact trivial | refine And.intro (Or.inl rfl) ?_ | refine And.intro (Or.inr ⟨_, rfl, rfl⟩) ?_))) | exact k0 | refine Ab ?_ | refine m1 ?_ ?_))
  all_goals rfl
end Go.Proofs.YtmpgmjlanngkfaaGreat
end
