/-
  The tape's views over sources of three and two columns.
-/
import Derived.Test.YtmpgmjlanngkfaaGreatAgm
import Derived.Test.YtmpgmjlanngkfaaGreatSpe
import Derived.Test.YtmpgmjlanngkfaaGreatJoj
import Derived.Test.YtmpgmjlanngkfaaGreatRek
import Derived.Test.YtmpgmjlanngkfaaGreatRej
import Derived.Test.YtmpgmjlanngkfaaGreatArz
section
namespace Go.Proofs.YtmpgmjlanngkfaaGreat
open Go.Abs Go.RowKit
attribute [local irreducible] ARun Av MCall PCall HCall Ap SF CF CFs Ag Ai As fin AY VLe
set_option linter.unusedSimpArgs false
set_option maxRecDepth 100000
set_option maxHeartbeats 4000000
theorem Ou (s : ByteArray) (hs : s.size ≤ 100) (n : Nat) (hn : n < 10) : PC 50 [.one (.lit (.string s)), .one (.lit (.int .i64 n))] (.v (.one (.lit (.string (s ++ (⟨#[UInt8.ofNat (48 + n)]⟩ : ByteArray)))))) := by
 have h1 : (⟨#[UInt8.ofNat (48 + n)]⟩ : ByteArray).size = 1 := rfl
 have j6 : [[Dat.lit (.int .u8 (IntKind.u8.wrap (IntKind.i64.wrap (48 + (n : Int).tmod 10))))]] = [UInt8.ofNat (48 + n)].map OA := by
  have hc : n = 0 ∨ n = 1 ∨ n = 2 ∨ n = 3 ∨ n = 4 ∨ n = 5 ∨ n = 6 ∨ n = 7 ∨ n = 8 ∨ n = 9 := by omega
  rcases hc with rfl | rfl | rfl | rfl | rfl | rfl | rfl | rfl | rfl | rfl <;> rfl
 refine Ac hT Tryz.func50 Tryz.ntmps50 [.tmp 4] fun B => ?_
 repeat' first | refine I8 (l := [UInt8.ofNat (48 + n)]) ?_ (j6 := j6) | (refine We (b := (⟨#[UInt8.ofNat (48 + n)]⟩ : ByteArray)) ?_ (hv := .add (by simp only [maxLen]; omega))) | refine kz ?_ | refine Bg Ad ?_ | refine Bq ?_
 all_goals rfl
theorem Tj (t : Tape) (n m : Nat) (ht : t.ok) (hn : n ≤ 3) (h1 : 1 ≤ m) (hm : m ≤ 1000) : ∃ (l : List Itm) (t' : Tape), t'.ok ∧ l.length ≤ n ∧ (∀ x ∈ l, x.expr.length ≤ 16) ∧ HC 21 [.c (.bp 0 0 0), (iC (n : Int)), (iC (m : Int))] [(tB t)] (.c (.d (J8 l))) [(tB t')] := by
 obtain ⟨w, t1, jv, hw, n1⟩ := A5 t (n + 1) ht (by omega) (by omega)
 rw [show ((n + 1 : Nat) : Int) = (n : Int) + 1 by omega] at n1
 have pk : ∀ k : Nat, k ≤ w → ∃ (f : Nat → Itm) (ts : Nat → Tape), ts 0 = t1 ∧ (ts k).ok ∧ ∀ i, i < k → ∃ (z : Nat) (t2 : Tape), (z < 2 ∧ (f i).expr.length ≤ 16) ∧ (f i).name = (⟨#[107]⟩ : ByteArray) ++ (⟨#[UInt8.ofNat (48 + i)]⟩ : ByteArray) ∧ HC 30 [.c (.bp 0 0 0), .c (.d (.lit (.int .i64 2)))] [(tB ((ts i)))] (iC z) [(tB t2)] ∧ HC 31 [.c (.bp 0 0 0), (iC ((z + 1 : Nat) : Int)), (iC (m : Int))] [(tB t2)] (.c (.d (AW (f i).expr))) [(.box 0 [.d (Ds ((ts (i + 1))).l), .d (.lit (.int .i64 ((ts (i + 1))).at_))])] := by
  intro k
  induction k with
  | zero => intro _; exact ⟨fun _ => ⟨⟨#[]⟩, []⟩, fun _ => t1, rfl, jv, fun i hi => by omega⟩
  | succ k ih =>
    intro hk
    obtain ⟨f, ts, e0, qj, hf⟩ := ih (by omega)
    obtain ⟨z, t2, jr, hz, n2⟩ := A5 (ts k) 2 qj (by omega) (by omega)
    obtain ⟨e, t3, kl, jo, c3⟩ := Im m h1 hm (z + 1) t2 jr (by omega)
    have jo : e.length ≤ 16 := LX jo (Nat.pow_le_pow_right (show 0 < 4 by omega) (show z + 1 ≤ 2 by omega))
    refine ⟨fun i => if i = k then ⟨(⟨#[107]⟩ : ByteArray) ++ (⟨#[UInt8.ofNat (48 + k)]⟩ : ByteArray), e⟩ else f i, fun i => if i = k + 1 then t3 else ts i, by simp [e0], by simp [kl], fun i hi => ?_⟩
    by_cases kF : i = k
    · subst kF
      refine ⟨z, t2, ⟨hz, by simpa using jo⟩, by simp, ?_, ?_⟩
      · simp only [show ¬ i = i + 1 by omega, if_false]; exact n2
      · simp only [if_true]; exact c3
    · have := hf i (by omega)
      simp only [if_neg kF, show ¬ i = k + 1 by omega, show ¬ i + 1 = k + 1 by omega, if_false]
      exact this
 obtain ⟨f, ts, e0, sx, hf⟩ := pk w (Nat.le_refl _)
 clear pk
 refine ⟨(List.range w).map f, ts w, sx, by simp; omega, fun x hx => ?_, ?_⟩
 ·obtain ⟨i, hi, rfl⟩ := List.mem_map.1 hx
  obtain ⟨_, _, ⟨_, h⟩, _⟩ := hf i (XX.1 hi)
  exact h
 rw [← e0] at n1
 refine Au hT Tryz.func21 Tryz.ntmps21 [.tmp 6] fun B => ?_
 repeat' first | refine kz ?_ | refine Ae [0] (n1) ?_ | refine kg ?_ ?_ | exact k0 | refine Ab ?_ | refine m1 ?_ ?_
 refine Bv 7 86 2 ?_
 refine AK (X := Nat × Nat × Tape) ([7, 8] ++ List.range' 13 17) (fun x => x.1 ≤ w ∧ x.2.2 = ts x.1) (fun x lz => (7, .c (.arr 1 x.2.1 x.1)) :: (8, (iC ((w - x.1 : Nat) : Int))) :: lz) (fun x => [(tB x.2.2), .arr x.2.1 86 2 (((List.range x.1).map f).map Itm.d)]) (fun x => w - x.1) ((0, 2, ts 0)) ?_ ?_ ?_ ?_
 repeat' first | exact k0 | refine kw ?_ | refine kv ?_ ?_ | omega
 all_goals try (first | rfl | exact ⟨Nat.zero_le _, rfl⟩)
 rintro ⟨i, v, T'⟩ c ⟨hi, kI⟩
 dsimp only at hi kI ⊢
 by_cases i7 : i < w
 ·obtain ⟨z, t2, ⟨hz, _⟩, lV, n2, c3⟩ := hf i i7
  have od := Ou (⟨#[107]⟩ : ByteArray) (by decide) i (by omega)
  rw [← lV] at od
  rw [← kI] at n2
  rw [show ((z + 1 : Nat) : Int) = 1 + (z : Int) by omega] at c3
  have hs : ((List.range i).map f).map Itm.d ++ [[Dat.lit (.string (f i).name), AW (f i).expr]] = ((List.range (i + 1)).map f).map Itm.d := by rw [aY]; simp [Itm.d]
  have jM : (((List.range i).map f).map Itm.d).length = i := by simp
  generalize f i = y at hs od c3
  clear hf lV kI
  generalize ((List.range i).map f).map Itm.d = A at hs jM ⊢
  generalize hq : ts (i + 1) = T2 at c3
  repeat' first | refine kz ?_ | refine Aa (od) ?_ | refine Ae [0] (n2) ?_ | refine Ae [0] (c3) ?_ | refine kg ?_ ?_ | exact k0 | refine Ab ?_ | refine m1 ?_ ?_
  apply Af ((i + 1, _, T2)) <;> (try dsimp only) <;> try repeat' first | exact k0 | refine w1 ?_ | refine Ab ?_ | refine m1 ?_ ?_ | omega
  all_goals first
    | exact ⟨by omega, hq.symm⟩
    | (rw [Ah (by omega)]; exact hs)
    | skip
 ·obtain rfl : i = w := by omega
  rw [kI]
  clear hf
  repeat' first | (refine Ax (r := 1) (m := i) (lH := ((List.range i).map f).map Itm.d) 7 ?_ (hl := by simp) (j6 := Ah (by rw [BR, BR, List.length_range]; exact Nat.le_refl _))) | refine kz ?_ | refine AO Ad ?_ ?_ | exact k0 | refine Ab ?_ | refine m1 ?_ ?_
  all_goals rfl
theorem R5 (m : Nat) (h1 : 1 ≤ m) (hm : m ≤ 1000) (t1 : Tape) (jv : t1.ok) : ∀ k : Nat, ∃ (f : Nat → Agg) (ts : Nat → Tape), ts 0 = t1 ∧ (ts k).ok ∧ ∀ i, i < k → ∃ (z : Nat) (t2 : Tape), z < 5 ∧ (f i).name = (⟨#[97]⟩ : ByteArray) ++ (⟨#[UInt8.ofNat (48 + i)]⟩ : ByteArray) ∧ (f i).func = z ∧ HC 30 [.c (.bp 0 0 0), .c (.d (.lit (.int .i64 5)))] [(tB ((ts i)))] (iC z) [(tB t2)] ∧
   ((z = 0 ∧ (f i).expr = [] ∧ ts (i + 1) = t2) ∨ (z ≠ 0 ∧ ∃ (q : Nat) (t3 : Tape), q < 2 ∧ HC 30 [.c (.bp 0 0 0), .c (.d (.lit (.int .i64 2)))] [(tB t2)] (iC q) [(tB t3)] ∧ HC 31 [.c (.bp 0 0 0), (iC ((q + 1 : Nat) : Int)), (iC (m : Int))] [(tB t3)] (.c (.d (AW (f i).expr))) [(.box 0 [.d (Ds ((ts (i + 1))).l), .d (.lit (.int .i64 ((ts (i + 1))).at_))])])) := by
 intro k
 induction k with
 | zero => exact ⟨fun _ => ⟨⟨#[]⟩, 0, []⟩, fun _ => t1, rfl, jv, fun i hi => by omega⟩
 | succ k ih =>
   obtain ⟨f, ts, e0, qj, hf⟩ := ih
   obtain ⟨z, t2, jr, hz, n2⟩ := A5 (ts k) 5 qj (by omega) (by omega)
   obtain ⟨q, t3, kl, hq, n3⟩ := A5 t2 2 jr (by omega) (by omega)
   obtain ⟨e, t4, rF, _, c4⟩ := Im m h1 hm (q + 1) t3 kl (by omega)
   refine ⟨fun i => if i = k then ⟨(⟨#[97]⟩ : ByteArray) ++ (⟨#[UInt8.ofNat (48 + k)]⟩ : ByteArray), z, if z = 0 then [] else e⟩ else f i, fun i => if i = k + 1 then (if z = 0 then t2 else t4) else ts i, by simp [e0], ?_, fun i hi => ?_⟩
   · simp only [if_true]; split
     ·exact jr
     ·exact rF
   · by_cases kF : i = k
     ·subst kF
      refine ⟨z, t2, hz, by simp, by simp, ?_, ?_⟩
      ·simp only [show ¬ i = i + 1 by omega, if_false]; exact n2
      ·by_cases lY : z = 0
       ·exact .inl ⟨lY, by simp [lY], by simp [lY]⟩
       ·refine .inr ⟨lY, q, t3, hq, n3, ?_⟩
        simp only [if_true, if_neg lY]; exact c4
     ·have := hf i (by omega)
      simp only [if_neg kF, show ¬ i = k + 1 by omega, show ¬ i + 1 = k + 1 by omega, if_false]
      exact this
theorem cQ (t : Tape) (n m : Nat) (ht : t.ok) (hn : n ≤ 3) (h1 : 1 ≤ m) (hm : m ≤ 1000) : ∃ (l : List Agg) (t' : Tape), t'.ok ∧ l.length ≤ n ∧ (∀ x ∈ l, 0 ≤ x.func ∧ x.func ≤ 4) ∧ HC 23 [.c (.bp 0 0 0), (iC (n : Int)), (iC (m : Int))] [(tB t)] (.c (.d (Tz l))) [(tB t')] := by
 obtain ⟨w, t1, jv, hw, n1⟩ := A5 t (n + 1) ht (by omega) (by omega)
 rw [show ((n + 1 : Nat) : Int) = (n : Int) + 1 by omega] at n1
 obtain ⟨f, ts, e0, sx, hf⟩ := R5 m h1 hm t1 jv w
 refine ⟨(List.range w).map f, ts w, sx, by simp; omega, fun x hx => ?_, ?_⟩
 ·obtain ⟨i, hi, rfl⟩ := List.mem_map.1 hx
  obtain ⟨z, _, hz, _, mS, _⟩ := hf i (XX.1 hi)
  rw [mS]; omega
 rw [← e0] at n1
 refine Au hT Tryz.func23 Tryz.ntmps23 [.tmp 6] fun B => ?_
 repeat' first | refine kz ?_ | refine Ae [0] (n1) ?_ | refine kg ?_ ?_ | exact k0 | refine Ab ?_ | refine m1 ?_ ?_
 refine Bv 7 49 3 ?_
 refine AK (X := Nat × Nat × Tape) ([7, 8, 9] ++ List.range' 14 24) (fun x => x.1 ≤ w ∧ x.2.2 = ts x.1) (fun x lz => (7, .c (.arr 1 x.2.1 x.1)) :: (8, (iC ((w - x.1 : Nat) : Int))) :: lz) (fun x => [(tB x.2.2), .arr x.2.1 49 3 (((List.range x.1).map f).map Agg.d)]) (fun x => w - x.1) ((0, 2, ts 0)) ?_ ?_ ?_ ?_
 repeat' first | exact k0 | refine kw ?_ | refine kv ?_ ?_ | omega
 all_goals try (first | rfl | exact ⟨Nat.zero_le _, rfl⟩)
 rintro ⟨i, v, T'⟩ c ⟨hi, kI⟩
 dsimp only at hi kI ⊢
 by_cases i7 : i < w
 ·obtain ⟨z, t2, hz, lV, mS, n2, oe⟩ := hf i i7
  have od := Ou (⟨#[97]⟩ : ByteArray) (by decide) i (by omega)
  rw [← lV] at od
  rw [← kI] at n2
  rw [← mS] at n2
  have hs : ((List.range i).map f).map Agg.d ++ [[Dat.lit (.string (f i).name), Dat.lit (.int .i64 (f i).func), AW (f i).expr]] = ((List.range (i + 1)).map f).map Agg.d := by rw [aY]; simp [Agg.d]
  have jM : (((List.range i).map f).map Agg.d).length = i := by simp
  generalize f i = y at hs od n2 oe mS
  clear hf lV kI
  generalize ((List.range i).map f).map Agg.d = A at hs jM ⊢
  generalize hq : ts (i + 1) = T2 at oe
  obtain ⟨name, func, expr⟩ := y
  dsimp only at hs od n2 oe mS
  rcases oe with ⟨lY, hex, rfl⟩ | ⟨lY, q, t3, kU, n3, c3⟩
  ·have x7 : func = 0 := by omega
   subst hex
   subst x7
   repeat' first | refine kz ?_ | refine Aa (od) ?_ | refine Ae [0] (n2) ?_ | refine kg ?_ ?_ | exact k0 | refine Ab ?_ | refine m1 ?_ ?_
   apply Af ((i + 1, _, T2)) <;> (try dsimp only) <;> try repeat' first | exact k0 | refine w1 ?_ | refine Ab ?_ | refine m1 ?_ ?_ | omega
   all_goals first
    | exact ⟨by omega, hq.symm⟩
    | (rw [Ah (by omega)]; exact hs)
    | skip
  ·have x7 : func ≠ 0 := by omega
   rw [show ((q + 1 : Nat) : Int) = 1 + (q : Int) by omega] at c3
   repeat' first | refine kz ?_ | refine Aa (od) ?_ | refine Ae [0] (n2) ?_ | refine Ae [0] (n3) ?_ | refine Ae [0] (c3) ?_ | refine kg ?_ ?_ | exact k0 | refine Ab ?_ | refine m1 ?_ ?_
   apply Af ((i + 1, _, T2)) <;> (try dsimp only) <;> try repeat' first | exact k0 | refine w1 ?_ | refine Ab ?_ | refine m1 ?_ ?_ | omega
   all_goals first
    | exact ⟨by omega, hq.symm⟩
    | (rw [Ah (by omega)]; exact hs)
    | skip
 ·obtain rfl : i = w := by omega
  rw [kI]
  clear hf
  repeat' first | (refine Ax (r := 1) (m := i) (lH := ((List.range i).map f).map Agg.d) 7 ?_ (hl := by simp) (j6 := Ah (by rw [BR, BR, List.length_range]; exact Nat.le_refl _))) | refine kz ?_ | refine AO Ad ?_ ?_ | exact k0 | refine Ab ?_ | refine m1 ?_ ?_
  all_goals rfl
def iO (x : Agg) : Agg := if x.func = 0 then x else ⟨x.name, 1, x.expr⟩
def Ym (p : Int × Int) : List Dat := [.lit (.int .i64 p.1), .lit (.int .i64 p.2)]
structure Vw.ok (v : Vw) : Prop where
 kind : v.kind = 0 ∨ v.kind = 1 ∨ v.kind = 2
 items : v.items.length ≤ 3
 aggs : v.aggs.length ≤ 3
 fits : v.items.length + v.aggs.length ≤ 8
 func : ∀ x ∈ v.aggs, 0 ≤ x.func ∧ x.func ≤ 4
 onl : v.on.length ≤ 2
 cols : ∀ p ∈ v.on, 0 ≤ p.1 ∧ p.1 < 3 ∧ 0 ≤ p.2 ∧ p.2 < 2
 exprs : ∀ x ∈ v.items, x.expr.length ≤ 16
theorem IA {cs jq : List Cell} (h : CLes cs jq) : AM (.agg cs) (.agg jq) := h
theorem O4 (n : Nat) (h1 : 1 ≤ n) (hn : n ≤ 1000) (k : Int) (hk : k = 0 ∨ k = 1) (t : Tape) (ht : t.ok) : ∃ (e : List Trm) (ks : List Itm) (d : Bool) (ag : List Agg) (t' : Tape), t'.ok ∧ (ks.length ≤ 3 ∧ ∀ x ∈ ks, x.expr.length ≤ 16) ∧ ag.length ≤ 3 ∧ (∀ x ∈ ag, 0 ≤ x.func ∧ x.func ≤ 4) ∧ ∃ (w : Nat) (t1 t2 : Tape),
  HC 30 [.c (.bp 0 0 0), .c (.d (.lit (.int .i64 2)))] [(tB t)] (iC w) [(tB t1)] ∧
  ((w = 0 ∧ HC 31 [.c (.bp 0 0 0), (iC 3), (iC (n : Int))] [(tB t1)] (.c (.d (AW e))) [(tB t2)]) ∨ (w ≠ 0 ∧ e = [] ∧ t2 = t1)) ∧
  ((k = 0 ∧ ag = [] ∧ ∃ (z : Nat) (t3 : Tape), d = ((z : Int) == 0) ∧ HC 21 [.c (.bp 0 0 0), (iC 3), (iC (n : Int))] [(tB t2)] (.c (.d (J8 ks))) [(tB t3)] ∧ HC 30 [.c (.bp 0 0 0), .c (.d (.lit (.int .i64 3)))] [(tB t3)] (iC z) [(tB t')]) ∨
   (k = 1 ∧ d = false ∧ ∃ t3 : Tape, HC 21 [.c (.bp 0 0 0), (iC 2), (iC (n : Int))] [(tB t2)] (.c (.d (J8 ks))) [(tB t3)] ∧ HC 23 [.c (.bp 0 0 0), (iC 3), (iC (n : Int))] [(tB t3)] (.c (.d (Tz ag))) [(tB t')])) := by
 obtain ⟨w, t1, jv, hw, n1⟩ := A5 t 2 ht (by omega) (by omega)
 have he : ∃ (e : List Trm) (t2 : Tape), t2.ok ∧ ((w = 0 ∧ HC 31 [.c (.bp 0 0 0), (iC 3), (iC (n : Int))] [(tB t1)] (.c (.d (AW e))) [(tB t2)]) ∨ (w ≠ 0 ∧ e = [] ∧ t2 = t1)) := by
  by_cases h0 : w = 0
  · obtain ⟨e, t2, jr, _, c2⟩ := Im n h1 hn 3 t1 jv (by omega)
    exact ⟨e, t2, jr, .inl ⟨h0, c2⟩⟩
  · exact ⟨[], t1, jv, .inr ⟨h0, rfl, rfl⟩⟩
 obtain ⟨e, t2, jr, he⟩ := he
 rcases hk with rfl | rfl
 ·obtain ⟨ks, t3, kl, lk, lx, c3⟩ := Tj t2 3 n jr (by omega) h1 hn
  obtain ⟨z, t4, rF, _, n4⟩ := A5 t3 3 kl (by omega) (by omega)
  exact ⟨e, ks, _, [], t4, rF, ⟨lk, lx⟩, by simp, (fun x hx => by cases hx), w, t1, t2, n1, he, .inl ⟨rfl, rfl, z, t3, rfl, c3, n4⟩⟩
 ·obtain ⟨ks, t3, kl, lk, lx, c3⟩ := Tj t2 2 n jr (by omega) h1 hn
  obtain ⟨ag, t4, rF, la, fa, c4⟩ := cQ t3 3 n kl (by omega) h1 hn
  exact ⟨e, ks, false, ag, t4, rF, ⟨by omega, lx⟩, la, fa, w, t1, t2, n1, he, .inr ⟨rfl, rfl, t3, c3, c4⟩⟩
theorem bF (t : Tape) (ht : t.ok) : ∀ m : Nat, ∃ (f : Nat → Int × Int) (ts : Nat → Tape), ts 0 = t ∧ (ts m).ok ∧ (∀ i, i < m → 0 ≤ (f i).1 ∧ (f i).1 < 3 ∧ 0 ≤ (f i).2 ∧ (f i).2 < 2) ∧ ∀ i, i < m → ∃ t2 : Tape,
   HC 30 [.c (.bp 0 0 0), .c (.d (.lit (.int .i64 3)))] [(tB ((ts i)))] (iC ((f i).1)) [(tB t2)] ∧ HC 30 [.c (.bp 0 0 0), .c (.d (.lit (.int .i64 2)))] [(tB t2)] (iC ((f i).2)) [(.box 0 [.d (Ds ((ts (i + 1))).l), .d (.lit (.int .i64 ((ts (i + 1))).at_))])] := by
 intro m
 induction m with
 | zero => exact ⟨fun _ => (0, 0), fun _ => t, rfl, ht, fun i hi => by omega, fun i hi => by omega⟩
 | succ m ih =>
   obtain ⟨f, ts, e0, sy, hb, hf⟩ := ih
   obtain ⟨p, t2, jr, hp, n2⟩ := A5 (ts m) 3 sy (by omega) (by omega)
   obtain ⟨q, t3, kl, hq, n3⟩ := A5 t2 2 jr (by omega) (by omega)
   refine ⟨fun i => if i = m then ((p : Int), (q : Int)) else f i, fun i => if i = m + 1 then t3 else ts i, by simp [e0], by simp [kl], fun i hi => ?_, fun i hi => ?_⟩
   ·by_cases kF : i = m
    ·subst kF; simp only [if_true]; omega
    ·simp only [kF, if_false]; exact hb i (by omega)
   ·by_cases kF : i = m
    ·subst kF
     refine ⟨t2, ?_, ?_⟩
     ·simp only [show ¬ i = i + 1 by omega, if_false, if_true]; exact n2
     ·simp only [if_true]; exact n3
    ·have := hf i (by omega)
     simp only [kF, show ¬ i = m + 1 by omega, show ¬ i + 1 = m + 1 by omega, if_false]
     exact this
theorem TN (t : Tape) (ht : t.ok) : ∃ (v : Vw) (t' : Tape), t'.ok ∧ v.ok ∧ HC 10 [.c (.bp 0 0 0), (iC 3), (iC 2)] [(tB t)] (.agg (v.d.map .d)) [(tB t')] := by
 obtain ⟨z, t1, jv, hz, n1⟩ := A5 t 6 ht (by omega) (by omega)
 obtain ⟨k, hk, nZ⟩ : ∃ k : Int, (k = 0 ∨ k = 1 ∨ k = 2) ∧ ([[.lit (.int .i64 0)], [.lit (.int .i64 0)], [.lit (.int .i64 0)], [.lit (.int .i64 1)], [.lit (.int .i64 1)], [.lit (.int .i64 2)]] : List (List Dat))[z]? = some [.lit (.int .i64 k)] := by
  match z, hz with
  | 0, _ => exact ⟨_, .inl rfl, rfl⟩
  | 1, _ => exact ⟨_, .inl rfl, rfl⟩
  | 2, _ => exact ⟨_, .inl rfl, rfl⟩
  | 3, _ => exact ⟨_, .inr (.inl rfl), rfl⟩
  | 4, _ => exact ⟨_, .inr (.inl rfl), rfl⟩
  | 5, _ => exact ⟨_, .inr (.inr rfl), rfl⟩
  | z + 6, h => omega
 by_cases h2 : k = 2
 ·subst h2
  refine ⟨⟨⟨#[]⟩, 2, ⟨#[]⟩, ⟨#[114]⟩, [], [], [], false, []⟩, t1, jv, ⟨.inr (.inr rfl), by simp, by simp, by simp, (fun x hx => by cases hx), by simp, (fun x hx => by cases hx), fun x hx => by cases hx⟩, ?_⟩
  refine Au hT Tryz.func10 Tryz.ntmps10 [.cell 6 30] fun B => ?_
  repeat' first | refine Go.Abs.ks ?_ | refine ko ?_ | refine AF nZ ?_ | refine Ao ?_ | refine Ae [0] (n1) ?_ | refine CM Ad ?_ ?_ | (refine IA ?_; (repeat' (first | exact trivial | refine And.intro (Or.inl rfl) ?_ | refine And.intro (Or.inr ⟨_, rfl, rfl⟩) ?_))) | exact k0 | refine Ab ?_ | refine m1 ?_ ?_
  all_goals rfl
 have nO : k = 0 ∨ k = 1 := by omega
 obtain ⟨q, t2, jr, hq, n2⟩ := A5 t1 2 jv (by omega) (by omega)
 by_cases hb : q = 0
 ·obtain ⟨m, t3, kl, hm, n3⟩ := A5 t2 3 jr (by omega) (by omega)
  obtain ⟨f, ts, e0, sy, lC, hf⟩ := bF t3 kl m
  rw [← e0] at n3
  obtain ⟨e, ks, d, ag, t', nP, ⟨lk, lx⟩, la, fa, w, t4, t5, n4, hw, hd⟩ := O4 5 (by omega) (by omega) k nO (ts m) sy
  refine ⟨⟨⟨#[]⟩, k, ⟨#[]⟩, ⟨#[114]⟩, (List.range m).map f, e, ks, d, ag⟩, t', nP, ⟨hk, lk, la, by dsimp only; omega, fa, by simp; omega, fun p hp => ?_, lx⟩, ?_⟩
  · obtain ⟨i, hi, rfl⟩ := List.mem_map.1 hp
    exact lC i (XX.1 hi)
  refine Au hT Tryz.func10 Tryz.ntmps10 [.cell 6 30] fun B => ?_
  repeat' first | refine Go.Abs.ks ?_ | refine ko ?_ | refine AF nZ ?_ | refine Ao ?_ | refine Ae [0] (n1) ?_ | refine Ae [0] (n2) ?_ | refine Ae [0] (n3) ?_ | exact k0 | refine Ab ?_ | refine m1 ?_ ?_
  refine IH 2 4 66 2 ?_
  refine AK (X := Nat × Nat × Tape) ([9] ++ List.range' 31 16) (fun x => x.1 ≤ m ∧ x.2.2 = ts x.1) (fun x lz => (9, (iC ((m - x.1 : Nat) : Int))) :: lz) (fun x => [(tB x.2.2), .box 1 [.d (.lit (.string ⟨#[]⟩)), .d (.lit (.int .i64 0)), .d (.lit (.string ⟨#[]⟩)), .d (.lit (.string ⟨#[]⟩)), .emp, .emp, .emp, .d (.lit (.bool false)), .emp], .box 3 [.d (.lit (.string ⟨#[]⟩)), .d (.lit (.int .i64 k)), .d (.lit (.string ⟨#[]⟩)), .d (.lit (.string ⟨#[114]⟩)), .arr 3 x.2.1 x.1, .emp, .emp, .d (.lit (.bool false)), .emp], .arr x.2.1 66 2 (((List.range x.1).map f).map Ym)]) (fun x => m - x.1) ((0, 6, ts 0)) ?_ ?_ ?_ ?_
  repeat' first | exact k0 | refine kw ?_ | refine kv ?_ ?_ | omega
  all_goals try (first | rfl | exact ⟨Nat.zero_le _, rfl⟩)
  rintro ⟨i, v, T'⟩ c ⟨hi, kI⟩
  dsimp only at hi kI ⊢
  by_cases i7 : i < m
  · obtain ⟨t6, n6, n7⟩ := hf i i7
    have hs : ((List.range i).map f).map Ym ++ [[.lit (.int .i64 (f i).1), .lit (.int .i64 (f i).2)]] = ((List.range (i + 1)).map f).map Ym := by rw [aY]; simp [Ym]
    have jM : (((List.range i).map f).map Ym).length = i := by simp
    rw [← kI] at n6
    clear hf lC hd hw n4
    generalize (f i).1 = p1 at hs n6
    generalize (f i).2 = p2 at hs n7
    generalize ((List.range i).map f).map Ym = A at hs jM ⊢
    generalize hZ : ((List.range (i + 1)).map f).map Ym = Z at hs
    generalize kU : ts (i + 1) = T2 at n7
    refine SZ 3 fun hr => ?_
    refine F2 ?_
    repeat' first | refine D0 (dr := true) ?_ | refine D1 (dr := true) ?_ | refine El (dr := true) 0 n6 ?_ | refine El (dr := true) 0 n7 ?_ | refine Cc (dr := true) ?_ | (refine GZ (dr := true) (ei := Zu) (k := v) (es := A) (ys := [[.lit (.int .i64 p1), .lit (.int .i64 p2)]]) (ji := Z) 3 (c + 1) (j := i) (m := i + 1) ?_ (by omega) (by omega) (by omega) rfl (by simp only [maxLen]; omega) (by simp only [Zu]; omega) (AI rfl Bc) (by rw [Ah (by omega)]; exact hs)) | refine Go.Abs.ks ?_ | refine ko ?_ | refine Ao ?_ | refine Ls ?_ | exact k0 | refine Ab ?_ | refine m1 ?_ ?_
    apply Af ((i + 1, c + 1, T2)) <;> (try dsimp only) <;> try repeat' first | exact k0 | refine kw ?_ | refine kv ?_ ?_ | omega
    all_goals first
      | exact ⟨by omega, kU.symm⟩
      | exact hZ.symm
      | skip
  · obtain rfl : i = m := by omega
    have jM : (((List.range i).map f).map Ym).length = i := by simp
    rw [kI]
    clear hf lC
    refine Ht 2 4 3 (lH := ((List.range i).map f).map Ym) ?_ rfl rfl rfl (by omega) (Ah (by omega)) rfl
    rcases hw with ⟨rfl, c5⟩ | ⟨ow, rfl, rfl⟩ <;> rcases hd with ⟨rfl, rfl, z3, t6, rfl, c6, c7⟩ | ⟨rfl, rfl, t6, c6, c7⟩
    all_goals
      (repeat' (first | refine Go.Abs.ks ?_ | refine ko ?_ | refine Ao ?_ | refine Ae [0] (n4) ?_ | refine Ae [0] (c5) ?_ | refine Ae [0] (c6) ?_ | refine Ae [0] (c7) ?_ | refine CM Ad ?_ ?_ | (refine IA ?_; (repeat' (first | exact trivial | refine And.intro (Or.inl rfl) ?_ | refine And.intro (Or.inr ⟨_, rfl, rfl⟩) ?_))) | exact k0 | refine Ab ?_ | refine m1 ?_ ?_))
    all_goals rfl
 ·obtain ⟨e, ks, d, ag, t', nP, ⟨lk, lx⟩, la, fa, w, t4, t5, n4, hw, hd⟩ := O4 3 (by omega) (by omega) k nO t2 jr
  refine ⟨⟨⟨#[]⟩, k, ⟨#[]⟩, ⟨#[]⟩, [], e, ks, d, ag⟩, t', nP, ⟨hk, lk, la, by dsimp only; omega, fa, by simp, (fun p hp => by cases hp), lx⟩, ?_⟩
  rcases hw with ⟨rfl, c5⟩ | ⟨ow, rfl, rfl⟩ <;> rcases hd with ⟨rfl, rfl, z3, t6, rfl, c6, c7⟩ | ⟨rfl, rfl, t6, c6, c7⟩
  all_goals
    (refine Au hT Tryz.func10 Tryz.ntmps10 [.cell 6 30] fun B => ?_
     repeat' (first | refine Go.Abs.ks ?_ | refine ko ?_ | refine AF nZ ?_ | refine Ao ?_ | refine Ae [0] (n1) ?_ | refine Ae [0] (n2) ?_ | refine Ae [0] (n4) ?_ | refine Ae [0] (c5) ?_ | refine Ae [0] (c6) ?_ | refine Ae [0] (c7) ?_ | refine CM Ad ?_ ?_ | (refine IA ?_; (repeat' (first | exact trivial | refine And.intro (Or.inl rfl) ?_ | refine And.intro (Or.inr ⟨_, rfl, rfl⟩) ?_))) | exact k0 | refine Ab ?_ | refine m1 ?_ ?_))
  all_goals rfl
end Go.Proofs.YtmpgmjlanngkfaaGreat
end
