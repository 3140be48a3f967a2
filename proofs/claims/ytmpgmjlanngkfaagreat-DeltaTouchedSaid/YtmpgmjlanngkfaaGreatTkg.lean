/-
  The tape: Keys, Aggregates, Exacts.
-/
import Derived.Test.YtmpgmjlanngkfaaGreatAgm
import Derived.Test.YtmpgmjlanngkfaaGreatTex
section
namespace Go.Proofs.YtmpgmjlanngkfaaGreat
open Go.Abs Go.RowKit
attribute [local irreducible] ARun Aq MCall PCall HCall Am SF CF CFs Af Al Ap B5 AW VLe
set_option linter.unusedSimpArgs false
set_option maxRecDepth 100000
set_option maxHeartbeats 4000000
theorem Mt (s : ByteArray) (hs : s.size ≤ 100) (n : Nat) (hn : n < 10) : PC 50 [.one (.lit (.string s)), .one (.lit (.int .i64 n))] (.v (.one (.lit (.string (s ++ (⟨#[UInt8.ofNat (48 + n)]⟩ : ByteArray)))))) := by
 have h1 : (⟨#[UInt8.ofNat (48 + n)]⟩ : ByteArray).size = 1 := rfl
 have hes : [[Dat.lit (.int .u8 (IntKind.u8.wrap (IntKind.i64.wrap (48 + (n : Int).tmod 10))))]] = [UInt8.ofNat (48 + n)].map MD := by
  have hc : n = 0 ∨ n = 1 ∨ n = 2 ∨ n = 3 ∨ n = 4 ∨ n = 5 ∨ n = 6 ∨ n = 7 ∨ n = 8 ∨ n = 9 := by omega
  rcases hc with rfl | rfl | rfl | rfl | rfl | rfl | rfl | rfl | rfl | rfl <;> rfl
 refine Ad hT Tryz.func50 Tryz.ntmps50 [.tmp 4] fun B => ?_
 repeat' first | refine H0 (l := [UInt8.ofNat (48 + n)]) ?_ (hes := hes) | (refine SX (b := (⟨#[UInt8.ofNat (48 + n)]⟩ : ByteArray)) ?_ (hv := .add (by simp only [maxLen]; omega))) | refine kz ?_ | refine Ay Ac ?_ | refine BB ?_
 all_goals rfl
theorem VB (t : Tape) (n m : Nat) (ht : t.ok) (hn : n ≤ 3) (h1 : 1 ≤ m) (hm : m ≤ 1000) : ∃ (l : List Itm) (t' : Tape), t'.ok ∧ l.length ≤ n ∧ (∀ x ∈ l, x.expr.length ≤ 16) ∧ HC 21 [.c (.bp 0 0 0), (iC (n : Int)), (iC (m : Int))] [(tB t)] (.c (.d (KC l))) [(tB t')] := by
 obtain ⟨w, t1, ok1, hw, n1⟩ := CI t (n + 1) ht (by omega) (by omega)
 rw [show ((n + 1 : Nat) : Int) = (n : Int) + 1 by omega] at n1
 have hits : ∀ k : Nat, k ≤ w → ∃ (f : Nat → Itm) (ts : Nat → Tape), ts 0 = t1 ∧ (ts k).ok ∧ ∀ i, i < k → ∃ (z : Nat) (t2 : Tape), (z < 2 ∧ (f i).expr.length ≤ 16) ∧ (f i).name = (⟨#[107]⟩ : ByteArray) ++ (⟨#[UInt8.ofNat (48 + i)]⟩ : ByteArray) ∧ HC 30 [.c (.bp 0 0 0), .c (.d (.lit (.int .i64 2)))] [(tB ((ts i)))] (iC z) [(tB t2)] ∧ HC 31 [.c (.bp 0 0 0), (iC ((z + 1 : Nat) : Int)), (iC (m : Int))] [(tB t2)] (.c (.d (BR (f i).expr))) [(.box 0 [.d (DW ((ts (i + 1))).l), .d (.lit (.int .i64 ((ts (i + 1))).at_))])] := by
  intro k
  induction k with
  | zero => intro _; exact ⟨fun _ => ⟨⟨#[]⟩, []⟩, fun _ => t1, rfl, ok1, fun i hi => by omega⟩
  | succ k ih =>
    intro hk
    obtain ⟨f, ts, e0, okk, hf⟩ := ih (by omega)
    obtain ⟨z, t2, ok2, hz, n2⟩ := CI (ts k) 2 okk (by omega) (by omega)
    obtain ⟨e, t3, ok3, hel, c3⟩ := TO m h1 hm (z + 1) t2 ok2 (by omega)
    have hel : e.length ≤ 16 := OQ hel (Nat.pow_le_pow_right (show 0 < 4 by omega) (show z + 1 ≤ 2 by omega))
    refine ⟨fun i => if i = k then ⟨(⟨#[107]⟩ : ByteArray) ++ (⟨#[UInt8.ofNat (48 + k)]⟩ : ByteArray), e⟩ else f i, fun i => if i = k + 1 then t3 else ts i, by simp [e0], by simp [ok3], fun i hi => ?_⟩
    by_cases him : i = k
    · subst him
      refine ⟨z, t2, ⟨hz, by simpa using hel⟩, by simp, ?_, ?_⟩
      · simp only [show ¬ i = i + 1 by omega, if_false]; exact n2
      · simp only [if_true]; exact c3
    · have := hf i (by omega)
      simp only [if_neg him, show ¬ i = k + 1 by omega, show ¬ i + 1 = k + 1 by omega, if_false]
      exact this
 obtain ⟨f, ts, e0, okw, hf⟩ := hits w (Nat.le_refl _)
 clear hits
 refine ⟨(List.range w).map f, ts w, okw, by simp; omega, fun x hx => ?_, ?_⟩
 ·obtain ⟨i, hi, rfl⟩ := List.mem_map.1 hx
  obtain ⟨_, _, ⟨_, h⟩, _⟩ := hf i (Uj.1 hi)
  exact h
 rw [← e0] at n1
 refine AF hT Tryz.func21 Tryz.ntmps21 [.tmp 6] fun B => ?_
 repeat' first | refine kz ?_ | refine Ak [0] (n1) ?_ | refine kg ?_ ?_ | exact k0 | refine Ab ?_ | refine m1 ?_ ?_
 refine CN 7 86 2 ?_
 refine AY (X := Nat × Nat × Tape) ([7, 8] ++ List.range' 13 17) (fun x => x.1 ≤ w ∧ x.2.2 = ts x.1) (fun x lz => (7, .c (.arr 1 x.2.1 x.1)) :: (8, (iC ((w - x.1 : Nat) : Int))) :: lz) (fun x => [(tB x.2.2), .arr x.2.1 86 2 (((List.range x.1).map f).map Itm.d)]) (fun x => w - x.1) ((0, 2, ts 0)) ?_ ?_ ?_ ?_
 repeat' first | exact k0 | refine kw ?_ | refine kv ?_ ?_ | omega
 all_goals try (first | rfl | exact ⟨Nat.zero_le _, rfl⟩)
 rintro ⟨i, v, T'⟩ c ⟨hi, hT'⟩
 dsimp only at hi hT' ⊢
 by_cases hlt : i < w
 ·obtain ⟨z, t2, ⟨hz, _⟩, hnm, n2, c3⟩ := hf i hlt
  have hdg := Mt (⟨#[107]⟩ : ByteArray) (by decide) i (by omega)
  rw [← hnm] at hdg
  rw [← hT'] at n2
  rw [show ((z + 1 : Nat) : Int) = 1 + (z : Int) by omega] at c3
  have hs : ((List.range i).map f).map Itm.d ++ [[Dat.lit (.string (f i).name), BR (f i).expr]] = ((List.range (i + 1)).map f).map Itm.d := by rw [X7]; simp [Itm.d]
  have hal : (((List.range i).map f).map Itm.d).length = i := by simp
  generalize f i = y at hs hdg c3
  clear hf hnm hT'
  generalize ((List.range i).map f).map Itm.d = A at hs hal ⊢
  generalize hq : ts (i + 1) = T2 at c3
  repeat' first | refine kz ?_ | refine Aa (hdg) ?_ | refine Ak [0] (n2) ?_ | refine Ak [0] (c3) ?_ | refine kg ?_ ?_ | exact k0 | refine Ab ?_ | refine m1 ?_ ?_
  apply Ae ((i + 1, _, T2)) <;> (try dsimp only) <;> try repeat' first | exact k0 | refine w1 ?_ | refine Ab ?_ | refine m1 ?_ ?_ | omega
  all_goals first
    | exact ⟨by omega, hq.symm⟩
    | (rw [Ag (by omega)]; exact hs)
    | skip
 ·obtain rfl : i = w := by omega
  rw [hT']
  clear hf
  repeat' first | (refine A8 (r := 1) (m := i) (es1 := ((List.range i).map f).map Itm.d) 7 ?_ (hl := by simp) (hes := Ag (by rw [BT, BT, ZL]; exact Nat.le_refl _))) | refine kz ?_ | refine Bd Ac ?_ ?_ | exact k0 | refine Ab ?_ | refine m1 ?_ ?_
  all_goals rfl
theorem Xw (t : Tape) (n m : Nat) (ht : t.ok) (hn : n ≤ 3) (h1 : 1 ≤ m) (hm : m ≤ 1000) : ∃ (l : List Itm) (t' : Tape), t'.ok ∧ l.length ≤ n ∧ HC 21 [.c (.bp 0 0 0), (iC (n : Int)), (iC (m : Int))] [(tB t)] (.c (.d (KC l))) [(tB t')] := by
 obtain ⟨l, t', h1, h2, _, h3⟩ := VB t n m ht hn h1 hm
 exact ⟨l, t', h1, h2, h3⟩
theorem Ku (m : Nat) (h1 : 1 ≤ m) (hm : m ≤ 1000) (t1 : Tape) (ok1 : t1.ok) : ∀ k : Nat, ∃ (f : Nat → Agg) (ts : Nat → Tape), ts 0 = t1 ∧ (ts k).ok ∧ ∀ i, i < k → ∃ (z : Nat) (t2 : Tape), z < 5 ∧ (f i).name = (⟨#[97]⟩ : ByteArray) ++ (⟨#[UInt8.ofNat (48 + i)]⟩ : ByteArray) ∧ (f i).func = z ∧ HC 30 [.c (.bp 0 0 0), .c (.d (.lit (.int .i64 5)))] [(tB ((ts i)))] (iC z) [(tB t2)] ∧
   ((z = 0 ∧ (f i).expr = [] ∧ ts (i + 1) = t2) ∨ (z ≠ 0 ∧ ∃ (q : Nat) (t3 : Tape), q < 2 ∧ HC 30 [.c (.bp 0 0 0), .c (.d (.lit (.int .i64 2)))] [(tB t2)] (iC q) [(tB t3)] ∧ HC 31 [.c (.bp 0 0 0), (iC ((q + 1 : Nat) : Int)), (iC (m : Int))] [(tB t3)] (.c (.d (BR (f i).expr))) [(.box 0 [.d (DW ((ts (i + 1))).l), .d (.lit (.int .i64 ((ts (i + 1))).at_))])])) := by
 intro k
 induction k with
 | zero => exact ⟨fun _ => ⟨⟨#[]⟩, 0, []⟩, fun _ => t1, rfl, ok1, fun i hi => by omega⟩
 | succ k ih =>
   obtain ⟨f, ts, e0, okk, hf⟩ := ih
   obtain ⟨z, t2, ok2, hz, n2⟩ := CI (ts k) 5 okk (by omega) (by omega)
   obtain ⟨q, t3, ok3, hq, n3⟩ := CI t2 2 ok2 (by omega) (by omega)
   obtain ⟨e, t4, ok4, _, c4⟩ := TO m h1 hm (q + 1) t3 ok3 (by omega)
   refine ⟨fun i => if i = k then ⟨(⟨#[97]⟩ : ByteArray) ++ (⟨#[UInt8.ofNat (48 + k)]⟩ : ByteArray), z, if z = 0 then [] else e⟩ else f i, fun i => if i = k + 1 then (if z = 0 then t2 else t4) else ts i, by simp [e0], ?_, fun i hi => ?_⟩
   · simp only [if_true]; split
     ·exact ok2
     ·exact ok4
   · by_cases him : i = k
     ·subst him
      refine ⟨z, t2, hz, by simp, by simp, ?_, ?_⟩
      ·simp only [show ¬ i = i + 1 by omega, if_false]; exact n2
      ·by_cases hz0 : z = 0
       ·exact .inl ⟨hz0, by simp [hz0], by simp [hz0]⟩
       ·refine .inr ⟨hz0, q, t3, hq, n3, ?_⟩
        simp only [if_true, if_neg hz0]; exact c4
     ·have := hf i (by omega)
      simp only [if_neg him, show ¬ i = k + 1 by omega, show ¬ i + 1 = k + 1 by omega, if_false]
      exact this
theorem Xx (t : Tape) (n m : Nat) (ht : t.ok) (hn : n ≤ 3) (h1 : 1 ≤ m) (hm : m ≤ 1000) : ∃ (l : List Agg) (t' : Tape), t'.ok ∧ l.length ≤ n ∧ (∀ x ∈ l, 0 ≤ x.func ∧ x.func ≤ 4) ∧ HC 23 [.c (.bp 0 0 0), (iC (n : Int)), (iC (m : Int))] [(tB t)] (.c (.d (HW l))) [(tB t')] := by
 obtain ⟨w, t1, ok1, hw, n1⟩ := CI t (n + 1) ht (by omega) (by omega)
 rw [show ((n + 1 : Nat) : Int) = (n : Int) + 1 by omega] at n1
 obtain ⟨f, ts, e0, okw, hf⟩ := Ku m h1 hm t1 ok1 w
 refine ⟨(List.range w).map f, ts w, okw, by simp; omega, fun x hx => ?_, ?_⟩
 ·obtain ⟨i, hi, rfl⟩ := List.mem_map.1 hx
  obtain ⟨z, _, hz, _, hfn, _⟩ := hf i (Uj.1 hi)
  rw [hfn]; omega
 rw [← e0] at n1
 refine AF hT Tryz.func23 Tryz.ntmps23 [.tmp 6] fun B => ?_
 repeat' first | refine kz ?_ | refine Ak [0] (n1) ?_ | refine kg ?_ ?_ | exact k0 | refine Ab ?_ | refine m1 ?_ ?_
 refine CN 7 49 3 ?_
 refine AY (X := Nat × Nat × Tape) ([7, 8, 9] ++ List.range' 14 24) (fun x => x.1 ≤ w ∧ x.2.2 = ts x.1) (fun x lz => (7, .c (.arr 1 x.2.1 x.1)) :: (8, (iC ((w - x.1 : Nat) : Int))) :: lz) (fun x => [(tB x.2.2), .arr x.2.1 49 3 (((List.range x.1).map f).map Agg.d)]) (fun x => w - x.1) ((0, 2, ts 0)) ?_ ?_ ?_ ?_
 repeat' first | exact k0 | refine kw ?_ | refine kv ?_ ?_ | omega
 all_goals try (first | rfl | exact ⟨Nat.zero_le _, rfl⟩)
 rintro ⟨i, v, T'⟩ c ⟨hi, hT'⟩
 dsimp only at hi hT' ⊢
 by_cases hlt : i < w
 ·obtain ⟨z, t2, hz, hnm, hfn, n2, hrest⟩ := hf i hlt
  have hdg := Mt (⟨#[97]⟩ : ByteArray) (by decide) i (by omega)
  rw [← hnm] at hdg
  rw [← hT'] at n2
  rw [← hfn] at n2
  have hs : ((List.range i).map f).map Agg.d ++ [[Dat.lit (.string (f i).name), Dat.lit (.int .i64 (f i).func), BR (f i).expr]] = ((List.range (i + 1)).map f).map Agg.d := by rw [X7]; simp [Agg.d]
  have hal : (((List.range i).map f).map Agg.d).length = i := by simp
  generalize f i = y at hs hdg n2 hrest hfn
  clear hf hnm hT'
  generalize ((List.range i).map f).map Agg.d = A at hs hal ⊢
  generalize hq : ts (i + 1) = T2 at hrest
  obtain ⟨name, func, expr⟩ := y
  dsimp only at hs hdg n2 hrest hfn
  rcases hrest with ⟨hz0, hex, rfl⟩ | ⟨hz0, q, t3, hq2, n3, c3⟩
  ·have hf0 : func = 0 := by omega
   subst hex
   subst hf0
   repeat' first | refine kz ?_ | refine Aa (hdg) ?_ | refine Ak [0] (n2) ?_ | refine kg ?_ ?_ | exact k0 | refine Ab ?_ | refine m1 ?_ ?_
   apply Ae ((i + 1, _, T2)) <;> (try dsimp only) <;> try repeat' first | exact k0 | refine w1 ?_ | refine Ab ?_ | refine m1 ?_ ?_ | omega
   all_goals first
    | exact ⟨by omega, hq.symm⟩
    | (rw [Ag (by omega)]; exact hs)
    | skip
  ·have hf0 : func ≠ 0 := by omega
   rw [show ((q + 1 : Nat) : Int) = 1 + (q : Int) by omega] at c3
   repeat' first | refine kz ?_ | refine Aa (hdg) ?_ | refine Ak [0] (n2) ?_ | refine Ak [0] (n3) ?_ | refine Ak [0] (c3) ?_ | refine kg ?_ ?_ | exact k0 | refine Ab ?_ | refine m1 ?_ ?_
   apply Ae ((i + 1, _, T2)) <;> (try dsimp only) <;> try repeat' first | exact k0 | refine w1 ?_ | refine Ab ?_ | refine m1 ?_ ?_ | omega
   all_goals first
    | exact ⟨by omega, hq.symm⟩
    | (rw [Ag (by omega)]; exact hs)
    | skip
 ·obtain rfl : i = w := by omega
  rw [hT']
  clear hf
  repeat' first | (refine A8 (r := 1) (m := i) (es1 := ((List.range i).map f).map Agg.d) 7 ?_ (hl := by simp) (hes := Ag (by rw [BT, BT, ZL]; exact Nat.le_refl _))) | refine kz ?_ | refine Bd Ac ?_ ?_ | exact k0 | refine Ab ?_ | refine m1 ?_ ?_
  all_goals rfl
theorem VC (t : Tape) (n m : Nat) (ht : t.ok) (hn : n ≤ 3) (h1 : 1 ≤ m) (hm : m ≤ 1000) : ∃ (l : List Agg) (t' : Tape), t'.ok ∧ l.length ≤ n ∧ (∀ x ∈ l, 0 ≤ x.func ∧ x.func ≤ 4) ∧ HC 23 [.c (.bp 0 0 0), (iC (n : Int)), (iC (m : Int))] [(tB t)] (.c (.arr 1 1 l.length)) [(tB t'), .arr 1 49 3 (l.map Agg.d)] := by
 obtain ⟨w, t1, ok1, hw, n1⟩ := CI t (n + 1) ht (by omega) (by omega)
 rw [show ((n + 1 : Nat) : Int) = (n : Int) + 1 by omega] at n1
 obtain ⟨f, ts, e0, okw, hf⟩ := Ku m h1 hm t1 ok1 w
 refine ⟨(List.range w).map f, ts w, okw, by simp; omega, fun x hx => ?_, ?_⟩
 ·obtain ⟨i, hi, rfl⟩ := List.mem_map.1 hx
  obtain ⟨z, _, hz, _, hfn, _⟩ := hf i (Uj.1 hi)
  rw [hfn]; omega
 rw [← e0] at n1
 refine AF hT Tryz.func23 Tryz.ntmps23 [.tmp 6] fun B => ?_
 repeat' first | refine kz ?_ | refine Ak [0] (n1) ?_ | refine kg ?_ ?_ | exact k0 | refine Ab ?_ | refine m1 ?_ ?_ | refine CC ?_
 refine CN 7 49 3 ?_
 refine AY (X := Nat × Nat × Tape) ([7, 8, 9] ++ List.range' 14 24) (fun x => x.1 ≤ w ∧ x.2.2 = ts x.1) (fun x lz => (7, .c (.arr 1 x.2.1 x.1)) :: (8, (iC ((w - x.1 : Nat) : Int))) :: lz) (fun x => [(tB x.2.2), .arr x.2.1 49 3 (((List.range x.1).map f).map Agg.d)]) (fun x => w - x.1) ((0, 2, ts 0)) ?_ ?_ ?_ ?_
 repeat' first | exact k0 | refine kw ?_ | refine kv ?_ ?_ | omega
 all_goals try (first | rfl | exact ⟨Nat.zero_le _, rfl⟩)
 rintro ⟨i, v, T'⟩ c ⟨hi, hT'⟩
 dsimp only at hi hT' ⊢
 by_cases hlt : i < w
 ·obtain ⟨z, t2, hz, hnm, hfn, n2, hrest⟩ := hf i hlt
  have hdg := Mt (⟨#[97]⟩ : ByteArray) (by decide) i (by omega)
  rw [← hnm] at hdg
  rw [← hT'] at n2
  rw [← hfn] at n2
  have hs : ((List.range i).map f).map Agg.d ++ [[Dat.lit (.string (f i).name), Dat.lit (.int .i64 (f i).func), BR (f i).expr]] = ((List.range (i + 1)).map f).map Agg.d := by rw [X7]; simp [Agg.d]
  have hal : (((List.range i).map f).map Agg.d).length = i := by simp
  generalize f i = y at hs hdg n2 hrest hfn
  clear hf hnm hT'
  generalize ((List.range i).map f).map Agg.d = A at hs hal ⊢
  generalize hq : ts (i + 1) = T2 at hrest
  obtain ⟨name, func, expr⟩ := y
  dsimp only at hs hdg n2 hrest hfn
  rcases hrest with ⟨hz0, hex, rfl⟩ | ⟨hz0, q, t3, hq2, n3, c3⟩
  ·have hf0 : func = 0 := by omega
   subst hex
   subst hf0
   repeat' first | refine kz ?_ | refine Aa (hdg) ?_ | refine Ak [0] (n2) ?_ | refine kg ?_ ?_ | exact k0 | refine Ab ?_ | refine m1 ?_ ?_ | refine CC ?_
   apply Ae ((i + 1, _, T2)) <;> (try dsimp only) <;> try repeat' first | exact k0 | refine w1 ?_ | refine Ab ?_ | refine m1 ?_ ?_ | omega
   all_goals first
     | exact ⟨by omega, hq.symm⟩
     | (rw [Ag (by omega)]; exact hs)
     | skip
  ·have hf0 : func ≠ 0 := by omega
   rw [show ((q + 1 : Nat) : Int) = 1 + (q : Int) by omega] at c3
   repeat' first | refine kz ?_ | refine Aa (hdg) ?_ | refine Ak [0] (n2) ?_ | refine Ak [0] (n3) ?_ | refine Ak [0] (c3) ?_ | refine kg ?_ ?_ | exact k0 | refine Ab ?_ | refine m1 ?_ ?_ | refine CC ?_
   apply Ae ((i + 1, _, T2)) <;> (try dsimp only) <;> try repeat' first | exact k0 | refine w1 ?_ | refine Ab ?_ | refine m1 ?_ ?_ | omega
   all_goals first
     | exact ⟨by omega, hq.symm⟩
     | (rw [Ag (by omega)]; exact hs)
     | skip
 ·obtain rfl : i = w := by omega
  rw [hT']
  clear hf
  repeat' first | refine kz ?_ | refine kg ?_ ?_ | exact k0 | refine Ab ?_ | refine m1 ?_ ?_ | refine CC ?_
  all_goals first
   | rfl
   | (simp; done)
   | skip
def Gi (x : Agg) : Agg := if x.func = 0 then x else ⟨x.name, 1, x.expr⟩
theorem TP (t : Tape) (n m : Nat) (ht : t.ok) (hn : n ≤ 3) (h1 : 1 ≤ m) (hm : m ≤ 1000) : ∃ (l : List Agg) (t' : Tape), t'.ok ∧ l.length ≤ n ∧ EP l = true ∧ HC 26 [.c (.bp 0 0 0), (iC (n : Int)), (iC (m : Int))] [(tB t)] (.c (.d (HW l))) [(tB t')] := by
 obtain ⟨l, t1, ok1, hl, _, c1⟩ := VC t n m ht hn h1 hm
 refine ⟨l.map Gi, t1, ok1, by simpa using hl, ?_, ?_⟩
 ·unfold EP
  rw [Ec]
  intro x hx
  obtain ⟨y, _, rfl⟩ := List.mem_map.1 hx
  unfold Gi
  split
  ·rename_i h; simp [h]
  ·simp
 refine AF hT Tryz.func26 Tryz.ntmps26 [.tmp 6] fun B => ?_
 repeat' first | refine kz ?_ | refine Ak [0] (c1) ?_ | refine kg ?_ ?_ | exact k0 | refine Ab ?_ | refine m1 ?_ ?_
 refine AY (X := Nat) ([8] ++ List.range' 13 16) (fun x => x ≤ l.length) (fun x lz => (8, (iC x)) :: lz) (fun x => [(tB t1), .arr 1 49 3 (((l.take x).map Gi ++ l.drop x).map Agg.d)]) (fun x => l.length - x) (0) ?_ ?_ ?_ ?_
 repeat' first | exact k0 | refine kw ?_ | refine kv ?_ ?_ | omega
 all_goals try (first | rfl | (simp; done))
 rintro i c hi
 have hL : (((l.take i).map Gi ++ l.drop i).map Agg.d).length = l.length := by simp; omega
 by_cases hlt : i < l.length
 ·obtain ⟨y, hv⟩ := gx hlt
  have hpl : ((l.take i).map Gi).length = i := by simp; omega
  have hg : (((l.take i).map Gi ++ l.drop i).map Agg.d)[i]? = some y.d := by
   rw [Ci, LH (by omega), hpl, MF, T3, Nat.add_zero, hv]; rfl
  have hst : (((l.take i).map Gi ++ l.drop i).map Agg.d).set i (Gi y).d = ((l.take (i + 1)).map Gi ++ l.drop (i + 1)).map Agg.d := by
   rw [← VO, Az hv, VL _ _ (by omega), hpl, MF, List.set_cons_zero, Ba hv]; simp
  by_cases hf : y.func = 0
  ·have hsm : Gi y = y := if_pos hf
   rw [hsm] at hst
   have hsame : (((l.take i).map Gi ++ l.drop i).map Agg.d).set i y.d = ((l.take i).map Gi ++ l.drop i).map Agg.d := by
    refine QG fun j => ?_
    rw [X4]
    split
    ·rename_i h; subst h
     rw [if_pos (by omega), hg]
    ·rfl
   rw [hsame] at hst
   generalize ((l.take i).map Gi ++ l.drop i).map Agg.d = A at hg hst hL ⊢
   repeat' first | refine kz ?_ | refine AT hg ?_ | refine As ?_ | refine kg ?_ ?_ | exact k0 | refine Ab ?_ | refine m1 ?_ ?_
   apply Ae (i + 1) <;> (try dsimp only) <;> try repeat' first | exact k0 | refine kw ?_ | refine kv ?_ ?_ | omega
   all_goals exact hst
  ·have hsm : Gi y = ⟨y.name, 1, y.expr⟩ := if_neg hf
   rw [hsm] at hst
   generalize ((l.take i).map Gi ++ l.drop i).map Agg.d = A at hg hst hL ⊢
   repeat' first | refine kz ?_ | refine AT hg ?_ | refine As ?_ | refine kg ?_ ?_ | exact k0 | refine Ab ?_ | refine m1 ?_ ?_
   apply Ae (i + 1) <;> (try dsimp only) <;> try repeat' first | exact k0 | refine kw ?_ | refine kv ?_ ?_ | omega
   all_goals exact hst
 ·obtain rfl : i = l.length := by omega
  rw [QF (Nat.le_refl _), Ag (Nat.le_refl _), List.append_nil]
  have hml : (l.map Gi).length = l.length := by simp
  repeat' first | refine A8 (r := 1) (m := l.length) (es1 := (l.map Gi).map Agg.d) 7 ?_ (hl := by simp) (hes := Ag (by simp)) | refine kz ?_ | refine Bd Ac ?_ ?_ | exact k0 | refine Ab ?_ | refine m1 ?_ ?_
  all_goals rfl
end Go.Proofs.YtmpgmjlanngkfaaGreat
end
