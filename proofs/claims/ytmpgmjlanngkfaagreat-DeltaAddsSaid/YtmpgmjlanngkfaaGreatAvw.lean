/-
  The tape's views over sources of three and two columns.
-/
import Derived.Test.YtmpgmjlanngkfaaGreatJof
import Derived.Test.YtmpgmjlanngkfaaGreatTkg
import Derived.Test.YtmpgmjlanngkfaaGreatTpo
import Derived.Test.YtmpgmjlanngkfaaGreatExn
import Derived.Test.YtmpgmjlanngkfaaGreatArz
section
namespace Go.Proofs.YtmpgmjlanngkfaaGreat
open Go.Abs Go.RowKit
attribute [local irreducible] ARun Au MCall PCall HCall Ak SF CF CFs Af Ag Ar fin AP VLe
set_option linter.unusedSimpArgs false
set_option maxRecDepth 100000
set_option maxHeartbeats 4000000
def VH (p : Int × Int) : List Dat := [.lit (.int .i64 p.1), .lit (.int .i64 p.2)]
structure Vw.ok (v : Vw) : Prop where
 kind : v.kind = 0 ∨ v.kind = 1 ∨ v.kind = 2
 items : v.items.length ≤ 3
 aggs : v.aggs.length ≤ 3
 fits : v.items.length + v.aggs.length ≤ 8
 func : ∀ x ∈ v.aggs, 0 ≤ x.func ∧ x.func ≤ 4
 onl : v.on.length ≤ 2
 cols : ∀ p ∈ v.on, 0 ≤ p.1 ∧ p.1 < 3 ∧ 0 ≤ p.2 ∧ p.2 < 2
 exprs : ∀ x ∈ v.items, x.expr.length ≤ 16
theorem LR {cs cs' : List Cell} (h : CLes cs cs') : AM (.agg cs) (.agg cs') := h
theorem M6 (n : Nat) (h1 : 1 ≤ n) (hn : n ≤ 1000) (k : Int) (hk : k = 0 ∨ k = 1) (t : Tape) (ht : t.ok) : ∃ (e : List Trm) (ks : List Itm) (d : Bool) (ag : List Agg) (t' : Tape), t'.ok ∧ (ks.length ≤ 3 ∧ ∀ x ∈ ks, x.expr.length ≤ 16) ∧ ag.length ≤ 3 ∧ (∀ x ∈ ag, 0 ≤ x.func ∧ x.func ≤ 4) ∧ ∃ (w : Nat) (t1 t2 : Tape),
  HC 30 [.c (.bp 0 0 0), .c (.d (.lit (.int .i64 2)))] [(tB t)] (iC w) [(tB t1)] ∧
  ((w = 0 ∧ HC 31 [.c (.bp 0 0 0), (iC 3), (iC (n : Int))] [(tB t1)] (.c (.d (Bw e))) [(tB t2)]) ∨ (w ≠ 0 ∧ e = [] ∧ t2 = t1)) ∧
  ((k = 0 ∧ ag = [] ∧ ∃ (z : Nat) (t3 : Tape), d = ((z : Int) == 0) ∧ HC 21 [.c (.bp 0 0 0), (iC 3), (iC (n : Int))] [(tB t2)] (.c (.d (MU ks))) [(tB t3)] ∧ HC 30 [.c (.bp 0 0 0), .c (.d (.lit (.int .i64 3)))] [(tB t3)] (iC z) [(tB t')]) ∨
   (k = 1 ∧ d = false ∧ ∃ t3 : Tape, HC 21 [.c (.bp 0 0 0), (iC 2), (iC (n : Int))] [(tB t2)] (.c (.d (MU ks))) [(tB t3)] ∧ HC 23 [.c (.bp 0 0 0), (iC 3), (iC (n : Int))] [(tB t3)] (.c (.d (SI ag))) [(tB t')])) := by
 obtain ⟨w, t1, ok1, hw, n1⟩ := Bq t 2 ht (by omega) (by omega)
 have he : ∃ (e : List Trm) (t2 : Tape), t2.ok ∧ ((w = 0 ∧ HC 31 [.c (.bp 0 0 0), (iC 3), (iC (n : Int))] [(tB t1)] (.c (.d (Bw e))) [(tB t2)]) ∨ (w ≠ 0 ∧ e = [] ∧ t2 = t1)) := by
  by_cases h0 : w = 0
  · obtain ⟨e, t2, ok2, _, c2⟩ := PA n h1 hn 3 t1 ok1 (by omega)
    exact ⟨e, t2, ok2, .inl ⟨h0, c2⟩⟩
  · exact ⟨[], t1, ok1, .inr ⟨h0, rfl, rfl⟩⟩
 obtain ⟨e, t2, ok2, he⟩ := he
 rcases hk with rfl | rfl
 ·obtain ⟨ks, t3, ok3, lk, lx, c3⟩ := QG t2 3 n ok2 (by omega) h1 hn
  obtain ⟨z, t4, ok4, _, n4⟩ := Bq t3 3 ok3 (by omega) (by omega)
  exact ⟨e, ks, _, [], t4, ok4, ⟨lk, lx⟩, by simp, (fun x hx => by cases hx), w, t1, t2, n1, he, .inl ⟨rfl, rfl, z, t3, rfl, c3, n4⟩⟩
 ·obtain ⟨ks, t3, ok3, lk, lx, c3⟩ := QG t2 2 n ok2 (by omega) h1 hn
  obtain ⟨ag, t4, ok4, la, fa, c4⟩ := Y1 t3 3 n ok3 (by omega) h1 hn
  exact ⟨e, ks, false, ag, t4, ok4, ⟨by omega, lx⟩, la, fa, w, t1, t2, n1, he, .inr ⟨rfl, rfl, t3, c3, c4⟩⟩
theorem Yj (t : Tape) (ht : t.ok) : ∀ m : Nat, ∃ (f : Nat → Int × Int) (ts : Nat → Tape), ts 0 = t ∧ (ts m).ok ∧ (∀ i, i < m → 0 ≤ (f i).1 ∧ (f i).1 < 3 ∧ 0 ≤ (f i).2 ∧ (f i).2 < 2) ∧ ∀ i, i < m → ∃ t2 : Tape,
   HC 30 [.c (.bp 0 0 0), .c (.d (.lit (.int .i64 3)))] [(tB ((ts i)))] (iC ((f i).1)) [(tB t2)] ∧ HC 30 [.c (.bp 0 0 0), .c (.d (.lit (.int .i64 2)))] [(tB t2)] (iC ((f i).2)) [(.box 0 [.d (Dh ((ts (i + 1))).l), .d (.lit (.int .i64 ((ts (i + 1))).at_))])] := by
 intro m
 induction m with
 | zero => exact ⟨fun _ => (0, 0), fun _ => t, rfl, ht, fun i hi => by omega, fun i hi => by omega⟩
 | succ m ih =>
   obtain ⟨f, ts, e0, okm, hb, hf⟩ := ih
   obtain ⟨p, t2, ok2, hp, n2⟩ := Bq (ts m) 3 okm (by omega) (by omega)
   obtain ⟨q, t3, ok3, hq, n3⟩ := Bq t2 2 ok2 (by omega) (by omega)
   refine ⟨fun i => if i = m then ((p : Int), (q : Int)) else f i, fun i => if i = m + 1 then t3 else ts i, by simp [e0], by simp [ok3], fun i hi => ?_, fun i hi => ?_⟩
   ·by_cases him : i = m
    ·subst him; simp only [if_true]; omega
    ·simp only [him, if_false]; exact hb i (by omega)
   ·by_cases him : i = m
    ·subst him
     refine ⟨t2, ?_, ?_⟩
     ·simp only [show ¬ i = i + 1 by omega, if_false, if_true]; exact n2
     ·simp only [if_true]; exact n3
    ·have := hf i (by omega)
     simp only [him, show ¬ i = m + 1 by omega, show ¬ i + 1 = m + 1 by omega, if_false]
     exact this
theorem KN (t : Tape) (ht : t.ok) : ∃ (v : Vw) (t' : Tape), t'.ok ∧ v.ok ∧ HC 10 [.c (.bp 0 0 0), (iC 3), (iC 2)] [(tB t)] (.agg (v.d.map .d)) [(tB t')] := by
 obtain ⟨z, t1, ok1, hz, n1⟩ := Bq t 6 ht (by omega) (by omega)
 obtain ⟨k, hk, hkl⟩ : ∃ k : Int, (k = 0 ∨ k = 1 ∨ k = 2) ∧ ([[.lit (.int .i64 0)], [.lit (.int .i64 0)], [.lit (.int .i64 0)], [.lit (.int .i64 1)], [.lit (.int .i64 1)], [.lit (.int .i64 2)]] : List (List Dat))[z]? = some [.lit (.int .i64 k)] := by
  match z, hz with
  | 0, _ => exact ⟨_, .inl rfl, rfl⟩
  | 1, _ => exact ⟨_, .inl rfl, rfl⟩
  | 2, _ => exact ⟨_, .inl rfl, rfl⟩
  | 3, _ => exact ⟨_, .inr (.inl rfl), rfl⟩
  | 4, _ => exact ⟨_, .inr (.inl rfl), rfl⟩
  | 5, _ => exact ⟨_, .inr (.inr rfl), rfl⟩
  | z + 6, h => omega
 by_cases h2 : k = 2
 ·subst h2
  refine ⟨⟨⟨#[]⟩, 2, ⟨#[]⟩, ⟨#[114]⟩, [], [], [], false, []⟩, t1, ok1, ⟨.inr (.inr rfl), by simp, by simp, by simp, (fun x hx => by cases hx), by simp, (fun x hx => by cases hx), fun x hx => by cases hx⟩, ?_⟩
  refine AI hT Tryz.func10 Tryz.ntmps10 [.cell 6 30] fun B => ?_
  repeat' first | refine Go.Abs.ks ?_ | refine ko ?_ | refine AX hkl ?_ | refine Aw ?_ | refine Ah [0] (n1) ?_ | refine EL Ae ?_ ?_ | (refine LR ?_; (repeat' (first | exact trivial | refine And.intro (Or.inl rfl) ?_ | refine And.intro (Or.inr ⟨_, rfl, rfl⟩) ?_))) | exact k0 | refine Ab ?_ | refine m1 ?_ ?_
  all_goals rfl
 have hk2 : k = 0 ∨ k = 1 := by omega
 obtain ⟨q, t2, ok2, hq, n2⟩ := Bq t1 2 ok1 (by omega) (by omega)
 by_cases hb : q = 0
 ·obtain ⟨m, t3, ok3, hm, n3⟩ := Bq t2 3 ok2 (by omega) (by omega)
  obtain ⟨f, ts, e0, okm, hb2, hf⟩ := Yj t3 ok3 m
  rw [← e0] at n3
  obtain ⟨e, ks, d, ag, t', ok', ⟨lk, lx⟩, la, fa, w, t4, t5, n4, hw, hd⟩ := M6 5 (by omega) (by omega) k hk2 (ts m) okm
  refine ⟨⟨⟨#[]⟩, k, ⟨#[]⟩, ⟨#[114]⟩, (List.range m).map f, e, ks, d, ag⟩, t', ok', ⟨hk, lk, la, by dsimp only; omega, fa, by simp; omega, fun p hp => ?_, lx⟩, ?_⟩
  · obtain ⟨i, hi, rfl⟩ := List.mem_map.1 hp
    exact hb2 i (Vd.1 hi)
  refine AI hT Tryz.func10 Tryz.ntmps10 [.cell 6 30] fun B => ?_
  repeat' first | refine Go.Abs.ks ?_ | refine ko ?_ | refine AX hkl ?_ | refine Aw ?_ | refine Ah [0] (n1) ?_ | refine Ah [0] (n2) ?_ | refine Ah [0] (n3) ?_ | exact k0 | refine Ab ?_ | refine m1 ?_ ?_
  refine G8 2 4 66 2 ?_
  refine A0 (X := Nat × Nat × Tape) ([9] ++ List.range' 31 16) (fun x => x.1 ≤ m ∧ x.2.2 = ts x.1) (fun x lz => (9, (iC ((m - x.1 : Nat) : Int))) :: lz) (fun x => [(tB x.2.2), .box 1 [.d (.lit (.string ⟨#[]⟩)), .d (.lit (.int .i64 0)), .d (.lit (.string ⟨#[]⟩)), .d (.lit (.string ⟨#[]⟩)), .emp, .emp, .emp, .d (.lit (.bool false)), .emp], .box 3 [.d (.lit (.string ⟨#[]⟩)), .d (.lit (.int .i64 k)), .d (.lit (.string ⟨#[]⟩)), .d (.lit (.string ⟨#[114]⟩)), .arr 3 x.2.1 x.1, .emp, .emp, .d (.lit (.bool false)), .emp], .arr x.2.1 66 2 (((List.range x.1).map f).map VH)]) (fun x => m - x.1) ((0, 6, ts 0)) ?_ ?_ ?_ ?_
  repeat' first | exact k0 | refine kw ?_ | refine kv ?_ ?_ | omega
  all_goals try (first | rfl | exact ⟨Nat.zero_le _, rfl⟩)
  rintro ⟨i, v, T'⟩ c ⟨hi, hT'⟩
  dsimp only at hi hT' ⊢
  by_cases hlt : i < m
  · obtain ⟨t6, n6, n7⟩ := hf i hlt
    have hs : ((List.range i).map f).map VH ++ [[.lit (.int .i64 (f i).1), .lit (.int .i64 (f i).2)]] = ((List.range (i + 1)).map f).map VH := by rw [ZC]; simp [VH]
    have hal : (((List.range i).map f).map VH).length = i := by simp
    rw [← hT'] at n6
    clear hf hb2 hd hw n4
    generalize (f i).1 = p1 at hs n6
    generalize (f i).2 = p2 at hs n7
    generalize ((List.range i).map f).map VH = A at hs hal ⊢
    generalize hZ : ((List.range (i + 1)).map f).map VH = Z at hs
    generalize hq2 : ts (i + 1) = T2 at n7
    refine Uc 3 fun hr => ?_
    refine Pg ?_
    repeat' first | refine Ud (dr := true) ?_ | refine Ue (dr := true) ?_ | refine IY (dr := true) 0 n6 ?_ | refine IY (dr := true) 0 n7 ?_ | refine De (dr := true) ?_ | (refine Ph (dr := true) (ei := WE) (k := v) (es := A) (ys := [[.lit (.int .i64 p1), .lit (.int .i64 p2)]]) (es' := Z) 3 (c + 1) (j := i) (m := i + 1) ?_ (by omega) (by omega) (by omega) rfl (by simp only [maxLen]; omega) (by simp only [WE]; omega) (AJ rfl A5) (by rw [Ao (by omega)]; exact hs)) | refine Go.Abs.ks ?_ | refine ko ?_ | refine Aw ?_ | refine Og ?_ | exact k0 | refine Ab ?_ | refine m1 ?_ ?_
    apply Ad ((i + 1, c + 1, T2)) <;> (try dsimp only) <;> try repeat' first | exact k0 | refine kw ?_ | refine kv ?_ ?_ | omega
    all_goals first
      | exact ⟨by omega, hq2.symm⟩
      | exact hZ.symm
      | skip
  · obtain rfl : i = m := by omega
    have hal : (((List.range i).map f).map VH).length = i := by simp
    rw [hT']
    clear hf hb2
    refine Rv 2 4 3 (es1 := ((List.range i).map f).map VH) ?_ rfl rfl rfl (by omega) (Ao (by omega)) rfl
    rcases hw with ⟨rfl, c5⟩ | ⟨hw0, rfl, rfl⟩ <;> rcases hd with ⟨rfl, rfl, z3, t6, rfl, c6, c7⟩ | ⟨rfl, rfl, t6, c6, c7⟩
    all_goals
      (repeat' (first | refine Go.Abs.ks ?_ | refine ko ?_ | refine Aw ?_ | refine Ah [0] (n4) ?_ | refine Ah [0] (c5) ?_ | refine Ah [0] (c6) ?_ | refine Ah [0] (c7) ?_ | refine EL Ae ?_ ?_ | (refine LR ?_; (repeat' (first | exact trivial | refine And.intro (Or.inl rfl) ?_ | refine And.intro (Or.inr ⟨_, rfl, rfl⟩) ?_))) | exact k0 | refine Ab ?_ | refine m1 ?_ ?_))
    all_goals rfl
 ·obtain ⟨e, ks, d, ag, t', ok', ⟨lk, lx⟩, la, fa, w, t4, t5, n4, hw, hd⟩ := M6 3 (by omega) (by omega) k hk2 t2 ok2
  refine ⟨⟨⟨#[]⟩, k, ⟨#[]⟩, ⟨#[]⟩, [], e, ks, d, ag⟩, t', ok', ⟨hk, lk, la, by dsimp only; omega, fa, by simp, (fun p hp => by cases hp), lx⟩, ?_⟩
  rcases hw with ⟨rfl, c5⟩ | ⟨hw0, rfl, rfl⟩ <;> rcases hd with ⟨rfl, rfl, z3, t6, rfl, c6, c7⟩ | ⟨rfl, rfl, t6, c6, c7⟩
  all_goals
    (refine AI hT Tryz.func10 Tryz.ntmps10 [.cell 6 30] fun B => ?_
     repeat' (first | refine Go.Abs.ks ?_ | refine ko ?_ | refine AX hkl ?_ | refine Aw ?_ | refine Ah [0] (n1) ?_ | refine Ah [0] (n2) ?_ | refine Ah [0] (n4) ?_ | refine Ah [0] (c5) ?_ | refine Ah [0] (c6) ?_ | refine Ah [0] (c7) ?_ | refine EL Ae ?_ ?_ | (refine LR ?_; (repeat' (first | exact trivial | refine And.intro (Or.inl rfl) ?_ | refine And.intro (Or.inr ⟨_, rfl, rfl⟩) ?_))) | exact k0 | refine Ab ?_ | refine m1 ?_ ?_))
  all_goals rfl
end Go.Proofs.YtmpgmjlanngkfaaGreat
end
