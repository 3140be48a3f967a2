/-
  The tape: SpoilView.
-/
import Derived.Test.YtmpgmjlanngkfaaGreatAvw
import Derived.Test.YtmpgmjlanngkfaaGreatSpe
import Derived.Test.YtmpgmjlanngkfaaGreatJoj
section
namespace Go.Proofs.YtmpgmjlanngkfaaGreat
open Go.Abs Go.RowKit
attribute [local irreducible] ARun Av MCall PCall HCall Ap SF CF CFs Ag Ai As fin AY VLe
set_option linter.unusedSimpArgs false
set_option maxRecDepth 100000
set_option maxHeartbeats 4000000
theorem Ti {P : Program} {B : Base} {n : Nat} {sl : List (Nat × SVal)} {mem : List Blk} {ck : Nat} {df : List (FuncId × List Cell)} {Q : Ex → St → Prop} {c : Code} (h : ARun P B c ⟨n, sl, mem, 3, df⟩ Q) (hc : ck = 2 := by exact rfl) : ARun P B c ⟨n, sl, mem, ck, df⟩ Q := by
 subst hc; exact F2 h
structure Vw.near (v : Vw) : Prop where
 items : v.items.length ≤ 9
 aggs : v.aggs.length ≤ 4
 onl : v.on.length ≤ 2
def L9 (v : Vw) (i a : Cell) : Blk := .box 0 [.d (.lit (.string v.name)), .d (.lit (.int .i64 v.kind)), .d (.lit (.string v.left)), .d (.lit (.string v.right)), .d (TG v.on), .d (AW v.wher), i, .d (.lit (.bool v.distinct)), a]
def Ec (t : Tape) (v v' : Vw) (t' : Tape) : Prop :=
 HC 35 [.c (.bp 0 0 0), .c (.bp 1 0 0)] [(tB t), .box 0 (v.d.map .d)] (.tup []) [(tB t'), L9 v' (.arr 2 1 v'.items.length) (.arr 3 1 v'.aggs.length), .arr 1 86 2 (v'.items.map Itm.d), .arr 1 49 3 (v'.aggs.map Agg.d)]
def Zi (t : Tape) (v v' : Vw) (t' : Tape) : Prop :=
 HC 35 [.c (.bp 0 0 0), .c (.bp 1 0 0)] [(tB t), .box 0 (v.d.map .d)] (.tup []) [(tB t'), L9 v' .emp (.arr 3 1 v'.aggs.length), .dead, .arr 1 49 3 (v'.aggs.map Agg.d)]
theorem cB (t : Tape) (v : Vw) (hv : v.ok) (z : Nat) (t1 : Tape) (jv : t1.ok) (n1 : HC 30 [.c (.bp 0 0 0), .c (.d (.lit (.int .i64 13)))] [(tB t)] (iC z) [(tB t1)]) (hz : z = 0) : ∃ (v' : Vw) (t' : Tape), t'.ok ∧ v'.near ∧ Ec t v v' t' := by
 obtain ⟨-, h1, h2, -, -, h3, -, hx⟩ := hv
 subst hz
 obtain ⟨q, t2, jr, hq, n2⟩ := A5 t1 5 jv (by omega) (by omega)
 refine ⟨{ v with kind := (q : Int) - 1 }, t2, jr, ⟨by dsimp only; omega, by dsimp only; omega, h3⟩, ?_⟩
 unfold Ec L9
 dsimp only [Vw.d, List.map]
 refine Au hT Tryz.func35 Tryz.ntmps35 [] fun B => ?_
 repeat' first | refine kz ?_ | refine Ae [0] (n1) ?_ | refine Ae [0] (n2) ?_ | refine kf ?_ | exact k0 | refine Ab ?_
 all_goals rfl
theorem cC (t : Tape) (v : Vw) (hv : v.ok) (z : Nat) (t1 : Tape) (jv : t1.ok) (n1 : HC 30 [.c (.bp 0 0 0), .c (.d (.lit (.int .i64 13)))] [(tB t)] (iC z) [(tB t1)]) (hz : z = 1) : ∃ (v' : Vw) (t' : Tape), t'.ok ∧ v'.near ∧ Ec t v v' t' := by
 obtain ⟨-, h1, h2, -, -, h3, -, hx⟩ := hv
 subst hz
 obtain ⟨q, t2, jr, hq, n2⟩ := A5 t1 4 jv (by omega) (by omega)
 obtain ⟨s, hs⟩ : ∃ s, ([[.lit (.string ⟨#[]⟩)], [.lit (.string v.name)], [.lit (.string ⟨#[116, 48]⟩)], [.lit (.string ⟨#[110, 111, 110, 101]⟩)]] : List (List Dat))[q]? = some [.lit (.string s)] := by
  match q, hq with
  | 0, _ => exact ⟨_, rfl⟩
  | 1, _ => exact ⟨_, rfl⟩
  | 2, _ => exact ⟨_, rfl⟩
  | 3, _ => exact ⟨_, rfl⟩
  | q + 4, h => omega
 refine ⟨{ v with left := s }, t2, jr, ⟨by dsimp only; omega, by dsimp only; omega, h3⟩, ?_⟩
 unfold Ec L9
 dsimp only [Vw.d, List.map]
 refine Au hT Tryz.func35 Tryz.ntmps35 [] fun B => ?_
 repeat' first | refine HZ (dr := true) ?_ | refine D0 (dr := true) ?_ | refine D1 (dr := true) ?_ | refine Cc (dr := true) ?_ | refine El (dr := true) 0 n2 ?_ | refine kz ?_ | refine AF hs ?_ | refine Ao ?_ | refine Ae [0] (n1) ?_ | refine Ep Ad ?_ | exact k0 | refine Ab ?_
 all_goals rfl
theorem cD (t : Tape) (v : Vw) (hv : v.ok) (z : Nat) (t1 : Tape) (jv : t1.ok) (n1 : HC 30 [.c (.bp 0 0 0), .c (.d (.lit (.int .i64 13)))] [(tB t)] (iC z) [(tB t1)]) (hz : z = 2) : ∃ (v' : Vw) (t' : Tape), t'.ok ∧ v'.near ∧ Ec t v v' t' := by
 obtain ⟨-, h1, h2, -, -, h3, -, hx⟩ := hv
 subst hz
 obtain ⟨q, t2, jr, hq, n2⟩ := A5 t1 4 jv (by omega) (by omega)
 obtain ⟨s, hs⟩ : ∃ s, ([[.lit (.string ⟨#[]⟩)], [.lit (.string v.name)], [.lit (.string ⟨#[116, 48]⟩)], [.lit (.string ⟨#[110, 111, 110, 101]⟩)]] : List (List Dat))[q]? = some [.lit (.string s)] := by
  match q, hq with
  | 0, _ => exact ⟨_, rfl⟩
  | 1, _ => exact ⟨_, rfl⟩
  | 2, _ => exact ⟨_, rfl⟩
  | 3, _ => exact ⟨_, rfl⟩
  | q + 4, h => omega
 refine ⟨{ v with right := s }, t2, jr, ⟨by dsimp only; omega, by dsimp only; omega, h3⟩, ?_⟩
 unfold Ec L9
 dsimp only [Vw.d, List.map]
 refine Au hT Tryz.func35 Tryz.ntmps35 [] fun B => ?_
 repeat' first | refine HZ (dr := true) ?_ | refine D0 (dr := true) ?_ | refine D1 (dr := true) ?_ | refine Cc (dr := true) ?_ | refine El (dr := true) 0 n2 ?_ | refine kz ?_ | refine AF hs ?_ | refine Ao ?_ | refine Ae [0] (n1) ?_ | refine Ep Ad ?_ | exact k0 | refine Ab ?_
 all_goals rfl
theorem cE (t : Tape) (v : Vw) (hv : v.ok) (z : Nat) (t1 : Tape) (jv : t1.ok) (n1 : HC 30 [.c (.bp 0 0 0), .c (.d (.lit (.int .i64 13)))] [(tB t)] (iC z) [(tB t1)]) (hz : z = 3) : ∃ (v' : Vw) (t' : Tape), t'.ok ∧ v'.near ∧ Ec t v v' t' := by
 obtain ⟨-, h1, h2, -, -, h3, -, hx⟩ := hv
 subst hz
 obtain ⟨q, t2, jr, hq, n2⟩ := A5 t1 5 jv (by omega) (by omega)
 obtain ⟨r, t3, kl, hr, n3⟩ := A5 t2 5 jr (by omega) (by omega)
 refine ⟨{ v with on := [((q : Int) - 1, (r : Int) - 1)] }, t3, kl, ⟨by dsimp only; omega, by dsimp only; omega, by simp⟩, ?_⟩
 unfold Ec L9
 dsimp only [Vw.d, List.map]
 refine Au hT Tryz.func35 Tryz.ntmps35 [] fun B => ?_
 repeat' first | refine kz ?_ | refine Ae [0] (n1) ?_ | refine Ae [0] (n2) ?_ | refine Ae [0] (n3) ?_ | refine Ls ?_ | refine kf ?_ | exact k0 | refine Ab ?_
 all_goals rfl
theorem cF (t : Tape) (v : Vw) (hv : v.ok) (z : Nat) (t1 : Tape) (jv : t1.ok) (n1 : HC 30 [.c (.bp 0 0 0), .c (.d (.lit (.int .i64 13)))] [(tB t)] (iC z) [(tB t1)]) (hz : z = 4) : ∃ (v' : Vw) (t' : Tape), t'.ok ∧ v'.near ∧ Ec t v v' t' := by
 obtain ⟨-, h1, h2, -, -, h3, -, hx⟩ := hv
 subst hz
 obtain ⟨e, t2, jr, jo, c2⟩ := Im 4 (by omega) (by omega) 2 t1 jv (by omega)
 obtain ⟨e', t3, kl, -, c3⟩ := QG t2 e jr (by have : 4 ^ 2 = 16 := rfl; omega)
 refine ⟨{ v with wher := e' }, t3, kl, ⟨by dsimp only; omega, by dsimp only; omega, h3⟩, ?_⟩
 unfold Ec L9
 dsimp only [Vw.d, List.map]
 refine Au hT Tryz.func35 Tryz.ntmps35 [] fun B => ?_
 repeat' first | refine kz ?_ | refine Ae [0] (n1) ?_ | refine Ae [0] (c2) ?_ | refine Ae [0] (c3) ?_ | refine kf ?_ | exact k0 | refine Ab ?_
 all_goals rfl
theorem cG (t : Tape) (v : Vw) (hv : v.ok) (z : Nat) (t1 : Tape) (jv : t1.ok) (n1 : HC 30 [.c (.bp 0 0 0), .c (.d (.lit (.int .i64 13)))] [(tB t)] (iC z) [(tB t1)]) (hz : z = 5) : ∃ (v' : Vw) (t' : Tape), t'.ok ∧ v'.near ∧ v'.items = [] ∧ Zi t v v' t' := by
 obtain ⟨-, h1, h2, -, -, h3, -, hx⟩ := hv
 subst hz
 refine ⟨{ v with items := [] }, t1, jv, ⟨by simp, by dsimp only; omega, h3⟩, rfl, ?_⟩
 unfold Zi L9
 dsimp only [Vw.d, List.map]
 refine Au hT Tryz.func35 Tryz.ntmps35 [] fun B => ?_
 repeat' first | refine kz ?_ | refine Ae [0] (n1) ?_ | refine kf ?_ | exact k0 | refine Ab ?_ | refine AJ ?_
 all_goals rfl
theorem cH (t : Tape) (v : Vw) (hv : v.ok) (z : Nat) (t1 : Tape) (jv : t1.ok) (n1 : HC 30 [.c (.bp 0 0 0), .c (.d (.lit (.int .i64 13)))] [(tB t)] (iC z) [(tB t1)]) (hz : z = 6) : ∃ (v' : Vw) (t' : Tape), t'.ok ∧ v'.near ∧ Ec t v v' t' := by
 obtain ⟨-, h1, h2, -, -, h3, -, hx⟩ := hv
 subst hz
 refine ⟨{ v with distinct := !v.distinct }, t1, jv, ⟨by dsimp only; omega, by dsimp only; omega, h3⟩, ?_⟩
 unfold Ec L9
 dsimp only [Vw.d, List.map]
 refine Au hT Tryz.func35 Tryz.ntmps35 [] fun B => ?_
 repeat' first | refine kz ?_ | refine Ae [0] (n1) ?_ | refine kf ?_ | exact k0 | refine Ab ?_
 all_goals rfl
theorem cI (t : Tape) (v : Vw) (hv : v.ok) (z : Nat) (t1 : Tape) (jv : t1.ok) (n1 : HC 30 [.c (.bp 0 0 0), .c (.d (.lit (.int .i64 13)))] [(tB t)] (iC z) [(tB t1)]) (hz : z = 7) : ∃ (v' : Vw) (t' : Tape), t'.ok ∧ v'.near ∧ Ec t v v' t' := by
 obtain ⟨-, h1, h2, -, -, h3, -, hx⟩ := hv
 subst hz
 obtain ⟨q, t2, jr, hq, n2⟩ := A5 t1 7 jv (by omega) (by omega)
 obtain ⟨e, t3, kl, -, c3⟩ := Im 3 (by omega) (by omega) 2 t2 jr (by omega)
 refine ⟨{ v with aggs := v.aggs ++ [⟨⟨#[121, 48]⟩, (q : Int) - 1, e⟩] }, t3, kl, ⟨by dsimp only; omega, by simp; omega, h3⟩, ?_⟩
 have hZ : (v.aggs ++ [⟨⟨#[121, 48]⟩, (q : Int) - 1, e⟩] : List Agg).map Agg.d = v.aggs.map Agg.d ++ [Agg.d ⟨⟨#[121, 48]⟩, (q : Int) - 1, e⟩] := by simp
 have wD : (v.aggs ++ [⟨⟨#[121, 48]⟩, (q : Int) - 1, e⟩] : List Agg).length = v.aggs.length + 1 := by simp
 have jM : (v.aggs.map Agg.d).length = v.aggs.length := by simp
 unfold Ec L9
 dsimp only [Vw.d, List.map]
 refine Au hT Tryz.func35 Tryz.ntmps35 [] fun B => ?_
 rw [hZ, wD]
 repeat' first | refine Ti ?_ | refine HZ (dr := true) ?_ | refine D0 (dr := true) ?_ | refine D1 (dr := true) ?_ | refine Cc (dr := true) ?_ | refine El (dr := true) 0 n2 ?_ | refine KO (dr := true) 0 c3 ?_ | refine kz ?_ | refine Ae [0] (n1) ?_ | refine Ep Ad ?_ | exact k0 | refine Ab ?_
 all_goals rfl
theorem cJ (t : Tape) (v : Vw) (hv : v.ok) (z : Nat) (t1 : Tape) (jv : t1.ok) (n1 : HC 30 [.c (.bp 0 0 0), .c (.d (.lit (.int .i64 13)))] [(tB t)] (iC z) [(tB t1)]) (hz : z = 9) : ∃ (v' : Vw) (t' : Tape), t'.ok ∧ v'.near ∧ Ec t v v' t' := by
 obtain ⟨-, h1, h2, -, -, h3, -, hx⟩ := hv
 subst hz
 obtain ⟨q, t2, jr, hq, n2⟩ := A5 t1 3 jv (by omega) (by omega)
 obtain ⟨s, hs⟩ : ∃ s, ([[.lit (.string ⟨#[120, 48]⟩)], [.lit (.string ⟨#[]⟩)], [.lit (.string ⟨#[113]⟩)]] : List (List Dat))[q]? = some [.lit (.string s)] := by
  match q, hq with
  | 0, _ => exact ⟨_, rfl⟩
  | 1, _ => exact ⟨_, rfl⟩
  | 2, _ => exact ⟨_, rfl⟩
  | q + 3, h => omega
 obtain ⟨e, t3, kl, -, c3⟩ := Im 5 (by omega) (by omega) 2 t2 jr (by omega)
 refine ⟨{ v with items := v.items ++ [⟨s, e⟩] }, t3, kl, ⟨by simp; omega, by dsimp only; omega, h3⟩, ?_⟩
 have hZ : (v.items ++ [⟨s, e⟩] : List Itm).map Itm.d = v.items.map Itm.d ++ [Itm.d ⟨s, e⟩] := by simp
 have wD : (v.items ++ [⟨s, e⟩] : List Itm).length = v.items.length + 1 := by simp
 have jM : (v.items.map Itm.d).length = v.items.length := by simp
 unfold Ec L9
 dsimp only [Vw.d, List.map]
 refine Au hT Tryz.func35 Tryz.ntmps35 [] fun B => ?_
 rw [hZ, wD]
 repeat' first | refine Ti ?_ | refine HZ (dr := true) ?_ | refine D0 (dr := true) ?_ | refine D1 (dr := true) ?_ | refine Cc (dr := true) ?_ | refine El (dr := true) 0 n2 ?_ | refine KO (dr := true) 0 c3 ?_ | refine kz ?_ | refine AF hs ?_ | refine Ao ?_ | refine Ae [0] (n1) ?_ | refine Ep Ad ?_ | exact k0 | refine Ab ?_
 all_goals rfl
theorem Zj (t : Tape) (v : Vw) (hv : v.ok) (z : Nat) (t1 : Tape) (jv : t1.ok) (n1 : HC 30 [.c (.bp 0 0 0), .c (.d (.lit (.int .i64 13)))] [(tB t)] (iC z) [(tB t1)]) (hz : z = 10) : ∃ (v' : Vw) (t' : Tape), t'.ok ∧ v'.near ∧ Ec t v v' t' := by
 obtain ⟨-, h1, h2, -, -, h3, -, hx⟩ := hv
 subst hz
 obtain ⟨q, t2, jr, hq, n2⟩ := A5 t1 3 jv (by omega) (by omega)
 obtain ⟨s, hs⟩ : ∃ s, ([[.lit (.string ⟨#[116, 48]⟩)], [.lit (.string ⟨#[118, 48]⟩)], [.lit (.string ⟨#[86]⟩)]] : List (List Dat))[q]? = some [.lit (.string s)] := by
  match q, hq with
  | 0, _ => exact ⟨_, rfl⟩
  | 1, _ => exact ⟨_, rfl⟩
  | 2, _ => exact ⟨_, rfl⟩
  | q + 3, h => omega
 refine ⟨{ v with name := s }, t2, jr, ⟨by dsimp only; omega, by dsimp only; omega, h3⟩, ?_⟩
 unfold Ec L9
 dsimp only [Vw.d, List.map]
 refine Au hT Tryz.func35 Tryz.ntmps35 [] fun B => ?_
 repeat' first | refine kz ?_ | refine AF hs ?_ | refine Ao ?_ | refine Ae [0] (n1) ?_ | refine Ae [0] (n2) ?_ | refine kf ?_ | exact k0 | refine Ab ?_
 all_goals rfl
theorem Zk (t : Tape) (v : Vw) (hv : v.ok) (z : Nat) (t1 : Tape) (jv : t1.ok) (n1 : HC 30 [.c (.bp 0 0 0), .c (.d (.lit (.int .i64 13)))] [(tB t)] (iC z) [(tB t1)]) (hz : 11 ≤ z) : ∃ (v' : Vw) (t' : Tape), t'.ok ∧ v'.near ∧ Ec t v v' t' := by
 obtain ⟨-, h1, h2, -, -, h3, -, hx⟩ := hv
 cases uH : v.items with
 | nil =>
   refine ⟨v, t1, jv, ⟨by omega, by omega, h3⟩, ?_⟩
   unfold Ec L9
   dsimp only [Vw.d, List.map]
   rw [uH]
   refine Au hT Tryz.func35 Tryz.ntmps35 [] fun B => ?_
   repeat' first | refine kz ?_ | refine Ae [0] (n1) ?_ | refine kf ?_ | exact k0 | refine Ab ?_
   all_goals rfl
 | cons it p9 =>
   obtain ⟨e', t2, jr, -, c2⟩ := QG t1 it.expr jv (by have := hx it (by rw [uH]; simp); omega)
   rw [uH] at h1
   refine ⟨{ v with items := ⟨it.name, e'⟩ :: p9 }, t2, jr, ⟨by simp at h1 ⊢; omega, by dsimp only; omega, h3⟩, ?_⟩
   unfold Ec L9
   dsimp only [Vw.d, List.map]
   rw [uH]
   have mj : (it :: p9).length = p9.length + 1 := rfl
   have aa4 : (⟨it.name, e'⟩ :: p9 : List Itm).length = p9.length + 1 := rfl
   refine Au hT Tryz.func35 Tryz.ntmps35 [] fun B => ?_
   repeat' first | refine HZ (dr := true) ?_ | refine D0 (dr := true) ?_ | refine D1 (dr := true) ?_ | refine El (dr := true) 0 c2 ?_ | refine WR (dr := true) ?_ | refine VM (dr := true) ?_ | refine VN (dr := true) (e := it.d) ?_ rfl | refine WQ (dr := true) (e := it.d) ?_ (hj := rfl) | refine kz ?_ | refine Ae [0] (n1) ?_ | refine Ep Ad ?_ | exact k0 | refine Ab ?_
   all_goals rfl
theorem cK (t : Tape) (v : Vw) (hv : v.ok) (z : Nat) (t1 : Tape) (jv : t1.ok) (n1 : HC 30 [.c (.bp 0 0 0), .c (.d (.lit (.int .i64 13)))] [(tB t)] (iC z) [(tB t1)]) (hz : z = 8) : ∃ (v' : Vw) (t' : Tape), t'.ok ∧ v'.near ∧ Ec t v v' t' := by
 obtain ⟨-, h1, h2, -, -, h3, -, hx⟩ := hv
 subst hz
 have pk : ∀ k : Nat, v.items.length + k ≤ 9 → ∃ (f : Nat → Itm) (ts : Nat → Tape), ts 0 = t1 ∧ (ts k).ok ∧ ∀ i, i < k → (f i).name = (⟨#[122]⟩ : ByteArray) ++ (⟨#[UInt8.ofNat (48 + (v.items.length + i))]⟩ : ByteArray) ∧ HC 31 [.c (.bp 0 0 0), (iC 1), (iC 2)] [(tB ((ts i)))] (.c (.d (AW (f i).expr))) [(.box 0 [.d (Ds ((ts (i + 1))).l), .d (.lit (.int .i64 ((ts (i + 1))).at_))])] := by
  intro k
  induction k with
  | zero => intro _; exact ⟨fun _ => ⟨⟨#[]⟩, []⟩, fun _ => t1, rfl, jv, fun i hi => by omega⟩
  | succ k ih =>
    intro hk
    obtain ⟨f, ts, e0, qj, hf⟩ := ih (by omega)
    obtain ⟨e, t3, kl, -, c3⟩ := Im 2 (by omega) (by omega) 1 (ts k) qj (by omega)
    refine ⟨fun i => if i = k then ⟨(⟨#[122]⟩ : ByteArray) ++ (⟨#[UInt8.ofNat (48 + (v.items.length + k))]⟩ : ByteArray), e⟩ else f i, fun i => if i = k + 1 then t3 else ts i, by simp [e0], by simp [kl], fun i hi => ?_⟩
    by_cases kF : i = k
    · subst kF
      refine ⟨by simp, ?_⟩
      simp only [show ¬ i = i + 1 by omega, if_false, if_true]; exact c3
    · have := hf i (by omega)
      simp only [kF, show ¬ i = k + 1 by omega, show ¬ i + 1 = k + 1 by omega, if_false]
      exact this
 obtain ⟨f, ts, e0, sx, hf⟩ := pk (9 - (v.items.length + v.aggs.length)) (by omega)
 clear pk
 generalize hw : 9 - (v.items.length + v.aggs.length) = w at sx hf
 refine ⟨{ v with items := v.items ++ (List.range w).map f }, ts w, sx, ⟨by simp; omega, by dsimp only; omega, h3⟩, ?_⟩
 unfold Ec L9
 dsimp only [Vw.d, List.map]
 have kJ : (v.items.map Itm.d).length = v.items.length := by simp
 have jM : (v.aggs.map Agg.d).length = v.aggs.length := by simp
 refine Au hT Tryz.func35 Tryz.ntmps35 [] fun B => ?_
 repeat' first | refine kz ?_ | refine Ae [0] (n1) ?_ | refine kf ?_ | exact k0 | refine Ab ?_ | refine m1 ?_ ?_
 refine AK (X := Nat × Nat × Tape) (List.range' 137 30) (fun x => x.1 ≤ w ∧ x.2.2 = ts x.1) (fun x lz => lz) (fun x => [(tB x.2.2), L9 v (.arr 2 x.2.1 (v.items.length + x.1)) (.arr 3 (0 + 1 + 1) v.aggs.length), .arr x.2.1 86 2 ((v.items ++ (List.range x.1).map f).map Itm.d), .arr (0 + 1 + 1) 49 3 (v.aggs.map Agg.d)]) (fun x => w - x.1) ((0, 0 + 1, t1)) ?_ ?_ ?_ ?_
 repeat' first | exact k0 | refine kw ?_ | refine kv ?_ ?_ | omega
 all_goals try (first | rfl | exact ⟨Nat.zero_le _, e0.symm⟩ | (simp; done))
 rintro ⟨i, k, T'⟩ c ⟨hi, kI⟩
 dsimp only at hi kI ⊢
 by_cases i7 : i < w
 ·obtain ⟨lV, c3⟩ := hf i i7
  have od := Ou (⟨#[122]⟩ : ByteArray) (by decide) (v.items.length + i) (by omega)
  rw [← lV] at od
  rw [← kI] at c3
  have hs : (v.items ++ (List.range i).map f).map Itm.d ++ [Itm.d (f i)] = (v.items ++ (List.range (i + 1)).map f).map Itm.d := by rw [aY]; simp
  have mj : ((v.items ++ (List.range i).map f).map Itm.d).length = v.items.length + i := by simp
  generalize f i = it at hs od c3
  obtain ⟨nm, e⟩ := it
  dsimp only at od c3
  unfold L9
  generalize (v.items ++ (List.range i).map f).map Itm.d = A at hs mj ⊢
  generalize hZ : (v.items ++ (List.range (i + 1)).map f).map Itm.d = Z at hs
  generalize kU : ts (i + 1) = T2 at c3
  refine SZ 2 fun hr => ?_
  refine F2 ?_
  repeat' first | refine HZ (dr := true) ?_ | refine D0 (dr := true) ?_ | refine D1 (dr := true) ?_ | refine KO (dr := true) 0 c3 ?_ | refine Cc (dr := true) ?_ | refine VL (dr := true) ?_ | (refine GZ (dr := true) (ei := Zv) (k := k) (es := A) (ys := [Itm.d ⟨nm, e⟩]) (ji := Z) 2 (c + 1) (j := v.items.length + i) (m := v.items.length + i + 1) ?_ (by omega) (by omega) (by omega) rfl (by simp only [maxLen]; omega) (by simp only [Zv]; omega) (AI rfl Bc) (by rw [Ah (by omega)]; exact hs)) | refine kz ?_ | refine Aa (od) ?_ | refine Ep Ad ?_ | exact k0 | refine Ab ?_ | refine m1 ?_ ?_
  apply Af ((i + 1, c + 1, T2)) <;> (try dsimp only) <;> try repeat' first | exact k0 | refine kw ?_ | refine kv ?_ ?_ | omega
  all_goals first
    | exact ⟨by omega, kU.symm⟩
    | (unfold L9; rfl)
    | exact hZ.symm
    | skip
 ·obtain rfl : i = w := by omega
  rw [kI]
  unfold L9
  have mj : (v.items ++ (List.range i).map f).length = v.items.length + i := by simp
  rw [mj]
  repeat' first | refine HZ (dr := true) ?_ | refine D0 (dr := true) ?_ | refine D1 (dr := true) ?_ | refine VL (dr := true) ?_ | refine kz ?_ | refine Ep Ad ?_ | exact k0 | refine Ab ?_ | refine m1 ?_ ?_
  all_goals rfl
theorem XB {P : Program} {B : Base} {os : Array Oper} {d : Bool} {σ : St} {Q : Ex → St → Prop} (h : ARun P B (.region 2 os d) σ Q) : ARun P B (.region 2 os d) σ Q := h
theorem fg (t : Tape) (v : Vw) (ht : t.ok) (hv : v.ok) : ∃ (v' : Vw) (t' : Tape), t'.ok ∧ v'.near ∧ (Ec t v v' t' ∨ (v'.items = [] ∧ Zi t v v' t')) := by
 obtain ⟨z, t1, jv, hz, n1⟩ := A5 t 13 ht (by omega) (by omega)
 have key : z = 0 ∨ z = 1 ∨ z = 2 ∨ z = 3 ∨ z = 4 ∨ z = 5 ∨ z = 6 ∨ z = 7 ∨ z = 8 ∨ z = 9 ∨ z = 10 ∨ 11 ≤ z := by omega
 have two : ∀ {p q : Vw → Tape → Prop}, (∃ (v' : Vw) (t' : Tape), t'.ok ∧ v'.near ∧ p v' t') → (∀ v' t', p v' t' → q v' t') → ∃ (v' : Vw) (t' : Tape), t'.ok ∧ v'.near ∧ q v' t' := fun ⟨a, b, c, d, e⟩ h => ⟨a, b, c, d, h a b e⟩
 rcases key with h | h | h | h | h | h | h | h | h | h | h | h
 ·exact two (cB t v hv z t1 jv n1 h) fun _ _ => .inl
 ·exact two (cC t v hv z t1 jv n1 h) fun _ _ => .inl
 ·exact two (cD t v hv z t1 jv n1 h) fun _ _ => .inl
 ·exact two (cE t v hv z t1 jv n1 h) fun _ _ => .inl
 ·exact two (cF t v hv z t1 jv n1 h) fun _ _ => .inl
 ·exact two (cG t v hv z t1 jv n1 h) fun _ _ => .inr
 ·exact two (cH t v hv z t1 jv n1 h) fun _ _ => .inl
 ·exact two (cI t v hv z t1 jv n1 h) fun _ _ => .inl
 ·exact two (cK t v hv z t1 jv n1 h) fun _ _ => .inl
 ·exact two (cJ t v hv z t1 jv n1 h) fun _ _ => .inl
 ·exact two (Zj t v hv z t1 jv n1 h) fun _ _ => .inl
 ·exact two (Zk t v hv z t1 jv n1 h) fun _ _ => .inl
theorem QH (t : Tape) (v : Vw) (ht : t.ok) (hv : v.ok) : ∃ (v' : Vw) (t' : Tape), t'.ok ∧ v'.near ∧ HC 13 [.c (.bp 0 0 0), .agg (v.d.map .d)] [(tB t)] (.agg (v'.d.map .d)) [(tB t')] := by
 obtain ⟨v', t', nP, hn, h⟩ := fg t v ht hv
 refine ⟨v', t', nP, hn, ?_⟩
 rcases h with h | ⟨hi, h⟩
 ·unfold Ec L9 at h
  dsimp only [Vw.d, List.map] at h ⊢
  refine Au hT Tryz.func13 Tryz.ntmps13 [.cell 4 30] fun B => ?_
  repeat' first | ((with_reducible (refine XB ?_)); refine Ht 1 6 3 (lH := v'.items.map Itm.d) ?_ rfl rfl rfl (by simp) (Ah (by simp)) rfl; refine Ht 1 8 4 (lH := v'.aggs.map Agg.d) ?_ rfl rfl rfl (by simp) (Ah (by simp)) rfl) | refine kz ?_ | refine Ae [0, 1] (h) ?_ | refine CM Ad ?_ ?_ | (refine IA ?_; (repeat' (first | exact trivial | refine And.intro (Or.inl rfl) ?_ | refine And.intro (Or.inr ⟨_, rfl, rfl⟩) ?_))) | exact k0 | refine Ab ?_
  all_goals rfl
 ·unfold Zi L9 at h
  dsimp only [Vw.d, List.map] at h ⊢
  rw [hi]
  refine Au hT Tryz.func13 Tryz.ntmps13 [.cell 4 30] fun B => ?_
  repeat' first | ((with_reducible (refine XB ?_)); refine Ht 1 8 4 (lH := v'.aggs.map Agg.d) ?_ rfl rfl rfl (by simp) (Ah (by simp)) rfl) | refine kz ?_ | refine Ae [0, 1] (h) ?_ | refine CM Ad ?_ ?_ | (refine IA ?_; (repeat' (first | exact trivial | refine And.intro (Or.inl rfl) ?_ | refine And.intro (Or.inr ⟨_, rfl, rfl⟩) ?_))) | exact k0 | refine Ab ?_
  all_goals rfl
end Go.Proofs.YtmpgmjlanngkfaaGreat
end
