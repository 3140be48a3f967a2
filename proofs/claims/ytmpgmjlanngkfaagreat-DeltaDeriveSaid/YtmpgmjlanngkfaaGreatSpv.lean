/-
  The tape: SpoilView.
-/
import Derived.Test.YtmpgmjlanngkfaaGreatAvw
import Derived.Test.YtmpgmjlanngkfaaGreatSpe
import Derived.Test.YtmpgmjlanngkfaaGreatArw
section
namespace Go.Proofs.YtmpgmjlanngkfaaGreat
open Go.Abs Go.RowKit
attribute [local irreducible] ARun At MCall PCall HCall Am SF CF CFs Ah Aj Ar fin AW VLe
set_option linter.unusedSimpArgs false
set_option maxRecDepth 100000
set_option maxHeartbeats 4000000
theorem Qw {P : Program} {B : Base} {n : Nat} {sl : List (Nat × SVal)} {mem : List Blk} {ck : Nat} {df : List (FuncId × List Cell)} {Q : Ex → St → Prop} {c : Code} (h : ARun P B c ⟨n, sl, mem, 3, df⟩ Q) (hc : ck = 2 := by exact rfl) : ARun P B c ⟨n, sl, mem, ck, df⟩ Q := by
 subst hc; exact G0 h
structure Vw.near (v : Vw) : Prop where
 items : v.items.length ≤ 9
 aggs : v.aggs.length ≤ 4
 onl : v.on.length ≤ 2
def Km (v : Vw) (i a : Cell) : Blk := .box 0 [.d (.lit (.string v.name)), .d (.lit (.int .i64 v.kind)), .d (.lit (.string v.left)), .d (.lit (.string v.right)), .d (RX v.on), .d (AK v.wher), i, .d (.lit (.bool v.distinct)), a]
def Dz (t : Tape) (v v' : Vw) (t' : Tape) : Prop :=
 HCall Tryz.prog 35 [.c (.bp 0 0 0), .c (.bp 1 0 0)] [(.box 0 [.d (Ax (t).l), .d (.lit (.int .i64 (t).at_))]), .box 0 (v.d.map .d)] (.tup []) [(.box 0 [.d (Ax (t').l), .d (.lit (.int .i64 (t').at_))]), Km v' (.arr 2 1 v'.items.length) (.arr 3 1 v'.aggs.length), .arr 1 86 2 (v'.items.map Itm.d), .arr 1 49 3 (v'.aggs.map Agg.d)]
def VQ (t : Tape) (v v' : Vw) (t' : Tape) : Prop :=
 HCall Tryz.prog 35 [.c (.bp 0 0 0), .c (.bp 1 0 0)] [(.box 0 [.d (Ax (t).l), .d (.lit (.int .i64 (t).at_))]), .box 0 (v.d.map .d)] (.tup []) [(.box 0 [.d (Ax (t').l), .d (.lit (.int .i64 (t').at_))]), Km v' .emp (.arr 3 1 v'.aggs.length), .dead, .arr 1 49 3 (v'.aggs.map Agg.d)]
theorem XZ (t : Tape) (v : Vw) (hv : v.ok) (z : Nat) (t1 : Tape) (ok1 : t1.ok) (n1 : HCall Tryz.prog 30 [.c (.bp 0 0 0), .c (.d (.lit (.int .i64 13)))] [(.box 0 [.d (Ax (t).l), .d (.lit (.int .i64 (t).at_))])] (.c (.d (.lit (.int .i64 z)))) [(.box 0 [.d (Ax (t1).l), .d (.lit (.int .i64 (t1).at_))])]) (hz : z = 0) : ∃ (v' : Vw) (t' : Tape), t'.ok ∧ v'.near ∧ Dz t v v' t' := by
 obtain ⟨-, h1, h2, -, -, h3, -, hx⟩ := hv
 subst hz
 obtain ⟨q, t2, ok2, hq, n2⟩ := AV t1 5 ok1 (by omega) (by omega)
 refine ⟨{ v with kind := (q : Int) - 1 }, t2, ok2, ⟨by dsimp only; omega, by dsimp only; omega, h3⟩, ?_⟩
 unfold Dz Km
 dsimp only [Vw.d, List.map]
 refine As hT Tryz.func35 Tryz.ntmps35 [] fun B => ?_
 repeat' (first | refine kz ?_ | refine Ad [0] (n1) ?_ | refine Ad [0] (n2) ?_ | refine kf ?_ | exact k0 | refine Ab ?_)
 all_goals rfl
theorem X0 (t : Tape) (v : Vw) (hv : v.ok) (z : Nat) (t1 : Tape) (ok1 : t1.ok) (n1 : HCall Tryz.prog 30 [.c (.bp 0 0 0), .c (.d (.lit (.int .i64 13)))] [(.box 0 [.d (Ax (t).l), .d (.lit (.int .i64 (t).at_))])] (.c (.d (.lit (.int .i64 z)))) [(.box 0 [.d (Ax (t1).l), .d (.lit (.int .i64 (t1).at_))])]) (hz : z = 1) : ∃ (v' : Vw) (t' : Tape), t'.ok ∧ v'.near ∧ Dz t v v' t' := by
 obtain ⟨-, h1, h2, -, -, h3, -, hx⟩ := hv
 subst hz
 obtain ⟨q, t2, ok2, hq, n2⟩ := AV t1 4 ok1 (by omega) (by omega)
 obtain ⟨s, hs⟩ : ∃ s, ([[.lit (.string ⟨#[]⟩)], [.lit (.string v.name)], [.lit (.string ⟨#[116, 48]⟩)], [.lit (.string ⟨#[110, 111, 110, 101]⟩)]] : List (List Dat))[q]? = some [.lit (.string s)] := by
  match q, hq with
  | 0, _ => exact ⟨_, rfl⟩
  | 1, _ => exact ⟨_, rfl⟩
  | 2, _ => exact ⟨_, rfl⟩
  | 3, _ => exact ⟨_, rfl⟩
  | q + 4, h => omega
 refine ⟨{ v with left := s }, t2, ok2, ⟨by dsimp only; omega, by dsimp only; omega, h3⟩, ?_⟩
 unfold Dz Km
 dsimp only [Vw.d, List.map]
 refine As hT Tryz.func35 Tryz.ntmps35 [] fun B => ?_
 repeat' (first | refine GO (dr := true) ?_ | refine Dq (dr := true) ?_ | refine Dr (dr := true) ?_ | refine BS (dr := true) ?_ | refine E3 (dr := true) 0 n2 ?_ | refine kz ?_ | refine kx hs ?_ | refine ki ?_ | refine Ad [0] (n1) ?_ | refine Em Af ?_ | exact k0 | refine Ab ?_)
 all_goals rfl
theorem X1 (t : Tape) (v : Vw) (hv : v.ok) (z : Nat) (t1 : Tape) (ok1 : t1.ok) (n1 : HCall Tryz.prog 30 [.c (.bp 0 0 0), .c (.d (.lit (.int .i64 13)))] [(.box 0 [.d (Ax (t).l), .d (.lit (.int .i64 (t).at_))])] (.c (.d (.lit (.int .i64 z)))) [(.box 0 [.d (Ax (t1).l), .d (.lit (.int .i64 (t1).at_))])]) (hz : z = 2) : ∃ (v' : Vw) (t' : Tape), t'.ok ∧ v'.near ∧ Dz t v v' t' := by
 obtain ⟨-, h1, h2, -, -, h3, -, hx⟩ := hv
 subst hz
 obtain ⟨q, t2, ok2, hq, n2⟩ := AV t1 4 ok1 (by omega) (by omega)
 obtain ⟨s, hs⟩ : ∃ s, ([[.lit (.string ⟨#[]⟩)], [.lit (.string v.name)], [.lit (.string ⟨#[116, 48]⟩)], [.lit (.string ⟨#[110, 111, 110, 101]⟩)]] : List (List Dat))[q]? = some [.lit (.string s)] := by
  match q, hq with
  | 0, _ => exact ⟨_, rfl⟩
  | 1, _ => exact ⟨_, rfl⟩
  | 2, _ => exact ⟨_, rfl⟩
  | 3, _ => exact ⟨_, rfl⟩
  | q + 4, h => omega
 refine ⟨{ v with right := s }, t2, ok2, ⟨by dsimp only; omega, by dsimp only; omega, h3⟩, ?_⟩
 unfold Dz Km
 dsimp only [Vw.d, List.map]
 refine As hT Tryz.func35 Tryz.ntmps35 [] fun B => ?_
 repeat' (first | refine GO (dr := true) ?_ | refine Dq (dr := true) ?_ | refine Dr (dr := true) ?_ | refine BS (dr := true) ?_ | refine E3 (dr := true) 0 n2 ?_ | refine kz ?_ | refine kx hs ?_ | refine ki ?_ | refine Ad [0] (n1) ?_ | refine Em Af ?_ | exact k0 | refine Ab ?_)
 all_goals rfl
theorem X2 (t : Tape) (v : Vw) (hv : v.ok) (z : Nat) (t1 : Tape) (ok1 : t1.ok) (n1 : HCall Tryz.prog 30 [.c (.bp 0 0 0), .c (.d (.lit (.int .i64 13)))] [(.box 0 [.d (Ax (t).l), .d (.lit (.int .i64 (t).at_))])] (.c (.d (.lit (.int .i64 z)))) [(.box 0 [.d (Ax (t1).l), .d (.lit (.int .i64 (t1).at_))])]) (hz : z = 3) : ∃ (v' : Vw) (t' : Tape), t'.ok ∧ v'.near ∧ Dz t v v' t' := by
 obtain ⟨-, h1, h2, -, -, h3, -, hx⟩ := hv
 subst hz
 obtain ⟨q, t2, ok2, hq, n2⟩ := AV t1 5 ok1 (by omega) (by omega)
 obtain ⟨r, t3, ok3, hr, n3⟩ := AV t2 5 ok2 (by omega) (by omega)
 refine ⟨{ v with on := [((q : Int) - 1, (r : Int) - 1)] }, t3, ok3, ⟨by dsimp only; omega, by dsimp only; omega, by simp⟩, ?_⟩
 unfold Dz Km
 dsimp only [Vw.d, List.map]
 refine As hT Tryz.func35 Tryz.ntmps35 [] fun B => ?_
 repeat' (first | refine kz ?_ | refine Ad [0] (n1) ?_ | refine Ad [0] (n2) ?_ | refine Ad [0] (n3) ?_ | refine NW ?_ | refine kf ?_ | exact k0 | refine Ab ?_)
 all_goals rfl
theorem X3 (t : Tape) (v : Vw) (hv : v.ok) (z : Nat) (t1 : Tape) (ok1 : t1.ok) (n1 : HCall Tryz.prog 30 [.c (.bp 0 0 0), .c (.d (.lit (.int .i64 13)))] [(.box 0 [.d (Ax (t).l), .d (.lit (.int .i64 (t).at_))])] (.c (.d (.lit (.int .i64 z)))) [(.box 0 [.d (Ax (t1).l), .d (.lit (.int .i64 (t1).at_))])]) (hz : z = 4) : ∃ (v' : Vw) (t' : Tape), t'.ok ∧ v'.near ∧ Dz t v v' t' := by
 obtain ⟨-, h1, h2, -, -, h3, -, hx⟩ := hv
 subst hz
 obtain ⟨e, t2, ok2, hel, c2⟩ := Hb 4 (by omega) (by omega) 2 t1 ok1 (by omega)
 obtain ⟨e', t3, ok3, -, c3⟩ := Oh t2 e ok2 (by have : 4 ^ 2 = 16 := rfl; omega)
 refine ⟨{ v with wher := e' }, t3, ok3, ⟨by dsimp only; omega, by dsimp only; omega, h3⟩, ?_⟩
 unfold Dz Km
 dsimp only [Vw.d, List.map]
 refine As hT Tryz.func35 Tryz.ntmps35 [] fun B => ?_
 repeat' (first | refine kz ?_ | refine Ad [0] (n1) ?_ | refine Ad [0] (c2) ?_ | refine Ad [0] (c3) ?_ | refine kf ?_ | exact k0 | refine Ab ?_)
 all_goals rfl
theorem X4 (t : Tape) (v : Vw) (hv : v.ok) (z : Nat) (t1 : Tape) (ok1 : t1.ok) (n1 : HCall Tryz.prog 30 [.c (.bp 0 0 0), .c (.d (.lit (.int .i64 13)))] [(.box 0 [.d (Ax (t).l), .d (.lit (.int .i64 (t).at_))])] (.c (.d (.lit (.int .i64 z)))) [(.box 0 [.d (Ax (t1).l), .d (.lit (.int .i64 (t1).at_))])]) (hz : z = 5) : ∃ (v' : Vw) (t' : Tape), t'.ok ∧ v'.near ∧ v'.items = [] ∧ VQ t v v' t' := by
 obtain ⟨-, h1, h2, -, -, h3, -, hx⟩ := hv
 subst hz
 refine ⟨{ v with items := [] }, t1, ok1, ⟨by simp, by dsimp only; omega, h3⟩, rfl, ?_⟩
 unfold VQ Km
 dsimp only [Vw.d, List.map]
 refine As hT Tryz.func35 Tryz.ntmps35 [] fun B => ?_
 repeat' (first | refine kz ?_ | refine Ad [0] (n1) ?_ | refine kf ?_ | exact k0 | refine Ab ?_ | refine AB ?_)
 all_goals rfl
theorem X5 (t : Tape) (v : Vw) (hv : v.ok) (z : Nat) (t1 : Tape) (ok1 : t1.ok) (n1 : HCall Tryz.prog 30 [.c (.bp 0 0 0), .c (.d (.lit (.int .i64 13)))] [(.box 0 [.d (Ax (t).l), .d (.lit (.int .i64 (t).at_))])] (.c (.d (.lit (.int .i64 z)))) [(.box 0 [.d (Ax (t1).l), .d (.lit (.int .i64 (t1).at_))])]) (hz : z = 6) : ∃ (v' : Vw) (t' : Tape), t'.ok ∧ v'.near ∧ Dz t v v' t' := by
 obtain ⟨-, h1, h2, -, -, h3, -, hx⟩ := hv
 subst hz
 refine ⟨{ v with distinct := !v.distinct }, t1, ok1, ⟨by dsimp only; omega, by dsimp only; omega, h3⟩, ?_⟩
 unfold Dz Km
 dsimp only [Vw.d, List.map]
 refine As hT Tryz.func35 Tryz.ntmps35 [] fun B => ?_
 repeat' (first | refine kz ?_ | refine Ad [0] (n1) ?_ | refine kf ?_ | exact k0 | refine Ab ?_)
 all_goals rfl
theorem X6 (t : Tape) (v : Vw) (hv : v.ok) (z : Nat) (t1 : Tape) (ok1 : t1.ok) (n1 : HCall Tryz.prog 30 [.c (.bp 0 0 0), .c (.d (.lit (.int .i64 13)))] [(.box 0 [.d (Ax (t).l), .d (.lit (.int .i64 (t).at_))])] (.c (.d (.lit (.int .i64 z)))) [(.box 0 [.d (Ax (t1).l), .d (.lit (.int .i64 (t1).at_))])]) (hz : z = 7) : ∃ (v' : Vw) (t' : Tape), t'.ok ∧ v'.near ∧ Dz t v v' t' := by
 obtain ⟨-, h1, h2, -, -, h3, -, hx⟩ := hv
 subst hz
 obtain ⟨q, t2, ok2, hq, n2⟩ := AV t1 7 ok1 (by omega) (by omega)
 obtain ⟨e, t3, ok3, -, c3⟩ := Hb 3 (by omega) (by omega) 2 t2 ok2 (by omega)
 refine ⟨{ v with aggs := v.aggs ++ [⟨⟨#[121, 48]⟩, (q : Int) - 1, e⟩] }, t3, ok3, ⟨by dsimp only; omega, by simp; omega, h3⟩, ?_⟩
 have hZ : (v.aggs ++ [⟨⟨#[121, 48]⟩, (q : Int) - 1, e⟩] : List Agg).map Agg.d = v.aggs.map Agg.d ++ [Agg.d ⟨⟨#[121, 48]⟩, (q : Int) - 1, e⟩] := by simp
 have hZl : (v.aggs ++ [⟨⟨#[121, 48]⟩, (q : Int) - 1, e⟩] : List Agg).length = v.aggs.length + 1 := by simp
 have hal : (v.aggs.map Agg.d).length = v.aggs.length := by simp
 unfold Dz Km
 dsimp only [Vw.d, List.map]
 refine As hT Tryz.func35 Tryz.ntmps35 [] fun B => ?_
 rw [hZ, hZl]
 repeat' (first | refine Qw ?_ | refine GO (dr := true) ?_ | refine Dq (dr := true) ?_ | refine Dr (dr := true) ?_ | refine BS (dr := true) ?_ | refine E3 (dr := true) 0 n2 ?_ | refine Jv (dr := true) 0 c3 ?_ | refine kz ?_ | refine Ad [0] (n1) ?_ | refine Em Af ?_ | exact k0 | refine Ab ?_)
 all_goals rfl
theorem X7 (t : Tape) (v : Vw) (hv : v.ok) (z : Nat) (t1 : Tape) (ok1 : t1.ok) (n1 : HCall Tryz.prog 30 [.c (.bp 0 0 0), .c (.d (.lit (.int .i64 13)))] [(.box 0 [.d (Ax (t).l), .d (.lit (.int .i64 (t).at_))])] (.c (.d (.lit (.int .i64 z)))) [(.box 0 [.d (Ax (t1).l), .d (.lit (.int .i64 (t1).at_))])]) (hz : z = 9) : ∃ (v' : Vw) (t' : Tape), t'.ok ∧ v'.near ∧ Dz t v v' t' := by
 obtain ⟨-, h1, h2, -, -, h3, -, hx⟩ := hv
 subst hz
 obtain ⟨q, t2, ok2, hq, n2⟩ := AV t1 3 ok1 (by omega) (by omega)
 obtain ⟨s, hs⟩ : ∃ s, ([[.lit (.string ⟨#[120, 48]⟩)], [.lit (.string ⟨#[]⟩)], [.lit (.string ⟨#[113]⟩)]] : List (List Dat))[q]? = some [.lit (.string s)] := by
  match q, hq with
  | 0, _ => exact ⟨_, rfl⟩
  | 1, _ => exact ⟨_, rfl⟩
  | 2, _ => exact ⟨_, rfl⟩
  | q + 3, h => omega
 obtain ⟨e, t3, ok3, -, c3⟩ := Hb 5 (by omega) (by omega) 2 t2 ok2 (by omega)
 refine ⟨{ v with items := v.items ++ [⟨s, e⟩] }, t3, ok3, ⟨by simp; omega, by dsimp only; omega, h3⟩, ?_⟩
 have hZ : (v.items ++ [⟨s, e⟩] : List Itm).map Itm.d = v.items.map Itm.d ++ [Itm.d ⟨s, e⟩] := by simp
 have hZl : (v.items ++ [⟨s, e⟩] : List Itm).length = v.items.length + 1 := by simp
 have hal : (v.items.map Itm.d).length = v.items.length := by simp
 unfold Dz Km
 dsimp only [Vw.d, List.map]
 refine As hT Tryz.func35 Tryz.ntmps35 [] fun B => ?_
 rw [hZ, hZl]
 repeat' (first | refine Qw ?_ | refine GO (dr := true) ?_ | refine Dq (dr := true) ?_ | refine Dr (dr := true) ?_ | refine BS (dr := true) ?_ | refine E3 (dr := true) 0 n2 ?_ | refine Jv (dr := true) 0 c3 ?_ | refine kz ?_ | refine kx hs ?_ | refine ki ?_ | refine Ad [0] (n1) ?_ | refine Em Af ?_ | exact k0 | refine Ab ?_)
 all_goals rfl
theorem VR (t : Tape) (v : Vw) (hv : v.ok) (z : Nat) (t1 : Tape) (ok1 : t1.ok) (n1 : HCall Tryz.prog 30 [.c (.bp 0 0 0), .c (.d (.lit (.int .i64 13)))] [(.box 0 [.d (Ax (t).l), .d (.lit (.int .i64 (t).at_))])] (.c (.d (.lit (.int .i64 z)))) [(.box 0 [.d (Ax (t1).l), .d (.lit (.int .i64 (t1).at_))])]) (hz : z = 10) : ∃ (v' : Vw) (t' : Tape), t'.ok ∧ v'.near ∧ Dz t v v' t' := by
 obtain ⟨-, h1, h2, -, -, h3, -, hx⟩ := hv
 subst hz
 obtain ⟨q, t2, ok2, hq, n2⟩ := AV t1 3 ok1 (by omega) (by omega)
 obtain ⟨s, hs⟩ : ∃ s, ([[.lit (.string ⟨#[116, 48]⟩)], [.lit (.string ⟨#[118, 48]⟩)], [.lit (.string ⟨#[86]⟩)]] : List (List Dat))[q]? = some [.lit (.string s)] := by
  match q, hq with
  | 0, _ => exact ⟨_, rfl⟩
  | 1, _ => exact ⟨_, rfl⟩
  | 2, _ => exact ⟨_, rfl⟩
  | q + 3, h => omega
 refine ⟨{ v with name := s }, t2, ok2, ⟨by dsimp only; omega, by dsimp only; omega, h3⟩, ?_⟩
 unfold Dz Km
 dsimp only [Vw.d, List.map]
 refine As hT Tryz.func35 Tryz.ntmps35 [] fun B => ?_
 repeat' (first | refine kz ?_ | refine kx hs ?_ | refine ki ?_ | refine Ad [0] (n1) ?_ | refine Ad [0] (n2) ?_ | refine kf ?_ | exact k0 | refine Ab ?_)
 all_goals rfl
theorem VS (t : Tape) (v : Vw) (hv : v.ok) (z : Nat) (t1 : Tape) (ok1 : t1.ok) (n1 : HCall Tryz.prog 30 [.c (.bp 0 0 0), .c (.d (.lit (.int .i64 13)))] [(.box 0 [.d (Ax (t).l), .d (.lit (.int .i64 (t).at_))])] (.c (.d (.lit (.int .i64 z)))) [(.box 0 [.d (Ax (t1).l), .d (.lit (.int .i64 (t1).at_))])]) (hz : 11 ≤ z) : ∃ (v' : Vw) (t' : Tape), t'.ok ∧ v'.near ∧ Dz t v v' t' := by
 obtain ⟨-, h1, h2, -, -, h3, -, hx⟩ := hv
 cases hit : v.items with
 | nil =>
   refine ⟨v, t1, ok1, ⟨by omega, by omega, h3⟩, ?_⟩
   unfold Dz Km
   dsimp only [Vw.d, List.map]
   rw [hit]
   refine As hT Tryz.func35 Tryz.ntmps35 [] fun B => ?_
   repeat' (first | refine kz ?_ | refine Ad [0] (n1) ?_ | refine kf ?_ | exact k0 | refine Ab ?_)
   all_goals rfl
 | cons it its =>
   obtain ⟨e', t2, ok2, -, c2⟩ := Oh t1 it.expr ok1 (by have := hx it (by rw [hit]; simp); omega)
   rw [hit] at h1
   refine ⟨{ v with items := ⟨it.name, e'⟩ :: its }, t2, ok2, ⟨by simp at h1 ⊢; omega, by dsimp only; omega, h3⟩, ?_⟩
   unfold Dz Km
   dsimp only [Vw.d, List.map]
   rw [hit]
   have hll : (it :: its).length = its.length + 1 := rfl
   have hll2 : (⟨it.name, e'⟩ :: its : List Itm).length = its.length + 1 := rfl
   refine As hT Tryz.func35 Tryz.ntmps35 [] fun B => ?_
   repeat' (first | refine GO (dr := true) ?_ | refine Dq (dr := true) ?_ | refine Dr (dr := true) ?_ | refine E3 (dr := true) 0 c2 ?_ | refine TE (dr := true) ?_ | refine SA (dr := true) ?_ | refine SB (dr := true) (e := it.d) ?_ rfl | refine TB (dr := true) (e := it.d) ?_ (hj := rfl) | refine kz ?_ | refine Ad [0] (n1) ?_ | refine Em Af ?_ | exact k0 | refine Ab ?_)
   all_goals rfl
theorem X8 (t : Tape) (v : Vw) (hv : v.ok) (z : Nat) (t1 : Tape) (ok1 : t1.ok) (n1 : HCall Tryz.prog 30 [.c (.bp 0 0 0), .c (.d (.lit (.int .i64 13)))] [(.box 0 [.d (Ax (t).l), .d (.lit (.int .i64 (t).at_))])] (.c (.d (.lit (.int .i64 z)))) [(.box 0 [.d (Ax (t1).l), .d (.lit (.int .i64 (t1).at_))])]) (hz : z = 8) : ∃ (v' : Vw) (t' : Tape), t'.ok ∧ v'.near ∧ Dz t v v' t' := by
 obtain ⟨-, h1, h2, -, -, h3, -, hx⟩ := hv
 subst hz
 have hits : ∀ k : Nat, v.items.length + k ≤ 9 → ∃ (f : Nat → Itm) (ts : Nat → Tape), ts 0 = t1 ∧ (ts k).ok ∧ ∀ i, i < k → (f i).name = (⟨#[122]⟩ : ByteArray) ++ (⟨#[UInt8.ofNat (48 + (v.items.length + i))]⟩ : ByteArray) ∧ HCall Tryz.prog 31 [.c (.bp 0 0 0), (.c (.d (.lit (.int .i64 1)))), (.c (.d (.lit (.int .i64 2))))] [(.box 0 [.d (Ax ((ts i)).l), .d (.lit (.int .i64 ((ts i)).at_))])] (.c (.d (AK (f i).expr))) [(.box 0 [.d (Ax ((ts (i + 1))).l), .d (.lit (.int .i64 ((ts (i + 1))).at_))])] := by
  intro k
  induction k with
  | zero => intro _; exact ⟨fun _ => ⟨⟨#[]⟩, []⟩, fun _ => t1, rfl, ok1, fun i hi => by omega⟩
  | succ k ih =>
    intro hk
    obtain ⟨f, ts, e0, okk, hf⟩ := ih (by omega)
    obtain ⟨e, t3, ok3, -, c3⟩ := Hb 2 (by omega) (by omega) 1 (ts k) okk (by omega)
    refine ⟨fun i => if i = k then ⟨(⟨#[122]⟩ : ByteArray) ++ (⟨#[UInt8.ofNat (48 + (v.items.length + k))]⟩ : ByteArray), e⟩ else f i, fun i => if i = k + 1 then t3 else ts i, by simp [e0], by simp [ok3], fun i hi => ?_⟩
    by_cases him : i = k
    · subst him
      refine ⟨by simp, ?_⟩
      simp only [show ¬ i = i + 1 by omega, if_false, if_true]; exact c3
    · have := hf i (by omega)
      simp only [him, show ¬ i = k + 1 by omega, show ¬ i + 1 = k + 1 by omega, if_false]
      exact this
 obtain ⟨f, ts, e0, okw, hf⟩ := hits (9 - (v.items.length + v.aggs.length)) (by omega)
 clear hits
 generalize hw : 9 - (v.items.length + v.aggs.length) = w at okw hf
 refine ⟨{ v with items := v.items ++ (List.range w).map f }, ts w, okw, ⟨by simp; omega, by dsimp only; omega, h3⟩, ?_⟩
 unfold Dz Km
 dsimp only [Vw.d, List.map]
 have hil : (v.items.map Itm.d).length = v.items.length := by simp
 have hal : (v.aggs.map Agg.d).length = v.aggs.length := by simp
 refine As hT Tryz.func35 Tryz.ntmps35 [] fun B => ?_
 repeat' (first | refine kz ?_ | refine Ad [0] (n1) ?_ | refine kf ?_ | exact k0 | refine Ab ?_ | refine m1 ?_ ?_)
 refine AO (X := Nat × Nat × Tape) [137, 138, 139, 140, 141, 142, 143, 144, 145, 146, 147, 148, 149, 150, 151, 152, 153, 154, 155, 156, 157, 158, 159, 160, 161, 162, 163, 164, 165, 166] (fun x => x.1 ≤ w ∧ x.2.2 = ts x.1) (fun x lz => lz) (fun x => [(.box 0 [.d (Ax (x.2.2).l), .d (.lit (.int .i64 (x.2.2).at_))]), Km v (.arr 2 x.2.1 (v.items.length + x.1)) (.arr 3 (0 + 1 + 1) v.aggs.length), .arr x.2.1 86 2 ((v.items ++ (List.range x.1).map f).map Itm.d), .arr (0 + 1 + 1) 49 3 (v.aggs.map Agg.d)]) (fun x => w - x.1) ((0, 0 + 1, t1)) ?_ ?_ ?_ ?_
 repeat' (first | exact k0 | refine kw ?_ | refine kv ?_ ?_ | omega)
 all_goals try (first | rfl | exact ⟨Nat.zero_le _, e0.symm⟩ | (simp; done))
 rintro ⟨i, k, T'⟩ c ⟨hi, hT'⟩
 dsimp only at hi hT' ⊢
 by_cases hlt : i < w
 ·obtain ⟨hnm, c3⟩ := hf i hlt
  have hdg := Me (⟨#[122]⟩ : ByteArray) (by decide) (v.items.length + i) (by omega)
  rw [← hnm] at hdg
  rw [← hT'] at c3
  have hs : (v.items ++ (List.range i).map f).map Itm.d ++ [Itm.d (f i)] = (v.items ++ (List.range (i + 1)).map f).map Itm.d := by rw [List.range_succ]; simp
  have hll : ((v.items ++ (List.range i).map f).map Itm.d).length = v.items.length + i := by simp
  generalize f i = it at hs hdg c3
  obtain ⟨nm, e⟩ := it
  dsimp only at hdg c3
  unfold Km
  generalize (v.items ++ (List.range i).map f).map Itm.d = A at hs hll ⊢
  generalize hZ : (v.items ++ (List.range (i + 1)).map f).map Itm.d = Z at hs
  generalize hq2 : ts (i + 1) = T2 at c3
  refine Wu 2 fun hr => ?_
  refine G0 ?_
  repeat' (first | refine GO (dr := true) ?_ | refine Dq (dr := true) ?_ | refine Dr (dr := true) ?_ | refine Jv (dr := true) 0 c3 ?_ | refine BS (dr := true) ?_ | refine Sz (dr := true) ?_ | (refine Ig (dr := true) (ei := V3) (k := k) (es := A) (ys := [Itm.d ⟨nm, e⟩]) (es' := Z) 2 (c + 1) (j := v.items.length + i) (m := v.items.length + i + 1) ?_ (by omega) (by omega) (by omega) rfl (by simp only [maxLen]; omega) (by simp only [V3]; omega) (AF rfl A1) (by rw [Ag (by omega)]; exact hs)) | refine kz ?_ | refine Aa (hdg) ?_ | refine Em Af ?_ | exact k0 | refine Ab ?_ | refine m1 ?_ ?_)
  (apply Ae ((i + 1, c + 1, T2)); all_goals (try dsimp only); all_goals (try (repeat' (first | exact k0 | refine kw ?_ | refine kv ?_ ?_ | omega))))
  all_goals first
    | exact ⟨by omega, hq2.symm⟩
    | (unfold Km; rfl)
    | exact hZ.symm
    | skip
 ·obtain rfl : i = w := by omega
  rw [hT']
  unfold Km
  have hll : (v.items ++ (List.range i).map f).length = v.items.length + i := by simp
  rw [hll]
  repeat' (first | refine GO (dr := true) ?_ | refine Dq (dr := true) ?_ | refine Dr (dr := true) ?_ | refine Sz (dr := true) ?_ | refine kz ?_ | refine Em Af ?_ | exact k0 | refine Ab ?_ | refine m1 ?_ ?_)
  all_goals rfl
theorem Uq {P : Program} {B : Base} {os : Array Oper} {d : Bool} {σ : St} {Q : Ex → St → Prop} (h : ARun P B (.region 2 os d) σ Q) : ARun P B (.region 2 os d) σ Q := h
theorem Y6 (t : Tape) (v : Vw) (ht : t.ok) (hv : v.ok) : ∃ (v' : Vw) (t' : Tape), t'.ok ∧ v'.near ∧ (Dz t v v' t' ∨ (v'.items = [] ∧ VQ t v v' t')) := by
 obtain ⟨z, t1, ok1, hz, n1⟩ := AV t 13 ht (by omega) (by omega)
 have key : z = 0 ∨ z = 1 ∨ z = 2 ∨ z = 3 ∨ z = 4 ∨ z = 5 ∨ z = 6 ∨ z = 7 ∨ z = 8 ∨ z = 9 ∨ z = 10 ∨ 11 ≤ z := by omega
 have two : ∀ {p q : Vw → Tape → Prop}, (∃ (v' : Vw) (t' : Tape), t'.ok ∧ v'.near ∧ p v' t') → (∀ v' t', p v' t' → q v' t') → ∃ (v' : Vw) (t' : Tape), t'.ok ∧ v'.near ∧ q v' t' := fun ⟨a, b, c, d, e⟩ h => ⟨a, b, c, d, h a b e⟩
 rcases key with h | h | h | h | h | h | h | h | h | h | h | h
 ·exact two (XZ t v hv z t1 ok1 n1 h) fun _ _ => .inl
 ·exact two (X0 t v hv z t1 ok1 n1 h) fun _ _ => .inl
 ·exact two (X1 t v hv z t1 ok1 n1 h) fun _ _ => .inl
 ·exact two (X2 t v hv z t1 ok1 n1 h) fun _ _ => .inl
 ·exact two (X3 t v hv z t1 ok1 n1 h) fun _ _ => .inl
 ·exact two (X4 t v hv z t1 ok1 n1 h) fun _ _ => .inr
 ·exact two (X5 t v hv z t1 ok1 n1 h) fun _ _ => .inl
 ·exact two (X6 t v hv z t1 ok1 n1 h) fun _ _ => .inl
 ·exact two (X8 t v hv z t1 ok1 n1 h) fun _ _ => .inl
 ·exact two (X7 t v hv z t1 ok1 n1 h) fun _ _ => .inl
 ·exact two (VR t v hv z t1 ok1 n1 h) fun _ _ => .inl
 ·exact two (VS t v hv z t1 ok1 n1 h) fun _ _ => .inl
theorem Oi (t : Tape) (v : Vw) (ht : t.ok) (hv : v.ok) : ∃ (v' : Vw) (t' : Tape), t'.ok ∧ v'.near ∧ HCall Tryz.prog 13 [.c (.bp 0 0 0), .agg (v.d.map .d)] [(.box 0 [.d (Ax (t).l), .d (.lit (.int .i64 (t).at_))])] (.agg (v'.d.map .d)) [(.box 0 [.d (Ax (t').l), .d (.lit (.int .i64 (t').at_))])] := by
 obtain ⟨v', t', ok', hn, h⟩ := Y6 t v ht hv
 refine ⟨v', t', ok', hn, ?_⟩
 rcases h with h | ⟨hi, h⟩
 ·unfold Dz Km at h
  dsimp only [Vw.d, List.map] at h ⊢
  refine As hT Tryz.func13 Tryz.ntmps13 [.cell 4 30] fun B => ?_
  repeat' (first | ((with_reducible (refine Uq ?_)); refine Gq 1 6 3 (es1 := v'.items.map Itm.d) ?_ rfl rfl rfl (by simp) (Ag (by simp)) rfl; refine Gq 1 8 4 (es1 := v'.aggs.map Agg.d) ?_ rfl rfl rfl (by simp) (Ag (by simp)) rfl) | refine kz ?_ | refine Ad [0, 1] (h) ?_ | refine Cn Af ?_ ?_ | (refine Hm ?_; (repeat' (first | exact trivial | refine And.intro (Or.inl rfl) ?_ | refine And.intro (Or.inr ⟨_, rfl, rfl⟩) ?_))) | exact k0 | refine Ab ?_)
  all_goals rfl
 ·unfold VQ Km at h
  dsimp only [Vw.d, List.map] at h ⊢
  rw [hi]
  refine As hT Tryz.func13 Tryz.ntmps13 [.cell 4 30] fun B => ?_
  repeat' (first | ((with_reducible (refine Uq ?_)); refine Gq 1 8 4 (es1 := v'.aggs.map Agg.d) ?_ rfl rfl rfl (by simp) (Ag (by simp)) rfl) | refine kz ?_ | refine Ad [0, 1] (h) ?_ | refine Cn Af ?_ ?_ | (refine Hm ?_; (repeat' (first | exact trivial | refine And.intro (Or.inl rfl) ?_ | refine And.intro (Or.inr ⟨_, rfl, rfl⟩) ?_))) | exact k0 | refine Ab ?_)
  all_goals rfl
end Go.Proofs.YtmpgmjlanngkfaaGreat
end
