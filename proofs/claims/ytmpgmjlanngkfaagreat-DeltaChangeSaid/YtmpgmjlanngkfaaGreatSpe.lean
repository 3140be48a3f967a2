/-
  The tape: SpoilExpr.
-/
import Derived.Test.YtmpgmjlanngkfaaGreatNrm
import Derived.Test.YtmpgmjlanngkfaaGreatAgm
import Derived.Test.YtmpgmjlanngkfaaGreatRgd
import Derived.Test.YtmpgmjlanngkfaaGreatRdr
import Derived.Test.YtmpgmjlanngkfaaGreatAgh
import Derived.Test.YtmpgmjlanngkfaaGreatCmf
section
namespace Go.Proofs.YtmpgmjlanngkfaaGreat
open Go.Abs Go.RowKit
attribute [local irreducible] ARun Av MCall PCall HCall Ap SF CF CFs Ag Ai As fin AY VLe
set_option linter.unusedSimpArgs false
set_option maxRecDepth 100000
set_option maxHeartbeats 4000000
variable {n : Int}
theorem A5 (t : Tape) (n : Nat) (ht : t.ok) (h1 : 1 ≤ n) (h2 : n ≤ 1000000) : ∃ (v : Nat) (t' : Tape), t'.ok ∧ v < n ∧ HC 30 [.c (.bp 0 0 0), .c (.d (.lit (.int .i64 n)))] [(tB t)] (iC v) [(tB t')] := by
 have h := Ee t n ht (by omega) (by omega)
 obtain ⟨b1, b2⟩ := t.nx_bd n
 have e : t.nx n = ((t.nx n).toNat : Int) := by omega
 rw [e] at h
 exact ⟨_, _, ht.go n, by omega, h⟩
def Zq (n : Nat) (x : Trm) : Prop := x.op = 2 → 0 ≤ x.col ∧ x.col < n
theorem R4 (t : Tape) (n : Nat) (ht : t.ok) (h1 : 1 ≤ n) (hn : n ≤ 1000) : ∃ (x : Trm) (t' : Tape), t'.ok ∧ Zq n x ∧ HC 71 [.c (.bp 0 0 0), (iC (n : Int))] [(tB t)] (.c (.d (AW [x]))) [(tB t')] := by
 obtain ⟨v1, t1, jv, l1, n1⟩ := A5 t 3 ht (by omega) (by omega)
 by_cases h0 : v1 = 0
 ·subst h0
  obtain ⟨v2, t2, jr, l2, n2⟩ := A5 t1 2 jv (by omega) (by omega)
  by_cases h3 : v2 = 0
  ·subst h3
   have hc := Xz t2 jr
   refine ⟨⟨1, t2.text, 0⟩, t2.go 10, jr.go 10, fun h => absurd (show (1 : Int) = 2 from h) (by decide), ?_⟩
   generalize t2.go 10 = t3 at hc
   generalize t2.text = v at hc
   refine Au hT Tryz.func71 Tryz.ntmps71 [.tmp 4] fun B => ?_
   repeat' first | refine kz ?_ | refine Ae [0] (n1) ?_ | refine Ae [0] (n2) ?_ | refine Ae [0] (hc) ?_ | refine kg ?_ ?_ | exact k0 | refine Ab ?_
  ·have hc := ao t2 jr
   refine ⟨⟨1, t2.int, 0⟩, t2.go 12, jr.go 12, fun h => absurd (show (1 : Int) = 2 from h) (by decide), ?_⟩
   generalize t2.go 12 = t3 at hc
   generalize t2.int = v at hc
   refine Au hT Tryz.func71 Tryz.ntmps71 [.tmp 4] fun B => ?_
   repeat' first | refine kz ?_ | refine Ae [0] (n1) ?_ | refine Ae [0] (n2) ?_ | refine Ae [0] (hc) ?_ | refine kg ?_ ?_ | exact k0 | refine Ab ?_
 ·obtain ⟨v2, t2, jr, l2, n2⟩ := A5 t1 n jv h1 (by omega)
  refine ⟨⟨2, Val.null, v2⟩, t2, jr, fun _ => ⟨Int.natCast_nonneg _, by show (v2 : Int) < n; omega⟩, ?_⟩
  refine Au hT Tryz.func71 Tryz.ntmps71 [.tmp 4] fun B => ?_
  repeat' first | refine kz ?_ | refine Ae [0] (n1) ?_ | refine Ae [0] (n2) ?_ | refine kg ?_ ?_ | exact k0 | refine Ab ?_
theorem Zr (n : Nat) (h1 : 1 ≤ n) (hn : n ≤ 1000) : ∀ (dp : Nat) (t : Tape), t.ok → dp ≤ 8 → ∃ (e : List Trm) (t' : Tape), t'.ok ∧ e.length ≤ 4 ^ dp ∧ (∀ x ∈ e, Zq n x) ∧ HC 31 [.c (.bp 0 0 0), (iC (dp : Int)), (iC (n : Int))] [(tB t)] (.c (.d (AW e))) [(tB t')] := by
 intro dp
 induction dp with
 | zero =>
   intro t ht _
   obtain ⟨x, t', nP, hx, hc⟩ := R4 t n ht h1 hn
   refine ⟨[x], t', nP, by simp, by simpa using hx, ?_⟩
   refine Au hT Tryz.func31 Tryz.ntmps31 [.tmp 6] fun B => ?_
   repeat' first | refine kz ?_ | refine Ae [0] (hc) ?_ | refine kf ?_ | refine kg ?_ ?_ | exact k0 | refine Ab ?_ | refine m1 ?_ ?_
 | succ dp ih =>
   intro t ht tP
   have aa0 : 1 ≤ 4 ^ dp := Nat.pos_of_ne_zero (by simp)
   have xZ : 4 ^ dp ≤ 4 ^ 7 := Nat.pow_le_pow_right (by omega) (by omega)
   have y0 : 4 ^ (dp + 1) = 4 * 4 ^ dp := by rw [Nat.pow_succ, OB]
   by_cases hd0 : dp = 0
   ·subst hd0
    obtain ⟨x, t', nP, hx, hc⟩ := R4 t n ht h1 hn
    refine ⟨[x], t', nP, by simp, by simpa using hx, ?_⟩
    clear ih
    refine Au hT Tryz.func31 Tryz.ntmps31 [.tmp 6] fun B => ?_
    repeat' first | refine kz ?_ | refine Ae [0] (hc) ?_ | refine kf ?_ | refine kg ?_ ?_ | exact k0 | refine Ab ?_ | refine m1 ?_ ?_
   obtain ⟨v1, t1, jv, l1, n1⟩ := A5 t 4 ht (by omega) (by omega)
   by_cases h0 : v1 = 0
   ·subst h0
    obtain ⟨x, t', nP, hx, hc⟩ := R4 t1 n jv h1 hn
    refine ⟨[x], t', nP, by simp; omega, by simpa using hx, ?_⟩
    clear ih
    refine Au hT Tryz.func31 Tryz.ntmps31 [.tmp 6] fun B => ?_
    repeat' first | refine kz ?_ | refine Ae [0] (n1) ?_ | refine Ae [0] (hc) ?_ | refine kf ?_ | refine kg ?_ ?_ | exact k0 | refine Ab ?_ | refine m1 ?_ ?_
   obtain ⟨v2, t2, jr, l2, n2⟩ := A5 t1 16 jv (by omega) (by omega)
   have ha := K6 ((3 : Int) + v2)
   obtain ⟨k, hk⟩ := R8 (show 0 ≤ EP ((3 : Int) + v2) by
    unfold EP
    split
    · omega
    split
    · omega
    split
    · omega
    split <;> omega)
   have oN : k ≤ 3 := by have := (II ((3 : Int) + v2)).2; omega
   rw [hk] at ha
   have tV : ∀ m : Nat, m ≤ 3 → ∃ (f : Nat → List Trm) (ts : Nat → Tape), ts 0 = t2 ∧ ∀ i, i < m → (ts i).ok ∧ (ts (i + 1)).ok ∧ ((f i).length ≤ 4 ^ dp ∧ ∀ x ∈ f i, Zq n x) ∧ HC 31 [.c (.bp 0 0 0), (iC (dp : Int)), (iC (n : Int))] [(tB ((ts i)))] (.c (.d (AW (f i)))) [(.box 0 [.d (Ds ((ts (i + 1))).l), .d (.lit (.int .i64 ((ts (i + 1))).at_))])] := by
    intro m
    induction m with
    | zero => intro _; exact ⟨fun _ => [], fun _ => t2, rfl, fun i hi => by omega⟩
    | succ m ihm =>
      intro hm
      obtain ⟨f, ts, e0, hf⟩ := ihm (by omega)
      have sy : (ts m).ok := by
       cases m with
       | zero => rw [e0]; exact jr
       | succ m => exact (hf m (by omega)).2.1
      obtain ⟨e, t', nP, hle, rY, hc⟩ := ih (ts m) sy (by omega)
      refine ⟨fun i => if i = m then e else f i, fun i => if i = m + 1 then t' else ts i, by simp [e0], fun i hi => ?_⟩
      by_cases kF : i = m
      ·subst kF
       simp only [if_true, show ¬ i = i + 1 by omega, if_false]
       exact ⟨sy, nP, ⟨hle, rY⟩, hc⟩
      ·have := hf i (by omega)
       simp only [if_neg kF, show ¬ i = m + 1 by omega, show ¬ i + 1 = m + 1 by omega, if_false]
       exact this
   obtain ⟨f, ts, e0, hf⟩ := tV 3 (by omega)
   clear tV ih
   have mA : ∀ i, ∃ L : List Trm, L = ⟨(3 : Int) + v2, Val.null, 0⟩ :: ((List.range i).map f).flatten := fun i => ⟨_, rfl⟩
   obtain ⟨cat, mA⟩ : ∃ cat : Nat → List Trm, ∀ i, cat i = ⟨(3 : Int) + v2, Val.null, 0⟩ :: ((List.range i).map f).flatten := ⟨fun i => _, fun i => rfl⟩
   have mq : cat 0 = [⟨(3 : Int) + v2, Val.null, 0⟩] := by rw [mA]; rfl
   have jF : ∀ i, cat (i + 1) = cat i ++ f i := fun i => by rw [mA, mA, aY]; simp
   have jz : ∀ i, i ≤ 3 → (cat i).length ≤ 1 + i * 4 ^ dp := by
    intro i
    induction i with
    | zero => intro _; rw [mq]; simp
    | succ i wC =>
      intro hi
      have h1 := wC (by omega)
      have h2 := (hf i (by omega)).2.2.1.1
      rw [jF, CR, Gg, Kf]; omega
   have je : (cat k).length ≤ 4 ^ (dp + 1) := by
    have h1 := jz k oN
    have h2 : k * 4 ^ dp ≤ 3 * 4 ^ dp := HJ _ oN
    omega
   have qj : (ts k).ok := by
    cases k with
    | zero => rw [e0]; exact jr
    | succ k => exact (hf k (by omega)).2.1
   have rY : ∀ i, i ≤ 3 → ∀ x ∈ cat i, Zq n x := by
    intro i
    induction i with
    | zero =>
      intro _ x hx
      rw [mq] at hx
      obtain rfl := Ke.1 hx
      intro h
      have h : (3 : Int) + v2 = 2 := h
      omega
    | succ i wC =>
      intro hi x hx
      rw [jF] at hx
      rcases EY.1 hx with hx | hx
      ·exact wC (by omega) x hx
      ·exact (hf i (by omega)).2.2.1.2 x hx
   refine ⟨cat k, ts k, qj, je, rY k oN, ?_⟩
   clear rY
   have qM : List.take (cat k).length ((cat k).map Trm.d) = (cat k).map Trm.d := Ah (by simp)
   clear mA
   rw [← e0] at n2
   refine Au hT Tryz.func31 Tryz.ntmps31 [.tmp 6] fun B => ?_
   repeat' first | refine Mt (r := 1) ?_ | refine kz ?_ | refine Aa (ha) ?_ | refine Ae [0] (n1) ?_ | refine Ae [0] (n2) ?_ | refine EW ?_ | refine AO Ad ?_ ?_ | exact k0 | refine Ab ?_ | refine m1 ?_ ?_
   refine AK (X := Nat × Nat × Nat × List Trm × Tape) ([8, 9] ++ List.range' 28 11) (fun x => x.1 ≤ k ∧ x.2.2.1 = x.2.2.2.1.length ∧ x.2.2.2.1 = cat x.1 ∧ x.2.2.2.2 = ts x.1) (fun x lz => (8, .c (.arr 1 x.2.1 x.2.2.1)) :: (9, (iC ((k - x.1 : Nat) : Int))) :: lz) (fun x => [(tB x.2.2.2.2), .arr x.2.1 109 5 (x.2.2.2.1.map Trm.d)]) (fun x => k - x.1) ((0, 3, 1, [⟨(3 : Int) + v2, Val.null, 0⟩], ts 0)) ?_ ?_ ?_ ?_
   repeat' first | exact k0 | refine kw ?_ | refine Go.Abs.kv ?_ ?_ | omega
   ·exact ⟨by simp, rfl, mq.symm, rfl⟩
   rintro ⟨i, kv, len, L, T'⟩ c ⟨hi, hlen, hL, kI⟩
   dsimp only at hi hlen hL kI ⊢
   have xG : L.length ≤ 100000 := by
    have h1 := jz i (by omega)
    have h2 : i * 4 ^ dp ≤ 3 * 4 ^ dp := HJ _ (by omega)
    rw [hL]
    have h3 : (4 : Nat) ^ 7 = 16384 := by decide
    omega
   by_cases i7 : i < k
   ·obtain ⟨_, _, ⟨kY, _⟩, jd⟩ := hf i (by omega)
    rw [← kI] at jd
    rw [show (dp : Int) = ((dp + 1 : Nat) : Int) - 1 by omega] at jd
    have aa3 : (f i).length ≤ 100000 := by
      have h3 : (4 : Nat) ^ 7 = 16384 := by decide
      omega
    have qU := jF i
    rw [← hL] at qU
    have uu : ts (i + 1) = ts (i + 1) := rfl
    clear hf jz jF hL je mq kI
    generalize f i = fi at *
    generalize hq : ts (i + 1) = T2 at jd
    repeat' first | refine kz ?_ | refine Ae [0] (jd) ?_ | refine kf ?_ | refine kg ?_ ?_ | exact k0 | refine Ab ?_ | refine m1 ?_ ?_
    apply Af ((i + 1, _, len + fi.length, L ++ fi, T2)) <;> (try dsimp only) <;> try repeat' first | exact k0 | refine w1 ?_ | refine Ab ?_ | refine m1 ?_ ?_ | omega
    all_goals first | (exact ⟨by omega, by simp; omega, qU.symm, hq.symm⟩) | exact Ag'.symm | skip
   ·obtain rfl : i = k := by omega
    rw [← hL, ← kI]
    rw [← hL] at qM
    rw [hlen]
    clear hf jz jF
    repeat' first | refine Ax 8 ?_ (j6 := qM) | refine kz ?_ | refine EW ?_ | refine AO Ad ?_ ?_ | exact k0 | refine Ab ?_ | refine m1 ?_ ?_
    all_goals skip
theorem Im (n : Nat) (h1 : 1 ≤ n) (hn : n ≤ 1000) (dp : Nat) (t : Tape) (ht : t.ok) (hd : dp ≤ 8) : ∃ (e : List Trm) (t' : Tape), t'.ok ∧ e.length ≤ 4 ^ dp ∧ HC 31 [.c (.bp 0 0 0), (iC (dp : Int)), (iC (n : Int))] [(tB t)] (.c (.d (AW e))) [(tB t')] := by
 obtain ⟨e, t', h2, h3, _, h4⟩ := Zr n h1 hn dp t ht hd
 exact ⟨e, t', h2, h3, h4⟩
def Rj : List Val := [Val.ofInt 1]
def AX (n : Int) : List Entry := [⟨Rj, n⟩]
def someW : List Trm := [⟨11, Val.null, 0⟩, ⟨2, Val.null, 0⟩, ⟨1, Val.ofInt 1, 0⟩]
def someI : List Itm := [⟨⟨#[]⟩, [⟨2, Val.null, 0⟩]⟩]
def C8 (d : Bool) : Vw := ⟨⟨#[]⟩, 0, ⟨#[]⟩, ⟨#[]⟩, [], someW, someI, d, []⟩
theorem VP (n : Int) : PC 38 [.one (.lit (.int .i64 n))] (.v (.one (Ak (AX n)))) := by
 have hi := Bw 1
 refine Ac hT Tryz.func38 Tryz.ntmps38 [.tmp 2] fun B => ?_
 repeat' first | refine kz ?_ | refine Aa (hi) ?_ | refine kf ?_ | fail
 all_goals rfl
theorem VQ (d : Bool) : PC 37 [.one (.lit (.bool d))] (.v (.agg (C8 d).d)) := by
 have hi := Bw 1
 refine Ac hT Tryz.func37 Tryz.ntmps37 [.cell 2 30] fun B => ?_
 repeat' first | refine kz ?_ | refine Aa (hi) ?_ | refine kh ?_ ?_ | exact ⟨⟩ | fail
 all_goals rfl
theorem C2 (h : AD n = true) (h0 : n ≠ 0) : Am (AX n) = true := by
 have hr : AR Rj = true := by decide +kernel
 simp [Am, AX, goodFrom, Entry.ok, hr, h, h0]
theorem Rk (n : Int) : A9 (AX n) someW = if Am (AX n) = true then AX n else [] := by
 have hk : keepE someW ⟨Rj, n⟩ = true := by
  show (decide (someW.length = 0) || Fh someW Rj) = true
  decide +kernel
 unfold A9
 split
 ·show List.filter _ [_] = _
  rw [ZE, hk, if_pos rfl]; rfl
 ·rfl
theorem VR (h : Am (AX n) = true) : DD (AX n) (someI.map Itm.expr) = (AX n, 0) := by
 have hm : (AX n).map (Gs (someI.map Itm.expr)) = AX n := by
  have h0 : B1 ((someI.map Itm.expr).map fun t => EC t Rj) Rj = true := by decide +kernel
  have h1 := R3.1 h0
  show [(⟨(someI.map Itm.expr).map (fun t => EC t Rj), n⟩ : Entry)] = _
  rw [h1]; rfl
 rw [DD, h, if_pos (by decide), hm, Rl h]
theorem GD (d : Bool) (h : Am (AX n) = true) : Kd (C8 d) (AX n) = (if d = true then BL (AX n) else AX n, 0) := by
 unfold Kd JE
 rw [if_neg (show ¬ (C8 d).kind = 1 by show ¬ (0 : Int) = 1; decide), show (C8 d).wher = someW from rfl, show (C8 d).items = someI from rfl, Rk, if_pos h, VR h, if_pos rfl, show (C8 d).distinct = d from rfl]
 cases d <;> rfl
theorem KP {p q : Int} (hp : Am (AX p) = true) (hq : Am (AX q) = true) (s : Int) : AN s (AX p) (AX q) = AU (if p + s * q = 0 then [] else AX (p + s * q)) := by
 have hc : Aj Rj Rj = 0 := rowCmp_ok.refl _
 rw [AN, if_pos ⟨hp, hq⟩]
 show AU (mergeE [⟨Rj, p⟩] [⟨Rj, s * q⟩]) = _
 rw [mergeE, if_neg (by show ¬ Aj Rj Rj < 0; omega), if_neg (by show ¬ 0 < Aj Rj Rj; omega), mergeE, List.append_nil]
 rfl
theorem O5 : CN (AX 2) (AX (-1)) = (AX 1, 0) := by
 have h2 := C2 (n := 2) (by decide) (by decide)
 have h1 := C2 (n := -1) (by decide) (by decide)
 have h3 := C2 (n := 1) (by decide) (by decide)
 have ha : AN 1 (AX 2) (AX (-1)) = (AX 1, 0) := by
  rw [KP h2 h1, if_neg (by decide)]; rfl
 unfold CN
 rw [ha, if_pos]
 refine ⟨rfl, ?_⟩
 unfold Ay
 rw [h3]; rfl
theorem KQ (d : Bool) : A1 (C8 d) (AX 2) [] = true := by
 have h2 := C2 (n := 2) (by decide) (by decide)
 have he : Cf (C8 d) = true := beq_self_eq_true _
 unfold A1 Ay B8
 rw [h2, he]
 cases d <;> rfl
theorem O6 (h : Am (AX n) = true) (hn : 0 < n) : BL (AX n) = AX 1 := by
 unfold BL
 rw [if_pos h]
 unfold AX Il
 simp [hn]
theorem JO (l : List Entry) : PC 20 [.one (Ak l), .one (Ak l)] (.v (.one (.lit (.bool true)))) := by
 have h := QE l l
 rw [Gb] at h
 exact h
theorem TO : PC 15 [] (.v (.one (.lit (.bool true)))) := by
 have h2 := C2 (n := 2) (by decide) (by decide)
 have h1 := C2 (n := -1) (by decide) (by decide)
 have h3 := C2 (n := 1) (by decide) (by decide)
 have he : ∀ d, Cf (C8 d) = true := fun _ => beq_self_eq_true _
 have w1 : Mb (A1 (C8 false) (AX 2) []) (LS (AX 2, 0) (Kd (C8 false) (AX 2)) (CN (AX 2) (AX (-1))) (Kd (C8 false) (CN (AX 2) (AX (-1))).1)) = (AX (-1), 0) := by
  rw [KQ, O5, GD _ h2, GD _ h3]
  show AN (-1) (AX 1) (AX 2) = _
  rw [KP h3 h2, if_neg (by decide)]; rfl
 have w2 : Mb (A1 (C8 true) (AX 2) []) (LS (AX 2, 0) (Kd (C8 true) (AX 2)) (CN (AX 2) (AX (-1))) (Kd (C8 true) (CN (AX 2) (AX (-1))).1)) = ([], 0) := by
  rw [KQ, O5, GD _ h2, GD _ h3]
  show AN (-1) (BL (AX 1)) (BL (AX 2)) = _
  rw [O6 h3 (by decide), O6 h2 (by decide), KP h3 h3, if_pos (by decide)]; rfl
 have w3 : (if A1 (C8 false) (AX 2) [] = true then Kd (C8 false) (AX 2) else ([], 1)) = (AX 2, 0) := by
  rw [KQ, if_pos rfl, GD _ h2]; rfl
 have c1 := Nn (C8 false) (AX 2) [] (AX (-1)) [] (by decide) rfl (he false)
 have c2 := Nn (C8 true) (AX 2) [] (AX (-1)) [] (by decide) rfl (he true)
 have c3 := U0 (C8 false) (AX 2) [] (by decide) rfl (he false)
 rw [w1] at c1
 rw [w2] at c2
 rw [w3] at c3
 have v1 := VQ false
 have v2 := VQ true
 have o1 := VP 2
 have o2 := VP (-1)
 have s1 := JO (AX 2)
 have s2 := JO (AX (-1))
 clear w1 w2 w3 h1 h2 h3 he
 dsimp only [Bi] at c1 c2 c3
 generalize AX 2 = A at c1 c2 c3 o1 s1
 generalize AX (-1) = B at c1 c2 c3 o2 s2
 refine Ac hT Tryz.func15 Tryz.ntmps15 [.tmp 0] fun B => ?_
 repeat' first | refine kz ?_ | refine Aa (v1) ?_ | refine Aa (v2) ?_ | refine Aa (o1) ?_ | refine Aa (o2) ?_ | refine Aa (c1) ?_ | refine Aa (c2) ?_ | refine Aa (c3) ?_ | refine Aa (s1) ?_ | refine Aa (s2) ?_ | refine kf ?_ | fail
 all_goals rfl
theorem D4 {b : List Trm} {i : Nat} (e : Trm) : List.take b.length ((b.map Trm.d).set i e.d) = (b.set i e).map Trm.d := by
 rw [Sb]; exact Ah (by simp)
theorem QG (t : Tape) (b : List Trm) (ht : t.ok) (hb : b.length ≤ 100000) : ∃ (b' : List Trm) (t' : Tape), t'.ok ∧ b'.length ≤ b.length + 1 ∧ HC 79 [.c (.bp 0 0 0), .c (.d (AW b))] [(tB t)] (.c (.d (AW b'))) [(tB t')] := by
 have f0 : List.take b.length (b.map Trm.d) = b.map Trm.d := Ah (by simp)
 by_cases h0 : b.length = 0
 ·refine ⟨b, t, ht, by omega, ?_⟩
  refine Au hT Tryz.func79 Tryz.ntmps79 [.tmp 4] fun B => ?_
  repeat' first | refine Ax 5 ?_ (j6 := f0) | refine kz ?_ | refine AO Ad ?_ ?_ | exact k0 | refine Ab ?_
 obtain ⟨i, t1, jv, kJ, kQ⟩ := A5 t b.length ht (by omega) (by omega)
 obtain ⟨e, hv⟩ := gx kJ
 have jN : (b.map Trm.d)[i]? = some e.d := by rw [BU, hv]; rfl
 obtain ⟨z, t2, jr, hz, kK⟩ := A5 t1 7 jv (by omega) (by omega)
 by_cases z0 : z = 0
 ·obtain ⟨v, t3, kl, _, oD⟩ := A5 t2 21 jr (by omega) (by omega)
  have f5 := D4 (b := b) (i := i) ⟨(v : Int) - 1, e.v, e.col⟩
  refine ⟨b.set i ⟨(v : Int) - 1, e.v, e.col⟩, t3, kl, by simp, ?_⟩
  refine Au hT Tryz.func79 Tryz.ntmps79 [.tmp 4] fun B => ?_
  repeat' first | refine Ax 5 ?_ (j6 := f5) | refine kz ?_ | refine AF jN ?_ | refine Ao ?_ | refine Ae [0] (kQ) ?_ | refine Ae [0] (kK) ?_ | refine Ae [0] (oD) ?_ | refine AO Ad ?_ ?_ | exact k0 | refine Ab ?_
 by_cases z1 : z = 1
 ·have l6 := Th t2 jr
  have kl := XA jr
  have f5 := D4 (b := b) (i := i) ⟨e.op, t2.val.1, e.col⟩
  refine ⟨b.set i ⟨e.op, t2.val.1, e.col⟩, t2.val.2, kl, by simp, ?_⟩
  generalize t2.val = q at l6 f5
  obtain ⟨w, t3⟩ := q
  dsimp only at l6 f5 ⊢
  refine Au hT Tryz.func79 Tryz.ntmps79 [.tmp 4] fun B => ?_
  repeat' first | refine Ax 5 ?_ (j6 := f5) | refine kz ?_ | refine AF jN ?_ | refine Ao ?_ | refine Ae [0] (kQ) ?_ | refine Ae [0] (kK) ?_ | refine Ae [0] (l6) ?_ | refine AO Ad ?_ ?_ | exact k0 | refine Ab ?_
 by_cases z2 : z = 2
 ·obtain ⟨v, t3, kl, _, oD⟩ := A5 t2 5 jr (by omega) (by omega)
  have f5 := D4 (b := b) (i := i) ⟨e.op, e.v, (v : Int) - 1⟩
  refine ⟨b.set i ⟨e.op, e.v, (v : Int) - 1⟩, t3, kl, by simp, ?_⟩
  refine Au hT Tryz.func79 Tryz.ntmps79 [.tmp 4] fun B => ?_
  repeat' first | refine Ax 5 ?_ (j6 := f5) | refine kz ?_ | refine AF jN ?_ | refine Ao ?_ | refine Ae [0] (kQ) ?_ | refine Ae [0] (kK) ?_ | refine Ae [0] (oD) ?_ | refine AO Ad ?_ ?_ | exact k0 | refine Ab ?_
 by_cases z3 : z = 3
 ·refine ⟨b.drop 1, t2, jr, by simp; omega, ?_⟩
  refine Au hT Tryz.func79 Tryz.ntmps79 [.tmp 4] fun B => ?_
  repeat' first | refine Ax 5 ?_ (j6 := f0) | refine kz ?_ | refine AF jN ?_ | refine Ao ?_ | refine Ae [0] (kQ) ?_ | refine Ae [0] (kK) ?_ | refine AO Ad ?_ ?_ | exact k0 | refine Ab ?_
 by_cases z4 : z = 4
 ·have hf : List.take (b.length + [e.d].length) (b.map Trm.d ++ [e.d]) = (b ++ [e]).map Trm.d := by
   rw [Ag']; exact Ah (by simp)
  refine ⟨b ++ [e], t2, jr, by simp, ?_⟩
  refine Au hT Tryz.func79 Tryz.ntmps79 [.tmp 4] fun B => ?_
  repeat' first | refine GK 65 rfl rfl (by simp) hf rfl ?_ | refine kz ?_ | refine AF jN ?_ | refine Ao ?_ | refine Ae [0] (kQ) ?_ | refine Ae [0] (kK) ?_ | refine AO Ad ?_ ?_ | exact k0 | refine Ab ?_
 by_cases z5 : z = 5
 ·have f5 := D4 (b := b) (i := i) ⟨e.op, ⟨1, 1, ⟨#[120]⟩⟩, e.col⟩
  refine ⟨b.set i ⟨e.op, ⟨1, 1, ⟨#[120]⟩⟩, e.col⟩, t2, jr, by simp, ?_⟩
  refine Au hT Tryz.func79 Tryz.ntmps79 [.tmp 4] fun B => ?_
  repeat' first | refine Ax 5 ?_ (j6 := f5) | refine kz ?_ | refine AF jN ?_ | refine Ao ?_ | refine Ae [0] (kQ) ?_ | refine Ae [0] (kK) ?_ | refine AO Ad ?_ ?_ | exact k0 | refine Ab ?_
 ·obtain ⟨v, t3, kl, _, oD⟩ := A5 t2 16 jr (by omega) (by omega)
  have f5 := D4 (b := b) (i := i) ⟨(3 : Int) + v, Val.null, 0⟩
  refine ⟨b.set i ⟨(3 : Int) + v, Val.null, 0⟩, t3, kl, by simp, ?_⟩
  refine Au hT Tryz.func79 Tryz.ntmps79 [.tmp 4] fun B => ?_
  repeat' first | refine Ax 5 ?_ (j6 := f5) | refine kz ?_ | refine AF jN ?_ | refine Ao ?_ | refine Ae [0] (kQ) ?_ | refine Ae [0] (kK) ?_ | refine Ae [0] (oD) ?_ | refine AO Ad ?_ ?_ | exact k0 | refine Ab ?_
end Go.Proofs.YtmpgmjlanngkfaaGreat
end
