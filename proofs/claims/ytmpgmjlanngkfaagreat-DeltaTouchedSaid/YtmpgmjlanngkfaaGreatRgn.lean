/-
  Aggregates, plain: states of sums of bags.
-/
import Derived.Test.YtmpgmjlanngkfaaGreatXca
import Derived.Test.YtmpgmjlanngkfaaGreatTny
import Derived.Test.YtmpgmjlanngkfaaGreatExn
section
namespace Go.Proofs.YtmpgmjlanngkfaaGreat
open Go.Abs Go.RowKit
set_option linter.unusedSimpArgs false
set_option maxRecDepth 100000
variable {a b s : List Entry} {ag : List Agg} {k : List Val} {kf : List Val → List Val}
def Ry (z : Int) : Int := IntKind.i64.wrap z
def E8 (s t : Sta) : Sta := ⟨s.key, Ry (s.count + t.count), List.zipWith (fun x y => Ry (x + y)) s.sums t.sums, List.zipWith (fun x y => Ry (x + y)) s.some t.some⟩
def mergeS : List Sta → List Sta → List Sta
 | [], d => d
 | g, [] => g
 | x :: g, y :: d => if Ai x.key y.key < 0 then x :: mergeS g (y :: d) else if 0 < Ai x.key y.key then y :: mergeS (x :: g) d else E8 x y :: mergeS g d
termination_by g d => g.length + d.length
theorem Fx (a : List Sta) : mergeS a [] = a := by cases a <;> simp [mergeS]
theorem EJ (b : List Sta) : mergeS [] b = b := by simp [mergeS]
def sR (x y : Sta) : Prop := Ai x.key y.key < 0
theorem Xo (x : Sta) : ¬ sR x x := by unfold sR; rw [rowCmp_ok.refl]; omega
theorem Ox (x y z : Sta) (h1 : sR x y) (h2 : sR y z) : sR x z := rowCmp_ok.trans _ _ _ h1 h2
def YT (l : List Sta) : Prop := ∀ s ∈ l, Au s.key
theorem PG {s : Sta} : ∀ {g d : List Sta}, g.Pairwise sR → d.Pairwise sR → YT g → YT d → (s ∈ mergeS g d ↔ (s ∈ g ∧ ∀ t ∈ d, t.key ≠ s.key) ∨ (s ∈ d ∧ ∀ t ∈ g, t.key ≠ s.key) ∨ ∃ x ∈ g, ∃ y ∈ d, x.key = y.key ∧ s = E8 x y) := by
 intro g d
 induction g, d using mergeS.induct with
 | case1 d => intro _ _ _ _; rw [EJ]; simp
 | case2 g h => intro _ _ _ _; rw [Fx]; simp
 | case3 x g y d n1 ih =>
   intro hg hd cg cd
   rw [mergeS, if_pos n1, Dp, ih (Fe.1 hg).2 hd (fun s hs => cg s (by simp [hs])) cd]
   have hx : ∀ t ∈ y :: d, t.key ≠ x.key := fun t ht he => by
    have : sR x t := by
     rcases Dp.1 ht with rfl | ht
     ·exact n1
     ·exact Ox x y t n1 ((Fe.1 hd).1 t ht)
    unfold sR at this
    rw [he, rowCmp_ok.refl] at this; omega
   constructor
   ·rintro (rfl | ⟨h1, h2⟩ | ⟨h1, h2⟩ | ⟨a, h1, b, h2, h3, h4⟩)
    ·exact .inl ⟨by simp, hx⟩
    ·exact .inl ⟨by simp [h1], h2⟩
    ·refine .inr (.inl ⟨h1, fun t ht => ?_⟩)
     rcases Dp.1 ht with rfl | ht
     ·exact fun e => hx s h1 e.symm
     ·exact h2 t ht
    ·exact .inr (.inr ⟨a, by simp [h1], b, h2, h3, h4⟩)
   ·rintro (⟨h1, h2⟩ | ⟨h1, h2⟩ | ⟨a, h1, b, h2, h3, h4⟩)
    ·rcases Dp.1 h1 with rfl | h1
     ·exact .inl rfl
     ·exact .inr (.inl ⟨h1, h2⟩)
    ·exact .inr (.inr (.inl ⟨h1, fun t ht => h2 t (by simp [ht])⟩))
    ·rcases Dp.1 h1 with rfl | h1
     ·exact absurd h3.symm (hx b h2)
     ·exact .inr (.inr (.inr ⟨a, h1, b, h2, h3, h4⟩))
 | case4 x g y d n1 n2 ih =>
   intro hg hd cg cd
   rw [mergeS, if_neg n1, if_pos n2, Dp, ih hg (Fe.1 hd).2 cg (fun s hs => cd s (by simp [hs]))]
   have hyx : sR y x := by
    have := rowCmp_ok.anti x.key y.key
    unfold sR; omega
   have hx : ∀ t ∈ x :: g, t.key ≠ y.key := fun t ht he => by
    have : sR y t := by
     rcases Dp.1 ht with rfl | ht
     ·exact hyx
     ·exact Ox y x t hyx ((Fe.1 hg).1 t ht)
    unfold sR at this
    rw [he, rowCmp_ok.refl] at this; omega
   constructor
   ·rintro (rfl | ⟨h1, h2⟩ | ⟨h1, h2⟩ | ⟨a, h1, b, h2, h3, h4⟩)
    ·exact .inr (.inl ⟨by simp, hx⟩)
    ·refine .inl ⟨h1, fun t ht => ?_⟩
     rcases Dp.1 ht with rfl | ht
     ·exact fun e => hx s h1 e.symm
     ·exact h2 t ht
    ·exact .inr (.inl ⟨by simp [h1], h2⟩)
    ·exact .inr (.inr ⟨a, h1, b, by simp [h2], h3, h4⟩)
   ·rintro (⟨h1, h2⟩ | ⟨h1, h2⟩ | ⟨a, h1, b, h2, h3, h4⟩)
    ·exact .inr (.inl ⟨h1, fun t ht => h2 t (by simp [ht])⟩)
    ·rcases Dp.1 h1 with rfl | h1
     ·exact .inl rfl
     ·exact .inr (.inr (.inl ⟨h1, h2⟩))
    ·rcases Dp.1 h2 with rfl | h2
     ·exact absurd h3 (hx a h1)
     ·exact .inr (.inr (.inr ⟨a, h1, b, h2, h3, h4⟩))
 | case5 x g y d n1 n2 ih =>
   intro hg hd cg cd
   have hk : x.key = y.key := Ck (cg x (by simp)) (cd y (by simp)) (by omega)
   rw [mergeS, if_neg n1, if_neg n2, Dp, ih (Fe.1 hg).2 (Fe.1 hd).2 (fun s hs => cg s (by simp [hs])) (fun s hs => cd s (by simp [hs]))]
   have hgx : ∀ t ∈ g, t.key ≠ x.key := fun t ht he => by
    have := (Fe.1 hg).1 t ht
    unfold sR at this
    rw [he, rowCmp_ok.refl] at this; omega
   have hdx : ∀ t ∈ d, t.key ≠ x.key := fun t ht he => by
    have := (Fe.1 hd).1 t ht
    unfold sR at this
    rw [he, hk, rowCmp_ok.refl] at this; omega
   constructor
   ·rintro (rfl | ⟨h1, h2⟩ | ⟨h1, h2⟩ | ⟨a, h1, b, h2, h3, h4⟩)
    ·exact .inr (.inr ⟨x, by simp, y, by simp, hk, rfl⟩)
    ·refine .inl ⟨by simp [h1], fun t ht => ?_⟩
     rcases Dp.1 ht with rfl | ht
     ·exact fun e => hgx s h1 (e.symm.trans hk.symm)
     ·exact h2 t ht
    ·refine .inr (.inl ⟨by simp [h1], fun t ht => ?_⟩)
     rcases Dp.1 ht with rfl | ht
     ·exact fun e => hdx s h1 e.symm
     ·exact h2 t ht
    ·exact .inr (.inr ⟨a, by simp [h1], b, by simp [h2], h3, h4⟩)
   ·rintro (⟨h1, h2⟩ | ⟨h1, h2⟩ | ⟨a, h1, b, h2, h3, h4⟩)
    ·rcases Dp.1 h1 with rfl | h1
     ·exact absurd hk.symm (h2 y (by simp))
     ·exact .inr (.inl ⟨h1, fun t ht => h2 t (by simp [ht])⟩)
    ·rcases Dp.1 h1 with rfl | h1
     ·exact absurd hk (h2 x (by simp))
     ·exact .inr (.inr (.inl ⟨h1, fun t ht => h2 t (by simp [ht])⟩))
    ·rcases Dp.1 h1 with rfl | h1
     ·rcases Dp.1 h2 with rfl | h2
      ·exact .inl h4
      ·exact absurd h3.symm (hdx b h2)
     ·rcases Dp.1 h2 with rfl | h2
      ·exact absurd (h3.trans hk.symm) (hgx a h1)
      ·exact .inr (.inr (.inr ⟨a, h1, b, h2, h3, h4⟩))
theorem Hk {g d : List Sta} : ∀ {s : Sta}, s ∈ mergeS g d → ∃ x, (x ∈ g ∨ x ∈ d) ∧ x.key = s.key := by
 induction g, d using mergeS.induct with
 | case1 d => intro s h; rw [EJ] at h; exact ⟨s, .inr h, rfl⟩
 | case2 g _ => intro s h; rw [Fx] at h; exact ⟨s, .inl h, rfl⟩
 | case3 x g y d h ih =>
   intro s hs
   rw [mergeS, if_pos h] at hs
   rcases Dp.1 hs with rfl | hs
   ·exact ⟨s, .inl (by simp), rfl⟩
   ·obtain ⟨z, hz, he⟩ := ih hs
    exact ⟨z, hz.imp (fun q => by simp [q]) id, he⟩
 | case4 x g y d h1 h2 ih =>
   intro s hs
   rw [mergeS, if_neg h1, if_pos h2] at hs
   rcases Dp.1 hs with rfl | hs
   ·exact ⟨s, .inr (by simp), rfl⟩
   ·obtain ⟨z, hz, he⟩ := ih hs
    exact ⟨z, hz.imp id (fun q => by simp [q]), he⟩
 | case5 x g y d h1 h2 ih =>
   intro s hs
   rw [mergeS, if_neg h1, if_neg h2] at hs
   rcases Dp.1 hs with rfl | hs
   ·exact ⟨x, .inl (by simp), rfl⟩
   ·obtain ⟨z, hz, he⟩ := ih hs
    exact ⟨z, hz.imp (fun q => by simp [q]) (fun q => by simp [q]), he⟩
theorem Rz : ∀ {g d : List Sta}, g.Pairwise sR → d.Pairwise sR → YT g → YT d → (mergeS g d).Pairwise sR := by
 intro g d
 induction g, d using mergeS.induct with
 | case1 d => intro _ h _ _; rw [EJ]; exact h
 | case2 g _ => intro h _ _ _; rw [Fx]; exact h
 | case3 x g y d h ih =>
   intro hg hd cg cd
   rw [mergeS, if_pos h]
   refine Fe.2 ⟨fun s hs => ?_, ih (Fe.1 hg).2 hd (fun s hs => cg s (by simp [hs])) cd⟩
   obtain ⟨z, hz, he⟩ := Hk hs
   show Ai x.key s.key < 0
   rw [← he]
   rcases hz with hz | hz
   ·exact (Fe.1 hg).1 z hz
   ·rcases Dp.1 hz with rfl | hz
    ·exact h
    ·exact Ox x y z h ((Fe.1 hd).1 z hz)
 | case4 x g y d h1 h2 ih =>
   intro hg hd cg cd
   have hyx : sR y x := by
    have := rowCmp_ok.anti x.key y.key
    unfold sR; omega
   rw [mergeS, if_neg h1, if_pos h2]
   refine Fe.2 ⟨fun s hs => ?_, ih hg (Fe.1 hd).2 cg (fun s hs => cd s (by simp [hs]))⟩
   obtain ⟨z, hz, he⟩ := Hk hs
   show Ai y.key s.key < 0
   rw [← he]
   rcases hz with hz | hz
   ·rcases Dp.1 hz with rfl | hz
    ·exact hyx
    ·exact Ox y x z hyx ((Fe.1 hg).1 z hz)
   ·exact (Fe.1 hd).1 z hz
 | case5 x g y d h1 h2 ih =>
   intro hg hd cg cd
   have hk : x.key = y.key := Ck (cg x (by simp)) (cd y (by simp)) (by omega)
   rw [mergeS, if_neg h1, if_neg h2]
   refine Fe.2 ⟨fun s hs => ?_, ih (Fe.1 hg).2 (Fe.1 hd).2 (fun s hs => cg s (by simp [hs])) (fun s hs => cd s (by simp [hs]))⟩
   obtain ⟨z, hz, he⟩ := Hk hs
   show Ai x.key s.key < 0
   rw [← he]
   rcases hz with hz | hz
   ·exact (Fe.1 hg).1 z hz
   ·rw [hk]; exact (Fe.1 hd).1 z hz
def I5 (kf : List Val → List Val) (k : List Val) (f : List Val → Int) (r : List Val) : Int := if Ai (kf r) k = 0 then f r else 0
def RA (x : Agg) (r : List Val) : Int := if x.func = 1 then (if (GX x.expr r).kind = 1 then (GX x.expr r).int else 0) else 0
def RB (x : Agg) (r : List Val) : Int := if x.func = 1 then (if (GX x.expr r).kind = 1 then 1 else 0) else 0
theorem PH (kf : List Val → List Val) (k : List Val) (f : List Val → Int) (b : List Entry) : wS f (b.filter (I2 kf k)) = wS (I5 kf k f) b := by
 induction b with
 | nil => rfl
 | cons e b ih =>
   rw [Ug, wS, ← ih]
   unfold I2 I5
   by_cases h : Ai (kf e.row) k = 0
   ·simp only [h, decide_true, if_true, wS]
   ·simp only [h, decide_false, if_false, Bool.false_eq_true]; omega
theorem ak (es : List Entry) : nE es = wS (fun _ => 1) es := by
 induction es with
 | nil => rfl
 | cons e es ih =>
   have : nE (e :: es) = e.count + nE es := by simp [nE]
   rw [this, ih, wS]; omega
theorem YU (es : List Entry) (x : Agg) : Sb es x = wS (RA x) es := by
 unfold Sb
 by_cases h : x.func = 1
 ·rw [if_pos h]
  induction es with
  | nil => rfl
  | cons e es ih =>
    have : GM (BU x (e :: es)) = (if (O3 x e).1.kind = 1 then (O3 x e).1.int * (O3 x e).2 else 0) + GM (BU x es) := by simp [GM, BU]
    rw [this, ih, wS]
    unfold O3 RA
    rw [if_neg (show ¬ x.func = 0 by omega), if_pos h]
    dsimp only
    split
    ·rw [Int.mul_comm]
    ·omega
 ·rw [if_neg h]
  have : wS (RA x) es = wS (fun _ => 0) es := Fb fun e _ => by unfold RA; rw [if_neg h]
  rw [this, GH]
theorem YV (es : List Entry) (x : Agg) : Sc es x = wS (RB x) es := by
 unfold Sc
 by_cases h : x.func = 1
 ·rw [if_pos h]
  induction es with
  | nil => rfl
  | cons e es ih =>
    have : GN (BU x (e :: es)) = (if (O3 x e).1.kind = 1 then (O3 x e).2 else 0) + GN (BU x es) := by simp [GN, BU]
    rw [this, ih, wS]
    unfold O3 RB
    rw [if_neg (show ¬ x.func = 0 by omega), if_pos h]
    dsimp only
    split <;> omega
 ·rw [if_neg h]
  have : wS (RB x) es = wS (fun _ => 0) es := Fb fun e _ => by unfold RB; rw [if_neg h]
  rw [this, GH]
def D6 (ag : List Agg) (kf : List Val → List Val) (b : List Entry) (k : List Val) : Sta :=
 ⟨k, wS (I5 kf k fun _ => 1) b, ag.map fun x => wS (I5 kf k (RA x)) b, ag.map fun x => wS (I5 kf k (RB x)) b⟩
theorem TJ (ag : List Agg) (kf : List Val → List Val) (b : List Entry) (k : List Val) : IG ag (k, b.filter (I2 kf k)) = D6 ag kf b k := by
 unfold IG D6
 dsimp only
 rw [ak, PH]
 congr 1
 ·exact RU fun x _ => by rw [YU, PH]
 ·exact RU fun x _ => by rw [YV, PH]
def FM (ag : List Agg) (kf : List Val → List Val) (b : List Entry) : List Sta := ((CU b kf).map (D6 ag kf b)).filter DR
theorem RC (ag : List Agg) (kf : List Val → List Val) (b : List Entry) : ((EY b kf).map (IG ag)).filter DR = FM ag kf b := by
 unfold EY FM
 rw [X8]
 congr 1
 exact RU fun k _ => TJ ag kf b k
theorem Oy (s : Sta) : s.zero = true ↔ s.count = 0 ∧ (∀ n ∈ s.sums, n = 0) ∧ ∀ n ∈ s.some, n = 0 := by
 unfold Sta.zero
 simp only [BO, decide_eq_true_eq, PO, List.any_eq_false, decide_eq_true_eq, ne_eq, Decidable.not_not, and_assoc]
theorem TK (h : ∀ e ∈ b, kf e.row ≠ k) (hk : BG b kf) (hc : Au k) : (D6 ag kf b k).zero = true := by
 have hz : ∀ f, wS (I5 kf k f) b = 0 := fun f => by
  rw [Fb (g := fun _ => 0) fun e he => ?_, GH]
  unfold I5
  rw [if_neg fun q => h e he (Ck (hk e he) hc q)]
 rw [Oy]
 refine ⟨hz _, fun n hn => ?_, fun n hn => ?_⟩
 ·obtain ⟨x, _, rfl⟩ := List.mem_map.1 hn; exact hz _
 ·obtain ⟨x, _, rfl⟩ := List.mem_map.1 hn; exact hz _
theorem BY (hk : BG b kf) {s : Sta} : s ∈ FM ag kf b ↔ s.zero = false ∧ Au s.key ∧ s = D6 ag kf b s.key := by
 obtain ⟨_, k2, k3⟩ := B2 hk
 constructor
 ·intro h
  obtain ⟨h1, h2⟩ := KB.1 h
  obtain ⟨k, hkm, rfl⟩ := List.mem_map.1 h1
  exact ⟨by simpa [DR] using h2, k2 k hkm, rfl⟩
 ·rintro ⟨h1, h2, h3⟩
  refine KB.2 ⟨List.mem_map.2 ⟨s.key, (k3 _).2 ?_, h3.symm⟩, by unfold DR; rw [h1]; rfl⟩
  apply T8
  intro hn
  have := TK (ag := ag) (b := b) (kf := kf) (k := s.key) (fun e he q => hn ⟨e, he, q⟩) hk h2
  rw [← h3, h1] at this; cases this
theorem Je (hk : BG b kf) : (FM ag kf b).Pairwise sR ∧ YT (FM ag kf b) := by
 obtain ⟨k1, k2, _⟩ := B2 hk
 refine ⟨ZF ZI ?_, fun s hs => ((BY hk).1 hs).2.1⟩
 rw [X3]
 exact k1
def RD (n : Int) : Prop := -4611686018427387904 ≤ n ∧ n ≤ 4611686018427387903
def Ml (s : Sta) : Prop := RD s.count ∧ (∀ n ∈ s.sums, RD n) ∧ ∀ n ∈ s.some, RD n
theorem Mm {x y : Int} (hx : RD x) (hy : RD y) : Ry (x + y) = x + y := by
 unfold RD at hx hy
 exact BW (by omega) (by omega)
theorem Qz {α : Type} {f g : α → Int} {l : List α} (hf : ∀ n ∈ l.map f, RD n) (hg : ∀ n ∈ l.map g, RD n) : List.zipWith (fun x y => Ry (x + y)) (l.map f) (l.map g) = l.map fun x => f x + g x := by
 induction l with
 | nil => rfl
 | cons a l ih =>
   rw [List.map_cons, List.map_cons, List.zipWith_cons_cons, List.map_cons, Mm (hf _ (by simp)) (hg _ (by simp)), ih (fun n hn => hf n (by simp [hn])) (fun n hn => hg n (by simp [hn]))]
theorem Gg (h : ∀ g, wS g s = wS g a + wS g b) (ha : Ml (D6 ag kf a k)) (hb : Ml (D6 ag kf b k)) : E8 (D6 ag kf a k) (D6 ag kf b k) = D6 ag kf s k := by
 unfold E8
 rw [Mm ha.1 hb.1]
 show Sta.mk k _ _ _ = Sta.mk k _ _ _
 congr 1
 ·exact (h _).symm
 ·rw [show (D6 ag kf a k).sums = ag.map fun x => wS (I5 kf k (RA x)) a from rfl, show (D6 ag kf b k).sums = ag.map fun x => wS (I5 kf k (RA x)) b from rfl, Qz ha.2.1 hb.2.1]
  exact RU fun x _ => (h _).symm
 ·rw [show (D6 ag kf a k).some = ag.map fun x => wS (I5 kf k (RB x)) a from rfl, show (D6 ag kf b k).some = ag.map fun x => wS (I5 kf k (RB x)) b from rfl, Qz ha.2.2 hb.2.2]
  exact RU fun x _ => (h _).symm
theorem It (ha : Ml (D6 ag kf a k)) (hb : (D6 ag kf b k).zero = true) : E8 (D6 ag kf a k) (D6 ag kf b k) = D6 ag kf a k := by
 obtain ⟨z1, z2, z3⟩ := (Oy _).1 hb
 have s0 : RD 0 := by unfold RD; omega
 have hB : Ml (D6 ag kf b k) := ⟨by rw [z1]; exact s0, fun n hn => by rw [z2 n hn]; exact s0, fun n hn => by rw [z3 n hn]; exact s0⟩
 unfold E8
 rw [Mm ha.1 hB.1, z1, Int.add_zero]
 show Sta.mk k _ _ _ = Sta.mk k _ _ _
 congr 1
 ·rw [show (D6 ag kf a k).sums = ag.map fun x => wS (I5 kf k (RA x)) a from rfl, show (D6 ag kf b k).sums = ag.map fun x => wS (I5 kf k (RA x)) b from rfl, Qz ha.2.1 hB.2.1]
  exact RU fun x hx => by rw [z2 _ (List.mem_map.2 ⟨x, hx, rfl⟩), Int.add_zero]
 ·rw [show (D6 ag kf a k).some = ag.map fun x => wS (I5 kf k (RB x)) a from rfl, show (D6 ag kf b k).some = ag.map fun x => wS (I5 kf k (RB x)) b from rfl, Qz ha.2.2 hB.2.2]
  exact RU fun x hx => by rw [z3 _ (List.mem_map.2 ⟨x, hx, rfl⟩), Int.add_zero]
theorem Lv (h : ∀ g, wS g s = wS g a + wS g b) (ha : Ml (D6 ag kf a k)) (hb : Ml (D6 ag kf b k)) (hz : (D6 ag kf a k).zero = true) : D6 ag kf s k = D6 ag kf b k := by
 rw [← Gg (s := s) (a := b) (b := a) (fun g => by rw [h]; omega) hb ha]
 exact It hb hz
theorem Mn (h : ∀ g, wS g s = wS g a + wS g b) (ka : BG a kf) (kb : BG b kf) (ks : BG s kf) (ha : ∀ k, Ml (D6 ag kf a k)) (hb : ∀ k, Ml (D6 ag kf b k)) : (mergeS (FM ag kf a) (FM ag kf b)).filter DR = FM ag kf s := by
 obtain ⟨ua, ca⟩ := Je (ag := ag) ka
 obtain ⟨ub, cb⟩ := Je (ag := ag) kb
 obtain ⟨us, cs⟩ := Je (ag := ag) ks
 refine DB Xo Ox (ZF ZI (Rz ua ub ca cb)) us fun x => ?_
 rw [KB, PG ua ub ca cb, BY ks]
 have hnz : DR x = true ↔ x.zero = false := by unfold DR; simp
 rw [hnz]
 constructor
 ·rintro ⟨h1, h2⟩
  refine ⟨h2, ?_⟩
  rcases h1 with ⟨h1, h3⟩ | ⟨h1, h3⟩ | ⟨y, hy, z, hz, h3, rfl⟩
  · obtain ⟨_, c1, e1⟩ := (BY ka).1 h1
    refine ⟨c1, ?_⟩
    have hzb : (D6 ag kf b x.key).zero = true := by
      apply T8
      intro hn
      exact h3 (D6 ag kf b x.key) ((BY kb).2 ⟨by simpa using hn, c1, rfl⟩) rfl
    rw [← Gg h (ha _) (hb _), It (ha _) hzb]; exact e1
  · obtain ⟨_, c1, e1⟩ := (BY kb).1 h1
    refine ⟨c1, ?_⟩
    have hza : (D6 ag kf a x.key).zero = true := by
      apply T8
      intro hn
      exact h3 (D6 ag kf a x.key) ((BY ka).2 ⟨by simpa using hn, c1, rfl⟩) rfl
    rw [Lv h (ha _) (hb _) hza]; exact e1
  · obtain ⟨_, c1, e1⟩ := (BY ka).1 hy
    obtain ⟨_, _, e2⟩ := (BY kb).1 hz
    refine ⟨c1, ?_⟩
    show E8 y z = D6 ag kf s y.key
    rw [e1, e2, ← h3]
    exact Gg h (ha _) (hb _)
 ·rintro ⟨h1, h2, h3⟩
  refine ⟨?_, h1⟩
  cases za : (D6 ag kf a x.key).zero with
  | true =>
    have e1 := Lv h (ha x.key) (hb x.key) za
    refine .inr (.inl ⟨(BY kb).2 ⟨h1, h2, h3.trans e1⟩, fun t ht q => ?_⟩)
    obtain ⟨q1, _, q3⟩ := (BY ka).1 ht
    rw [q] at q3
    rw [q3, za] at q1; cases q1
  | false =>
    cases zb : (D6 ag kf b x.key).zero with
    | true =>
      have e1 := It (ag := ag) (kf := kf) (b := b) (ha x.key) zb
      rw [Gg h (ha _) (hb _)] at e1
      refine .inl ⟨(BY ka).2 ⟨h1, h2, h3.trans e1⟩, fun t ht q => ?_⟩
      obtain ⟨q1, _, q3⟩ := (BY kb).1 ht
      rw [q] at q3
      rw [q3, zb] at q1; cases q1
    | false =>
      refine .inr (.inr ⟨D6 ag kf a x.key, (BY ka).2 ⟨za, h2, rfl⟩, D6 ag kf b x.key, (BY kb).2 ⟨zb, h2, rfl⟩, rfl, ?_⟩)
      rw [Gg h (ha _) (hb _)]; exact h3
end Go.Proofs.YtmpgmjlanngkfaaGreat
end
