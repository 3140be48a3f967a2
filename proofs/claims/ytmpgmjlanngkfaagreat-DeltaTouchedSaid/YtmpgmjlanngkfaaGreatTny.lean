/-
  Small bags, in plain terms: sums of absolute counts, and sums over rows.
-/
import Derived.Test.YtmpgmjlanngkfaaGreatSum
import Derived.Test.YtmpgmjlanngkfaaGreatSrt
import Derived.Test.YtmpgmjlanngkfaaGreatSam
import Derived.Test.YtmpgmjlanngkfaaGreatRowc
section
namespace Go.Proofs.YtmpgmjlanngkfaaGreat
open Go.Abs Go.RowKit
set_option linter.unusedSimpArgs false
set_option maxRecDepth 100000
variable {acc : List (List Val × List Entry)} {b l : List Entry} {e : Entry} {i : Nat} {kf : List Val → List Val}
def kR (a b : List Val) : Prop := Ai a b < 0
theorem WK (a : List Val) : ¬ kR a a := by unfold kR; rw [rowCmp_ok.refl]; omega
theorem Yx (a b c : List Val) (h1 : kR a b) (h2 : kR b c) : kR a c := rowCmp_ok.trans _ _ _ h1 h2
def BG (b : List Entry) (kf : List Val → List Val) : Prop := ∀ e ∈ b, Au (kf e.row)
def I2 (kf : List Val → List Val) (k : List Val) (e : Entry) : Bool := decide (Ai (kf e.row) k = 0)
def CU (b : List Entry) (kf : List Val → List Val) : List (List Val) := (sortE (b.map fun e => ⟨kf e.row, 1⟩)).map Entry.row
def EY (b : List Entry) (kf : List Val → List Val) : List (List Val × List Entry) := (CU b kf).map fun k => (k, b.filter (I2 kf k))
theorem Fo (hk : BG b kf) (he : e ∈ b) {k : List Val} (hc : Au k) : I2 kf k e = true ↔ kf e.row = k := by
 unfold I2
 rw [decide_eq_true_eq]
 exact ⟨Ck (hk e he) hc, fun h => by rw [h]; exact rowCmp_ok.refl _⟩
theorem P1 : ∀ (l : List Entry) (r : List Val), (∀ e ∈ l, 0 < e.count) → 0 ≤ AZ l r
 | [], _, _ => Int.le_refl _
 | e :: l, r, h => by
   have h1 := P1 l r (fun x hx => h x (by simp [hx]))
   have h2 := h e (by simp)
   rw [AZ]; split <;> omega
theorem M4 : ∀ {l : List Entry} {r : List Val}, (∀ e ∈ l, 0 < e.count) → (∃ e ∈ l, Ai e.row r = 0) → AZ l r ≠ 0
 | [], _, _, h => by obtain ⟨_, h, _⟩ := h; cases h
 | e :: l, r, h, hx => by
   have h1 := P1 l r (fun x hx => h x (by simp [hx]))
   have h2 := h e (by simp)
   rw [AZ]
   by_cases he : Ai e.row r = 0
   ·rw [if_pos he]; omega
   ·rw [if_neg he]
    obtain ⟨x, hx1, hx2⟩ := hx
    rcases Dp.1 hx1 with rfl | hx1
    ·exact absurd hx2 he
    ·have := M4 (fun y hy => h y (by simp [hy])) ⟨x, hx1, hx2⟩
     omega
theorem B2 (hk : BG b kf) : (CU b kf).Pairwise kR ∧ (∀ k ∈ CU b kf, Au k) ∧ ∀ k, k ∈ CU b kf ↔ ∃ e ∈ b, kf e.row = k := by
 have hcl : ∀ e ∈ b.map fun e : Entry => (⟨kf e.row, 1⟩ : Entry), Au e.row := fun e he => by
  obtain ⟨x, hx, rfl⟩ := List.mem_map.1 he
  exact hk x hx
 obtain ⟨h1, h2⟩ := CE _ hcl
 have hkc : ∀ k ∈ CU b kf, Au k := fun k hkm => by
  obtain ⟨e, he, rfl⟩ := List.mem_map.1 hkm
  exact h1.cl e he
 refine ⟨by unfold CU; rw [X3]; exact h1.up, hkc, fun k => ⟨fun hm => ?_, fun hm => ?_⟩⟩
 ·have hc := hkc k hm
  obtain ⟨e, he, rfl⟩ := List.mem_map.1 hm
  have hz : AZ (sortE (b.map fun e : Entry => (⟨kf e.row, 1⟩ : Entry))) e.row ≠ 0 := by
   rw [DP (Bh h1.up) he (rowCmp_ok.refl _)]; exact h1.nz e he
  rw [h2] at hz
  obtain ⟨x, hx, hr⟩ := Mq hz
  obtain ⟨y, hy, rfl⟩ := List.mem_map.1 hx
  exact ⟨y, hy, Ck (hk y hy) hc hr⟩
 ·obtain ⟨e, he, rfl⟩ := hm
  have hz : AZ (b.map fun e : Entry => (⟨kf e.row, 1⟩ : Entry)) (kf e.row) ≠ 0 :=
   M4 (fun x hx => by obtain ⟨y, _, rfl⟩ := List.mem_map.1 hx; exact Int.zero_lt_one) ⟨_, List.mem_map.2 ⟨e, he, rfl⟩, rowCmp_ok.refl _⟩
  rw [← h2] at hz
  obtain ⟨x, hx, hr⟩ := Mq hz
  exact List.mem_map.2 ⟨x, hx, Ck (h1.cl x hx) (hk e he) hr⟩
structure GI (b : List Entry) (kf : List Val → List Val) (acc : List (List Val × List Entry)) : Prop where
 nd : acc.Pairwise fun g h => g.1 ≠ h.1
 mem : ∀ g ∈ acc, (∃ e ∈ b, kf e.row = g.1) ∧ g.2 = b.filter (I2 kf g.1)
 all : ∀ e ∈ b, ∃ g ∈ acc, g.1 = kf e.row
theorem WL (kf : List Val → List Val) : GI [] kf [] := ⟨.nil, fun _ hg => (by cases hg), fun _ he => (by cases he)⟩
theorem Ba {α : Type} {l : List α} {x : α} (h : l[i]? = some x) : l.take (i + 1) = l.take i ++ [x] := by rw [KL, h]; rfl
theorem WM {j : Nat} {es : List Entry} (hk : BG b kf) (h : GI (b.take i) kf acc) (he : b[i]? = some e) (hj : acc[j]? = some (kf e.row, es)) : GI (b.take (i + 1)) kf (acc.set j (kf e.row, es ++ [e])) := by
 have hem : e ∈ b := Df he
 have hjl := lt_of_getElem? hj
 have hne : ∀ g ∈ acc, g ≠ (kf e.row, es) → g.1 ≠ kf e.row := fun g hg hn hq => by
  obtain ⟨q, hq2⟩ := Mz.1 hg
  have hql := lt_of_getElem? hq2
  have hp := XY.1 h.nd
  rw [Bi hjl] at hj
  rw [Bi hql] at hq2
  simp only [Option.some.injEq] at hj hq2
  rcases Nat.lt_trichotomy q j with c | c | c
  ·have := hp q j hql hjl c; rw [hq2, hj] at this; exact this hq
  ·subst c; exact hn (hq2.symm.trans hj)
  ·have := hp j q hjl hql c; rw [hq2, hj] at this; exact this hq.symm
 have hfst : (acc.set j (kf e.row, es ++ [e])).map Prod.fst = acc.map Prod.fst := by
  rw [VO]
  refine QG fun q => ?_
  rw [X4]
  split
  ·rename_i c; subst c
   rw [BT, if_pos hjl, Ci, hj]; rfl
  ·rfl
 rw [Ba he]
 refine ⟨?_, fun g hg => ?_, fun x hx => ?_⟩
 ·have := h.nd
  rw [← X3 (f := Prod.fst) (R := fun a b => a ≠ b)] at this ⊢
  rw [hfst]; exact this
 ·rw [Ue]
  obtain ⟨q, hq⟩ := Mz.1 hg
  rw [X4] at hq
  split at hq
  ·rename_i c; subst c
   simp only [Option.some.injEq] at hq
   subst hq
   refine ⟨⟨e, by simp, rfl⟩, ?_⟩
   rw [← (h.mem _ (Df hj)).2, Yg ((Fo hk hem (hk e hem)).2 rfl)]; rfl
  ·rename_i c
   have hgm := Df hq
   have hgk : g.1 ≠ kf e.row := by
    intro hh
    have hql := lt_of_getElem? hq
    have hp := XY.1 h.nd
    rw [Bi hjl] at hj
    rw [Bi hql] at hq
    simp only [Option.some.injEq] at hj hq
    rcases Nat.lt_trichotomy q j with c | c | c
    ·have := hp q j hql hjl c; rw [hq, hj] at this; exact this hh
    ·exact absurd c.symm ‹_›
    ·have := hp j q hjl hql c; rw [hq, hj] at this; exact this hh.symm
   obtain ⟨⟨x, hx, hxe⟩, h2⟩ := h.mem g hgm
   refine ⟨⟨x, by simp [hx], hxe⟩, ?_⟩
   have hxm : x ∈ b := Ji hx
   rw [← h2, Yh (fun q => hgk ((Fo hk hem (hxe ▸ hk x hxm)).1 q).symm)]; simp
 ·rcases Gn.1 hx with hx | hx
  ·obtain ⟨g, hg, hgk⟩ := h.all x hx
   have : g.1 ∈ (acc.set j (kf e.row, es ++ [e])).map Prod.fst := by rw [hfst]; exact List.mem_map.2 ⟨g, hg, rfl⟩
   obtain ⟨g', hg', hq⟩ := List.mem_map.1 this
   exact ⟨g', hg', hq.trans hgk⟩
  ·rw [OP] at hx; subst hx
   exact ⟨(kf x.row, es ++ [x]), Mz.2 ⟨j, by rw [ON hjl]⟩, rfl⟩
theorem WN (hk : BG b kf) (h : GI (b.take i) kf acc) (he : b[i]? = some e) (hn : ∀ g ∈ acc, g.1 ≠ kf e.row) : GI (b.take (i + 1)) kf (acc ++ [(kf e.row, [e])]) := by
 have hem : e ∈ b := Df he
 rw [Ba he]
 refine ⟨?_, fun g hg => ?_, fun x hx => ?_⟩
 ·rw [ZG]
  exact ⟨h.nd, List.pairwise_singleton .., fun g hg g' hg' => by rw [OP] at hg'; subst hg'; exact hn g hg⟩
 ·rw [Ue]
  rcases Gn.1 hg with hg | hg
  ·obtain ⟨⟨x, hx, hxe⟩, h2⟩ := h.mem g hg
   refine ⟨⟨x, by simp [hx], hxe⟩, ?_⟩
   rw [← h2, Yh (fun q => hn g hg ((Fo hk hem (hxe ▸ hk x (Ji hx))).1 q).symm)]; simp
  ·rw [OP] at hg; subst hg
   refine ⟨⟨e, by simp, rfl⟩, ?_⟩
   rw [Yg ((Fo hk hem (hk e hem)).2 rfl), List.filter_eq_nil_iff.2 fun x hx q => ?_]; rfl
   obtain ⟨g, hg, hgk⟩ := h.all x hx
   exact hn g hg (hgk.trans ((Fo hk (Ji hx) (hk e hem)).1 q))
 ·rcases Gn.1 hx with hx | hx
  ·obtain ⟨g, hg, hgk⟩ := h.all x hx
   exact ⟨g, by simp [hg], hgk⟩
  ·rw [OP] at hx; subst hx
   exact ⟨(kf x.row, [x]), by simp, rfl⟩
def G4 (g h : List Val × List Entry) : Int := Ai g.1 h.1
theorem grpCmp_ok : CmpOk G4 (fun g => g.1.map Val.clean) := rowCmp_ok.comp Prod.fst
theorem UA (hk : BG b kf) (h : GI b kf acc) : sortF G4 acc = EY b kf := by
 obtain ⟨k1, k2, k3⟩ := B2 hk
 have hp := Bt grpCmp_ok.swo acc
 have hs := HN grpCmp_ok.swo acc
 have hac : ∀ g ∈ acc, Au g.1 := fun g hg => by
  obtain ⟨⟨e, he, hq⟩, _⟩ := h.mem g hg
  exact hq ▸ hk e he
 have hnd : (sortF G4 acc).Pairwise fun g h => g.1 ≠ h.1 := (hp.pairwise_iff (fun {a b} hab => hab.symm)).2 h.nd
 have h1 : (sortF G4 acc).Pairwise fun g h => kR g.1 h.1 := by
  refine List.Pairwise.imp_of_mem (fun {g g'} hg hg' ⟨q1, q2⟩ => ?_) (hnd.and hs)
  have c1 := hac g (hp.mem_iff.1 hg)
  have c2 := hac g' (hp.mem_iff.1 hg')
  have e0 : Ai g.1 g'.1 ≠ 0 := fun q => q1 (Ck c1 c2 q)
  have e1 := rowCmp_ok.anti g.1 g'.1
  have e2 : ¬ Ai g'.1 g.1 < 0 := q2
  show Ai g.1 g'.1 < 0
  omega
 have h2 : (EY b kf).Pairwise fun g h => kR g.1 h.1 := by
  unfold EY; rw [X3]; exact k1
 refine DB (fun g => WK g.1) (fun a b c => Yx a.1 b.1 c.1) h1 h2 fun g => ?_
 rw [hp.mem_iff]
 constructor
 ·intro hg
  obtain ⟨⟨e, he, hq⟩, h3⟩ := h.mem g hg
  exact List.mem_map.2 ⟨g.1, (k3 _).2 ⟨e, he, hq⟩, by rw [← h3]⟩
 ·intro hg
  obtain ⟨k, hkm, rfl⟩ := List.mem_map.1 hg
  obtain ⟨e, he, rfl⟩ := (k3 k).1 hkm
  obtain ⟨g, hg, hgk⟩ := h.all e he
  have := (h.mem g hg).2
  rw [hgk] at this
  rw [← this, ← hgk]; exact hg
def Hs (L : List (Val × Int)) : Int := (L.map Prod.snd).sum
def GM (L : List (Val × Int)) : Int := (L.map fun x => if x.1.kind = 1 then x.1.int * x.2 else 0).sum
def GN (L : List (Val × Int)) : Int := (L.map fun x => if x.1.kind = 1 then x.2 else 0).sum
def EW (L : List (Val × Int)) : List (Val × Int) := L.filter fun x => decide (x.1.kind ≠ 0)
def Ey : List (Val × Int) → Int → Val
 | [], _ => Val.null
 | x :: L, i => if i < x.2 then x.1 else Ey L (i - x.2)
def below (L : List (Val × Int)) (v : Val) : Int := (L.map fun x => if x.1.cmp v < 0 then x.2 else 0).sum
def aO (L : List (Val × Int)) (v : Val) : Int := (L.map fun x => if v.cmp x.1 < 0 then 0 else x.2).sum
def M5 (L : List (Val × Int)) : Prop := ∀ x ∈ L, 0 < x.2
def aP (L : List (Val × Int)) : Prop := L.Pairwise fun x y => ¬ y.1.cmp x.1 < 0
theorem Se {α : Type} {f : α → Int} {a b : List α} (h : a.Perm b) : (a.map f).sum = (b.map f).sum := by
 induction h with
 | nil => rfl
 | cons x _ ih => simp [ih]
 | swap x y l => simp only [List.map_cons, List.sum_cons]; omega
 | trans _ _ i1 i2 => exact i1.trans i2
theorem Sf {α : Type} {f g : α → Int} : ∀ {l : List α}, (∀ x ∈ l, f x ≤ g x) → (l.map f).sum ≤ (l.map g).sum
 | [], _ => Int.le_refl _
 | x :: l, h => by
   have h1 := h x (by simp)
   have h2 := Sf (l := l) fun y hy => h y (by simp [hy])
   simp only [List.map_cons, List.sum_cons]; omega
theorem M6 {α : Type} {f : α → Int} : ∀ {l : List α}, (∀ x ∈ l, f x = 0) → (l.map f).sum = 0
 | [], _ => rfl
 | x :: l, h => by
   have h1 := h x (by simp)
   have h2 := M6 (l := l) fun y hy => h y (by simp [hy])
   simp only [List.map_cons, List.sum_cons]; omega
theorem P2 {L : List (Val × Int)} (hp : M5 L) (hn : L ≠ []) : 0 < Hs L := by
 cases L with
 | nil => exact absurd rfl hn
 | cons x L =>
   have h := Sf (f := fun _ => (0 : Int)) (g := Prod.snd) (l := L) fun y hy => by
    have := hp y (by simp [hy]); omega
   rw [M6 (f := fun _ : Val × Int => (0 : Int)) (fun _ _ => rfl)] at h
   have := hp x (by simp)
   unfold Hs
   simp only [List.map_cons, List.sum_cons]; omega
noncomputable def ascE (L : List (Val × Int)) : List (Val × Int) := sortF (fun x y => x.1.cmp y.1) (EW L)
noncomputable def foldE (f : Int) (L : List (Val × Int)) : Val :=
 if f = 0 then Val.ofInt (Hs L)
 else if f = 1 then (if GN L = 0 then Val.null else Val.ofInt (GM L))
 else if f = 2 then (if EW L = [] then Val.null else Ey (ascE L) 0)
 else if f = 3 then (if EW L = [] then Val.null else Ey (ascE L) (Hs (EW L) - 1))
 else if f = 4 then (if EW L = [] then Val.null else Ey (ascE L) ((Hs (EW L) - 1) / 2))
 else Val.null
theorem vcmp_ok : CmpOk (fun x y : Val × Int => x.1.cmp y.1) (fun x => x.1.clean) := cmp_ok.comp Prod.fst
theorem EZ (L : List (Val × Int)) : (ascE L).Perm (EW L) := Bt vcmp_ok.swo _
theorem QU {x : Val × Int} {S : List (Val × Int)} (hp : M5 (x :: S)) : Ey (x :: S) 0 = x.1 := by rw [Ey, if_pos (hp x (by simp))]
theorem M7 : ∀ {S : List (Val × Int)} {x : Val × Int}, M5 (S ++ [x]) → Ey (S ++ [x]) (Hs (S ++ [x]) - 1) = x.1
 | [], x, h => by
   have := h x (by simp)
   show (if Hs [x] - 1 < x.2 then x.1 else _) = x.1
   rw [if_pos (by simp [Hs]; omega)]
 | y :: S, x, h => by
   have hp : M5 (S ++ [x]) := fun z hz => h z (by rw [List.cons_append]; exact List.mem_cons_of_mem _ hz)
   have ht := P2 hp (by simp)
   have he : Hs (y :: (S ++ [x])) = y.2 + Hs (S ++ [x]) := by simp [Hs]
   rw [List.cons_append, Ey, he, if_neg (by omega), show y.2 + Hs (S ++ [x]) - 1 - y.2 = Hs (S ++ [x]) - 1 by omega]
   exact M7 hp
theorem K8 (h : l.all AU = true) : ∀ e ∈ l, Au e.row := fun e he => by
 have := Ec.1 h e he
 simp only [AU, BO] at this
 exact B7 this.1
theorem HY (l : List Entry) : ∀ e, e ∈ sortE l → ∃ x ∈ l, x.row = e.row := by
 induction l using sortE.induct with
 | case1 l h => intro e he; rw [sortE, dif_pos h] at he; exact ⟨e, (KB.1 he).1, rfl⟩
 | case2 l h ih1 ih2 =>
   intro e he
   rw [sortE, dif_neg h] at he
   obtain ⟨x, hx, hr⟩ := Dz _ _ e he
   rcases hx with hx | hx
   ·obtain ⟨y, hy, hq⟩ := ih1 x hx
    exact ⟨y, Ji hy, hq.trans hr⟩
   ·obtain ⟨y, hy, hq⟩ := ih2 x hx
    exact ⟨y, Uc hy, hq.trans hr⟩
theorem Gr : ∀ {l : List Entry} {p : Option Entry}, (∀ e ∈ l, e.ok = true) → l.Pairwise eR → (∀ q, p = some q → ∀ e ∈ l, eR q e) → goodFrom p l = true
 | [], _, _, _, _ => rfl
 | x :: l, p, h, hs, hp => by
   obtain ⟨h1, h2⟩ := Fe.1 hs
   have ih := Gr (p := some x) (fun e he => h e (by simp [he])) h2 (fun q hq => by cases hq; exact h1)
   simp only [goodFrom, BO]
   refine ⟨⟨h x (by simp), ?_⟩, ih⟩
   cases p with
   | none => rfl
   | some q => exact decide_eq_true (hp q rfl x (by simp))
theorem D8 (h : (A9 l).2 = 0) : (A9 l).1 = sortE l ∧ Sorted (sortE l) ∧ Aj (sortE l) = true ∧ ∀ r, AZ (sortE l) r = AZ l r := by
 unfold A9 at *
 split at h
 ·rename_i hall
  rw [if_pos hall]
  obtain ⟨p1, p2⟩ := CE l (K8 hall)
  refine ⟨Mk h, p1, ?_, p2⟩
  unfold AQ at h
  split at h
  ·cases h
  ·split at h
   ·rename_i hl hc
    simp only [Aj, BO, decide_eq_true_eq]
    refine ⟨by omega, Gr (fun e he => ?_) p1.up (by simp)⟩
    have h1 := Ec.1 hc e he
    obtain ⟨x, hx, hr⟩ := HY l e he
    have h2 := Ec.1 hall x hx
    simp only [AU, BO] at h2
    simp only [Entry.ok, BO, decide_eq_true_eq]
    rw [← hr]
    exact ⟨⟨h2.1, h1⟩, p1.nz e he⟩
   ·cases h
 ·cases h
theorem A3 (h : Aj l = true) : Sorted l := by
 obtain ⟨_, hm⟩ := AG h
 refine ⟨?_, fun e he => (hm e he).2.2, fun e he => B7 (hm e he).1⟩
 simp only [Aj, BO] at h
 have key : ∀ {l : List Entry} {p : Option Entry}, goodFrom p l = true → l.Pairwise eR ∧ ∀ q, p = some q → ∀ e ∈ l, eR q e := by
  intro l
  induction l with
  | nil => intro p _; exact ⟨.nil, by simp⟩
  | cons x l ih =>
    intro p hp
    simp only [goodFrom, BO] at hp
    obtain ⟨i1, i2⟩ := ih hp.2
    refine ⟨Fe.2 ⟨i2 x rfl, i1⟩, fun q hq e he => ?_⟩
    subst hq
    have hqx : eR q x := by simpa [eR] using hp.1.2
    rcases Dp.1 he with rfl | he
    ·exact hqx
    ·exact V8 _ _ _ hqx (i2 x rfl e he)
 exact (key h.2).1
theorem JQ (h : Aj l = true) : A9 l = (l, 0) := by
 have hs := A3 h
 obtain ⟨hlen, hm⟩ := AG h
 have hall : l.all AU = true := Ec.2 fun e he => by
  obtain ⟨h1, h2, _⟩ := hm e he
  simp only [AU, AH, BO, decide_eq_true_eq]
  exact ⟨h1, h2.1, h2.2⟩
 obtain ⟨p1, p2⟩ := CE l (K8 hall)
 have : sortE l = l := p1.unique hs p2
 rw [A9, if_pos hall, this, AQ, if_neg (by omega), if_pos]
 refine Ec.2 fun e he => ?_
 obtain ⟨_, h2, _⟩ := hm e he
 simp only [AH, BO, decide_eq_true_eq]
 exact h2
end Go.Proofs.YtmpgmjlanngkfaaGreat
end
section
namespace Go.Proofs.YtmpgmjlanngkfaaGreat
open Go.Abs Go.RowKit
attribute [local irreducible] ARun Aq MCall PCall HCall Am SF CF CFs Af Al Ap B5 AW VLe
set_option linter.unusedSimpArgs false
set_option maxRecDepth 100000
set_option maxHeartbeats 4000000
def AA (l : List Entry) : Bool := Aj l && l.all (fun e => decide (0 ≤ e.count))
theorem Ev (l : List Entry) : PC 87 [.one (Ao l)] (.v (.one (.lit (.bool (AA l))))) := by
 have hvc := Cb l
 cases hb : Aj l with
 | false =>
   rw [hb] at hvc
   have he : AA l = false := by simp [AA, hb]
   rw [he]
   refine Ad hT Tryz.func87 Tryz.ntmps87 [.tmp 2] fun B => ?_
   repeat' first | refine kz ?_ | refine As ?_ | refine Aa (hvc) ?_ | refine kf ?_ | fail
   all_goals rfl
 | true =>
   rw [hb] at hvc
   have he : AA l = l.all (fun e => decide (0 ≤ e.count)) := by simp [AA, hb]
   obtain ⟨hl, hm⟩ := AG hb
   rw [he]
   refine Ad hT Tryz.func87 Tryz.ntmps87 [.tmp 2] fun B => ?_
   repeat' first | refine kz ?_ | refine As ?_ | refine Aa (hvc) ?_ | refine kf ?_ | fail
   refine AY (X := Nat) ([2, 4] ++ List.range' 10 8) (fun x => x ≤ l.length ∧ (l.take x).all (fun e => decide (0 ≤ e.count)) = true) (fun x lz => (10, (iC x)) :: lz) (fun x => []) (fun x => l.length - x) (0) ?_ ?_ ?_ ?_
   repeat' first | exact k0 | refine kw ?_ | omega
   ·exact ⟨by simp, by simp⟩
   rintro i c ⟨hi, hinv⟩
   by_cases hlt : i < l.length
   ·obtain ⟨e, hv⟩ := gx hlt
    by_cases hr : e.count < 0
    ·rw [DC (fun e : Entry => decide (0 ≤ e.count)) hv (by simpa using hr)]
     repeat' first | refine kz ?_ | refine AT hv ?_ | refine As ?_ | refine kf ?_ | fail
     all_goals rfl
    ·repeat' first | refine kz ?_ | refine AT hv ?_ | refine As ?_ | refine kf ?_ | fail
     apply Ae (i + 1) <;> (try dsimp only) <;> try repeat' first | exact k0 | refine kw ?_ | omega
     exact ⟨by omega, CY (fun e : Entry => decide (0 ≤ e.count)) hv hinv (by simp; omega)⟩
   ·rw [Ag (by omega)] at hinv
    rw [hinv]
    repeat' first | refine kz ?_ | refine As ?_ | refine kf ?_ | fail
    all_goals rfl
end Go.Proofs.YtmpgmjlanngkfaaGreat
end
section
namespace Go.Proofs.YtmpgmjlanngkfaaGreat
open Go.Abs Go.RowKit
set_option linter.unusedSimpArgs false
set_option maxRecDepth 100000
variable {l : List Entry} {n : Nat}
def BE : List Entry → Nat
 | [] => 0
 | e :: l => e.count.natAbs + BE l
theorem DQ (a b : List Entry) : BE (a ++ b) = BE a + BE b := by
 induction a with
 | nil => simp [BE]
 | cons e a ih => simp only [List.cons_append, BE, ih]; omega
theorem IX (a b : List Entry) : BE (mergeE a b) ≤ BE a + BE b := by
  induction a, b using mergeE.induct with
  | case1 b => simp [mergeE, BE]
  | case2 a h => rw [mergeE]; · omega
                 · exact h
  | case3 x a y b h ih => rw [mergeE, if_pos h]; simp only [BE] at ih ⊢; omega
  | case4 x a y b h1 h2 ih => rw [mergeE, if_neg h1, if_pos h2]; simp only [BE] at ih ⊢; omega
  | case5 x a y b h1 h2 ih =>
    rw [mergeE, if_neg h1, if_neg h2, DQ]
    simp only [BE] at ih ⊢
    split
    · simp only [BE]; omega
    · simp only [BE]; omega
theorem OF (p : Entry → Bool) (l : List Entry) : BE (l.filter p) ≤ BE l := by
 induction l with
 | nil => exact Nat.le_refl _
 | cons e l ih =>
   rw [Ug]
   split
   ·simp only [BE]; omega
   ·simp only [BE]; omega
theorem Kv (l : List Entry) : BE (sortE l) ≤ BE l := by
 induction l using sortE.induct with
 | case1 l h => rw [sortE, dif_pos h]; exact OF _ _
 | case2 l h ih1 ih2 =>
   rw [sortE, dif_neg h]
   have h1 := IX (sortE (l.take (l.length / 2))) (sortE (l.drop (l.length / 2)))
   have h2 := DQ (l.take (l.length / 2)) (l.drop (l.length / 2))
   rw [X0] at h2
   omega
theorem Gj {e : Entry} (h : e ∈ l) : e.count.natAbs ≤ BE l := by
 induction l with
 | nil => cases h
 | cons x l ih =>
   rcases Dp.1 h with rfl | h
   ·simp only [BE]; omega
   ·have := ih h; simp only [BE]; omega
theorem Kw (h : ∀ e ∈ l, e.count ≠ 0) : l.length ≤ BE l := by
 induction l with
 | nil => exact Nat.le_refl _
 | cons e l ih =>
   have h1 := ih fun x hx => h x (by simp [hx])
   have h2 := h e (by simp)
   simp only [BE, List.length_cons]; omega
theorem Mu (h : ∀ e ∈ l, e.count.natAbs ≤ n) : BE l ≤ n * l.length := by
 induction l with
 | nil => exact Nat.zero_le _
 | cons e l ih =>
   have h1 := ih fun x hx => h x (by simp [hx])
   have h2 := h e (by simp)
   simp only [BE, List.length_cons, Nat.mul_add]; omega
def wS (f : List Val → Int) : List Entry → Int
 | [] => 0
 | e :: l => e.count * f e.row + wS f l
theorem Fa (f : List Val → Int) (a b : List Entry) : wS f (a ++ b) = wS f a + wS f b := by
 induction a with
 | nil => simp [wS]
 | cons e a ih => simp only [List.cons_append, wS, ih]; omega
theorem Fb {f g : List Val → Int} (h : ∀ e ∈ l, f e.row = g e.row) : wS f l = wS g l := by
 induction l with
 | nil => rfl
 | cons e l ih => rw [wS, wS, h e (by simp), ih fun x hx => h x (by simp [hx])]
theorem GH (l : List Entry) : wS (fun _ => 0) l = 0 := by
 induction l with
 | nil => rfl
 | cons e l ih => rw [wS, ih]; omega
theorem LC (f : List Val → Int) (a b : List Entry) : (∀ e ∈ a, Au e.row) → (∀ e ∈ b, Au e.row) → wS f (mergeE a b) = wS f a + wS f b := by
  induction a, b using mergeE.induct with
  | case1 b => intro _ _; simp [mergeE, wS]
  | case2 a h => intro _ _; rw [mergeE]; · simp [wS]
                 · exact h
  | case3 x a y b h ih =>
    intro ha hb
    have ih := ih (fun e he => ha e (by simp [he])) hb
    rw [mergeE, if_pos h]; simp only [wS] at ih ⊢; rw [ih]; omega
  | case4 x a y b h1 h2 ih =>
    intro ha hb
    have ih := ih ha (fun e he => hb e (by simp [he]))
    rw [mergeE, if_neg h1, if_pos h2]; simp only [wS] at ih ⊢; rw [ih]; omega
  | case5 x a y b h1 h2 ih =>
    intro ha hb
    have ih := ih (fun e he => ha e (by simp [he])) (fun e he => hb e (by simp [he]))
    have h0 : Ai x.row y.row = 0 := by omega
    have hr := Ck (ha x (by simp)) (hb y (by simp)) h0
    rw [mergeE, if_neg h1, if_neg h2, Fa, ih]
    simp only [wS]
    rw [← hr]
    have hm : (x.count + y.count) * f x.row = x.count * f x.row + y.count * f x.row := Int.add_mul ..
    split
    · rename_i hz
      rw [hz, Int.zero_mul] at hm
      simp only [wS]; omega
    · simp only [wS]; omega
theorem RJ (f : List Val → Int) (l : List Entry) : wS f (l.filter (fun e => decide (e.count ≠ 0))) = wS f l := by
 induction l with
 | nil => rfl
 | cons e l ih =>
   rw [Ug]
   split
   ·simp only [wS, ih]
   ·rename_i h
    have : e.count = 0 := by simpa using h
    simp only [wS, ih, this]; omega
theorem TQ (f : List Val → Int) (l : List Entry) : (∀ e ∈ l, Au e.row) → wS f (sortE l) = wS f l := by
 induction l using sortE.induct with
 | case1 l h => intro _; rw [sortE, dif_pos h]; exact RJ f l
 | case2 l h ih1 ih2 =>
   intro hc
   have c1 : ∀ e ∈ l.take (l.length / 2), Au e.row := fun e he => hc e (Ji he)
   have c2 : ∀ e ∈ l.drop (l.length / 2), Au e.row := fun e he => hc e (Uc he)
   rw [sortE, dif_neg h, LC f _ _ (CE _ c1).1.cl (CE _ c2).1.cl, ih1 c1, ih2 c2, ← Fa, X0]
def TR (r s : List Val) : Int := if Ai s r = 0 then 1 else 0
theorem Iy (l : List Entry) (r : List Val) : AZ l r = wS (TR r) l := by
 induction l with
 | nil => rfl
 | cons e l ih =>
   rw [AZ, wS, ih, TR]
   split <;> simp
structure Tiny (n w : Nat) (b : List Entry) : Prop where
 v : Aj b = true
 w : ∀ e ∈ b, e.row.length = w
 s : BE b ≤ n
theorem Tiny.cl {w : Nat} {b : List Entry} (h : Tiny n w b) : ∀ e ∈ b, Au e.row := fun e he => B7 ((AG h.v).2 e he).1
theorem Mv {w : Nat} (hr : ∀ e ∈ l, A7 e.row = true) (hw : ∀ e ∈ l, e.row.length = w) (hs : BE l ≤ n) (hn : n ≤ 4096) : Tiny n w (sortE l) ∧ ∀ e ∈ sortE l, e.count.natAbs ≤ 4096 := by
 obtain ⟨h1, _⟩ := CE l fun e he => B7 (hr e he)
 have h2 := Kv l
 have h3 : ∀ e ∈ sortE l, e.count.natAbs ≤ 4096 := fun e he => by have := Gj he; omega
 have h4 := Kw h1.nz
 refine ⟨⟨?_, fun e he => ?_, by omega⟩, h3⟩
 ·rw [Aj, Gr (fun e he => ?_) h1.up (by simp), Bool.and_true]
  ·simp only [decide_eq_true_eq]; omega
  ·obtain ⟨x, hx, q⟩ := HY l e he
   have a1 := hr x hx
   rw [q] at a1
   have a2 := h1.nz e he
   have a3 := h3 e he
   simp only [Entry.ok, a1, AH, Bool.true_and, BO, decide_eq_true_eq]
   omega
 ·obtain ⟨x, hx, q⟩ := HY l e he
  rw [← q]; exact hw x hx
end Go.Proofs.YtmpgmjlanngkfaaGreat
end
