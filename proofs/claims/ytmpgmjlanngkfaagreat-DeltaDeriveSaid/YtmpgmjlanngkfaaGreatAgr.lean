/-
  Aggregates: key rows and groups.
-/
import Derived.Test.YtmpgmjlanngkfaaGreatAlc
import Derived.Test.YtmpgmjlanngkfaaGreatSrt
import Derived.Test.YtmpgmjlanngkfaaGreatDex
import Derived.Test.YtmpgmjlanngkfaaGreatRej
import Derived.Test.YtmpgmjlanngkfaaGreatExg
import Derived.Test.YtmpgmjlanngkfaaGreatExm
import Derived.Test.YtmpgmjlanngkfaaGreatLaid
section
namespace Go.Proofs.YtmpgmjlanngkfaaGreat
open Go.Abs Go.RowKit
set_option linter.unusedSimpArgs false
set_option maxRecDepth 100000
def kR (a b : List Val) : Prop := Ak a b < 0
theorem W9 (a : List Val) : ¬ kR a a := by unfold kR; rw [rowCmp_ok.refl]; omega
theorem YG (a b c : List Val) (h1 : kR a b) (h2 : kR b c) : kR a c := rowCmp_ok.trans _ _ _ h1 h2
def DX (b : List Entry) (kf : List Val → List Val) : Prop := ∀ e ∈ b, AI (kf e.row)
def OP (kf : List Val → List Val) (k : List Val) (e : Entry) : Bool := decide (Ak (kf e.row) k = 0)
def DY (b : List Entry) (kf : List Val → List Val) : List (List Val) := (sortE (b.map fun e => ⟨kf e.row, 1⟩)).map Entry.row
def Hi (b : List Entry) (kf : List Val → List Val) : List (List Val × List Entry) := (DY b kf).map fun k => (k, b.filter (OP kf k))
theorem Gb {b : List Entry} {kf : List Val → List Val} (hk : DX b kf) {e : Entry} (he : e ∈ b) {k : List Val} (hc : AI k) : OP kf k e = true ↔ kf e.row = k := by
 unfold OP
 rw [decide_eq_true_eq]
 exact ⟨F7 (hk e he) hc, fun h => by rw [h]; exact rowCmp_ok.refl _⟩
theorem PM : ∀ (l : List Entry) (r : List Val), (∀ e ∈ l, 0 < e.count) → 0 ≤ A8 l r
 | [], _, _ => Int.le_refl _
 | e :: l, r, h => by
   have h1 := PM l r (fun x hx => h x (by simp [hx]))
   have h2 := h e (by simp)
   rw [A8]; split <;> omega
theorem Mx : ∀ {l : List Entry} {r : List Val}, (∀ e ∈ l, 0 < e.count) → (∃ e ∈ l, Ak e.row r = 0) → A8 l r ≠ 0
 | [], _, _, h => by obtain ⟨_, h, _⟩ := h; cases h
 | e :: l, r, h, hx => by
   have h1 := PM l r (fun x hx => h x (by simp [hx]))
   have h2 := h e (by simp)
   rw [A8]
   by_cases he : Ak e.row r = 0
   ·rw [if_pos he]; omega
   ·rw [if_neg he]
    obtain ⟨x, hx1, hx2⟩ := hx
    rcases List.mem_cons.1 hx1 with rfl | hx1
    ·exact absurd hx2 he
    ·have := Mx (fun y hy => h y (by simp [hy])) ⟨x, hx1, hx2⟩
     omega
theorem HV {b : List Entry} {kf : List Val → List Val} (hk : DX b kf) : (DY b kf).Pairwise kR ∧ (∀ k ∈ DY b kf, AI k) ∧ ∀ k, k ∈ DY b kf ↔ ∃ e ∈ b, kf e.row = k := by
 have hcl : ∀ e ∈ b.map fun e : Entry => (⟨kf e.row, 1⟩ : Entry), AI e.row := fun e he => by
  obtain ⟨x, hx, rfl⟩ := List.mem_map.1 he
  exact hk x hx
 obtain ⟨h1, h2⟩ := CJ _ hcl
 have hkc : ∀ k ∈ DY b kf, AI k := fun k hkm => by
  obtain ⟨e, he, rfl⟩ := List.mem_map.1 hkm
  exact h1.cl e he
 refine ⟨by unfold DY; rw [List.pairwise_map]; exact h1.up, hkc, fun k => ⟨fun hm => ?_, fun hm => ?_⟩⟩
 ·have hc := hkc k hm
  obtain ⟨e, he, rfl⟩ := List.mem_map.1 hm
  have hz : A8 (sortE (b.map fun e : Entry => (⟨kf e.row, 1⟩ : Entry))) e.row ≠ 0 := by
   rw [HM (DA h1.up) he (rowCmp_ok.refl _)]; exact h1.nz e he
  rw [h2] at hz
  obtain ⟨x, hx, hr⟩ := I9 hz
  obtain ⟨y, hy, rfl⟩ := List.mem_map.1 hx
  exact ⟨y, hy, F7 (hk y hy) hc hr⟩
 ·obtain ⟨e, he, rfl⟩ := hm
  have hz : A8 (b.map fun e : Entry => (⟨kf e.row, 1⟩ : Entry)) (kf e.row) ≠ 0 :=
   Mx (fun x hx => by obtain ⟨y, _, rfl⟩ := List.mem_map.1 hx; exact Int.zero_lt_one) ⟨_, List.mem_map.2 ⟨e, he, rfl⟩, rowCmp_ok.refl _⟩
  rw [← h2] at hz
  obtain ⟨x, hx, hr⟩ := I9 hz
  exact List.mem_map.2 ⟨x, hx, F7 (h1.cl x hx) (hk e he) hr⟩
structure GI (b : List Entry) (kf : List Val → List Val) (acc : List (List Val × List Entry)) : Prop where
 nd : acc.Pairwise fun g h => g.1 ≠ h.1
 mem : ∀ g ∈ acc, (∃ e ∈ b, kf e.row = g.1) ∧ g.2 = b.filter (OP kf g.1)
 all : ∀ e ∈ b, ∃ g ∈ acc, g.1 = kf e.row
theorem Xa (kf : List Val → List Val) : GI [] kf [] := ⟨.nil, fun _ hg => (by cases hg), fun _ he => (by cases he)⟩
theorem A9 {α : Type} {l : List α} {i : Nat} {x : α} (h : l[i]? = some x) : l.take (i + 1) = l.take i ++ [x] := by rw [List.take_add_one, h]; rfl
theorem Xb {b : List Entry} {kf : List Val → List Val} {acc : List (List Val × List Entry)} {i j : Nat} {e : Entry} {es : List Entry} (hk : DX b kf) (h : GI (b.take i) kf acc) (he : b[i]? = some e) (hj : acc[j]? = some (kf e.row, es)) : GI (b.take (i + 1)) kf (acc.set j (kf e.row, es ++ [e])) := by
 have hem : e ∈ b := List.mem_of_getElem? he
 have hjl := lt_of_getElem? hj
 have hne : ∀ g ∈ acc, g ≠ (kf e.row, es) → g.1 ≠ kf e.row := fun g hg hn hq => by
  obtain ⟨q, hq2⟩ := List.mem_iff_getElem?.1 hg
  have hql := lt_of_getElem? hq2
  have hp := List.pairwise_iff_getElem.1 h.nd
  rw [List.getElem?_eq_getElem hjl] at hj
  rw [List.getElem?_eq_getElem hql] at hq2
  simp only [Option.some.injEq] at hj hq2
  rcases Nat.lt_trichotomy q j with c | c | c
  ·have := hp q j hql hjl c; rw [hq2, hj] at this; exact this hq
  ·subst c; exact hn (hq2.symm.trans hj)
  ·have := hp j q hjl hql c; rw [hq2, hj] at this; exact this hq.symm
 have hfst : (acc.set j (kf e.row, es ++ [e])).map Prod.fst = acc.map Prod.fst := by
  rw [List.map_set]
  refine List.ext_getElem? fun q => ?_
  rw [List.getElem?_set]
  split
  ·rename_i c; subst c
   rw [List.length_map, if_pos hjl, List.getElem?_map, hj]; rfl
  ·rfl
 rw [A9 he]
 refine ⟨?_, fun g hg => ?_, fun x hx => ?_⟩
 ·have := h.nd
  rw [← List.pairwise_map (f := Prod.fst) (R := fun a b => a ≠ b)] at this ⊢
  rw [hfst]; exact this
 ·rw [List.filter_append]
  obtain ⟨q, hq⟩ := List.mem_iff_getElem?.1 hg
  rw [List.getElem?_set] at hq
  split at hq
  ·rename_i c; subst c
   simp only [Option.some.injEq] at hq
   subst hq
   refine ⟨⟨e, by simp, rfl⟩, ?_⟩
   rw [← (h.mem _ (List.mem_of_getElem? hj)).2, List.filter_cons_of_pos ((Gb hk hem (hk e hem)).2 rfl)]; rfl
  ·rename_i c
   have hgm := List.mem_of_getElem? hq
   have hgk : g.1 ≠ kf e.row := by
    intro hh
    have hql := lt_of_getElem? hq
    have hp := List.pairwise_iff_getElem.1 h.nd
    rw [List.getElem?_eq_getElem hjl] at hj
    rw [List.getElem?_eq_getElem hql] at hq
    simp only [Option.some.injEq] at hj hq
    rcases Nat.lt_trichotomy q j with c | c | c
    ·have := hp q j hql hjl c; rw [hq, hj] at this; exact this hh
    ·exact absurd c.symm ‹_›
    ·have := hp j q hjl hql c; rw [hq, hj] at this; exact this hh.symm
   obtain ⟨⟨x, hx, hxe⟩, h2⟩ := h.mem g hgm
   refine ⟨⟨x, by simp [hx], hxe⟩, ?_⟩
   have hxm : x ∈ b := List.mem_of_mem_take hx
   rw [← h2, List.filter_cons_of_neg (fun q => hgk ((Gb hk hem (hxe ▸ hk x hxm)).1 q).symm)]; simp
 ·rcases List.mem_append.1 hx with hx | hx
  ·obtain ⟨g, hg, hgk⟩ := h.all x hx
   have : g.1 ∈ (acc.set j (kf e.row, es ++ [e])).map Prod.fst := by rw [hfst]; exact List.mem_map.2 ⟨g, hg, rfl⟩
   obtain ⟨g', hg', hq⟩ := List.mem_map.1 this
   exact ⟨g', hg', hq.trans hgk⟩
  ·rw [List.mem_singleton] at hx; subst hx
   exact ⟨(kf x.row, es ++ [x]), List.mem_iff_getElem?.2 ⟨j, by rw [List.getElem?_set_self hjl]⟩, rfl⟩
theorem Xc {b : List Entry} {kf : List Val → List Val} {acc : List (List Val × List Entry)} {i : Nat} {e : Entry} (hk : DX b kf) (h : GI (b.take i) kf acc) (he : b[i]? = some e) (hn : ∀ g ∈ acc, g.1 ≠ kf e.row) : GI (b.take (i + 1)) kf (acc ++ [(kf e.row, [e])]) := by
 have hem : e ∈ b := List.mem_of_getElem? he
 rw [A9 he]
 refine ⟨?_, fun g hg => ?_, fun x hx => ?_⟩
 ·rw [List.pairwise_append]
  exact ⟨h.nd, List.pairwise_singleton .., fun g hg g' hg' => by rw [List.mem_singleton] at hg'; subst hg'; exact hn g hg⟩
 ·rw [List.filter_append]
  rcases List.mem_append.1 hg with hg | hg
  ·obtain ⟨⟨x, hx, hxe⟩, h2⟩ := h.mem g hg
   refine ⟨⟨x, by simp [hx], hxe⟩, ?_⟩
   rw [← h2, List.filter_cons_of_neg (fun q => hn g hg ((Gb hk hem (hxe ▸ hk x (List.mem_of_mem_take hx))).1 q).symm)]; simp
  ·rw [List.mem_singleton] at hg; subst hg
   refine ⟨⟨e, by simp, rfl⟩, ?_⟩
   rw [List.filter_cons_of_pos ((Gb hk hem (hk e hem)).2 rfl), List.filter_eq_nil_iff.2 fun x hx q => ?_]; rfl
   obtain ⟨g, hg, hgk⟩ := h.all x hx
   exact hn g hg (hgk.trans ((Gb hk (List.mem_of_mem_take hx) (hk e hem)).1 q))
 ·rcases List.mem_append.1 hx with hx | hx
  ·obtain ⟨g, hg, hgk⟩ := h.all x hx
   exact ⟨g, by simp [hg], hgk⟩
  ·rw [List.mem_singleton] at hx; subst hx
   exact ⟨(kf x.row, [x]), by simp, rfl⟩
def GM (g h : List Val × List Entry) : Int := Ak g.1 h.1
theorem grpCmp_ok : CmpOk GM (fun g => g.1.map Val.clean) := rowCmp_ok.comp Prod.fst
theorem UM {b : List Entry} {kf : List Val → List Val} {acc : List (List Val × List Entry)} (hk : DX b kf) (h : GI b kf acc) : sortF GM acc = Hi b kf := by
 obtain ⟨k1, k2, k3⟩ := HV hk
 have hp := BM grpCmp_ok.swo acc
 have hs := Fm grpCmp_ok.swo acc
 have hac : ∀ g ∈ acc, AI g.1 := fun g hg => by
  obtain ⟨⟨e, he, hq⟩, _⟩ := h.mem g hg
  exact hq ▸ hk e he
 have hnd : (sortF GM acc).Pairwise fun g h => g.1 ≠ h.1 := (hp.pairwise_iff (fun {a b} hab => hab.symm)).2 h.nd
 have h1 : (sortF GM acc).Pairwise fun g h => kR g.1 h.1 := by
  refine List.Pairwise.imp_of_mem (fun {g g'} hg hg' ⟨q1, q2⟩ => ?_) (hnd.and hs)
  have c1 := hac g (hp.mem_iff.1 hg)
  have c2 := hac g' (hp.mem_iff.1 hg')
  have e0 : Ak g.1 g'.1 ≠ 0 := fun q => q1 (F7 c1 c2 q)
  have e1 := rowCmp_ok.anti g.1 g'.1
  have e2 : ¬ Ak g'.1 g.1 < 0 := q2
  show Ak g.1 g'.1 < 0
  omega
 have h2 : (Hi b kf).Pairwise fun g h => kR g.1 h.1 := by
  unfold Hi; rw [List.pairwise_map]; exact k1
 refine EB (fun g => W9 g.1) (fun a b c => YG a.1 b.1 c.1) h1 h2 fun g => ?_
 rw [hp.mem_iff]
 constructor
 ·intro hg
  obtain ⟨⟨e, he, hq⟩, h3⟩ := h.mem g hg
  exact List.mem_map.2 ⟨g.1, (k3 _).2 ⟨e, he, hq⟩, by rw [← h3]⟩
 ·intro hg
  obtain ⟨k, hkm, rfl⟩ := List.mem_map.1 hg
  obtain ⟨e, he, rfl⟩ := (k3 k).1 hkm
  obtain ⟨g, hg, hgk⟩ := h.all e he
  have := (h.mem g hg).2
  rw [hgk] at this
  rw [← this, ← hgk]; exact hg
def C4 (L : List (Val × Int)) : Int := (L.map Prod.snd).sum
def FL (L : List (Val × Int)) : Int := (L.map fun x => if x.1.kind = 1 then x.1.int * x.2 else 0).sum
def FA (L : List (Val × Int)) : Int := (L.map fun x => if x.1.kind = 1 then x.2 else 0).sum
def BW (L : List (Val × Int)) : List (Val × Int) := L.filter fun x => decide (x.1.kind ≠ 0)
def B4 : List (Val × Int) → Int → Val
 | [], _ => Val.null
 | x :: L, i => if i < x.2 then x.1 else B4 L (i - x.2)
def below (L : List (Val × Int)) (v : Val) : Int := (L.map fun x => if x.1.cmp v < 0 then x.2 else 0).sum
def Kg (L : List (Val × Int)) (v : Val) : Int := (L.map fun x => if v.cmp x.1 < 0 then 0 else x.2).sum
def Dx (L : List (Val × Int)) : Prop := ∀ x ∈ L, 0 < x.2
def Lx (L : List (Val × Int)) : Prop := L.Pairwise fun x y => ¬ y.1.cmp x.1 < 0
theorem DZ {α : Type} {f : α → Int} {a b : List α} (h : a.Perm b) : (a.map f).sum = (b.map f).sum := by
 induction h with
 | nil => rfl
 | cons x _ ih => simp [ih]
 | swap x y l => simp only [List.map_cons, List.sum_cons]; omega
 | trans _ _ i1 i2 => exact i1.trans i2
theorem Ly {α : Type} {f g : α → Int} : ∀ {l : List α}, (∀ x ∈ l, f x ≤ g x) → (l.map f).sum ≤ (l.map g).sum
 | [], _ => Int.le_refl _
 | x :: l, h => by
   have h1 := h x (by simp)
   have h2 := Ly (l := l) fun y hy => h y (by simp [hy])
   simp only [List.map_cons, List.sum_cons]; omega
theorem Hj {α : Type} {f : α → Int} : ∀ {l : List α}, (∀ x ∈ l, f x = 0) → (l.map f).sum = 0
 | [], _ => rfl
 | x :: l, h => by
   have h1 := h x (by simp)
   have h2 := Hj (l := l) fun y hy => h y (by simp [hy])
   simp only [List.map_cons, List.sum_cons]; omega
theorem UN {L : List (Val × Int)} (hp : Dx L) (v : Val) : 0 ≤ Kg L v := by
 have h := Ly (f := fun _ => (0 : Int)) (g := fun x : Val × Int => if v.cmp x.1 < 0 then 0 else x.2) (l := L) fun x hx => by
  have := hp x hx
  split <;> omega
 rw [Hj (f := fun _ : Val × Int => (0 : Int)) (fun _ _ => rfl)] at h
 exact h
theorem Hk {L : List (Val × Int)} (hp : Dx L) (hn : L ≠ []) : 0 < C4 L := by
 cases L with
 | nil => exact absurd rfl hn
 | cons x L =>
   have h := Ly (f := fun _ => (0 : Int)) (g := Prod.snd) (l := L) fun y hy => by
    have := hp y (by simp [hy]); omega
   rw [Hj (f := fun _ : Val × Int => (0 : Int)) (fun _ _ => rfl)] at h
   have := hp x (by simp)
   unfold C4
   simp only [List.map_cons, List.sum_cons]; omega
theorem YH {x v w : Val} (h1 : ¬ v.cmp x < 0) (h2 : v.cmp w < 0) : x.cmp w < 0 := by
 have h3 := cmp_ok.anti x v
 by_cases h0 : x.cmp v = 0
 ·exact cmp_ok.left ((cmp_ok.zero x v).1 h0).symm h2
 ·exact cmp_ok.trans _ _ _ (by omega) h2
theorem Jo : ∀ {S : List (Val × Int)} {i : Int}, Lx S → Dx S → 0 ≤ i → i < C4 S → below S (B4 S i) ≤ i ∧ i < Kg S (B4 S i) ∧ ∃ x ∈ S, x.1 = B4 S i
 | [], i, _, _, h0, h1 => by simp [C4] at h1; omega
 | x :: L, i, ha, hp, h0, h1 => by
   obtain ⟨ha1, ha2⟩ := List.pairwise_cons.1 ha
   have hpx := hp x (by simp)
   have hpL : Dx L := fun y hy => hp y (by simp [hy])
   have hb : ∀ v, below (x :: L) v = (if x.1.cmp v < 0 then x.2 else 0) + below L v := fun v => by simp [below]
   have hu : ∀ v, Kg (x :: L) v = (if v.cmp x.1 < 0 then 0 else x.2) + Kg L v := fun v => by simp [Kg]
   rw [B4]
   by_cases hi : i < x.2
   ·rw [if_pos hi, hb, hu, cmp_ok.refl, if_neg (by omega), if_neg (by omega)]
    have hz : below L x.1 = 0 := Hj fun y hy => if_neg (ha1 y hy)
    have := UN hpL x.1
    exact ⟨by omega, by omega, x, by simp, rfl⟩
   ·rw [if_neg hi]
    have ht : C4 (x :: L) = x.2 + C4 L := by simp [C4]
    obtain ⟨q1, q2, y, hy, q3⟩ := Jo (i := i - x.2) ha2 hpL (by omega) (by omega)
    rw [hb, hu]
    refine ⟨?_, ?_, y, by simp [hy], q3⟩
    ·split <;> omega
    ·rw [if_neg (by rw [← q3]; exact ha1 y hy)]; omega
theorem UO {S S' : List (Val × Int)} (hp : Dx S) (hpm : S.Perm S') {i : Int} {v w : Val} (h1 : below S v ≤ i) (h2 : i < Kg S v) (h3 : below S' w ≤ i) (h4 : i < Kg S' w) : v.cmp w = 0 := by
 have e1 : below S' w = below S w := (DZ hpm).symm
 have e2 : Kg S' w = Kg S w := (DZ hpm).symm
 rw [e1] at h3; rw [e2] at h4
 have key : ∀ a b : Val, a.cmp b < 0 → Kg S a ≤ below S b := fun a b hab => Ly fun x hx => by
  have := hp x hx
  split
  ·split <;> omega
  ·rename_i q
   rw [if_pos (YH q hab)]; omega
 have h5 := cmp_ok.anti v w
 by_cases c1 : v.cmp w < 0
 ·have := key v w c1; omega
 ·by_cases c2 : w.cmp v < 0
  ·have := key w v c2; omega
  ·omega
theorem My {S S' : List (Val × Int)} {i : Int} (ha : Lx S) (ha' : Lx S') (hp : Dx S) (hpm : S.Perm S') (hc : ∀ x ∈ S, x.1.clean = x.1) (h0 : 0 ≤ i) (h1 : i < C4 S) : B4 S i = B4 S' i := by
 have hp' : Dx S' := fun x hx => hp x (hpm.mem_iff.2 hx)
 have ht : C4 S' = C4 S := (DZ hpm).symm
 obtain ⟨a1, a2, x, hx, a3⟩ := Jo ha hp h0 h1
 obtain ⟨b1, b2, y, hy, b3⟩ := Jo ha' hp' h0 (by omega)
 have hz := (cmp_ok.zero _ _).1 (UO hp hpm a1 a2 b1 b2)
 rw [← a3, ← b3] at hz ⊢
 rw [hc x hx, hc y (hpm.mem_iff.2 hy)] at hz
 exact hz
noncomputable def ascE (L : List (Val × Int)) : List (Val × Int) := sortF (fun x y => x.1.cmp y.1) (BW L)
noncomputable def foldE (f : Int) (L : List (Val × Int)) : Val :=
 if f = 0 then Val.ofInt (C4 L)
 else if f = 1 then (if FA L = 0 then Val.null else Val.ofInt (FL L))
 else if f = 2 then (if BW L = [] then Val.null else B4 (ascE L) 0)
 else if f = 3 then (if BW L = [] then Val.null else B4 (ascE L) (C4 (BW L) - 1))
 else if f = 4 then (if BW L = [] then Val.null else B4 (ascE L) ((C4 (BW L) - 1) / 2))
 else Val.null
theorem vcmp_ok : CmpOk (fun x y : Val × Int => x.1.cmp y.1) (fun x => x.1.clean) := cmp_ok.comp Prod.fst
theorem B8 (L : List (Val × Int)) : (ascE L).Perm (BW L) := BM vcmp_ok.swo _
theorem Jp (L : List (Val × Int)) : Lx (ascE L) := Fm vcmp_ok.swo _
theorem QF {x : Val × Int} {S : List (Val × Int)} (hp : Dx (x :: S)) : B4 (x :: S) 0 = x.1 := by rw [B4, if_pos (hp x (by simp))]
theorem Mz : ∀ {S : List (Val × Int)} {x : Val × Int}, Dx (S ++ [x]) → B4 (S ++ [x]) (C4 (S ++ [x]) - 1) = x.1
 | [], x, h => by
   have := h x (by simp)
   show (if C4 [x] - 1 < x.2 then x.1 else _) = x.1
   rw [if_pos (by simp [C4]; omega)]
 | y :: S, x, h => by
   have hp : Dx (S ++ [x]) := fun z hz => h z (by rw [List.cons_append]; exact List.mem_cons_of_mem _ hz)
   have ht := Hk hp (by simp)
   have he : C4 (y :: (S ++ [x])) = y.2 + C4 (S ++ [x]) := by simp [C4]
   rw [List.cons_append, B4, he, if_neg (by omega), show y.2 + C4 (S ++ [x]) - 1 - y.2 = C4 (S ++ [x]) - 1 by omega]
   exact Mz hp
end Go.Proofs.YtmpgmjlanngkfaaGreat
end
section
namespace Go.Proofs.YtmpgmjlanngkfaaGreat
open Go.Abs Go.RowKit
attribute [local irreducible] ARun At MCall PCall HCall Am SF CF CFs Ah Aj Ar fin AW VLe
set_option linter.unusedSimpArgs false
set_option maxRecDepth 100000
set_option maxHeartbeats 4000000
structure Itm where
 name : ByteArray
 expr : List Trm
def Itm.d (x : Itm) : List Dat := [.lit (.string x.name), AK x.expr]
def IU (l : List Itm) : Dat := .sl (l.map Itm.d)
def A0 (keys : List Itm) (row : List Val) : List Val := keys.map fun x => Ek x.expr row
theorem Cz (keys : List Itm) (row : List Val) : AI (A0 keys row) := by
 unfold AI A0
 rw [List.map_map]
 refine List.map_congr_left fun x _ => ?_
 show (Ek x.expr row).clean = Ek x.expr row
 rw [Val.clean, if_pos (Gk ..)]
theorem D0 (keys : List Itm) (row : List Val) : (A0 keys row).length = keys.length := by simp [A0]
def EG (r : List Val) : Dat := .ex (r.map Val.d)
theorem Lz (r : List Val) : DLe (EG r) (AU r) := DLe.ex _
theorem Sn (row : List Val) (keys : List Itm) (hk : keys.length ≤ 100000) : PCall Tryz.prog 113 [.one (AU row), .one (IU keys)] (.v (.one (EG (A0 keys row)))) := by
 refine Ac hT Tryz.func113 Tryz.ntmps113 [.tmp 4] fun B => ?_
 repeat' (first | (refine U4 (ei := RS) (m := keys.length) (z := (keys.length : Int)) (zd := Val.null.d) (fun b => ?_) (by omega) (by omega) (by omega) (by simp only [RS]; omega) (by exact rfl)) | refine kz ?_ | refine ki ?_ | refine A4 Af ?_ | refine Bo ?_)
 refine AO (X := Nat) [6, 7, 13, 14, 15, 16, 17, 18, 19, 20, 21, 22, 23, 24, 25] (fun x => x ≤ keys.length) (fun x lz => (13, (.c (.d (.lit (.int .i64 x))))) :: lz) (fun x => [.arrc 1 73 3 ((A0 (keys.take x) row).map Val.d ++ List.replicate (keys.length - x) Val.null.d) b keys.length]) (fun x => keys.length - x) (0) ?_ ?_ ?_ ?_
 repeat' (first | exact k0 | refine kw ?_ | omega)
 rintro i c hi
 by_cases hlt : i < keys.length
 ·have hv : keys[i]? = some keys[i] := List.getElem?_eq_getElem hlt
  generalize keys[i] = it at hv
  have hev := Hx it.expr row
  have hl : ((A0 (keys.take i) row).map Val.d).length = i := by simp [A0]; omega
  have hset : ((A0 (keys.take i) row).map Val.d ++ List.replicate (keys.length - i) Val.null.d).set i (Ek it.expr row).d = (A0 (keys.take (i + 1)) row).map Val.d ++ List.replicate (keys.length - (i + 1)) Val.null.d := by
    obtain ⟨k, hk⟩ : ∃ k, keys.length - i = k + 1 := ⟨keys.length - i - 1, by omega⟩
    rw [hk, show keys.length - (i + 1) = k by omega, List.replicate_succ, List.set_append_right _ _ (by omega), hl, Nat.sub_self, List.set_cons_zero]
    unfold A0
    rw [List.take_add_one, hv]; simp
  have hel : ((A0 (keys.take i) row).map Val.d ++ List.replicate (keys.length - i) Val.null.d)[i]? = some Val.null.d := by
    rw [List.getElem?_append_right (by omega), hl, Nat.sub_self, List.getElem?_replicate, if_pos (by omega)]
  have hAl : ((A0 (keys.take i) row).map Val.d ++ List.replicate (keys.length - i) Val.null.d).length = keys.length := by rw [List.length_append, hl, List.length_replicate]; omega
  generalize (A0 (keys.take i) row).map Val.d ++ List.replicate (keys.length - i) Val.null.d = A at hset hel hAl
  repeat' (first | refine kz ?_ | refine Go.Abs.kx hv ?_ | refine Go.Abs.kx hel ?_ | refine ki ?_ | refine Aa (hev) ?_ | refine SM (r := 0) (m := keys.length) (z := (i : Int)) ?_ (by omega) (by omega) (by exact rfl) | refine SN (r := 0) (j := i) (e' := (Ek it.expr row).d) (mem' := _ :: _) ?_ (by exact rfl) hel (hes := hset) (hm' := rfl) | refine kf ?_ | fail)
  (apply Ae (i + 1); all_goals (try dsimp only); all_goals (try (repeat' (first | exact k0 | refine kw ?_ | omega))))
  all_goals exact ES
 ·have hie : i = keys.length := by omega
  subst hie
  rw [List.take_length, Nat.sub_self, List.replicate_zero, List.append_nil]
  refine QR (r := 0) (m := keys.length) (es := (A0 keys row).map Val.d) 5 ?_ rfl (by rw [List.length_map, D0]) rfl
  repeat' (first | refine kz ?_ | refine ki ?_ | refine kf ?_ | fail)
  all_goals rfl
abbrev GL := List (List Val × Nat × List Entry)
def OQ (L : GL) : List (List Val × List Entry) := L.map fun g => (g.1, g.2.2)
def RW (g : List Val × List Entry) : List Dat := [EG g.1, Ap g.2]
def YI (l : List (List Val × List Entry)) : Dat := .sl (l.map RW)
def IA (k : List Val) : Value := .string ⟨(Ao k).toArray⟩
def PN (L : GL) : List (Value × PV) := L.mapIdx fun i g => (IA g.1, .one (.lit (.int .i64 (i : Nat))))
def LA (L : GL) : List (List Cell) := L.mapIdx fun i g => [.d (EG g.1), .arr (i + 4) g.2.1 g.2.2.length]
def OR (L : GL) : List Blk := L.map fun g => .arr g.2.1 56 2 (g.2.2.map Entry.d)
theorem QG {a b : List Val} (ha : AI a) (hb : AI b) (h : IA a = IA b) : a = b := by
 unfold IA at h
 injection h with h; injection h with h
 have h' : Ao a = Ao b := by simpa using congrArg Array.toList h
 have := E8 h'
 rw [ha, hb] at this; exact this
theorem Jq (L : GL) : ∀ e ∈ PN L, IK e.1 := fun e he => by
 obtain ⟨i, hi⟩ := List.mem_iff_getElem?.1 he
 simp only [PN, List.getElem?_mapIdx, Option.map_eq_some_iff] at hi
 obtain ⟨g, _, rfl⟩ := hi
 exact ⟨_, rfl⟩
theorem UP {L : GL} {i : Nat} {g : List Val × Nat × List Entry} (h : L[i]? = some g) : (PN L)[i]? = some (IA g.1, .one (.lit (.int .i64 (i : Nat)))) := by simp [PN, h]
theorem UQ {L : GL} {k : List Val} (hk : AI k) (hL : ∀ g ∈ L, AI g.1) (h : ∀ g ∈ L, g.1 ≠ k) : ∀ e ∈ PN L, e.1 ≠ IA k := fun e he q => by
 obtain ⟨i, hi⟩ := List.mem_iff_getElem?.1 he
 simp only [PN, List.getElem?_mapIdx, Option.map_eq_some_iff] at hi
 obtain ⟨g, hg, rfl⟩ := hi
 have hm := List.mem_of_getElem? hg
 exact h g hm (QG (hL g hm) hk q)
theorem So (L : GL) (g : List Val × Nat × List Entry) : PN L ++ [(IA g.1, .one (.lit (.int .i64 (L.length : Nat))))] = PN (L ++ [g]) := by simp [PN, List.mapIdx_append]
theorem UR {L : GL} {j v : Nat} {k : List Val} {es es' : List Entry} {v0 : Nat} (h : L[j]? = some (k, v0, es)) : PN (L.set j (k, v, es')) = PN L := by
 refine List.ext_getElem? fun i => ?_
 simp only [PN, List.getElem?_mapIdx, List.getElem?_set]
 split
 ·rename_i q; subst q
  have := lt_of_getElem? h
  rw [if_pos this, h]; rfl
 ·rfl
theorem US {L : GL} {i : Nat} {g : List Val × Nat × List Entry} (h : L[i]? = some g) : (LA L)[i]? = some [.d (EG g.1), .arr (i + 4) g.2.1 g.2.2.length] := by simp [LA, h]
theorem Hl (L : GL) : (LA L).length = L.length := by simp [LA]
theorem UT {L : GL} {j v : Nat} {k : List Val} {es es' : List Entry} {v0 : Nat} (h : L[j]? = some (k, v0, es)) : (LA L).set j [.d (EG k), .arr (j + 4) v es'.length] = LA (L.set j (k, v, es')) := by
 refine List.ext_getElem? fun i => ?_
 simp only [LA, List.getElem?_mapIdx, List.getElem?_set, List.length_mapIdx]
 split
 ·rename_i q; subst q
  have := lt_of_getElem? h
  rw [if_pos this, if_pos this]; rfl
 ·rfl
theorem Sp (L : GL) (g : List Val × Nat × List Entry) : LA L ++ [[.d (EG g.1), .arr (L.length + 4) g.2.1 g.2.2.length]] = LA (L ++ [g]) := by simp [LA, List.mapIdx_append]
theorem PO {L : GL} {i : Nat} {g : List Val × Nat × List Entry} (h : L[i]? = some g) : (OR L)[i]? = some (.arr g.2.1 56 2 (g.2.2.map Entry.d)) := by simp [OR, h]
theorem UU (L : GL) : (OR L).length = L.length := by simp [OR]
theorem UV (L : GL) (j : Nat) (g : List Val × Nat × List Entry) : (OR L).set j (.arr g.2.1 56 2 (g.2.2.map Entry.d)) = OR (L.set j g) := by simp [OR, List.map_set]
theorem Sq (L : GL) (g : List Val × Nat × List Entry) : OR L ++ [.arr g.2.1 56 2 (g.2.2.map Entry.d)] = OR (L ++ [g]) := by simp [OR]
theorem LB (L : GL) : (OQ L).length = L.length := by simp [OQ]
theorem UW (L : GL) (j : Nat) (g : List Val × Nat × List Entry) : OQ (L.set j g) = (OQ L).set j (g.1, g.2.2) := by simp [OQ, List.map_set]
theorem Sr (L : GL) (g : List Val × Nat × List Entry) : OQ (L ++ [g]) = OQ L ++ [(g.1, g.2.2)] := by simp [OQ]
theorem Ss {α : Type} {l : List α} {n : Nat} {a b : α} (h : n = l.length) : (l ++ [a]).set n b = l ++ [b] := by
 subst h; rw [List.set_append_right _ _ (Nat.le_refl _), Nat.sub_self]; rfl
theorem OS (g h : List Val × List Entry) : PCall Tryz.prog 116 [.agg (RW g), .agg (RW h)] (.v (.one (.lit (.int .i64 (GM g h))))) := by
 unfold GM
 have h : PCall Tryz.prog 116 [.agg [AU g.1, Ap g.2], .agg [AU h.1, Ap h.2]] (.v (.one (.lit (.int .i64 (Ak g.1 h.1))))) := by
  refine Ac hT Tryz.func116 Tryz.ntmps116 [.tmp 4] fun B => ?_
  repeat' (first | refine kz ?_ | refine Aa (Bf _ _) ?_ | refine kf ?_ | fail)
  all_goals rfl
 exact h.args ⟨⟨Lz _, .rfl, trivial⟩, ⟨Lz _, .rfl, trivial⟩, trivial⟩
theorem Su (b : List Entry) (keys : List Itm) (hbl : b.length ≤ 4096) (hkl : keys.length ≤ 10000) : PCall Tryz.prog 64 [.one (Ap b), .one (IU keys)] (.v (.one (YI (Hi b (A0 keys))))) := by
 have hK : DX b (A0 keys) := fun e _ => Cz keys e.row
 refine Ac hT Tryz.func64 Tryz.ntmps64 [.tmp 4] fun B => ?_
 repeat' (first | refine kz ?_ | refine ki ?_ | refine kf ?_ | refine kg ?_ ?_ | fail)
 refine Xh 5 98 2 ?_ (by decide)
 refine AO (X := Nat × GL × Nat) [5, 8, 9, 10, 11, 12, 16, 17, 18, 19, 20, 21, 22, 23, 24, 25, 26, 27, 28, 29, 30, 31, 32, 33, 34, 35, 36, 37, 38, 39, 40, 41, 42, 43, 44, 45, 46, 47, 48, 49, 50, 51, 52, 53, 54, 55, 56] (fun x => x.1 ≤ b.length ∧ x.2.1.length ≤ x.1 ∧ GI (b.take x.1) (A0 keys) (OQ x.2.1)) (fun x lz => (16, (.c (.d (.lit (.int .i64 x.1))))) :: (5, .c (.arr 1 x.2.2 x.2.1.length)) :: lz) (fun x => .map 1 9 3 (PN x.2.1) (List.range x.2.1.length) x.2.1.length :: .arrx x.2.2 98 2 (LA x.2.1) :: .dead :: .dead :: OR x.2.1) (fun x => b.length - x.1) ((0, [], 2)) ?_ ?_ ?_ ?_
 repeat' (first | exact k0 | refine kw ?_ | refine m3 ?_ ?_ ?_ ?_ | omega)
 ·exact SC
 ·exact ⟨by simp, by simp, Xa _⟩
 rintro ⟨i, L, kx⟩ c ⟨hi, hLi, hG⟩
 dsimp only at hi hLi hG ⊢
 by_cases hlt : i < b.length
 ·have hv : b[i]? = some b[i] := List.getElem?_eq_getElem hlt
  generalize b[i] = y at hv
  have hkr := Sn y.row keys (by omega)
  have hen : PCall Tryz.prog 114 [.one (EG (A0 keys y.row))] _ := (Cl (A0 keys y.row) (by rw [D0]; omega)).args ⟨Lz _, trivial⟩
  have hkc := Cz keys y.row
  have hLc : ∀ g ∈ L, AI g.1 := fun g hg => by
   obtain ⟨⟨e, _, hq⟩, _⟩ := hG.mem (g.1, g.2.2) (List.mem_map.2 ⟨g, hg, rfl⟩)
   exact hq ▸ Cz keys e.row
  have hLe : ∀ g ∈ L, g.2.2.length ≤ 4096 := fun g hg => by
   obtain ⟨_, hq⟩ := hG.mem (g.1, g.2.2) (List.mem_map.2 ⟨g, hg, rfl⟩)
   have h1 := List.length_filter_le (OP (A0 keys) g.1) (b.take i)
   have h2 : (b.take i).length ≤ i := by simp; omega
   have hq2 : g.2.2 = (b.take i).filter (OP (A0 keys) g.1) := hq
   rw [hq2]; omega
  by_cases hex : ∃ (j : Nat) (v : Nat) (es : List Entry), L[j]? = some (A0 keys y.row, v, es)
  ·obtain ⟨j, v, es, hj⟩ := hex
   have hjl := lt_of_getElem? hj
   have hesl := hLe _ (List.mem_of_getElem? hj)
   dsimp only at hesl
   have hgo := Xb (i := i) hK hG hv (j := j) (es := es) (by simp [OQ, hj])
   generalize A0 keys y.row = key at hkr hen hkc hj hgo
   have hpl := UP hj
   have hax := US hj
   have hin := PO hj
   dsimp only at hpl hax hin
   repeat' (first | refine De 2 (mem' := _ :: _ :: _ :: _ :: _) ?_ (hm' := rfl) | refine D4 (mem' := _ :: _ :: _ :: _ :: _) ?_ (hm' := rfl) | refine kz ?_ | refine Go.Abs.kx hv ?_ | refine ki ?_ | refine Aa (hkr) ?_ | refine Aa (hen) ?_ | refine Uc hpl ⟨_, rfl⟩ (Jq _) ?_ | refine MF (r := 1) (m := L.length) (z := (j : Int)) (es := LA L) ?_ (by omega) (by omega) (by exact rfl) | refine MG (r := 1) ?_ (by exact rfl) | refine MH (r := 1) ?_ (by exact rfl) hax | refine LP (mem' := _ :: _ :: _ :: _ :: (OR L).set j _) ?_ (hm := hin) (hm' := rfl) | refine KB (r := 1) (o := 1) (mem' := _ :: _ :: _ :: _ :: _) ?_ (by exact rfl) hax (by exact Nat.lt_succ_self 1) rfl (hm' := rfl) | refine A4 Af ?_ | refine Ib rfl rfl ?_ ?_)
   have hE := UT (v := c + 1 + 1) (es' := es ++ [y]) hj
   have hI := UV L j (key, c + 1 + 1, es ++ [y])
   have hP := UR (v := c + 1 + 1) (es' := es ++ [y]) hj
   have hgs := UW L j (key, c + 1 + 1, es ++ [y])
   have hlen : L.length = (L.set j (key, c + 1 + 1, es ++ [y])).length := by simp
   rw [List.length_append] at hE
   rw [List.map_append] at hI
   have hE2 : (LA L).set j ([Cell.d (EG key), Cell.arr (j + 4) v es.length].set 1 (Cell.arr (j + 4) (c + 1 + 1) (es.length + [[AU y.row, Dat.lit (Value.int .i64 y.count)]].length))) = _ := hE
   have hI2 : (OR L).set j (Blk.arr (c + 1 + 1) 56 2 (es.map Entry.d ++ [[AU y.row, Dat.lit (Value.int .i64 y.count)]])) = _ := hI
   rw [← hgs] at hgo
   generalize L.set j (key, c + 1 + 1, es ++ [y]) = L2 at hE2 hI2 hP hgo hlen
   rw [hE2, hI2, ← hP, hlen]
   (apply Ae ((i + 1, L2, kx)); all_goals (try dsimp only); all_goals (try (repeat' (first | exact k0 | refine kw ?_ | refine m3 ?_ ?_ ?_ ?_ | omega))))
   · exact ES
   · exact ⟨by omega, by omega, hgo⟩
  ·have hn : ∀ g ∈ L, g.1 ≠ A0 keys y.row := fun g hg hq => by
     obtain ⟨q, hq2⟩ := List.mem_iff_getElem?.1 hg
     exact hex ⟨q, g.2.1, g.2.2, by rw [hq2, ← hq]⟩
   have hgo := Xc (i := i) hK hG hv (fun g hg => by
     obtain ⟨x, hx, rfl⟩ := List.mem_map.1 hg
     exact hn x hx)
   have hpn := UQ hkc hLc hn
   generalize A0 keys y.row = key at hkr hen hn hgo hpn
   have hax : (LA L ++ [[Cell.d (EG key), Cell.emp]])[L.length]? = some [Cell.d (EG key), Cell.emp] := by rw [← Hl L]; simp
   have haxl : (LA L ++ [[Cell.d (EG key), Cell.emp]]).length = L.length + 1 := by simp [Hl]
   repeat' (first | refine De 2 (mem' := _ :: _ :: _ :: _ :: _) ?_ (hm' := rfl) | refine D4 (mem' := _ :: _ :: _ :: _ :: _) ?_ (hm' := rfl) | refine QJ 3 (e := 98) (mem' := _ :: _ :: _ :: _ :: _) ?_ (hm' := rfl) | refine kz ?_ | refine Go.Abs.kx hv ?_ | refine ki ?_ | refine Aa (hkr) ?_ | refine Aa (hen) ?_ | refine Ud hpn ⟨_, rfl⟩ (Jq _) ?_ | refine Xg (r := 1) ?_ (by exact rfl) | refine N3 (mem' := _ :: _ :: _ :: _ :: _) hpn ⟨_, rfl⟩ (Jq _) ?_ (hm' := rfl) | (refine Xf 1 3 (ei := V4) (cs := [Cell.d (EG key), Cell.emp]) (m := L.length) (es := LA L) (mem' := _ :: _ :: _ :: _ :: _) ?_ (Hl L) (by simp only [maxLen]; omega) (by simp only [V4]; omega) (by exact rfl) (by exact rfl) (by decide) (hm' := rfl)) | refine MF (r := 1) (m := L.length + 1) (z := (L.length : Int)) (es := LA L ++ [[Cell.d (EG key), Cell.emp]]) ?_ (by omega) (by omega) (by exact rfl) | refine MG (r := 1) ?_ (by exact rfl) | refine MH (r := 1) ?_ (by exact rfl) hax | refine LO (r := L.length + 4) (mem' := _ :: _ :: _ :: _ :: (OR L ++ [_])) ?_ (hr := by simp [UU]) (hm' := rfl) | refine KB (r := 1) (o := 1) (mem' := _ :: _ :: _ :: _ :: _) ?_ (by exact rfl) hax (by exact Nat.lt_succ_self 1) rfl (hm' := rfl) | refine A4 Af ?_ | refine Ib rfl rfl ?_ ?_)
   have hE := Sp L (key, c + 1 + 1 + 1 + 1, [y])
   have hI := Sq L (key, c + 1 + 1 + 1 + 1, [y])
   have hP := So L (key, c + 1 + 1 + 1 + 1, [y])
   have hgs := Sr L (key, c + 1 + 1 + 1 + 1, [y])
   have hlen : (L ++ [(key, c + 1 + 1 + 1 + 1, [y])]).length = L.length + 1 := by simp
   have hE2 : (LA L ++ [[Cell.d (EG key), Cell.emp]]).set L.length ([Cell.d (EG key), Cell.emp].set 1 (Cell.arr (L.length + 4) (c + 1 + 1 + 1 + 1) 1)) = _ := (Ss (Hl L).symm).trans hE
   have hI2 : OR L ++ [Blk.arr (c + 1 + 1 + 1 + 1) 56 2 [[AU y.row, Dat.lit (Value.int .i64 y.count)]]] = _ := hI
   have hP2 : PN L ++ [(IA key, PV.one (Dat.lit (Value.int .i64 (L.length : Nat))))] = _ := hP
   rw [← hgs] at hgo
   generalize L ++ [(key, c + 1 + 1 + 1 + 1, [y])] = L2 at hE2 hI2 hP2 hgo hlen
   rw [hE2, hI2, hP2, ← List.range_succ]
   (apply Ae ((i + 1, L2, c + 1 + 1 + 1)); all_goals (try dsimp only); all_goals (try (repeat' (first | exact k0 | refine kw ?_ | refine m3 ?_ ?_ ?_ ?_ | omega))))
   all_goals first
     | (rw [hlen]; done)
     | (rw [hlen]; rfl)
     | exact ES
     | exact ⟨by omega, by omega, hgo⟩
     | rfl
 ·obtain rfl : i = b.length := by omega
  rw [List.take_length] at hG
  have hs := UM hK hG
  have hS := Pk RW (fun _ => rfl) GM grpCmp_ok.swo 116 (OQ L) (by rw [LB]; omega) (fun g _ h _ => OS g h)
  have hgl := (BM grpCmp_ok.swo (OQ L)).length_eq
  rw [hs] at hS hgl
  rw [LB] at hS hgl
  refine UZ 4 1 ((OQ L).map RW) ?_ rfl (by decide) (by simp [Hl, LB]) (fun e he => by obtain ⟨g, _, rfl⟩ := List.mem_map.1 he; rfl) (fun q j e x hq hj => ?_) rfl
  ·repeat' (first | refine kz ?_ | refine ki ?_ | refine Ad [1] (hS) ?_ | refine kf ?_ | refine kg ?_ ?_ | fail)
   all_goals first
     | (simp; omega)
     | (rw [Ag (by simp; omega)]; rfl)
     | rfl
  ·simp only [LA, List.getElem?_mapIdx, Option.map_eq_some_iff] at hq
   obtain ⟨g, hg, rfl⟩ := hq
   refine ⟨RW (g.1, g.2.2), ?_⟩
   have h1 : ((OQ L).map RW)[q]? = some (RW (g.1, g.2.2)) := by simp [OQ, hg]
   match j, hj with
   | 0, hj =>
     simp only [List.getElem?_cons_zero, Option.some.injEq] at hj
     subst hj
     exact ⟨EG g.1, h1, rfl, rfl⟩
   | 1, hj =>
     simp only [List.getElem?_cons_succ, List.getElem?_cons_zero, Option.some.injEq] at hj
     subst hj
     exact ⟨Ap g.2.2, h1, rfl, by omega, 56, 2, g.2.2.map Entry.d, PO hg, by simp, by rw [List.take_of_length_le (by simp)]; rfl⟩
   | j + 2, hj => simp at hj
end Go.Proofs.YtmpgmjlanngkfaaGreat
end
