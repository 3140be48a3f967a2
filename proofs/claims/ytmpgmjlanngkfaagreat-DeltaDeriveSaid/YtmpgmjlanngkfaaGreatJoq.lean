/-
  Algebra: what the joiner makes final, in plain terms.
-/
import Derived.Test.YtmpgmjlanngkfaaGreatJop
section
namespace Go.Proofs.YtmpgmjlanngkfaaGreat
open Go.Abs Go.RowKit
set_option linter.unusedSimpArgs false
set_option maxRecDepth 100000
theorem Ij {α : Type} : ∀ {l : List α} {i : Nat} {x : α}, l[i]? = some x → ∃ l1 l2, l = l1 ++ x :: l2 ∧ l.eraseIdx i = l1 ++ l2 ∧ ∀ y, l.set i y = l1 ++ y :: l2
 | [], i, x, h => by simp at h
 | a :: l, 0, x, h => by
   simp at h; subst h
   exact ⟨[], l, rfl, rfl, fun _ => rfl⟩
 | a :: l, i + 1, x, h => by
   obtain ⟨l1, l2, h1, h2, h3⟩ := Ij (l := l) (i := i) (by simpa using h)
   exact ⟨a :: l1, l2, by rw [h1]; rfl, by simp [h2], fun y => by simp [h3 y]⟩
structure JInv (D : Bs → Int) (G N : Bs → Prop) (A : Bs → Int) (os : List Bs) (s r : List (Bs × Int)) : Prop where
 perm : os.Perm (s.map Prod.fst)
 nd : (s.map Prod.fst).Nodup
 val : ∀ e ∈ s, e.2 = D e.1
 kg : ∀ e ∈ s, G e.1
 dz : ∀ c, ¬ G c → D c = 0
 cl : ∀ c, G c → c ∉ s.map Prod.fst → N c ∧ (A c ≠ 0 → (c, A c) ∈ r)
 res : ∀ e ∈ r, e.2 = A e.1 ∧ e.2 ≠ 0 ∧ G e.1 ∧ e.1 ∉ s.map Prod.fst
 rnd : (r.map Prod.fst).Nodup
def Pi (A : Bs → Int) (r : List (Bs × Int)) : Prop := (r.map Prod.fst).Nodup ∧ ∀ e ∈ r, e.2 = A e.1 ∧ e.2 ≠ 0
theorem JInv.fin {D : Bs → Int} {G N : Bs → Prop} {A : Bs → Int} {os : List Bs} {s r : List (Bs × Int)} (h : JInv D G N A os s r) : Pi A r := ⟨h.rnd, fun e he => ⟨(h.res e he).1, (h.res e he).2.1⟩⟩
theorem JInv.congr {D D' : Bs → Int} {G G' N N' : Bs → Prop} {A : Bs → Int} {os os' : List Bs} {s r : List (Bs × Int)} (h : JInv D G N A os s r) (hD : ∀ c, D c = D' c) (hG : ∀ c, G c ↔ G' c) (hN : ∀ c, N c → N' c) (ho : os'.Perm os) : JInv D' G' N' A os' s r :=
 ⟨ho.trans h.perm, h.nd, fun e he => by rw [← hD]; exact h.val e he, fun e he => (hG _).1 (h.kg e he), fun c hc => by rw [← hD]; exact h.dz c fun q => hc ((hG c).1 q), fun c hc hk => ⟨hN c (h.cl c ((hG c).2 hc) hk).1, (h.cl c ((hG c).2 hc) hk).2⟩, fun e he => ⟨(h.res e he).1, (h.res e he).2.1, (hG _).1 (h.res e he).2.2.1, (h.res e he).2.2.2⟩, h.rnd⟩
theorem JInv.close1 {D : Bs → Int} {G N : Bs → Prop} {A : Bs → Int} {c : Bs} {os : List Bs} {s r : List (Bs × Int)} (h : JInv D G N A (c :: os) s r) (hN : N c) (hA : A c = D c) : JInv D G N A os (NJ c s) (BO c s r) := by
 have hck : c ∈ s.map Prod.fst := h.perm.subset (by simp)
 rcases BT c s with ⟨i, v, g1, g2, _, g4, _⟩ | ⟨g1, _⟩
 ·obtain ⟨l1, l2, e1, e2, _⟩ := Ij g1
  unfold BO
  rw [g4, e2, g2]
  have hval := h.val (c, v) (List.mem_of_getElem? g1)
  have hkg := h.kg (c, v) (List.mem_of_getElem? g1)
  simp only at hval hkg
  have hp := h.perm
  have hnd := h.nd
  have hm : s.map Prod.fst = l1.map Prod.fst ++ c :: l2.map Prod.fst := by rw [e1]; simp
  have hm2 : (l1 ++ l2).map Prod.fst = l1.map Prod.fst ++ l2.map Prod.fst := by simp
  rw [hm] at hp hnd
  have hnd2 := (List.perm_middle.nodup_iff).1 hnd
  obtain ⟨hcn, hnd3⟩ := List.nodup_cons.1 hnd2
  have hsub : ∀ e, e ∈ l1 ++ l2 → e ∈ s := fun e he => by
   rw [e1]
   rcases List.mem_append.1 he with q | q
   ·exact List.mem_append_left _ q
   ·exact List.mem_append_right _ (List.mem_cons_of_mem _ q)
  have hsubk : ∀ x, x ∈ (l1 ++ l2).map Prod.fst → x ∈ s.map Prod.fst := fun x hx => by
   obtain ⟨e, he, rfl⟩ := List.mem_map.1 hx
   exact List.mem_map_of_mem (hsub e he)
  have hcr : c ∉ r.map Prod.fst := fun q => by
   obtain ⟨e, he, hq⟩ := List.mem_map.1 q
   exact (h.res e he).2.2.2 (hq ▸ hck)
  refine ⟨?_, ?_, fun e he => h.val e (hsub e he), fun e he => h.kg e (hsub e he), h.dz, fun x hx hk => ?_, fun e he => ?_, ?_⟩
  ·rw [hm2]; exact (hp.trans List.perm_middle).cons_inv
  ·rw [hm2]; exact hnd3
  ·by_cases hxc : x = c
   ·subst hxc
    refine ⟨hN, fun hz => ?_⟩
    rw [if_neg (by rw [hval, ← hA]; exact hz), hval, ← hA]
    simp
   ·have hk2 : x ∉ s.map Prod.fst := fun q => by
     rw [hm] at q
     rcases List.mem_append.1 q with q | q
     ·exact hk (by rw [hm2]; exact List.mem_append_left _ q)
     ·rcases List.mem_cons.1 q with q | q
      ·exact hxc q
      ·exact hk (by rw [hm2]; exact List.mem_append_right _ q)
    obtain ⟨h1, h2⟩ := h.cl x hx hk2
    refine ⟨h1, fun hz => ?_⟩
    split
    ·exact h2 hz
    ·exact List.mem_append_left _ (h2 hz)
  ·have hold : e ∈ r → e.2 = A e.1 ∧ e.2 ≠ 0 ∧ G e.1 ∧ e.1 ∉ (l1 ++ l2).map Prod.fst := fun q => ⟨(h.res e q).1, (h.res e q).2.1, (h.res e q).2.2.1, fun z => (h.res e q).2.2.2 (hsubk _ z)⟩
   split at he
   ·exact hold he
   ·rename_i hv
    rcases List.mem_append.1 he with he | he
    ·exact hold he
    ·obtain rfl := List.mem_singleton.1 he
     exact ⟨by rw [hA]; exact hval, hv, hkg, by rw [hm2]; exact hcn⟩
  ·split
   ·exact h.rnd
   ·rw [List.map_append, List.nodup_append]
    refine ⟨h.rnd, by simp, fun x hx y hy q => ?_⟩
    simp at hy
    subst hy; subst q
    exact hcr hx
 ·obtain ⟨e, he, hq⟩ := List.mem_map.1 hck
  exact absurd hq (g1 e he)
theorem JInv.closeLev {D : Bs → Int} {G N : Bs → Prop} {A : Bs → Int} : ∀ {cs os : List Bs} {s r : List (Bs × Int)}, JInv D G N A (cs ++ os) s r → (∀ c ∈ cs, N c ∧ A c = D c) →
   (∀ s' r', closeLev cs s r = some (s', r') → JInv D G N A os s' r') ∧ (closeLev cs s r = none → ∃ r' : List (Bs × Int), 4096 < r'.length ∧ Pi A r')
 | [], os, s, r, h, _ => ⟨fun s' r' q => by
     simp only [Go.Proofs.YtmpgmjlanngkfaaGreat.closeLev, Option.some.injEq, Prod.mk.injEq] at q
     obtain ⟨rfl, rfl⟩ := q
     exact h, fun q => by simp [Go.Proofs.YtmpgmjlanngkfaaGreat.closeLev] at q⟩
 | c :: cs, os, s, r, h, hc => by
   have h1 := h.close1 (hc c (by simp)).1 (hc c (by simp)).2
   have h2 := JInv.closeLev h1 (fun x hx => hc x (by simp [hx]))
   rw [Go.Proofs.YtmpgmjlanngkfaaGreat.closeLev]
   split
   · rename_i hl
     exact ⟨fun s' r' q => (by cases q), fun _ => ⟨_, hl, h1.fin⟩⟩
   · exact h2
theorem JInv.closeE {D : Bs → Int} {G N : Bs → Prop} {A : Bs → Int} {code : Bs} : ∀ {st : List Lev} {s r : List (Bs × Int)}, JInv D G N A (st.flatMap Lev.opened) s r → (∀ l ∈ st, ¬ (code ≠ [] ∧ l.code.isPrefixOf code = true) → ∀ c ∈ l.opened, N c ∧ A c = D c) →
   (∀ st' s' r', closeE code st s r = some (st', s', r') → JInv D G N A (st'.flatMap Lev.opened) s' r' ∧ ∀ l ∈ st', l ∈ st) ∧ (closeE code st s r = none → ∃ r' : List (Bs × Int), 4096 < r'.length ∧ Pi A r')
 | [], s, r, h, _ => ⟨fun st' s' r' q => by
     simp only [Go.Proofs.YtmpgmjlanngkfaaGreat.closeE, Option.some.injEq, Prod.mk.injEq] at q
     obtain ⟨rfl, rfl, rfl⟩ := q
     exact ⟨h, fun l hl => hl⟩, fun q => by simp [Go.Proofs.YtmpgmjlanngkfaaGreat.closeE] at q⟩
 | l :: st, s, r, h, hc => by
   rw [Go.Proofs.YtmpgmjlanngkfaaGreat.closeE]
   split
   · exact ⟨fun st' s' r' q => by
      simp only [Option.some.injEq, Prod.mk.injEq] at q
      obtain ⟨rfl, rfl, rfl⟩ := q
      exact ⟨h, fun l hl => hl⟩, fun q => by cases q⟩
   · rename_i hp
     have h1 := JInv.closeLev (cs := l.opened) (os := st.flatMap Lev.opened) h (hc l (by simp) hp)
     split
     ·rename_i hq
      exact ⟨fun st' s' r' q => (by cases q), fun _ => h1.2 hq⟩
     ·rename_i s2 r2 hq
      have h2 := JInv.closeE (code := code) (h1.1 _ _ hq) (fun m hm => hc m (by simp [hm]))
      exact ⟨fun st' s' r' q => ⟨(h2.1 _ _ _ q).1, fun m hm => by simp [(h2.1 _ _ _ q).2 m hm]⟩, h2.2⟩
theorem JU : ∀ {st : List Lev} {s r : List (Bs × Int)} {st' : List Lev} {s' r' : List (Bs × Int)}, closeE [] st s r = some (st', s', r') → st' = []
 | [], s, r, st', s', r', h => by
   simp only [closeE, Option.some.injEq, Prod.mk.injEq] at h
   exact h.1.symm
 | l :: st, s, r, st', s', r', h => by
   rw [closeE, if_neg (by simp)] at h
   split at h
   ·cases h
   ·exact JU h
theorem JInv.add1 {D : Bs → Int} {G N : Bs → Prop} {A : Bs → Int} {u y : Bs × Int} {op os : List Bs} {s r : List (Bs × Int)} (h : JInv D G N A (op ++ os) s r) (hn : ¬ N (u.1 ++ y.1)) :
  JInv (fun c => D c + if u.1 ++ y.1 = c then u.2 * y.2 else 0) (fun c => G c ∨ u.1 ++ y.1 = c) N A ((AT u (op, s) y).1 ++ os) (AT u (op, s) y).2 r := by
 unfold AT
 generalize u.1 ++ y.1 = c0 at hn ⊢
 generalize u.2 * y.2 = k
 simp only
 rcases BT c0 s with ⟨i, v, g1, g2, g3, _, g5⟩ | ⟨g1, g2, g3, _, g5⟩
 ·obtain ⟨l1, l2, e1, _, e3⟩ := Ij g1
  rw [g5, g2, g3, if_pos rfl, e3]
  have hval := h.val (c0, v) (List.mem_of_getElem? g1)
  simp only at hval
  have hm : s.map Prod.fst = l1.map Prod.fst ++ c0 :: l2.map Prod.fst := by rw [e1]; simp
  have hm2 : (l1 ++ (c0, v + k) :: l2).map Prod.fst = s.map Prod.fst := by rw [hm]; simp
  have hnd := h.nd
  rw [hm] at hnd
  have hcn := (List.nodup_cons.1 ((List.perm_middle.nodup_iff).1 hnd)).1
  have hcase : ∀ e ∈ l1 ++ (c0, v + k) :: l2, e = (c0, v + k) ∨ (e ∈ s ∧ e.1 ≠ c0) := fun e he => by
   rcases List.mem_append.1 he with q | q
   ·exact .inr ⟨by rw [e1]; exact List.mem_append_left _ q, fun z => hcn (List.mem_append_left _ (z ▸ List.mem_map_of_mem q))⟩
   ·rcases List.mem_cons.1 q with q | q
    ·exact .inl q
    ·exact .inr ⟨by rw [e1]; exact List.mem_append_right _ (List.mem_cons_of_mem _ q), fun z => hcn (List.mem_append_right _ (z ▸ List.mem_map_of_mem q))⟩
  refine ⟨by rw [hm2]; exact h.perm, by rw [hm2]; exact h.nd, fun e he => ?_, fun e he => ?_, fun c hc => ?_, fun c hc hk => ?_, fun e he => ?_, h.rnd⟩
  ·rcases hcase e he with rfl | ⟨q1, q2⟩
   ·simp [hval]
   ·rw [if_neg (fun z => q2 z.symm), h.val e q1]; omega
  ·rcases hcase e he with rfl | ⟨q1, q2⟩
   ·exact .inr rfl
   ·exact .inl (h.kg e q1)
  ·simp only [not_or] at hc
   rw [if_neg hc.2, h.dz c hc.1]; rfl
  ·rw [hm2] at hk
   rcases hc with hc | hc
   ·exact h.cl c hc hk
   ·subst hc; exact absurd (by rw [hm]; simp) hk
  ·rw [hm2]
   obtain ⟨q1, q2, q3, q4⟩ := h.res e he
   exact ⟨q1, q2, .inl q3, q4⟩
 ·rw [g5, g2, g3, if_neg (by simp)]
  have hck : c0 ∉ s.map Prod.fst := fun q => by
   obtain ⟨e, he, hq⟩ := List.mem_map.1 q
   exact g1 e he hq
  have hG : ¬ G c0 := fun q => hn (h.cl c0 q hck).1
  have hm2 : (s ++ [(c0, 0 + k)]).map Prod.fst = s.map Prod.fst ++ [c0] := by simp
  refine ⟨?_, ?_, fun e he => ?_, fun e he => ?_, fun c hc => ?_, fun c hc hk => ?_, fun e he => ?_, h.rnd⟩
  ·rw [hm2]
   have q1 : (op ++ [c0] ++ os).Perm (op ++ os ++ [c0]) := by
    rw [List.append_assoc, List.append_assoc]
    exact List.Perm.append_left _ List.perm_append_comm
   exact q1.trans (h.perm.append_right _)
  ·rw [hm2, List.nodup_append]
   exact ⟨h.nd, by simp, fun a ha b hb q => by simp at hb; subst hb; subst q; exact hck ha⟩
  ·rcases List.mem_append.1 he with q | q
   ·have hne : ¬ c0 = e.1 := fun z => g1 e q z.symm
    rw [if_neg hne, h.val e q]; omega
   ·obtain rfl := List.mem_singleton.1 q
    simp [h.dz c0 hG]
  ·rcases List.mem_append.1 he with q | q
   ·exact .inl (h.kg e q)
   ·obtain rfl := List.mem_singleton.1 q
    exact .inr rfl
  ·simp only [not_or] at hc
   rw [if_neg hc.2, h.dz c hc.1]; rfl
  ·rw [hm2] at hk
   rcases hc with hc | hc
   ·exact h.cl c hc (fun q => hk (List.mem_append_left _ q))
   ·subst hc; exact absurd (by simp) hk
  ·rw [hm2]
   obtain ⟨q1, q2, q3, q4⟩ := h.res e he
   refine ⟨q1, q2, .inl q3, fun q => ?_⟩
   rcases List.mem_append.1 q with q | q
   ·exact q4 q
   ·simp at q; exact hG (q ▸ q3)
abbrev Fe := (Bs × Int) × List (Bs × Int)
def T1 (u : Bs × Int) (ps : List (Bs × Int)) (c : Bs) : Int := (ps.map fun y => if u.1 ++ y.1 = c then u.2 * y.2 else 0).sum
def G1 (u : Bs × Int) (ps : List (Bs × Int)) (c : Bs) : Prop := ∃ y ∈ ps, u.1 ++ y.1 = c
def TT (l : List Fe) (c : Bs) : Int := (l.map fun x => T1 x.1 x.2 c).sum
def GG (l : List Fe) (c : Bs) : Prop := ∃ x ∈ l, G1 x.1 x.2 c
def NN (l : List Fe) (c : Bs) : Prop := ∀ x ∈ l, ¬ x.1.1 <+: c
theorem JInv.addAll {N : Bs → Prop} {A : Bs → Int} {u : Bs × Int} {os : List Bs} {r : List (Bs × Int)} : ∀ {ps : List (Bs × Int)} {D : Bs → Int} {G : Bs → Prop} {op : List Bs} {s : List (Bs × Int)}, JInv D G N A (op ++ os) s r → (∀ y ∈ ps, ¬ N (u.1 ++ y.1)) →
   JInv (fun c => D c + T1 u ps c) (fun c => G c ∨ G1 u ps c) N A ((ps.foldl (AT u) (op, s)).1 ++ os) (ps.foldl (AT u) (op, s)).2 r
 | [], D, G, op, s, h, _ => h.congr (fun c => by simp [T1]) (fun c => by simp [G1]) (fun _ q => q) (List.Perm.refl _)
 | y :: ps, D, G, op, s, h, hn => by
   have h1 := h.add1 (u := u) (y := y) (hn y (by simp))
   have h2 := JInv.addAll (ps := ps) (u := u) (op := (AT u (op, s) y).1) (s := (AT u (op, s) y).2) h1 (fun z hz => hn z (by simp [hz]))
   rw [List.foldl_cons]
   refine h2.congr (fun c => ?_) (fun c => ?_) (fun _ q => q) (List.Perm.refl _)
   ·simp only [T1, List.map_cons, List.sum_cons]; omega
   ·simp only [G1, List.mem_cons, exists_eq_or_imp, or_assoc]
theorem JV {u : Bs × Int} : ∀ {ps : List (Bs × Int)} {op : List Bs} {s : List (Bs × Int)}, (∀ c ∈ op, u.1 <+: c) → ∀ c ∈ (ps.foldl (AT u) (op, s)).1, u.1 <+: c
 | [], op, s, h => h
 | y :: ps, op, s, h => by
   rw [List.foldl_cons]
   refine JV (op := (AT u (op, s) y).1) (s := (AT u (op, s) y).2) fun c hc => ?_
   unfold AT at hc
   simp only at hc
   split at hc
   ·exact h c hc
   ·rcases List.mem_append.1 hc with q | q
    ·exact h c q
    ·simp at q; subst q; exact List.prefix_append ..
theorem K5 (a b : List Fe) (c : Bs) : TT (a ++ b) c = TT a c + TT b c := by simp [TT]
theorem VB {u : Bs × Int} {ps : List (Bs × Int)} {c : Bs} (h : ¬ u.1 <+: c) : T1 u ps c = 0 := by
 unfold T1
 induction ps with
 | nil => rfl
 | cons y ps ih =>
   have hne : ¬ u.1 ++ y.1 = c := fun q => h (by rw [← q]; exact List.prefix_append ..)
   rw [List.map_cons, List.sum_cons, ih, if_neg hne]; rfl
theorem VC {l : List Fe} {c : Bs} (h : NN l c) : TT l c = 0 := by
 induction l with
 | nil => rfl
 | cons x l ih =>
   unfold TT at ih ⊢
   rw [List.map_cons, List.sum_cons, ih (fun y hy => h y (by simp [hy])), VB (h x (by simp))]; rfl
def Qm (q : JS) (x : Fe) : Option JS := match closeE x.1.1 q.1.reverse q.2.1 q.2.2 with
 | none => none
 | some (st', s', r') => some (st'.reverse ++ [⟨x.1.1, (x.2.foldl (AT x.1) ([], s')).1⟩], (x.2.foldl (AT x.1) ([], s')).2, r')
def Gx : List Fe → JS → Option JS
 | [], q => some q
 | x :: l, q => match Qm q x with
   | none => none
   | some q' => Gx l q'
structure InOrd (all : List Fe) : Prop where
 ord : all.Pairwise fun x y => ¬ y.1.1 <+: x.1.1
 near : ∀ d x0 t, all = d ++ x0 :: t → ∀ x ∈ d, ∀ y ∈ t, x.1.1 <+: y.1.1 → x.1.1 <+: x0.1.1
theorem NM {all : List Fe} (hO : InOrd all) : ∀ (todo dn : List Fe) (st : List Lev) (s r : List (Bs × Int)), all = dn ++ todo → JInv (TT dn) (GG dn) (NN todo) (TT all) (st.reverse.flatMap Lev.opened) s r →
   (∀ l ∈ st, (∀ c ∈ l.opened, l.code <+: c) ∧ ∃ x ∈ dn, x.1.1 = l.code) →
   (∀ q, Gx todo (st, s, r) = some q → JInv (TT all) (GG all) (NN []) (TT all) (q.1.reverse.flatMap Lev.opened) q.2.1 q.2.2) ∧ (Gx todo (st, s, r) = none → ∃ r' : List (Bs × Int), 4096 < r'.length ∧ Pi (TT all) r')
 | [], dn, st, s, r, ha, h, _ => by
   rw [List.append_nil] at ha
   subst ha
   exact ⟨fun q hq => by simp only [Gx, Option.some.injEq] at hq; subst hq; exact h, fun hq => by simp [Gx] at hq⟩
 | x0 :: t, dn, st, s, r, ha, h, hl => by
   have hord := hO.ord
   rw [ha] at hord
   obtain ⟨_, ho2, ho3⟩ := List.pairwise_append.1 hord
   have hcl := h.closeE (code := x0.1.1) (fun l hlm hp c hc => by
     obtain ⟨h1, x, hx, hxe⟩ := hl l (List.mem_reverse.1 hlm)
     have hpc := h1 c hc
     have hNN : NN (x0 :: t) c := by
      have hnp : ¬ l.code <+: x0.1.1 := fun q => hp ⟨fun z => by
       have := ho3 x hx x0 (by simp)
       rw [z] at this
       exact this (List.nil_prefix), List.isPrefixOf_iff_prefix.2 q⟩
      intro y hy q
      rcases Nat.le_total y.1.1.length l.code.length with hle | hle
      ·have := List.prefix_of_prefix_length_le q hpc hle
       rw [← hxe] at this
       exact ho3 x hx y hy this
      ·have hq := List.prefix_of_prefix_length_le hpc q hle
       rcases List.mem_cons.1 hy with rfl | hy
       ·exact hnp hq
       ·exact hnp (hxe ▸ hO.near dn x0 t ha x hx y hy (hxe ▸ hq))
     exact ⟨hNN, by rw [ha, K5, VC hNN]; omega⟩)
   rw [Gx, Qm]
   cases hq : Go.Proofs.YtmpgmjlanngkfaaGreat.closeE x0.1.1 st.reverse s r with
   | none => exact ⟨fun q z => (by cases z), fun _ => hcl.2 hq⟩
   | some z =>
     obtain ⟨st', s', r'⟩ := z
     obtain ⟨k1, k2⟩ := hcl.1 _ _ _ hq
     simp only
     have k3 := JInv.addAll (u := x0.1) (ps := x0.2) (op := []) (os := st'.flatMap Lev.opened) k1 (fun y _ hN => hN x0 (by simp) (List.prefix_append ..))
     have hpre := JV (u := x0.1) (ps := x0.2) (op := []) (s := s') (by simp)
     refine NM hO t (dn ++ [x0]) _ _ _ (by rw [ha]; simp) (k3.congr (fun c => ?_) (fun c => ?_) (fun c hN y hy => hN y (by simp [hy])) ?_) (fun l hlm => ?_)
     ·rw [K5]; simp [TT]
     ·simp [GG, or_and_right, exists_or]
     ·simp
     ·rcases List.mem_append.1 hlm with hlm | hlm
      ·obtain ⟨z1, x, z2, z3⟩ := hl l (List.mem_reverse.1 (k2 l (List.mem_reverse.1 hlm)))
       exact ⟨z1, x, by simp [z2], z3⟩
      ·obtain rfl := List.mem_singleton.1 hlm
       exact ⟨hpre, x0, by simp, rfl⟩
def Pj (l : List Fe) : Option (List (Bs × Int)) := match Gx l ([], [], []) with
 | none => none
 | some q => match closeE [] q.1.reverse q.2.1 q.2.2 with
   | none => none
   | some (_, _, r) => some r
theorem Ri {l : List Fe} (hO : InOrd l) : match Pj l with
   | none => ∃ r : List (Bs × Int), 4096 < r.length ∧ Pi (TT l) r
   | some r => Pi (TT l) r ∧ ∀ c, TT l c ≠ 0 → (c, TT l c) ∈ r := by
 have h := NM hO l [] [] [] [] rfl ⟨by simp, by simp, by simp, by simp, fun c _ => by simp [TT], fun c hc => by simp [GG] at hc, by simp, by simp⟩ (by simp)
 unfold Pj
 cases hq : Gx l ([], [], []) with
 | none => exact h.2 hq
 | some q =>
   simp only
   have h1 := (h.1 q hq).closeE (code := []) (fun l _ _ c _ => ⟨by simp [NN], rfl⟩)
   cases hc : closeE [] q.1.reverse q.2.1 q.2.2 with
   | none => exact h1.2 hc
   | some z =>
     obtain ⟨st', s', r'⟩ := z
     have h2 := (h1.1 _ _ _ hc).1
     have := JU hc
     subst this
     have hs : s' = [] := by
      have := h2.perm.length_eq
      simp at this
      exact List.length_eq_zero_iff.1 this.symm
     subst hs
     refine ⟨h2.fin, fun c hz => ?_⟩
     apply (h2.cl c _ (by simp)).2 hz
     apply Classical.byContradiction
     intro hG
     exact hz (h2.dz c hG)
end Go.Proofs.YtmpgmjlanngkfaaGreat
end
