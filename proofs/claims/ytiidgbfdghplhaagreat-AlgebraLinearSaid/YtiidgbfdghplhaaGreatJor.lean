/-
  Algebra: the joiner's sums are those of the document's join. Plain, no program.
-/
import Derived.Test.YtiidgbfdghplhaaGreatJop
import Derived.Test.YtiidgbfdghplhaaGreatRek
section
namespace Go.Proofs.YtiidgbfdghplhaaGreat
open Go.Abs Go.RowKit
set_option linter.unusedSimpArgs false
set_option maxRecDepth 100000

theorem get_split {α : Type} : ∀ {l : List α} {i : Nat} {x : α}, l[i]? = some x → ∃ l1 l2, l = l1 ++ x :: l2 ∧ l.eraseIdx i = l1 ++ l2 ∧ ∀ y, l.set i y = l1 ++ y :: l2
  | [], i, x, h => by simp at h
  | a :: l, 0, x, h => by
    simp at h; subst h
    exact ⟨[], l, rfl, rfl, fun _ => rfl⟩
  | a :: l, i + 1, x, h => by
    obtain ⟨l1, l2, h1, h2, h3⟩ := get_split (l := l) (i := i) (by simpa using h)
    exact ⟨a :: l1, l2, by rw [h1]; rfl, by simp [h2], fun y => by simp [h3 y]⟩

/-- The joiner's state: D the sums so far, G the codes so far, N those that no row to come can reach, A the sums of all rows, os the open codes. -/
structure JInv (D : Bs → Int) (G N : Bs → Prop) (A : Bs → Int) (os : List Bs) (s r : List (Bs × Int)) : Prop where
  perm : os.Perm (s.map Prod.fst)
  nd : (s.map Prod.fst).Nodup
  val : ∀ e ∈ s, e.2 = D e.1
  kg : ∀ e ∈ s, G e.1
  dz : ∀ c, ¬ G c → D c = 0
  cl : ∀ c, G c → c ∉ s.map Prod.fst → N c ∧ (A c ≠ 0 → (c, A c) ∈ r)
  res : ∀ e ∈ r, e.2 = A e.1 ∧ e.2 ≠ 0 ∧ G e.1 ∧ e.1 ∉ s.map Prod.fst
  rnd : (r.map Prod.fst).Nodup

def FinR (A : Bs → Int) (r : List (Bs × Int)) : Prop := (r.map Prod.fst).Nodup ∧ ∀ e ∈ r, e.2 = A e.1 ∧ e.2 ≠ 0
theorem JInv.fin {D : Bs → Int} {G N : Bs → Prop} {A : Bs → Int} {os : List Bs} {s r : List (Bs × Int)} (h : JInv D G N A os s r) : FinR A r := ⟨h.rnd, fun e he => ⟨(h.res e he).1, (h.res e he).2.1⟩⟩

theorem JInv.congr {D D' : Bs → Int} {G G' N N' : Bs → Prop} {A : Bs → Int} {os os' : List Bs} {s r : List (Bs × Int)} (h : JInv D G N A os s r) (hD : ∀ c, D c = D' c) (hG : ∀ c, G c ↔ G' c) (hN : ∀ c, N c → N' c) (ho : os'.Perm os) : JInv D' G' N' A os' s r :=
  ⟨ho.trans h.perm, h.nd, fun e he => by rw [← hD]; exact h.val e he, fun e he => (hG _).1 (h.kg e he), fun c hc => by rw [← hD]; exact h.dz c fun q => hc ((hG c).1 q), fun c hc hk => ⟨hN c (h.cl c ((hG c).2 hc) hk).1, (h.cl c ((hG c).2 hc) hk).2⟩, fun e he => ⟨(h.res e he).1, (h.res e he).2.1, (hG _).1 (h.res e he).2.2.1, (h.res e he).2.2.2⟩, h.rnd⟩

theorem JInv.close1 {D : Bs → Int} {G N : Bs → Prop} {A : Bs → Int} {c : Bs} {os : List Bs} {s r : List (Bs × Int)} (h : JInv D G N A (c :: os) s r) (hN : N c) (hA : A c = D c) : JInv D G N A os (delK c s) (nextR c s r) := by
  have hck : c ∈ s.map Prod.fst := h.perm.subset (by simp)
  rcases key_cases c s with ⟨i, v, g1, g2, _, g4, _⟩ | ⟨g1, _⟩
  · obtain ⟨l1, l2, e1, e2, _⟩ := get_split g1
    unfold nextR
    rw [g4, e2, g2]
    have hval := h.val (c, v) (List.mem_of_getElem? g1)
    have hkg := h.kg (c, v) (List.mem_of_getElem? g1)
    simp only at hval hkg
    have hp := h.perm
    have hnd := h.nd
    have hm : s.map Prod.fst = l1.map Prod.fst ++ c :: l2.map Prod.fst := by rw [e1]; simp
    have hm2 : (l1 ++ l2).map Prod.fst = l1.map Prod.fst ++ l2.map Prod.fst := by simp
    rw [hm] at hp hnd
    have hnd2 := (List.perm_middle.nodup_iff).1 hnd
    obtain ⟨hcn, hnd3⟩ := List.nodup_cons.1 hnd2
    have hsub : ∀ e, e ∈ l1 ++ l2 → e ∈ s := fun e he => by
      rw [e1]
      rcases List.mem_append.1 he with q | q
      · exact List.mem_append_left _ q
      · exact List.mem_append_right _ (List.mem_cons_of_mem _ q)
    have hsubk : ∀ x, x ∈ (l1 ++ l2).map Prod.fst → x ∈ s.map Prod.fst := fun x hx => by
      obtain ⟨e, he, rfl⟩ := List.mem_map.1 hx
      exact List.mem_map_of_mem (hsub e he)
    have hcr : c ∉ r.map Prod.fst := fun q => by
      obtain ⟨e, he, hq⟩ := List.mem_map.1 q
      exact (h.res e he).2.2.2 (hq ▸ hck)
    refine ⟨?_, ?_, fun e he => h.val e (hsub e he), fun e he => h.kg e (hsub e he), h.dz, fun x hx hk => ?_, fun e he => ?_, ?_⟩
    · rw [hm2]; exact (hp.trans List.perm_middle).cons_inv
    · rw [hm2]; exact hnd3
    · by_cases hxc : x = c
      · subst hxc
        refine ⟨hN, fun hz => ?_⟩
        rw [if_neg (by rw [hval, ← hA]; exact hz), hval, ← hA]
        simp
      · have hk2 : x ∉ s.map Prod.fst := fun q => by
          rw [hm] at q
          rcases List.mem_append.1 q with q | q
          · exact hk (by rw [hm2]; exact List.mem_append_left _ q)
          · rcases List.mem_cons.1 q with q | q
            · exact hxc q
            · exact hk (by rw [hm2]; exact List.mem_append_right _ q)
        obtain ⟨h1, h2⟩ := h.cl x hx hk2
        refine ⟨h1, fun hz => ?_⟩
        split
        · exact h2 hz
        · exact List.mem_append_left _ (h2 hz)
    · have hold : e ∈ r → e.2 = A e.1 ∧ e.2 ≠ 0 ∧ G e.1 ∧ e.1 ∉ (l1 ++ l2).map Prod.fst := fun q => ⟨(h.res e q).1, (h.res e q).2.1, (h.res e q).2.2.1, fun z => (h.res e q).2.2.2 (hsubk _ z)⟩
      split at he
      · exact hold he
      · rename_i hv
        rcases List.mem_append.1 he with he | he
        · exact hold he
        · obtain rfl := List.mem_singleton.1 he
          exact ⟨by rw [hA]; exact hval, hv, hkg, by rw [hm2]; exact hcn⟩
    · split
      · exact h.rnd
      · rw [List.map_append, List.nodup_append]
        refine ⟨h.rnd, by simp, fun x hx y hy q => ?_⟩
        simp at hy
        subst hy; subst q
        exact hcr hx
  · obtain ⟨e, he, hq⟩ := List.mem_map.1 hck
    exact absurd hq (g1 e he)

theorem JInv.closeLev {D : Bs → Int} {G N : Bs → Prop} {A : Bs → Int} : ∀ {cs os : List Bs} {s r : List (Bs × Int)}, JInv D G N A (cs ++ os) s r → (∀ c ∈ cs, N c ∧ A c = D c) →
    (∀ s' r', closeLev cs s r = some (s', r') → JInv D G N A os s' r') ∧ (closeLev cs s r = none → ∃ r' : List (Bs × Int), 4096 < r'.length ∧ FinR A r')
  | [], os, s, r, h, _ => ⟨fun s' r' q => by
      simp only [Go.Proofs.YtiidgbfdghplhaaGreat.closeLev, Option.some.injEq, Prod.mk.injEq] at q
      obtain ⟨rfl, rfl⟩ := q
      exact h, fun q => by simp [Go.Proofs.YtiidgbfdghplhaaGreat.closeLev] at q⟩
  | c :: cs, os, s, r, h, hc => by
    have h1 := h.close1 (hc c (by simp)).1 (hc c (by simp)).2
    have h2 := JInv.closeLev h1 (fun x hx => hc x (by simp [hx]))
    rw [Go.Proofs.YtiidgbfdghplhaaGreat.closeLev]
    split
    · rename_i hl
      exact ⟨fun s' r' q => (by cases q), fun _ => ⟨_, hl, h1.fin⟩⟩
    · exact h2

theorem JInv.closeE {D : Bs → Int} {G N : Bs → Prop} {A : Bs → Int} {code : Bs} : ∀ {st : List Lev} {s r : List (Bs × Int)}, JInv D G N A (st.flatMap Lev.opened) s r → (∀ l ∈ st, ¬ (code ≠ [] ∧ l.code.isPrefixOf code = true) → ∀ c ∈ l.opened, N c ∧ A c = D c) →
    (∀ st' s' r', closeE code st s r = some (st', s', r') → JInv D G N A (st'.flatMap Lev.opened) s' r' ∧ ∀ l ∈ st', l ∈ st) ∧ (closeE code st s r = none → ∃ r' : List (Bs × Int), 4096 < r'.length ∧ FinR A r')
  | [], s, r, h, _ => ⟨fun st' s' r' q => by
      simp only [Go.Proofs.YtiidgbfdghplhaaGreat.closeE, Option.some.injEq, Prod.mk.injEq] at q
      obtain ⟨rfl, rfl, rfl⟩ := q
      exact ⟨h, fun l hl => hl⟩, fun q => by simp [Go.Proofs.YtiidgbfdghplhaaGreat.closeE] at q⟩
  | l :: st, s, r, h, hc => by
    rw [Go.Proofs.YtiidgbfdghplhaaGreat.closeE]
    split
    · exact ⟨fun st' s' r' q => by
        simp only [Option.some.injEq, Prod.mk.injEq] at q
        obtain ⟨rfl, rfl, rfl⟩ := q
        exact ⟨h, fun l hl => hl⟩, fun q => by cases q⟩
    · rename_i hp
      have h1 := JInv.closeLev (cs := l.opened) (os := st.flatMap Lev.opened) h (hc l (by simp) hp)
      split
      · rename_i hq
        exact ⟨fun st' s' r' q => (by cases q), fun _ => h1.2 hq⟩
      · rename_i s2 r2 hq
        have h2 := JInv.closeE (code := code) (h1.1 _ _ hq) (fun m hm => hc m (by simp [hm]))
        exact ⟨fun st' s' r' q => ⟨(h2.1 _ _ _ q).1, fun m hm => by simp [(h2.1 _ _ _ q).2 m hm]⟩, h2.2⟩

theorem closeE_nil : ∀ {st : List Lev} {s r : List (Bs × Int)} {st' : List Lev} {s' r' : List (Bs × Int)}, closeE [] st s r = some (st', s', r') → st' = []
  | [], s, r, st', s', r', h => by
    simp only [closeE, Option.some.injEq, Prod.mk.injEq] at h
    exact h.1.symm
  | l :: st, s, r, st', s', r', h => by
    rw [closeE, if_neg (by simp)] at h
    split at h
    · cases h
    · exact closeE_nil h

theorem JInv.add1 {D : Bs → Int} {G N : Bs → Prop} {A : Bs → Int} {u y : Bs × Int} {op os : List Bs} {s r : List (Bs × Int)} (h : JInv D G N A (op ++ os) s r) (hn : ¬ N (u.1 ++ y.1)) :
    JInv (fun c => D c + if u.1 ++ y.1 = c then u.2 * y.2 else 0) (fun c => G c ∨ u.1 ++ y.1 = c) N A ((addStep u (op, s) y).1 ++ os) (addStep u (op, s) y).2 r := by
  unfold addStep
  generalize u.1 ++ y.1 = c0 at hn ⊢
  generalize u.2 * y.2 = k
  simp only
  rcases key_cases c0 s with ⟨i, v, g1, g2, g3, _, g5⟩ | ⟨g1, g2, g3, _, g5⟩
  · obtain ⟨l1, l2, e1, _, e3⟩ := get_split g1
    rw [g5, g2, g3, if_pos rfl, e3]
    have hval := h.val (c0, v) (List.mem_of_getElem? g1)
    simp only at hval
    have hm : s.map Prod.fst = l1.map Prod.fst ++ c0 :: l2.map Prod.fst := by rw [e1]; simp
    have hm2 : (l1 ++ (c0, v + k) :: l2).map Prod.fst = s.map Prod.fst := by rw [hm]; simp
    have hnd := h.nd
    rw [hm] at hnd
    have hcn := (List.nodup_cons.1 ((List.perm_middle.nodup_iff).1 hnd)).1
    have hcase : ∀ e ∈ l1 ++ (c0, v + k) :: l2, e = (c0, v + k) ∨ (e ∈ s ∧ e.1 ≠ c0) := fun e he => by
      rcases List.mem_append.1 he with q | q
      · exact .inr ⟨by rw [e1]; exact List.mem_append_left _ q, fun z => hcn (List.mem_append_left _ (z ▸ List.mem_map_of_mem q))⟩
      · rcases List.mem_cons.1 q with q | q
        · exact .inl q
        · exact .inr ⟨by rw [e1]; exact List.mem_append_right _ (List.mem_cons_of_mem _ q), fun z => hcn (List.mem_append_right _ (z ▸ List.mem_map_of_mem q))⟩
    refine ⟨by rw [hm2]; exact h.perm, by rw [hm2]; exact h.nd, fun e he => ?_, fun e he => ?_, fun c hc => ?_, fun c hc hk => ?_, fun e he => ?_, h.rnd⟩
    · rcases hcase e he with rfl | ⟨q1, q2⟩
      · simp [hval]
      · rw [if_neg (fun z => q2 z.symm), h.val e q1]; omega
    · rcases hcase e he with rfl | ⟨q1, q2⟩
      · exact .inr rfl
      · exact .inl (h.kg e q1)
    · simp only [not_or] at hc
      rw [if_neg hc.2, h.dz c hc.1]; rfl
    · rw [hm2] at hk
      rcases hc with hc | hc
      · exact h.cl c hc hk
      · subst hc; exact absurd (by rw [hm]; simp) hk
    · rw [hm2]
      obtain ⟨q1, q2, q3, q4⟩ := h.res e he
      exact ⟨q1, q2, .inl q3, q4⟩
  · rw [g5, g2, g3, if_neg (by simp)]
    have hck : c0 ∉ s.map Prod.fst := fun q => by
      obtain ⟨e, he, hq⟩ := List.mem_map.1 q
      exact g1 e he hq
    have hG : ¬ G c0 := fun q => hn (h.cl c0 q hck).1
    have hm2 : (s ++ [(c0, 0 + k)]).map Prod.fst = s.map Prod.fst ++ [c0] := by simp
    refine ⟨?_, ?_, fun e he => ?_, fun e he => ?_, fun c hc => ?_, fun c hc hk => ?_, fun e he => ?_, h.rnd⟩
    · rw [hm2]
      have q1 : (op ++ [c0] ++ os).Perm (op ++ os ++ [c0]) := by
        rw [List.append_assoc, List.append_assoc]
        exact List.Perm.append_left _ List.perm_append_comm
      exact q1.trans (h.perm.append_right _)
    · rw [hm2, List.nodup_append]
      exact ⟨h.nd, by simp, fun a ha b hb q => by simp at hb; subst hb; subst q; exact hck ha⟩
    · rcases List.mem_append.1 he with q | q
      · have hne : ¬ c0 = e.1 := fun z => g1 e q z.symm
        rw [if_neg hne, h.val e q]; omega
      · obtain rfl := List.mem_singleton.1 q
        simp [h.dz c0 hG]
    · rcases List.mem_append.1 he with q | q
      · exact .inl (h.kg e q)
      · obtain rfl := List.mem_singleton.1 q
        exact .inr rfl
    · simp only [not_or] at hc
      rw [if_neg hc.2, h.dz c hc.1]; rfl
    · rw [hm2] at hk
      rcases hc with hc | hc
      · exact h.cl c hc (fun q => hk (List.mem_append_left _ q))
      · subst hc; exact absurd (by simp) hk
    · rw [hm2]
      obtain ⟨q1, q2, q3, q4⟩ := h.res e he
      refine ⟨q1, q2, .inl q3, fun q => ?_⟩
      rcases List.mem_append.1 q with q | q
      · exact q4 q
      · simp at q; exact hG (q ▸ q3)

abbrev Item := (Bs × Int) × List (Bs × Int)
def T1 (u : Bs × Int) (ps : List (Bs × Int)) (c : Bs) : Int := (ps.map fun y => if u.1 ++ y.1 = c then u.2 * y.2 else 0).sum
def G1 (u : Bs × Int) (ps : List (Bs × Int)) (c : Bs) : Prop := ∃ y ∈ ps, u.1 ++ y.1 = c
def TT (l : List Item) (c : Bs) : Int := (l.map fun x => T1 x.1 x.2 c).sum
def GG (l : List Item) (c : Bs) : Prop := ∃ x ∈ l, G1 x.1 x.2 c
def NN (l : List Item) (c : Bs) : Prop := ∀ x ∈ l, ¬ x.1.1 <+: c

theorem JInv.addAll {N : Bs → Prop} {A : Bs → Int} {u : Bs × Int} {os : List Bs} {r : List (Bs × Int)} : ∀ {ps : List (Bs × Int)} {D : Bs → Int} {G : Bs → Prop} {op : List Bs} {s : List (Bs × Int)}, JInv D G N A (op ++ os) s r → (∀ y ∈ ps, ¬ N (u.1 ++ y.1)) →
    JInv (fun c => D c + T1 u ps c) (fun c => G c ∨ G1 u ps c) N A ((ps.foldl (addStep u) (op, s)).1 ++ os) (ps.foldl (addStep u) (op, s)).2 r
  | [], D, G, op, s, h, _ => h.congr (fun c => by simp [T1]) (fun c => by simp [G1]) (fun _ q => q) (List.Perm.refl _)
  | y :: ps, D, G, op, s, h, hn => by
    have h1 := h.add1 (u := u) (y := y) (hn y (by simp))
    have h2 := JInv.addAll (ps := ps) (u := u) (op := (addStep u (op, s) y).1) (s := (addStep u (op, s) y).2) h1 (fun z hz => hn z (by simp [hz]))
    rw [List.foldl_cons]
    refine h2.congr (fun c => ?_) (fun c => ?_) (fun _ q => q) (List.Perm.refl _)
    · simp only [T1, List.map_cons, List.sum_cons]; omega
    · simp only [G1, List.mem_cons, exists_eq_or_imp, or_assoc]

theorem addAll_pre {u : Bs × Int} : ∀ {ps : List (Bs × Int)} {op : List Bs} {s : List (Bs × Int)}, (∀ c ∈ op, u.1 <+: c) → ∀ c ∈ (ps.foldl (addStep u) (op, s)).1, u.1 <+: c
  | [], op, s, h => h
  | y :: ps, op, s, h => by
    rw [List.foldl_cons]
    refine addAll_pre (op := (addStep u (op, s) y).1) (s := (addStep u (op, s) y).2) fun c hc => ?_
    unfold addStep at hc
    simp only at hc
    split at hc
    · exact h c hc
    · rcases List.mem_append.1 hc with q | q
      · exact h c q
      · simp at q; subst q; exact List.prefix_append ..

theorem TT_append (a b : List Item) (c : Bs) : TT (a ++ b) c = TT a c + TT b c := by simp [TT]
theorem T1_zero {u : Bs × Int} {ps : List (Bs × Int)} {c : Bs} (h : ¬ u.1 <+: c) : T1 u ps c = 0 := by
  unfold T1
  induction ps with
  | nil => rfl
  | cons y ps ih =>
    have hne : ¬ u.1 ++ y.1 = c := fun q => h (by rw [← q]; exact List.prefix_append ..)
    rw [List.map_cons, List.sum_cons, ih, if_neg hne]; rfl
theorem TT_zero {l : List Item} {c : Bs} (h : NN l c) : TT l c = 0 := by
  induction l with
  | nil => rfl
  | cons x l ih =>
    unfold TT at ih ⊢
    rw [List.map_cons, List.sum_cons, ih (fun y hy => h y (by simp [hy])), T1_zero (h x (by simp))]; rfl

def stepA (q : JS) (x : Item) : Option JS := match closeE x.1.1 q.1.reverse q.2.1 q.2.2 with
  | none => none
  | some (st', s', r') => some (st'.reverse ++ [⟨x.1.1, (x.2.foldl (addStep x.1) ([], s')).1⟩], (x.2.foldl (addStep x.1) ([], s')).2, r')
def runA : List Item → JS → Option JS
  | [], q => some q
  | x :: l, q => match stepA q x with
    | none => none
    | some q' => runA l q'

/-- Rows in order: no later one begins an earlier one; between a row and one that it begins lie only such. -/
structure InOrd (all : List Item) : Prop where
  ord : all.Pairwise fun x y => ¬ y.1.1 <+: x.1.1
  near : ∀ d x0 t, all = d ++ x0 :: t → ∀ x ∈ d, ∀ y ∈ t, x.1.1 <+: y.1.1 → x.1.1 <+: x0.1.1

theorem runA_inv {all : List Item} (hO : InOrd all) : ∀ (todo dn : List Item) (st : List Lev) (s r : List (Bs × Int)), all = dn ++ todo → JInv (TT dn) (GG dn) (NN todo) (TT all) (st.reverse.flatMap Lev.opened) s r →
    (∀ l ∈ st, (∀ c ∈ l.opened, l.code <+: c) ∧ ∃ x ∈ dn, x.1.1 = l.code) →
    (∀ q, runA todo (st, s, r) = some q → JInv (TT all) (GG all) (NN []) (TT all) (q.1.reverse.flatMap Lev.opened) q.2.1 q.2.2) ∧ (runA todo (st, s, r) = none → ∃ r' : List (Bs × Int), 4096 < r'.length ∧ FinR (TT all) r')
  | [], dn, st, s, r, ha, h, _ => by
    rw [List.append_nil] at ha
    subst ha
    exact ⟨fun q hq => by simp only [runA, Option.some.injEq] at hq; subst hq; exact h, fun hq => by simp [runA] at hq⟩
  | x0 :: t, dn, st, s, r, ha, h, hl => by
    have hord := hO.ord
    rw [ha] at hord
    obtain ⟨_, ho2, ho3⟩ := List.pairwise_append.1 hord
    have hcl := h.closeE (code := x0.1.1) (fun l hlm hp c hc => by
      obtain ⟨h1, x, hx, hxe⟩ := hl l (List.mem_reverse.1 hlm)
      have hpc := h1 c hc
      have hNN : NN (x0 :: t) c := by
        have hnp : ¬ l.code <+: x0.1.1 := fun q => hp ⟨fun z => by
          have := ho3 x hx x0 (by simp)
          rw [z] at this
          exact this (List.nil_prefix), List.isPrefixOf_iff_prefix.2 q⟩
        intro y hy q
        rcases Nat.le_total y.1.1.length l.code.length with hle | hle
        · have := List.prefix_of_prefix_length_le q hpc hle
          rw [← hxe] at this
          exact ho3 x hx y hy this
        · have hq := List.prefix_of_prefix_length_le hpc q hle
          rcases List.mem_cons.1 hy with rfl | hy
          · exact hnp hq
          · exact hnp (hxe ▸ hO.near dn x0 t ha x hx y hy (hxe ▸ hq))
      exact ⟨hNN, by rw [ha, TT_append, TT_zero hNN]; omega⟩)
    rw [runA, stepA]
    cases hq : Go.Proofs.YtiidgbfdghplhaaGreat.closeE x0.1.1 st.reverse s r with
    | none => exact ⟨fun q z => (by cases z), fun _ => hcl.2 hq⟩
    | some z =>
      obtain ⟨st', s', r'⟩ := z
      obtain ⟨k1, k2⟩ := hcl.1 _ _ _ hq
      simp only
      have k3 := JInv.addAll (u := x0.1) (ps := x0.2) (op := []) (os := st'.flatMap Lev.opened) k1 (fun y _ hN => hN x0 (by simp) (List.prefix_append ..))
      have hpre := addAll_pre (u := x0.1) (ps := x0.2) (op := []) (s := s') (by simp)
      refine runA_inv hO t (dn ++ [x0]) _ _ _ (by rw [ha]; simp) (k3.congr (fun c => ?_) (fun c => ?_) (fun c hN y hy => hN y (by simp [hy])) ?_) (fun l hlm => ?_)
      · rw [TT_append]; simp [TT]
      · simp [GG, or_and_right, exists_or]
      · simp
      · rcases List.mem_append.1 hlm with hlm | hlm
        · obtain ⟨z1, x, z2, z3⟩ := hl l (List.mem_reverse.1 (k2 l (List.mem_reverse.1 hlm)))
          exact ⟨z1, x, by simp [z2], z3⟩
        · obtain rfl := List.mem_singleton.1 hlm
          exact ⟨hpre, x0, by simp, rfl⟩

def finA (l : List Item) : Option (List (Bs × Int)) := match runA l ([], [], []) with
  | none => none
  | some q => match closeE [] q.1.reverse q.2.1 q.2.2 with
    | none => none
    | some (_, _, r) => some r

theorem finA_says {l : List Item} (hO : InOrd l) : match finA l with
    | none => ∃ r : List (Bs × Int), 4096 < r.length ∧ FinR (TT l) r
    | some r => FinR (TT l) r ∧ ∀ c, TT l c ≠ 0 → (c, TT l c) ∈ r := by
  have h := runA_inv hO l [] [] [] [] rfl ⟨by simp, by simp, by simp, by simp, fun c _ => by simp [TT], fun c hc => by simp [GG] at hc, by simp, by simp⟩ (by simp)
  unfold finA
  cases hq : runA l ([], [], []) with
  | none => exact h.2 hq
  | some q =>
    simp only
    have h1 := (h.1 q hq).closeE (code := []) (fun l _ _ c _ => ⟨by simp [NN], rfl⟩)
    cases hc : closeE [] q.1.reverse q.2.1 q.2.2 with
    | none => exact h1.2 hc
    | some z =>
      obtain ⟨st', s', r'⟩ := z
      have h2 := (h1.1 _ _ _ hc).1
      have := closeE_nil hc
      subst this
      have hs : s' = [] := by
        have := h2.perm.length_eq
        simp at this
        exact List.length_eq_zero_iff.1 this.symm
      subst hs
      refine ⟨h2.fin, fun c hz => ?_⟩
      apply (h2.cl c _ (by simp)).2 hz
      apply Classical.byContradiction
      intro hG
      exact hz (h2.dz c hG)
end Go.Proofs.YtiidgbfdghplhaaGreat
end
section
namespace Go.Proofs.YtiidgbfdghplhaaGreat
open Go.Abs Go.RowKit
set_option linter.unusedSimpArgs false
set_option maxRecDepth 100000

theorem text_inj {a b : ByteArray} (h : a.toList = b.toList) : a = b := by
  rw [ByteArray.toList_eq, ByteArray.toList_eq] at h
  cases a; cases b
  simpa using h
theorem sameVal_iff {a b : Val} : sameVal a b = true ↔ a = b := by
  refine ⟨fun h => ?_, fun h => by rw [h]; exact sameVal_refl _⟩
  simp only [sameVal, Bool.and_eq_true, beq_iff_eq] at h
  obtain ⟨h1, h2, h3⟩ := h
  have := text_inj h3
  cases a; cases b; simp_all

def item1 (b : List Entry) (on : List (Int × Int)) (u : Entry) : Option Item := match keyS u.row (on.map Prod.fst) with
  | none => none
  | some key => if partE b (on.map Prod.snd) key = [] then none else some (encP u, partE b (on.map Prod.snd) key)
def itemsJ (a b : List Entry) (on : List (Int × Int)) : List Item := a.filterMap (item1 b on)

theorem runJ_A (b : List Entry) (on : List (Int × Int)) : ∀ (a : List Entry) (q : JS), runJ b on a q = runA (itemsJ a b on) q
  | [], q => rfl
  | u :: a, q => by
    rw [runJ, stepJ, itemsJ, List.filterMap_cons, item1]
    cases hk : keyS u.row (on.map Prod.fst) with
    | none => simp only; exact runJ_A b on a q
    | some key =>
      simp only
      by_cases hp : partE b (on.map Prod.snd) key = []
      · rw [if_pos hp, if_pos hp]; exact runJ_A b on a q
      · rw [if_neg hp, if_neg hp]
        simp only [runA, stepA]
        have ih := runJ_A b on a
        unfold itemsJ at ih
        show (match (match closeE (encRow u.row) q.1.reverse q.2.1 q.2.2 with | none => none | some (st', s', r') => _) with | none => none | some q' => runJ b on a q') = (match (match closeE (encRow u.row) q.1.reverse q.2.1 q.2.2 with | none => none | some (st', s', r') => _) with | none => none | some q' => runA (List.filterMap (item1 b on) a) q')
        cases closeE (encRow u.row) q.1.reverse q.2.1 q.2.2 with
        | none => rfl
        | some z => exact ih _
theorem finJ_A (a b : List Entry) (on : List (Int × Int)) : finJ a b on = finA (itemsJ a b on) := by
  unfold finJ finA
  rw [runJ_A]
  cases runA (itemsJ a b on) ([], [], []) with
  | none => rfl
  | some q =>
    simp only
    cases closeE [] q.1.reverse q.2.1 q.2.2 with
    | none => rfl
    | some z => rfl

theorem encRow_cons (a : Val) (r : List Val) : encRow (a :: r) = encVal a.clean ++ encRow r := by simp [encRow]
theorem encRow_append (r s : List Val) : encRow (r ++ s) = encRow r ++ encRow s := by simp [encRow]
theorem encRow_pre : ∀ {r s : List Val}, encRow r <+: encRow s → r.map Val.clean <+: s.map Val.clean
  | [], s, _ => List.nil_prefix
  | a :: r, [], h => by
    rw [encRow_cons] at h
    have hl := h.length_le
    have hne : 0 < (encVal a.clean).length := List.length_pos_iff.2 (encVal_ne a.clean)
    rw [List.length_append, show (encRow []).length = 0 from rfl] at hl
    omega
  | a :: r, b :: s, h => by
    obtain ⟨t, h⟩ := h
    rw [encRow_cons, encRow_cons, List.append_assoc] at h
    obtain ⟨q1, q2⟩ := encVal_inj (clean_valid a) (clean_valid b) h
    obtain ⟨z, hz⟩ := encRow_pre ⟨t, q2⟩
    exact ⟨z, by rw [List.map_cons, List.map_cons, q1, ← hz]; rfl⟩
theorem encRow_pre' {r s : List Val} (h : r.map Val.clean <+: s.map Val.clean) : encRow r <+: encRow s := by
  obtain ⟨t, h⟩ := h
  rw [← encRow_clean r, ← encRow_clean s, ← h, encRow_append]
  exact List.prefix_append ..

theorem pre_le : ∀ {r s : List Val}, r.map Val.clean <+: s.map Val.clean → ¬ rowCmp s r < 0
  | [], s, _ => by cases s <;> simp [rowCmp]
  | a :: r, [], h => by simp at h
  | a :: r, b :: s, h => by
    rw [List.map_cons, List.map_cons, List.cons_prefix_cons] at h
    rw [rowCmp, if_pos ((cmp_ok.zero b a).2 h.1.symm)]
    exact pre_le h.2
theorem pre_near : ∀ {r s t : List Val}, r.map Val.clean <+: t.map Val.clean → rowCmp r s < 0 → rowCmp s t < 0 → r.map Val.clean <+: s.map Val.clean
  | [], s, t, _, _, _ => List.nil_prefix
  | a :: r, [], t, _, h, _ => by simp [rowCmp] at h
  | a :: r, b :: s, [], _, _, h => by simp [rowCmp] at h
  | a :: r, b :: s, c :: t, h, h1, h2 => by
    rw [List.map_cons, List.map_cons, List.cons_prefix_cons] at h
    rw [List.map_cons, List.map_cons, List.cons_prefix_cons]
    rw [rowCmp] at h1 h2
    have hab : a.cmp b = 0 := by
      apply Classical.byContradiction
      intro hne
      rw [if_neg hne] at h1
      have h3 := cmp_ok.left h.1 h1
      have h4 := (cmp_ok.anti c b).2
      have h5 := (cmp_ok.anti b c).1 h3
      rw [if_neg (by omega)] at h2
      omega
    have hbc : b.cmp c = 0 := (cmp_ok.zero b c).2 (((cmp_ok.zero a b).1 hab).symm.trans h.1)
    rw [if_pos hab] at h1
    rw [if_pos hbc] at h2
    exact ⟨(cmp_ok.zero a b).1 hab, pre_near h.2 h1 h2⟩

theorem item1_fst {b : List Entry} {on : List (Int × Int)} {u : Entry} {x : Item} (h : item1 b on u = some x) : ∃ key, keyS u.row (on.map Prod.fst) = some key ∧ x = (encP u, partE b (on.map Prod.snd) key) := by
  unfold item1 at h
  split at h
  · cases h
  · rename_i key hk
    split at h
    · cases h
    · simp only [Option.some.injEq] at h
      exact ⟨key, hk, h.symm⟩

def SR (x y : Item) : Prop := ∃ u w : List Val, x.1.1 = encRow u ∧ y.1.1 = encRow w ∧ rowCmp u w < 0
theorem items_sr {a : List Entry} (b : List Entry) (on : List (Int × Int)) (h : a.Pairwise eR) : (itemsJ a b on).Pairwise SR := by
  refine h.filterMap (item1 b on) fun u w huw x hx y hy => ?_
  obtain ⟨_, _, rfl⟩ := item1_fst hx
  obtain ⟨_, _, rfl⟩ := item1_fst hy
  exact ⟨u.row, w.row, rfl, rfl, huw⟩
theorem items_ord {a : List Entry} (b : List Entry) (on : List (Int × Int)) (h : a.Pairwise eR) : InOrd (itemsJ a b on) := by
  have hS := items_sr b on h
  refine ⟨hS.imp fun {x y} hxy q => ?_, fun d x0 t hd x hx y hy hp => ?_⟩
  · obtain ⟨u, w, h1, h2, h3⟩ := hxy
    rw [h1, h2] at q
    exact pre_le (encRow_pre q) h3
  · rw [hd] at hS
    obtain ⟨_, g1, g2⟩ := List.pairwise_append.1 hS
    obtain ⟨u, v, e1, e2, e3⟩ := g2 x hx x0 (by simp)
    obtain ⟨v', w, f1, f2, f3⟩ := (List.pairwise_cons.1 g1).1 y hy
    have hvv : rowCmp v' w < 0 := f3
    have hvw : rowCmp v w < 0 := rowCmp_ok.left ((rowCmp_ok.zero _ _).1 (encRow_iff.1 (f1.symm.trans e2))) f3
    rw [e1, f2] at hp
    rw [e1, e2]
    exact encRow_pre' (pre_near (encRow_pre hp) e3 hvw)

theorem atE_clean {row : List Val} (h : rowOK row = true) (col : Int) : (atE row col).clean = atE row col := by
  simp only [rowOK, Bool.and_eq_true, List.all_eq_true] at h
  have hn : Val.null.clean = Val.null := by unfold Val.clean; split <;> rfl
  unfold atE
  split
  · exact hn
  · split
    · rename_i v hv
      rw [Val.clean, if_pos (h.2 v (List.mem_of_getElem? hv))]
    · exact hn
theorem keyV_clean {row : List Val} (h : rowOK row = true) : ∀ {cs : List Int} {l : List Val}, keyV row cs = some l → l.map Val.clean = l
  | [], l, hl => by simp [keyV] at hl; subst hl; rfl
  | c :: cs, l, hl => by
    rw [keyV] at hl
    split at hl
    · cases hl
    · cases hq : keyV row cs with
      | none => rw [hq] at hl; cases hl
      | some m =>
        rw [hq] at hl
        simp at hl
        subst hl
        rw [List.map_cons, atE_clean h, keyV_clean h hq]
theorem meets_key (x y : List Val) : ∀ on : List (Int × Int), meetsE x y on = true ↔ ∃ l, keyV x (on.map Prod.fst) = some l ∧ keyV y (on.map Prod.snd) = some l
  | [] => by simp [meetsE, keyV]
  | p :: on => by
    have ih := meets_key x y on
    have e : meetsE x y (p :: on) = ((decide ((atE x p.1).kind ≠ 0) && sameVal (atE x p.1) (atE y p.2)) && meetsE x y on) := by simp [meetsE]
    rw [e, Bool.and_eq_true, Bool.and_eq_true, ih, sameVal_iff, List.map_cons, List.map_cons, keyV, keyV]
    constructor
    · rintro ⟨⟨h1, h2⟩, l, h3, h4⟩
      simp only [decide_eq_true_eq] at h1
      rw [← h2, if_neg h1, if_neg h1, h3, h4]
      exact ⟨_, rfl, rfl⟩
    · rintro ⟨l, h3, h4⟩
      split at h3
      · cases h3
      · rename_i hk
        split at h4
        · cases h4
        · cases h5 : keyV x (on.map Prod.fst) with
          | none => rw [h5] at h3; cases h3
          | some m =>
            cases h6 : keyV y (on.map Prod.snd) with
            | none => rw [h6] at h4; cases h4
            | some m' =>
              rw [h5] at h3
              rw [h6] at h4
              simp only [Option.map_some, Option.some.injEq] at h3 h4
              rw [← h4] at h3
              injection h3 with q1 q2
              exact ⟨⟨by simpa using hk, q1⟩, m, rfl, by rw [q2]⟩
theorem meets_keyS {x y : List Val} (hx : rowOK x = true) (hy : rowOK y = true) (on : List (Int × Int)) : meetsE x y on = true ↔ ∃ k, keyS x (on.map Prod.fst) = some k ∧ keyS y (on.map Prod.snd) = some k := by
  rw [meets_key]
  unfold keyS
  constructor
  · rintro ⟨l, h1, h2⟩
    exact ⟨encRow l, by rw [h1]; rfl, by rw [h2]; rfl⟩
  · rintro ⟨k, h1, h2⟩
    cases h3 : keyV x (on.map Prod.fst) with
    | none => rw [h3] at h1; cases h1
    | some l =>
      cases h4 : keyV y (on.map Prod.snd) with
      | none => rw [h4] at h2; cases h2
      | some m =>
        rw [h3] at h1
        rw [h4] at h2
        simp only [Option.map_some, Option.some.injEq] at h1 h2
        have := encRow_inj (h1.trans h2.symm)
        rw [keyV_clean hx h3, keyV_clean hy h4] at this
        exact ⟨l, rfl, by rw [this]⟩

theorem part_T1 (u : Entry) (on2 : List Int) (key : Bs) (r : List Val) : ∀ b : List Entry, T1 (encP u) (partE b on2 key) (encRow r) = sumK ((b.filter fun y => decide (keyS y.row on2 = some key)).map (pairE u)) r
  | [] => rfl
  | y :: b => by
    have ih := part_T1 u on2 key r b
    unfold partE at ih ⊢
    rw [List.filterMap_cons, List.filter_cons]
    by_cases h : keyS y.row on2 = some key
    · rw [if_pos h, if_pos (by simpa using h)]
      simp only [T1, List.map_cons, List.sum_cons, sumK] at ih ⊢
      rw [ih]
      have he : ((encP u).1 ++ (encP y).1 = encRow r) ↔ rowCmp (pairE u y).row r = 0 := by
        show encRow u.row ++ encRow y.row = encRow r ↔ rowCmp (u.row ++ y.row) r = 0
        rw [← encRow_append, encRow_iff]
      by_cases hq : rowCmp (pairE u y).row r = 0
      · rw [if_pos hq, if_pos (he.2 hq)]; rfl
      · rw [if_neg hq, if_neg (fun z => hq (he.1 z))]
    · rw [if_neg h, if_neg (by simpa using h)]
      exact ih

theorem items_sum {a b : List Entry} (on : List (Int × Int)) (ha : ∀ e ∈ a, rowOK e.row = true) (hb : ∀ e ∈ b, rowOK e.row = true) (r : List Val) : TT (itemsJ a b on) (encRow r) = sumK (pairsE a b on) r := by
  induction a with
  | nil => rfl
  | cons u a ih =>
    have ih := ih (fun e he => ha e (by simp [he]))
    have hu := ha u (by simp)
    have e1 : pairsE (u :: a) b on = pairs1 u b on ++ pairsE a b on := by simp [pairsE]
    rw [e1, sumK_append, ← ih]
    unfold itemsJ
    rw [List.filterMap_cons]
    cases hk : keyS u.row (on.map Prod.fst) with
    | none =>
      have hp : pairs1 u b on = [] := by
        unfold pairs1
        rw [List.filter_eq_nil_iff.2]
        · rfl
        · intro y hy hm
          obtain ⟨k, h1, _⟩ := (meets_keyS hu (hb y hy) on).1 hm
          rw [hk] at h1; cases h1
      rw [hp]
      have hi : item1 b on u = none := by unfold item1; rw [hk]
      rw [hi]
      simp [sumK]
    | some key =>
      have hp : pairs1 u b on = (b.filter fun y => decide (keyS y.row (on.map Prod.snd) = some key)).map (pairE u) := by
        unfold pairs1
        congr 1
        apply List.filter_congr
        intro y hy
        rw [Bool.eq_iff_iff, meets_keyS hu (hb y hy), decide_eq_true_eq]
        constructor
        · rintro ⟨k, h1, h2⟩
          rw [hk] at h1
          simp only [Option.some.injEq] at h1
          rw [h1]; exact h2
        · intro h; exact ⟨key, hk, h⟩
      rw [hp, ← part_T1]
      by_cases hpe : partE b (on.map Prod.snd) key = []
      · have hi : item1 b on u = none := by unfold item1; rw [hk]; simp only; rw [if_pos hpe]
        rw [hi, hpe]
        simp [T1]
      · have hi : item1 b on u = some (encP u, partE b (on.map Prod.snd) key) := by unfold item1; rw [hk]; simp only; rw [if_neg hpe]
        rw [hi]
        simp [TT]

theorem items_row {a b : List Entry} {on : List (Int × Int)} {c : Bs} (h : TT (itemsJ a b on) c ≠ 0) : ∃ u ∈ a, ∃ y ∈ b, c = encRow (u.row ++ y.row) := by
  have hG : GG (itemsJ a b on) c := by
    apply Classical.byContradiction
    intro hn
    apply h
    unfold TT
    have : ∀ l : List Item, ¬ GG l c → (l.map fun x => T1 x.1 x.2 c).sum = 0 := by
      intro l
      induction l with
      | nil => intro _; rfl
      | cons x l ih =>
        intro hl
        have h1 : ¬ G1 x.1 x.2 c := fun q => hl ⟨x, by simp, q⟩
        have h2 : ¬ GG l c := fun ⟨y, hy, q⟩ => hl ⟨y, by simp [hy], q⟩
        have h3 : T1 x.1 x.2 c = 0 := by
          unfold T1
          have : ∀ ps : List (Bs × Int), (∀ y ∈ ps, x.1.1 ++ y.1 ≠ c) → (ps.map fun y => if x.1.1 ++ y.1 = c then x.1.2 * y.2 else 0).sum = 0 := by
            intro ps
            induction ps with
            | nil => intro _; rfl
            | cons y ps ih2 => intro hps; rw [List.map_cons, List.sum_cons, ih2 (fun z hz => hps z (by simp [hz])), if_neg (hps y (by simp))]; rfl
          exact this _ fun y hy q => h1 ⟨y, hy, q⟩
        rw [List.map_cons, List.sum_cons, ih h2, h3]; rfl
    exact this _ hn
  obtain ⟨x, hx, y, hy, hc⟩ := hG
  obtain ⟨u, hu, hi⟩ := List.mem_filterMap.1 hx
  obtain ⟨key, _, rfl⟩ := item1_fst hi
  obtain ⟨z, hz, rfl, _⟩ := partE_mem hy
  exact ⟨u, hu, z, hz, by rw [encRow_append]; exact hc.symm⟩

theorem nodup_sub {α : Type} [DecidableEq α] : ∀ {l m : List α}, l.Nodup → (∀ x ∈ l, x ∈ m) → l.length ≤ m.length
  | [], m, _, _ => Nat.zero_le _
  | x :: l, m, h, hs => by
    obtain ⟨h1, h2⟩ := List.nodup_cons.1 h
    have hx := hs x (by simp)
    have := nodup_sub (l := l) (m := m.erase x) h2 fun y hy => (List.mem_erase_of_ne (by rintro rfl; exact h1 hy)).2 (hs y (by simp [hy]))
    rw [List.length_erase_of_mem hx] at this
    have hpos := List.length_pos_of_mem hx
    rw [List.length_cons]; omega

theorem ex_map {α β : Type} {f : α → β} {P : α → Prop} : ∀ {l : List β}, (∀ y ∈ l, ∃ x, f x = y ∧ P x) → ∃ xs : List α, xs.map f = l ∧ ∀ x ∈ xs, P x
  | [], _ => ⟨[], rfl, by simp⟩
  | y :: l, h => by
    obtain ⟨x, hx, hp⟩ := h y (by simp)
    obtain ⟨xs, h1, h2⟩ := ex_map (l := l) (fun z hz => h z (by simp [hz]))
    exact ⟨x :: xs, by rw [List.map_cons, hx, h1], fun z hz => by
      rcases List.mem_cons.1 hz with rfl | hz
      · exact hp
      · exact h2 z hz⟩

theorem runA_len : ∀ {l : List Item} {q q' : JS}, runA l q = some q' → q.2.2.length ≤ 4096 → q'.2.2.length ≤ 4096
  | [], q, q', h, hq => by simp only [runA, Option.some.injEq] at h; subst h; exact hq
  | x :: l, q, q', h, hq => by
    rw [runA, stepA] at h
    cases hc : closeE x.1.1 q.1.reverse q.2.1 q.2.2 with
    | none => rw [hc] at h; cases h
    | some z =>
      obtain ⟨st', s', r'⟩ := z
      rw [hc] at h
      exact runA_len h (closeE_sub hc hq).2.2.2
theorem finA_len {l : List Item} {r : List (Bs × Int)} (h : finA l = some r) : r.length ≤ 4096 := by
  unfold finA at h
  cases hq : runA l ([], [], []) with
  | none => rw [hq] at h; cases h
  | some q =>
    rw [hq] at h
    simp only at h
    cases hc : closeE [] q.1.reverse q.2.1 q.2.2 with
    | none => rw [hc] at h; cases h
    | some z =>
      obtain ⟨st', s', r'⟩ := z
      rw [hc] at h
      simp only [Option.some.injEq] at h
      subst h
      exact (closeE_sub hc (runA_len hq (by simp))).2.2.2

theorem pairs_ok {a b : List Entry} (ha : ∀ e ∈ a, rowOK e.row = true ∧ e.row.length ≤ 8 ∧ e.count ≠ 0) (hb : ∀ e ∈ b, rowOK e.row = true ∧ e.row.length ≤ 8 ∧ e.count ≠ 0) {u y : Entry} (hu : u ∈ a) (hy : y ∈ b) : rowOK (u.row ++ y.row) = true ∧ u.count * y.count ≠ 0 := by
  obtain ⟨h1, h2, h3⟩ := ha u hu
  obtain ⟨h4, h5, h6⟩ := hb y hy
  simp only [rowOK, Bool.and_eq_true, decide_eq_true_eq] at h1 h4 ⊢
  refine ⟨⟨by simp; omega, by rw [List.all_append, h1.2, h4.2]; rfl⟩, fun q => ?_⟩
  rcases Int.mul_eq_zero.1 q with q | q
  · exact h3 q
  · exact h6 q

theorem bound_all (l : List Entry) : (l.all fun e => decide (-262144 ≤ e.count ∧ e.count ≤ 262144)) = l.all fun e => countOK e.count := by
  congr 1
  funext e
  simp [countOK]

/-- What join computes is the document's join. -/
theorem join_says {a b : List Entry} (on : List (Int × Int)) (ha : narrowE a = true) (hb : narrowE b = true) :
    match finJ a b on with
    | none => boundE (sumR (pairsE a b on)) = ([], 8)
    | some r => ∃ rs : List Entry, r = rs.map encP ∧ (∀ e ∈ rs, rowOK e.row = true) ∧ boundE (sumR (pairsE a b on)) = if rs.all (fun e => countOK e.count) then (sortF entCmp rs, 0) else ([], 9) := by
  obtain ⟨_, am⟩ := narrow_mem ha
  obtain ⟨_, bm⟩ := narrow_mem hb
  have am1 : ∀ e ∈ a, rowOK e.row = true ∧ e.row.length ≤ 8 ∧ e.count ≠ 0 := fun e he => ⟨(am e he).1, (am e he).2.2⟩
  have bm1 : ∀ e ∈ b, rowOK e.row = true ∧ e.row.length ≤ 8 ∧ e.count ≠ 0 := fun e he => ⟨(bm e he).1, (bm e he).2.2⟩
  have hva : bagValid a = true := by unfold narrowE at ha; simp only [Bool.and_eq_true] at ha; exact ha.2
  have hO := items_ord b on (sorted_of_valid hva).up
  have hsum := items_sum on (fun e he => (am e he).1) (fun e he => (bm e he).1)
  have hpc : ∀ e ∈ pairsE a b on, rowOK e.row = true ∧ e.count ≠ 0 := fun e he => by
    obtain ⟨x, hx, y, hy, _, rfl⟩ := pairs_mem he
    exact pairs_ok am1 bm1 hx hy
  have hsr := sumR_sort (pairsE a b on) fun e he => (hpc e he).2
  obtain ⟨s1, s2⟩ := sortE_says (pairsE a b on) fun e he => rowOK_clean (hpc e he).1
  have hrow : ∀ r : List (Bs × Int), FinR (TT (itemsJ a b on)) r → ∃ rs : List Entry, rs.map encP = r ∧ ∀ e ∈ rs, rowOK e.row = true ∧ e.count ≠ 0 ∧ sumK (pairsE a b on) e.row = e.count := fun r hr => by
    refine ex_map fun e he => ?_
    obtain ⟨h1, h2⟩ := hr.2 e he
    obtain ⟨u, hu, y, hy, hc⟩ := items_row (h1 ▸ h2)
    refine ⟨⟨u.row ++ y.row, e.2⟩, ?_, (pairs_ok am1 bm1 hu hy).1, h2, ?_⟩
    · show (encRow (u.row ++ y.row), e.2) = e
      rw [← hc]
    · rw [← hsum, ← hc, ← h1]
  have hF := finA_says hO
  rw [finJ_A]
  cases hq : finA (itemsJ a b on) with
  | none =>
    rw [hq] at hF
    obtain ⟨r, hl, hr⟩ := hF
    obtain ⟨rs, h1, h2⟩ := hrow r hr
    have hle : r.length ≤ (sortE (pairsE a b on)).length := by
      have := nodup_sub (l := r.map Prod.fst) (m := (sortE (pairsE a b on)).map fun e => encRow e.row) hr.1 fun c hc => by
        rw [← h1, List.map_map] at hc
        obtain ⟨e, he, rfl⟩ := List.mem_map.1 hc
        obtain ⟨_, q2, q3⟩ := h2 e he
        rw [← s2] at q3
        obtain ⟨x, hx, hz⟩ := sumK_nz (l := sortE (pairsE a b on)) (r := e.row) (by rw [q3]; exact q2)
        exact List.mem_map.2 ⟨x, hx, encRow_iff.2 hz⟩
      simpa using this
    simp only
    unfold boundE
    rw [hsr, if_pos (by omega)]
  | some r =>
    rw [hq] at hF
    obtain ⟨hr, hall⟩ := hF
    obtain ⟨rs, h1, h2⟩ := hrow r hr
    have hap : apart rs := by
      have hn := hr.1
      rw [← h1, List.map_map] at hn
      unfold apart
      rw [List.nodup_iff_pairwise_ne, List.pairwise_map] at hn
      exact hn.imp fun {x y} q z => q (encRow_iff.2 z)
    have hsu : ∀ ρ, sumK rs ρ = sumK (pairsE a b on) ρ := fun ρ => by
      by_cases hex : ∃ e ∈ rs, rowCmp e.row ρ = 0
      · obtain ⟨e, he, hz⟩ := hex
        rw [sumK_mem hap he hz, ← (h2 e he).2.2, ← hsum, ← hsum, encRow_iff.2 hz]
      · rw [sumK_none fun e he z => hex ⟨e, he, z⟩]
        apply Classical.byContradiction
        intro hne
        rw [← hsum] at hne
        have hm := hall _ (fun z => hne z.symm)
        rw [← h1] at hm
        obtain ⟨e, he, hee⟩ := List.mem_map.1 hm
        exact hex ⟨e, he, encRow_iff.1 (congrArg Prod.fst hee)⟩
    have hso := sortF_sums (fun e he => rowOK_clean (hpc e he).1) hap (fun e he => (h2 e he).2.1) (fun e he => rowOK_clean (h2 e he).1) hsu
    have hperm := sortF_perm entCmp_ok.swo rs
    refine ⟨rs, h1.symm, fun e he => (h2 e he).1, ?_⟩
    have hlen := finA_len hq
    rw [← h1, List.length_map] at hlen
    unfold boundE
    rw [hsr, ← hso, if_neg (by rw [hperm.length_eq]; omega), bound_all, hperm.all_eq]
end Go.Proofs.YtiidgbfdghplhaaGreat
end
