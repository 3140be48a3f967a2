/-
  Aggregates, plain: groups of entries by key rows, and the values of functions.
-/
import Derived.Test.YtojfhaoleedmkaaGreatAlc
import Derived.Test.YtojfhaoleedmkaaGreatSrt
namespace Go.Proofs.YtojfhaoleedmkaaGreat
open Go.Abs Go.RowKit
set_option linter.unusedSimpArgs false
set_option maxRecDepth 100000
def kR (a b : List Val) : Prop := rowCmp a b < 0
theorem kR_irr (a : List Val) : ¬ kR a a := by unfold kR; rw [rowCmp_ok.refl]; omega
theorem kR_tr (a b c : List Val) (h1 : kR a b) (h2 : kR b c) : kR a c := rowCmp_ok.trans _ _ _ h1 h2
def CleanK (b : List Entry) (kf : List Val → List Val) : Prop := ∀ e ∈ b, rowClean (kf e.row)
def atK (kf : List Val → List Val) (k : List Val) (e : Entry) : Bool := decide (rowCmp (kf e.row) k = 0)
def keysE (b : List Entry) (kf : List Val → List Val) : List (List Val) := (sortE (b.map fun e => ⟨kf e.row, 1⟩)).map Entry.row
def grpE (b : List Entry) (kf : List Val → List Val) : List (List Val × List Entry) := (keysE b kf).map fun k => (k, b.filter (atK kf k))
theorem atK_iff {b : List Entry} {kf : List Val → List Val} (hk : CleanK b kf) {e : Entry} (he : e ∈ b) {k : List Val} (hc : rowClean k) : atK kf k e = true ↔ kf e.row = k := by
  unfold atK
  rw [decide_eq_true_eq]
  exact ⟨clean_eq (hk e he) hc, fun h => by rw [h]; exact rowCmp_ok.refl _⟩
theorem sumK_nn : ∀ (l : List Entry) (r : List Val), (∀ e ∈ l, 0 < e.count) → 0 ≤ sumK l r
  | [], _, _ => Int.le_refl _
  | e :: l, r, h => by
    have h1 := sumK_nn l r (fun x hx => h x (by simp [hx]))
    have h2 := h e (by simp)
    rw [sumK]; split <;> omega
theorem sumK_has : ∀ {l : List Entry} {r : List Val}, (∀ e ∈ l, 0 < e.count) → (∃ e ∈ l, rowCmp e.row r = 0) → sumK l r ≠ 0
  | [], _, _, h => by obtain ⟨_, h, _⟩ := h; cases h
  | e :: l, r, h, hx => by
    have h1 := sumK_nn l r (fun x hx => h x (by simp [hx]))
    have h2 := h e (by simp)
    rw [sumK]
    by_cases he : rowCmp e.row r = 0
    · rw [if_pos he]; omega
    · rw [if_neg he]
      obtain ⟨x, hx1, hx2⟩ := hx
      rcases List.mem_cons.1 hx1 with rfl | hx1
      · exact absurd hx2 he
      · have := sumK_has (fun y hy => h y (by simp [hy])) ⟨x, hx1, hx2⟩
        omega
theorem keys_says {b : List Entry} {kf : List Val → List Val} (hk : CleanK b kf) : (keysE b kf).Pairwise kR ∧ (∀ k ∈ keysE b kf, rowClean k) ∧ ∀ k, k ∈ keysE b kf ↔ ∃ e ∈ b, kf e.row = k := by
  have hcl : ∀ e ∈ b.map fun e : Entry => (⟨kf e.row, 1⟩ : Entry), rowClean e.row := fun e he => by
    obtain ⟨x, hx, rfl⟩ := List.mem_map.1 he
    exact hk x hx
  obtain ⟨h1, h2⟩ := sortE_says _ hcl
  have hkc : ∀ k ∈ keysE b kf, rowClean k := fun k hkm => by
    obtain ⟨e, he, rfl⟩ := List.mem_map.1 hkm
    exact h1.cl e he
  refine ⟨by unfold keysE; rw [List.pairwise_map]; exact h1.up, hkc, fun k => ⟨fun hm => ?_, fun hm => ?_⟩⟩
  · have hc := hkc k hm
    obtain ⟨e, he, rfl⟩ := List.mem_map.1 hm
    have hz : sumK (sortE (b.map fun e : Entry => (⟨kf e.row, 1⟩ : Entry))) e.row ≠ 0 := by
      rw [sumK_mem (apart_of_sorted h1.up) he (rowCmp_ok.refl _)]; exact h1.nz e he
    rw [h2] at hz
    obtain ⟨x, hx, hr⟩ := sumK_nz hz
    obtain ⟨y, hy, rfl⟩ := List.mem_map.1 hx
    exact ⟨y, hy, clean_eq (hk y hy) hc hr⟩
  · obtain ⟨e, he, rfl⟩ := hm
    have hz : sumK (b.map fun e : Entry => (⟨kf e.row, 1⟩ : Entry)) (kf e.row) ≠ 0 :=
      sumK_has (fun x hx => by obtain ⟨y, _, rfl⟩ := List.mem_map.1 hx; exact Int.zero_lt_one) ⟨_, List.mem_map.2 ⟨e, he, rfl⟩, rowCmp_ok.refl _⟩
    rw [← h2] at hz
    obtain ⟨x, hx, hr⟩ := sumK_nz hz
    exact List.mem_map.2 ⟨x, hx, clean_eq (h1.cl x hx) (hk e he) hr⟩
structure GI (b : List Entry) (kf : List Val → List Val) (acc : List (List Val × List Entry)) : Prop where
  nd : acc.Pairwise fun g h => g.1 ≠ h.1
  mem : ∀ g ∈ acc, (∃ e ∈ b, kf e.row = g.1) ∧ g.2 = b.filter (atK kf g.1)
  all : ∀ e ∈ b, ∃ g ∈ acc, g.1 = kf e.row
theorem gi_nil (kf : List Val → List Val) : GI [] kf [] := ⟨.nil, fun _ hg => (by cases hg), fun _ he => (by cases he)⟩
theorem take_snoc' {α : Type} {l : List α} {i : Nat} {x : α} (h : l[i]? = some x) : l.take (i + 1) = l.take i ++ [x] := by rw [List.take_add_one, h]; rfl
theorem gi_old {b : List Entry} {kf : List Val → List Val} {acc : List (List Val × List Entry)} {i j : Nat} {e : Entry} {es : List Entry} (hk : CleanK b kf) (h : GI (b.take i) kf acc) (he : b[i]? = some e) (hj : acc[j]? = some (kf e.row, es)) : GI (b.take (i + 1)) kf (acc.set j (kf e.row, es ++ [e])) := by
  have hem : e ∈ b := List.mem_of_getElem? he
  have hjl := lt_of_getElem? hj
  have hne : ∀ g ∈ acc, g ≠ (kf e.row, es) → g.1 ≠ kf e.row := fun g hg hn hq => by
    obtain ⟨q, hq2⟩ := List.mem_iff_getElem?.1 hg
    have hql := lt_of_getElem? hq2
    have hp := List.pairwise_iff_getElem.1 h.nd
    rw [List.getElem?_eq_getElem hjl] at hj
    rw [List.getElem?_eq_getElem hql] at hq2
    simp only [Option.some.injEq] at hj hq2
    rcases Nat.lt_trichotomy q j with c | c | c
    · have := hp q j hql hjl c; rw [hq2, hj] at this; exact this hq
    · subst c; exact hn (hq2.symm.trans hj)
    · have := hp j q hjl hql c; rw [hq2, hj] at this; exact this hq.symm
  have hfst : (acc.set j (kf e.row, es ++ [e])).map Prod.fst = acc.map Prod.fst := by
    rw [List.map_set]
    refine List.ext_getElem? fun q => ?_
    rw [List.getElem?_set]
    split
    · rename_i c; subst c
      rw [List.length_map, if_pos hjl, List.getElem?_map, hj]; rfl
    · rfl
  rw [take_snoc' he]
  refine ⟨?_, fun g hg => ?_, fun x hx => ?_⟩
  · have := h.nd
    rw [← List.pairwise_map (f := Prod.fst) (R := fun a b => a ≠ b)] at this ⊢
    rw [hfst]; exact this
  · rw [List.filter_append]
    obtain ⟨q, hq⟩ := List.mem_iff_getElem?.1 hg
    rw [List.getElem?_set] at hq
    split at hq
    · rename_i c; subst c
      simp only [Option.some.injEq] at hq
      subst hq
      refine ⟨⟨e, by simp, rfl⟩, ?_⟩
      rw [← (h.mem _ (List.mem_of_getElem? hj)).2, List.filter_cons_of_pos ((atK_iff hk hem (hk e hem)).2 rfl)]; rfl
    · rename_i c
      have hgm := List.mem_of_getElem? hq
      have hgk : g.1 ≠ kf e.row := by
        intro hh
        have hql := lt_of_getElem? hq
        have hp := List.pairwise_iff_getElem.1 h.nd
        rw [List.getElem?_eq_getElem hjl] at hj
        rw [List.getElem?_eq_getElem hql] at hq
        simp only [Option.some.injEq] at hj hq
        rcases Nat.lt_trichotomy q j with c | c | c
        · have := hp q j hql hjl c; rw [hq, hj] at this; exact this hh
        · exact absurd c.symm ‹_›
        · have := hp j q hjl hql c; rw [hq, hj] at this; exact this hh.symm
      obtain ⟨⟨x, hx, hxe⟩, h2⟩ := h.mem g hgm
      refine ⟨⟨x, by simp [hx], hxe⟩, ?_⟩
      have hxm : x ∈ b := List.mem_of_mem_take hx
      rw [← h2, List.filter_cons_of_neg (fun q => hgk ((atK_iff hk hem (hxe ▸ hk x hxm)).1 q).symm)]; simp
  · rcases List.mem_append.1 hx with hx | hx
    · obtain ⟨g, hg, hgk⟩ := h.all x hx
      have : g.1 ∈ (acc.set j (kf e.row, es ++ [e])).map Prod.fst := by rw [hfst]; exact List.mem_map.2 ⟨g, hg, rfl⟩
      obtain ⟨g', hg', hq⟩ := List.mem_map.1 this
      exact ⟨g', hg', hq.trans hgk⟩
    · rw [List.mem_singleton] at hx; subst hx
      exact ⟨(kf x.row, es ++ [x]), List.mem_iff_getElem?.2 ⟨j, by rw [List.getElem?_set_self hjl]⟩, rfl⟩
theorem gi_new {b : List Entry} {kf : List Val → List Val} {acc : List (List Val × List Entry)} {i : Nat} {e : Entry} (hk : CleanK b kf) (h : GI (b.take i) kf acc) (he : b[i]? = some e) (hn : ∀ g ∈ acc, g.1 ≠ kf e.row) : GI (b.take (i + 1)) kf (acc ++ [(kf e.row, [e])]) := by
  have hem : e ∈ b := List.mem_of_getElem? he
  rw [take_snoc' he]
  refine ⟨?_, fun g hg => ?_, fun x hx => ?_⟩
  · rw [List.pairwise_append]
    exact ⟨h.nd, List.pairwise_singleton .., fun g hg g' hg' => by rw [List.mem_singleton] at hg'; subst hg'; exact hn g hg⟩
  · rw [List.filter_append]
    rcases List.mem_append.1 hg with hg | hg
    · obtain ⟨⟨x, hx, hxe⟩, h2⟩ := h.mem g hg
      refine ⟨⟨x, by simp [hx], hxe⟩, ?_⟩
      rw [← h2, List.filter_cons_of_neg (fun q => hn g hg ((atK_iff hk hem (hxe ▸ hk x (List.mem_of_mem_take hx))).1 q).symm)]; simp
    · rw [List.mem_singleton] at hg; subst hg
      refine ⟨⟨e, by simp, rfl⟩, ?_⟩
      rw [List.filter_cons_of_pos ((atK_iff hk hem (hk e hem)).2 rfl), List.filter_eq_nil_iff.2 fun x hx q => ?_]; rfl
      obtain ⟨g, hg, hgk⟩ := h.all x hx
      exact hn g hg (hgk.trans ((atK_iff hk (List.mem_of_mem_take hx) (hk e hem)).1 q))
  · rcases List.mem_append.1 hx with hx | hx
    · obtain ⟨g, hg, hgk⟩ := h.all x hx
      exact ⟨g, by simp [hg], hgk⟩
    · rw [List.mem_singleton] at hx; subst hx
      exact ⟨(kf x.row, [x]), by simp, rfl⟩
def grpCmp (g h : List Val × List Entry) : Int := rowCmp g.1 h.1
theorem grpCmp_ok : CmpOk grpCmp (fun g => g.1.map Val.clean) := rowCmp_ok.comp Prod.fst
theorem gi_sort {b : List Entry} {kf : List Val → List Val} {acc : List (List Val × List Entry)} (hk : CleanK b kf) (h : GI b kf acc) : sortF grpCmp acc = grpE b kf := by
  obtain ⟨k1, k2, k3⟩ := keys_says hk
  have hp := sortF_perm grpCmp_ok.swo acc
  have hs := sortF_sorted grpCmp_ok.swo acc
  have hac : ∀ g ∈ acc, rowClean g.1 := fun g hg => by
    obtain ⟨⟨e, he, hq⟩, _⟩ := h.mem g hg
    exact hq ▸ hk e he
  have hnd : (sortF grpCmp acc).Pairwise fun g h => g.1 ≠ h.1 := (hp.pairwise_iff (fun {a b} hab => hab.symm)).2 h.nd
  have h1 : (sortF grpCmp acc).Pairwise fun g h => kR g.1 h.1 := by
    refine List.Pairwise.imp_of_mem (fun {g g'} hg hg' ⟨q1, q2⟩ => ?_) (hnd.and hs)
    have c1 := hac g (hp.mem_iff.1 hg)
    have c2 := hac g' (hp.mem_iff.1 hg')
    have e0 : rowCmp g.1 g'.1 ≠ 0 := fun q => q1 (clean_eq c1 c2 q)
    have e1 := rowCmp_ok.anti g.1 g'.1
    have e2 : ¬ rowCmp g'.1 g.1 < 0 := q2
    show rowCmp g.1 g'.1 < 0
    omega
  have h2 : (grpE b kf).Pairwise fun g h => kR g.1 h.1 := by
    unfold grpE; rw [List.pairwise_map]; exact k1
  refine sorted_unique (fun g => kR_irr g.1) (fun a b c => kR_tr a.1 b.1 c.1) h1 h2 fun g => ?_
  rw [hp.mem_iff]
  constructor
  · intro hg
    obtain ⟨⟨e, he, hq⟩, h3⟩ := h.mem g hg
    exact List.mem_map.2 ⟨g.1, (k3 _).2 ⟨e, he, hq⟩, by rw [← h3]⟩
  · intro hg
    obtain ⟨k, hkm, rfl⟩ := List.mem_map.1 hg
    obtain ⟨e, he, rfl⟩ := (k3 k).1 hkm
    obtain ⟨g, hg, hgk⟩ := h.all e he
    have := (h.mem g hg).2
    rw [hgk] at this
    rw [← this, ← hgk]; exact hg
def ttl (L : List (Val × Int)) : Int := (L.map Prod.snd).sum
def sumV (L : List (Val × Int)) : Int := (L.map fun x => if x.1.kind = 1 then x.1.int * x.2 else 0).sum
def cntV (L : List (Val × Int)) : Int := (L.map fun x => if x.1.kind = 1 then x.2 else 0).sum
def nnE (L : List (Val × Int)) : List (Val × Int) := L.filter fun x => decide (x.1.kind ≠ 0)
def nthE : List (Val × Int) → Int → Val
  | [], _ => Val.null
  | x :: L, i => if i < x.2 then x.1 else nthE L (i - x.2)
def below (L : List (Val × Int)) (v : Val) : Int := (L.map fun x => if x.1.cmp v < 0 then x.2 else 0).sum
def upto (L : List (Val × Int)) (v : Val) : Int := (L.map fun x => if v.cmp x.1 < 0 then 0 else x.2).sum
def PosC (L : List (Val × Int)) : Prop := ∀ x ∈ L, 0 < x.2
def AscV (L : List (Val × Int)) : Prop := L.Pairwise fun x y => ¬ y.1.cmp x.1 < 0
theorem sum_perm {α : Type} {f : α → Int} {a b : List α} (h : a.Perm b) : (a.map f).sum = (b.map f).sum := by
  induction h with
  | nil => rfl
  | cons x _ ih => simp [ih]
  | swap x y l => simp only [List.map_cons, List.sum_cons]; omega
  | trans _ _ i1 i2 => exact i1.trans i2
theorem sum_le {α : Type} {f g : α → Int} : ∀ {l : List α}, (∀ x ∈ l, f x ≤ g x) → (l.map f).sum ≤ (l.map g).sum
  | [], _ => Int.le_refl _
  | x :: l, h => by
    have h1 := h x (by simp)
    have h2 := sum_le (l := l) fun y hy => h y (by simp [hy])
    simp only [List.map_cons, List.sum_cons]; omega
theorem sum_zero {α : Type} {f : α → Int} : ∀ {l : List α}, (∀ x ∈ l, f x = 0) → (l.map f).sum = 0
  | [], _ => rfl
  | x :: l, h => by
    have h1 := h x (by simp)
    have h2 := sum_zero (l := l) fun y hy => h y (by simp [hy])
    simp only [List.map_cons, List.sum_cons]; omega
theorem ttl_pos {L : List (Val × Int)} (hp : PosC L) (hn : L ≠ []) : 0 < ttl L := by
  cases L with
  | nil => exact absurd rfl hn
  | cons x L =>
    have h := sum_le (f := fun _ => (0 : Int)) (g := Prod.snd) (l := L) fun y hy => by
      have := hp y (by simp [hy]); omega
    rw [sum_zero (f := fun _ : Val × Int => (0 : Int)) (fun _ _ => rfl)] at h
    have := hp x (by simp)
    unfold ttl
    simp only [List.map_cons, List.sum_cons]; omega
noncomputable def ascE (L : List (Val × Int)) : List (Val × Int) := sortF (fun x y => x.1.cmp y.1) (nnE L)
noncomputable def foldE (f : Int) (L : List (Val × Int)) : Val :=
  if f = 0 then Val.ofInt (ttl L)
  else if f = 1 then (if cntV L = 0 then Val.null else Val.ofInt (sumV L))
  else if f = 2 then (if nnE L = [] then Val.null else nthE (ascE L) 0)
  else if f = 3 then (if nnE L = [] then Val.null else nthE (ascE L) (ttl (nnE L) - 1))
  else if f = 4 then (if nnE L = [] then Val.null else nthE (ascE L) ((ttl (nnE L) - 1) / 2))
  else Val.null
theorem vcmp_ok : CmpOk (fun x y : Val × Int => x.1.cmp y.1) (fun x => x.1.clean) := cmp_ok.comp Prod.fst
theorem ascE_perm (L : List (Val × Int)) : (ascE L).Perm (nnE L) := sortF_perm vcmp_ok.swo _
theorem nth_first {x : Val × Int} {S : List (Val × Int)} (hp : PosC (x :: S)) : nthE (x :: S) 0 = x.1 := by rw [nthE, if_pos (hp x (by simp))]
theorem nth_last : ∀ {S : List (Val × Int)} {x : Val × Int}, PosC (S ++ [x]) → nthE (S ++ [x]) (ttl (S ++ [x]) - 1) = x.1
  | [], x, h => by
    have := h x (by simp)
    show (if ttl [x] - 1 < x.2 then x.1 else _) = x.1
    rw [if_pos (by simp [ttl]; omega)]
  | y :: S, x, h => by
    have hp : PosC (S ++ [x]) := fun z hz => h z (by rw [List.cons_append]; exact List.mem_cons_of_mem _ hz)
    have ht := ttl_pos hp (by simp)
    have he : ttl (y :: (S ++ [x])) = y.2 + ttl (S ++ [x]) := by simp [ttl]
    rw [List.cons_append, nthE, he, if_neg (by omega), show y.2 + ttl (S ++ [x]) - 1 - y.2 = ttl (S ++ [x]) - 1 by omega]
    exact nth_last hp
end Go.Proofs.YtojfhaoleedmkaaGreat
