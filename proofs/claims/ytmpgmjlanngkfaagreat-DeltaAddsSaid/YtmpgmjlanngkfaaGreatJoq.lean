/-
  Algebra: what the joiner makes final, in plain terms.
-/
import Derived.Test.YtmpgmjlanngkfaaGreatJof
import Derived.Test.YtmpgmjlanngkfaaGreatJog
import Derived.Test.YtmpgmjlanngkfaaGreatJoh
section
namespace Go.Proofs.YtmpgmjlanngkfaaGreat
open Go.Abs Go.RowKit
attribute [local irreducible] ARun Au MCall PCall HCall Ak SF CF CFs Af Ag Ar fin AP VLe
set_option linter.unusedSimpArgs false
set_option maxRecDepth 100000
set_option maxHeartbeats 4000000
def Mp (G : List Entry → List Itm → List Agg → List Entry × Int) (v : Vw) (j : List Entry) : List Entry × Int :=
 if v.kind = 1 then G (BE j v.wher) v.items v.aggs
 else if (FI (BE j v.wher) (v.items.map Itm.expr)).2 = 0 then
  (if v.distinct = true then (BO (FI (BE j v.wher) (v.items.map Itm.expr)).1, 0) else ((FI (BE j v.wher) (v.items.map Itm.expr)).1, 0))
 else ([], (FI (BE j v.wher) (v.items.map Itm.expr)).2)
theorem OJ (G : List Entry → List Itm → List Agg → List Entry × Int) (v : Vw) (j : List Entry) (hil : v.items.length ≤ 10000) (hg : v.kind = 1 → PC 90 [.one (Am (BE j v.wher)), .one (MU v.items), .one (SI v.aggs)] (Bt (G (BE j v.wher) v.items v.aggs))) : PC 42 [.agg v.d, .one (Am j)] (Bt (Mp G v j)) := by
 have hw := Wa j v.wher
 unfold Mp
 generalize BE j v.wher = W at hw hg ⊢
 by_cases hk : v.kind = 1
 ·rw [if_pos hk]
  have hg := hg hk
  generalize G W v.items v.aggs = x at hg ⊢
  dsimp only [Bt] at hg ⊢
  refine Ac hT Tryz.func42 Tryz.ntmps42 [.tmp 4, .tmp 5] fun B => ?_
  repeat' first | refine kz ?_ | refine Aw ?_ | refine Aa (hw) ?_ | refine Aa (hg) ?_ | refine kh ?_ ?_ | exact ⟨⟩ | fail
  all_goals rfl
 rw [if_neg hk]
 clear hg
 have hm := au W (v.items.map Itm.expr)
 have hs := RZ (FI W (v.items.map Itm.expr)).1
 have hEl : (v.items.map Itm.expr).length = v.items.length := BQ _
 have hEi : ∀ i it, v.items[i]? = some it → (v.items.map Itm.expr)[i]? = some (Itm.expr it) := fun i it h => by rw [B2, h]; rfl
 generalize FI W (v.items.map Itm.expr) = m at hm hs ⊢
 obtain ⟨m, e⟩ := m
 generalize v.items.map Itm.expr = E at hm hEl hEi
 dsimp only [Bt, Pe] at hm hs ⊢
 refine Ac hT Tryz.func42 Tryz.ntmps42 [.tmp 4, .tmp 5] fun B => ?_
 repeat' first | refine kz ?_ | refine Aw ?_ | refine Aa (hw) ?_ | refine kh ?_ ?_ | exact ⟨⟩ | fail
 refine Cr 7 26 1 ?_
 refine A0 (X := Nat × Nat) ([7, 9] ++ List.range' 30 10) (fun x => x.1 ≤ v.items.length) (fun x lz => (7, .c (.arr 1 x.2 (E.take x.1).length)) :: (30, (iC x.1)) :: lz) (fun x => [.box 1 (v.d.map .d), .arr x.2 26 1 ((E.take x.1).map fun s => [Bw s])]) (fun x => v.items.length - x.1) ((0, 2)) ?_ ?_ ?_ ?_
 repeat' first | exact k0 | refine kw ?_ | refine kv ?_ ?_ | omega
 rintro ⟨i, k⟩ c0 hi
 dsimp only at hi ⊢
 by_cases hlt : i < v.items.length
 ·obtain ⟨it, hv⟩ := gx hlt
  have htk : E.take (i + 1) = E.take i ++ [it.expr] := by rw [IU, hEi i it hv]; rfl
  have htl : (E.take i).length = i := by simp; omega
  repeat' first | refine kz ?_ | refine AX hv ?_ | refine Aw ?_ | refine kh ?_ ?_ | exact ⟨⟩ | fail
  apply Ad ((i + 1, _)) <;> (try dsimp only) <;> try repeat' first | exact k0 | refine w1 ?_ | refine Ab ?_ | refine m1 ?_ ?_ | omega
  all_goals (rw [htk]; simp)
 ·have hie : i = E.length := by omega
  subst hie
  rw [PK]
  by_cases he : e = 0
  ·subst he
   rw [if_pos rfl]
   cases hd : v.distinct
   ·rw [if_neg (by simp)]
    repeat' first | refine Bc 7 ?_ (hes := show List.take E.length (E.map fun s => [Bw s]) = (E.map fun s => [Bw s]) from Mq (by simp)) | refine kz ?_ | refine Aw ?_ | refine Aa (hm) ?_ | refine AA Ae ?_ ?_ | refine B7 ?_ | refine Cv ?_
    all_goals rfl
   ·rw [if_pos rfl]
    repeat' first | refine Bc 7 ?_ (hes := show List.take E.length (E.map fun s => [Bw s]) = (E.map fun s => [Bw s]) from Mq (by simp)) | refine kz ?_ | refine Aw ?_ | refine Aa (hm) ?_ | refine Aa (hs) ?_ | refine AA Ae ?_ ?_ | refine B7 ?_ | refine Cv ?_
    all_goals rfl
  ·rw [if_neg he]
   repeat' first | refine Bc 7 ?_ (hes := show List.take E.length (E.map fun s => [Bw s]) = (E.map fun s => [Bw s]) from Mq (by simp)) | refine kz ?_ | refine Aw ?_ | refine Aa (hm) ?_ | refine AA Ae ?_ ?_ | refine B7 ?_ | refine Cv ?_
   all_goals rfl
end Go.Proofs.YtmpgmjlanngkfaaGreat
end
section
namespace Go.Proofs.YtmpgmjlanngkfaaGreat
open Go.Abs Go.RowKit
set_option linter.unusedSimpArgs false
set_option maxRecDepth 100000
variable {A D : Bs → Int} {G N : Bs → Prop} {b : List Entry} {c : Bs} {os : List Bs} {r s : List (Bs × Int)}
def DA (row : List Val) (cs : List Int) : Option Bs := (BJ row cs).map Al
def Cz (b : List Entry) (on2 : List Int) (key : Bs) : List (Bs × Int) := b.filterMap fun y => if DA y.row on2 = some key then some (BK y) else none
theorem Cj (b : List Entry) (y : Entry) (on2 : List Int) (key : Bs) : Cz (b ++ [y]) on2 key = Cz b on2 key ++ (if DA y.row on2 = some key then [BK y] else []) := by
 unfold Cz
 rw [List.filterMap_append]
 congr 1
 by_cases h : DA y.row on2 = some key <;> simp [h]
theorem H4 {on2 : List Int} {key : Bs} {q : Bs × Int} (h : q ∈ Cz b on2 key) : ∃ y ∈ b, q = BK y ∧ DA y.row on2 = some key := by
 obtain ⟨y, hy, hq⟩ := List.mem_filterMap.1 h
 split at hq
 ·simp only [Option.some.injEq] at hq
  exact ⟨y, hy, hq.symm, by assumption⟩
 ·cases hq
theorem H5 (b : List Entry) (on2 : List Int) (key : Bs) : (Cz b on2 key).length ≤ b.length := List.length_filterMap_le ..
abbrev JS := List Lev × List (Bs × Int) × List (Bs × Int)
def CO (b : List Entry) (on : List (Int × Int)) (q : JS) (u : Entry) : Option JS :=
 match DA u.row (on.map Prod.fst) with
 | none => some q
 | some key =>
   if Cz b (on.map Prod.snd) key = [] then some q
   else match closeE (Al u.row) q.1.reverse q.2.1 q.2.2 with
    | none => none
    | some (st', s', r') => some (st'.reverse ++ [⟨Al u.row, ((Cz b (on.map Prod.snd) key).foldl (AV (BK u)) ([], s')).1⟩], ((Cz b (on.map Prod.snd) key).foldl (AV (BK u)) ([], s')).2, r')
def FK (b : List Entry) (on : List (Int × Int)) : List Entry → JS → Option JS
 | [], q => some q
 | u :: a, q => match CO b on q u with
   | none => none
   | some q' => FK b on a q'
def N3 (a b : List Entry) (on : List (Int × Int)) : Option (List (Bs × Int)) :=
 match FK b on a ([], [], []) with
 | none => none
 | some q => match closeE [] q.1.reverse q.2.1 q.2.2 with
   | none => none
   | some (_, _, r) => some r
theorem Hg : ∀ {cs : List Bs} {s r s' r' : List (Bs × Int)}, closeLev cs s r = some (s', r') → ∀ e ∈ s', e ∈ s
 | [], s, r, s', r', h, e, he => by simp [closeLev] at h; rw [h.1]; exact he
 | c :: cs, s, r, s', r', h, e, he => by
   rw [closeLev] at h
   split at h
   ·cases h
   ·have h1 := Hg h e he
    rcases BL c s with ⟨i, v, _, _, _, g4, _⟩ | ⟨_, _, _, g4, _⟩
    ·rw [g4] at h1; exact (bJ ..).subset h1
    ·rw [g4] at h1; exact h1
theorem CY {code : Bs} : ∀ {st : List Lev} {s r : List (Bs × Int)} {st' : List Lev} {s' r' : List (Bs × Int)}, closeE code st s r = some (st', s', r') → r.length ≤ 4096 → st'.length ≤ st.length ∧ (∀ l ∈ st', l ∈ st) ∧ (∀ e ∈ s', e ∈ s) ∧ r'.length ≤ 4096
 | [], s, r, st', s', r', h, hr => by
   simp only [closeE, Option.some.injEq, Gk] at h
   obtain ⟨rfl, rfl, rfl⟩ := h
   exact ⟨Nat.le_refl _, fun _ h => h, fun _ h => h, hr⟩
 | l :: st, s, r, st', s', r', h, hr => by
   rw [closeE] at h
   split at h
   ·simp only [Option.some.injEq, Gk] at h
    obtain ⟨rfl, rfl, rfl⟩ := h
    exact ⟨Nat.le_refl _, fun _ h => h, fun _ h => h, hr⟩
   ·cases hc : closeLev l.opened s r with
    | none => rw [hc] at h; cases h
    | some q =>
      obtain ⟨s2, r2⟩ := q
      rw [hc] at h
      obtain ⟨h1, h2, h3, h4⟩ := CY h (Dz hc hr)
      exact ⟨by simp; omega, fun l hl => by simp [h2 l hl], fun e he => Hg hc e (h3 e he), h4⟩
structure JOk (i : Nat) (n : Nat) (q : JS) : Prop where
 st : q.1.length ≤ i
 op : ∀ l ∈ q.1, l.opened.length ≤ n
 sm : YJ (68719476736 * ((n * i : Nat) : Int)) q.2.1
 rs : q.2.2.length ≤ 4096
theorem Qx {u : Bs × Int} {K : Int} : ∀ (ps : List (Bs × Int)) (q : List Bs × List (Bs × Int)) (M : Int), (∀ y ∈ ps, -K ≤ u.2 * y.2 ∧ u.2 * y.2 ≤ K) → 0 ≤ M → 0 ≤ K → YJ M q.2 → YJ (M + K * ps.length) (ps.foldl (AV u) q).2 ∧ (ps.foldl (AV u) q).1.length ≤ q.1.length + ps.length
 | [], q, M, _, _, _, h => ⟨by simpa using h, by simp⟩
 | y :: ps, q, M, hk, hM, hK, h => by
   have h1 := Iu h (hk y (by simp)) hM
   obtain ⟨h2, h3⟩ := Qx ps (AV u q y) (M + K) (fun z hz => hk z (by simp [hz])) (by omega) hK h1
   have h4 := N1 u q y
   refine ⟨?_, by simp only [WR, List.length_cons]; omega⟩
   simp only [WR, List.length_cons]
   rw [show M + K * ((ps.length + 1 : Nat) : Int) = M + K + K * (ps.length : Int) by rw [Int.natCast_add, Int.mul_add]; simp; omega]
   exact h2
theorem N4 {x y : Int} (hx : -262144 ≤ x ∧ x ≤ 262144) (hy : -262144 ≤ y ∧ y ≤ 262144) : -68719476736 ≤ x * y ∧ x * y ≤ 68719476736 := by
 have h1 : (x * y).natAbs ≤ 262144 * 262144 := by
  rw [ZE]
  exact Nat.mul_le_mul (by omega) (by omega)
 omega
theorem Un {on : List (Int × Int)} {q q' : JS} {u : Entry} {i n : Nat} (h : JOk i n q) (hn : b.length ≤ n) (hb : ∀ y ∈ b, -262144 ≤ y.count ∧ y.count ≤ 262144) (hu : -262144 ≤ u.count ∧ u.count ≤ 262144) (hs : CO b on q u = some q') : JOk (i + 1) n q' := by
 have hmono : (68719476736 * ((n * i : Nat) : Int)) ≤ 68719476736 * ((n * (i + 1) : Nat) : Int) := by
  have : n * i ≤ n * (i + 1) := Nat.mul_le_mul_left _ (by omega)
  omega
 have hsame : JOk (i + 1) n q := ⟨by have := h.st; omega, h.op, fun e he => by have := h.sm e he; omega, h.rs⟩
 unfold CO at hs
 split at hs
 ·simp only [Option.some.injEq] at hs; subst hs; exact hsame
 ·rename_i key _
  split at hs
  ·simp only [Option.some.injEq] at hs; subst hs; exact hsame
  ·split at hs
   ·cases hs
   ·rename_i st' s' r' hc
    simp only [Option.some.injEq] at hs
    subst hs
    obtain ⟨h1, h2, h3, h4⟩ := CY hc h.rs
    simp only [List.length_reverse] at h1
    have hpl := H5 b (on.map Prod.snd) key
    have hf := Qx (u := BK u) (K := 68719476736) (Cz b (on.map Prod.snd) key) ([], s') (68719476736 * ((n * i : Nat) : Int)) (fun y hy => by
     obtain ⟨z, hz, rfl, _⟩ := H4 hy
     exact N4 hu (hb z hz)) (by omega) (by omega) (fun e he => h.sm e (h3 e he))
    refine ⟨?_, fun l hl => ?_, fun e he => ?_, h4⟩
    ·have := h.st; simp only [CP, List.length_reverse, QK]; omega
    ·rcases Ej.1 hl with hl | hl
     ·exact h.op l (ZV.1 (h2 l (ZV.1 hl)))
     ·obtain rfl := IT.1 hl
      have := hf.2; simp only [List.length_nil] at this; simp only; omega
    ·have := hf.1 e he
     rw [Nat.mul_add, Nat.mul_one]
     have h5 : ((n * i + n : Nat) : Int) = ((n * i : Nat) : Int) + n := by simp
     rw [h5]
     omega
theorem Gz (b : List Entry) (on : List (Int × Int)) : ∀ (l m : List Entry) (q : JS), FK b on (l ++ m) q = (FK b on l q).bind fun q' => FK b on m q'
 | [], m, q => rfl
 | u :: l, m, q => by
   rw [List.cons_append, FK, FK]
   cases CO b on q u with
   | none => rfl
   | some q' => exact Gz b on l m q'
theorem RB {a : List Entry} {on : List (Int × Int)} {q0 : JS} {i : Nat} {u : Entry} {q : JS} (hv : a[i]? = some u) (h : FK b on (a.take i) q0 = some q) : FK b on (a.take (i + 1)) q0 = CO b on q u ∧ (CO b on q u = none → FK b on a q0 = none) := by
 have e1 : FK b on (a.take (i + 1)) q0 = CO b on q u := by
  rw [IU, hv, Gz, h]
  simp only [Option.toList_some, Option.bind_some, FK]
  cases CO b on q u <;> rfl
 refine ⟨e1, fun hn => ?_⟩
 rw [← XM (i + 1) a, Gz, e1, hn]
 rfl
theorem H6 {α : Type} : ∀ {l : List α} {i : Nat} {x : α}, l[i]? = some x → ∃ l1 l2, l = l1 ++ x :: l2 ∧ l.eraseIdx i = l1 ++ l2 ∧ ∀ y, l.set i y = l1 ++ y :: l2
 | [], i, x, h => by simp at h
 | a :: l, 0, x, h => by
   simp at h; subst h
   exact ⟨[], l, rfl, rfl, fun _ => rfl⟩
 | a :: l, i + 1, x, h => by
   obtain ⟨l1, l2, h1, h2, h3⟩ := H6 (l := l) (i := i) (by simpa using h)
   exact ⟨a :: l1, l2, by rw [h1]; rfl, by simp [h2], fun y => by simp [h3 y]⟩
structure JInv (D : Bs → Int) (G N : Bs → Prop) (A : Bs → Int) (os : List Bs) (s r : List (Bs × Int)) : Prop where
 perm : os.Perm (s.map Prod.fst)
 nd : (s.map Prod.fst).Nodup
 val : ∀ e ∈ s, e.2 = D e.1
 kg : ∀ e ∈ s, G e.1
 dz : ∀ c, ¬ G c → D c = 0
 cl : ∀ c, G c → c ∉ s.map Prod.fst → N c ∧ (A c ≠ 0 → (c, A c) ∈ r)
 res : ∀ e ∈ r, e.2 = A e.1 ∧ e.2 ≠ 0 ∧ G e.1 ∧ e.1 ∉ s.map Prod.fst
 rnd : (r.map Prod.fst).Nodup
def Pn (A : Bs → Int) (r : List (Bs × Int)) : Prop := (r.map Prod.fst).Nodup ∧ ∀ e ∈ r, e.2 = A e.1 ∧ e.2 ≠ 0
theorem JInv.fin (h : JInv D G N A os s r) : Pn A r := ⟨h.rnd, fun e he => ⟨(h.res e he).1, (h.res e he).2.1⟩⟩
theorem JInv.congr {D' : Bs → Int} {G' N' : Bs → Prop} {os' : List Bs} (h : JInv D G N A os s r) (hD : ∀ c, D c = D' c) (hG : ∀ c, G c ↔ G' c) (hN : ∀ c, N c → N' c) (ho : os'.Perm os) : JInv D' G' N' A os' s r :=
 ⟨ho.trans h.perm, h.nd, fun e he => by rw [← hD]; exact h.val e he, fun e he => (hG _).1 (h.kg e he), fun c hc => by rw [← hD]; exact h.dz c fun q => hc ((hG c).1 q), fun c hc hk => ⟨hN c (h.cl c ((hG c).2 hc) hk).1, (h.cl c ((hG c).2 hc) hk).2⟩, fun e he => ⟨(h.res e he).1, (h.res e he).2.1, (hG _).1 (h.res e he).2.2.1, (h.res e he).2.2.2⟩, h.rnd⟩
theorem JInv.close1 (h : JInv D G N A (c :: os) s r) (hN : N c) (hA : A c = D c) : JInv D G N A os (N2 c s) (BI c s r) := by
 have hck : c ∈ s.map Prod.fst := h.perm.subset (by simp)
 rcases BL c s with ⟨i, v, g1, g2, _, g4, _⟩ | ⟨g1, _⟩
 ·obtain ⟨l1, l2, e1, e2, _⟩ := H6 g1
  unfold BI
  rw [g4, e2, g2]
  have hval := h.val (c, v) (Cl g1)
  have hkg := h.kg (c, v) (Cl g1)
  simp only at hval hkg
  have hp := h.perm
  have hnd := h.nd
  have hm : s.map Prod.fst = l1.map Prod.fst ++ c :: l2.map Prod.fst := by rw [e1]; simp
  have hm2 : (l1 ++ l2).map Prod.fst = l1.map Prod.fst ++ l2.map Prod.fst := by simp
  rw [hm] at hp hnd
  have hnd2 := (List.perm_middle.nodup_iff).1 hnd
  obtain ⟨hcn, hnd3⟩ := ZD.1 hnd2
  have hsub : ∀ e, e ∈ l1 ++ l2 → e ∈ s := fun e he => by
   rw [e1]
   rcases Ej.1 he with q | q
   ·exact XO _ q
   ·exact bK _ (ZP _ q)
  have hsubk : ∀ x, x ∈ (l1 ++ l2).map Prod.fst → x ∈ s.map Prod.fst := fun x hx => by
   obtain ⟨e, he, rfl⟩ := List.mem_map.1 hx
   exact Zx (hsub e he)
  have hcr : c ∉ r.map Prod.fst := fun q => by
   obtain ⟨e, he, hq⟩ := List.mem_map.1 q
   exact (h.res e he).2.2.2 (hq ▸ hck)
  refine ⟨?_, ?_, fun e he => h.val e (hsub e he), fun e he => h.kg e (hsub e he), h.dz, fun x hx hk => ?_, fun e he => ?_, ?_⟩
  ·rw [hm2]; exact (hp.trans List.perm_middle).cons_inv
  ·rw [hm2]; exact hnd3
  ·by_cases hxc : x = c
   ·subst hxc
    refine ⟨hN, fun hz => ?_⟩
    rw [if_neg (by rw [hval, ← hA]; exact hz), hval, ← hA]
    simp
   ·have hk2 : x ∉ s.map Prod.fst := fun q => by
     rw [hm] at q
     rcases Ej.1 q with q | q
     ·exact hk (by rw [hm2]; exact XO _ q)
     ·rcases Fb.1 q with q | q
      ·exact hxc q
      ·exact hk (by rw [hm2]; exact bK _ q)
    obtain ⟨h1, h2⟩ := h.cl x hx hk2
    refine ⟨h1, fun hz => ?_⟩
    split
    ·exact h2 hz
    ·exact XO _ (h2 hz)
  ·have hold : e ∈ r → e.2 = A e.1 ∧ e.2 ≠ 0 ∧ G e.1 ∧ e.1 ∉ (l1 ++ l2).map Prod.fst := fun q => ⟨(h.res e q).1, (h.res e q).2.1, (h.res e q).2.2.1, fun z => (h.res e q).2.2.2 (hsubk _ z)⟩
   split at he
   ·exact hold he
   ·rename_i hv
    rcases Ej.1 he with he | he
    ·exact hold he
    ·obtain rfl := IT.1 he
     exact ⟨by rw [hA]; exact hval, hv, hkg, by rw [hm2]; exact hcn⟩
  ·split
   ·exact h.rnd
   ·rw [Ah', WO]
    refine ⟨h.rnd, by simp, fun x hx y hy q => ?_⟩
    simp at hy
    subst hy; subst q
    exact hcr hx
 ·obtain ⟨e, he, hq⟩ := List.mem_map.1 hck
  exact absurd hq (g1 e he)
theorem JInv.closeLev {D : Bs → Int} {G N : Bs → Prop} {A : Bs → Int} : ∀ {cs os : List Bs} {s r : List (Bs × Int)}, JInv D G N A (cs ++ os) s r → (∀ c ∈ cs, N c ∧ A c = D c) →
   (∀ s' r', closeLev cs s r = some (s', r') → JInv D G N A os s' r') ∧ (closeLev cs s r = none → ∃ r' : List (Bs × Int), 4096 < r'.length ∧ Pn A r')
 | [], os, s, r, h, _ => ⟨fun s' r' q => by
     simp only [Go.Proofs.YtmpgmjlanngkfaaGreat.closeLev, Option.some.injEq, Gk] at q
     obtain ⟨rfl, rfl⟩ := q
     exact h, fun q => by simp [Go.Proofs.YtmpgmjlanngkfaaGreat.closeLev] at q⟩
 | c :: cs, os, s, r, h, hc => by
   have h1 := h.close1 (hc c (by simp)).1 (hc c (by simp)).2
   have h2 := JInv.closeLev h1 (fun x hx => hc x (by simp [hx]))
   rw [Go.Proofs.YtmpgmjlanngkfaaGreat.closeLev]
   split
   · rename_i hl
     exact ⟨fun s' r' q => (by cases q), fun _ => ⟨_, hl, h1.fin⟩⟩
   · exact h2
theorem JInv.closeE {D : Bs → Int} {G N : Bs → Prop} {A : Bs → Int} {code : Bs} : ∀ {st : List Lev} {s r : List (Bs × Int)}, JInv D G N A (st.flatMap Lev.opened) s r → (∀ l ∈ st, ¬ (code ≠ [] ∧ l.code.isPrefixOf code = true) → ∀ c ∈ l.opened, N c ∧ A c = D c) →
   (∀ st' s' r', closeE code st s r = some (st', s', r') → JInv D G N A (st'.flatMap Lev.opened) s' r' ∧ ∀ l ∈ st', l ∈ st) ∧ (closeE code st s r = none → ∃ r' : List (Bs × Int), 4096 < r'.length ∧ Pn A r')
 | [], s, r, h, _ => ⟨fun st' s' r' q => by
     simp only [Go.Proofs.YtmpgmjlanngkfaaGreat.closeE, Option.some.injEq, Gk] at q
     obtain ⟨rfl, rfl, rfl⟩ := q
     exact ⟨h, fun l hl => hl⟩, fun q => by simp [Go.Proofs.YtmpgmjlanngkfaaGreat.closeE] at q⟩
 | l :: st, s, r, h, hc => by
   rw [Go.Proofs.YtmpgmjlanngkfaaGreat.closeE]
   split
   · exact ⟨fun st' s' r' q => by
      simp only [Option.some.injEq, Gk] at q
      obtain ⟨rfl, rfl, rfl⟩ := q
      exact ⟨h, fun l hl => hl⟩, fun q => by cases q⟩
   · rename_i hp
     have h1 := JInv.closeLev (cs := l.opened) (os := st.flatMap Lev.opened) h (hc l (by simp) hp)
     split
     ·rename_i hq
      exact ⟨fun st' s' r' q => (by cases q), fun _ => h1.2 hq⟩
     ·rename_i s2 r2 hq
      have h2 := JInv.closeE (code := code) (h1.1 _ _ hq) (fun m hm => hc m (by simp [hm]))
      exact ⟨fun st' s' r' q => ⟨(h2.1 _ _ _ q).1, fun m hm => by simp [(h2.1 _ _ _ q).2 m hm]⟩, h2.2⟩
theorem JW : ∀ {st : List Lev} {s r : List (Bs × Int)} {st' : List Lev} {s' r' : List (Bs × Int)}, closeE [] st s r = some (st', s', r') → st' = []
 | [], s, r, st', s', r', h => by
   simp only [closeE, Option.some.injEq, Gk] at h
   exact h.1.symm
 | l :: st, s, r, st', s', r', h => by
   rw [closeE, if_neg (by simp)] at h
   split at h
   ·cases h
   ·exact JW h
theorem JInv.add1 {u y : Bs × Int} {op : List Bs} (h : JInv D G N A (op ++ os) s r) (hn : ¬ N (u.1 ++ y.1)) :
  JInv (fun c => D c + if u.1 ++ y.1 = c then u.2 * y.2 else 0) (fun c => G c ∨ u.1 ++ y.1 = c) N A ((AV u (op, s) y).1 ++ os) (AV u (op, s) y).2 r := by
 unfold AV
 generalize u.1 ++ y.1 = c0 at hn ⊢
 generalize u.2 * y.2 = k
 simp only
 rcases BL c0 s with ⟨i, v, g1, g2, g3, _, g5⟩ | ⟨g1, g2, g3, _, g5⟩
 ·obtain ⟨l1, l2, e1, _, e3⟩ := H6 g1
  rw [g5, g2, g3, if_pos rfl, e3]
  have hval := h.val (c0, v) (Cl g1)
  simp only at hval
  have hm : s.map Prod.fst = l1.map Prod.fst ++ c0 :: l2.map Prod.fst := by rw [e1]; simp
  have hm2 : (l1 ++ (c0, v + k) :: l2).map Prod.fst = s.map Prod.fst := by rw [hm]; simp
  have hnd := h.nd
  rw [hm] at hnd
  have hcn := (ZD.1 ((List.perm_middle.nodup_iff).1 hnd)).1
  have hcase : ∀ e ∈ l1 ++ (c0, v + k) :: l2, e = (c0, v + k) ∨ (e ∈ s ∧ e.1 ≠ c0) := fun e he => by
   rcases Ej.1 he with q | q
   ·exact .inr ⟨by rw [e1]; exact XO _ q, fun z => hcn (XO _ (z ▸ Zx q))⟩
   ·rcases Fb.1 q with q | q
    ·exact .inl q
    ·exact .inr ⟨by rw [e1]; exact bK _ (ZP _ q), fun z => hcn (bK _ (z ▸ Zx q))⟩
  refine ⟨by rw [hm2]; exact h.perm, by rw [hm2]; exact h.nd, fun e he => ?_, fun e he => ?_, fun c hc => ?_, fun c hc hk => ?_, fun e he => ?_, h.rnd⟩
  ·rcases hcase e he with rfl | ⟨q1, q2⟩
   ·simp [hval]
   ·rw [if_neg (fun z => q2 z.symm), h.val e q1]; omega
  ·rcases hcase e he with rfl | ⟨q1, q2⟩
   ·exact .inr rfl
   ·exact .inl (h.kg e q1)
  ·simp only [not_or] at hc
   rw [if_neg hc.2, h.dz c hc.1]; rfl
  ·rw [hm2] at hk
   rcases hc with hc | hc
   ·exact h.cl c hc hk
   ·subst hc; exact absurd (by rw [hm]; simp) hk
  ·rw [hm2]
   obtain ⟨q1, q2, q3, q4⟩ := h.res e he
   exact ⟨q1, q2, .inl q3, q4⟩
 ·rw [g5, g2, g3, if_neg (by simp)]
  have hck : c0 ∉ s.map Prod.fst := fun q => by
   obtain ⟨e, he, hq⟩ := List.mem_map.1 q
   exact g1 e he hq
  have hG : ¬ G c0 := fun q => hn (h.cl c0 q hck).1
  have hm2 : (s ++ [(c0, 0 + k)]).map Prod.fst = s.map Prod.fst ++ [c0] := by simp
  refine ⟨?_, ?_, fun e he => ?_, fun e he => ?_, fun c hc => ?_, fun c hc hk => ?_, fun e he => ?_, h.rnd⟩
  ·rw [hm2]
   have q1 : (op ++ [c0] ++ os).Perm (op ++ os ++ [c0]) := by
    rw [GR, GR]
    exact List.Perm.append_left _ List.perm_append_comm
   exact q1.trans (h.perm.append_right _)
  ·rw [hm2, WO]
   exact ⟨h.nd, by simp, fun a ha b hb q => by simp at hb; subst hb; subst q; exact hck ha⟩
  ·rcases Ej.1 he with q | q
   ·have hne : ¬ c0 = e.1 := fun z => g1 e q z.symm
    rw [if_neg hne, h.val e q]; omega
   ·obtain rfl := IT.1 q
    simp [h.dz c0 hG]
  ·rcases Ej.1 he with q | q
   ·exact .inl (h.kg e q)
   ·obtain rfl := IT.1 q
    exact .inr rfl
  ·simp only [not_or] at hc
   rw [if_neg hc.2, h.dz c hc.1]; rfl
  ·rw [hm2] at hk
   rcases hc with hc | hc
   ·exact h.cl c hc (fun q => hk (XO _ q))
   ·subst hc; exact absurd (by simp) hk
  ·rw [hm2]
   obtain ⟨q1, q2, q3, q4⟩ := h.res e he
   refine ⟨q1, q2, .inl q3, fun q => ?_⟩
   rcases Ej.1 q with q | q
   ·exact q4 q
   ·simp at q; exact hG (q ▸ q3)
abbrev E3 := (Bs × Int) × List (Bs × Int)
def T1 (u : Bs × Int) (ps : List (Bs × Int)) (c : Bs) : Int := (ps.map fun y => if u.1 ++ y.1 = c then u.2 * y.2 else 0).sum
def G1 (u : Bs × Int) (ps : List (Bs × Int)) (c : Bs) : Prop := ∃ y ∈ ps, u.1 ++ y.1 = c
def TT (l : List E3) (c : Bs) : Int := (l.map fun x => T1 x.1 x.2 c).sum
def GG (l : List E3) (c : Bs) : Prop := ∃ x ∈ l, G1 x.1 x.2 c
def NN (l : List E3) (c : Bs) : Prop := ∀ x ∈ l, ¬ x.1.1 <+: c
theorem JInv.addAll {N : Bs → Prop} {A : Bs → Int} {u : Bs × Int} {os : List Bs} {r : List (Bs × Int)} : ∀ {ps : List (Bs × Int)} {D : Bs → Int} {G : Bs → Prop} {op : List Bs} {s : List (Bs × Int)}, JInv D G N A (op ++ os) s r → (∀ y ∈ ps, ¬ N (u.1 ++ y.1)) →
   JInv (fun c => D c + T1 u ps c) (fun c => G c ∨ G1 u ps c) N A ((ps.foldl (AV u) (op, s)).1 ++ os) (ps.foldl (AV u) (op, s)).2 r
 | [], D, G, op, s, h, _ => h.congr (fun c => by simp [T1]) (fun c => by simp [G1]) (fun _ q => q) (List.Perm.refl _)
 | y :: ps, D, G, op, s, h, hn => by
   have h1 := h.add1 (u := u) (y := y) (hn y (by simp))
   have h2 := JInv.addAll (ps := ps) (u := u) (op := (AV u (op, s) y).1) (s := (AV u (op, s) y).2) h1 (fun z hz => hn z (by simp [hz]))
   rw [WR]
   refine h2.congr (fun c => ?_) (fun c => ?_) (fun _ q => q) (List.Perm.refl _)
   ·simp only [T1, List.map_cons, Sm]; omega
   ·simp only [G1, Fb, exists_eq_or_imp, or_assoc]
theorem JX {u : Bs × Int} : ∀ {ps : List (Bs × Int)} {op : List Bs} {s : List (Bs × Int)}, (∀ c ∈ op, u.1 <+: c) → ∀ c ∈ (ps.foldl (AV u) (op, s)).1, u.1 <+: c
 | [], op, s, h => h
 | y :: ps, op, s, h => by
   rw [WR]
   refine JX (op := (AV u (op, s) y).1) (s := (AV u (op, s) y).2) fun c hc => ?_
   unfold AV at hc
   simp only at hc
   split at hc
   ·exact h c hc
   ·rcases Ej.1 hc with q | q
    ·exact h c q
    ·simp at q; subst q; exact bQ ..
theorem Lj (a b : List E3) (c : Bs) : TT (a ++ b) c = TT a c + TT b c := by simp [TT]
theorem Wo {u : Bs × Int} {ps : List (Bs × Int)} (h : ¬ u.1 <+: c) : T1 u ps c = 0 := by
 unfold T1
 induction ps with
 | nil => rfl
 | cons y ps ih =>
   have hne : ¬ u.1 ++ y.1 = c := fun q => h (by rw [← q]; exact bQ ..)
   rw [List.map_cons, Sm, ih, if_neg hne]; rfl
theorem Wp {l : List E3} (h : NN l c) : TT l c = 0 := by
 induction l with
 | nil => rfl
 | cons x l ih =>
   unfold TT at ih ⊢
   rw [List.map_cons, Sm, ih (fun y hy => h y (by simp [hy])), Wo (h x (by simp))]; rfl
def Qy (q : JS) (x : E3) : Option JS := match closeE x.1.1 q.1.reverse q.2.1 q.2.2 with
 | none => none
 | some (st', s', r') => some (st'.reverse ++ [⟨x.1.1, (x.2.foldl (AV x.1) ([], s')).1⟩], (x.2.foldl (AV x.1) ([], s')).2, r')
def Gd : List E3 → JS → Option JS
 | [], q => some q
 | x :: l, q => match Qy q x with
   | none => none
   | some q' => Gd l q'
structure InOrd (all : List E3) : Prop where
 ord : all.Pairwise fun x y => ¬ y.1.1 <+: x.1.1
 near : ∀ d x0 t, all = d ++ x0 :: t → ∀ x ∈ d, ∀ y ∈ t, x.1.1 <+: y.1.1 → x.1.1 <+: x0.1.1
theorem N5 {all : List E3} (hO : InOrd all) : ∀ (todo dn : List E3) (st : List Lev) (s r : List (Bs × Int)), all = dn ++ todo → JInv (TT dn) (GG dn) (NN todo) (TT all) (st.reverse.flatMap Lev.opened) s r →
   (∀ l ∈ st, (∀ c ∈ l.opened, l.code <+: c) ∧ ∃ x ∈ dn, x.1.1 = l.code) →
   (∀ q, Gd todo (st, s, r) = some q → JInv (TT all) (GG all) (NN []) (TT all) (q.1.reverse.flatMap Lev.opened) q.2.1 q.2.2) ∧ (Gd todo (st, s, r) = none → ∃ r' : List (Bs × Int), 4096 < r'.length ∧ Pn (TT all) r')
 | [], dn, st, s, r, ha, h, _ => by
   rw [List.append_nil] at ha
   subst ha
   exact ⟨fun q hq => by simp only [Gd, Option.some.injEq] at hq; subst hq; exact h, fun hq => by simp [Gd] at hq⟩
 | x0 :: t, dn, st, s, r, ha, h, hl => by
   have hord := hO.ord
   rw [ha] at hord
   obtain ⟨_, ho2, ho3⟩ := Zu.1 hord
   have hcl := h.closeE (code := x0.1.1) (fun l hlm hp c hc => by
     obtain ⟨h1, x, hx, hxe⟩ := hl l (ZV.1 hlm)
     have hpc := h1 c hc
     have hNN : NN (x0 :: t) c := by
      have hnp : ¬ l.code <+: x0.1.1 := fun q => hp ⟨fun z => by
       have := ho3 x hx x0 (by simp)
       rw [z] at this
       exact this (List.nil_prefix), List.isPrefixOf_iff_prefix.2 q⟩
      intro y hy q
      rcases Nat.le_total y.1.1.length l.code.length with hle | hle
      ·have := List.prefix_of_prefix_length_le q hpc hle
       rw [← hxe] at this
       exact ho3 x hx y hy this
      ·have hq := List.prefix_of_prefix_length_le hpc q hle
       rcases Fb.1 hy with rfl | hy
       ·exact hnp hq
       ·exact hnp (hxe ▸ hO.near dn x0 t ha x hx y hy (hxe ▸ hq))
     exact ⟨hNN, by rw [ha, Lj, Wp hNN]; omega⟩)
   rw [Gd, Qy]
   cases hq : Go.Proofs.YtmpgmjlanngkfaaGreat.closeE x0.1.1 st.reverse s r with
   | none => exact ⟨fun q z => (by cases z), fun _ => hcl.2 hq⟩
   | some z =>
     obtain ⟨st', s', r'⟩ := z
     obtain ⟨k1, k2⟩ := hcl.1 _ _ _ hq
     simp only
     have k3 := JInv.addAll (u := x0.1) (ps := x0.2) (op := []) (os := st'.flatMap Lev.opened) k1 (fun y _ hN => hN x0 (by simp) (bQ ..))
     have hpre := JX (u := x0.1) (ps := x0.2) (op := []) (s := s') (by simp)
     refine N5 hO t (dn ++ [x0]) _ _ _ (by rw [ha]; simp) (k3.congr (fun c => ?_) (fun c => ?_) (fun c hN y hy => hN y (by simp [hy])) ?_) (fun l hlm => ?_)
     ·rw [Lj]; simp [TT]
     ·simp [GG, or_and_right, exists_or]
     ·simp
     ·rcases Ej.1 hlm with hlm | hlm
      ·obtain ⟨z1, x, z2, z3⟩ := hl l (ZV.1 (k2 l (ZV.1 hlm)))
       exact ⟨z1, x, by simp [z2], z3⟩
      ·obtain rfl := IT.1 hlm
       exact ⟨hpre, x0, by simp, rfl⟩
def Po (l : List E3) : Option (List (Bs × Int)) := match Gd l ([], [], []) with
 | none => none
 | some q => match closeE [] q.1.reverse q.2.1 q.2.2 with
   | none => none
   | some (_, _, r) => some r
theorem RC {l : List E3} (hO : InOrd l) : match Po l with
   | none => ∃ r : List (Bs × Int), 4096 < r.length ∧ Pn (TT l) r
   | some r => Pn (TT l) r ∧ ∀ c, TT l c ≠ 0 → (c, TT l c) ∈ r := by
 have h := N5 hO l [] [] [] [] rfl ⟨by simp, by simp, by simp, by simp, fun c _ => by simp [TT], fun c hc => by simp [GG] at hc, by simp, by simp⟩ (by simp)
 unfold Po
 cases hq : Gd l ([], [], []) with
 | none => exact h.2 hq
 | some q =>
   simp only
   have h1 := (h.1 q hq).closeE (code := []) (fun l _ _ c _ => ⟨by simp [NN], rfl⟩)
   cases hc : closeE [] q.1.reverse q.2.1 q.2.2 with
   | none => exact h1.2 hc
   | some z =>
     obtain ⟨st', s', r'⟩ := z
     have h2 := (h1.1 _ _ _ hc).1
     have := JW hc
     subst this
     have hs : s' = [] := by
      have := h2.perm.length_eq
      simp at this
      exact bF.1 this.symm
     subst hs
     refine ⟨h2.fin, fun c hz => ?_⟩
     apply (h2.cl c _ (by simp)).2 hz
     apply WM
     intro hG
     exact hz (h2.dz c hG)
end Go.Proofs.YtmpgmjlanngkfaaGreat
end
