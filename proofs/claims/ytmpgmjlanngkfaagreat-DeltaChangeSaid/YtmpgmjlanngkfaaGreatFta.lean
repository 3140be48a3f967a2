/-
  The document's Normalize with its result as an array of the caller's own.
-/
import Derived.Test.YtmpgmjlanngkfaaGreatJoq
import Derived.Test.YtmpgmjlanngkfaaGreatRek
import Derived.Test.YtmpgmjlanngkfaaGreatSum
import Derived.Test.YtmpgmjlanngkfaaGreatRgd
section
namespace Go.Proofs.YtmpgmjlanngkfaaGreat
open Go.Abs Go.RowKit
set_option linter.unusedSimpArgs false
set_option maxRecDepth 100000
variable {a b : List Entry}
theorem W1 {a b : ByteArray} (h : a.toList = b.toList) : a = b := by
 rw [ByteArray.toList_eq, ByteArray.toList_eq] at h
 cases a; cases b
 simpa using h
theorem Qb {a b : Val} : CP a b = true ↔ a = b := by
 refine ⟨fun h => ?_, fun h => by rw [h]; exact F9 _⟩
 simp only [CP, BM, beq_iff_eq] at h
 obtain ⟨h1, h2, h3⟩ := h
 have := W1 h3
 cases a; cases b; simp_all
def Gk (b : List Entry) (on : List (Int × Int)) (u : Entry) : Option F5 := match Eu u.row (on.map Prod.fst) with
 | none => none
 | some key => if Dc b (on.map Prod.snd) key = [] then none else some (Ca u, Dc b (on.map Prod.snd) key)
def DH (a b : List Entry) (on : List (Int × Int)) : List F5 := a.filterMap (Gk b on)
theorem Ob (b : List Entry) (on : List (Int × Int)) : ∀ (a : List Entry) (q : JS), G0 b on a q = HE (DH a b on) q
 | [], q => rfl
 | u :: a, q => by
   rw [G0, Dv, DH, dX, Gk]
   cases hk : Eu u.row (on.map Prod.fst) with
   | none => simp only; exact Ob b on a q
   | some key =>
     simp only
     by_cases hp : Dc b (on.map Prod.snd) key = []
     ·rw [if_pos hp, if_pos hp]; exact Ob b on a q
     ·rw [if_neg hp, if_neg hp]
      simp only [HE, S5]
      have ih := Ob b on a
      unfold DH at ih
      show (match (match closeE (Ar u.row) q.1.reverse q.2.1 q.2.2 with | none => none | some (jK, s', r') => _) with | none => none | some q' => G0 b on a q') = (match (match closeE (Ar u.row) q.1.reverse q.2.1 q.2.2 with | none => none | some (jK, s', r') => _) with | none => none | some q' => HE (List.filterMap (Gk b on) a) q')
      cases closeE (Ar u.row) q.1.reverse q.2.1 q.2.2 with
      | none => rfl
      | some z => exact ih _
theorem ch (a b : List Entry) (on : List (Int × Int)) : P8 a b on = RL (DH a b on) := by
 unfold P8 RL
 rewrite [Ob]
 cases HE (DH a b on) ([], [], []) with
 | none => rfl
 | some q =>
   simp only
   cases closeE [] q.1.reverse q.2.1 q.2.2 with
   | none => rfl
   | some z => rfl
theorem G2 (a : Val) (r : List Val) : Ar (a :: r) = AT a.clean ++ Ar r := by simp [Ar]
theorem Fj (r s : List Val) : Ar (r ++ s) = Ar r ++ Ar s := by simp [Ar]
theorem Ic : ∀ {r s : List Val}, Ar r <+: Ar s → r.map Val.clean <+: s.map Val.clean
 | [], s, _ => List.nil_prefix
 | a :: r, [], h => by
   rw [G2] at h
   have hl := h.length_le
   have j2 : 0 < (AT a.clean).length := dD.2 (Hl a.clean)
   rw [CR, show (Ar []).length = 0 from rfl] at hl
   omega
 | a :: r, b :: s, h => by
   obtain ⟨t, h⟩ := h
   rw [G2, G2, Hc] at h
   obtain ⟨q1, q2⟩ := K5 (A3 a) (A3 b) h
   obtain ⟨z, hz⟩ := Ic ⟨t, q2⟩
   exact ⟨z, by rw [List.map_cons, List.map_cons, q1, ← hz]; rfl⟩
theorem Qc {r s : List Val} (h : r.map Val.clean <+: s.map Val.clean) : Ar r <+: Ar s := by
 obtain ⟨t, h⟩ := h
 rw [← En r, ← En s, ← h, Fj]
 exact gn ..
theorem W2 : ∀ {r s : List Val}, r.map Val.clean <+: s.map Val.clean → ¬ Aj s r < 0
 | [], s, _ => by cases s <;> simp [Aj]
 | a :: r, [], h => by simp at h
 | a :: r, b :: s, h => by
   rw [List.map_cons, List.map_cons, List.cons_prefix_cons] at h
   rw [Aj, if_pos ((cmp_ok.zero b a).2 h.1.symm)]
   exact W2 h.2
theorem Qd : ∀ {r s t : List Val}, r.map Val.clean <+: t.map Val.clean → Aj r s < 0 → Aj s t < 0 → r.map Val.clean <+: s.map Val.clean
 | [], s, t, _, _, _ => List.nil_prefix
 | a :: r, [], t, _, h, _ => by simp [Aj] at h
 | a :: r, b :: s, [], _, _, h => by simp [Aj] at h
 | a :: r, b :: s, c :: t, h, h1, h2 => by
   rw [List.map_cons, List.map_cons, List.cons_prefix_cons] at h
   rw [List.map_cons, List.map_cons, List.cons_prefix_cons]
   rw [Aj] at h1 h2
   have lZ : a.cmp b = 0 := by
    apply Zz
    intro j2
    rw [if_neg j2] at h1
    have h3 := cmp_ok.left h.1 h1
    have h4 := (cmp_ok.anti c b).2
    have h5 := (cmp_ok.anti b c).1 h3
    rw [if_neg (by omega)] at h2
    omega
   have qN : b.cmp c = 0 := (cmp_ok.zero b c).2 (((cmp_ok.zero a b).1 lZ).symm.trans h.1)
   rw [if_pos lZ] at h1
   rw [if_pos qN] at h2
   exact ⟨(cmp_ok.zero a b).1 lZ, Qd h.2 h1 h2⟩
theorem Js {on : List (Int × Int)} {u : Entry} {x : F5} (h : Gk b on u = some x) : ∃ key, Eu u.row (on.map Prod.fst) = some key ∧ x = (Ca u, Dc b (on.map Prod.snd) key) := by
 unfold Gk at h
 split at h
 ·cases h
 ·rename_i key hk
  split at h
  ·cases h
  ·simp only [Option.some.injEq] at h
   exact ⟨key, hk, h.symm⟩
def SR (x y : F5) : Prop := ∃ u w : List Val, x.1.1 = Ar u ∧ y.1.1 = Ar w ∧ Aj u w < 0
theorem W3 (b : List Entry) (on : List (Int × Int)) (h : a.Pairwise eR) : (DH a b on).Pairwise SR := by
 refine h.filterMap (Gk b on) fun u w zb x hx y hy => ?_
 obtain ⟨_, _, rfl⟩ := Js hx
 obtain ⟨_, _, rfl⟩ := Js hy
 exact ⟨u.row, w.row, rfl, rfl, zb⟩
theorem Uq (b : List Entry) (on : List (Int × Int)) (h : a.Pairwise eR) : InOrd (DH a b on) := by
 have hS := W3 b on h
 refine ⟨hS.imp fun {x y} zc q => ?_, fun d x0 t hd x hx y hy hp => ?_⟩
 ·obtain ⟨u, w, h1, h2, h3⟩ := zc
  rw [h1, h2] at q
  exact W2 (Ic q) h3
 ·rw [hd] at hS
  obtain ⟨_, g1, g2⟩ := aV.1 hS
  obtain ⟨u, v, e1, e2, e3⟩ := g2 x hx x0 (by simp)
  obtain ⟨v', w, f1, f2, f3⟩ := (LW.1 g1).1 y hy
  have qG : Aj v' w < 0 := f3
  have zf : Aj v w < 0 := rowCmp_ok.left ((rowCmp_ok.zero _ _).1 (Cm.1 (f1.symm.trans e2))) f3
  rw [e1, f2] at hp
  rw [e1, e2]
  exact Qc (Qd (Ic hp) e3 zf)
theorem Ur {row : List Val} (h : AR row = true) (col : Int) : (Fs row col).clean = Fs row col := by
 simp only [AR, BM, Eg] at h
 have hn : Val.null.clean = Val.null := by unfold Val.clean; split <;> rfl
 unfold Fs
 split
 ·exact hn
 ·split
  ·rename_i v hv
   rw [Val.clean, if_pos (h.2 v (Cb hv))]
  ·exact hn
theorem Ie {row : List Val} (h : AR row = true) : ∀ {cs : List Int} {l : List Val}, B9 row cs = some l → l.map Val.clean = l
 | [], l, hl => by simp [B9] at hl; subst hl; rfl
 | c :: cs, l, hl => by
   rw [B9] at hl
   split at hl
   ·cases hl
   ·cases hq : B9 row cs with
    | none => rw [hq] at hl; cases hl
    | some m =>
      rw [hq] at hl
      simp at hl
      subst hl
      rw [List.map_cons, Ur h, Ie h hq]
theorem MY (x y : List Val) : ∀ on : List (Int × Int), Co x y on = true ↔ ∃ l, B9 x (on.map Prod.fst) = some l ∧ B9 y (on.map Prod.snd) = some l
 | [] => by simp [Co, B9]
 | p :: on => by
   have ih := MY x y on
   have e : Co x y (p :: on) = ((decide ((Fs x p.1).kind ≠ 0) && CP (Fs x p.1) (Fs y p.2)) && Co x y on) := by simp [Co]
   rw [e, BM, BM, ih, Qb, List.map_cons, List.map_cons, B9, B9]
   constructor
   ·rintro ⟨⟨h1, h2⟩, l, h3, h4⟩
    simp only [decide_eq_true_eq] at h1
    rw [← h2, if_neg h1, if_neg h1, h3, h4]
    exact ⟨_, rfl, rfl⟩
   ·rintro ⟨l, h3, h4⟩
    split at h3
    ·cases h3
    ·rename_i hk
     split at h4
     ·cases h4
     ·cases h5 : B9 x (on.map Prod.fst) with
      | none => rw [h5] at h3; cases h3
      | some m =>
        cases h6 : B9 y (on.map Prod.snd) with
        | none => rw [h6] at h4; cases h4
        | some m' =>
          rw [h5] at h3
          rw [h6] at h4
          simp only [Option.map_some, Option.some.injEq] at h3 h4
          rw [← h4] at h3
          injection h3 with q1 q2
          exact ⟨⟨by simpa using hk, q1⟩, m, rfl, by rw [q2]⟩
theorem Ln {x y : List Val} (hx : AR x = true) (hy : AR y = true) (on : List (Int × Int)) : Co x y on = true ↔ ∃ k, Eu x (on.map Prod.fst) = some k ∧ Eu y (on.map Prod.snd) = some k := by
 rw [MY]
 unfold Eu
 constructor
 ·rintro ⟨l, h1, h2⟩
  exact ⟨Ar l, by rw [h1]; rfl, by rw [h2]; rfl⟩
 ·rintro ⟨k, h1, h2⟩
  cases h3 : B9 x (on.map Prod.fst) with
  | none => rw [h3] at h1; cases h1
  | some l =>
    cases h4 : B9 y (on.map Prod.snd) with
    | none => rw [h4] at h2; cases h2
    | some m =>
      rw [h3] at h1
      rw [h4] at h2
      simp only [Option.map_some, Option.some.injEq] at h1 h2
      have := FY (h1.trans h2.symm)
      rw [Ie hx h3, Ie hy h4] at this
      exact ⟨l, rfl, by rw [this]⟩
theorem S6 (u : Entry) (l9 : List Int) (key : Bs) (r : List Val) : ∀ b : List Entry, T1 (Ca u) (Dc b l9 key) (Ar r) = Bn ((b.filter fun y => decide (Eu y.row l9 = some key)).map (FI u)) r
 | [] => rfl
 | y :: b => by
   have ih := S6 u l9 key r b
   unfold Dc at ih ⊢
   rw [dX, ZE]
   by_cases h : Eu y.row l9 = some key
   ·rw [if_pos h, if_pos (by simpa using h)]
    simp only [T1, List.map_cons, Vb, Bn] at ih ⊢
    rw [ih]
    have he : ((Ca u).1 ++ (Ca y).1 = Ar r) ↔ Aj (FI u y).row r = 0 := by
     show Ar u.row ++ Ar y.row = Ar r ↔ Aj (u.row ++ y.row) r = 0
     rw [← Fj, Cm]
    by_cases hq : Aj (FI u y).row r = 0
    ·rw [if_pos hq, if_pos (he.2 hq)]; rfl
    ·rw [if_neg hq, if_neg (fun z => hq (he.1 z))]
   ·rw [if_neg h, if_neg (by simpa using h)]
    exact ih
theorem Us (on : List (Int × Int)) (ha : ∀ e ∈ a, AR e.row = true) (hb : ∀ e ∈ b, AR e.row = true) (r : List Val) : TT (DH a b on) (Ar r) = Bn (A2 a b on) r := by
 induction a with
 | nil => rfl
 | cons u a ih =>
   have ih := ih (fun e he => ha e (by simp [he]))
   have hu := ha u (by simp)
   have e1 : A2 (u :: a) b on = Cp u b on ++ A2 a b on := by simp [A2]
   rw [e1, De, ← ih]
   unfold DH
   rw [dX]
   cases hk : Eu u.row (on.map Prod.fst) with
   | none =>
     have hp : Cp u b on = [] := by
      unfold Cp
      rw [List.filter_eq_nil_iff.2]
      ·rfl
      ·intro y hy hm
       obtain ⟨k, h1, _⟩ := (Ln hu (hb y hy) on).1 hm
       rw [hk] at h1; cases h1
     rw [hp]
     have hi : Gk b on u = none := by unfold Gk; rw [hk]
     rw [hi]
     simp [Bn]
   | some key =>
     have hp : Cp u b on = (b.filter fun y => decide (Eu y.row (on.map Prod.snd) = some key)).map (FI u) := by
      unfold Cp
      congr 1
      apply List.filter_congr
      intro y hy
      rw [Q2, Ln hu (hb y hy), decide_eq_true_eq]
      constructor
      ·rintro ⟨k, h1, h2⟩
       rw [hk] at h1
       simp only [Option.some.injEq] at h1
       rw [h1]; exact h2
      ·intro h; exact ⟨key, hk, h⟩
     rw [hp, ← S6]
     by_cases nR : Dc b (on.map Prod.snd) key = []
     ·have hi : Gk b on u = none := by unfold Gk; rw [hk]; simp only; rw [if_pos nR]
      rw [hi, nR]
      simp [T1]
     ·have hi : Gk b on u = some (Ca u, Dc b (on.map Prod.snd) key) := by unfold Gk; rw [hk]; simp only; rw [if_neg nR]
      rw [hi]
      simp [TT]
theorem Ut {on : List (Int × Int)} {c : Bs} (h : TT (DH a b on) c ≠ 0) : ∃ u ∈ a, ∃ y ∈ b, c = Ar (u.row ++ y.row) := by
 have hG : GG (DH a b on) c := by
  apply Zz
  intro hn
  apply h
  unfold TT
  have : ∀ l : List F5, ¬ GG l c → (l.map fun x => T1 x.1 x.2 c).sum = 0 := by
   intro l
   induction l with
   | nil => intro _; rfl
   | cons x l ih =>
     intro hl
     have h1 : ¬ G1 x.1 x.2 c := fun q => hl ⟨x, by simp, q⟩
     have h2 : ¬ GG l c := fun ⟨y, hy, q⟩ => hl ⟨y, by simp [hy], q⟩
     have h3 : T1 x.1 x.2 c = 0 := by
      unfold T1
      have : ∀ ps : List (Bs × Int), (∀ y ∈ ps, x.1.1 ++ y.1 ≠ c) → (ps.map fun y => if x.1.1 ++ y.1 = c then x.1.2 * y.2 else 0).sum = 0 := by
       intro ps
       induction ps with
       | nil => intro _; rfl
       | cons y ps lU => intro xA; rw [List.map_cons, Vb, lU (fun z hz => xA z (by simp [hz])), if_neg (xA y (by simp))]; rfl
      exact this _ fun y hy q => h1 ⟨y, hy, q⟩
     rw [List.map_cons, Vb, ih h2, h3]; rfl
  exact this _ hn
 obtain ⟨x, hx, y, hy, hc⟩ := hG
 obtain ⟨u, hu, hi⟩ := List.mem_filterMap.1 hx
 obtain ⟨key, _, rfl⟩ := Js hi
 obtain ⟨z, hz, rfl, _⟩ := Jp hy
 exact ⟨u, hu, z, hz, by rw [Fj]; exact hc.symm⟩
theorem MZ {α : Type} [DecidableEq α] : ∀ {l m : List α}, l.Nodup → (∀ x ∈ l, x ∈ m) → l.length ≤ m.length
 | [], m, _, _ => Nat.zero_le _
 | x :: l, m, h, hs => by
   obtain ⟨h1, h2⟩ := dK.1 h
   have hx := hs x (by simp)
   have := MZ (l := l) (m := m.erase x) h2 fun y hy => (List.mem_erase_of_ne (by rintro rfl; exact h1 hy)).2 (hs y (by simp [hy]))
   rw [List.length_erase_of_mem hx] at this
   have jD := List.length_pos_of_mem hx
   rw [List.length_cons]; omega
theorem W4 {α β : Type} {f : α → β} {P : α → Prop} : ∀ {l : List β}, (∀ y ∈ l, ∃ x, f x = y ∧ P x) → ∃ xs : List α, xs.map f = l ∧ ∀ x ∈ xs, P x
 | [], _ => ⟨[], rfl, by simp⟩
 | y :: l, h => by
   obtain ⟨x, hx, hp⟩ := h y (by simp)
   obtain ⟨xs, h1, h2⟩ := W4 (l := l) (fun z hz => h z (by simp [hz]))
   exact ⟨x :: xs, by rw [List.map_cons, hx, h1], fun z hz => by
    rcases FL.1 hz with rfl | hz
    ·exact hp
    ·exact h2 z hz⟩
theorem Qe : ∀ {l : List F5} {q q' : JS}, HE l q = some q' → q.2.2.length ≤ 4096 → q'.2.2.length ≤ 4096
 | [], q, q', h, hq => by simp only [HE, Option.some.injEq] at h; subst h; exact hq
 | x :: l, q, q', h, hq => by
   rw [HE, S5] at h
   cases hc : closeE x.1.1 q.1.reverse q.2.1 q.2.2 with
   | none => rw [hc] at h; cases h
   | some z =>
     obtain ⟨jK, s', r'⟩ := z
     rw [hc] at h
     exact Qe h (DG hc hq).2.2.2
theorem W5 {l : List F5} {r : List (Bs × Int)} (h : RL l = some r) : r.length ≤ 4096 := by
 unfold RL at h
 cases hq : HE l ([], [], []) with
 | none => rw [hq] at h; cases h
 | some q =>
   rw [hq] at h
   simp only at h
   cases hc : closeE [] q.1.reverse q.2.1 q.2.2 with
   | none => rw [hc] at h; cases h
   | some z =>
     obtain ⟨jK, s', r'⟩ := z
     rw [hc] at h
     simp only [Option.some.injEq] at h
     subst h
     exact (DG hc (Qe hq (by simp))).2.2.2
theorem Lo (ha : ∀ e ∈ a, AR e.row = true ∧ e.row.length ≤ 8 ∧ e.count ≠ 0) (hb : ∀ e ∈ b, AR e.row = true ∧ e.row.length ≤ 8 ∧ e.count ≠ 0) {u y : Entry} (hu : u ∈ a) (hy : y ∈ b) : AR (u.row ++ y.row) = true ∧ u.count * y.count ≠ 0 := by
 obtain ⟨h1, h2, h3⟩ := ha u hu
 obtain ⟨h4, h5, h6⟩ := hb y hy
 simp only [AR, BM, decide_eq_true_eq] at h1 h4 ⊢
 refine ⟨⟨by simp; omega, by rw [dJ, h1.2, h4.2]; rfl⟩, fun q => ?_⟩
 rcases Int.mul_eq_zero.1 q with q | q
 ·exact h3 q
 ·exact h6 q
theorem M0 (l : List Entry) : (l.all fun e => decide (-262144 ≤ e.count ∧ e.count ≤ 262144)) = l.all fun e => AD e.count := by
 congr 1
 funext e
 simp [AD]
theorem Uu (on : List (Int × Int)) (ha : A4 a = true) (hb : A4 b = true) :
   match P8 a b on with
   | none => CA (sumR (A2 a b on)) = ([], 8)
   | some r => ∃ rs : List Entry, r = rs.map Ca ∧ (∀ e ∈ rs, AR e.row = true) ∧ CA (sumR (A2 a b on)) = if rs.all (fun e => AD e.count) then (sortF Ed rs, 0) else ([], 9) := by
 obtain ⟨_, am⟩ := BJ ha
 obtain ⟨_, bm⟩ := BJ hb
 have xB : ∀ e ∈ a, AR e.row = true ∧ e.row.length ≤ 8 ∧ e.count ≠ 0 := fun e he => ⟨(am e he).1, (am e he).2.2⟩
 have xC : ∀ e ∈ b, AR e.row = true ∧ e.row.length ≤ 8 ∧ e.count ≠ 0 := fun e he => ⟨(bm e he).1, (bm e he).2.2⟩
 have zg : Am a = true := by unfold A4 at ha; simp only [BM] at ha; exact ha.2
 have hO := Uq b on (BH zg).up
 have nS := Us on (fun e he => (am e he).1) (fun e he => (bm e he).1)
 have sG : ∀ e ∈ A2 a b on, AR e.row = true ∧ e.count ≠ 0 := fun e he => by
   obtain ⟨x, hx, y, hy, _, rfl⟩ := Jv he
   exact Lo xB xC hx hy
 have uv := M8 (A2 a b on) fun e he => (sG e he).2
 obtain ⟨s1, s2⟩ := B5 (A2 a b on) fun e he => Bu (sG e he).1
 have mc : ∀ r : List (Bs × Int), RK (TT (DH a b on)) r → ∃ rs : List Entry, rs.map Ca = r ∧ ∀ e ∈ rs, AR e.row = true ∧ e.count ≠ 0 ∧ Bn (A2 a b on) e.row = e.count := fun r hr => by
   refine W4 fun e he => ?_
   obtain ⟨h1, h2⟩ := hr.2 e he
   obtain ⟨u, hu, y, hy, hc⟩ := Ut (h1 ▸ h2)
   refine ⟨⟨u.row ++ y.row, e.2⟩, ?_, (Lo xB xC hu hy).1, h2, ?_⟩
   · show (Ar (u.row ++ y.row), e.2) = e
     rw [← hc]
   · rw [← nS, ← hc, ← h1]
 have hF := Up hO
 rw [ch]
 cases hq : RL (DH a b on) with
 | none =>
   rw [hq] at hF
   obtain ⟨r, hl, hr⟩ := hF
   obtain ⟨rs, h1, h2⟩ := mc r hr
   have hle : r.length ≤ (sortE (A2 a b on)).length := by
     have := MZ (l := r.map Prod.fst) (m := (sortE (A2 a b on)).map fun e => Ar e.row) hr.1 fun c hc => by
      rw [← h1, Sc] at hc
      obtain ⟨e, he, rfl⟩ := List.mem_map.1 hc
      obtain ⟨_, q2, q3⟩ := h2 e he
      rw [← s2] at q3
      obtain ⟨x, hx, hz⟩ := Kr (l := sortE (A2 a b on)) (r := e.row) (by rw [q3]; exact q2)
      exact List.mem_map.2 ⟨x, hx, Cm.2 hz⟩
     simpa using this
   simp only
   unfold CA
   rw [uv, if_pos (by omega)]
 | some r =>
   rw [hq] at hF
   obtain ⟨hr, j9⟩ := hF
   obtain ⟨rs, h1, h2⟩ := mc r hr
   have qL : apart rs := by
     have hn := hr.1
     rw [← h1, Sc] at hn
     unfold apart
     rw [List.nodup_iff_pairwise_ne, dY] at hn
     exact hn.imp fun {x y} q z => q (Cm.2 z)
   have zh : ∀ ρ, Bn rs ρ = Bn (A2 a b on) ρ := fun ρ => by
     by_cases hex : ∃ e ∈ rs, Aj e.row ρ = 0
     ·obtain ⟨e, he, hz⟩ := hex
      rw [G8 qL he hz, ← (h2 e he).2.2, ← nS, ← nS, Cm.2 hz]
     ·rw [JB fun e he z => hex ⟨e, he, z⟩]
      apply Zz
      intro j2
      rw [← nS] at j2
      have hm := j9 _ (fun z => j2 z.symm)
      rw [← h1] at hm
      obtain ⟨e, he, oi⟩ := List.mem_map.1 hm
      exact hex ⟨e, he, Cm.1 (congrArg Prod.fst oi)⟩
   have zi := LK (fun e he => Bu (sG e he).1) qL (fun e he => (h2 e he).2.1) (fun e he => Bu (h2 e he).1) zh
   have jU := Br entCmp_ok.swo rs
   refine ⟨rs, h1.symm, fun e he => (h2 e he).1, ?_⟩
   have hlen := W5 hq
   rw [← h1, BR] at hlen
   unfold CA
   rw [uv, ← zi, if_neg (by rw [jU.length_eq]; omega), M0, jU.all_eq]
end Go.Proofs.YtmpgmjlanngkfaaGreat
end
section
namespace Go.Proofs.YtmpgmjlanngkfaaGreat
open Go.Abs Go.RowKit
attribute [local irreducible] ARun Av MCall PCall HCall Ap SF CF CFs Ag Ai As fin AY VLe
set_option linter.unusedSimpArgs false
set_option maxRecDepth 100000
set_option maxHeartbeats 4000000
theorem WL (a b : List Entry) (ha : a.length ≤ 100000000) (lF : b.length ≤ 100000000) (sa : Ba 1152921504606846976 a) (sb : Ba 1152921504606846976 b) : HC 131 [.c (.d (Ak a)), .c (.d (Ak b))] [] (.c (.arr 0 1 (mergeE a b).length)) [.arr 1 56 2 ((mergeE a b).map Entry.d)] := by
 refine Au hT Tryz.func131 Tryz.ntmps131 [.tmp 4] fun B => ?_
 repeat' first | refine kz ?_ | refine Az rfl (fun hb => ?_) (fun hb => ?_) | refine Ao ?_ | refine kf ?_ | refine kg ?_ ?_ | exact k0 | refine Ab ?_ | refine m1 ?_ ?_
 refine Bv 5 56 2 ?_
 refine AK (X := Nat × Nat × Nat × List Entry) (List.range' 5 87) (fun x => x.1 ≤ a.length ∧ x.2.1 ≤ b.length ∧ x.2.2.2 ++ mergeE (a.drop x.1) (b.drop x.2.1) = mergeE a b) (fun x lz => (5, .c (.arr 0 x.2.2.1 x.2.2.2.length)) :: (6, (iC x.1)) :: (7, (iC x.2.1)) :: lz) (fun x => [.arr x.2.2.1 56 2 (x.2.2.2.map Entry.d)]) (fun x => (a.length - x.1) + (b.length - x.2.1)) ((0, 0, 1, [])) ?_ ?_ ?_ ?_
 repeat' first | exact k0 | refine kw ?_ | refine kv ?_ ?_ | omega
 ·exact ⟨by simp, by simp, by simp⟩
 rintro ⟨i, j, k, out⟩ c ⟨hi, hj, hinv⟩
 dsimp only at hi hj hinv ⊢
 have mP : out.length ≤ a.length + b.length := by
  have := congrArg List.length hinv
  have h2 := DJ a b
  simp at this; omega
 by_cases i7 : i < a.length
 ·have hv : a[i]? = some a[i] := Bo i7
  obtain ⟨lu, om⟩ := sa _ (Fo i7)
  generalize a[i] = x at hv lu om
  rw [AB hv] at hinv
  by_cases jk : j < b.length
  ·have hu : b[j]? = some b[j] := Bo jk
   obtain ⟨pG, uw⟩ := sb _ (Fo jk)
   generalize b[j] = y at hu pG uw
   rw [AB hu, mergeE] at hinv
   repeat' first | refine kz ?_ | refine Az rfl (fun hb => ?_) (fun hb => ?_) | refine AF hv ?_ | refine AF hu ?_ | refine Ao ?_ | refine Aa (Bd _ _) ?_ | refine kf ?_ | refine kg ?_ ?_ | exact k0 | refine Ab ?_ | refine m1 ?_ ?_
   ·apply Af ((i + 1, j, _, out ++ [x])) <;> (try dsimp only) <;> try repeat' first | exact k0 | refine w1 ?_ | refine Ab ?_ | refine m1 ?_ ?_ | omega
    ·rw [Ag']; rfl
    ·refine ⟨by omega, by omega, ?_⟩
     rw [if_pos hb] at hinv; rw [← hinv, AB hu, Hc]; rfl
   ·apply Af ((i, j + 1, _, out ++ [y])) <;> (try dsimp only) <;> try repeat' first | exact k0 | refine w1 ?_ | refine Ab ?_ | refine m1 ?_ ?_ | omega
    ·rw [Ag']; rfl
    ·refine ⟨by omega, by omega, ?_⟩
     rw [if_neg (by omega), if_pos hb] at hinv; rw [← hinv, AB hv, Hc]; rfl
   ·apply Af ((i + 1, j + 1, _, out ++ [⟨x.row, x.count + y.count⟩])) <;> (try dsimp only) <;> try repeat' first | exact k0 | refine w1 ?_ | refine Ab ?_ | refine m1 ?_ ?_ | omega
    ·rw [Ag']; rfl
    ·refine ⟨by omega, by omega, ?_⟩
     rw [if_neg (by omega), if_neg (by omega), if_neg hb] at hinv; rw [← hinv, Hc]
   ·apply Af ((i + 1, j + 1, _, out)) <;> (try dsimp only) <;> try repeat' first | exact k0 | refine w1 ?_ | refine Ab ?_ | refine m1 ?_ ?_ | omega
    refine ⟨by omega, by omega, ?_⟩
    rw [if_neg (by omega), if_neg (by omega), if_pos hb] at hinv; rw [← hinv]; rfl
  ·rw [drop_nil (show b.length ≤ j by omega), mergeE] at hinv
   ·repeat' first | refine kz ?_ | refine Az rfl (fun hb => ?_) (fun hb => ?_) | refine AF hv ?_ | refine Ao ?_ | refine Aa (Bd _ _) ?_ | refine kf ?_ | refine kg ?_ ?_ | exact k0 | refine Ab ?_ | refine m1 ?_ ?_
    apply Af ((i + 1, j, _, out ++ [x])) <;> (try dsimp only) <;> try repeat' first | exact k0 | refine w1 ?_ | refine Ab ?_ | refine m1 ?_ ?_ | omega
    ·rw [Ag']; rfl
    ·refine ⟨by omega, by omega, ?_⟩
     rw [← hinv, drop_nil (show b.length ≤ j by omega), Hc]
     cases h : List.drop (i + 1) a <;> simp [mergeE]
   ·simp
 ·by_cases jk : j < b.length
  ·obtain ⟨y, hu⟩ := gx jk
   rw [drop_nil (show a.length ≤ i by omega), AB hu, mergeE] at hinv
   repeat' first | refine kz ?_ | refine Az rfl (fun hb => ?_) (fun hb => ?_) | refine AF hu ?_ | refine Ao ?_ | refine Aa (Bd _ _) ?_ | refine kf ?_ | refine kg ?_ ?_ | exact k0 | refine Ab ?_ | refine m1 ?_ ?_
   apply Af ((i, j + 1, _, out ++ [y])) <;> (try dsimp only) <;> try repeat' first | exact k0 | refine w1 ?_ | refine Ab ?_ | refine m1 ?_ ?_ | omega
   ·rw [Ag']; rfl
   ·refine ⟨by omega, by omega, ?_⟩
    rw [← hinv, drop_nil (show a.length ≤ i by omega), mergeE, Hc]; rfl
  ·rw [drop_nil (show a.length ≤ i by omega), drop_nil (show b.length ≤ j by omega), mergeE, List.append_nil] at hinv
   rw [← hinv]
   repeat' first | refine kz ?_ | refine Az rfl (fun hb => ?_) (fun hb => ?_) | refine Ao ?_ | refine kf ?_ | refine kg ?_ ?_ | exact k0 | refine Ab ?_ | refine m1 ?_ ?_
   all_goals rfl
def L7 : List Entry → Bool
 | [] => true
 | [e] => decide (e.count = 0)
 | _ => false
theorem Uh {l : List Entry} (h : L7 l = true) : sortE l = [] := by
 match l, h with
 | [], _ => rw [sortE]; rfl
 | [e], h => rw [sortE, dif_pos (by simp)]; simp [L7] at h; simp [h]
theorem YL (l : List Entry) (h : L7 l = true) : HC 77 [.c (.d (Ak l))] [] (.c .emp) [] := by
 match l, h with
 | [], _ =>
   refine Au hT Tryz.func77 Tryz.ntmps77 [.tmp 2] fun B => ?_
   repeat' first | refine kz ?_ | refine Ao ?_ | refine kg ?_ ?_ | exact k0 | fail
 | [e], h =>
   have h : e.count = 0 := by simpa [L7] using h
   refine Au hT Tryz.func77 Tryz.ntmps77 [.tmp 2] fun B => ?_
   repeat' first | refine kz ?_ | refine Ao ?_ | refine kg ?_ ?_ | exact k0 | fail
theorem YM (l : List Entry) (h : L7 l = false) (kX : l.length ≤ 1000000) (hw : Ba 262144 l) : HC 77 [.c (.d (Ak l))] [] (.c (.arr 0 1 (sortE l).length)) [.arr 1 56 2 ((sortE l).map Entry.d)] := by
 match l, h, kX, hw with
 | [e], h, _, _ =>
   have h : e.count ≠ 0 := by simpa [L7] using h
   have he : sortE [e] = [e] := by rw [sortE, dif_pos (by simp)]; simp [h]
   rw [he]
   refine Au hT Tryz.func77 Tryz.ntmps77 [.tmp 2] fun B => ?_
   repeat' first | refine Mt (r := 0) ?_ | refine kz ?_ | refine Ao ?_ | refine AO Ad ?_ ?_ | exact k0 | refine Ab ?_
   all_goals rfl
 | x :: y :: l, _, kX, hw =>
   have h1 : ¬ (x :: y :: l).length ≤ 1 := by simp
   have hlen : (x :: y :: l).length = l.length + 2 := by simp
   generalize x :: y :: l = l at h1 hlen kX hw
   have hS := Hy
   have e : sortE l = mergeE (sortE (l.take (l.length / 2))) (sortE (l.drop (l.length / 2))) := by rw [sortE, dif_neg h1]
   have w1 : Ba 262144 (l.take (l.length / 2)) := fun e he => hw e (I0 he)
   have w2 : Ba 262144 (l.drop (l.length / 2)) := fun e he => hw e (Tn he)
   have c1 := RR l.length (l.take (l.length / 2)) (by simp; omega) (by simp; omega) w1
   have c2 := RR l.length (l.drop (l.length / 2)) (by simp) (by simp; omega) w2
   have l1 := hS (l.take (l.length / 2))
   have l2 := hS (l.drop (l.length / 2))
   simp only [Gu, Fm] at l1 l2
   have v1 := Ev _ w1
   have v2 := Ev _ w2
   simp only [Gu, Fm] at v1 v2
   have c3 := WL (sortE (l.take (l.length / 2))) (sortE (l.drop (l.length / 2))) (by omega) (by omega) (Bt v1 (by omega)) (Bt v2 (by omega))
   clear hS w1 w2 v1 v2 hw hlen
   rw [e]
   generalize mergeE (sortE (l.take (l.length / 2))) (sortE (l.drop (l.length / 2))) = R at c3
   refine Au hT Tryz.func77 Tryz.ntmps77 [.tmp 2] fun B => ?_
   repeat' first | refine kz ?_ | refine Ao ?_ | refine Aa (c1) ?_ | refine Aa (c2) ?_ | refine Ae [] (c3) ?_ | refine kg ?_ ?_ | exact k0 | refine Ab ?_
   all_goals rfl
theorem YN : HC 76 [.c .emp] [] (.tup [.c .emp, .c (.d (.lit (.int .i64 0)))]) [] := by
 refine Au hT Tryz.func76 Tryz.ntmps76 [.tmp 2, .tmp 3] fun B => ?_
 repeat' first | refine kz ?_ | refine kg ?_ ?_ | exact k0 | fail
 refine AK (X := Nat) ([2, 3, 4] ++ List.range' 8 13) (fun x => x = 0) (fun x lz => (4, (iC x)) :: lz) (fun x => []) (fun x => 0) (0) ?_ ?_ ?_ ?_
 repeat' first | exact k0 | refine kw ?_ | omega
 all_goals try rfl
 rintro i c rfl
 repeat' first | refine kz ?_ | refine kg ?_ ?_ | exact k0 | fail
theorem YO (l : List Entry) (h : (AU l).2 = 0) : HC 76 [.c (.arr 0 0 l.length)] [.arr 0 56 2 (l.map Entry.d)] (.tup [.c (.arr 0 0 l.length), .c (.d (.lit (.int .i64 0)))]) [.arr 0 56 2 (l.map Entry.d)] := by
 have hl : l.length ≤ 4096 := by
  unfold AU at h
  split at h
  ·cases h
  ·omega
 have j9 : ∀ e ∈ l, AD e.count = true := by
  unfold AU at h
  rw [if_neg (by omega)] at h
  split at h
  ·rename_i h1; exact Eg.1 h1
  ·cases h
 clear h
 refine Au hT Tryz.func76 Tryz.ntmps76 [.tmp 2, .tmp 3] fun B => ?_
 repeat' first | refine kz ?_ | refine kg ?_ ?_ | exact k0 | refine Ab ?_
 refine AK (X := Nat) ([2, 3, 4] ++ List.range' 8 13) (fun x => x ≤ l.length) (fun x lz => (4, (iC x)) :: lz) (fun x => [.arr 0 56 2 (l.map Entry.d)]) (fun x => l.length - x) (0) ?_ ?_ ?_ ?_
 repeat' first | exact k0 | refine kw ?_ | omega
 rintro i c hi
 by_cases i7 : i < l.length
 ·have hv : l[i]? = some l[i] := Bo i7
  have hc := Dy l[i].count
  rw [j9 _ (Fo i7)] at hc
  generalize l[i] = e at hv hc
  have jN : (l.map Entry.d)[i]? = some e.d := by rw [BU, hv]; rfl
  repeat' first | refine kz ?_ | refine AF jN ?_ | refine Ao ?_ | refine Aa (hc) ?_ | refine kg ?_ ?_ | exact k0 | refine Ab ?_
  apply Af (i + 1) <;> (try dsimp only) <;> try repeat' first | exact k0 | refine kw ?_ | omega
 ·obtain rfl : i = l.length := by omega
  repeat' first | refine kz ?_ | refine kg ?_ ?_ | exact k0 | refine Ab ?_
theorem YP (l : List Entry) (h : L7 l = true) (hi : l.all Bb = true) : HC 33 [.c (.d (Ak l))] [] (.tup [.c .emp, .c (.d (.lit (.int .i64 0)))]) [] := by
 have hlen : l.length ≤ 1 := by
  match l, h with
  | [], _ => simp
  | [e], _ => simp
 have hs := YL l h
 have hf := YN
 have j9 := Eg.1 hi
 refine Au hT Tryz.func33 Tryz.ntmps33 [.tmp 2, .tmp 3] fun B => ?_
 repeat' first | refine kz ?_ | refine Ao ?_ | refine kg ?_ ?_ | exact k0 | fail
 refine AK (X := Nat) (List.range' 2 25) (fun x => x ≤ l.length) (fun x lz => (4, (iC x)) :: lz) (fun x => []) (fun x => l.length - x) (0) ?_ ?_ ?_ ?_
 repeat' first | exact k0 | refine kw ?_ | omega
 rintro i c hi
 by_cases i7 : i < l.length
 ·have hv : l[i]? = some l[i] := Bo i7
  have hq := j9 _ (Fo i7)
  generalize l[i] = e at hv hq
  simp only [Bb, BM] at hq
  have h1 := CY e.row
  have h2 := Dy e.count
  rw [hq.1] at h1
  rw [hq.2] at h2
  repeat' first | refine kz ?_ | refine AF hv ?_ | refine Ao ?_ | refine Aa (h1) ?_ | refine Aa (h2) ?_ | refine kg ?_ ?_ | exact k0 | fail
  apply Af (i + 1) <;> (try dsimp only) <;> try repeat' first | exact k0 | refine kw ?_ | omega
 ·repeat' first | refine kz ?_ | refine Ao ?_ | refine Ae [] (hs) ?_ | refine Ae [] (hf) ?_ | refine kg ?_ ?_ | exact k0 | fail
theorem YQ (l : List Entry) (h : L7 l = false) (hi : (Bh l).2 = 0) (hlen : l.length ≤ 1000000) : HC 33 [.c (.d (Ak l))] [] (.tup [.c (.arr 0 1 (Bh l).1.length), .c (.d (.lit (.int .i64 0)))]) [.arr 1 56 2 ((Bh l).1.map Entry.d)] := by
 have j9 : ∀ e ∈ l, Bb e = true := by
  unfold Bh at hi
  split at hi
  ·rename_i h1; exact Eg.1 h1
  ·cases hi
 have hn : Bh l = AU (sortE l) := by unfold Bh; rw [if_pos (Eg.2 j9)]
 rw [hn] at hi ⊢
 have hw : Ba 262144 l := fun e he => by
  have := j9 e he
  simp [Bb, AD] at this
  omega
 have hs := YM l h hlen hw
 have hf := YO (sortE l) hi
 have qp : (AU (sortE l)).1 = sortE l := by
  unfold AU at hi ⊢
  split
  ·rename_i h1; rw [if_pos h1] at hi; cases hi
  ·rename_i h1
   rw [if_neg h1] at hi
   split
   ·rfl
   ·rename_i h2; rw [if_neg h2] at hi; cases hi
 rw [qp]
 clear hn hi hw qp h
 generalize sortE l = R at hs hf
 refine Au hT Tryz.func33 Tryz.ntmps33 [.tmp 2, .tmp 3] fun B => ?_
 repeat' first | refine kz ?_ | refine Ao ?_ | refine kg ?_ ?_ | exact k0 | refine Ab ?_
 refine AK (X := Nat) (List.range' 2 25) (fun x => x ≤ l.length) (fun x lz => (4, (iC x)) :: lz) (fun x => []) (fun x => l.length - x) (0) ?_ ?_ ?_ ?_
 repeat' first | exact k0 | refine kw ?_ | omega
 rintro i c hi
 by_cases i7 : i < l.length
 ·have hv : l[i]? = some l[i] := Bo i7
  have hq := j9 _ (Fo i7)
  generalize l[i] = e at hv hq
  simp only [Bb, BM] at hq
  have h1 := CY e.row
  have h2 := Dy e.count
  rw [hq.1] at h1
  rw [hq.2] at h2
  repeat' first | refine kz ?_ | refine AF hv ?_ | refine Ao ?_ | refine Aa (h1) ?_ | refine Aa (h2) ?_ | refine kg ?_ ?_ | exact k0 | refine Ab ?_
  apply Af (i + 1) <;> (try dsimp only) <;> try repeat' first | exact k0 | refine kw ?_ | omega
 ·repeat' first | refine kz ?_ | refine Ao ?_ | refine Ae [] (hs) ?_ | refine Ae [0] (hf) ?_ | refine kg ?_ ?_ | exact k0 | refine Ab ?_
end Go.Proofs.YtmpgmjlanngkfaaGreat
end
