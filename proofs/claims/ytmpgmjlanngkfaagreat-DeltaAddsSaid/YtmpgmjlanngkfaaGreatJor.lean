/-
  Algebra: the joiner's sums are those of the document's join. Plain, no program.
-/
import Derived.Test.YtmpgmjlanngkfaaGreatJoq
import Derived.Test.YtmpgmjlanngkfaaGreatRek
section
namespace Go.Proofs.YtmpgmjlanngkfaaGreat
open Go.Abs Go.RowKit
set_option linter.unusedSimpArgs false
set_option maxRecDepth 100000
variable {a b : List Entry}
theorem Uo {a b : ByteArray} (h : a.toList = b.toList) : a = b := by
 rw [ByteArray.toList_eq, ByteArray.toList_eq] at h
 cases a; cases b
 simpa using h
theorem N6 {a b : Val} : CJ a b = true ↔ a = b := by
 refine ⟨fun h => ?_, fun h => by rw [h]; exact E8 _⟩
 simp only [CJ, Bi, beq_iff_eq] at h
 obtain ⟨h1, h2, h3⟩ := h
 have := Uo h3
 cases a; cases b; simp_all
def Ff (b : List Entry) (on : List (Int × Int)) (u : Entry) : Option E3 := match DA u.row (on.map Prod.fst) with
 | none => none
 | some key => if Cz b (on.map Prod.snd) key = [] then none else some (BK u, Cz b (on.map Prod.snd) key)
def CZ (a b : List Entry) (on : List (Int × Int)) : List E3 := a.filterMap (Ff b on)
theorem Mg (b : List Entry) (on : List (Int × Int)) : ∀ (a : List Entry) (q : JS), FK b on a q = Gd (CZ a b on) q
 | [], q => rfl
 | u :: a, q => by
   rw [FK, CO, CZ, ZS, Ff]
   cases hk : DA u.row (on.map Prod.fst) with
   | none => simp only; exact Mg b on a q
   | some key =>
     simp only
     by_cases hp : Cz b (on.map Prod.snd) key = []
     ·rw [if_pos hp, if_pos hp]; exact Mg b on a q
     ·rw [if_neg hp, if_neg hp]
      simp only [Gd, Qy]
      have ih := Mg b on a
      unfold CZ at ih
      show (match (match closeE (Al u.row) q.1.reverse q.2.1 q.2.2 with | none => none | some (st', s', r') => _) with | none => none | some q' => FK b on a q') = (match (match closeE (Al u.row) q.1.reverse q.2.1 q.2.2 with | none => none | some (st', s', r') => _) with | none => none | some q' => Gd (List.filterMap (Ff b on) a) q')
      cases closeE (Al u.row) q.1.reverse q.2.1 q.2.2 with
      | none => rfl
      | some z => exact ih _
theorem YO (a b : List Entry) (on : List (Int × Int)) : N3 a b on = Po (CZ a b on) := by
 unfold N3 Po
 rewrite [Mg]
 rfl
theorem FL (a : Val) (r : List Val) : Al (a :: r) = AL a.clean ++ Al r := by simp [Al]
theorem Eo (r s : List Val) : Al (r ++ s) = Al r ++ Al s := by simp [Al]
theorem GC : ∀ {r s : List Val}, Al r <+: Al s → r.map Val.clean <+: s.map Val.clean
 | [], s, _ => List.nil_prefix
 | a :: r, [], h => by
   rw [FL] at h
   have hl := h.length_le
   have hne : 0 < (AL a.clean).length := Zw.2 (FY a.clean)
   rw [CP, show (Al []).length = 0 from rfl] at hl
   omega
 | a :: r, b :: s, h => by
   obtain ⟨t, h⟩ := h
   rw [FL, FL, GR] at h
   obtain ⟨q1, q2⟩ := JI (AR a) (AR b) h
   obtain ⟨z, hz⟩ := GC ⟨t, q2⟩
   exact ⟨z, by rw [List.map_cons, List.map_cons, q1, ← hz]; rfl⟩
theorem N7 {r s : List Val} (h : r.map Val.clean <+: s.map Val.clean) : Al r <+: Al s := by
 obtain ⟨t, h⟩ := h
 rw [← Dv r, ← Dv s, ← h, Eo]
 exact bQ ..
theorem Up : ∀ {r s : List Val}, r.map Val.clean <+: s.map Val.clean → ¬ Ai s r < 0
 | [], s, _ => by cases s <;> simp [Ai]
 | a :: r, [], h => by simp at h
 | a :: r, b :: s, h => by
   rw [List.map_cons, List.map_cons, List.cons_prefix_cons] at h
   rw [Ai, if_pos ((cmp_ok.zero b a).2 h.1.symm)]
   exact Up h.2
theorem N8 : ∀ {r s t : List Val}, r.map Val.clean <+: t.map Val.clean → Ai r s < 0 → Ai s t < 0 → r.map Val.clean <+: s.map Val.clean
 | [], s, t, _, _, _ => List.nil_prefix
 | a :: r, [], t, _, h, _ => by simp [Ai] at h
 | a :: r, b :: s, [], _, _, h => by simp [Ai] at h
 | a :: r, b :: s, c :: t, h, h1, h2 => by
   rw [List.map_cons, List.map_cons, List.cons_prefix_cons] at h
   rw [List.map_cons, List.map_cons, List.cons_prefix_cons]
   rw [Ai] at h1 h2
   have hab : a.cmp b = 0 := by
    apply WM
    intro hne
    rw [if_neg hne] at h1
    have h3 := cmp_ok.left h.1 h1
    have h4 := (cmp_ok.anti c b).2
    have h5 := (cmp_ok.anti b c).1 h3
    rw [if_neg (by omega)] at h2
    omega
   have hbc : b.cmp c = 0 := (cmp_ok.zero b c).2 (((cmp_ok.zero a b).1 hab).symm.trans h.1)
   rw [if_pos hab] at h1
   rw [if_pos hbc] at h2
   exact ⟨(cmp_ok.zero a b).1 hab, N8 h.2 h1 h2⟩
theorem H7 {on : List (Int × Int)} {u : Entry} {x : E3} (h : Ff b on u = some x) : ∃ key, DA u.row (on.map Prod.fst) = some key ∧ x = (BK u, Cz b (on.map Prod.snd) key) := by
 unfold Ff at h
 split at h
 ·cases h
 ·rename_i key hk
  split at h
  ·cases h
  ·simp only [Option.some.injEq] at h
   exact ⟨key, hk, h.symm⟩
def SR (x y : E3) : Prop := ∃ u w : List Val, x.1.1 = Al u ∧ y.1.1 = Al w ∧ Ai u w < 0
theorem Uq (b : List Entry) (on : List (Int × Int)) (h : a.Pairwise eR) : (CZ a b on).Pairwise SR := by
 refine h.filterMap (Ff b on) fun u w huw x hx y hy => ?_
 obtain ⟨_, _, rfl⟩ := H7 hx
 obtain ⟨_, _, rfl⟩ := H7 hy
 exact ⟨u.row, w.row, rfl, rfl, huw⟩
theorem RD (b : List Entry) (on : List (Int × Int)) (h : a.Pairwise eR) : InOrd (CZ a b on) := by
 have hS := Uq b on h
 refine ⟨hS.imp fun {x y} hxy q => ?_, fun d x0 t hd x hx y hy hp => ?_⟩
 ·obtain ⟨u, w, h1, h2, h3⟩ := hxy
  rw [h1, h2] at q
  exact Up (GC q) h3
 ·rw [hd] at hS
  obtain ⟨_, g1, g2⟩ := Zu.1 hS
  obtain ⟨u, v, e1, e2, e3⟩ := g2 x hx x0 (by simp)
  obtain ⟨v', w, f1, f2, f3⟩ := (Mr.1 g1).1 y hy
  have hvv : Ai v' w < 0 := f3
  have hvw : Ai v w < 0 := rowCmp_ok.left ((rowCmp_ok.zero _ _).1 (BU.1 (f1.symm.trans e2))) f3
  rw [e1, f2] at hp
  rw [e1, e2]
  exact N7 (N8 (GC hp) e3 hvw)
theorem RE {row : List Val} (h : AD row = true) (col : Int) : (GQ row col).clean = GQ row col := by
 simp only [AD, Bi, CN] at h
 have hn : Val.null.clean = Val.null := by unfold Val.clean; split <;> rfl
 unfold GQ
 split
 ·exact hn
 ·split
  ·rename_i v hv
   rw [Val.clean, if_pos (h.2 v (Cl hv))]
  ·exact hn
theorem GD {row : List Val} (h : AD row = true) : ∀ {cs : List Int} {l : List Val}, BJ row cs = some l → l.map Val.clean = l
 | [], l, hl => by simp [BJ] at hl; subst hl; rfl
 | c :: cs, l, hl => by
   rw [BJ] at hl
   split at hl
   ·cases hl
   ·cases hq : BJ row cs with
    | none => rw [hq] at hl; cases hl
    | some m =>
      rw [hq] at hl
      simp at hl
      subst hl
      rw [List.map_cons, RE h, GD h hq]
theorem Lk (x y : List Val) : ∀ on : List (Int × Int), Dm x y on = true ↔ ∃ l, BJ x (on.map Prod.fst) = some l ∧ BJ y (on.map Prod.snd) = some l
 | [] => by simp [Dm, BJ]
 | p :: on => by
   have ih := Lk x y on
   have e : Dm x y (p :: on) = ((decide ((GQ x p.1).kind ≠ 0) && CJ (GQ x p.1) (GQ y p.2)) && Dm x y on) := by simp [Dm]
   rw [e, Bi, Bi, ih, N6, List.map_cons, List.map_cons, BJ, BJ]
   constructor
   ·rintro ⟨⟨h1, h2⟩, l, h3, h4⟩
    simp only [decide_eq_true_eq] at h1
    rw [← h2, if_neg h1, if_neg h1, h3, h4]
    exact ⟨_, rfl, rfl⟩
   ·rintro ⟨l, h3, h4⟩
    split at h3
    ·cases h3
    ·rename_i hk
     split at h4
     ·cases h4
     ·cases h5 : BJ x (on.map Prod.fst) with
      | none => rw [h5] at h3; cases h3
      | some m =>
        cases h6 : BJ y (on.map Prod.snd) with
        | none => rw [h6] at h4; cases h4
        | some m' =>
          rw [h5] at h3
          rw [h6] at h4
          simp only [Option.map_some, Option.some.injEq] at h3 h4
          rw [← h4] at h3
          injection h3 with q1 q2
          exact ⟨⟨by simpa using hk, q1⟩, m, rfl, by rw [q2]⟩
theorem JY {x y : List Val} (hx : AD x = true) (hy : AD y = true) (on : List (Int × Int)) : Dm x y on = true ↔ ∃ k, DA x (on.map Prod.fst) = some k ∧ DA y (on.map Prod.snd) = some k := by
 rw [Lk]
 unfold DA
 constructor
 ·rintro ⟨l, h1, h2⟩
  exact ⟨Al l, by rw [h1]; rfl, by rw [h2]; rfl⟩
 ·rintro ⟨k, h1, h2⟩
  cases h3 : BJ x (on.map Prod.fst) with
  | none => rw [h3] at h1; cases h1
  | some l =>
    cases h4 : BJ y (on.map Prod.snd) with
    | none => rw [h4] at h2; cases h2
    | some m =>
      rw [h3] at h1
      rw [h4] at h2
      simp only [Option.map_some, Option.some.injEq] at h1 h2
      have := EZ (h1.trans h2.symm)
      rw [GD hx h3, GD hy h4] at this
      exact ⟨l, rfl, by rw [this]⟩
theorem Qz (u : Entry) (on2 : List Int) (key : Bs) (r : List Val) : ∀ b : List Entry, T1 (BK u) (Cz b on2 key) (Al r) = A1 ((b.filter fun y => decide (DA y.row on2 = some key)).map (Hm u)) r
 | [] => rfl
 | y :: b => by
   have ih := Qz u on2 key r b
   unfold Cz at ih ⊢
   rw [ZS, WQ]
   by_cases h : DA y.row on2 = some key
   ·rw [if_pos h, if_pos (by simpa using h)]
    simp only [T1, List.map_cons, Sm, A1] at ih ⊢
    rw [ih]
    have he : ((BK u).1 ++ (BK y).1 = Al r) ↔ Ai (Hm u y).row r = 0 := by
     show Al u.row ++ Al y.row = Al r ↔ Ai (u.row ++ y.row) r = 0
     rw [← Eo, BU]
    by_cases hq : Ai (Hm u y).row r = 0
    ·rw [if_pos hq, if_pos (he.2 hq)]; rfl
    ·rw [if_neg hq, if_neg (fun z => hq (he.1 z))]
   ·rw [if_neg h, if_neg (by simpa using h)]
    exact ih
theorem RF (on : List (Int × Int)) (ha : ∀ e ∈ a, AD e.row = true) (hb : ∀ e ∈ b, AD e.row = true) (r : List Val) : TT (CZ a b on) (Al r) = A1 (A3 a b on) r := by
 induction a with
 | nil => rfl
 | cons u a ih =>
   have ih := ih (fun e he => ha e (by simp [he]))
   have hu := ha u (by simp)
   have e1 : A3 (u :: a) b on = C1 u b on ++ A3 a b on := by simp [A3]
   rw [e1, CB, ← ih]
   unfold CZ
   rw [ZS]
   cases hk : DA u.row (on.map Prod.fst) with
   | none =>
     have hp : C1 u b on = [] := by
      unfold C1
      rw [List.filter_eq_nil_iff.2]
      ·rfl
      ·intro y hy hm
       obtain ⟨k, h1, _⟩ := (JY hu (hb y hy) on).1 hm
       rw [hk] at h1; cases h1
     rw [hp]
     have hi : Ff b on u = none := by unfold Ff; rw [hk]
     rw [hi]
     simp [A1]
   | some key =>
     have hp : C1 u b on = (b.filter fun y => decide (DA y.row (on.map Prod.snd) = some key)).map (Hm u) := by
      unfold C1
      congr 1
      apply List.filter_congr
      intro y hy
      rw [U3, JY hu (hb y hy), decide_eq_true_eq]
      constructor
      ·rintro ⟨k, h1, h2⟩
       rw [hk] at h1
       simp only [Option.some.injEq] at h1
       rw [h1]; exact h2
      ·intro h; exact ⟨key, hk, h⟩
     rw [hp, ← Qz]
     by_cases hpe : Cz b (on.map Prod.snd) key = []
     ·have hi : Ff b on u = none := by unfold Ff; rw [hk]; simp only; rw [if_pos hpe]
      rw [hi, hpe]
      simp [T1]
     ·have hi : Ff b on u = some (BK u, Cz b (on.map Prod.snd) key) := by unfold Ff; rw [hk]; simp only; rw [if_neg hpe]
      rw [hi]
      simp [TT]
theorem RG {on : List (Int × Int)} {c : Bs} (h : TT (CZ a b on) c ≠ 0) : ∃ u ∈ a, ∃ y ∈ b, c = Al (u.row ++ y.row) := by
 have hG : GG (CZ a b on) c := by
  apply WM
  intro hn
  apply h
  unfold TT
  have : ∀ l : List E3, ¬ GG l c → (l.map fun x => T1 x.1 x.2 c).sum = 0 := by
   intro l
   induction l with
   | nil => intro _; rfl
   | cons x l ih =>
     intro hl
     have h1 : ¬ G1 x.1 x.2 c := fun q => hl ⟨x, by simp, q⟩
     have h2 : ¬ GG l c := fun ⟨y, hy, q⟩ => hl ⟨y, by simp [hy], q⟩
     have h3 : T1 x.1 x.2 c = 0 := by
      unfold T1
      have : ∀ ps : List (Bs × Int), (∀ y ∈ ps, x.1.1 ++ y.1 ≠ c) → (ps.map fun y => if x.1.1 ++ y.1 = c then x.1.2 * y.2 else 0).sum = 0 := by
       intro ps
       induction ps with
       | nil => intro _; rfl
       | cons y ps ih2 => intro hps; rw [List.map_cons, Sm, ih2 (fun z hz => hps z (by simp [hz])), if_neg (hps y (by simp))]; rfl
      exact this _ fun y hy q => h1 ⟨y, hy, q⟩
     rw [List.map_cons, Sm, ih h2, h3]; rfl
  exact this _ hn
 obtain ⟨x, hx, y, hy, hc⟩ := hG
 obtain ⟨u, hu, hi⟩ := List.mem_filterMap.1 hx
 obtain ⟨key, _, rfl⟩ := H7 hi
 obtain ⟨z, hz, rfl, _⟩ := H4 hy
 exact ⟨u, hu, z, hz, by rw [Eo]; exact hc.symm⟩
theorem Ll {α : Type} [DecidableEq α] : ∀ {l m : List α}, l.Nodup → (∀ x ∈ l, x ∈ m) → l.length ≤ m.length
 | [], m, _, _ => Nat.zero_le _
 | x :: l, m, h, hs => by
   obtain ⟨h1, h2⟩ := ZD.1 h
   have hx := hs x (by simp)
   have := Ll (l := l) (m := m.erase x) h2 fun y hy => (List.mem_erase_of_ne (by rintro rfl; exact h1 hy)).2 (hs y (by simp [hy]))
   rw [List.length_erase_of_mem hx] at this
   have hpos := List.length_pos_of_mem hx
   rw [List.length_cons]; omega
theorem Ur {α β : Type} {f : α → β} {P : α → Prop} : ∀ {l : List β}, (∀ y ∈ l, ∃ x, f x = y ∧ P x) → ∃ xs : List α, xs.map f = l ∧ ∀ x ∈ xs, P x
 | [], _ => ⟨[], rfl, by simp⟩
 | y :: l, h => by
   obtain ⟨x, hx, hp⟩ := h y (by simp)
   obtain ⟨xs, h1, h2⟩ := Ur (l := l) (fun z hz => h z (by simp [hz]))
   exact ⟨x :: xs, by rw [List.map_cons, hx, h1], fun z hz => by
    rcases Fb.1 hz with rfl | hz
    ·exact hp
    ·exact h2 z hz⟩
theorem N9 : ∀ {l : List E3} {q q' : JS}, Gd l q = some q' → q.2.2.length ≤ 4096 → q'.2.2.length ≤ 4096
 | [], q, q', h, hq => by simp only [Gd, Option.some.injEq] at h; subst h; exact hq
 | x :: l, q, q', h, hq => by
   rw [Gd, Qy] at h
   cases hc : closeE x.1.1 q.1.reverse q.2.1 q.2.2 with
   | none => rw [hc] at h; cases h
   | some z =>
     obtain ⟨st', s', r'⟩ := z
     rw [hc] at h
     exact N9 h (CY hc hq).2.2.2
theorem Us {l : List E3} {r : List (Bs × Int)} (h : Po l = some r) : r.length ≤ 4096 := by
 unfold Po at h
 cases hq : Gd l ([], [], []) with
 | none => rw [hq] at h; cases h
 | some q =>
   rw [hq] at h
   simp only at h
   cases hc : closeE [] q.1.reverse q.2.1 q.2.2 with
   | none => rw [hc] at h; cases h
   | some z =>
     obtain ⟨st', s', r'⟩ := z
     rw [hc] at h
     simp only [Option.some.injEq] at h
     subst h
     exact (CY hc (N9 hq (by simp))).2.2.2
theorem Oa (ha : ∀ e ∈ a, AD e.row = true ∧ e.row.length ≤ 8 ∧ e.count ≠ 0) (hb : ∀ e ∈ b, AD e.row = true ∧ e.row.length ≤ 8 ∧ e.count ≠ 0) {u y : Entry} (hu : u ∈ a) (hy : y ∈ b) : AD (u.row ++ y.row) = true ∧ u.count * y.count ≠ 0 := by
 obtain ⟨h1, h2, h3⟩ := ha u hu
 obtain ⟨h4, h5, h6⟩ := hb y hy
 simp only [AD, Bi, decide_eq_true_eq] at h1 h4 ⊢
 refine ⟨⟨by simp; omega, by rw [List.all_append, h1.2, h4.2]; rfl⟩, fun q => ?_⟩
 rcases Int.mul_eq_zero.1 q with q | q
 ·exact h3 q
 ·exact h6 q
theorem RH (l : List Entry) : (l.all fun e => decide (-262144 ≤ e.count ∧ e.count ≤ 262144)) = l.all fun e => Av e.count := by
 congr 1
 funext e
 simp [Av]
theorem RI (on : List (Int × Int)) (ha : Ca a = true) (hb : Ca b = true) :
   match N3 a b on with
   | none => E7 (sumR (A3 a b on)) = ([], 8)
   | some r => ∃ rs : List Entry, r = rs.map BK ∧ (∀ e ∈ rs, AD e.row = true) ∧ E7 (sumR (A3 a b on)) = if rs.all (fun e => Av e.count) then (sortF Dn rs, 0) else ([], 9) := by
 obtain ⟨_, am⟩ := E6 ha
 obtain ⟨_, bm⟩ := E6 hb
 have am1 : ∀ e ∈ a, AD e.row = true ∧ e.row.length ≤ 8 ∧ e.count ≠ 0 := fun e he => ⟨(am e he).1, (am e he).2.2⟩
 have bm1 : ∀ e ∈ b, AD e.row = true ∧ e.row.length ≤ 8 ∧ e.count ≠ 0 := fun e he => ⟨(bm e he).1, (bm e he).2.2⟩
 have hva : Aj a = true := by unfold Ca at ha; simp only [Bi] at ha; exact ha.2
 have hO := RD b on (AY hva).up
 have hsum := RF on (fun e he => (am e he).1) (fun e he => (bm e he).1)
 have hpc : ∀ e ∈ A3 a b on, AD e.row = true ∧ e.count ≠ 0 := fun e he => by
   obtain ⟨x, hx, y, hy, _, rfl⟩ := Ib he
   exact Oa am1 bm1 hx hy
 have hsr := Ls (A3 a b on) fun e he => (hpc e he).2
 obtain ⟨s1, s2⟩ := BX (A3 a b on) fun e he => A8 (hpc e he).1
 have hrow : ∀ r : List (Bs × Int), Pn (TT (CZ a b on)) r → ∃ rs : List Entry, rs.map BK = r ∧ ∀ e ∈ rs, AD e.row = true ∧ e.count ≠ 0 ∧ A1 (A3 a b on) e.row = e.count := fun r hr => by
   refine Ur fun e he => ?_
   obtain ⟨h1, h2⟩ := hr.2 e he
   obtain ⟨u, hu, y, hy, hc⟩ := RG (h1 ▸ h2)
   refine ⟨⟨u.row ++ y.row, e.2⟩, ?_, (Oa am1 bm1 hu hy).1, h2, ?_⟩
   · show (Al (u.row ++ y.row), e.2) = e
     rw [← hc]
   · rw [← hsum, ← hc, ← h1]
 have hF := RC hO
 rw [YO]
 cases hq : Po (CZ a b on) with
 | none =>
   rw [hq] at hF
   obtain ⟨r, hl, hr⟩ := hF
   obtain ⟨rs, h1, h2⟩ := hrow r hr
   have hle : r.length ≤ (sortE (A3 a b on)).length := by
     have := Ll (l := r.map Prod.fst) (m := (sortE (A3 a b on)).map fun e => Al e.row) hr.1 fun c hc => by
      rw [← h1, Ve] at hc
      obtain ⟨e, he, rfl⟩ := List.mem_map.1 hc
      obtain ⟨_, q2, q3⟩ := h2 e he
      rw [← s2] at q3
      obtain ⟨x, hx, hz⟩ := I3 (l := sortE (A3 a b on)) (r := e.row) (by rw [q3]; exact q2)
      exact List.mem_map.2 ⟨x, hx, BU.2 hz⟩
     simpa using this
   simp only
   unfold E7
   rw [hsr, if_pos (by omega)]
 | some r =>
   rw [hq] at hF
   obtain ⟨hr, hall⟩ := hF
   obtain ⟨rs, h1, h2⟩ := hrow r hr
   have hap : apart rs := by
     have hn := hr.1
     rw [← h1, Ve] at hn
     unfold apart
     rw [List.nodup_iff_pairwise_ne, XQ] at hn
     exact hn.imp fun {x y} q z => q (BU.2 z)
   have hsu : ∀ ρ, A1 rs ρ = A1 (A3 a b on) ρ := fun ρ => by
     by_cases hex : ∃ e ∈ rs, Ai e.row ρ = 0
     ·obtain ⟨e, he, hz⟩ := hex
      rw [DZ hap he hz, ← (h2 e he).2.2, ← hsum, ← hsum, BU.2 hz]
     ·rw [Ig fun e he z => hex ⟨e, he, z⟩]
      apply WM
      intro hne
      rw [← hsum] at hne
      have hm := hall _ (fun z => hne z.symm)
      rw [← h1] at hm
      obtain ⟨e, he, hee⟩ := List.mem_map.1 hm
      exact hex ⟨e, he, BU.1 (congrArg Prod.fst hee)⟩
   have hso := J9 (fun e he => A8 (hpc e he).1) hap (fun e he => (h2 e he).2.1) (fun e he => A8 (h2 e he).1) hsu
   have hperm := BG entCmp_ok.swo rs
   refine ⟨rs, h1.symm, fun e he => (h2 e he).1, ?_⟩
   have hlen := Us hq
   rw [← h1, BQ] at hlen
   unfold E7
   rw [hsr, ← hso, if_neg (by rw [hperm.length_eq]; omega), RH, hperm.all_eq]
end Go.Proofs.YtmpgmjlanngkfaaGreat
end
