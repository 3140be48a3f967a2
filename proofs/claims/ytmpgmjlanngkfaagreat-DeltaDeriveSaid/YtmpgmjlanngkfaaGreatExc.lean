/-
  Expressions: which lists of terms are valid.
-/
import Derived.Test.YtmpgmjlanngkfaaGreatExa
import Derived.Test.YtmpgmjlanngkfaaGreatAlc
import Derived.Test.YtmpgmjlanngkfaaGreatTyB
section
namespace Go.Proofs.YtmpgmjlanngkfaaGreat
open Go.Abs Go.RowKit
set_option linter.unusedSimpArgs false
set_option maxRecDepth 100000
def Br (b : Bool) : Val := Val.ofInt (if b then 1 else 0)
def OE (v : Val) : Bool := decide (v.kind = 1) && decide (v.int ≠ 0)
def RZ (v : Val) : Bool := decide (v.kind = 1) && decide (v.int = 0)
def Nv (a b : Val) : Val := if RZ a || RZ b then Br false else if OE a && OE b then Br true else Val.null
def Wr (a b : Val) : Val := if OE a || OE b then Br true else if RZ a && RZ b then Br false else Val.null
def IY (op : Int) (a b c : Val) : Val :=
 if op = 14 then Nv a b else if op = 15 then Wr a b
 else if op = 16 then Br (decide (a.kind = 0)) else if op = 17 then (if a.kind = 0 then b else a)
 else if OE a then b else c
def B5 (op : Int) (a b : Val) : Val :=
 if a.kind ≠ 2 then Val.null else if op = 9 then Val.ofInt a.text.size
 else if op = 8 ∧ b.kind = 2 then Val.ofText (a.text ++ b.text)
 else if op = 10 ∧ b.kind = 1 ∧ 0 ≤ b.int then Val.ofText (a.text.extract 0 (min b.int a.text.size).toNat)
 else Val.null
def EM (op : Int) (a b : Val) : Val :=
 if a.kind = 0 ∨ a.kind ≠ b.kind then Val.null else if op = 11 then Br (a.same b) else Br (decide (a.cmp b < 0))
def FU (a b : Int) : Int := if a.tmod b ≠ 0 ∧ decide (a < 0) ≠ decide (b < 0) then a.tdiv b - 1 else a.tdiv b
def GB (a b : Int) : Val := if b = 0 then Val.null else Val.ofInt (FU a b)
def GX (op : Int) (a b : Val) : Val :=
 if a.kind ≠ 1 ∨ b.kind ≠ 1 then Val.null
 else if op = 3 then Val.ofInt (-a.int) else if op = 13 then Br (decide (a.int = 0))
 else if op = 4 then Val.ofInt (a.int + b.int) else if op = 5 then Val.ofInt (a.int - b.int)
 else if op = 6 then Val.ofInt (a.int * b.int) else GB a.int b.int
def Dm (op : Int) (a b c : Val) : Val :=
 if op = 14 ∨ op = 15 ∨ op = 16 ∨ op = 17 ∨ op = 18 then IY op a b c
 else if op = 8 ∨ op = 9 ∨ op = 10 then B5 op a b
 else if op = 11 ∨ op = 12 then EM op a b
 else if op = 3 ∨ op = 13 then GX op a a
 else GX op a b
def EN (vs : List Val) (i : Nat) : Val := vs.getD i Val.null
def Te (t : Trm) (row vs : List Val) : Val :=
 if t.op = 1 then t.v else if t.op = 2 then (EH row t.col).clean else Dm t.op (EN vs 0) (EN vs 1) (EN vs 2)
theorem Ej (n : Int) : (Val.ofInt n).valid = true := AR _
theorem LT (s : ByteArray) : (Val.ofText s).valid = true := AR _
theorem Hv : Val.null.valid = true := by decide +kernel
attribute [local irreducible] Val.ofInt Val.ofText Val.valid
theorem OY (op : Int) {a b c : Val} (ha : a.valid = true) (hb : b.valid = true) (hc : c.valid = true) : (IY op a b c).valid = true := by
 unfold IY Nv Wr Br
 repeat' split
 all_goals first | assumption | exact Ej _ | exact Hv
theorem OZ (op : Int) (a b : Val) : (B5 op a b).valid = true := by
 unfold B5
 repeat' split
 all_goals first | exact Ej _ | exact LT _ | exact Hv
theorem O0 (op : Int) (a b : Val) : (EM op a b).valid = true := by
 unfold EM Br
 repeat' split
 all_goals first | exact Ej _ | exact Hv
theorem KS (op : Int) (a b : Val) : (GX op a b).valid = true := by
 unfold GX GB Br
 repeat' split
 all_goals first | exact Ej _ | exact Hv
theorem Q0 (op : Int) {a b c : Val} (ha : a.valid = true) (hb : b.valid = true) (hc : c.valid = true) : (Dm op a b c).valid = true := by
 unfold Dm
 split
 ·exact OY _ ha hb hc
 split
 ·exact OZ _ _ _
 split
 ·exact O0 _ _ _
 split
 ·exact KS _ _ _
 ·exact KS _ _ _
theorem C7 {vs : List Val} (h : ∀ v ∈ vs, v.valid = true) (i : Nat) : (EN vs i).valid = true := by
 unfold EN
 rw [List.getD_eq_getElem?_getD]
 cases hq : vs[i]? with
 | none => exact Hv
 | some v => exact h v (List.mem_of_getElem? hq)
def FC : List Nat → Nat
 | [] => 0
 | a :: l => max a (FC l)
theorem Q1 (l : List Nat) (a : Nat) : FC (l ++ [a]) = max (FC l) a := by
 induction l with
 | nil => simp [FC]
 | cons b l ih => simp only [List.cons_append, FC, ih]; omega
theorem Tf {l : List Nat} {a : Nat} (h : a ∈ l) : a ≤ FC l := by
 induction l with
 | nil => cases h
 | cons b l ih =>
   simp only [FC]
   rcases List.mem_cons.1 h with rfl | h
   ·omega
   ·have := ih h; omega
theorem Vo {l : List Nat} {n : Nat} (h : ∀ a ∈ l, a ≤ n) : FC l ≤ n := by
 induction l with
 | nil => exact Nat.zero_le _
 | cons b l ih =>
   have h1 := ih fun a ha => h a (by simp [ha])
   have h2 := h b (by simp)
   simp only [FC]; omega
def Bj {α : Type} (p : List Trm → Option (α × List Trm)) : Nat → List Trm → Option (List α × List Trm)
 | 0, l => some ([], l)
 | k + 1, l => match p l with
   | none => none
   | some (a, r) => match Bj p k r with
     | none => none
     | some (zs, r') => some (a :: zs, r')
def AP (row : List Val) : Nat → List Trm → Option ((Nat × Val) × List Trm)
 | 0, _ => none
 | _ + 1, [] => none
 | n + 1, t :: l => if CD t then match Bj (AP row n) (D6 t.op).toNat l with
    | none => none
    | some (xs, r) => some ((1 + FC (xs.map Prod.fst), Te t row (xs.map Prod.snd)), r)
   else none
theorem Ic {α : Type} (p : List Trm → Option (α × List Trm)) : ∀ (k : Nat) (l : List Trm), Bj p (k + 1) l = match Bj p k l with
   | none => none
   | some (zs, r) => match p r with
     | none => none
     | some (a, r') => some (zs ++ [a], r')
 | 0, l => by
   simp only [Bj]
   cases p l with
   | none => rfl
   | some q => rfl
 | k + 1, l => by
   rw [Bj, Bj]
   cases p l with
   | none => rfl
   | some q =>
     obtain ⟨a, r⟩ := q
     simp only
     rw [Ic p k r]
     cases Bj p k r with
     | none => rfl
     | some q' =>
       obtain ⟨zs, r'⟩ := q'
       simp only
       cases p r' with
       | none => rfl
       | some q'' => rfl
theorem Id {α : Type} {p : List Trm → Option (α × List Trm)} {k : Nat} {l r r' : List Trm} {zs : List α} {a : α} (h : Bj p k l = some (zs, r)) (h2 : p r = some (a, r')) : Bj p (k + 1) l = some (zs ++ [a], r') := by
 rw [Ic, h]; simp only; rw [h2]
theorem Gi {α : Type} {p : List Trm → Option (α × List Trm)} {i : Nat} {l r : List Trm} {zs : List α} (h : Bj p i l = some (zs, r)) (h2 : p r = none) : ∀ k, i < k → Bj p k l = none
 | 0, hk => absurd hk (Nat.not_lt_zero _)
 | k + 1, hk => by
   rw [Ic]
   by_cases hq : i = k
   ·subst hq
    rw [h]; simp only; rw [h2]
   ·rw [Gi h h2 k (by omega)]
theorem FV {α : Type} {p : List Trm → Option (α × List Trm)} : ∀ {k : Nat} {l r : List Trm} {zs : List α}, Bj p k l = some (zs, r) → zs.length = k
 | 0, l, r, zs, h => by simp only [Bj, Option.some.injEq, Prod.mk.injEq] at h; rw [← h.1]; rfl
 | k + 1, l, r, zs, h => by
   rw [Bj] at h
   cases hp : p l with
   | none => rw [hp] at h; cases h
   | some q =>
     obtain ⟨a, r1⟩ := q
     rw [hp] at h; simp only at h
     cases hs : Bj p k r1 with
     | none => rw [hs] at h; cases h
     | some q' =>
       obtain ⟨zs', r2⟩ := q'
       rw [hs] at h
       simp only [Option.some.injEq, Prod.mk.injEq] at h
       rw [← h.1, List.length_cons, FV hs]
inductive All2 {α β : Type} (R : α → β → Prop) : List α → List β → Prop
 | nil : All2 R [] []
 | cons {a : α} {b : β} {l : List α} {m : List β} (h : R a b) (t : All2 R l m) : All2 R (a :: l) (b :: m)
theorem Hw {α : Type} {p : List Trm → Option (α × List Trm)} {Q : List Trm → α → Prop} (hp : ∀ l a r, p l = some (a, r) → ∃ s, l = s ++ r ∧ Q s a) : ∀ {k : Nat} {l r : List Trm} {zs : List α}, Bj p k l = some (zs, r) → ∃ ss : List (List Trm), l = ss.flatten ++ r ∧ ss.length = k ∧ ∀ (i : Nat) (s : List Trm) (a : α), ss[i]? = some s → zs[i]? = some a → Q s a
 | 0, l, r, zs, h => by
   simp only [Bj, Option.some.injEq, Prod.mk.injEq] at h
   exact ⟨[], by simp [h.2], rfl, fun i s a hs => by simp at hs⟩
 | k + 1, l, r, zs, h => by
   rw [Bj] at h
   cases hq : p l with
   | none => rw [hq] at h; cases h
   | some q =>
     obtain ⟨a, r1⟩ := q
     rw [hq] at h; simp only at h
     cases hs : Bj p k r1 with
     | none => rw [hs] at h; cases h
     | some q' =>
       obtain ⟨zs', r2⟩ := q'
       rw [hs] at h
       simp only [Option.some.injEq, Prod.mk.injEq] at h
       obtain ⟨rfl, rfl⟩ := h
       obtain ⟨s, h1, h2⟩ := hp l a r1 hq
       obtain ⟨ss, h3, h4, h5⟩ := Hw hp hs
       refine ⟨s :: ss, by rw [h1, h3]; simp, by simp [h4], fun i s' a' hs' ha' => ?_⟩
       cases i with
       | zero => simp at hs' ha'; subst hs'; subst ha'; exact h2
       | succ i => simp at hs' ha'; exact h5 i s' a' hs' ha'
theorem Nw {α β : Type} {p : List Trm → Option (α × List Trm)} {q : List Trm → Option (β × List Trm)} {R : α → β → Prop} (h : ∀ l a r, p l = some (a, r) → ∃ b, q l = some (b, r) ∧ R a b) : ∀ {k : Nat} {l r : List Trm} {zs : List α}, Bj p k l = some (zs, r) → ∃ bs, Bj q k l = some (bs, r) ∧ All2 R zs bs
 | 0, l, r, zs, hh => by
   simp only [Bj, Option.some.injEq, Prod.mk.injEq] at hh
   obtain ⟨rfl, rfl⟩ := hh
   exact ⟨[], rfl, .nil⟩
 | k + 1, l, r, zs, hh => by
   rw [Bj] at hh
   cases hq : p l with
   | none => rw [hq] at hh; cases hh
   | some x =>
     obtain ⟨a, r1⟩ := x
     rw [hq] at hh; simp only at hh
     cases hs : Bj p k r1 with
     | none => rw [hs] at hh; cases hh
     | some x' =>
       obtain ⟨zs', r2⟩ := x'
       rw [hs] at hh
       simp only [Option.some.injEq, Prod.mk.injEq] at hh
       obtain ⟨rfl, rfl⟩ := hh
       obtain ⟨b, h1, h2⟩ := h l a r1 hq
       obtain ⟨bs, h3, h4⟩ := Nw h hs
       exact ⟨b :: bs, by rw [Bj, h1]; simp only; rw [h3], .cons h2 h4⟩
theorem CE {row : List Val} {n : Nat} {l : List Trm} {x : (Nat × Val) × List Trm} (h : AP row n l = some x) : ∃ (m : Nat) (t : Trm) (l' : List Trm) (xs : List (Nat × Val)), n = m + 1 ∧ l = t :: l' ∧ CD t = true ∧ Bj (AP row m) (D6 t.op).toNat l' = some (xs, x.2) ∧ x.1 = (1 + FC (xs.map Prod.fst), Te t row (xs.map Prod.snd)) := by
 cases n with
 | zero => cases h
 | succ n =>
   cases l with
   | nil => cases h
   | cons t l =>
     rw [AP] at h
     split at h
     ·rename_i ht
      cases hs : Bj (AP row n) (D6 t.op).toNat l with
      | none => rw [hs] at h; cases h
      | some q =>
        obtain ⟨xs, r⟩ := q
        rw [hs] at h
        simp only [Option.some.injEq] at h
        subst h
        exact ⟨n, t, l, xs, rfl, rfl, ht, hs, rfl⟩
     ·cases h
theorem FW {row : List Val} {n : Nat} {t : Trm} {l r : List Trm} {xs : List (Nat × Val)} (ht : CD t = true) (h : Bj (AP row n) (D6 t.op).toNat l = some (xs, r)) : AP row (n + 1) (t :: l) = some ((1 + FC (xs.map Prod.fst), Te t row (xs.map Prod.snd)), r) := by
 rw [AP, if_pos ht, h]
theorem Nx {row : List Val} {n : Nat} {t : Trm} {l : List Trm} (h : Bj (AP row n) (D6 t.op).toNat l = none) : AP row (n + 1) (t :: l) = none := by
 rw [AP, h]
 split <;> rfl
theorem KT {row : List Val} {n : Nat} {t : Trm} {l : List Trm} (ht : CD t = false) : AP row n (t :: l) = none := by
 cases n with
 | zero => rfl
 | succ n => rw [AP, ht]; rfl
theorem DR (row : List Val) : ∀ (n : Nat) (l : List Trm) (x : Nat × Val) (r : List Trm), AP row n l = some (x, r) → ∃ s, l = s ++ r ∧ (0 < s.length ∧ ∀ r', AP row n (s ++ r') = some (x, r'))
 | 0, l, x, r, h => by cases h
 | n + 1, l, x, r, h => by
   obtain ⟨m, t, l', xs, hm, rfl, ht, hs, hx⟩ := CE h
   obtain rfl : n = m := by omega
   have key : ∀ (k : Nat) (l r : List Trm) (zs : List (Nat × Val)), Bj (AP row n) k l = some (zs, r) → ∃ s, l = s ++ r ∧ ∀ r', Bj (AP row n) k (s ++ r') = some (zs, r') := by
    intro k
    induction k with
    | zero =>
      intro l r zs h
      simp only [Bj, Option.some.injEq, Prod.mk.injEq] at h
      obtain ⟨rfl, rfl⟩ := h
      exact ⟨[], rfl, fun r' => rfl⟩
    | succ k ih =>
      intro l r zs h
      rw [Bj] at h
      cases hq : AP row n l with
      | none => rw [hq] at h; cases h
      | some q =>
        obtain ⟨a, r1⟩ := q
        rw [hq] at h; simp only at h
        cases hk : Bj (AP row n) k r1 with
        | none => rw [hk] at h; cases h
        | some q' =>
          obtain ⟨zs', r2⟩ := q'
          rw [hk] at h
          simp only [Option.some.injEq, Prod.mk.injEq] at h
          obtain ⟨rfl, rfl⟩ := h
          obtain ⟨s1, e1, -, f1⟩ := DR row n l a r1 hq
          obtain ⟨s2, e2, f2⟩ := ih r1 r2 zs' hk
          refine ⟨s1 ++ s2, by rw [e1, e2, List.append_assoc], fun r' => ?_⟩
          rw [List.append_assoc, Bj, f1]
          simp only
          rw [f2]
   obtain ⟨s, e, f⟩ := key _ _ _ _ hs
   refine ⟨t :: s, by rw [e]; rfl, by simp, fun r' => ?_⟩
   rw [List.cons_append, FW ht (f r')]
   simp only at hx
   rw [hx]
theorem EO {row : List Val} {n : Nat} {l r : List Trm} {x : Nat × Val} (h : AP row n l = some (x, r)) : ∃ k, 0 < k ∧ k ≤ l.length ∧ r = l.drop k := by
 obtain ⟨s, rfl, h1, _⟩ := DR row n l x r h
 exact ⟨s.length, h1, by simp, by simp⟩
theorem BK (row : List Val) : ∀ (n : Nat) (l : List Trm) (x : Nat × Val) (r : List Trm), AP row n l = some (x, r) → x.2.valid = true ∧ 1 ≤ x.1 ∧ x.1 ≤ n
 | 0, l, x, r, h => by cases h
 | n + 1, l, x, r, h => by
   obtain ⟨m, t, l', xs, hm, rfl, ht, hs, hx⟩ := CE h
   obtain rfl : n = m := by omega
   obtain ⟨ss, _, h2, h3⟩ := Hw (Q := fun _ a => a.2.valid = true ∧ 1 ≤ a.1 ∧ a.1 ≤ n) (fun l a r hh => by
    obtain ⟨s, e, _⟩ := DR row n l a r hh
    exact ⟨s, e, BK row n l a r hh⟩) hs
   have hl := FV hs
   have hall : ∀ a ∈ xs, a.2.valid = true ∧ 1 ≤ a.1 ∧ a.1 ≤ n := fun a ha => by
    obtain ⟨i, hi, rfl⟩ := List.mem_iff_getElem.1 ha
    exact h3 i ss[i] _ (List.getElem?_eq_getElem (by omega)) (List.getElem?_eq_getElem hi)
   simp only at hx
   rw [hx]
   refine ⟨?_, by simp only; omega, ?_⟩
   ·simp only
    unfold Te
    split
    ·rename_i h1
     simp only [CD, CS, h1, if_true, Bool.and_eq_true] at ht
     exact ht.2.2
    ·split
     ·exact AR _
     ·have hv : ∀ v ∈ xs.map Prod.snd, v.valid = true := fun v hv => by
       obtain ⟨a, ha, rfl⟩ := List.mem_map.1 hv
       exact (hall a ha).1
      exact Q0 _ (C7 hv 0) (C7 hv 1) (C7 hv 2)
   ·simp only
    have := Vo (n := n) (l := xs.map Prod.fst) fun a ha => by
     obtain ⟨b, hb, rfl⟩ := List.mem_map.1 ha
     exact (hall b hb).2.2
    omega
theorem O1 {zs bs : List (Nat × Val)} (h : All2 (fun a b => a.1 = b.1) zs bs) : zs.map Prod.fst = bs.map Prod.fst := by
 induction h with
 | nil => rfl
 | cons h _ ih => rw [List.map_cons, List.map_cons, h, ih]
theorem Gj (row row' : List Val) : ∀ (n : Nat) (l : List Trm) (x : Nat × Val) (r : List Trm), AP row n l = some (x, r) → ∃ y, AP row' n l = some (y, r) ∧ x.1 = y.1
 | 0, l, x, r, h => by cases h
 | n + 1, l, x, r, h => by
   obtain ⟨m, t, l', xs, hm, rfl, ht, hs, hx⟩ := CE h
   obtain rfl : n = m := by omega
   obtain ⟨ys, h1, h2⟩ := Nw (q := AP row' n) (R := fun a b => a.1 = b.1) (fun l a r hh => Gj row row' n l a r hh) hs
   refine ⟨_, FW ht h1, ?_⟩
   simp only at hx
   rw [hx, O1 h2]
theorem D7 (row : List Val) : ∀ (n : Nat) (l : List Trm) (x : Nat × Val) (r : List Trm), AP row n l = some (x, r) → ∀ m, x.1 ≤ m → AP row m l = some (x, r)
 | 0, l, x, r, h => by cases h
 | n + 1, l, x, r, h => by
   intro m hm'
   obtain ⟨n', t, l', xs, hm, rfl, ht, hs, hx⟩ := CE h
   obtain rfl : n = n' := by omega
   simp only at hx
   rw [hx] at hm' ⊢
   cases m with
   | zero => simp only at hm'; omega
   | succ m =>
     have hin : ∀ a ∈ xs, a.1 ≤ m := fun a ha => by
      have := Tf (List.mem_map_of_mem (f := Prod.fst) ha)
      simp only at hm'; omega
     have key : ∀ (k : Nat) (l r : List Trm) (zs : List (Nat × Val)), (∀ a ∈ zs, a.1 ≤ m) → Bj (AP row n) k l = some (zs, r) → Bj (AP row m) k l = some (zs, r) := by
      intro k
      induction k with
      | zero => intro l r zs _ h; exact h
      | succ k ih =>
        intro l r zs hin h
        rw [Bj] at h
        cases hq : AP row n l with
        | none => rw [hq] at h; cases h
        | some q =>
          obtain ⟨a, r1⟩ := q
          rw [hq] at h; simp only at h
          cases hk : Bj (AP row n) k r1 with
          | none => rw [hk] at h; cases h
          | some q' =>
            obtain ⟨zs', r2⟩ := q'
            rw [hk] at h
            simp only [Option.some.injEq, Prod.mk.injEq] at h
            obtain ⟨rfl, rfl⟩ := h
            rw [Bj, D7 row n l a r1 hq m (hin a (by simp))]
            simp only
            rw [ih r1 r2 zs' (fun b hb => hin b (by simp [hb])) hk]
     rw [FW ht (key _ _ _ _ hin hs)]
theorem Ie (row : List Val) : ∀ (n : Nat) (l : List Trm) (x : Nat × Val) (r : List Trm), AP row n l = some (x, r) → x.1 + r.length ≤ l.length
 | 0, l, x, r, h => by cases h
 | n + 1, l, x, r, h => by
   obtain ⟨m, t, l', xs, hm, rfl, ht, hs, hx⟩ := CE h
   obtain rfl : n = m := by omega
   have key : ∀ (k : Nat) (l r : List Trm) (zs : List (Nat × Val)), Bj (AP row n) k l = some (zs, r) → FC (zs.map Prod.fst) + r.length ≤ l.length := by
    intro k
    induction k with
    | zero =>
      intro l r zs h
      simp only [Bj, Option.some.injEq, Prod.mk.injEq] at h
      obtain ⟨rfl, rfl⟩ := h
      simp [FC]
    | succ k ih =>
      intro l r zs h
      rw [Bj] at h
      cases hq : AP row n l with
      | none => rw [hq] at h; cases h
      | some q =>
        obtain ⟨a, r1⟩ := q
        rw [hq] at h; simp only at h
        cases hk : Bj (AP row n) k r1 with
        | none => rw [hk] at h; cases h
        | some q' =>
          obtain ⟨zs', r2⟩ := q'
          rw [hk] at h
          simp only [Option.some.injEq, Prod.mk.injEq] at h
          obtain ⟨rfl, rfl⟩ := h
          have h1 := Ie row n l a r1 hq
          have h2 := ih r1 r2 zs' hk
          simp only [List.map_cons, FC]; omega
   have := key _ _ _ _ hs
   simp only at hx this
   rw [hx, List.length_cons]
   simp only; omega
def Cc (e : List Trm) : Bool := decide (e.length ≤ 64) && match AP [] 16 e with
 | some (_, []) => true
 | _ => false
def Ek (e : List Trm) (row : List Val) : Val := if e.length ≤ 64 then match AP row 16 e with
 | some (x, []) => x.2
 | _ => Val.null
 else Val.null
def E9 (e : List Trm) (row : List Val) : Bool := OE (Ek e row)
theorem C8 (e : List Trm) (row : List Val) : Cc e = true ↔ e.length ≤ 64 ∧ ∃ x, AP row 16 e = some (x, []) := by
 unfold Cc
 rw [Bool.and_eq_true, decide_eq_true_eq]
 constructor
 ·rintro ⟨h1, h2⟩
  refine ⟨h1, ?_⟩
  cases hq : AP [] 16 e with
  | none => rw [hq] at h2; cases h2
  | some q =>
    obtain ⟨x, r⟩ := q
    rw [hq] at h2
    cases r with
    | nil =>
      obtain ⟨y, hy, _⟩ := Gj [] row 16 e x [] hq
      exact ⟨y, hy⟩
    | cons a l => cases h2
 ·rintro ⟨h1, x, hx⟩
  refine ⟨h1, ?_⟩
  obtain ⟨y, hy, _⟩ := Gj row [] 16 e x [] hx
  rw [hy]
theorem Tg {e : List Trm} {row : List Val} {x : Nat × Val} (h : Cc e = true) (hx : AP row 16 e = some (x, [])) : Ek e row = x.2 := by
 rw [Ek, if_pos ((C8 e row).1 h).1, hx]
theorem Th {e : List Trm} {row : List Val} (h : Cc e = false) : Ek e row = Val.null := by
 unfold Ek
 split
 ·rename_i hl
  cases hq : AP row 16 e with
  | none => rfl
  | some q =>
    obtain ⟨x, r⟩ := q
    cases r with
    | nil => rw [(C8 e row).2 ⟨hl, x, hq⟩] at h; cases h
    | cons a l => rfl
 ·rfl
theorem Gk (e : List Trm) (row : List Val) : (Ek e row).valid = true := by
 unfold Ek
 split
 ·cases hq : AP row 16 e with
  | none => exact Hv
  | some q =>
    obtain ⟨x, r⟩ := q
    cases r with
    | nil => exact (BK row 16 e x [] hq).1
    | cons a l => exact Hv
 ·exact Hv
end Go.Proofs.YtmpgmjlanngkfaaGreat
end
section
namespace Go.Proofs.YtmpgmjlanngkfaaGreat
open Go.Abs Go.RowKit
attribute [local irreducible] ARun At MCall PCall HCall Am SF CF CFs Ah Aj Ar fin AW VLe
set_option linter.unusedSimpArgs false
set_option maxRecDepth 100000
set_option maxHeartbeats 4000000
theorem Fa : DeferOk Tryz.prog 154 0 := by
 refine ⟨⟨_, Tryz.func154, by kernel_rfl, by kernel_rfl⟩, fun vs w hl => ?_⟩
 match vs, hl with
 | [], _ =>
   refine callsD_of_wpS Tryz.func154 rfl fun c₀ cs hu => ?_
   apply wpS_region
   simp [wpOpsS, go_sem, recoverD, hu, Tryz.ntmps154, Exit.thenS]
   cases c₀
   simp_all [bodyPostS, results, Tryz.results154]
def Dn (e : List Trm) (pos n : Nat) : Nat × Nat := match AP [] n (e.drop pos) with
 | none => (0, pos)
 | some (x, r) => (x.1, e.length - r.length)
theorem Q2 (e : List Trm) (hl : e.length ≤ 100000) : ∀ (n pos : Nat), n ≤ 200000 → pos ≤ e.length → e.length - pos < n → PCall Tryz.prog 155 [.one (AK e), .one (.lit (.int .i64 pos))] (.tup [.one (.lit (.int .i64 (Dn e pos n).1)), .one (.lit (.int .i64 (Dn e pos n).2))]) := by
 intro n
 induction n with
 | zero => intro pos _ _ h; omega
 | succ n ih =>
   intro pos hn2 hp hn
   by_cases hlt : pos < e.length
   ·have hv : e[pos]? = some e[pos] := List.getElem?_eq_getElem hlt
    generalize e[pos] = t at hv
    have hd : e.drop pos = t :: e.drop (pos + 1) := AD hv
    have h1 := Nu t
    cases ht : CD t with
    | false =>
      rw [ht] at h1
      have hm : Dn e pos (n + 1) = (0, pos) := by rw [Dn, hd, KT ht]
      rw [hm]
      dsimp only
      clear ih
      refine Ac hT Tryz.func155 Tryz.ntmps155 [.tmp 4, .tmp 5] fun B => ?_
      repeat' (first | refine kz ?_ | refine kx hv ?_ | refine ki ?_ | refine Aa (h1) ?_ | refine kf ?_ | refine kg ?_ ?_ | fail)
      all_goals rfl
    | true =>
      rw [ht] at h1
      have h0 : 0 ≤ D6 t.op := by
       simp only [CD, Bool.and_eq_true, decide_eq_true_eq] at ht
       exact ht.1
      have h3 := (Hu t.op).2
      obtain ⟨k, hk⟩ := Int.eq_ofNat_of_zero_le h0
      have h2 := LS t.op
      have hmk : ∀ {xs r}, Bj (AP [] n) k (e.drop (pos + 1)) = some (xs, r) → Dn e pos (n + 1) = (1 + FC (xs.map Prod.fst), e.length - r.length) := fun {xs r} hs => by
       rw [Dn, hd, FW ht (by rw [hk]; exact hs)]
      have hno : Bj (AP [] n) k (e.drop (pos + 1)) = none → Dn e pos (n + 1) = (0, pos) := fun hs => by
       rw [Dn, hd, Nx (by rw [hk]; exact hs)]
      rw [hk] at h2
      clear hd ht h0
      refine Ac hT Tryz.func155 Tryz.ntmps155 [.tmp 4, .tmp 5] fun B => ?_
      repeat' (first | refine kz ?_ | refine kx hv ?_ | refine ki ?_ | refine Aa (h1) ?_ | refine Aa (h2) ?_ | refine kf ?_ | refine kg ?_ ?_ | fail)
      refine AO (X := Nat × Nat × Nat) [4, 5, 6, 7, 8, 9, 31, 32, 33, 34, 35, 36, 37, 38, 39, 40, 41, 42, 43, 44, 45, 46] (fun x => x.1 ≤ k ∧ pos + 1 ≤ x.2.2 ∧ x.2.2 ≤ e.length ∧ ∃ xs, Bj (AP [] n) x.1 (e.drop (pos + 1)) = some (xs, e.drop x.2.2) ∧ x.2.1 = FC (xs.map Prod.fst) ∧ x.2.1 ≤ n) (fun x lz => (6, (.c (.d (.lit (.int .i64 x.2.1))))) :: (7, (.c (.d (.lit (.int .i64 x.2.2))))) :: (31, (.c (.d (.lit (.int .i64 x.1))))) :: lz) (fun x => []) (fun x => k - x.1) ((0, 0, pos + 1)) ?_ ?_ ?_ ?_
      repeat' (first | exact k0 | refine kw ?_ | omega)
      ·dsimp only; exact ⟨by omega, by omega, by omega, [], rfl, rfl, by omega⟩
      rintro ⟨i, dp, en⟩ c ⟨hi, he1, he2, xs, hs, hdp, hdn⟩
      dsimp only at hi he1 he2 hs hdp hdn ⊢
      by_cases hik : i < k
      ·have hc := ih en (by omega) he2 (by omega)
       cases hq : AP [] n (e.drop en) with
       | none =>
         have hm : Dn e en n = (0, en) := by rw [Dn, hq]
         rw [hm] at hc
         rw [hno (Gi hs hq k hik)]
         dsimp only at hc ⊢
         clear ih hmk hno
         repeat' (first | refine kz ?_ | refine kx hv ?_ | refine ki ?_ | refine Aa (hc) ?_ | refine kf ?_ | refine kg ?_ ?_ | fail)
         all_goals rfl
       | some q =>
         obtain ⟨y, r⟩ := q
         obtain ⟨j, hj1, hj2, hj3⟩ := EO hq
         rw [List.length_drop] at hj2
         rw [List.drop_drop] at hj3
         obtain ⟨-, hy1, hy2⟩ := BK [] n _ y r hq
         have hm : Dn e en n = (y.1, en + j) := by
           rw [Dn, hq]
           simp only [hj3, List.length_drop]
           congr 1
           omega
         rw [hm] at hc
         rw [hj3] at hq
         have hs' := Id hs hq
         have hd' : max dp y.1 = FC ((xs ++ [y]).map Prod.fst) := by rw [List.map_append, List.map_cons, List.map_nil, Q1, hdp]
         dsimp only at hc
         clear ih hmk hno hm hq hs hdp
         generalize xs ++ [y] = xs' at hs' hd'
         generalize y.1 = dy at hc hy1 hy2 hd'
         repeat' (first | refine kz ?_ | refine kx hv ?_ | refine ki ?_ | refine Aa (hc) ?_ | refine kf ?_ | refine kg ?_ ?_ | fail)
         (apply Ae ((i + 1, max dp dy, en + j)); all_goals (try dsimp only); all_goals (try (repeat' (first | exact k0 | refine kw ?_ | omega))))
         · exact ⟨by omega, by omega, by omega, xs', hs', hd', by omega⟩
      ·obtain rfl : i = k := by omega
       rw [hmk hs, List.length_drop, ← hdp]
       dsimp only
       clear ih hmk hno
       repeat' (first | refine kz ?_ | refine kx hv ?_ | refine ki ?_ | refine kf ?_ | refine kg ?_ ?_ | fail)
       all_goals (refine congrArg Dat.lit (congrArg (Value.int _) ?_); omega)
   ·have hm : Dn e pos (n + 1) = (0, pos) := by rw [Dn, List.drop_eq_nil_of_le (by omega)]; rfl
    rw [hm]
    dsimp only
    clear ih
    refine Ac hT Tryz.func155 Tryz.ntmps155 [.tmp 4, .tmp 5] fun B => ?_
    repeat' (first | refine kz ?_ | refine ki ?_ | refine kf ?_ | refine kg ?_ ?_ | fail)
    all_goals rfl
theorem Ny (e : List Trm) : PCall Tryz.prog 107 [.one (AK e)] (.v (.one (.lit (.bool (Cc e))))) := by
 by_cases hl : 64 < e.length
 · have h0 : Cc e = false := by rw [Cc, decide_eq_false (by omega), Bool.false_and]
   rw [h0]
   refine Ac hT Tryz.func107 Tryz.ntmps107 [.tmp 2] fun B => ?_
   repeat' (first | refine kz ?_ | refine kf ?_ | refine Ai rfl rfl (fun hb => ?_) (fun hb => ?_) | refine A4 (by repeat (first | exact Af | refine Aq Fa ?_)) ?_)
   all_goals rfl
 have hc : PCall Tryz.prog 155 [.one (AK e), .one (.lit (.int .i64 0))] (.tup [.one (.lit (.int .i64 (Dn e 0 (e.length + 1)).1)), .one (.lit (.int .i64 (Dn e 0 (e.length + 1)).2))]) := Q2 e (by omega) (e.length + 1) 0 (by omega) (by omega) (by omega)
 rw [Dn, List.drop_zero] at hc
 cases hq : AP [] (e.length + 1) e with
 | none =>
   have h0 : Cc e = false := by
    rw [Bool.eq_false_iff]
    intro hh
    obtain ⟨_, x, hx⟩ := (C8 e []).1 hh
    have hd := Ie [] 16 e x [] hx
    rw [List.length_nil] at hd
    rw [D7 [] 16 e x [] hx (e.length + 1) (by omega)] at hq
    cases hq
   rw [hq] at hc
   rw [h0]
   dsimp only at hc
   refine Ac hT Tryz.func107 Tryz.ntmps107 [.tmp 2] fun B => ?_
   repeat' (first | refine kz ?_ | refine Aa (hc) ?_ | refine kf ?_ | refine Ai rfl rfl (fun hb => ?_) (fun hb => ?_) | refine A4 (by repeat (first | exact Af | refine Aq Fa ?_)) ?_)
   all_goals rfl
 | some q =>
   obtain ⟨y, r⟩ := q
   obtain ⟨-, hy1, -⟩ := BK [] _ _ y r hq
   obtain ⟨j, hj1, hj2, hj3⟩ := EO hq
   rw [hq] at hc
   dsimp only at hc
   have hrl : r.length ≤ e.length := by rw [hj3, List.length_drop]; omega
   have h0 : Cc e = (decide (y.1 ≤ 16) && decide (r.length = 0)) := by
    rw [Bool.eq_iff_iff, C8 e [], Bool.and_eq_true, decide_eq_true_eq, decide_eq_true_eq]
    constructor
    ·rintro ⟨_, x, hx⟩
     have hd := Ie [] 16 e x [] hx
     rw [List.length_nil] at hd
     rw [D7 [] 16 e x [] hx (e.length + 1) (by omega)] at hq
     simp only [Option.some.injEq, Prod.mk.injEq] at hq
     obtain ⟨rfl, rfl⟩ := hq
     exact ⟨(BK [] 16 e x [] hx).2.2, rfl⟩
    ·rintro ⟨h1, h2⟩
     obtain rfl := List.length_eq_zero_iff.1 h2
     exact ⟨by omega, y, D7 [] _ e y [] hq 16 h1⟩
   rw [h0]
   have hyl : y.1 ≤ e.length + 1 := (BK [] _ _ y r hq).2.2
   clear h0 hj3 hq
   generalize y.1 = dy at *
   generalize r.length = rl at *
   refine Ac hT Tryz.func107 Tryz.ntmps107 [.tmp 2] fun B => ?_
   repeat' (first | refine kz ?_ | refine Aa (hc) ?_ | refine kf ?_ | refine Ai rfl rfl (fun hb => ?_) (fun hb => ?_) | refine A4 (by repeat (first | exact Af | refine Aq Fa ?_)) ?_)
   all_goals (refine congrArg Dat.lit (congrArg Value.bool ?_); rw [Bool.eq_iff_iff]; simp; omega)
end Go.Proofs.YtmpgmjlanngkfaaGreat
end
