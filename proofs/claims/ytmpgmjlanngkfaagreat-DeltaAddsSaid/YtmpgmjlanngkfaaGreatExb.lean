/-
  Expressions: what a list of terms means for a row, in plain terms.
-/
import Derived.Test.YtmpgmjlanngkfaaGreatPos
import Derived.Test.YtmpgmjlanngkfaaGreatAlc
import Derived.Test.YtmpgmjlanngkfaaGreatAgp
section
namespace Go.Proofs.YtmpgmjlanngkfaaGreat
open Go.Abs Go.RowKit
set_option linter.unusedSimpArgs false
set_option maxRecDepth 100000
set_option maxHeartbeats 4000000
variable {l r : List Trm} {n : Nat} {row : List Val} {t : Trm}
def BV (b : Bool) : Val := Val.ofInt (if b then 1 else 0)
def Sk (v : Val) : Bool := decide (v.kind = 1) && decide (v.int ≠ 0)
def U9 (v : Val) : Bool := decide (v.kind = 1) && decide (v.int = 0)
def V4 (a b : Val) : Val := if U9 a || U9 b then BV false else if Sk a && Sk b then BV true else Val.null
def bV (a b : Val) : Val := if Sk a || Sk b then BV true else if U9 a && U9 b then BV false else Val.null
def Rk (op : Int) (a b c : Val) : Val :=
 if op = 14 then V4 a b else if op = 15 then bV a b
 else if op = 16 then BV (decide (a.kind = 0)) else if op = 17 then (if a.kind = 0 then b else a)
 else if Sk a then b else c
def FF (op : Int) (a b : Val) : Val :=
 if a.kind ≠ 2 then Val.null else if op = 9 then Val.ofInt a.text.size
 else if op = 8 ∧ b.kind = 2 then Val.ofText (a.text ++ b.text)
 else if op = 10 ∧ b.kind = 1 ∧ 0 ≤ b.int then Val.ofText (a.text.extract 0 (min b.int a.text.size).toNat)
 else Val.null
def KA (op : Int) (a b : Val) : Val :=
 if a.kind = 0 ∨ a.kind ≠ b.kind then Val.null else if op = 11 then BV (a.same b) else BV (decide (a.cmp b < 0))
def K6 (a b : Int) : Int := if a.tmod b ≠ 0 ∧ decide (a < 0) ≠ decide (b < 0) then a.tdiv b - 1 else a.tdiv b
def JJ (a b : Int) : Val := if b = 0 then Val.null else Val.ofInt (K6 a b)
def Va (op : Int) (a b : Val) : Val :=
 if a.kind ≠ 1 ∨ b.kind ≠ 1 then Val.null
 else if op = 3 then Val.ofInt (-a.int) else if op = 13 then BV (decide (a.int = 0))
 else if op = 4 then Val.ofInt (a.int + b.int) else if op = 5 then Val.ofInt (a.int - b.int)
 else if op = 6 then Val.ofInt (a.int * b.int) else JJ a.int b.int
def Rl (op : Int) (a b c : Val) : Val :=
 if op = 14 ∨ op = 15 ∨ op = 16 ∨ op = 17 ∨ op = 18 then Rk op a b c
 else if op = 8 ∨ op = 9 ∨ op = 10 then FF op a b
 else if op = 11 ∨ op = 12 then KA op a b
 else if op = 3 ∨ op = 13 then Va op a a
 else Va op a b
def JK (vs : List Val) (i : Nat) : Val := vs.getD i Val.null
def ZH (t : Trm) (row vs : List Val) : Val :=
 if t.op = 1 then t.v else if t.op = 2 then (GQ row t.col).clean else Rl t.op (JK vs 0) (JK vs 1) (JK vs 2)
theorem D9 (n : Int) : (Val.ofInt n).valid = true := AR _
theorem Mb (s : ByteArray) : (Val.ofText s).valid = true := AR _
theorem FG : Val.null.valid = true := by decide +kernel
attribute [local irreducible] Val.ofInt Val.ofText Val.valid
theorem O8 (op : Int) {a b c : Val} (ha : a.valid = true) (hb : b.valid = true) (hc : c.valid = true) : (Rk op a b c).valid = true := by
 unfold Rk V4 bV BV
 repeat' split
 all_goals first | assumption | exact D9 _ | exact FG
theorem O9 (op : Int) (a b : Val) : (FF op a b).valid = true := by
 unfold FF
 repeat' split
 all_goals first | exact D9 _ | exact Mb _ | exact FG
theorem Pa (op : Int) (a b : Val) : (KA op a b).valid = true := by
 unfold KA BV
 repeat' split
 all_goals first | exact D9 _ | exact FG
theorem K7 (op : Int) (a b : Val) : (Va op a b).valid = true := by
 unfold Va JJ BV
 repeat' split
 all_goals first | exact D9 _ | exact FG
theorem Rm (op : Int) {a b c : Val} (ha : a.valid = true) (hb : b.valid = true) (hc : c.valid = true) : (Rl op a b c).valid = true := by
 unfold Rl
 split
 ·exact O8 _ ha hb hc
 split
 ·exact O9 _ _ _
 split
 ·exact Pa _ _ _
 split
 ·exact K7 _ _ _
 ·exact K7 _ _ _
theorem CV {vs : List Val} (h : ∀ v ∈ vs, v.valid = true) (i : Nat) : (JK vs i).valid = true := by
 unfold JK
 rw [PI]
 cases hq : vs[i]? with
 | none => exact FG
 | some v => exact h v (Cl hq)
def Fk : List Nat → Nat
 | [] => 0
 | a :: l => max a (Fk l)
theorem Rn (l : List Nat) (a : Nat) : Fk (l ++ [a]) = max (Fk l) a := by
 induction l with
 | nil => simp [Fk]
 | cons b l ih => simp only [List.cons_append, Fk, ih]; omega
theorem TR {l : List Nat} {a : Nat} (h : a ∈ l) : a ≤ Fk l := by
 induction l with
 | nil => cases h
 | cons b l ih =>
   simp only [Fk]
   rcases Fb.1 h with rfl | h
   ·omega
   ·have := ih h; omega
theorem V5 {l : List Nat} (h : ∀ a ∈ l, a ≤ n) : Fk l ≤ n := by
 induction l with
 | nil => exact Nat.zero_le _
 | cons b l ih =>
   have h1 := ih fun a ha => h a (by simp [ha])
   have h2 := h b (by simp)
   simp only [Fk]; omega
def Bn {α : Type} (p : List Trm → Option (α × List Trm)) : Nat → List Trm → Option (List α × List Trm)
 | 0, l => some ([], l)
 | k + 1, l => match p l with
   | none => none
   | some (a, r) => match Bn p k r with
     | none => none
     | some (zs, r') => some (a :: zs, r')
def AW (row : List Val) : Nat → List Trm → Option ((Nat × Val) × List Trm)
 | 0, _ => none
 | _ + 1, [] => none
 | n + 1, t :: l => if DT t then match Bn (AW row n) (Fj t.op).toNat l with
    | none => none
    | some (xs, r) => some ((1 + Fk (xs.map Prod.fst), ZH t row (xs.map Prod.snd)), r)
   else none
theorem HV {α : Type} (p : List Trm → Option (α × List Trm)) : ∀ (k : Nat) (l : List Trm), Bn p (k + 1) l = match Bn p k l with
   | none => none
   | some (zs, r) => match p r with
     | none => none
     | some (a, r') => some (zs ++ [a], r')
 | 0, l => by
   simp only [Bn]
   cases p l with
   | none => rfl
   | some q => rfl
 | k + 1, l => by
   rw [Bn, Bn]
   cases p l with
   | none => rfl
   | some q =>
     obtain ⟨a, r⟩ := q
     simp only
     rw [HV p k r]
     cases Bn p k r with
     | none => rfl
     | some q' =>
       obtain ⟨zs, r'⟩ := q'
       simp only
       cases p r' with
       | none => rfl
       | some q'' => rfl
theorem K8 {α : Type} {p : List Trm → Option (α × List Trm)} {k : Nat} {r' : List Trm} {zs : List α} {a : α} (h : Bn p k l = some (zs, r)) (h2 : p r = some (a, r')) : Bn p (k + 1) l = some (zs ++ [a], r') := by
 rw [HV, h]; simp only; rw [h2]
theorem HW {α : Type} {p : List Trm → Option (α × List Trm)} {i : Nat} {l r : List Trm} {zs : List α} (h : Bn p i l = some (zs, r)) (h2 : p r = none) : ∀ k, i < k → Bn p k l = none
 | 0, hk => absurd hk (Nat.not_lt_zero _)
 | k + 1, hk => by
   rw [HV]
   by_cases hq : i = k
   ·subst hq
    rw [h]; simp only; rw [h2]
   ·rw [HW h h2 k (by omega)]
theorem Ha {α : Type} {p : List Trm → Option (α × List Trm)} : ∀ {k : Nat} {l r : List Trm} {zs : List α}, Bn p k l = some (zs, r) → zs.length = k
 | 0, l, r, zs, h => by simp only [Bn, Option.some.injEq, Gk] at h; rw [← h.1]; rfl
 | k + 1, l, r, zs, h => by
   rw [Bn] at h
   cases hp : p l with
   | none => rw [hp] at h; cases h
   | some q =>
     obtain ⟨a, r1⟩ := q
     rw [hp] at h; simp only at h
     cases hs : Bn p k r1 with
     | none => rw [hs] at h; cases h
     | some q' =>
       obtain ⟨zs', r2⟩ := q'
       rw [hs] at h
       simp only [Option.some.injEq, Gk] at h
       rw [← h.1, List.length_cons, Ha hs]
inductive All2 {α β : Type} (R : α → β → Prop) : List α → List β → Prop
 | nil : All2 R [] []
 | cons {a : α} {b : β} {l : List α} {m : List β} (h : R a b) (t : All2 R l m) : All2 R (a :: l) (b :: m)
theorem JL {α : Type} {p : List Trm → Option (α × List Trm)} {Q : List Trm → α → Prop} (hp : ∀ l a r, p l = some (a, r) → ∃ s, l = s ++ r ∧ Q s a) : ∀ {k : Nat} {l r : List Trm} {zs : List α}, Bn p k l = some (zs, r) → ∃ ss : List (List Trm), l = ss.flatten ++ r ∧ ss.length = k ∧ ∀ (i : Nat) (s : List Trm) (a : α), ss[i]? = some s → zs[i]? = some a → Q s a
 | 0, l, r, zs, h => by
   simp only [Bn, Option.some.injEq, Gk] at h
   exact ⟨[], by simp [h.2], rfl, fun i s a hs => by simp at hs⟩
 | k + 1, l, r, zs, h => by
   rw [Bn] at h
   cases hq : p l with
   | none => rw [hq] at h; cases h
   | some q =>
     obtain ⟨a, r1⟩ := q
     rw [hq] at h; simp only at h
     cases hs : Bn p k r1 with
     | none => rw [hs] at h; cases h
     | some q' =>
       obtain ⟨zs', r2⟩ := q'
       rw [hs] at h
       simp only [Option.some.injEq, Gk] at h
       obtain ⟨rfl, rfl⟩ := h
       obtain ⟨s, h1, h2⟩ := hp l a r1 hq
       obtain ⟨ss, h3, h4, h5⟩ := JL hp hs
       refine ⟨s :: ss, by rw [h1, h3]; simp, by simp [h4], fun i s' a' hs' ha' => ?_⟩
       cases i with
       | zero => simp at hs' ha'; subst hs'; subst ha'; exact h2
       | succ i => simp at hs' ha'; exact h5 i s' a' hs' ha'
theorem NU {α β : Type} {p : List Trm → Option (α × List Trm)} {q : List Trm → Option (β × List Trm)} {R : α → β → Prop} (h : ∀ l a r, p l = some (a, r) → ∃ b, q l = some (b, r) ∧ R a b) : ∀ {k : Nat} {l r : List Trm} {zs : List α}, Bn p k l = some (zs, r) → ∃ bs, Bn q k l = some (bs, r) ∧ All2 R zs bs
 | 0, l, r, zs, hh => by
   simp only [Bn, Option.some.injEq, Gk] at hh
   obtain ⟨rfl, rfl⟩ := hh
   exact ⟨[], rfl, .nil⟩
 | k + 1, l, r, zs, hh => by
   rw [Bn] at hh
   cases hq : p l with
   | none => rw [hq] at hh; cases hh
   | some x =>
     obtain ⟨a, r1⟩ := x
     rw [hq] at hh; simp only at hh
     cases hs : Bn p k r1 with
     | none => rw [hs] at hh; cases hh
     | some x' =>
       obtain ⟨zs', r2⟩ := x'
       rw [hs] at hh
       simp only [Option.some.injEq, Gk] at hh
       obtain ⟨rfl, rfl⟩ := hh
       obtain ⟨b, h1, h2⟩ := h l a r1 hq
       obtain ⟨bs, h3, h4⟩ := NU h hs
       exact ⟨b :: bs, by rw [Bn, h1]; simp only; rw [h3], .cons h2 h4⟩
theorem CW {x : (Nat × Val) × List Trm} (h : AW row n l = some x) : ∃ (m : Nat) (t : Trm) (l' : List Trm) (xs : List (Nat × Val)), n = m + 1 ∧ l = t :: l' ∧ DT t = true ∧ Bn (AW row m) (Fj t.op).toNat l' = some (xs, x.2) ∧ x.1 = (1 + Fk (xs.map Prod.fst), ZH t row (xs.map Prod.snd)) := by
 cases n with
 | zero => cases h
 | succ n =>
   cases l with
   | nil => cases h
   | cons t l =>
     rw [AW] at h
     split at h
     ·rename_i ht
      cases hs : Bn (AW row n) (Fj t.op).toNat l with
      | none => rw [hs] at h; cases h
      | some q =>
        obtain ⟨xs, r⟩ := q
        rw [hs] at h
        simp only [Option.some.injEq] at h
        subst h
        exact ⟨n, t, l, xs, rfl, rfl, ht, hs, rfl⟩
     ·cases h
theorem Hb {xs : List (Nat × Val)} (ht : DT t = true) (h : Bn (AW row n) (Fj t.op).toNat l = some (xs, r)) : AW row (n + 1) (t :: l) = some ((1 + Fk (xs.map Prod.fst), ZH t row (xs.map Prod.snd)), r) := by
 rw [AW, if_pos ht, h]
theorem TS (h : Bn (AW row n) (Fj t.op).toNat l = none) : AW row (n + 1) (t :: l) = none := by
 rw [AW, h]
 split <;> rfl
theorem Ro (ht : DT t = false) : AW row n (t :: l) = none := by
 cases n with
 | zero => rfl
 | succ n => rw [AW, ht]; rfl
theorem FZ (row : List Val) : ∀ (n : Nat) (l : List Trm) (x : Nat × Val) (r : List Trm), AW row n l = some (x, r) → ∃ s, l = s ++ r ∧ (0 < s.length ∧ ∀ r', AW row n (s ++ r') = some (x, r'))
 | 0, l, x, r, h => by cases h
 | n + 1, l, x, r, h => by
   obtain ⟨m, t, l', xs, hm, rfl, ht, hs, hx⟩ := CW h
   obtain rfl : n = m := by omega
   have key : ∀ (k : Nat) (l r : List Trm) (zs : List (Nat × Val)), Bn (AW row n) k l = some (zs, r) → ∃ s, l = s ++ r ∧ ∀ r', Bn (AW row n) k (s ++ r') = some (zs, r') := by
    intro k
    induction k with
    | zero =>
      intro l r zs h
      simp only [Bn, Option.some.injEq, Gk] at h
      obtain ⟨rfl, rfl⟩ := h
      exact ⟨[], rfl, fun r' => rfl⟩
    | succ k ih =>
      intro l r zs h
      rw [Bn] at h
      cases hq : AW row n l with
      | none => rw [hq] at h; cases h
      | some q =>
        obtain ⟨a, r1⟩ := q
        rw [hq] at h; simp only at h
        cases hk : Bn (AW row n) k r1 with
        | none => rw [hk] at h; cases h
        | some q' =>
          obtain ⟨zs', r2⟩ := q'
          rw [hk] at h
          simp only [Option.some.injEq, Gk] at h
          obtain ⟨rfl, rfl⟩ := h
          obtain ⟨s1, e1, -, f1⟩ := FZ row n l a r1 hq
          obtain ⟨s2, e2, f2⟩ := ih r1 r2 zs' hk
          refine ⟨s1 ++ s2, by rw [e1, e2, GR], fun r' => ?_⟩
          rw [GR, Bn, f1]
          simp only
          rw [f2]
   obtain ⟨s, e, f⟩ := key _ _ _ _ hs
   refine ⟨t :: s, by rw [e]; rfl, by simp, fun r' => ?_⟩
   rw [List.cons_append, Hb ht (f r')]
   simp only at hx
   rw [hx]
theorem HX {x : Nat × Val} (h : AW row n l = some (x, r)) : ∃ k, 0 < k ∧ k ≤ l.length ∧ r = l.drop k := by
 obtain ⟨s, rfl, h1, _⟩ := FZ row n l x r h
 exact ⟨s.length, h1, by simp, by simp⟩
theorem Ci (row : List Val) : ∀ (n : Nat) (l : List Trm) (x : Nat × Val) (r : List Trm), AW row n l = some (x, r) → x.2.valid = true ∧ 1 ≤ x.1 ∧ x.1 ≤ n
 | 0, l, x, r, h => by cases h
 | n + 1, l, x, r, h => by
   obtain ⟨m, t, l', xs, hm, rfl, ht, hs, hx⟩ := CW h
   obtain rfl : n = m := by omega
   obtain ⟨ss, _, h2, h3⟩ := JL (Q := fun _ a => a.2.valid = true ∧ 1 ≤ a.1 ∧ a.1 ≤ n) (fun l a r hh => by
    obtain ⟨s, e, _⟩ := FZ row n l a r hh
    exact ⟨s, e, Ci row n l a r hh⟩) hs
   have hl := Ha hs
   have hall : ∀ a ∈ xs, a.2.valid = true ∧ 1 ≤ a.1 ∧ a.1 ≤ n := fun a ha => by
    obtain ⟨i, hi, rfl⟩ := ZQ.1 ha
    exact h3 i ss[i] _ (Bh (by omega)) (Bh hi)
   simp only at hx
   rw [hx]
   refine ⟨?_, by simp only; omega, ?_⟩
   ·simp only
    unfold ZH
    split
    ·rename_i h1
     simp only [DT, G9, h1, if_true, Bi] at ht
     exact ht.2.2
    ·split
     ·exact AR _
     ·have hv : ∀ v ∈ xs.map Prod.snd, v.valid = true := fun v hv => by
       obtain ⟨a, ha, rfl⟩ := List.mem_map.1 hv
       exact (hall a ha).1
      exact Rm _ (CV hv 0) (CV hv 1) (CV hv 2)
   ·simp only
    have := V5 (n := n) (l := xs.map Prod.fst) fun a ha => by
     obtain ⟨b, hb, rfl⟩ := List.mem_map.1 ha
     exact (hall b hb).2.2
    omega
theorem Pb {zs bs : List (Nat × Val)} (h : All2 (fun a b => a.1 = b.1) zs bs) : zs.map Prod.fst = bs.map Prod.fst := by
 induction h with
 | nil => rfl
 | cons h _ ih => rw [List.map_cons, List.map_cons, h, ih]
theorem HY (row row' : List Val) : ∀ (n : Nat) (l : List Trm) (x : Nat × Val) (r : List Trm), AW row n l = some (x, r) → ∃ y, AW row' n l = some (y, r) ∧ x.1 = y.1
 | 0, l, x, r, h => by cases h
 | n + 1, l, x, r, h => by
   obtain ⟨m, t, l', xs, hm, rfl, ht, hs, hx⟩ := CW h
   obtain rfl : n = m := by omega
   obtain ⟨ys, h1, h2⟩ := NU (q := AW row' n) (R := fun a b => a.1 = b.1) (fun l a r hh => HY row row' n l a r hh) hs
   refine ⟨_, Hb ht h1, ?_⟩
   simp only at hx
   rw [hx, Pb h2]
theorem E0 (row : List Val) : ∀ (n : Nat) (l : List Trm) (x : Nat × Val) (r : List Trm), AW row n l = some (x, r) → ∀ m, x.1 ≤ m → AW row m l = some (x, r)
 | 0, l, x, r, h => by cases h
 | n + 1, l, x, r, h => by
   intro m hm'
   obtain ⟨n', t, l', xs, hm, rfl, ht, hs, hx⟩ := CW h
   obtain rfl : n = n' := by omega
   simp only at hx
   rw [hx] at hm' ⊢
   cases m with
   | zero => simp only at hm'; omega
   | succ m =>
     have hin : ∀ a ∈ xs, a.1 ≤ m := fun a ha => by
      have := TR (Zx (f := Prod.fst) ha)
      simp only at hm'; omega
     have key : ∀ (k : Nat) (l r : List Trm) (zs : List (Nat × Val)), (∀ a ∈ zs, a.1 ≤ m) → Bn (AW row n) k l = some (zs, r) → Bn (AW row m) k l = some (zs, r) := by
      intro k
      induction k with
      | zero => intro l r zs _ h; exact h
      | succ k ih =>
        intro l r zs hin h
        rw [Bn] at h
        cases hq : AW row n l with
        | none => rw [hq] at h; cases h
        | some q =>
          obtain ⟨a, r1⟩ := q
          rw [hq] at h; simp only at h
          cases hk : Bn (AW row n) k r1 with
          | none => rw [hk] at h; cases h
          | some q' =>
            obtain ⟨zs', r2⟩ := q'
            rw [hk] at h
            simp only [Option.some.injEq, Gk] at h
            obtain ⟨rfl, rfl⟩ := h
            rw [Bn, E0 row n l a r1 hq m (hin a (by simp))]
            simp only
            rw [ih r1 r2 zs' (fun b hb => hin b (by simp [hb])) hk]
     rw [Hb ht (key _ _ _ _ hin hs)]
theorem HZ (row : List Val) : ∀ (n : Nat) (l : List Trm) (x : Nat × Val) (r : List Trm), AW row n l = some (x, r) → x.1 + r.length ≤ l.length
 | 0, l, x, r, h => by cases h
 | n + 1, l, x, r, h => by
   obtain ⟨m, t, l', xs, hm, rfl, ht, hs, hx⟩ := CW h
   obtain rfl : n = m := by omega
   have key : ∀ (k : Nat) (l r : List Trm) (zs : List (Nat × Val)), Bn (AW row n) k l = some (zs, r) → Fk (zs.map Prod.fst) + r.length ≤ l.length := by
    intro k
    induction k with
    | zero =>
      intro l r zs h
      simp only [Bn, Option.some.injEq, Gk] at h
      obtain ⟨rfl, rfl⟩ := h
      simp [Fk]
    | succ k ih =>
      intro l r zs h
      rw [Bn] at h
      cases hq : AW row n l with
      | none => rw [hq] at h; cases h
      | some q =>
        obtain ⟨a, r1⟩ := q
        rw [hq] at h; simp only at h
        cases hk : Bn (AW row n) k r1 with
        | none => rw [hk] at h; cases h
        | some q' =>
          obtain ⟨zs', r2⟩ := q'
          rw [hk] at h
          simp only [Option.some.injEq, Gk] at h
          obtain ⟨rfl, rfl⟩ := h
          have h1 := HZ row n l a r1 hq
          have h2 := ih r1 r2 zs' hk
          simp only [List.map_cons, Fk]; omega
   have := key _ _ _ _ hs
   simp only at hx this
   rw [hx, List.length_cons]
   simp only; omega
def En (e : List Trm) : Bool := decide (e.length ≤ 64) && match AW [] 16 e with
 | some (_, []) => true
 | _ => false
def Gc (e : List Trm) (row : List Val) : Val := if e.length ≤ 64 then match AW row 16 e with
 | some (x, []) => x.2
 | _ => Val.null
 else Val.null
def H0 (e : List Trm) (row : List Val) : Bool := Sk (Gc e row)
theorem DU (e : List Trm) (row : List Val) : En e = true ↔ e.length ≤ 64 ∧ ∃ x, AW row 16 e = some (x, []) := by
 unfold En
 rw [Bi, decide_eq_true_eq]
 constructor
 ·rintro ⟨h1, h2⟩
  refine ⟨h1, ?_⟩
  cases hq : AW [] 16 e with
  | none => rw [hq] at h2; cases h2
  | some q =>
    obtain ⟨x, r⟩ := q
    rw [hq] at h2
    cases r with
    | nil =>
      obtain ⟨y, hy, _⟩ := HY [] row 16 e x [] hq
      exact ⟨y, hy⟩
    | cons a l => cases h2
 ·rintro ⟨h1, x, hx⟩
  refine ⟨h1, ?_⟩
  obtain ⟨y, hy, _⟩ := HY row [] 16 e x [] hx
  rw [hy]
theorem YC {e : List Trm} {x : Nat × Val} (h : En e = true) (hx : AW row 16 e = some (x, [])) : Gc e row = x.2 := by
 rw [Gc, if_pos ((DU e row).1 h).1, hx]
theorem YD {e : List Trm} (h : En e = false) : Gc e row = Val.null := by
 unfold Gc
 split
 ·rename_i hl
  cases hq : AW row 16 e with
  | none => rfl
  | some q =>
    obtain ⟨x, r⟩ := q
    cases r with
    | nil => rw [(DU e row).2 ⟨hl, x, hq⟩] at h; cases h
    | cons a l => rfl
 ·rfl
theorem F1 (e : List Trm) (row : List Val) : (Gc e row).valid = true := by
 unfold Gc
 split
 ·cases hq : AW row 16 e with
  | none => exact FG
  | some q =>
    obtain ⟨x, r⟩ := q
    cases r with
    | nil => exact (Ci row 16 e x [] hq).1
    | cons a l => exact FG
 ·exact FG
end Go.Proofs.YtmpgmjlanngkfaaGreat
end
