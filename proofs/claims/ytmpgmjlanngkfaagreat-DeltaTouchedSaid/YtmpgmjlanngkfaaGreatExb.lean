/-
  Expressions: what a list of terms means for a row, in plain terms.
-/
import Derived.Test.YtmpgmjlanngkfaaGreatBag
import Derived.Test.YtmpgmjlanngkfaaGreatBso
import Derived.Test.YtmpgmjlanngkfaaGreatTap
section
namespace Go.Proofs.YtmpgmjlanngkfaaGreat
open Go.Abs Go.RowKit
set_option linter.unusedSimpArgs false
set_option maxRecDepth 100000
set_option maxHeartbeats 4000000
variable {l r : List Trm} {n : Nat} {row : List Val} {t : Trm}
def Ch (b : Bool) : Val := Val.ofInt (if b then 1 else 0)
def RT (v : Val) : Bool := decide (v.kind = 1) && decide (v.int ≠ 0)
def T6 (v : Val) : Bool := decide (v.kind = 1) && decide (v.int = 0)
def U8 (a b : Val) : Val := if T6 a || T6 b then Ch false else if RT a && RT b then Ch true else Val.null
def ZQ (a b : Val) : Val := if RT a || RT b then Ch true else if T6 a && T6 b then Ch false else Val.null
def Rc (op : Int) (a b c : Val) : Val :=
 if op = 14 then U8 a b else if op = 15 then ZQ a b
 else if op = 16 then Ch (decide (a.kind = 0)) else if op = 17 then (if a.kind = 0 then b else a)
 else if RT a then b else c
def F6 (op : Int) (a b : Val) : Val :=
 if a.kind ≠ 2 then Val.null else if op = 9 then Val.ofInt a.text.size
 else if op = 8 ∧ b.kind = 2 then Val.ofText (a.text ++ b.text)
 else if op = 10 ∧ b.kind = 1 ∧ 0 ≤ b.int then Val.ofText (a.text.extract 0 (min b.int a.text.size).toNat)
 else Val.null
def KF (op : Int) (a b : Val) : Val :=
 if a.kind = 0 ∨ a.kind ≠ b.kind then Val.null else if op = 11 then Ch (a.same b) else Ch (decide (a.cmp b < 0))
def Lk (a b : Int) : Int := if a.tmod b ≠ 0 ∧ decide (a < 0) ≠ decide (b < 0) then a.tdiv b - 1 else a.tdiv b
def J2 (a b : Int) : Val := if b = 0 then Val.null else Val.ofInt (Lk a b)
def T7 (op : Int) (a b : Val) : Val :=
 if a.kind ≠ 1 ∨ b.kind ≠ 1 then Val.null
 else if op = 3 then Val.ofInt (-a.int) else if op = 13 then Ch (decide (a.int = 0))
 else if op = 4 then Val.ofInt (a.int + b.int) else if op = 5 then Val.ofInt (a.int - b.int)
 else if op = 6 then Val.ofInt (a.int * b.int) else J2 a.int b.int
def Re (op : Int) (a b c : Val) : Val :=
 if op = 14 ∨ op = 15 ∨ op = 16 ∨ op = 17 ∨ op = 18 then Rc op a b c
 else if op = 8 ∨ op = 9 ∨ op = 10 then F6 op a b
 else if op = 11 ∨ op = 12 then KF op a b
 else if op = 3 ∨ op = 13 then T7 op a a
 else T7 op a b
def J3 (vs : List Val) (i : Nat) : Val := vs.getD i Val.null
def Yb (t : Trm) (row vs : List Val) : Val :=
 if t.op = 1 then t.v else if t.op = 2 then (T5 row t.col).clean else Re t.op (J3 vs 0) (J3 vs 1) (J3 vs 2)
theorem EG (n : Int) : (Val.ofInt n).valid = true := AV _
theorem Md (s : ByteArray) : (Val.ofText s).valid = true := AV _
theorem F7 : Val.null.valid = true := by decide +kernel
attribute [local irreducible] Val.ofInt Val.ofText Val.valid
theorem Po (op : Int) {a b c : Val} (ha : a.valid = true) (hb : b.valid = true) (hc : c.valid = true) : (Rc op a b c).valid = true := by
 unfold Rc U8 ZQ Ch
 repeat' split
 all_goals first | assumption | exact EG _ | exact F7
theorem Pp (op : Int) (a b : Val) : (F6 op a b).valid = true := by
 unfold F6
 repeat' split
 all_goals first | exact EG _ | exact Md _ | exact F7
theorem Pq (op : Int) (a b : Val) : (KF op a b).valid = true := by
 unfold KF Ch
 repeat' split
 all_goals first | exact EG _ | exact F7
theorem Ll (op : Int) (a b : Val) : (T7 op a b).valid = true := by
 unfold T7 J2 Ch
 repeat' split
 all_goals first | exact EG _ | exact F7
theorem Rf (op : Int) {a b c : Val} (ha : a.valid = true) (hb : b.valid = true) (hc : c.valid = true) : (Re op a b c).valid = true := by
 unfold Re
 split
 ·exact Po _ ha hb hc
 split
 ·exact Pp _ _ _
 split
 ·exact Pq _ _ _
 split
 ·exact Ll _ _ _
 ·exact Ll _ _ _
theorem Dv {vs : List Val} (h : ∀ v ∈ vs, v.valid = true) (i : Nat) : (J3 vs i).valid = true := by
 unfold J3
 rw [OM]
 cases hq : vs[i]? with
 | none => exact F7
 | some v => exact h v (Df hq)
def FL : List Nat → Nat
 | [] => 0
 | a :: l => max a (FL l)
theorem Rg (l : List Nat) (a : Nat) : FL (l ++ [a]) = max (FL l) a := by
 induction l with
 | nil => simp [FL]
 | cons b l ih => simp only [List.cons_append, FL, ih]; omega
theorem S6 {l : List Nat} {a : Nat} (h : a ∈ l) : a ≤ FL l := by
 induction l with
 | nil => cases h
 | cons b l ih =>
   simp only [FL]
   rcases Dp.1 h with rfl | h
   ·omega
   ·have := ih h; omega
theorem U9 {l : List Nat} (h : ∀ a ∈ l, a ≤ n) : FL l ≤ n := by
 induction l with
 | nil => exact Nat.zero_le _
 | cons b l ih =>
   have h1 := ih fun a ha => h a (by simp [ha])
   have h2 := h b (by simp)
   simp only [FL]; omega
def Bx {α : Type} (p : List Trm → Option (α × List Trm)) : Nat → List Trm → Option (List α × List Trm)
 | 0, l => some ([], l)
 | k + 1, l => match p l with
   | none => none
   | some (a, r) => match Bx p k r with
     | none => none
     | some (zs, r') => some (a :: zs, r')
def AS (row : List Val) : Nat → List Trm → Option ((Nat × Val) × List Trm)
 | 0, _ => none
 | _ + 1, [] => none
 | n + 1, t :: l => if Ep t then match Bx (AS row n) (FK t.op).toNat l with
    | none => none
    | some (xs, r) => some ((1 + FL (xs.map Prod.fst), Yb t row (xs.map Prod.snd)), r)
   else none
theorem Ih {α : Type} (p : List Trm → Option (α × List Trm)) : ∀ (k : Nat) (l : List Trm), Bx p (k + 1) l = match Bx p k l with
   | none => none
   | some (zs, r) => match p r with
     | none => none
     | some (a, r') => some (zs ++ [a], r')
 | 0, l => by
   simp only [Bx]
   cases p l with
   | none => rfl
   | some q => rfl
 | k + 1, l => by
   rw [Bx, Bx]
   cases p l with
   | none => rfl
   | some q =>
     obtain ⟨a, r⟩ := q
     simp only
     rw [Ih p k r]
     cases Bx p k r with
     | none => rfl
     | some q' =>
       obtain ⟨zs, r'⟩ := q'
       simp only
       cases p r' with
       | none => rfl
       | some q'' => rfl
theorem Lm {α : Type} {p : List Trm → Option (α × List Trm)} {k : Nat} {r' : List Trm} {zs : List α} {a : α} (h : Bx p k l = some (zs, r)) (h2 : p r = some (a, r')) : Bx p (k + 1) l = some (zs ++ [a], r') := by
 rw [Ih, h]; simp only; rw [h2]
theorem Ii {α : Type} {p : List Trm → Option (α × List Trm)} {i : Nat} {l r : List Trm} {zs : List α} (h : Bx p i l = some (zs, r)) (h2 : p r = none) : ∀ k, i < k → Bx p k l = none
 | 0, hk => absurd hk (Nat.not_lt_zero _)
 | k + 1, hk => by
   rw [Ih]
   by_cases hq : i = k
   ·subst hq
    rw [h]; simp only; rw [h2]
   ·rw [Ii h h2 k (by omega)]
theorem HD {α : Type} {p : List Trm → Option (α × List Trm)} : ∀ {k : Nat} {l r : List Trm} {zs : List α}, Bx p k l = some (zs, r) → zs.length = k
 | 0, l, r, zs, h => by simp only [Bx, Option.some.injEq, MA] at h; rw [← h.1]; rfl
 | k + 1, l, r, zs, h => by
   rw [Bx] at h
   cases hp : p l with
   | none => rw [hp] at h; cases h
   | some q =>
     obtain ⟨a, r1⟩ := q
     rw [hp] at h; simp only at h
     cases hs : Bx p k r1 with
     | none => rw [hs] at h; cases h
     | some q' =>
       obtain ⟨zs', r2⟩ := q'
       rw [hs] at h
       simp only [Option.some.injEq, MA] at h
       rw [← h.1, List.length_cons, HD hs]
inductive All2 {α β : Type} (R : α → β → Prop) : List α → List β → Prop
 | nil : All2 R [] []
 | cons {a : α} {b : β} {l : List α} {m : List β} (h : R a b) (t : All2 R l m) : All2 R (a :: l) (b :: m)
theorem J4 {α : Type} {p : List Trm → Option (α × List Trm)} {Q : List Trm → α → Prop} (hp : ∀ l a r, p l = some (a, r) → ∃ s, l = s ++ r ∧ Q s a) : ∀ {k : Nat} {l r : List Trm} {zs : List α}, Bx p k l = some (zs, r) → ∃ ss : List (List Trm), l = ss.flatten ++ r ∧ ss.length = k ∧ ∀ (i : Nat) (s : List Trm) (a : α), ss[i]? = some s → zs[i]? = some a → Q s a
 | 0, l, r, zs, h => by
   simp only [Bx, Option.some.injEq, MA] at h
   exact ⟨[], by simp [h.2], rfl, fun i s a hs => by simp at hs⟩
 | k + 1, l, r, zs, h => by
   rw [Bx] at h
   cases hq : p l with
   | none => rw [hq] at h; cases h
   | some q =>
     obtain ⟨a, r1⟩ := q
     rw [hq] at h; simp only at h
     cases hs : Bx p k r1 with
     | none => rw [hs] at h; cases h
     | some q' =>
       obtain ⟨zs', r2⟩ := q'
       rw [hs] at h
       simp only [Option.some.injEq, MA] at h
       obtain ⟨rfl, rfl⟩ := h
       obtain ⟨s, h1, h2⟩ := hp l a r1 hq
       obtain ⟨ss, h3, h4, h5⟩ := J4 hp hs
       refine ⟨s :: ss, by rw [h1, h3]; simp, by simp [h4], fun i s' a' hs' ha' => ?_⟩
       cases i with
       | zero => simp at hs' ha'; subst hs'; subst ha'; exact h2
       | succ i => simp at hs' ha'; exact h5 i s' a' hs' ha'
theorem N5 {α β : Type} {p : List Trm → Option (α × List Trm)} {q : List Trm → Option (β × List Trm)} {R : α → β → Prop} (h : ∀ l a r, p l = some (a, r) → ∃ b, q l = some (b, r) ∧ R a b) : ∀ {k : Nat} {l r : List Trm} {zs : List α}, Bx p k l = some (zs, r) → ∃ bs, Bx q k l = some (bs, r) ∧ All2 R zs bs
 | 0, l, r, zs, hh => by
   simp only [Bx, Option.some.injEq, MA] at hh
   obtain ⟨rfl, rfl⟩ := hh
   exact ⟨[], rfl, .nil⟩
 | k + 1, l, r, zs, hh => by
   rw [Bx] at hh
   cases hq : p l with
   | none => rw [hq] at hh; cases hh
   | some x =>
     obtain ⟨a, r1⟩ := x
     rw [hq] at hh; simp only at hh
     cases hs : Bx p k r1 with
     | none => rw [hs] at hh; cases hh
     | some x' =>
       obtain ⟨zs', r2⟩ := x'
       rw [hs] at hh
       simp only [Option.some.injEq, MA] at hh
       obtain ⟨rfl, rfl⟩ := hh
       obtain ⟨b, h1, h2⟩ := h l a r1 hq
       obtain ⟨bs, h3, h4⟩ := N5 h hs
       exact ⟨b :: bs, by rw [Bx, h1]; simp only; rw [h3], .cons h2 h4⟩
theorem Dw {x : (Nat × Val) × List Trm} (h : AS row n l = some x) : ∃ (m : Nat) (t : Trm) (l' : List Trm) (xs : List (Nat × Val)), n = m + 1 ∧ l = t :: l' ∧ Ep t = true ∧ Bx (AS row m) (FK t.op).toNat l' = some (xs, x.2) ∧ x.1 = (1 + FL (xs.map Prod.fst), Yb t row (xs.map Prod.snd)) := by
 cases n with
 | zero => cases h
 | succ n =>
   cases l with
   | nil => cases h
   | cons t l =>
     rw [AS] at h
     split at h
     ·rename_i ht
      cases hs : Bx (AS row n) (FK t.op).toNat l with
      | none => rw [hs] at h; cases h
      | some q =>
        obtain ⟨xs, r⟩ := q
        rw [hs] at h
        simp only [Option.some.injEq] at h
        subst h
        exact ⟨n, t, l, xs, rfl, rfl, ht, hs, rfl⟩
     ·cases h
theorem HE {xs : List (Nat × Val)} (ht : Ep t = true) (h : Bx (AS row n) (FK t.op).toNat l = some (xs, r)) : AS row (n + 1) (t :: l) = some ((1 + FL (xs.map Prod.fst), Yb t row (xs.map Prod.snd)), r) := by
 rw [AS, if_pos ht, h]
theorem S7 (h : Bx (AS row n) (FK t.op).toNat l = none) : AS row (n + 1) (t :: l) = none := by
 rw [AS, h]
 split <;> rfl
theorem Rh (ht : Ep t = false) : AS row n (t :: l) = none := by
 cases n with
 | zero => rfl
 | succ n => rw [AS, ht]; rfl
theorem Gx (row : List Val) : ∀ (n : Nat) (l : List Trm) (x : Nat × Val) (r : List Trm), AS row n l = some (x, r) → ∃ s, l = s ++ r ∧ (0 < s.length ∧ ∀ r', AS row n (s ++ r') = some (x, r'))
 | 0, l, x, r, h => by cases h
 | n + 1, l, x, r, h => by
   obtain ⟨m, t, l', xs, hm, rfl, ht, hs, hx⟩ := Dw h
   obtain rfl : n = m := by omega
   have key : ∀ (k : Nat) (l r : List Trm) (zs : List (Nat × Val)), Bx (AS row n) k l = some (zs, r) → ∃ s, l = s ++ r ∧ ∀ r', Bx (AS row n) k (s ++ r') = some (zs, r') := by
    intro k
    induction k with
    | zero =>
      intro l r zs h
      simp only [Bx, Option.some.injEq, MA] at h
      obtain ⟨rfl, rfl⟩ := h
      exact ⟨[], rfl, fun r' => rfl⟩
    | succ k ih =>
      intro l r zs h
      rw [Bx] at h
      cases hq : AS row n l with
      | none => rw [hq] at h; cases h
      | some q =>
        obtain ⟨a, r1⟩ := q
        rw [hq] at h; simp only at h
        cases hk : Bx (AS row n) k r1 with
        | none => rw [hk] at h; cases h
        | some q' =>
          obtain ⟨zs', r2⟩ := q'
          rw [hk] at h
          simp only [Option.some.injEq, MA] at h
          obtain ⟨rfl, rfl⟩ := h
          obtain ⟨s1, e1, -, f1⟩ := Gx row n l a r1 hq
          obtain ⟨s2, e2, f2⟩ := ih r1 r2 zs' hk
          refine ⟨s1 ++ s2, by rw [e1, e2, G1], fun r' => ?_⟩
          rw [G1, Bx, f1]
          simp only
          rw [f2]
   obtain ⟨s, e, f⟩ := key _ _ _ _ hs
   refine ⟨t :: s, by rw [e]; rfl, by simp, fun r' => ?_⟩
   rw [List.cons_append, HE ht (f r')]
   simp only at hx
   rw [hx]
theorem Ij {x : Nat × Val} (h : AS row n l = some (x, r)) : ∃ k, 0 < k ∧ k ≤ l.length ∧ r = l.drop k := by
 obtain ⟨s, rfl, h1, _⟩ := Gx row n l x r h
 exact ⟨s.length, h1, by simp, by simp⟩
theorem CB (row : List Val) : ∀ (n : Nat) (l : List Trm) (x : Nat × Val) (r : List Trm), AS row n l = some (x, r) → x.2.valid = true ∧ 1 ≤ x.1 ∧ x.1 ≤ n
 | 0, l, x, r, h => by cases h
 | n + 1, l, x, r, h => by
   obtain ⟨m, t, l', xs, hm, rfl, ht, hs, hx⟩ := Dw h
   obtain rfl : n = m := by omega
   obtain ⟨ss, _, h2, h3⟩ := J4 (Q := fun _ a => a.2.valid = true ∧ 1 ≤ a.1 ∧ a.1 ≤ n) (fun l a r hh => by
    obtain ⟨s, e, _⟩ := Gx row n l a r hh
    exact ⟨s, e, CB row n l a r hh⟩) hs
   have hl := HD hs
   have hall : ∀ a ∈ xs, a.2.valid = true ∧ 1 ≤ a.1 ∧ a.1 ≤ n := fun a ha => by
    obtain ⟨i, hi, rfl⟩ := Ym.1 ha
    exact h3 i ss[i] _ (Bi (by omega)) (Bi hi)
   simp only at hx
   rw [hx]
   refine ⟨?_, by simp only; omega, ?_⟩
   ·simp only
    unfold Yb
    split
    ·rename_i h1
     simp only [Ep, HB, h1, if_true, BO] at ht
     exact ht.2.2
    ·split
     ·exact AV _
     ·have hv : ∀ v ∈ xs.map Prod.snd, v.valid = true := fun v hv => by
       obtain ⟨a, ha, rfl⟩ := List.mem_map.1 hv
       exact (hall a ha).1
      exact Rf _ (Dv hv 0) (Dv hv 1) (Dv hv 2)
   ·simp only
    have := U9 (n := n) (l := xs.map Prod.fst) fun a ha => by
     obtain ⟨b, hb, rfl⟩ := List.mem_map.1 ha
     exact (hall b hb).2.2
    omega
theorem Pr {zs bs : List (Nat × Val)} (h : All2 (fun a b => a.1 = b.1) zs bs) : zs.map Prod.fst = bs.map Prod.fst := by
 induction h with
 | nil => rfl
 | cons h _ ih => rw [List.map_cons, List.map_cons, h, ih]
theorem Ik (row row' : List Val) : ∀ (n : Nat) (l : List Trm) (x : Nat × Val) (r : List Trm), AS row n l = some (x, r) → ∃ y, AS row' n l = some (y, r) ∧ x.1 = y.1
 | 0, l, x, r, h => by cases h
 | n + 1, l, x, r, h => by
   obtain ⟨m, t, l', xs, hm, rfl, ht, hs, hx⟩ := Dw h
   obtain rfl : n = m := by omega
   obtain ⟨ys, h1, h2⟩ := N5 (q := AS row' n) (R := fun a b => a.1 = b.1) (fun l a r hh => Ik row row' n l a r hh) hs
   refine ⟨_, HE ht h1, ?_⟩
   simp only at hx
   rw [hx, Pr h2]
theorem Ft (row : List Val) : ∀ (n : Nat) (l : List Trm) (x : Nat × Val) (r : List Trm), AS row n l = some (x, r) → ∀ m, x.1 ≤ m → AS row m l = some (x, r)
 | 0, l, x, r, h => by cases h
 | n + 1, l, x, r, h => by
   intro m hm'
   obtain ⟨n', t, l', xs, hm, rfl, ht, hs, hx⟩ := Dw h
   obtain rfl : n = n' := by omega
   simp only at hx
   rw [hx] at hm' ⊢
   cases m with
   | zero => simp only at hm'; omega
   | succ m =>
     have hin : ∀ a ∈ xs, a.1 ≤ m := fun a ha => by
      have := S6 (List.mem_map_of_mem (f := Prod.fst) ha)
      simp only at hm'; omega
     have key : ∀ (k : Nat) (l r : List Trm) (zs : List (Nat × Val)), (∀ a ∈ zs, a.1 ≤ m) → Bx (AS row n) k l = some (zs, r) → Bx (AS row m) k l = some (zs, r) := by
      intro k
      induction k with
      | zero => intro l r zs _ h; exact h
      | succ k ih =>
        intro l r zs hin h
        rw [Bx] at h
        cases hq : AS row n l with
        | none => rw [hq] at h; cases h
        | some q =>
          obtain ⟨a, r1⟩ := q
          rw [hq] at h; simp only at h
          cases hk : Bx (AS row n) k r1 with
          | none => rw [hk] at h; cases h
          | some q' =>
            obtain ⟨zs', r2⟩ := q'
            rw [hk] at h
            simp only [Option.some.injEq, MA] at h
            obtain ⟨rfl, rfl⟩ := h
            rw [Bx, Ft row n l a r1 hq m (hin a (by simp))]
            simp only
            rw [ih r1 r2 zs' (fun b hb => hin b (by simp [hb])) hk]
     rw [HE ht (key _ _ _ _ hin hs)]
theorem Il (row : List Val) : ∀ (n : Nat) (l : List Trm) (x : Nat × Val) (r : List Trm), AS row n l = some (x, r) → x.1 + r.length ≤ l.length
 | 0, l, x, r, h => by cases h
 | n + 1, l, x, r, h => by
   obtain ⟨m, t, l', xs, hm, rfl, ht, hs, hx⟩ := Dw h
   obtain rfl : n = m := by omega
   have key : ∀ (k : Nat) (l r : List Trm) (zs : List (Nat × Val)), Bx (AS row n) k l = some (zs, r) → FL (zs.map Prod.fst) + r.length ≤ l.length := by
    intro k
    induction k with
    | zero =>
      intro l r zs h
      simp only [Bx, Option.some.injEq, MA] at h
      obtain ⟨rfl, rfl⟩ := h
      simp [FL]
    | succ k ih =>
      intro l r zs h
      rw [Bx] at h
      cases hq : AS row n l with
      | none => rw [hq] at h; cases h
      | some q =>
        obtain ⟨a, r1⟩ := q
        rw [hq] at h; simp only at h
        cases hk : Bx (AS row n) k r1 with
        | none => rw [hk] at h; cases h
        | some q' =>
          obtain ⟨zs', r2⟩ := q'
          rw [hk] at h
          simp only [Option.some.injEq, MA] at h
          obtain ⟨rfl, rfl⟩ := h
          have h1 := Il row n l a r1 hq
          have h2 := ih r1 r2 zs' hk
          simp only [List.map_cons, FL]; omega
   have := key _ _ _ _ hs
   simp only at hx this
   rw [hx, List.length_cons]
   simp only; omega
def ES (e : List Trm) : Bool := decide (e.length ≤ 64) && match AS [] 16 e with
 | some (_, []) => true
 | _ => false
def GX (e : List Trm) (row : List Val) : Val := if e.length ≤ 64 then match AS row 16 e with
 | some (x, []) => x.2
 | _ => Val.null
 else Val.null
def Im (e : List Trm) (row : List Val) : Bool := RT (GX e row)
theorem Er (e : List Trm) (row : List Val) : ES e = true ↔ e.length ≤ 64 ∧ ∃ x, AS row 16 e = some (x, []) := by
 unfold ES
 rw [BO, decide_eq_true_eq]
 constructor
 ·rintro ⟨h1, h2⟩
  refine ⟨h1, ?_⟩
  cases hq : AS [] 16 e with
  | none => rw [hq] at h2; cases h2
  | some q =>
    obtain ⟨x, r⟩ := q
    rw [hq] at h2
    cases r with
    | nil =>
      obtain ⟨y, hy, _⟩ := Ik [] row 16 e x [] hq
      exact ⟨y, hy⟩
    | cons a l => cases h2
 ·rintro ⟨h1, x, hx⟩
  refine ⟨h1, ?_⟩
  obtain ⟨y, hy, _⟩ := Ik row [] 16 e x [] hx
  rw [hy]
theorem Xb {e : List Trm} {x : Nat × Val} (h : ES e = true) (hx : AS row 16 e = some (x, [])) : GX e row = x.2 := by
 rw [GX, if_pos ((Er e row).1 h).1, hx]
theorem Xc {e : List Trm} (h : ES e = false) : GX e row = Val.null := by
 unfold GX
 split
 ·rename_i hl
  cases hq : AS row 16 e with
  | none => rfl
  | some q =>
    obtain ⟨x, r⟩ := q
    cases r with
    | nil => rw [(Er e row).2 ⟨hl, x, hq⟩] at h; cases h
    | cons a l => rfl
 ·rfl
theorem E5 (e : List Trm) (row : List Val) : (GX e row).valid = true := by
 unfold GX
 split
 ·cases hq : AS row 16 e with
  | none => exact F7
  | some q =>
    obtain ⟨x, r⟩ := q
    cases r with
    | nil => exact (CB row 16 e x [] hq).1
    | cons a l => exact F7
 ·exact F7
end Go.Proofs.YtmpgmjlanngkfaaGreat
end
