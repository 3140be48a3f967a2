/-
  Aggregates: the values of functions.
-/
import Derived.Test.YtmpgmjlanngkfaaGreatAgr
section
namespace Go.Proofs.YtmpgmjlanngkfaaGreat
open Go.Abs Go.RowKit
attribute [local irreducible] ARun Aq MCall PCall HCall Am SF CF CFs Af Al Ap B5 AW VLe
set_option linter.unusedSimpArgs false
set_option maxRecDepth 100000
set_option maxHeartbeats 4000000
variable {L : List (Val × Int)} {i : Nat} {x : Val × Int}
def CT (x : Val × Int) : List Dat := [.lit (.int .i64 x.1.kind), .lit (.int .i64 x.1.int), .lit (.string x.1.text), .lit (.int .i64 x.2)]
def ED (L : List (Val × Int)) : Dat := .sl (L.map CT)
def T4 (L : List (Val × Int)) : Prop := L.length ≤ 4096 ∧ ∀ x ∈ L, (-4294967296 ≤ x.1.int ∧ x.1.int ≤ 4294967296) ∧ -262144 ≤ x.2 ∧ x.2 ≤ 262144
theorem PX {a b : Int} (ha : -4294967296 ≤ a ∧ a ≤ 4294967296) (hb : -262144 ≤ b ∧ b ≤ 262144) : -1125899906842624 ≤ a * b ∧ a * b ≤ 1125899906842624 := by
 have h1 : (a * b).natAbs ≤ 4294967296 * 262144 := by
  rw [Yr]
  exact Nat.mul_le_mul (by omega) (by omega)
 omega
theorem Jy {α : Type} {f : α → Int} {M : Int} : ∀ {l : List α}, (∀ x ∈ l, -M ≤ f x ∧ f x ≤ M) → -(M * l.length) ≤ (l.map f).sum ∧ (l.map f).sum ≤ M * l.length
 | [], _ => by simp
 | x :: l, h => by
   have h1 := h x (by simp)
   have h2 := Jy (l := l) fun y hy => h y (by simp [hy])
   simp only [List.map_cons, List.sum_cons, List.length_cons, Int.natCast_add, Int.mul_add, Int.mul_one, Int.natCast_one]
   omega
theorem LO (h : T4 L) (i : Nat) : -1073741824 ≤ Hs (L.take i) ∧ Hs (L.take i) ≤ 1073741824 := by
 have h1 := Jy (f := Prod.snd) (M := 262144) (l := L.take i) fun x hx => (by have := h.2 x (Ji hx); omega)
 have h2 : (L.take i).length ≤ 4096 := by have := h.1; simp; omega
 unfold Hs; omega
theorem PY (h : T4 L) (i : Nat) : -4611686018427387904 ≤ GM (L.take i) ∧ GM (L.take i) ≤ 4611686018427387904 := by
 have h1 := Jy (f := fun x : Val × Int => if x.1.kind = 1 then x.1.int * x.2 else 0) (M := 1125899906842624) (l := L.take i) fun x hx => (by
  have := h.2 x (Ji hx)
  have := PX this.1 this.2
  split <;> omega)
 have h2 : (L.take i).length ≤ 4096 := by have := h.1; simp; omega
 unfold GM; omega
theorem Ut (h : T4 L) (i : Nat) : -1073741824 ≤ GN (L.take i) ∧ GN (L.take i) ≤ 1073741824 := by
 have h1 := Jy (f := fun x : Val × Int => if x.1.kind = 1 then x.2 else 0) (M := 262144) (l := L.take i) fun x hx => (by
  have := h.2 x (Ji hx)
  split <;> omega)
 have h2 : (L.take i).length ≤ 4096 := by have := h.1; simp; omega
 unfold GN; omega
theorem MT (h : L[i]? = some x) : Hs (L.take (i + 1)) = Hs (L.take i) + x.2 := by rw [Ba h]; simp [Hs]
theorem QO (h : L[i]? = some x) : GM (L.take (i + 1)) = GM (L.take i) + if x.1.kind = 1 then x.1.int * x.2 else 0 := by rw [Ba h]; simp [GM]
theorem QP (h : L[i]? = some x) : GN (L.take (i + 1)) = GN (L.take i) + if x.1.kind = 1 then x.2 else 0 := by rw [Ba h]; simp [GN]
theorem IE (n : Int) : PC 197 [.one (.lit (.int .i64 n))] (.v (.agg (Val.ofInt n).d)) := by
 have hc := HP ⟨1, n, ⟨#[]⟩⟩
 have he : Val.ofInt n = (⟨1, n, ⟨#[]⟩⟩ : Val).clean := rfl
 rw [he]
 refine Ad hT Tryz.func197 Tryz.ntmps197 [.cell 2 73] fun B => ?_
 repeat' first | refine kz ?_ | refine Aa (hc) ?_ | refine kh ?_ ?_ | exact ⟨⟩ | fail
 all_goals rfl
theorem MU (L : List (Val × Int)) (h : T4 L) : PC 117 [.one (ED L)] (.tup [.one (.lit (.int .i64 (GM L))), .one (.lit (.int .i64 (GN L)))]) := by
 have hl := h.1
 refine Ad hT Tryz.func117 Tryz.ntmps117 [.tmp 2, .tmp 3] fun B => ?_
 repeat' first | refine kz ?_ | refine As ?_ | refine kh ?_ ?_ | exact ⟨⟩ | fail
 refine AY (X := Nat × Int × Int) ([4, 5, 7] ++ List.range' 10 21) (fun x => x.1 ≤ L.length ∧ x.2.1 = GM (L.take x.1) ∧ x.2.2 = GN (L.take x.1)) (fun x lz => (10, (iC x.1)) :: (4, .c (.d (.lit (.int .i64 x.2.1)))) :: (5, .c (.d (.lit (.int .i64 x.2.2)))) :: lz) (fun x => []) (fun x => L.length - x.1) ((0, 0, 0)) ?_ ?_ ?_ ?_
 repeat' first | exact k0 | refine kw ?_ | omega
 ·exact ⟨by simp, rfl, rfl⟩
 rintro ⟨i, s, m⟩ c ⟨hi, hs, hm⟩
 dsimp only at hi hs hm ⊢
 by_cases hlt : i < L.length
 ·have hv : L[i]? = some L[i] := Bi hlt
  have hx := h.2 _ (Gl hlt)
  generalize L[i] = x at hv hx
  have hv2 : (L.map CT)[i]? = some (CT x) := by rw [Ci, hv]; rfl
  have b1 := PY h i
  have b2 := Ut h i
  have b3 := PY h (i + 1)
  have b4 := PX hx.1 hx.2
  have e1 := QO hv
  have e2 := QP hv
  rw [← hs] at b1 e1
  rw [← hm] at b2 e2
  by_cases hk : x.1.kind = 1
  ·rw [if_pos hk] at e1 e2
   obtain ⟨p, hp⟩ : ∃ p, p = x.1.int * x.2 := ⟨_, rfl⟩
   rw [← hp] at b4 e1
   repeat' first | refine kz ?_ | refine AT hv2 ?_ | refine As ?_ | refine kh ?_ ?_ | exact ⟨⟩ | fail
   apply Ae ((i + 1, s + x.1.int * x.2, m + x.2)) <;> (try dsimp only) <;> try repeat' first | exact k0 | refine kw ?_ | omega
   all_goals exact ⟨by omega, by rw [e1, hp], e2.symm⟩
  ·rw [if_neg hk, Int.add_zero] at e1 e2
   repeat' first | refine kz ?_ | refine AT hv2 ?_ | refine As ?_ | refine kh ?_ ?_ | exact ⟨⟩ | fail
   apply Ae ((i + 1, s, m)) <;> (try dsimp only) <;> try repeat' first | exact k0 | refine kw ?_ | omega
   all_goals exact ⟨by omega, e1.symm, e2.symm⟩
 ·rw [Ag (show L.length ≤ i by omega)] at hs hm
  rw [← hs, ← hm]
  repeat' first | refine kz ?_ | refine As ?_ | refine kh ?_ ?_ | exact ⟨⟩ | fail
  all_goals rfl
def QQ (x : Val × Int) : Bool := decide (x.1.kind ≠ 0)
def Ho (L : List (Val × Int)) : Nat := (L.takeWhile QQ).length
theorem O0 (L : List (Val × Int)) : EW L = L.filter QQ := rfl
theorem R4 (L : List (Val × Int)) : Ho L ≤ L.length := (List.takeWhile_sublist _).length_le
theorem MV : ∀ L : List (Val × Int), L.take (Ho L) = L.takeWhile QQ
 | [] => rfl
 | x :: L => by
   unfold Ho
   rw [List.takeWhile_cons]
   split
   ·rw [List.length_cons, List.take_succ_cons]; exact congrArg _ (MV L)
   ·rfl
theorem R5 (hi : i < Ho L) (h : L[i]? = some x) : QQ x = true := by
 have h1 : (L.takeWhile QQ)[i]? = some x := by
  rw [← MV, ME, if_pos hi]; exact h
 have h3 := List.all_takeWhile (p := QQ) (l := L)
 rw [Ec] at h3
 exact h3 x (Df h1)
theorem O1 : ∀ {L : List (Val × Int)} {x : Val × Int}, L[Ho L]? = some x → QQ x = false
 | [], _, h => by cases h
 | y :: L, x, h => by
   unfold Ho at h
   rw [List.takeWhile_cons] at h
   cases hq : QQ y with
   | true =>
     rw [hq, if_pos rfl, List.length_cons, List.getElem?_cons_succ] at h
     exact O1 h
   | false =>
     rw [hq, if_neg (by decide)] at h
     simp only [List.length_nil, List.getElem?_cons_zero, Option.some.injEq] at h
     subst h; exact hq
theorem R6 (L : List (Val × Int)) : EW (L.take (Ho L)) = L.take (Ho L) := by
 rw [O0, Yn]
 intro x hx
 obtain ⟨i, hi⟩ := Mz.1 hx
 rw [ME] at hi
 split at hi
 ·exact R5 ‹_› hi
 ·cases hi
theorem MW (h : L[i]? = some x) : EW (L.take (i + 1)) = EW (L.take i) ++ (if QQ x then [x] else []) := by
 rw [O0, O0, Ba h, Ue]
 congr 1
 by_cases hq : QQ x = true <;> simp [hq]
theorem Jz (x : Val × Int) : PC 236 [.agg (CT x)] (.v (.one (.lit (.bool (!QQ x))))) := by
 refine Ad hT Tryz.func236 Tryz.ntmps236 [.tmp 2] fun B => ?_
 repeat' first | refine kz ?_ | refine kf ?_ | fail
 all_goals (refine congrArg Dat.lit (congrArg Value.bool ?_); unfold QQ; by_cases h : x.1.kind = 0 <;> simp [h])
theorem O2 (L : List (Val × Int)) (hl : L.length ≤ 4096) : PC 252 [.one (ED L), .one (.lit (.func (.func 236) #[] #[]))] (.v (.one (.lit (.int .i64 (if Ho L < L.length then (Ho L : Int) else -1))))) := by
 have hll := R4 L
 refine Ad hT Tryz.func252 Tryz.ntmps252 [.tmp 4] fun B => ?_
 repeat' first | refine kz ?_ | refine As ?_ | refine kf ?_ | fail
 refine AY (X := Nat) ([4, 5] ++ List.range' 8 11) (fun x => x ≤ Ho L) (fun x lz => (8, (iC x)) :: lz) (fun x => []) (fun x => Ho L - x) (0) ?_ ?_ ?_ ?_
 repeat' first | exact k0 | refine kw ?_ | omega
 rintro i c hi
 by_cases hlt : i < Ho L
 ·have hv : L[i]? = some L[i] := Bi (by omega)
  have hnn := R5 hlt hv
  generalize L[i] = x at hv hnn
  have hv2 : (L.map CT)[i]? = some (CT x) := by rw [Ci, hv]; rfl
  have hc := Jz x
  rw [hnn] at hc
  repeat' first | refine kz ?_ | refine AT hv2 ?_ | refine As ?_ | refine Aa (hc) ?_ | refine kf ?_ | fail
  apply Ae (i + 1) <;> (try dsimp only) <;> try repeat' first | exact k0 | refine kw ?_ | omega
 ·obtain rfl : i = Ho L := by omega
  by_cases hpl : Ho L < L.length
  ·rw [if_pos hpl]
   have hv : L[Ho L]? = some L[Ho L] := Bi hpl
   have hnn := O1 hv
   generalize L[Ho L] = x at hv hnn
   have hv2 : (L.map CT)[Ho L]? = some (CT x) := by rw [Ci, hv]; rfl
   have hc := Jz x
   rw [hnn] at hc
   repeat' first | refine kz ?_ | refine AT hv2 ?_ | refine As ?_ | refine Aa (hc) ?_ | refine kf ?_ | fail
   all_goals rfl
  ·rw [if_neg hpl]
   repeat' first | refine kz ?_ | refine As ?_ | refine kf ?_ | fail
   all_goals rfl
theorem MX (L : List (Val × Int)) (hl : L.length ≤ 4096) (hne : L ≠ []) : HC 235 [.c (.d (ED L))] [] (.c (.arr 0 1 L.length)) [.arr 1 186 4 (L.map CT)] := by
 have hpos : 0 < L.length := VM.2 hne
 refine AF hT Tryz.func235 Tryz.ntmps235 [.tmp 2] fun B => ?_
 repeat' first | refine kz ?_ | refine AE rfl (fun hb => ?_) (fun hb => ?_) | refine CH (fun b hnil => ?_) | refine kg ?_ ?_ | exact k0 | refine Ab ?_
 all_goals first
  | (exfalso; exact hne (by simpa using hnil hb))
  | (simp; done)
  | rfl
theorem WB (c s : Nat) : 0 = if c = Int.toNat 0 then 0 else 0 + Int.toNat 0 * s := by simp
end Go.Proofs.YtmpgmjlanngkfaaGreat
end
