/-
  Aggregates: slices.DeleteFunc, ranked values.
-/
import Derived.Test.YtmpgmjlanngkfaaGreatAgr
import Derived.Test.YtmpgmjlanngkfaaGreatNrm
import Derived.Test.YtmpgmjlanngkfaaGreatTap
section
namespace Go.Proofs.YtmpgmjlanngkfaaGreat
open Go.Abs Go.RowKit
attribute [local irreducible] ARun Av MCall PCall HCall Ap SF CF CFs Ag Ai As fin AY VLe
set_option linter.unusedSimpArgs false
set_option maxRecDepth 100000
set_option maxHeartbeats 4000000
variable {L : List (Val × Int)} {i : Nat} {x : Val × Int}
def CU (x : Val × Int) : List Dat := [.lit (.int .i64 x.1.kind), .lit (.int .i64 x.1.int), .lit (.string x.1.text), .lit (.int .i64 x.2)]
def E1 (L : List (Val × Int)) : Dat := .sl (L.map CU)
def Nv (L : List (Val × Int)) : Prop := L.length ≤ 4096 ∧ ∀ x ∈ L, (-4294967296 ≤ x.1.int ∧ x.1.int ≤ 4294967296) ∧ -262144 ≤ x.2 ∧ x.2 ≤ 262144
theorem Nw {a b : Int} (ha : -4294967296 ≤ a ∧ a ≤ 4294967296) (hb : -262144 ≤ b ∧ b ≤ 262144) : -1125899906842624 ≤ a * b ∧ a * b ≤ 1125899906842624 := by
 have h1 : (a * b).natAbs ≤ 4294967296 * 262144 := by
  rw [XW]
  exact ZF (by omega) (by omega)
 omega
theorem Nx {α : Type} {f : α → Int} {M : Int} : ∀ {l : List α}, (∀ x ∈ l, -M ≤ f x ∧ f x ≤ M) → -(M * l.length) ≤ (l.map f).sum ∧ (l.map f).sum ≤ M * l.length
 | [], _ => by simp
 | x :: l, h => by
   have h1 := h x (by simp)
   have h2 := Nx (l := l) fun y hy => h y (by simp [hy])
   simp only [List.map_cons, Vb, List.length_cons, Int.natCast_add, Int.mul_add, Int.mul_one, Int.natCast_one]
   omega
theorem I4 (h : Nv L) (i : Nat) : -1073741824 ≤ Dx (L.take i) ∧ Dx (L.take i) ≤ 1073741824 := by
 have h1 := Nx (f := Prod.snd) (M := 262144) (l := L.take i) fun x hx => (by have := h.2 x (I0 hx); omega)
 have h2 : (L.take i).length ≤ 4096 := by have := h.1; simp; omega
 unfold Dx; omega
theorem Ki (h : Nv L) (i : Nat) : -4611686018427387904 ≤ Gz (L.take i) ∧ Gz (L.take i) ≤ 4611686018427387904 := by
 have h1 := Nx (f := fun x : Val × Int => if x.1.kind = 1 then x.1.int * x.2 else 0) (M := 1125899906842624) (l := L.take i) fun x hx => (by
  have := h.2 x (I0 hx)
  have := Nw this.1 this.2
  split <;> omega)
 have h2 : (L.take i).length ≤ 4096 := by have := h.1; simp; omega
 unfold Gz; omega
theorem Si (h : Nv L) (i : Nat) : -1073741824 ≤ Gn (L.take i) ∧ Gn (L.take i) ≤ 1073741824 := by
 have h1 := Nx (f := fun x : Val × Int => if x.1.kind = 1 then x.2 else 0) (M := 262144) (l := L.take i) fun x hx => (by
  have := h.2 x (I0 hx)
  split <;> omega)
 have h2 : (L.take i).length ≤ 4096 := by have := h.1; simp; omega
 unfold Gn; omega
theorem KE (h : L[i]? = some x) : Dx (L.take (i + 1)) = Dx (L.take i) + x.2 := by rw [Bp h]; simp [Dx]
theorem Ml (h : L[i]? = some x) : Gz (L.take (i + 1)) = Gz (L.take i) + if x.1.kind = 1 then x.1.int * x.2 else 0 := by rw [Bp h]; simp [Gz]
theorem Mm (h : L[i]? = some x) : Gn (L.take (i + 1)) = Gn (L.take i) + if x.1.kind = 1 then x.2 else 0 := by rw [Bp h]; simp [Gn]
theorem JK (n : Int) : PC 197 [.one (.lit (.int .i64 n))] (.v (.agg (Val.ofInt n).d)) := by
 have hc := IZ ⟨1, n, ⟨#[]⟩⟩
 have he : Val.ofInt n = (⟨1, n, ⟨#[]⟩⟩ : Val).clean := rfl
 rw [he]
 refine Ac hT Tryz.func197 Tryz.ntmps197 [.cell 2 73] fun B => ?_
 repeat' first | refine kz ?_ | refine Aa (hc) ?_ | refine kh ?_ ?_ | exact ⟨⟩ | fail
 all_goals rfl
theorem Vm (L : List (Val × Int)) (h : Nv L) : PC 117 [.one (E1 L)] (.tup [.one (.lit (.int .i64 (Gz L))), .one (.lit (.int .i64 (Gn L)))]) := by
 have hl := h.1
 refine Ac hT Tryz.func117 Tryz.ntmps117 [.tmp 2, .tmp 3] fun B => ?_
 repeat' first | refine kz ?_ | refine Ao ?_ | refine kh ?_ ?_ | exact ⟨⟩ | fail
 refine AK (X := Nat × Int × Int) ([4, 5, 7] ++ List.range' 10 21) (fun x => x.1 ≤ L.length ∧ x.2.1 = Gz (L.take x.1) ∧ x.2.2 = Gn (L.take x.1)) (fun x lz => (10, (iC x.1)) :: (4, .c (.d (.lit (.int .i64 x.2.1)))) :: (5, .c (.d (.lit (.int .i64 x.2.2)))) :: lz) (fun x => []) (fun x => L.length - x.1) ((0, 0, 0)) ?_ ?_ ?_ ?_
 repeat' first | exact k0 | refine kw ?_ | omega
 ·exact ⟨by simp, rfl, rfl⟩
 rintro ⟨i, s, m⟩ c ⟨hi, hs, hm⟩
 dsimp only at hi hs hm ⊢
 by_cases i7 : i < L.length
 ·have hv : L[i]? = some L[i] := Bo i7
  have hx := h.2 _ (Fo i7)
  generalize L[i] = x at hv hx
  have jL : (L.map CU)[i]? = some (CU x) := by rw [BU, hv]; rfl
  have b1 := Ki h i
  have b2 := Si h i
  have b3 := Ki h (i + 1)
  have b4 := Nw hx.1 hx.2
  have e1 := Ml hv
  have e2 := Mm hv
  rw [← hs] at b1 e1
  rw [← hm] at b2 e2
  by_cases hk : x.1.kind = 1
  ·rw [if_pos hk] at e1 e2
   obtain ⟨p, hp⟩ : ∃ p, p = x.1.int * x.2 := ⟨_, rfl⟩
   rw [← hp] at b4 e1
   repeat' first | refine kz ?_ | refine AF jL ?_ | refine Ao ?_ | refine kh ?_ ?_ | exact ⟨⟩ | fail
   apply Af ((i + 1, s + x.1.int * x.2, m + x.2)) <;> (try dsimp only) <;> try repeat' first | exact k0 | refine kw ?_ | omega
   all_goals exact ⟨by omega, by rw [e1, hp], e2.symm⟩
  ·rw [if_neg hk, Int.add_zero] at e1 e2
   repeat' first | refine kz ?_ | refine AF jL ?_ | refine Ao ?_ | refine kh ?_ ?_ | exact ⟨⟩ | fail
   apply Af ((i + 1, s, m)) <;> (try dsimp only) <;> try repeat' first | exact k0 | refine kw ?_ | omega
   all_goals exact ⟨by omega, e1.symm, e2.symm⟩
 ·rw [Ah (show L.length ≤ i by omega)] at hs hm
  rw [← hs, ← hm]
  repeat' first | refine kz ?_ | refine Ao ?_ | refine kh ?_ ?_ | exact ⟨⟩ | fail
  all_goals rfl
def QX (x : Val × Int) : Bool := decide (x.1.kind ≠ 0)
def Iq (L : List (Val × Int)) : Nat := (L.takeWhile QX).length
theorem Ny (L : List (Val × Int)) : Cj L = L.filter QX := rfl
theorem Vn (L : List (Val × Int)) : Iq L ≤ L.length := (List.takeWhile_sublist _).length_le
theorem OO : ∀ L : List (Val × Int), L.take (Iq L) = L.takeWhile QX
 | [] => rfl
 | x :: L => by
   unfold Iq
   rw [List.takeWhile_cons]
   split
   ·rw [List.length_cons, List.take_succ_cons]; exact congrArg _ (OO L)
   ·rfl
theorem Vo (hi : i < Iq L) (h : L[i]? = some x) : QX x = true := by
 have h1 : (L.takeWhile QX)[i]? = some x := by
  rw [← OO, Mc, if_pos hi]; exact h
 have h3 := List.all_takeWhile (p := QX) (l := L)
 rw [Eg] at h3
 exact h3 x (Cb h1)
theorem Ra : ∀ {L : List (Val × Int)} {x : Val × Int}, L[Iq L]? = some x → QX x = false
 | [], _, h => by cases h
 | y :: L, x, h => by
   unfold Iq at h
   rw [List.takeWhile_cons] at h
   cases hq : QX y with
   | true =>
     rw [hq, if_pos rfl, List.length_cons, List.getElem?_cons_succ] at h
     exact Ra h
   | false =>
     rw [hq, if_neg (by decide)] at h
     simp only [List.length_nil, List.getElem?_cons_zero, Option.some.injEq] at h
     subst h; exact hq
theorem Vp (L : List (Val × Int)) : Cj (L.take (Iq L)) = L.take (Iq L) := by
 rw [Ny, dU]
 intro x hx
 obtain ⟨i, hi⟩ := L0.1 hx
 rw [Mc] at hi
 split at hi
 ·exact Vo ‹_› hi
 ·cases hi
theorem KF (h : L[i]? = some x) : Cj (L.take (i + 1)) = Cj (L.take i) ++ (if QX x then [x] else []) := by
 rw [Ny, Ny, Bp h, ZC]
 congr 1
 by_cases hq : QX x = true <;> simp [hq]
theorem KG (x : Val × Int) : PC 236 [.agg (CU x)] (.v (.one (.lit (.bool (!QX x))))) := by
 refine Ac hT Tryz.func236 Tryz.ntmps236 [.tmp 2] fun B => ?_
 repeat' first | refine kz ?_ | refine kf ?_ | fail
 all_goals (refine congrArg Dat.lit (congrArg Value.bool ?_); unfold QX; by_cases h : x.1.kind = 0 <;> simp [h])
theorem Rb (L : List (Val × Int)) (hl : L.length ≤ 4096) : PC 252 [.one (E1 L), .one (.lit (.func (.func 236) #[] #[]))] (.v (.one (.lit (.int .i64 (if Iq L < L.length then (Iq L : Int) else -1))))) := by
 have mj := Vn L
 refine Ac hT Tryz.func252 Tryz.ntmps252 [.tmp 4] fun B => ?_
 repeat' first | refine kz ?_ | refine Ao ?_ | refine kf ?_ | fail
 refine AK (X := Nat) ([4, 5] ++ List.range' 8 11) (fun x => x ≤ Iq L) (fun x lz => (8, (iC x)) :: lz) (fun x => []) (fun x => Iq L - x) (0) ?_ ?_ ?_ ?_
 repeat' first | exact k0 | refine kw ?_ | omega
 rintro i c hi
 by_cases i7 : i < Iq L
 ·have hv : L[i]? = some L[i] := Bo (by omega)
  have nj := Vo i7 hv
  generalize L[i] = x at hv nj
  have jL : (L.map CU)[i]? = some (CU x) := by rw [BU, hv]; rfl
  have hc := KG x
  rw [nj] at hc
  repeat' first | refine kz ?_ | refine AF jL ?_ | refine Ao ?_ | refine Aa (hc) ?_ | refine kf ?_ | fail
  apply Af (i + 1) <;> (try dsimp only) <;> try repeat' first | exact k0 | refine kw ?_ | omega
 ·obtain rfl : i = Iq L := by omega
  by_cases mF : Iq L < L.length
  ·rw [if_pos mF]
   have hv : L[Iq L]? = some L[Iq L] := Bo mF
   have nj := Ra hv
   generalize L[Iq L] = x at hv nj
   have jL : (L.map CU)[Iq L]? = some (CU x) := by rw [BU, hv]; rfl
   have hc := KG x
   rw [nj] at hc
   repeat' first | refine kz ?_ | refine AF jL ?_ | refine Ao ?_ | refine Aa (hc) ?_ | refine kf ?_ | fail
   all_goals rfl
  ·rw [if_neg mF]
   repeat' first | refine kz ?_ | refine Ao ?_ | refine kf ?_ | fail
   all_goals rfl
theorem OP (L : List (Val × Int)) (hl : L.length ≤ 4096) (j2 : L ≠ []) : HC 235 [.c (.d (E1 L))] [] (.c (.arr 0 1 L.length)) [.arr 1 186 4 (L.map CU)] := by
 have jD : 0 < L.length := dD.2 j2
 refine Au hT Tryz.func235 Tryz.ntmps235 [.tmp 2] fun B => ?_
 repeat' first | refine kz ?_ | refine Az rfl (fun hb => ?_) (fun hb => ?_) | refine NK (fun b jP => ?_) | refine kg ?_ ?_ | exact k0 | refine Ab ?_
 all_goals first
  | (exfalso; exact j2 (by simpa using jP hb))
  | (simp; done)
  | rfl
theorem bh (c s : Nat) : 0 = if c = Int.toNat 0 then 0 else 0 + Int.toNat 0 * s := by simp
def CP (a b : Val) : Bool := (a.kind == b.kind) && ((a.int == b.int) && (a.text.toList == b.text.toList))
def B1 : List Val → List Val → Bool
 | [], [] => true
 | a :: x, b :: y => CP a b && B1 x y
 | _, _ => false
theorem F9 (a : Val) : CP a a = true := by simp [CP]
theorem Ga : ∀ r : List Val, B1 r r = true
 | [] => rfl
 | a :: r => by simp [B1, F9, Ga r]
theorem J0 : ∀ {r s : List Val}, B1 r s = true → r.length = s.length
 | [], [], _ => rfl
 | a :: x, b :: y, h => by simp [B1] at h; simp [J0 h.2]
 | [], _ :: _, h => by cases h
 | _ :: _, [], h => by cases h
theorem Nc (a b : Val) : Cy [.int .i64 a.kind, .int .i64 a.int, .string a.text] [.int .i64 b.kind, .int .i64 b.int, .string b.text] = CP a b := by
 simp [Cy, JH, CP]
theorem LG (r s : List Val) : PC 49 [.one (A0 r), .one (A0 s)] (.v (.one (.lit (.bool (B1 r s))))) := by
 refine Ac hT Tryz.func49 Tryz.ntmps49 [.tmp 4] fun B => ?_
 refine GM 0 rfl fun mI => ?_
 simp only [BR, maxLen] at mI
 repeat' first | refine kz ?_ | refine Az rfl (fun hb => ?_) (fun hb => ?_) | refine Ao ?_ | refine kf ?_ | fail
 ·refine congrArg Dat.lit (congrArg Value.bool ?_)
  cases h : B1 r s with
  | false => rfl
  | true => have := J0 h; omega
 ·have hl : r.length = s.length := by omega
  refine AK (X := Nat) ([4, 5] ++ List.range' 11 15) (fun x => x ≤ r.length ∧ B1 r s = B1 (r.drop x) (s.drop x)) (fun x lz => (5, (iC x)) :: lz) (fun x => []) (fun x => r.length - x) (0) ?_ ?_ ?_ ?_
  repeat' first | exact k0 | refine kw ?_ | omega
  · exact ⟨by simp, by simp⟩
  rintro i c ⟨hi, hinv⟩
  by_cases i7 : i < r.length
  · obtain ⟨a, hv⟩ := gx i7
    obtain ⟨b, hu⟩ := gx (l := s) (i := i) (by omega)
    rw [AB hv, AB hu, B1] at hinv
    have re := Nc a b
    repeat' first | refine kz ?_ | refine Az rfl (fun hb => ?_) (fun hb => ?_) | refine AF hv ?_ | refine AF hu ?_ | refine Ao ?_ | refine kf ?_ | fail
    all_goals first
     | (refine congrArg Dat.lit (congrArg Value.bool ?_); rw [hinv]; simp_all <;> done)
     | ((apply Af (i + 1); all_goals (try dsimp only); all_goals (try (repeat' (first | exact k0 | refine kw ?_ | omega)))); (try exact ⟨by omega, by rw [hinv]; simp_all⟩))
  · repeat' first | refine kz ?_ | refine Az rfl (fun hb => ?_) (fun hb => ?_) | refine Ao ?_ | refine kf ?_ | fail
    refine congrArg Dat.lit (congrArg Value.bool ?_)
    rw [R9 (by omega), R9 (by omega)] at hinv
    rw [hinv]; rfl
def DO : List Entry → List Entry → Bool
 | [], [] => true
 | a :: x, b :: y => (a.count == b.count) && B1 a.row b.row && DO x y
 | _, _ => false
theorem Gb : ∀ r : List Entry, DO r r = true
 | [] => rfl
 | a :: r => by simp [DO, Ga, Gb r]
theorem J1 : ∀ {r s : List Entry}, DO r s = true → r.length = s.length
 | [], [], _ => rfl
 | a :: x, b :: y, h => by simp [DO] at h; simp [J1 h.2]
 | [], _ :: _, h => by cases h
 | _ :: _, [], h => by cases h
theorem QE (r s : List Entry) : PC 20 [.one (Ak r), .one (Ak s)] (.v (.one (.lit (.bool (DO r s))))) := by
 refine Ac hT Tryz.func20 Tryz.ntmps20 [.tmp 4] fun B => ?_
 refine GM 0 rfl fun mI => ?_
 simp only [BR, maxLen] at mI
 repeat' first | refine kz ?_ | refine Az rfl (fun hb => ?_) (fun hb => ?_) | refine Ao ?_ | refine Al rfl rfl (fun hb => ?_) (fun hb => ?_) | refine kf ?_ | fail
 ·refine congrArg Dat.lit (congrArg Value.bool ?_)
  cases h : DO r s with
  | false => rfl
  | true => have := J1 h; omega
 ·have hl : r.length = s.length := by omega
  refine AK (X := Nat) ([4, 5] ++ List.range' 11 31) (fun x => x ≤ r.length ∧ DO r s = DO (r.drop x) (s.drop x)) (fun x lz => (5, (iC x)) :: lz) (fun x => []) (fun x => r.length - x) (0) ?_ ?_ ?_ ?_
  repeat' first | exact k0 | refine kw ?_ | omega
  · exact ⟨by simp, by simp⟩
  rintro i c ⟨hi, hinv⟩
  by_cases i7 : i < r.length
  · obtain ⟨a, hv⟩ := gx i7
    obtain ⟨b, hu⟩ := gx (l := s) (i := i) (by omega)
    rw [AB hv, AB hu, DO] at hinv
    repeat' first | refine kz ?_ | refine Az rfl (fun hb => ?_) (fun hb => ?_) | refine AF hv ?_ | refine AF hu ?_ | refine Ao ?_ | refine Aa (LG _ _) ?_ | refine Al rfl rfl (fun hb => ?_) (fun hb => ?_) | refine kf ?_ | fail
    all_goals first
     | (refine congrArg Dat.lit (congrArg Value.bool ?_); rw [hinv]; simp_all <;> done)
     | ((apply Af (i + 1); all_goals (try dsimp only); all_goals (try (repeat' (first | exact k0 | refine kw ?_ | omega)))); (try exact ⟨by omega, by rw [hinv]; simp_all⟩))
  · repeat' first | refine kz ?_ | refine Az rfl (fun hb => ?_) (fun hb => ?_) | refine Ao ?_ | refine Al rfl rfl (fun hb => ?_) (fun hb => ?_) | refine kf ?_ | fail
    refine congrArg Dat.lit (congrArg Value.bool ?_)
    rw [R9 (by omega), R9 (by omega)] at hinv
    rw [hinv]; rfl
theorem Ol (r : List Val) (hr : r.length ≤ 1000000) : PC 98 [.one (A0 r)] (.v (.one (A0 r))) := by
 refine Ac hT Tryz.func98 Tryz.ntmps98 [.tmp 2] fun B => ?_
 repeat' first | refine kz ?_ | refine Az rfl (fun hb => ?_) (fun hb => ?_) | refine NK (fun b jP => ?_) | refine kh ?_ ?_ | exact ⟨⟩ | fail
 ·have h := jP hb
  have : r = [] := by simpa using h
  rw [this]; rfl
 ·simp
 ·rw [Ah (by simp)]; rfl
theorem Gc : DeferOk Tryz.prog 148 0 := by
 refine ⟨⟨_, Tryz.func148, by kernel_rfl, by kernel_rfl⟩, fun vs w hl => ?_⟩
 match vs, hl with
 | [], _ =>
   refine callsD_of_wpS Tryz.func148 rfl fun c₀ cs hu => ?_
   apply wpS_region
   simp [wpOpsS, go_sem, recoverD, hu, Tryz.ntmps148, Exit.thenS]
   cases c₀
   simp_all [bodyPostS, results, Tryz.results148]
def Il (l : List Entry) : List Entry := (l.filter fun e => decide (0 < e.count)).map fun e => ⟨e.row, 1⟩
def BL (l : List Entry) : List Entry := if Am l then Il l else []
theorem Nd {l : List Entry} {e : Entry} (h : l[i]? = some e) : Il (l.take (i + 1)) = Il (l.take i) ++ (if 0 < e.count then [⟨e.row, 1⟩] else []) := by
 unfold Il
 rw [Gm, h, ZC, Ag']
 congr 1
 by_cases hq : 0 < e.count <;> simp [hq]
theorem QF : ∀ {l : List Entry} {p : Option Entry}, goodFrom p l = true → ∀ e ∈ l, e.ok = true
 | [], _, _, e, he => by cases he
 | x :: l, p, h, e, he => by
   simp only [goodFrom, BM] at h
   rcases FL.1 he with rfl | he
   ·exact h.1.1
   ·exact QF h.2 e he
theorem AP {l : List Entry} (h : Am l = true) : l.length ≤ 4096 ∧ ∀ e ∈ l, AR e.row = true ∧ (-262144 ≤ e.count ∧ e.count ≤ 262144) ∧ e.count ≠ 0 := by
 simp only [Am, BM, decide_eq_true_eq] at h
 refine ⟨h.1, fun e he => ?_⟩
 have := QF h.2 e he
 simp only [Entry.ok, AD, BM, decide_eq_true_eq] at this
 exact ⟨this.1.1, this.1.2, this.2⟩
theorem Dd {r : List Val} (h : AR r = true) : r.length ≤ 16 := by
 simp only [AR, BM, decide_eq_true_eq] at h; exact h.1
theorem UT (l : List Entry) : PC 92 [.one (Ak l)] (.v (.one (Ak (BL l)))) := by
 have l6 := Ck l
 cases hb : Am l with
 | false =>
   rw [hb] at l6
   have he : BL l = [] := by simp [BL, hb]
   rw [he]
   refine Ac hT Tryz.func92 Tryz.ntmps92 [.tmp 2] fun B => ?_
   repeat' first | refine kz ?_ | refine Az rfl (fun hb => ?_) (fun hb => ?_) | refine Ao ?_ | refine Aa (l6) ?_ | refine Bg (by repeat (first | exact Ad | refine Aq Gc ?_)) ?_ | refine kh ?_ ?_ | exact ⟨⟩ | fail
   all_goals rfl
 | true =>
   rw [hb] at l6
   have he : BL l = Il l := by simp [BL, hb]
   obtain ⟨hl, hm⟩ := AP hb
   rw [he]
   refine Ac hT Tryz.func92 Tryz.ntmps92 [.tmp 2] fun B => ?_
   repeat' first | refine kz ?_ | refine Az rfl (fun hb => ?_) (fun hb => ?_) | refine Ao ?_ | refine Aa (l6) ?_ | refine Bg (by repeat (first | exact Ad | refine Aq Gc ?_)) ?_ | refine kh ?_ ?_ | exact ⟨⟩ | fail
   refine Bv 3 56 2 ?_
   refine AK (X := Nat × Nat) ([3, 5] ++ List.range' 11 15) (fun x => x.1 ≤ l.length) (fun x lz => (3, .c (.arr 0 x.2 (Il (l.take x.1)).length)) :: (11, (iC x.1)) :: lz) (fun x => [.arr x.2 56 2 ((Il (l.take x.1)).map Entry.d)]) (fun x => l.length - x.1) ((0, 1)) ?_ ?_ ?_ ?_
   repeat' first | exact k0 | refine kw ?_ | refine kv ?_ ?_ | omega
   rintro ⟨i, k⟩ c hi
   dsimp only at hi ⊢
   have jy : (Il (l.take i)).length ≤ i := by
    unfold Il
    rw [BR]
    refine LX (Q1 ..) (by simp; omega)
   by_cases i7 : i < l.length
   ·have hv : l[i]? = some l[i] := Bo i7
    have mu := (hm _ (Fo i7)).1
    generalize l[i] = e at hv mu
    have jc := Nd hv
    have nG := Dd mu
    have jz := Ol e.row (by omega)
    repeat' first | refine kz ?_ | refine Az rfl (fun hb => ?_) (fun hb => ?_) | refine AF hv ?_ | refine Ao ?_ | refine Aa (jz) ?_ | refine Bg (by repeat (first | exact Ad | refine Aq Gc ?_)) ?_ | refine kh ?_ ?_ | exact ⟨⟩ | fail
    ·rw [if_pos hb] at jc
     apply Af ((i + 1, _)) <;> (try dsimp only) <;> try repeat' first | exact k0 | refine w1 ?_ | refine w5 ?_ ?_ | refine Ab ?_ | refine m1 ?_ ?_ | omega
     ·rw [jc]; simp
     ·rw [jc, Ag']; rfl
    ·rw [if_neg (by omega), List.append_nil] at jc
     apply Af ((i + 1, _)) <;> (try dsimp only) <;> try repeat' first | exact k0 | refine w1 ?_ | refine w5 ?_ ?_ | refine Ab ?_ | refine m1 ?_ ?_ | omega
     all_goals (rw [jc])
   ·rw [Ah (by omega)]
    repeat' first | refine kz ?_ | refine Az rfl (fun hb => ?_) (fun hb => ?_) | refine Ao ?_ | refine Bg (by repeat (first | exact Ad | refine Aq Gc ?_)) ?_ | refine kh ?_ ?_ | exact ⟨⟩ | fail
    ·simp
    ·rw [Ah (by simp)]; rfl
def fc (l : List Entry) : Int := l.foldl (fun s e => s + e.count) 0
def ik (l : List Entry) : Int := if Am l then fc l else 0
def Dt (t : Tape) : Nat → List Val × Tape
 | 0 => ([], t)
 | j + 1 => ((Dt t j).1 ++ [(Dt t j).2.short], (Dt t j).2.go 6)
def entNums : List Int := [1, 1, 1, 2, -1, 3, -2, 0]
def Tape.num (t : Tape) : Int := entNums.getD (t.nx 8).toNat 0
def D6 (t : Tape) (w : Nat) : Nat → List Entry × Tape
 | 0 => ([], t)
 | m + 1 => ((D6 t w m).1 ++ [⟨(Dt (D6 t w m).2 w).1, (Dt (D6 t w m).2 w).2.num⟩], (Dt (D6 t w m).2 w).2.go 8)
theorem Oq {t : Tape} (h : t.ok) : ∀ j, (Dt t j).2.ok ∧ (Dt t j).1.length = j
 | 0 => ⟨h, rfl⟩
 | j + 1 => by
   obtain ⟨h1, h2⟩ := Oq h j
   exact ⟨h1.go 6, by rw [Dt]; simp [h2]⟩
theorem Ot {t : Tape} (h : t.ok) (w : Nat) : ∀ m, (D6 t w m).2.ok ∧ (D6 t w m).1.length = m
 | 0 => ⟨h, rfl⟩
 | m + 1 => by
   obtain ⟨h1, h2⟩ := Ot h w m
   exact ⟨(Oq h1 w).1.go 8, by rw [D6]; simp [h2]⟩
theorem UU (t : Tape) (w n : Nat) (ht : t.ok) (hw : w ≤ 1000) (hn : n ≤ 1000) : HC 32 [.c (.bp 0 0 0), (iC (w : Int)), (iC (n : Int))] [(tB t)] (.c (.arr 1 1 (t.nx ((n : Int) + 1)).toNat)) [(.box 0 [.d (Ds ((D6 (t.go ((n : Int) + 1)) w (t.nx ((n : Int) + 1)).toNat).2).l), .d (.lit (.int .i64 ((D6 (t.go ((n : Int) + 1)) w (t.nx ((n : Int) + 1)).toNat).2).at_))]), .arr 1 56 2 ((D6 (t.go ((n : Int) + 1)) w (t.nx ((n : Int) + 1)).toNat).1.map Entry.d)] := by
 have mY := Ee t ((n : Int) + 1) ht (by omega) (by omega)
 obtain ⟨b1, b2⟩ := t.nx_bd ((n : Int) + 1)
 have rf := ht.go ((n : Int) + 1)
 obtain ⟨i, hi⟩ := R8 b1
 rw [hi] at mY b1 b2 ⊢
 rw [To]
 generalize t.go ((n : Int) + 1) = t1 at mY rf
 have jG : i ≤ 1000 := by omega
 refine Au hT Tryz.func32 Tryz.ntmps32 [.tmp 6] fun B => ?_
 repeat' first | refine kz ?_ | refine Ao ?_ | refine Ae [0] (mY) ?_ | refine kg ?_ ?_ | exact k0 | refine Ab ?_ | refine m1 ?_ ?_ | refine m2 ?_ ?_
 refine Bv 7 56 2 ?_
 refine AK (X := Nat × Nat) (List.range' 7 4 ++ List.range' 15 24) (fun x => x.1 ≤ i) (fun x lz => (7, .c (.arr 1 x.2 x.1)) :: (8, (iC ((i - x.1 : Nat) : Int))) :: lz) (fun x => [(.box 0 [.d (Ds ((D6 t1 w x.1).2).l), .d (.lit (.int .i64 ((D6 t1 w x.1).2).at_))]), .arr x.2 56 2 ((D6 t1 w x.1).1.map Entry.d)]) (fun x => i - x.1) ((0, 2)) ?_ ?_ ?_ ?_
 repeat' first | exact k0 | refine kw ?_ | refine kv ?_ ?_ | omega
 rintro ⟨m, k⟩ c hm
 dsimp only at hm ⊢
 obtain ⟨ll, hlen⟩ := Ot rf w m
 have nY : D6 t1 w (m + 1) = ((D6 t1 w m).1 ++ [⟨(Dt (D6 t1 w m).2 w).1, (Dt (D6 t1 w m).2 w).2.num⟩], (Dt (D6 t1 w m).2 w).2.go 8) := rfl
 by_cases i7 : m < i
 ·generalize hE : D6 t1 w m = E at ll hlen nY
  obtain ⟨el, T⟩ := E
  dsimp only at ll hlen nY ⊢
  repeat' first | refine kz ?_ | refine Ao ?_ | refine kg ?_ ?_ | exact k0 | refine Ab ?_ | refine m1 ?_ ?_ | refine m2 ?_ ?_
  refine Bv 9 73 3 ?_
  refine AK (X := Nat × Nat) ([9, 10] ++ List.range' 19 10) (fun x => x.1 ≤ w) (fun x lz => (9, .c (.arr 2 x.2 x.1)) :: (10, (iC x.1)) :: lz) (fun x => [(.box 0 [.d (Ds ((Dt T x.1).2).l), .d (.lit (.int .i64 ((Dt T x.1).2).at_))]), .arr k 56 2 (el.map Entry.d), .arr x.2 73 3 ((Dt T x.1).1.map Val.d)]) (fun x => w - x.1) ((0, c + 1)) ?_ ?_ ?_ ?_
  repeat' first | exact k0 | refine kw ?_ | refine kv ?_ ?_ | omega
  rintro ⟨j, k2⟩ c2 hj
  dsimp only at hj ⊢
  obtain ⟨wQ, yk⟩ := Oq ll j
  by_cases jk : j < w
  ·have yl := Zp (Dt T j).2 wQ
   repeat' first | refine kz ?_ | refine Ao ?_ | refine Ae [0] (yl) ?_ | refine kg ?_ ?_ | exact k0 | refine Ab ?_ | refine m1 ?_ ?_ | refine m2 ?_ ?_
   apply Af ((j + 1, _)) <;> (try dsimp only) <;> try repeat' first | exact k0 | refine w1 ?_ | refine Ab ?_ | refine m1 ?_ ?_ | refine m2 ?_ ?_ | omega
   rw [Dt, Ag']; rfl
  ·obtain rfl : j = w := by omega
   have mY := Ee (Dt T j).2 8 wQ (by omega) (by omega)
   obtain ⟨q1, q2⟩ := (Dt T j).2.nx_bd 8
   have ym : (entNums.map iD)[((Dt T j).2.nx 8).toNat]? = some (iD (Dt T j).2.num) := by
    rw [BU]
    unfold Tape.num
    rw [QW, Bo (by simp [entNums]; omega)]; rfl
   have yn : List.take j ((Dt T j).1.map Val.d) = (Dt T j).1.map Val.d := Ah (by simp; omega)
   repeat' first | refine Ax 9 ?_ (j6 := yn) | refine kz ?_ | refine AF ym ?_ | refine Ao ?_ | refine Ae [0] (mY) ?_ | refine AO Ad ?_ ?_ | exact k0 | refine Ab ?_ | refine m1 ?_ ?_ | refine m2 ?_ ?_
   apply Af ((m + 1, _)) <;> (try dsimp only) <;> try repeat' first | exact k0 | refine w1 ?_ | refine Ab ?_ | refine m1 ?_ ?_ | refine m2 ?_ ?_ | omega
   ·rw [nY]
   ·rw [nY, Ag']; rfl
 ·obtain rfl : m = i := by omega
  repeat' first | refine kz ?_ | refine Ao ?_ | refine kg ?_ ?_ | exact k0 | refine Ab ?_ | refine m1 ?_ ?_ | refine m2 ?_ ?_
theorem bj (L : List (Val × Int)) (hl : L.length ≤ 4096) (j2 : L ≠ []) (mF : ¬ Iq L < L.length) : HC 234 [.c (.arr 0 0 L.length), .c (.d (.lit (.func (.func 236) #[] #[])))] [.arr 0 186 4 (L.map CU)] (.c (.arr 0 1 (Cj L).length)) [.arr 1 186 4 ((Cj L).map CU)] := by
 have jD : 0 < L.length := dD.2 j2
 have oo := Rb L hl
 have mj := Vn L
 have oF : ∀ mem : List Blk, mem[0]? = some (.arr 0 186 4 (L.map CU)) → SFs mem [.c (.arr 0 0 L.length), .c (.d (.lit (.func (.func 236) #[] #[])))] [.one (E1 L), .one (.lit (.func (.func 236) #[] #[]))] := fun mem hm => O3 hm (by simp) (Ah (by simp))
 rw [if_neg mF] at oo
 have nj : Cj L = L := by
  have := Vp L
  rw [show Iq L = L.length by omega, Ir] at this; exact this
 rw [nj]
 refine Au hT Tryz.func234 Tryz.ntmps234 [.tmp 4] fun B => ?_
 repeat' first | refine kz ?_ | refine E6 oo (oF _ rfl) ?_ | refine kg ?_ ?_ | exact k0 | refine Ab ?_
theorem bk {c s : Nat} {a : Int} (ha : a = i) (h : i < c) : i * s = if c = a.toNat then 0 else 0 + a.toNat * s := by
 subst ha; rw [if_neg (by omega)]; simp
theorem Nz (L : List (Val × Int)) : (Cj L).length ≤ L.length := Q1 ..
theorem bn (L : List (Val × Int)) (hl : L.length ≤ 4096) (mF : Iq L < L.length) : HC 234 [.c (.arr 0 0 L.length), .c (.d (.lit (.func (.func 236) #[] #[])))] [.arr 0 186 4 (L.map CU)] (.c (.arr 0 1 (Cj L).length)) [.arr 1 186 4 ((Cj L).map CU)] := by
 have oo := Rb L hl
 have oF : ∀ mem : List Blk, mem[0]? = some (.arr 0 186 4 (L.map CU)) → SFs mem [.c (.arr 0 0 L.length), .c (.d (.lit (.func (.func 236) #[] #[])))] [.one (E1 L), .one (.lit (.func (.func 236) #[] #[]))] := fun mem hm => O3 hm (by simp) (Ah (by simp))
 rw [if_pos mF] at oo
 have pZ : L[Iq L]? = some L[Iq L] := Bo mF
 have r5 := Ra pZ
 have qD := KF pZ
 rw [if_neg (by simp [r5]), List.append_nil, Vp] at qD
 have oG : (Cj (L.take (Iq L + 1))).length = Iq L := by rw [qD]; simp; omega
 have mg : (L.map CU).take (Iq L) = (Cj (L.take (Iq L + 1))).map CU := by rw [qD, List.map_take]
 generalize Iq L = p at oo mF oG mg
 clear pZ r5 qD
 refine Au hT Tryz.func234 Tryz.ntmps234 [.tmp 4] fun B => ?_
 repeat' first | refine kz ?_ | refine E6 oo (oF _ rfl) ?_ | refine kg ?_ ?_ | exact k0 | refine Ab ?_
 refine AK (X := Nat × List (List Dat)) ([5, 6, 7] ++ List.range' 16 20) (fun x => x.1 ≤ L.length ∧ x.2.length = L.length ∧ (Cj (L.take x.1)).length < x.1 ∧ x.2.take (Cj (L.take x.1)).length = (Cj (L.take x.1)).map CU ∧ x.2.drop x.1 = (L.drop x.1).map CU ∧ (∀ e ∈ x.2, e.length = 4)) (fun x lz => (6, (iC x.1)) :: (5, (iC ((Cj (L.take x.1)).length))) :: lz) (fun x => [.arr 0 186 4 x.2]) (fun x => L.length - x.1) ((p + 1, L.map CU)) ?_ ?_ ?_ ?_
 repeat' first | exact k0 | refine kw ?_ | refine kv ?_ ?_ | omega
 all_goals first
  | (rw [oG]; done)
  | (dsimp only; exact ⟨by omega, by simp, by omega, by rw [oG]; exact mg, by rw [List.map_drop], fun e he => by obtain ⟨y, _, rfl⟩ := List.mem_map.1 he; rfl⟩)
  | skip
 rintro ⟨j, M⟩ c ⟨hj, hM, jY, hT, hD, h4⟩
 dsimp only at hj hM jY hT hD h4 ⊢
 by_cases ky : j < L.length
 ·obtain ⟨x, hv⟩ := gx ky
  have wR : M[j]? = some (CU x) := by
    have h1 : (M.drop j)[0]? = some (CU x) := by rw [hD, AB hv]; rfl
    rw [ZA] at h1; simpa using h1
  have jc := KF hv
  have u5 := KG x
  have wT : M.drop (j + 1) = (L.drop (j + 1)).map CU := by
    have : (M.drop j).drop 1 = ((L.drop j).map CU).drop 1 := by rw [hD]
    rw [Tr, AB hv, List.map_cons, List.drop_succ_cons, List.drop_zero] at this
    exact this
  obtain ⟨n, hn⟩ : ∃ n, n = (Cj (L.take j)).length := ⟨_, rfl⟩
  rw [← hn] at jY hT ⊢
  cases nj : QX x with
  | true =>
    rw [nj] at u5 jc
    rw [if_pos rfl] at jc
    have lX : (Cj (L.take (j + 1))).length = n + 1 := by rw [jc, CR, ← hn]; rfl
    have kI : (M.set n (CU x)).take (n + 1) = (Cj (L.take (j + 1))).map CU := by
      rw [Gm, J5 (by omega), List.take_set_of_le (Nat.le_refl _), hT, jc, Ag']; rfl
    have yp : (M.set n (CU x)).drop (j + 1) = (L.drop (j + 1)).map CU := by
      rw [List.drop_set_of_lt (by omega)]; exact wT
    have uV : M[n]? = some M[n] := Bo (by omega)
    have oH := h4 _ (Cb uV)
    generalize M[n] = mn at uV oH
    obtain ⟨m1, m2, m3, m4, rfl⟩ : ∃ a b c d, mn = [a, b, c, d] := by
      match mn, oH with
      | [a, b, c, d], _ => exact ⟨a, b, c, d, rfl⟩
    repeat' first | refine kz ?_ | refine AF wR ?_ | refine AF uV ?_ | refine Ao ?_ | refine Aa (u5) ?_ | refine kg ?_ ?_ | exact k0 | refine Ab ?_
    apply Af ((j + 1, M.set n (CU x))) <;> (try dsimp only) <;> try repeat' first | exact k0 | refine kw ?_ | refine kv ?_ ?_ | omega
    all_goals first
      | (rw [lX]; done)
      | (rw [lX]; rfl)
      | exact ⟨by omega, by simp [hM], by omega, by rw [lX]; exact kI, yp, fun e he => by
          rcases aP he with q | q
          ·exact h4 e q
          ·subst q; rfl⟩
      | trace_state
  | false =>
    rw [nj] at u5 jc
    rw [if_neg (by decide), List.append_nil] at jc
    repeat' first | refine kz ?_ | refine AF wR ?_ | refine Ao ?_ | refine Aa (u5) ?_ | refine kg ?_ ?_ | exact k0 | refine Ab ?_
    apply Af ((j + 1, M)) <;> (try dsimp only) <;> try repeat' first | exact k0 | refine kw ?_ | refine kv ?_ ?_ | omega
    all_goals first
      | (rw [jc, ← hn]; done)
      | exact ⟨by omega, hM, by rw [jc, ← hn]; omega, by rw [jc, ← hn]; exact hT, wT, h4⟩
      | trace_state
 ·obtain rfl : j = L.length := by omega
  rw [Ir] at jY hT ⊢
  obtain ⟨n, hn⟩ : ∃ n, n = (Cj L).length := ⟨_, rfl⟩
  rw [← hn] at jY hT ⊢
  refine ZQ 0 rfl rfl (fun h _ => absurd (congrArg List.length h) (by simp; omega)) ?_
  intro bb cc hc lN qC
  rw [hM] at lN
  simp only [List.set_cons_zero]
  have hof : L.length - n = 0 ∨ n * ti186.size = n * ti186.size := .inr rfl
  repeat' first | ((with_reducible (refine NJ ?_)); refine gA 0 0 ?_ (by exact rfl) hc; refine Sp 4 (r := 0) ?_ (by exact rfl) hc) | refine kz ?_ | refine NI ?_ | refine GC (a := (n : Int)) (b := (L.length : Int)) (c := cc) (nH := n * ti186.size) (m' := L.length - n) (c' := cc - n) ?_ (by omega) (by omega) (by omega) (bk rfl (by omega)) (by omega) (by omega) | refine GC (a := 0) (b := (n : Int)) (c := cc) (nH := 0) (m' := n) (c' := cc) ?_ (by omega) (by omega) (by omega) (bh _ _) (by omega) (by omega) | refine OY (ei := ti186) (r := 0) (c := cc) (o := n) (m := L.length - n) ?_ (by exact rfl) hc (by omega) (by omega) (.inr rfl) (by exact hT) | refine AO Ad ?_ ?_ | exact k0 | refine Ab ?_
  all_goals trace_state
end Go.Proofs.YtmpgmjlanngkfaaGreat
end
