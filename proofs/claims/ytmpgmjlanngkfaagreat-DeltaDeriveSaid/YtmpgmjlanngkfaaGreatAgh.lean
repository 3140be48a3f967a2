/-
  Aggregates: slices.DeleteFunc, ranked values.
-/
import Derived.Test.YtmpgmjlanngkfaaGreatAgr
section
namespace Go.Proofs.YtmpgmjlanngkfaaGreat
open Go.Abs Go.RowKit
attribute [local irreducible] ARun At MCall PCall HCall Am SF CF CFs Ah Aj Ar fin AW VLe
set_option linter.unusedSimpArgs false
set_option maxRecDepth 100000
set_option maxHeartbeats 4000000
def Cu (x : Val × Int) : List Dat := [.lit (.int .i64 x.1.kind), .lit (.int .i64 x.1.int), .lit (.string x.1.text), .lit (.int .i64 x.2)]
def Eg (L : List (Val × Int)) : Dat := .sl (L.map Cu)
def Ls (L : List (Val × Int)) : Prop := L.length ≤ 4096 ∧ ∀ x ∈ L, (-4294967296 ≤ x.1.int ∧ x.1.int ≤ 4294967296) ∧ -262144 ≤ x.2 ∧ x.2 ≤ 262144
theorem Lt {a b : Int} (ha : -4294967296 ≤ a ∧ a ≤ 4294967296) (hb : -262144 ≤ b ∧ b ≤ 262144) : -1125899906842624 ≤ a * b ∧ a * b ≤ 1125899906842624 := by
 have h1 : (a * b).natAbs ≤ 4294967296 * 262144 := by
  rw [Int.natAbs_mul]
  exact Nat.mul_le_mul (by omega) (by omega)
 omega
theorem Lu {α : Type} {f : α → Int} {M : Int} : ∀ {l : List α}, (∀ x ∈ l, -M ≤ f x ∧ f x ≤ M) → -(M * l.length) ≤ (l.map f).sum ∧ (l.map f).sum ≤ M * l.length
 | [], _ => by simp
 | x :: l, h => by
   have h1 := h x (by simp)
   have h2 := Lu (l := l) fun y hy => h y (by simp [hy])
   simp only [List.map_cons, List.sum_cons, List.length_cons, Int.natCast_add, Int.mul_add, Int.mul_one, Int.natCast_one]
   omega
theorem HT {L : List (Val × Int)} (h : Ls L) (i : Nat) : -1073741824 ≤ C4 (L.take i) ∧ C4 (L.take i) ≤ 1073741824 := by
 have h1 := Lu (f := Prod.snd) (M := 262144) (l := L.take i) fun x hx => (by have := h.2 x (List.mem_of_mem_take hx); omega)
 have h2 : (L.take i).length ≤ 4096 := by have := h.1; simp; omega
 unfold C4; omega
theorem I3 {L : List (Val × Int)} (h : Ls L) (i : Nat) : -4611686018427387904 ≤ FL (L.take i) ∧ FL (L.take i) ≤ 4611686018427387904 := by
 have h1 := Lu (f := fun x : Val × Int => if x.1.kind = 1 then x.1.int * x.2 else 0) (M := 1125899906842624) (l := L.take i) fun x hx => (by
  have := h.2 x (List.mem_of_mem_take hx)
  have := Lt this.1 this.2
  split <;> omega)
 have h2 : (L.take i).length ≤ 4096 := by have := h.1; simp; omega
 unfold FL; omega
theorem PI {L : List (Val × Int)} (h : Ls L) (i : Nat) : -1073741824 ≤ FA (L.take i) ∧ FA (L.take i) ≤ 1073741824 := by
 have h1 := Lu (f := fun x : Val × Int => if x.1.kind = 1 then x.2 else 0) (M := 262144) (l := L.take i) fun x hx => (by
  have := h.2 x (List.mem_of_mem_take hx)
  split <;> omega)
 have h2 : (L.take i).length ≤ 4096 := by have := h.1; simp; omega
 unfold FA; omega
theorem Jl {L : List (Val × Int)} {i : Nat} {x : Val × Int} (h : L[i]? = some x) : C4 (L.take (i + 1)) = C4 (L.take i) + x.2 := by rw [A9 h]; simp [C4]
theorem Kw {L : List (Val × Int)} {i : Nat} {x : Val × Int} (h : L[i]? = some x) : FL (L.take (i + 1)) = FL (L.take i) + if x.1.kind = 1 then x.1.int * x.2 else 0 := by rw [A9 h]; simp [FL]
theorem Kx {L : List (Val × Int)} {i : Nat} {x : Val × Int} (h : L[i]? = some x) : FA (L.take (i + 1)) = FA (L.take i) + if x.1.kind = 1 then x.2 else 0 := by rw [A9 h]; simp [FA]
theorem Iy (n : Int) : PCall Tryz.prog 197 [.one (.lit (.int .i64 n))] (.v (.agg (Val.ofInt n).d)) := by
 have hc := HO ⟨1, n, ⟨#[]⟩⟩
 have he : Val.ofInt n = (⟨1, n, ⟨#[]⟩⟩ : Val).clean := rfl
 rw [he]
 refine Ac hT Tryz.func197 Tryz.ntmps197 [.cell 2 73] fun B => ?_
 repeat' (first | refine kz ?_ | refine Aa (hc) ?_ | refine kf ?_ | exact k0 | refine kg ?_ ?_ | fail)
 all_goals rfl
theorem Sb (L : List (Val × Int)) (h : Ls L) : PCall Tryz.prog 117 [.one (Eg L)] (.tup [.one (.lit (.int .i64 (FL L))), .one (.lit (.int .i64 (FA L)))]) := by
 have hl := h.1
 refine Ac hT Tryz.func117 Tryz.ntmps117 [.tmp 2, .tmp 3] fun B => ?_
 repeat' (first | refine kz ?_ | refine ki ?_ | refine kg ?_ ?_ | refine kf ?_ | fail)
 refine AO (X := Nat × Int × Int) [4, 5, 7, 10, 11, 12, 13, 14, 15, 16, 17, 18, 19, 20, 21, 22, 23, 24, 25, 26, 27, 28, 29, 30] (fun x => x.1 ≤ L.length ∧ x.2.1 = FL (L.take x.1) ∧ x.2.2 = FA (L.take x.1)) (fun x lz => (10, (.c (.d (.lit (.int .i64 x.1))))) :: (4, .c (.d (.lit (.int .i64 x.2.1)))) :: (5, .c (.d (.lit (.int .i64 x.2.2)))) :: lz) (fun x => []) (fun x => L.length - x.1) ((0, 0, 0)) ?_ ?_ ?_ ?_
 repeat' (first | exact k0 | refine kw ?_ | omega)
 ·exact ⟨by simp, rfl, rfl⟩
 rintro ⟨i, s, m⟩ c ⟨hi, hs, hm⟩
 dsimp only at hi hs hm ⊢
 by_cases hlt : i < L.length
 ·have hv : L[i]? = some L[i] := List.getElem?_eq_getElem hlt
  have hx := h.2 _ (List.getElem_mem hlt)
  generalize L[i] = x at hv hx
  have hv2 : (L.map Cu)[i]? = some (Cu x) := by rw [List.getElem?_map, hv]; rfl
  have b1 := I3 h i
  have b2 := PI h i
  have b3 := I3 h (i + 1)
  have b4 := Lt hx.1 hx.2
  have e1 := Kw hv
  have e2 := Kx hv
  rw [← hs] at b1 e1
  rw [← hm] at b2 e2
  by_cases hk : x.1.kind = 1
  ·rw [if_pos hk] at e1 e2
   obtain ⟨p, hp⟩ : ∃ p, p = x.1.int * x.2 := ⟨_, rfl⟩
   rw [← hp] at b4 e1
   repeat' (first | refine kz ?_ | refine kx hv2 ?_ | refine ki ?_ | refine kg ?_ ?_ | refine kf ?_ | fail)
   (apply Ae ((i + 1, s + x.1.int * x.2, m + x.2)); all_goals (try dsimp only); all_goals (try (repeat' (first | exact k0 | refine kw ?_ | omega))))
   all_goals exact ⟨by omega, by rw [e1, hp], e2.symm⟩
  ·rw [if_neg hk, Int.add_zero] at e1 e2
   repeat' (first | refine kz ?_ | refine kx hv2 ?_ | refine ki ?_ | refine kg ?_ ?_ | refine kf ?_ | fail)
   (apply Ae ((i + 1, s, m)); all_goals (try dsimp only); all_goals (try (repeat' (first | exact k0 | refine kw ?_ | omega))))
   all_goals exact ⟨by omega, e1.symm, e2.symm⟩
 ·rw [Ag (show L.length ≤ i by omega)] at hs hm
  rw [← hs, ← hm]
  repeat' (first | refine kz ?_ | refine ki ?_ | refine kg ?_ ?_ | refine kf ?_ | fail)
  all_goals rfl
def OC (x : Val × Int) : Bool := decide (x.1.kind ≠ 0)
def He (L : List (Val × Int)) : Nat := (L.takeWhile OC).length
theorem Lv (L : List (Val × Int)) : BW L = L.filter OC := rfl
theorem Sc (L : List (Val × Int)) : He L ≤ L.length := (List.takeWhile_sublist _).length_le
theorem Mu : ∀ L : List (Val × Int), L.take (He L) = L.takeWhile OC
 | [] => rfl
 | x :: L => by
   unfold He
   rw [List.takeWhile_cons]
   split
   ·rw [List.length_cons, List.take_succ_cons]; exact congrArg _ (Mu L)
   ·rfl
theorem Sd {L : List (Val × Int)} {i : Nat} {x : Val × Int} (hi : i < He L) (h : L[i]? = some x) : OC x = true := by
 have h1 : (L.takeWhile OC)[i]? = some x := by
  rw [← Mu, List.getElem?_take, if_pos hi]; exact h
 have h3 := List.all_takeWhile (p := OC) (l := L)
 rw [List.all_eq_true] at h3
 exact h3 x (List.mem_of_getElem? h1)
theorem OM : ∀ {L : List (Val × Int)} {x : Val × Int}, L[He L]? = some x → OC x = false
 | [], _, h => by cases h
 | y :: L, x, h => by
   unfold He at h
   rw [List.takeWhile_cons] at h
   cases hq : OC y with
   | true =>
     rw [hq, if_pos rfl, List.length_cons, List.getElem?_cons_succ] at h
     exact OM h
   | false =>
     rw [hq, if_neg (by decide)] at h
     simp only [List.length_nil, List.getElem?_cons_zero, Option.some.injEq] at h
     subst h; exact hq
theorem Se (L : List (Val × Int)) : BW (L.take (He L)) = L.take (He L) := by
 rw [Lv, List.filter_eq_self]
 intro x hx
 obtain ⟨i, hi⟩ := List.mem_iff_getElem?.1 hx
 rw [List.getElem?_take] at hi
 split at hi
 ·exact Sd ‹_› hi
 ·cases hi
theorem Jm {L : List (Val × Int)} {i : Nat} {x : Val × Int} (h : L[i]? = some x) : BW (L.take (i + 1)) = BW (L.take i) ++ (if OC x then [x] else []) := by
 rw [Lv, Lv, A9 h, List.filter_append]
 congr 1
 by_cases hq : OC x = true <;> simp [hq]
theorem Jn (x : Val × Int) : PCall Tryz.prog 236 [.agg (Cu x)] (.v (.one (.lit (.bool (!OC x))))) := by
 refine Ac hT Tryz.func236 Tryz.ntmps236 [.tmp 2] fun B => ?_
 repeat' (first | refine kz ?_ | refine kf ?_ | fail)
 all_goals (refine congrArg Dat.lit (congrArg Value.bool ?_); unfold OC; by_cases h : x.1.kind = 0 <;> simp [h])
theorem ON (L : List (Val × Int)) (hl : L.length ≤ 4096) : PCall Tryz.prog 252 [.one (Eg L), .one (.lit (.func (.func 236) #[] #[]))] (.v (.one (.lit (.int .i64 (if He L < L.length then (He L : Int) else -1))))) := by
 have hll := Sc L
 refine Ac hT Tryz.func252 Tryz.ntmps252 [.tmp 4] fun B => ?_
 repeat' (first | refine kz ?_ | refine ki ?_ | refine kf ?_ | fail)
 refine AO (X := Nat) [4, 5, 8, 9, 10, 11, 12, 13, 14, 15, 16, 17, 18] (fun x => x ≤ He L) (fun x lz => (8, (.c (.d (.lit (.int .i64 x))))) :: lz) (fun x => []) (fun x => He L - x) (0) ?_ ?_ ?_ ?_
 repeat' (first | exact k0 | refine kw ?_ | omega)
 rintro i c hi
 by_cases hlt : i < He L
 ·have hv : L[i]? = some L[i] := List.getElem?_eq_getElem (by omega)
  have hnn := Sd hlt hv
  generalize L[i] = x at hv hnn
  have hv2 : (L.map Cu)[i]? = some (Cu x) := by rw [List.getElem?_map, hv]; rfl
  have hc := Jn x
  rw [hnn] at hc
  repeat' (first | refine kz ?_ | refine kx hv2 ?_ | refine ki ?_ | refine Aa (hc) ?_ | refine kf ?_ | fail)
  (apply Ae (i + 1); all_goals (try dsimp only); all_goals (try (repeat' (first | exact k0 | refine kw ?_ | omega))))
 ·obtain rfl : i = He L := by omega
  by_cases hpl : He L < L.length
  · rw [if_pos hpl]
    have hv : L[He L]? = some L[He L] := List.getElem?_eq_getElem hpl
    have hnn := OM hv
    generalize L[He L] = x at hv hnn
    have hv2 : (L.map Cu)[He L]? = some (Cu x) := by rw [List.getElem?_map, hv]; rfl
    have hc := Jn x
    rw [hnn] at hc
    repeat' (first | refine kz ?_ | refine kx hv2 ?_ | refine ki ?_ | refine Aa (hc) ?_ | refine kf ?_ | fail)
    all_goals rfl
  · rw [if_neg hpl]
    repeat' (first | refine kz ?_ | refine ki ?_ | refine kf ?_ | fail)
    all_goals rfl
theorem Mv (L : List (Val × Int)) (hl : L.length ≤ 4096) (hne : L ≠ []) : HCall Tryz.prog 235 [.c (.d (Eg L))] [] (.c (.arr 0 1 L.length)) [.arr 1 186 4 (L.map Cu)] := by
 have hpos : 0 < L.length := List.length_pos_iff.2 hne
 refine As hT Tryz.func235 Tryz.ntmps235 [.tmp 2] fun B => ?_
 repeat' (first | refine kz ?_ | refine Au rfl (fun hb => ?_) (fun hb => ?_) | refine LF (fun b hnil => ?_) | refine kg ?_ ?_ | exact k0 | refine Ab ?_)
 all_goals first
  | (exfalso; exact hne (by simpa using hnil hb))
  | (simp; done)
  | rfl
theorem W1 (c s : Nat) : 0 = if c = Int.toNat 0 then 0 else 0 + Int.toNat 0 * s := by simp
theorem W2 (L : List (Val × Int)) (hl : L.length ≤ 4096) (hne : L ≠ []) (hpl : ¬ He L < L.length) : HCall Tryz.prog 234 [.c (.arr 0 0 L.length), .c (.d (.lit (.func (.func 236) #[] #[])))] [.arr 0 186 4 (L.map Cu)] (.c (.arr 0 1 (BW L).length)) [.arr 1 186 4 ((BW L).map Cu)] := by
 have hpos : 0 < L.length := List.length_pos_iff.2 hne
 have hidx := ON L hl
 have hll := Sc L
 have hsf : ∀ mem : List Blk, mem[0]? = some (.arr 0 186 4 (L.map Cu)) → SFs mem [.c (.arr 0 0 L.length), .c (.d (.lit (.func (.func 236) #[] #[])))] [.one (Eg L), .one (.lit (.func (.func 236) #[] #[]))] := fun mem hm => MI hm (by simp) (Ag (by simp))
 rw [if_neg hpl] at hidx
 have hnn : BW L = L := by
  have := Se L
  rw [show He L = L.length by omega, List.take_length] at this; exact this
 rw [hnn]
 refine As hT Tryz.func234 Tryz.ntmps234 [.tmp 4] fun B => ?_
 repeat' (first | refine kz ?_ | refine En hidx (hsf _ rfl) ?_ | refine kg ?_ ?_ | exact k0 | refine Ab ?_)
theorem W3 {c s : Nat} {a : Int} {i : Nat} (ha : a = i) (h : i < c) : i * s = if c = a.toNat then 0 else 0 + a.toNat * s := by
 subst ha; rw [if_neg (by omega)]; simp
theorem Lw (L : List (Val × Int)) : (BW L).length ≤ L.length := List.length_filter_le ..
theorem W4 (L : List (Val × Int)) (hl : L.length ≤ 4096) (hpl : He L < L.length) : HCall Tryz.prog 234 [.c (.arr 0 0 L.length), .c (.d (.lit (.func (.func 236) #[] #[])))] [.arr 0 186 4 (L.map Cu)] (.c (.arr 0 1 (BW L).length)) [.arr 1 186 4 ((BW L).map Cu)] := by
 have hidx := ON L hl
 have hsf : ∀ mem : List Blk, mem[0]? = some (.arr 0 186 4 (L.map Cu)) → SFs mem [.c (.arr 0 0 L.length), .c (.d (.lit (.func (.func 236) #[] #[])))] [.one (Eg L), .one (.lit (.func (.func 236) #[] #[]))] := fun mem hm => MI hm (by simp) (Ag (by simp))
 rw [if_pos hpl] at hidx
 have hv0 : L[He L]? = some L[He L] := List.getElem?_eq_getElem hpl
 have hn0 := OM hv0
 have hs0 := Jm hv0
 rw [if_neg (by simp [hn0]), List.append_nil, Se] at hs0
 have hl0 : (BW (L.take (He L + 1))).length = He L := by rw [hs0]; simp; omega
 have hm0 : (L.map Cu).take (He L) = (BW (L.take (He L + 1))).map Cu := by rw [hs0, List.map_take]
 generalize He L = p at hidx hpl hl0 hm0
 clear hv0 hn0 hs0
 refine As hT Tryz.func234 Tryz.ntmps234 [.tmp 4] fun B => ?_
 repeat' (first | refine kz ?_ | refine En hidx (hsf _ rfl) ?_ | refine kg ?_ ?_ | exact k0 | refine Ab ?_)
 refine AO (X := Nat × List (List Dat)) [5, 6, 7, 16, 17, 18, 19, 20, 21, 22, 23, 24, 25, 26, 27, 28, 29, 30, 31, 32, 33, 34, 35] (fun x => x.1 ≤ L.length ∧ x.2.length = L.length ∧ (BW (L.take x.1)).length < x.1 ∧ x.2.take (BW (L.take x.1)).length = (BW (L.take x.1)).map Cu ∧ x.2.drop x.1 = (L.drop x.1).map Cu ∧ (∀ e ∈ x.2, e.length = 4)) (fun x lz => (6, (.c (.d (.lit (.int .i64 x.1))))) :: (5, (.c (.d (.lit (.int .i64 (BW (L.take x.1)).length))))) :: lz) (fun x => [.arr 0 186 4 x.2]) (fun x => L.length - x.1) ((p + 1, L.map Cu)) ?_ ?_ ?_ ?_
 repeat' (first | exact k0 | refine kw ?_ | refine kv ?_ ?_ | omega)
 all_goals first
  | (rw [hl0]; done)
  | (dsimp only; exact ⟨by omega, by simp, by omega, by rw [hl0]; exact hm0, by rw [List.map_drop], fun e he => by obtain ⟨y, _, rfl⟩ := List.mem_map.1 he; rfl⟩)
  | skip
 rintro ⟨j, M⟩ c ⟨hj, hM, hij, hT, hD, h4⟩
 dsimp only at hj hM hij hT hD h4 ⊢
 by_cases hjl : j < L.length
 ·have hv : L[j]? = some L[j] := List.getElem?_eq_getElem hjl
  generalize L[j] = x at hv
  have hMv : M[j]? = some (Cu x) := by
    have h1 : (M.drop j)[0]? = some (Cu x) := by rw [hD, AD hv]; rfl
    rw [List.getElem?_drop] at h1; simpa using h1
  have hsn := Jm hv
  have hnu := Jn x
  have hD' : M.drop (j + 1) = (L.drop (j + 1)).map Cu := by
    have : (M.drop j).drop 1 = ((L.drop j).map Cu).drop 1 := by rw [hD]
    rw [List.drop_drop, AD hv, List.map_cons, List.drop_succ_cons, List.drop_zero] at this
    exact this
  obtain ⟨n, hn⟩ : ∃ n, n = (BW (L.take j)).length := ⟨_, rfl⟩
  rw [← hn] at hij hT ⊢
  cases hnn : OC x with
  | true =>
    rw [hnn] at hnu hsn
    rw [if_pos rfl] at hsn
    have hn' : (BW (L.take (j + 1))).length = n + 1 := by rw [hsn, List.length_append, ← hn]; rfl
    have hT' : (M.set n (Cu x)).take (n + 1) = (BW (L.take (j + 1))).map Cu := by
      rw [List.take_add_one, List.getElem?_set_self (by omega), List.take_set_of_le (Nat.le_refl _), hT, hsn, List.map_append]; rfl
    have hD2 : (M.set n (Cu x)).drop (j + 1) = (L.drop (j + 1)).map Cu := by
      rw [List.drop_set_of_lt (by omega)]; exact hD'
    have hMn : M[n]? = some M[n] := List.getElem?_eq_getElem (by omega)
    have hm4 := h4 _ (List.mem_of_getElem? hMn)
    generalize M[n] = mn at hMn hm4
    obtain ⟨m1, m2, m3, m4, rfl⟩ : ∃ a b c d, mn = [a, b, c, d] := by
      match mn, hm4 with
      | [a, b, c, d], _ => exact ⟨a, b, c, d, rfl⟩
    repeat' (first | refine kz ?_ | refine kx hMv ?_ | refine kx hMn ?_ | refine ki ?_ | refine Aa (hnu) ?_ | refine kg ?_ ?_ | exact k0 | refine Ab ?_)
    (apply Ae ((j + 1, M.set n (Cu x))); all_goals (try dsimp only); all_goals (try (repeat' (first | exact k0 | refine kw ?_ | refine kv ?_ ?_ | omega))))
    all_goals first
      | (rw [hn']; done)
      | (rw [hn']; rfl)
      | exact ⟨by omega, by simp [hM], by omega, by rw [hn']; exact hT', hD2, fun e he => by
          rcases List.mem_or_eq_of_mem_set he with q | q
          ·exact h4 e q
          ·subst q; rfl⟩
      | trace_state
  | false =>
    rw [hnn] at hnu hsn
    rw [if_neg (by decide), List.append_nil] at hsn
    repeat' (first | refine kz ?_ | refine kx hMv ?_ | refine ki ?_ | refine Aa (hnu) ?_ | refine kg ?_ ?_ | exact k0 | refine Ab ?_)
    (apply Ae ((j + 1, M)); all_goals (try dsimp only); all_goals (try (repeat' (first | exact k0 | refine kw ?_ | refine kv ?_ ?_ | omega))))
    all_goals first
      | (rw [hsn, ← hn]; done)
      | exact ⟨by omega, hM, by rw [hsn, ← hn]; omega, by rw [hsn, ← hn]; exact hT, hD', h4⟩
      | trace_state
 ·obtain rfl : j = L.length := by omega
  rw [List.take_length] at hij hT ⊢
  obtain ⟨n, hn⟩ : ∃ n, n = (BW L).length := ⟨_, rfl⟩
  rw [← hn] at hij hT ⊢
  refine YJ 0 rfl rfl (fun h _ => absurd (congrArg List.length h) (by simp; omega)) ?_
  intro bb cc hc hlc hcm
  rw [hM] at hlc
  simp only [List.set_cons_zero]
  have hof : L.length - n = 0 ∨ n * ti186.size = n * ti186.size := .inr rfl
  repeat' (first | ((with_reducible (refine U0 ?_)); refine ZM 0 0 ?_ (by exact rfl) hc; refine UY 4 (r := 0) ?_ (by exact rfl) hc) | refine kz ?_ | refine Xe ?_ | refine ME (a := (n : Int)) (b := (L.length : Int)) (c := cc) (off' := n * ti186.size) (m' := L.length - n) (c' := cc - n) ?_ (by omega) (by omega) (by omega) (W3 rfl (by omega)) (by omega) (by omega) | refine ME (a := 0) (b := (n : Int)) (c := cc) (off' := 0) (m' := n) (c' := cc) ?_ (by omega) (by omega) (by omega) (W1 _ _) (by omega) (by omega) | refine Sy (ei := ti186) (r := 0) (c := cc) (o := n) (m := L.length - n) ?_ (by exact rfl) hc (by omega) (by omega) (.inr rfl) (by exact hT) | refine AX Af ?_ ?_ | exact k0 | refine Ab ?_)
  all_goals trace_state
end Go.Proofs.YtmpgmjlanngkfaaGreat
end
