/-
  Expressions: the document's evaluation.
-/
import Derived.Test.YtmpgmjlanngkfaaGreatExc
import Derived.Test.YtmpgmjlanngkfaaGreatExk
section
namespace Go.Proofs.YtmpgmjlanngkfaaGreat
open Go.Abs Go.RowKit
attribute [local irreducible] ARun At MCall PCall HCall Am SF CF CFs Ah Aj Ar fin AW VLe
set_option linter.unusedSimpArgs false
set_option maxRecDepth 100000
set_option maxHeartbeats 4000000
def FD (e : List Trm) (pos n : Nat) : Int := match AP [] n (e.drop pos) with
 | none => -1
 | some (_, r) => ((e.length - r.length : Nat) : Int)
theorem Ws (e : List Trm) (hl : e.length ≤ 100000) : ∀ (n pos : Nat), n ≤ 1000 → pos ≤ e.length → PCall Tryz.prog 248 [.one (AK e), .one (.lit (.int .i64 pos)), .one (.lit (.int .i64 n))] (.v (.one (.lit (.int .i64 (FD e pos n))))) := by
 intro n
 induction n with
 | zero =>
   intro pos _ hp
   have hm : FD e pos 0 = -1 := rfl
   rw [hm]
   refine Ac hT Tryz.func248 Tryz.ntmps248 [.tmp 6] fun B => ?_
   repeat' (first | refine kz ?_ | refine ki ?_ | refine kf ?_ | refine Ai rfl rfl (fun hb => ?_) (fun hb => ?_))
   all_goals rfl
 | succ n ih =>
   intro pos hn hp
   by_cases hlt : pos < e.length
   ·have hv : e[pos]? = some e[pos] := List.getElem?_eq_getElem hlt
    generalize e[pos] = t at hv
    have hd : e.drop pos = t :: e.drop (pos + 1) := AD hv
    have h1 := Nt t
    have h2 := JI t.op
    cases ht : CD t with
    | false =>
      have hm : FD e pos (n + 1) = -1 := by rw [FD, hd, KT ht]
      rw [hm]
      clear ih hd hm
      by_cases h0 : D6 t.op < 0
      ·refine Ac hT Tryz.func248 Tryz.ntmps248 [.tmp 6] fun B => ?_
       repeat' (first | refine kz ?_ | refine kx hv ?_ | refine ki ?_ | refine Aa (h1) ?_ | refine Aa (h2) ?_ | refine kf ?_ | refine Ai rfl rfl (fun hb => ?_) (fun hb => ?_))
       all_goals rfl
      ·have hf : CS t = false := by
         rw [CD, decide_eq_true (by omega), Bool.true_and] at ht
         exact ht
       rw [hf] at h1
       clear ht
       refine Ac hT Tryz.func248 Tryz.ntmps248 [.tmp 6] fun B => ?_
       repeat' (first | refine kz ?_ | refine kx hv ?_ | refine ki ?_ | refine Aa (h1) ?_ | refine Aa (h2) ?_ | refine kf ?_ | refine Ai rfl rfl (fun hb => ?_) (fun hb => ?_))
       all_goals rfl
    | true =>
      have h0 : 0 ≤ D6 t.op ∧ CS t = true := by
       simpa only [CD, Bool.and_eq_true, decide_eq_true_eq] using ht
      rw [h0.2] at h1
      have h3 := (Hu t.op).2
      obtain ⟨k, hk⟩ := Int.eq_ofNat_of_zero_le h0.1
      have hmk : ∀ {xs r}, Bj (AP [] n) k (e.drop (pos + 1)) = some (xs, r) → FD e pos (n + 1) = ((e.length - r.length : Nat) : Int) := fun {xs r} hs => by
       rw [FD, hd, FW ht (by rw [hk]; exact hs)]
      have hno : Bj (AP [] n) k (e.drop (pos + 1)) = none → FD e pos (n + 1) = -1 := fun hs => by
       rw [FD, hd, Nx (by rw [hk]; exact hs)]
      rw [hk] at h2
      clear hd ht h0
      refine Ac hT Tryz.func248 Tryz.ntmps248 [.tmp 6] fun B => ?_
      repeat' (first | refine kz ?_ | refine kx hv ?_ | refine ki ?_ | refine Aa (h1) ?_ | refine Aa (h2) ?_ | refine kf ?_ | refine Ai rfl rfl (fun hb => ?_) (fun hb => ?_))
      refine AO (X := Nat × Nat) [1, 6, 8, 42, 43, 44, 45, 46, 47, 48, 49, 50, 51, 52, 53] (fun x => x.1 ≤ k ∧ pos + 1 ≤ x.2 ∧ x.2 ≤ e.length ∧ ∃ xs, Bj (AP [] n) x.1 (e.drop (pos + 1)) = some (xs, e.drop x.2)) (fun x lz => (1, (.c (.d (.lit (.int .i64 x.2))))) :: (8, (.c (.d (.lit (.int .i64 x.1))))) :: lz) (fun x => []) (fun x => k - x.1) ((0, pos + 1)) ?_ ?_ ?_ ?_
      repeat' (first | exact k0 | refine kw ?_ | omega)
      ·dsimp only; exact ⟨by omega, by omega, by omega, [], rfl⟩
      rintro ⟨i, en⟩ c ⟨hi, he1, he2, xs, hs⟩
      dsimp only at hi he1 he2 hs ⊢
      by_cases hik : i < k
      ·have hc := ih en (by omega) he2
       rw [show (n : Int) = ((n + 1 : Nat) : Int) - 1 by omega] at hc
       cases hq : AP [] n (e.drop en) with
       | none =>
         have hm : FD e en n = -1 := by rw [FD, hq]
         rw [hm] at hc
         rw [hno (Gi hs hq k hik)]
         clear ih hmk hno
         repeat' (first | refine kz ?_ | refine kx hv ?_ | refine ki ?_ | refine Aa (hc) ?_ | refine kf ?_ | refine Ai rfl rfl (fun hb => ?_) (fun hb => ?_))
         all_goals rfl
       | some q =>
         obtain ⟨y, r⟩ := q
         obtain ⟨j, hj1, hj2, hj3⟩ := EO hq
         rw [List.length_drop] at hj2
         rw [List.drop_drop] at hj3
         have hm : FD e en n = ((en + j : Nat) : Int) := by
           rw [FD, hq]
           simp only [hj3, List.length_drop]
           congr 1
           omega
         rw [hm] at hc
         rw [hj3] at hq
         have hs' := Id hs hq
         clear ih hmk hno hm hq hs
         generalize xs ++ [y] = xs' at hs'
         repeat' (first | refine kz ?_ | refine kx hv ?_ | refine ki ?_ | refine Aa (hc) ?_ | refine kf ?_ | refine Ai rfl rfl (fun hb => ?_) (fun hb => ?_))
         (apply Ae ((i + 1, en + j)); all_goals (try dsimp only); all_goals (try (repeat' (first | exact k0 | refine kw ?_ | omega))))
         · exact ⟨by omega, by omega, by omega, xs', hs'⟩
      ·obtain rfl : i = k := by omega
       rw [hmk hs, List.length_drop]
       clear ih hmk hno
       repeat' (first | refine kz ?_ | refine kx hv ?_ | refine ki ?_ | refine kf ?_ | refine Ai rfl rfl (fun hb => ?_) (fun hb => ?_))
       all_goals (refine congrArg Dat.lit (congrArg (Value.int _) ?_); omega)
   ·have hm : FD e pos (n + 1) = -1 := by rw [FD, List.drop_eq_nil_of_le (by omega)]; rfl
    rw [hm]
    clear ih
    refine Ac hT Tryz.func248 Tryz.ntmps248 [.tmp 6] fun B => ?_
    repeat' (first | refine kz ?_ | refine ki ?_ | refine kf ?_ | refine Ai rfl rfl (fun hb => ?_) (fun hb => ?_))
    all_goals rfl
theorem JJ (e : List Trm) : PCall Tryz.prog 228 [.one (AK e)] (.v (.one (.lit (.bool (Cc e))))) := by
 by_cases hl : e.length < 1 ∨ 64 < e.length
 · have h0 : Cc e = false := by
    rcases hl with hl | hl
    · obtain rfl := List.length_eq_zero_iff.1 (show e.length = 0 by omega)
      rfl
    · rw [Cc, decide_eq_false (by omega), Bool.false_and]
   rw [h0]
   rcases hl with hl | hl
   ·refine Ac hT Tryz.func228 Tryz.ntmps228 [.tmp 2] fun B => ?_
    repeat' (first | refine kz ?_ | refine kf ?_ | fail)
    all_goals rfl
   ·refine Ac hT Tryz.func228 Tryz.ntmps228 [.tmp 2] fun B => ?_
    repeat' (first | refine kz ?_ | refine kf ?_ | fail)
    all_goals rfl
 have hc : PCall Tryz.prog 248 [.one (AK e), .one (.lit (.int .i64 0)), .one (.lit (.int .i64 16))] (.v (.one (.lit (.int .i64 (FD e 0 16))))) := Ws e (by omega) 16 0 (by omega) (by omega)
 rw [FD, List.drop_zero] at hc
 cases hq : AP [] 16 e with
 | none =>
   have h0 : Cc e = false := by rw [Cc, hq, Bool.and_false]
   rw [hq] at hc
   rw [h0]
   dsimp only at hc
   refine Ac hT Tryz.func228 Tryz.ntmps228 [.tmp 2] fun B => ?_
   repeat' (first | refine kz ?_ | refine Aa (hc) ?_ | refine kf ?_ | fail)
   all_goals (refine congrArg Dat.lit (congrArg Value.bool ?_); rw [Bool.eq_iff_iff]; simp; try omega)
 | some q =>
   obtain ⟨y, r⟩ := q
   obtain ⟨j, hj1, hj2, hj3⟩ := EO hq
   rw [hq] at hc
   dsimp only at hc
   have hrl : r.length ≤ e.length := by rw [hj3, List.length_drop]; omega
   have h0 : Cc e = decide (r.length = 0) := by
    rw [Cc, hq, decide_eq_true (by omega), Bool.true_and]
    cases r with
    | nil => rfl
    | cons a l => rfl
   rw [h0]
   clear h0 hj3 hq
   generalize r.length = rl at *
   refine Ac hT Tryz.func228 Tryz.ntmps228 [.tmp 2] fun B => ?_
   repeat' (first | refine kz ?_ | refine Aa (hc) ?_ | refine kf ?_ | fail)
   all_goals (refine congrArg Dat.lit (congrArg Value.bool ?_); rw [Bool.eq_iff_iff]; simp; omega)
theorem NC (op : Int) (hop : op = 3 ∨ op = 9 ∨ op = 13 ∨ op = 16) (a b c : Val) (va : a.valid = true) : PCall Tryz.prog 250 [.one (.lit (.int .i64 op)), .one (AU [a])] (.v (.agg (Dm op a b c).d)) := by
 have hv : ∀ v ∈ [a], v.valid = true := by simp [va]
 rcases hop with rfl | rfl | rfl | rfl
 ·rw [show Dm 3 a b c = GX 3 a a by simp [Dm]]
  exact Bi 3 (by omega) [a] _ (fun _ => Q8 a va) (fun ⟨v, h1, h2⟩ => by simp at h1; subst h1; exact if_pos (.inl (by omega))) hv
 ·rw [show Dm 9 a b c = B5 9 a b by simp [Dm]]
  exact Bi 9 (by omega) [a] _ (fun _ => Ra a b) (fun ⟨v, h1, h2⟩ => by simp at h1; subst h1; exact if_pos (by omega)) hv
 ·rw [show Dm 13 a b c = GX 13 a a by simp [Dm]]
  exact Bi 13 (by omega) [a] _ (fun _ => O6 a) (fun ⟨v, h1, h2⟩ => by simp at h1; subst h1; exact if_pos (.inl (by omega))) hv
 ·rw [show Dm 16 a b c = Br (a.same Val.null) by rw [Fb va]; simp [Dm, IY], ← Nz]
  refine Ac hT Tryz.func250 Tryz.ntmps250 [.cell 4 73] fun B => ?_
  repeat' (first | refine kz ?_ | refine ki ?_ | refine Aa (Do _) ?_ | refine kf ?_ | exact k0 | refine kg ?_ ?_ | fail)
  all_goals rfl
theorem ND (op : Int) (hop : op = 4 ∨ op = 5 ∨ op = 6 ∨ op = 7 ∨ op = 8 ∨ op = 10 ∨ op = 11 ∨ op = 12 ∨ op = 14 ∨ op = 15 ∨ op = 17) (a b c : Val) (va : a.valid = true) (vb : b.valid = true) : PCall Tryz.prog 250 [.one (.lit (.int .i64 op)), .one (AU [a, b])] (.v (.agg (Dm op a b c).d)) := by
 have hv : ∀ v ∈ [a, b], v.valid = true := by simp [va, vb]
 have hn : ∀ {R : Val}, (a.kind = 0 → R = Val.null) → (b.kind = 0 → R = Val.null) → (∃ v ∈ [a, b], v.kind = 0) → R = Val.null := fun {R} h1 h2 ⟨v, h3, h4⟩ => by
  simp at h3
  rcases h3 with rfl | rfl
  ·exact h1 h4
  ·exact h2 h4
 have har : ∀ o : Int, (a.kind = 0 → GX o a b = Val.null) ∧ (b.kind = 0 → GX o a b = Val.null) := fun o => ⟨fun h => if_pos (.inl (by omega)), fun h => if_pos (.inr (by omega))⟩
 have hnz : (∀ v ∈ [a, b], v.kind ≠ 0) → a.kind ≠ 0 := fun h => h a (by simp)
 rcases hop with h | h | h | h | rfl | rfl | rfl | rfl | rfl | rfl | rfl
 ·rw [show Dm op a b c = GX op a b by rw [h]; simp [Dm]]
  exact Bi op (by omega) [a, b] _ (fun _ => Gm op (by omega) a b va vb) (hn (har op).1 (har op).2) hv
 ·rw [show Dm op a b c = GX op a b by rw [h]; simp [Dm]]
  exact Bi op (by omega) [a, b] _ (fun _ => Gm op (by omega) a b va vb) (hn (har op).1 (har op).2) hv
 ·rw [show Dm op a b c = GX op a b by rw [h]; simp [Dm]]
  exact Bi op (by omega) [a, b] _ (fun _ => Gm op (by omega) a b va vb) (hn (har op).1 (har op).2) hv
 ·rw [show Dm op a b c = GX op a b by rw [h]; simp [Dm]]
  exact Bi op (by omega) [a, b] _ (fun _ => Gm op (by omega) a b va vb) (hn (har op).1 (har op).2) hv
 ·rw [show Dm 8 a b c = B5 8 a b by simp [Dm]]
  exact Bi 8 (by omega) [a, b] _ (fun _ => Q9 a b va vb) (hn (fun h => if_pos (by omega)) (fun h => by
   unfold B5
   split
   ·rfl
   ·rw [if_neg (by omega), if_neg (fun q => by omega), if_neg (fun q => by omega)])) hv
 ·rw [show Dm 10 a b c = B5 10 a b by simp [Dm]]
  exact Bi 10 (by omega) [a, b] _ (fun _ => O7 a b) (hn (fun h => if_pos (by omega)) (fun h => by
   unfold B5
   split
   ·rfl
   ·rw [if_neg (by omega), if_neg (fun q => by omega), if_neg (fun q => by omega)])) hv
 ·rw [show Dm 11 a b c = EM 11 a b by simp [Dm]]
  exact Bi 11 (by omega) [a, b] _ (fun h => O8 a b (hnz h)) (hn (fun h => if_pos (.inl h)) (fun h => by
   by_cases k : a.kind = 0
   ·exact if_pos (.inl k)
   ·exact if_pos (.inr (by omega)))) hv
 ·rw [show Dm 12 a b c = EM 12 a b by simp [Dm]]
  exact Bi 12 (by omega) [a, b] _ (fun h => O9 a b (hnz h)) (hn (fun h => if_pos (.inl h)) (fun h => by
   by_cases k : a.kind = 0
   ·exact if_pos (.inl k)
   ·exact if_pos (.inr (by omega)))) hv
 ·rw [show Dm 14 a b c = Nv a b by simp [Dm, IY]]
  have h1 := C9 a
  have h2 := C9 b
  have h3 := LU a b
  refine Ac hT Tryz.func250 Tryz.ntmps250 [.cell 4 73] fun B => ?_
  repeat' (first | refine kz ?_ | refine ki ?_ | refine Aa (h1) ?_ | refine Aa (h2) ?_ | refine Aa (h3) ?_ | refine kf ?_ | exact k0 | refine kg ?_ ?_ | fail)
  all_goals rfl
 ·rw [show Dm 15 a b c = Wr a b by simp [Dm, IY]]
  have h1 := C9 a
  have h2 := C9 b
  have h3 := LV a b
  refine Ac hT Tryz.func250 Tryz.ntmps250 [.cell 4 73] fun B => ?_
  repeat' (first | refine kz ?_ | refine ki ?_ | refine Aa (h1) ?_ | refine Aa (h2) ?_ | refine Aa (h3) ?_ | refine kf ?_ | exact k0 | refine kg ?_ ?_ | fail)
  all_goals rfl
 ·have hsn := Fb va
  rw [← Nz] at hsn
  by_cases k : a.kind = 0
  ·rw [show Dm 17 a b c = b by simp [Dm, IY, k]]
   rw [decide_eq_true k] at hsn
   refine Ac hT Tryz.func250 Tryz.ntmps250 [.cell 4 73] fun B => ?_
   repeat' (first | refine kz ?_ | refine ki ?_ | refine kf ?_ | exact k0 | refine kg ?_ ?_ | fail)
   all_goals first | rfl | (exfalso; simp_all; done)
  ·rw [show Dm 17 a b c = a by simp [Dm, IY, k]]
   rw [decide_eq_false k] at hsn
   refine Ac hT Tryz.func250 Tryz.ntmps250 [.cell 4 73] fun B => ?_
   repeat' (first | refine kz ?_ | refine ki ?_ | refine kf ?_ | exact k0 | refine kg ?_ ?_ | fail)
   all_goals first | rfl | (exfalso; simp_all; done)
theorem NE (a b c : Val) : PCall Tryz.prog 250 [.one (.lit (.int .i64 18)), .one (AU [a, b, c])] (.v (.agg (Dm 18 a b c).d)) := by
 have h1 := C9 a
 rw [show Dm 18 a b c = if OE a then b else c by simp [Dm, IY]]
 cases ht : OE a with
 | true =>
   rw [(Hy a).1 ht] at h1
   refine Ac hT Tryz.func250 Tryz.ntmps250 [.cell 4 73] fun B => ?_
   repeat' (first | refine kz ?_ | refine ki ?_ | refine Aa (h1) ?_ | refine kf ?_ | exact k0 | refine kg ?_ ?_ | fail)
   all_goals rfl
 | false =>
   have hne : Bh a ≠ 1 := fun q => by rw [(Hy a).2 q] at ht; cases ht
   generalize Bh a = z at h1 hne
   refine Ac hT Tryz.func250 Tryz.ntmps250 [.cell 4 73] fun B => ?_
   repeat' (first | refine kz ?_ | refine ki ?_ | refine Aa (h1) ?_ | refine kf ?_ | exact k0 | refine kg ?_ ?_ | fail)
   all_goals first | rfl | (exfalso; simp_all; done)
theorem Pa (op : Int) (vs : List Val) (hl : (vs.length : Int) = D6 op) (h3 : op ≠ 1 ∧ op ≠ 2) (hv : ∀ v ∈ vs, v.valid = true) : PCall Tryz.prog 250 [.one (.lit (.int .i64 op)), .one (AU vs)] (.v (.agg (Dm op (EN vs 0) (EN vs 1) (EN vs 2)).d)) := by
 unfold D6 at hl
 split at hl
 ·omega
 split at hl
 ·rename_i _ h
  match vs, hl with
  | [a], _ => exact NC op (by omega) a _ _ (hv a (by simp))
 split at hl
 ·rename_i _ _ h
  match vs, hl with
  | [a, b, c], _ => rw [h]; exact NE a b c
 split at hl
 ·rename_i _ _ _ h
  match vs, hl with
  | [a, b], _ => exact ND op (by omega) a b _ (hv a (by simp)) (hv b (by simp))
 ·omega
def Ey (ss : List (List Trm)) : Dat := .sl (ss.map fun s => [AK s])
theorem Rb {ss : List (List Trm)} {i : Nat} {s : List Trm} (h : ss[i]? = some s) : ss.flatten.drop (ss.take i).flatten.length = s ++ (ss.drop (i + 1)).flatten := by
 have e : ss.flatten = (ss.take i).flatten ++ (s ++ (ss.drop (i + 1)).flatten) := by
  conv => lhs; rw [← List.take_append_drop i ss, List.flatten_append, AD h, List.flatten_cons]
 rw [e, List.drop_left]
theorem KU {ss : List (List Trm)} {i : Nat} {s : List Trm} (h : ss[i]? = some s) : (ss.take (i + 1)).flatten.length = (ss.take i).flatten.length + s.length := by
 rw [List.take_add_one, h]; simp
theorem Qf (ss : List (List Trm)) (i : Nat) : (ss.take i).flatten.length ≤ ss.flatten.length := by
 conv => rhs; rw [← List.take_append_drop i ss, List.flatten_append, List.length_append]
 omega
theorem Pb (e : List Trm) (t : Trm) (ss : List (List Trm)) (he : e = t :: ss.flatten) (hl : e.length ≤ 90000) (h : ∀ s ∈ ss, 0 < s.length ∧ ∃ x, ∀ r, AP [] 16 (s ++ r) = some (x, r)) : PCall Tryz.prog 249 [.one (AK e)] (.v (.one (Ey ss))) := by
 have hel : e.length = ss.flatten.length + 1 := by rw [he, List.length_cons]
 have hlen : ss.length ≤ ss.flatten.length := by
  clear hl hel he
  induction ss with
  | nil => simp
  | cons s ss ih =>
    have h1 := ih fun x hx => h x (by simp [hx])
    have h2 := (h s (by simp)).1
    simp only [List.flatten_cons, List.length_append, List.length_cons]; omega
 have hf : List.take ss.length (ss.map fun s => [AK s]) = ss.map fun s => [AK s] := Ag (by simp)
 refine Ac hT Tryz.func249 Tryz.ntmps249 [.tmp 2] fun B => ?_
 repeat' (first | refine kz ?_ | refine kf ?_ | fail)
 refine BA 3 26 1 ?_
 refine AO (X := Nat × Nat) [3, 4, 5, 6, 7, 8, 9, 10, 11, 12, 13, 14, 15, 16, 17, 18, 19, 20] (fun x => x.1 ≤ ss.length) (fun x lz => (3, .c (.arr 0 x.2 x.1)) :: (4, (.c (.d (.lit (.int .i64 ((1 + (ss.take x.1).flatten.length : Nat) : Int)))))) :: lz) (fun x => [.arr x.2 26 1 ((ss.take x.1).map fun s => [AK s])]) (fun x => ss.length - x.1) ((0, 1)) ?_ ?_ ?_ ?_
 repeat' (first | exact k0 | refine kw ?_ | refine kv ?_ ?_ | omega)
 rintro ⟨i, k⟩ c hi
 dsimp only at hi ⊢
 have hil : (ss.take i).length = i := by simp; omega
 by_cases hlt : i < ss.length
 ·have hv : ss[i]? = some ss[i] := List.getElem?_eq_getElem hlt
  generalize ss[i] = s at hv
  obtain ⟨h0, x, hx⟩ := h s (List.mem_of_getElem? hv)
  have hft := KU hv
  have hfl := Qf ss (i + 1)
  have hdr : e.drop (1 + (ss.take i).flatten.length) = s ++ (ss.drop (i + 1)).flatten := by
    rw [he, Nat.add_comm, List.drop_succ_cons, Rb hv]
  have hc := Ws e (by omega) 16 (1 + (ss.take i).flatten.length) (by omega) (by omega)
  have hr : ((ss.drop (i + 1)).flatten).length + (s.length + (1 + (ss.take i).flatten.length)) = e.length := by
    have := congrArg List.length hdr
    rw [List.length_drop, List.length_append] at this
    omega
  have hE : FD e (1 + (ss.take i).flatten.length) 16 = ((1 + (ss.take i).flatten.length + s.length : Nat) : Int) := by
    rw [FD, hdr, hx]
    simp only
    congr 1; omega
  rw [hE] at hc
  have hsl : (e.take (1 + (ss.take i).flatten.length + s.length)).drop (1 + (ss.take i).flatten.length) = s := by
    rw [List.drop_take, Nat.add_sub_cancel_left, hdr]; simp
  have hmap : (ss.take (i + 1)).map (fun s => [AK s]) = (ss.take i).map (fun s => [AK s]) ++ [[AK s]] := EU _ hv
  generalize hn : 1 + (ss.take i).flatten.length = n at *
  have hn1 : 1 + (ss.take (i + 1)).flatten.length = n + s.length := by omega
  clear hx hdr hE h he
  repeat' (first | refine kz ?_ | refine Aa (hc) ?_ | refine kf ?_ | fail)
  rw [hsl]
  (apply Ae ((i + 1, _)); all_goals (try dsimp only); all_goals (try (repeat' (first | exact k0 | refine w1 ?_ | refine Ab ?_ | refine m1 ?_ ?_ | omega))))
  all_goals first | (exact hmap.symm) | (refine congrArg _ ?_; omega) | skip
 ·obtain rfl : i = ss.length := by omega
  rw [show ss.take ss.length = ss from Ag (Nat.le_refl _)]
  clear h he
  repeat' (first | refine Aw 3 ?_ (hes := hf) | refine kz ?_ | refine A4 Af ?_ | refine Bo ?_)
  all_goals rfl
theorem Pc (row : List Val) : ∀ (n : Nat) (e : List Trm) (x : Nat × Val), n ≤ 16 → e.length ≤ 64 → AP row n e = some (x, []) → PCall Tryz.prog 229 [.one (AK e), .one (AU row)] (.v (.agg x.2.d)) := by
 intro n
 induction n with
 | zero => intro e x _ _ h; cases h
 | succ n ih =>
   intro e x hn hl hx
   obtain ⟨m, t, l', xs, hm, he, ht, hs, hx1⟩ := CE hx
   obtain rfl : n = m := by omega
   simp only at hs hx1
   have hv : e[0]? = some t := by rw [he]; rfl
   have h0 : 0 ≤ D6 t.op ∧ CS t = true := by
    simpa only [CD, Bool.and_eq_true, decide_eq_true_eq] using ht
   rw [hx1]
   dsimp only
   by_cases o1 : t.op = 1
   ·rw [show Te t row (xs.map Prod.snd) = t.v from if_pos o1]
    clear ih
    refine Ac hT Tryz.func229 Tryz.ntmps229 [.cell 4 73] fun B => ?_
    repeat' (first | refine kz ?_ | refine kx hv ?_ | refine ki ?_ | refine kf ?_ | exact k0 | refine kg ?_ ?_ | fail)
    all_goals rfl
   by_cases o2 : t.op = 2
   ·rw [show Te t row (xs.map Prod.snd) = (EH row t.col).clean by rw [Te, if_neg o1, if_pos o2]]
    have hcol : 0 ≤ t.col := by
      have := h0.2
      rw [CS, if_neg o1, if_pos o2, Bool.and_eq_true, decide_eq_true_eq] at this
      exact this.1
    clear ih
    by_cases hk : t.col.toNat < row.length
    · have hr : row[t.col.toNat]? = some row[t.col.toNat] := List.getElem?_eq_getElem hk
      have hat : EH row t.col = row[t.col.toNat] := by
       have := LD hr
       rwa [Int.toNat_of_nonneg hcol] at this
      rw [hat]
      generalize row[t.col.toNat] = v at hr
      have hr2 : (row.map Val.d)[t.col.toNat]? = some v.d := by rw [List.getElem?_map, hr]; rfl
      refine Ac hT Tryz.func229 Tryz.ntmps229 [.cell 4 73] fun B => ?_
      repeat' (first | refine kz ?_ | refine kx hv ?_ | refine kx hr2 ?_ | refine ki ?_ | refine Aa (Fq v) ?_ | refine kf ?_ | exact k0 | refine kg ?_ ?_ | fail)
      all_goals rfl
    · rw [LC (by omega), show Val.null.clean = Val.null by unfold Val.clean; split <;> rfl]
      refine Ac hT Tryz.func229 Tryz.ntmps229 [.cell 4 73] fun B => ?_
      repeat' (first | refine kz ?_ | refine kx hv ?_ | refine ki ?_ | refine kf ?_ | exact k0 | refine kg ?_ ?_ | fail)
      all_goals rfl
   obtain ⟨ss, hss, hsl, hsq⟩ := Hw (Q := fun s a => 0 < s.length ∧ ∀ r', AP row n (s ++ r') = some (a, r')) (fun l a r hh => DR row n l a r hh) hs
   rw [List.append_nil] at hss
   have hxl := FV hs
   have hpart : ∀ s ∈ ss, 0 < s.length ∧ ∃ y, ∀ r, AP [] 16 (s ++ r) = some (y, r) := fun s hm' => by
    obtain ⟨i, hi, rfl⟩ := List.mem_iff_getElem.1 hm'
    obtain ⟨q1, q2⟩ := hsq i ss[i] xs[i] (List.getElem?_eq_getElem hi) (List.getElem?_eq_getElem (by omega))
    obtain ⟨y, hy, _⟩ := Gj row [] n _ _ _ (q2 [])
    have hyn := (BK [] n _ _ _ hy).2.2
    have hy16 := D7 [] n _ _ _ hy 16 (by omega)
    obtain ⟨s', e1, _, e3⟩ := DR [] 16 _ _ _ hy16
    rw [List.append_nil, List.append_nil] at e1
    refine ⟨q1, y, fun r => ?_⟩
    rw [e1]; exact e3 r
   have h1 := Pb e t ss (by rw [he, hss]) (by omega) hpart
   obtain ⟨vs, hvs⟩ : ∃ vs, vs = xs.map Prod.snd := ⟨_, rfl⟩
   have hvl : vs.length = ss.length := by rw [hvs, List.length_map, hxl, hsl]
   have hvv : ∀ v ∈ vs, v.valid = true := fun v hv' => by
    rw [hvs] at hv'
    obtain ⟨a, ha, rfl⟩ := List.mem_map.1 hv'
    obtain ⟨i, hi, rfl⟩ := List.mem_iff_getElem.1 ha
    obtain ⟨q1, q2⟩ := hsq i (ss[i]'(by omega)) xs[i] (List.getElem?_eq_getElem _) (List.getElem?_eq_getElem hi)
    exact (BK row n _ _ _ (q2 [])).1
   have hse : ∀ (i : Nat) (s : List Trm), ss[i]? = some s → ∃ v, vs[i]? = some v ∧ PCall Tryz.prog 229 [.one (AK s), .one (AU row)] (.v (.agg v.d)) := fun i s hi => by
    have hlt := lt_of_getElem? hi
    have hxi : xs[i]? = some (xs[i]'(by omega)) := List.getElem?_eq_getElem _
    obtain ⟨q1, q2⟩ := hsq i s _ hi hxi
    have q3 := q2 []
    rw [List.append_nil] at q3
    have hsle : s.length ≤ 64 := by
      have h1 := Qf ss (i + 1)
      have h2 := KU hi
      have h3 : e.length = ss.flatten.length + 1 := by rw [he, hss, List.length_cons]
      omega
    refine ⟨_, ?_, ih s _ (by omega) hsle q3⟩
    subst hvs
    rw [List.getElem?_map, hxi]; rfl
   have hap := Pa t.op vs (by rw [hvl, hsl]; omega) ⟨o1, o2⟩ hvv
   rw [show Te t row (xs.map Prod.snd) = Dm t.op (EN vs 0) (EN vs 1) (EN vs 2) by rw [Te, if_neg o1, if_neg o2, hvs]]
   generalize Dm t.op (EN vs 0) (EN vs 1) (EN vs 2) = R at hap ⊢
   have hf : List.take vs.length (vs.map Val.d) = vs.map Val.d := Ag (by simp)
   have hsb : ss.length ≤ 3 := by have := (Hu t.op).2; omega
   clear ih hs hsq hss hx hx1 hpart hvs hxl hvv he ht h0
   unfold Ey at h1
   refine Ac hT Tryz.func229 Tryz.ntmps229 [.cell 4 73] fun B => ?_
   repeat' (first | refine kz ?_ | refine kx hv ?_ | refine ki ?_ | refine Aa (h1) ?_ | refine kf ?_ | exact k0 | refine kg ?_ ?_ | fail)
   refine BA 5 73 3 ?_
   refine AO (X := Nat × Nat) [5, 7, 38, 39, 40, 41, 42, 43, 44, 45, 46, 47, 48, 49, 50, 51, 52] (fun x => x.1 ≤ ss.length) (fun x lz => (5, .c (.arr 1 x.2 x.1)) :: (7, (.c (.d (.lit (.int .i64 x.1))))) :: lz) (fun x => [.box 1 (Val.null.d.map .d), .arr x.2 73 3 ((vs.take x.1).map Val.d)]) (fun x => ss.length - x.1) ((0, 2)) ?_ ?_ ?_ ?_
   repeat' (first | exact k0 | refine kw ?_ | refine kv ?_ ?_ | omega)
   rintro ⟨i, k⟩ c hi
   dsimp only at hi ⊢
   by_cases hlt : i < ss.length
   ·have hsi : ss[i]? = some ss[i] := List.getElem?_eq_getElem hlt
    generalize ss[i] = s at hsi
    obtain ⟨v, hvi, hcall⟩ := hse i s hsi
    have hpi : (ss.map fun s => [AK s])[i]? = some [AK s] := by rw [List.getElem?_map, hsi]; rfl
    have hmap : (vs.take (i + 1)).map Val.d = (vs.take i).map Val.d ++ [v.d] := EU _ hvi
    have hil : (vs.take i).length = i := by simp; omega
    clear hse hap h1
    repeat' (first | refine kz ?_ | refine kx hv ?_ | refine kx hpi ?_ | refine ki ?_ | refine Aa (hcall) ?_ | refine kf ?_ | exact k0 | refine kg ?_ ?_ | fail)
    (apply Ae ((i + 1, _)); all_goals (try dsimp only); all_goals (try (repeat' (first | exact k0 | refine w1 ?_ | refine Ab ?_ | refine m1 ?_ ?_ | omega))))
    all_goals first | exact hmap.symm | skip
   ·obtain rfl : i = ss.length := by omega
    rw [← hvl, show vs.take vs.length = vs from Ag (Nat.le_refl _)]
    clear hse h1
    repeat' (first | refine Aw 5 ?_ (hes := hf) | refine kz ?_ | refine kx hv ?_ | refine ki ?_ | refine Aa (hap) ?_ | refine A4 Af ?_ | refine Ce ?_ | exact k0 | refine BJ ?_ ?_ | refine GT ?_)
    all_goals rfl
theorem Gn (e : List Trm) (row : List Val) : PCall Tryz.prog 190 [.one (AK e), .one (AU row)] (.v (.agg (Ek e row).d)) := by
 have h1 := JJ e
 cases hv : Cc e with
 | false =>
   rw [Th hv]
   rw [hv] at h1
   refine Ac hT Tryz.func190 Tryz.ntmps190 [.cell 4 73] fun B => ?_
   repeat' (first | refine kz ?_ | refine Aa (h1) ?_ | refine kf ?_ | exact k0 | refine kg ?_ ?_ | fail)
   all_goals rfl
 | true =>
   rw [hv] at h1
   obtain ⟨hl, x, hx⟩ := (C8 e row).1 hv
   rw [Tg hv hx]
   have h2 := Pc row 16 e x (by omega) hl hx
   clear hx
   generalize x.2 = v at h2 ⊢
   refine Ac hT Tryz.func190 Tryz.ntmps190 [.cell 4 73] fun B => ?_
   repeat' (first | refine kz ?_ | refine Aa (h1) ?_ | refine Aa (h2) ?_ | refine kf ?_ | exact k0 | refine kg ?_ ?_ | fail)
   all_goals rfl
theorem Pd (e : List Trm) (row : List Val) : PCall Tryz.prog 186 [.one (AK e), .one (AU row)] (.v (.one (.lit (.bool (E9 e row))))) := by
 have h1 := Gn e row
 have h2 := C9 (Ek e row)
 have h3 : E9 e row = (Bh (Ek e row) == 1) := by
  rw [Bool.eq_iff_iff, E9, Hy]; simp
 rw [h3]
 generalize Ek e row = v at h1 h2 ⊢
 generalize Bh v = z at h2 ⊢
 refine Ac hT Tryz.func186 Tryz.ntmps186 [.tmp 4] fun B => ?_
 repeat' (first | refine kz ?_ | refine Aa (h1) ?_ | refine Aa (h2) ?_ | refine kf ?_ | fail)
 all_goals rfl
end Go.Proofs.YtmpgmjlanngkfaaGreat
end
