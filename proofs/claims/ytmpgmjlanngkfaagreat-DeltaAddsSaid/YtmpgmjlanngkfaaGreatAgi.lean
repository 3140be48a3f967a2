/-
  Aggregates: ranked values, fold.
-/
import Derived.Test.YtmpgmjlanngkfaaGreatAgr
section
namespace Go.Proofs.YtmpgmjlanngkfaaGreat
open Go.Abs Go.RowKit
attribute [local irreducible] ARun kont MCall PCall HCall resVal SF CF CFs defersOk slotsIn memIn fin finM VLe
set_option linter.unusedSimpArgs false
set_option maxRecDepth 100000
set_option maxHeartbeats 4000000
def cnD (x : Val × Int) : List Dat := [.lit (.int .i64 x.1.kind), .lit (.int .i64 x.1.int), .lit (.string x.1.text), .lit (.int .i64 x.2)]
def cntsD (L : List (Val × Int)) : Dat := .sl (L.map cnD)
def Bnd (L : List (Val × Int)) : Prop := L.length ≤ 4096 ∧ ∀ x ∈ L, (-4294967296 ≤ x.1.int ∧ x.1.int ≤ 4294967296) ∧ -262144 ≤ x.2 ∧ x.2 ≤ 262144
theorem prod_bd {a b : Int} (ha : -4294967296 ≤ a ∧ a ≤ 4294967296) (hb : -262144 ≤ b ∧ b ≤ 262144) : -1125899906842624 ≤ a * b ∧ a * b ≤ 1125899906842624 := by
  have h1 : (a * b).natAbs ≤ 4294967296 * 262144 := by
    rw [Int.natAbs_mul]
    exact Nat.mul_le_mul (by omega) (by omega)
  omega
theorem sum_bd {α : Type} {f : α → Int} {M : Int} : ∀ {l : List α}, (∀ x ∈ l, -M ≤ f x ∧ f x ≤ M) → -(M * l.length) ≤ (l.map f).sum ∧ (l.map f).sum ≤ M * l.length
  | [], _ => by simp
  | x :: l, h => by
    have h1 := h x (by simp)
    have h2 := sum_bd (l := l) fun y hy => h y (by simp [hy])
    simp only [List.map_cons, List.sum_cons, List.length_cons, Int.natCast_add, Int.mul_add, Int.mul_one, Int.natCast_one]
    omega
theorem ttl_bd {L : List (Val × Int)} (h : Bnd L) (i : Nat) : -1073741824 ≤ ttl (L.take i) ∧ ttl (L.take i) ≤ 1073741824 := by
  have h1 := sum_bd (f := Prod.snd) (M := 262144) (l := L.take i) fun x hx => (by have := h.2 x (List.mem_of_mem_take hx); omega)
  have h2 : (L.take i).length ≤ 4096 := by have := h.1; simp; omega
  unfold ttl; omega
theorem sumV_bd {L : List (Val × Int)} (h : Bnd L) (i : Nat) : -4611686018427387904 ≤ sumV (L.take i) ∧ sumV (L.take i) ≤ 4611686018427387904 := by
  have h1 := sum_bd (f := fun x : Val × Int => if x.1.kind = 1 then x.1.int * x.2 else 0) (M := 1125899906842624) (l := L.take i) fun x hx => (by
    have := h.2 x (List.mem_of_mem_take hx)
    have := prod_bd this.1 this.2
    split <;> omega)
  have h2 : (L.take i).length ≤ 4096 := by have := h.1; simp; omega
  unfold sumV; omega
theorem cntV_bd {L : List (Val × Int)} (h : Bnd L) (i : Nat) : -1073741824 ≤ cntV (L.take i) ∧ cntV (L.take i) ≤ 1073741824 := by
  have h1 := sum_bd (f := fun x : Val × Int => if x.1.kind = 1 then x.2 else 0) (M := 262144) (l := L.take i) fun x hx => (by
    have := h.2 x (List.mem_of_mem_take hx)
    split <;> omega)
  have h2 : (L.take i).length ≤ 4096 := by have := h.1; simp; omega
  unfold cntV; omega
theorem ttl_snoc {L : List (Val × Int)} {i : Nat} {x : Val × Int} (h : L[i]? = some x) : ttl (L.take (i + 1)) = ttl (L.take i) + x.2 := by rw [take_snoc' h]; simp [ttl]
theorem sumV_snoc {L : List (Val × Int)} {i : Nat} {x : Val × Int} (h : L[i]? = some x) : sumV (L.take (i + 1)) = sumV (L.take i) + if x.1.kind = 1 then x.1.int * x.2 else 0 := by rw [take_snoc' h]; simp [sumV]
theorem cntV_snoc {L : List (Val × Int)} {i : Nat} {x : Val × Int} (h : L[i]? = some x) : cntV (L.take (i + 1)) = cntV (L.take i) + if x.1.kind = 1 then x.2 else 0 := by rw [take_snoc' h]; simp [cntV]
theorem aggNumber_c (n : Int) : PCall Tryz.prog 197 [.one (.lit (.int .i64 n))] (.v (.agg (Val.ofInt n).d)) := by
  have hc := clean_c ⟨1, n, ⟨#[]⟩⟩
  have he : Val.ofInt n = (⟨1, n, ⟨#[]⟩⟩ : Val).clean := rfl
  rw [he]
  refine pcallN hT Tryz.func197 Tryz.ntmps197 [.cell 2 73] fun B => ?_
  repeat' (first | refine ks ?_ | refine ko ?_ | refine s_call (hc) ?_ | refine kf ?_ | exact k0 | refine kg ?_ ?_ | fail)
  all_goals rfl
theorem aggSum_c (L : List (Val × Int)) (h : Bnd L) : PCall Tryz.prog 117 [.one (cntsD L)] (.tup [.one (.lit (.int .i64 (sumV L))), .one (.lit (.int .i64 (cntV L)))]) := by
  have hl := h.1
  refine pcallN hT Tryz.func117 Tryz.ntmps117 [.tmp 2, .tmp 3] fun B => ?_
  repeat' (first | refine ks ?_ | refine ko ?_ | refine s_indexD ?_ (hel := (by first | exact rfl)) | refine kg ?_ ?_ | refine kf ?_ | fail)
  refine s_lp (X := Nat × Int × Int) [4, 5, 7, 10, 11, 12, 13, 14, 15, 16, 17, 18, 19, 20, 21, 22, 23, 24, 25, 26, 27, 28, 29, 30] (fun x => x.1 ≤ L.length ∧ x.2.1 = sumV (L.take x.1) ∧ x.2.2 = cntV (L.take x.1)) (fun x lz => (10, (.c (.d (.lit (.int .i64 x.1))))) :: (4, .c (.d (.lit (.int .i64 x.2.1)))) :: (5, .c (.d (.lit (.int .i64 x.2.2)))) :: lz) (fun x => []) (fun x => L.length - x.1) ((0, 0, 0)) ?_ ?_ ?_ ?_
  repeat' (first | exact slots_nil | refine kw ?_ | exact memIn_nil | omega)
  · exact ⟨by simp, rfl, rfl⟩
  rintro ⟨i, s, m⟩ c ⟨hi, hs, hm⟩
  dsimp only at hi hs hm ⊢
  by_cases hlt : i < L.length
  · have hv : L[i]? = some L[i] := List.getElem?_eq_getElem hlt
    have hx := h.2 _ (List.getElem_mem hlt)
    generalize L[i] = x at hv hx
    have hv2 : (L.map cnD)[i]? = some (cnD x) := by rw [List.getElem?_map, hv]; rfl
    have b1 := sumV_bd h i
    have b2 := cntV_bd h i
    have b3 := sumV_bd h (i + 1)
    have b4 := prod_bd hx.1 hx.2
    have e1 := sumV_snoc hv
    have e2 := cntV_snoc hv
    rw [← hs] at b1 e1
    rw [← hm] at b2 e2
    by_cases hk : x.1.kind = 1
    · rw [if_pos hk] at e1 e2
      obtain ⟨p, hp⟩ : ∃ p, p = x.1.int * x.2 := ⟨_, rfl⟩
      rw [← hp] at b4 e1
      repeat' (first | refine ks ?_ | refine ko ?_ | refine s_indexD ?_ (hel := (by first | exact idx_map hv2 (by omega) | exact hv2 | exact rfl)) | refine kg ?_ ?_ | refine kf ?_ | fail)
      (apply s_round ((i + 1, s + x.1.int * x.2, m + x.2)); all_goals (try dsimp only); all_goals (try (repeat' (first | exact slots_nil | refine kw ?_ | exact memIn_nil | omega))))
      all_goals exact ⟨by omega, by rw [e1, hp], e2.symm⟩
    · rw [if_neg hk, Int.add_zero] at e1 e2
      repeat' (first | refine ks ?_ | refine ko ?_ | refine s_indexD ?_ (hel := (by first | exact idx_map hv2 (by omega) | exact hv2 | exact rfl)) | refine kg ?_ ?_ | refine kf ?_ | fail)
      (apply s_round ((i + 1, s, m)); all_goals (try dsimp only); all_goals (try (repeat' (first | exact slots_nil | refine kw ?_ | exact memIn_nil | omega))))
      all_goals exact ⟨by omega, e1.symm, e2.symm⟩
  · rw [take_ge (show L.length ≤ i by omega)] at hs hm
    rw [← hs, ← hm]
    repeat' (first | refine ks ?_ | refine ko ?_ | refine s_indexD ?_ (hel := (by first | exact rfl)) | refine kg ?_ ?_ | refine kf ?_ | fail)
    all_goals rfl
def nnP (x : Val × Int) : Bool := decide (x.1.kind ≠ 0)
def led (L : List (Val × Int)) : Nat := (L.takeWhile nnP).length
theorem nnE_eq (L : List (Val × Int)) : nnE L = L.filter nnP := rfl
theorem led_le (L : List (Val × Int)) : led L ≤ L.length := (List.takeWhile_sublist _).length_le
theorem led_take : ∀ L : List (Val × Int), L.take (led L) = L.takeWhile nnP
  | [] => rfl
  | x :: L => by
    unfold led
    rw [List.takeWhile_cons]
    split
    · rw [List.length_cons, List.take_succ_cons]; exact congrArg _ (led_take L)
    · rfl
theorem led_in {L : List (Val × Int)} {i : Nat} {x : Val × Int} (hi : i < led L) (h : L[i]? = some x) : nnP x = true := by
  have h1 : (L.takeWhile nnP)[i]? = some x := by
    rw [← led_take, List.getElem?_take, if_pos hi]; exact h
  have h3 := List.all_takeWhile (p := nnP) (l := L)
  rw [List.all_eq_true] at h3
  exact h3 x (List.mem_of_getElem? h1)
theorem led_at : ∀ {L : List (Val × Int)} {x : Val × Int}, L[led L]? = some x → nnP x = false
  | [], _, h => by cases h
  | y :: L, x, h => by
    unfold led at h
    rw [List.takeWhile_cons] at h
    cases hq : nnP y with
    | true =>
      rw [hq, if_pos rfl, List.length_cons, List.getElem?_cons_succ] at h
      exact led_at h
    | false =>
      rw [hq, if_neg (by decide)] at h
      simp only [List.length_nil, List.getElem?_cons_zero, Option.some.injEq] at h
      subst h; exact hq
theorem led_nn (L : List (Val × Int)) : nnE (L.take (led L)) = L.take (led L) := by
  rw [nnE_eq, List.filter_eq_self]
  intro x hx
  obtain ⟨i, hi⟩ := List.mem_iff_getElem?.1 hx
  rw [List.getElem?_take] at hi
  split at hi
  · exact led_in ‹_› hi
  · cases hi
theorem nnE_snoc {L : List (Val × Int)} {i : Nat} {x : Val × Int} (h : L[i]? = some x) : nnE (L.take (i + 1)) = nnE (L.take i) ++ (if nnP x then [x] else []) := by
  rw [nnE_eq, nnE_eq, take_snoc' h, List.filter_append]
  congr 1
  by_cases hq : nnP x = true <;> simp [hq]
theorem isNull_c (x : Val × Int) : PCall Tryz.prog 236 [.agg (cnD x)] (.v (.one (.lit (.bool (!nnP x))))) := by
  refine pcallN hT Tryz.func236 Tryz.ntmps236 [.tmp 2] fun B => ?_
  repeat' (first | refine ks ?_ | refine ko ?_ | refine kf ?_ | fail)
  all_goals (refine congrArg Dat.lit (congrArg Value.bool ?_); unfold nnP; by_cases h : x.1.kind = 0 <;> simp [h])
theorem idxC_c (L : List (Val × Int)) (hl : L.length ≤ 4096) : PCall Tryz.prog 252 [.one (cntsD L), .one (.lit (.func (.func 236) #[] #[]))] (.v (.one (.lit (.int .i64 (if led L < L.length then (led L : Int) else -1))))) := by
  have hll := led_le L
  refine pcallN hT Tryz.func252 Tryz.ntmps252 [.tmp 4] fun B => ?_
  repeat' (first | refine ks ?_ | refine ko ?_ | refine s_indexD ?_ (hel := (by first | exact rfl)) | refine kf ?_ | fail)
  refine s_lp (X := Nat) [4, 5, 8, 9, 10, 11, 12, 13, 14, 15, 16, 17, 18] (fun x => x ≤ led L) (fun x lz => (8, (.c (.d (.lit (.int .i64 x))))) :: lz) (fun x => []) (fun x => led L - x) (0) ?_ ?_ ?_ ?_
  repeat' (first | exact slots_nil | refine kw ?_ | exact memIn_nil | omega)
  rintro i c hi
  by_cases hlt : i < led L
  · have hv : L[i]? = some L[i] := List.getElem?_eq_getElem (by omega)
    have hnn := led_in hlt hv
    generalize L[i] = x at hv hnn
    have hv2 : (L.map cnD)[i]? = some (cnD x) := by rw [List.getElem?_map, hv]; rfl
    have hc := isNull_c x
    rw [hnn] at hc
    repeat' (first | refine ks ?_ | refine ko ?_ | refine s_indexD ?_ (hel := (by first | exact idx_map hv2 (by omega) | exact hv2 | exact rfl)) | refine s_call (hc) ?_ | refine kf ?_ | fail)
    (apply s_round (i + 1); all_goals (try dsimp only); all_goals (try (repeat' (first | exact slots_nil | refine kw ?_ | exact memIn_nil | omega))))
  · obtain rfl : i = led L := by omega
    by_cases hpl : led L < L.length
    · rw [if_pos hpl]
      have hv : L[led L]? = some L[led L] := List.getElem?_eq_getElem hpl
      have hnn := led_at hv
      generalize L[led L] = x at hv hnn
      have hv2 : (L.map cnD)[led L]? = some (cnD x) := by rw [List.getElem?_map, hv]; rfl
      have hc := isNull_c x
      rw [hnn] at hc
      repeat' (first | refine ks ?_ | refine ko ?_ | refine s_indexD ?_ (hel := (by first | exact idx_map hv2 (by omega) | exact hv2 | exact rfl)) | refine s_call (hc) ?_ | refine kf ?_ | fail)
      all_goals rfl
    · rw [if_neg hpl]
      repeat' (first | refine ks ?_ | refine ko ?_ | refine s_indexD ?_ (hel := (by first | exact rfl)) | refine kf ?_ | fail)
      all_goals rfl
theorem cloneC_h (L : List (Val × Int)) (hl : L.length ≤ 4096) (hne : L ≠ []) : HCall Tryz.prog 235 [.c (.d (cntsD L))] [] (.c (.arr 0 1 L.length)) [.arr 1 186 4 (L.map cnD)] := by
  have hpos : 0 < L.length := List.length_pos_iff.2 hne
  refine hcallN hT Tryz.func235 Tryz.ntmps235 [.tmp 2] fun B => ?_
  repeat' (first | refine ks ?_ | refine ko ?_ | refine s_if rfl (fun hb => ?_) (fun hb => ?_) | refine s_eqNil (fun b hnil => ?_) | refine kg ?_ ?_ | exact k0 | refine memIn_same ?_)
  all_goals first
    | (exfalso; exact hne (by simpa using hnil hb))
    | (simp; done)
    | rfl
theorem off_ze (c s : Nat) : 0 = if c = Int.toNat 0 then 0 else 0 + Int.toNat 0 * s := by simp
theorem delA_h (L : List (Val × Int)) (hl : L.length ≤ 4096) (hne : L ≠ []) (hpl : ¬ led L < L.length) : HCall Tryz.prog 234 [.c (.arr 0 0 L.length), .c (.d (.lit (.func (.func 236) #[] #[])))] [.arr 0 186 4 (L.map cnD)] (.c (.arr 0 1 (nnE L).length)) [.arr 1 186 4 ((nnE L).map cnD)] := by
  have hpos : 0 < L.length := List.length_pos_iff.2 hne
  have hidx := idxC_c L hl
  have hll := led_le L
  have hsf : ∀ mem : List Blk, mem[0]? = some (.arr 0 186 4 (L.map cnD)) → SFs mem [.c (.arr 0 0 L.length), .c (.d (.lit (.func (.func 236) #[] #[])))] [.one (cntsD L), .one (.lit (.func (.func 236) #[] #[]))] := fun mem hm => sfs_arr1 hm (by simp) (take_ge (by simp))
  rw [if_neg hpl] at hidx
  have hnn : nnE L = L := by
    have := led_nn L
    rw [show led L = L.length by omega, List.take_length] at this; exact this
  rw [hnn]
  refine hcallN hT Tryz.func234 Tryz.ntmps234 [.tmp 4] fun B => ?_
  repeat' (first | refine ks ?_ | refine ko ?_ | refine s_callB hidx (hsf _ rfl) ?_ | refine kg ?_ ?_ | exact k0 | refine memIn_same ?_)
theorem off_nz {c s : Nat} {a : Int} {i : Nat} (ha : a = i) (h : i < c) : i * s = if c = a.toNat then 0 else 0 + a.toNat * s := by
  subst ha; rw [if_neg (by omega)]; simp
theorem nnE_len (L : List (Val × Int)) : (nnE L).length ≤ L.length := List.length_filter_le ..
theorem delB_h (L : List (Val × Int)) (hl : L.length ≤ 4096) (hpl : led L < L.length) : HCall Tryz.prog 234 [.c (.arr 0 0 L.length), .c (.d (.lit (.func (.func 236) #[] #[])))] [.arr 0 186 4 (L.map cnD)] (.c (.arr 0 1 (nnE L).length)) [.arr 1 186 4 ((nnE L).map cnD)] := by
  have hidx := idxC_c L hl
  have hsf : ∀ mem : List Blk, mem[0]? = some (.arr 0 186 4 (L.map cnD)) → SFs mem [.c (.arr 0 0 L.length), .c (.d (.lit (.func (.func 236) #[] #[])))] [.one (cntsD L), .one (.lit (.func (.func 236) #[] #[]))] := fun mem hm => sfs_arr1 hm (by simp) (take_ge (by simp))
  rw [if_pos hpl] at hidx
  have hv0 : L[led L]? = some L[led L] := List.getElem?_eq_getElem hpl
  have hn0 := led_at hv0
  have hs0 := nnE_snoc hv0
  rw [if_neg (by simp [hn0]), List.append_nil, led_nn] at hs0
  have hl0 : (nnE (L.take (led L + 1))).length = led L := by rw [hs0]; simp; omega
  have hm0 : (L.map cnD).take (led L) = (nnE (L.take (led L + 1))).map cnD := by rw [hs0, List.map_take]
  generalize led L = p at hidx hpl hl0 hm0
  clear hv0 hn0 hs0
  refine hcallN hT Tryz.func234 Tryz.ntmps234 [.tmp 4] fun B => ?_
  repeat' (first | refine ks ?_ | refine ko ?_ | refine s_callB hidx (hsf _ rfl) ?_ | refine kg ?_ ?_ | exact k0 | refine memIn_same ?_)
  refine s_lp (X := Nat × List (List Dat)) [5, 6, 7, 16, 17, 18, 19, 20, 21, 22, 23, 24, 25, 26, 27, 28, 29, 30, 31, 32, 33, 34, 35] (fun x => x.1 ≤ L.length ∧ x.2.length = L.length ∧ (nnE (L.take x.1)).length < x.1 ∧ x.2.take (nnE (L.take x.1)).length = (nnE (L.take x.1)).map cnD ∧ x.2.drop x.1 = (L.drop x.1).map cnD ∧ (∀ e ∈ x.2, e.length = 4)) (fun x lz => (6, (.c (.d (.lit (.int .i64 x.1))))) :: (5, (.c (.d (.lit (.int .i64 (nnE (L.take x.1)).length))))) :: lz) (fun x => [.arr 0 186 4 x.2]) (fun x => L.length - x.1) ((p + 1, L.map cnD)) ?_ ?_ ?_ ?_
  repeat' (first | exact slots_nil | refine kw ?_ | refine kv ?_ ?_ | exact memIn_nil | omega)
  all_goals first
    | (rw [hl0]; done)
    | (dsimp only; exact ⟨by omega, by simp, by omega, by rw [hl0]; exact hm0, by rw [List.map_drop], fun e he => by obtain ⟨y, _, rfl⟩ := List.mem_map.1 he; rfl⟩)
    | skip
  rintro ⟨j, M⟩ c ⟨hj, hM, hij, hT, hD, h4⟩
  dsimp only at hj hM hij hT hD h4 ⊢
  by_cases hjl : j < L.length
  · have hv : L[j]? = some L[j] := List.getElem?_eq_getElem hjl
    generalize L[j] = x at hv
    have hMv : M[j]? = some (cnD x) := by
      have h1 : (M.drop j)[0]? = some (cnD x) := by rw [hD, drop_cons hv]; rfl
      rw [List.getElem?_drop] at h1; simpa using h1
    have hsn := nnE_snoc hv
    have hnu := isNull_c x
    have hD' : M.drop (j + 1) = (L.drop (j + 1)).map cnD := by
      have : (M.drop j).drop 1 = ((L.drop j).map cnD).drop 1 := by rw [hD]
      rw [List.drop_drop, drop_cons hv, List.map_cons, List.drop_succ_cons, List.drop_zero] at this
      exact this
    obtain ⟨n, hn⟩ : ∃ n, n = (nnE (L.take j)).length := ⟨_, rfl⟩
    rw [← hn] at hij hT ⊢
    cases hnn : nnP x with
    | true =>
      rw [hnn] at hnu hsn
      rw [if_pos rfl] at hsn
      have hn' : (nnE (L.take (j + 1))).length = n + 1 := by rw [hsn, List.length_append, ← hn]; rfl
      have hT' : (M.set n (cnD x)).take (n + 1) = (nnE (L.take (j + 1))).map cnD := by
        rw [List.take_add_one, List.getElem?_set_self (by omega), List.take_set_of_le (Nat.le_refl _), hT, hsn, List.map_append]; rfl
      have hD2 : (M.set n (cnD x)).drop (j + 1) = (L.drop (j + 1)).map cnD := by
        rw [List.drop_set_of_lt (by omega)]; exact hD'
      have hMn : M[n]? = some M[n] := List.getElem?_eq_getElem (by omega)
      have hm4 := h4 _ (List.mem_of_getElem? hMn)
      generalize M[n] = mn at hMn hm4
      obtain ⟨m1, m2, m3, m4, rfl⟩ : ∃ a b c d, mn = [a, b, c, d] := by
        match mn, hm4 with
        | [a, b, c, d], _ => exact ⟨a, b, c, d, rfl⟩
      repeat' (first | refine ks ?_ | refine ko ?_ | refine s_loadAA ?_ (he' := (by first | exact hMv | exact hMn | exact rfl)) | refine s_call (hnu) ?_ | refine s_storeA ?_ (hj := (by first | exact hMv | exact hMn | exact rfl)) | refine kg ?_ ?_ | exact k0 | refine memIn_same ?_)
      (apply s_round ((j + 1, M.set n (cnD x))); all_goals (try dsimp only); all_goals (try (repeat' (first | exact slots_nil | refine kw ?_ | refine kv ?_ ?_ | exact memIn_nil | omega))))
      all_goals first
        | (rw [hn']; done)
        | (rw [hn']; rfl)
        | exact ⟨by omega, by simp [hM], by omega, by rw [hn']; exact hT', hD2, fun e he => by
            rcases List.mem_or_eq_of_mem_set he with q | q
            · exact h4 e q
            · subst q; rfl⟩
        | trace_state
    | false =>
      rw [hnn] at hnu hsn
      rw [if_neg (by decide), List.append_nil] at hsn
      repeat' (first | refine ks ?_ | refine ko ?_ | refine s_loadAA ?_ (he' := (by first | exact hMv | exact rfl)) | refine s_call (hnu) ?_ | refine s_storeA ?_ (hj := (by first | exact hMv | exact rfl)) | refine kg ?_ ?_ | exact k0 | refine memIn_same ?_)
      (apply s_round ((j + 1, M)); all_goals (try dsimp only); all_goals (try (repeat' (first | exact slots_nil | refine kw ?_ | refine kv ?_ ?_ | exact memIn_nil | omega))))
      all_goals first
        | (rw [hsn, ← hn]; done)
        | exact ⟨by omega, hM, by rw [hsn, ← hn]; omega, by rw [hsn, ← hn]; exact hT, hD', h4⟩
        | trace_state
  · obtain rfl : j = L.length := by omega
    rw [List.take_length] at hij hT ⊢
    obtain ⟨n, hn⟩ : ∃ n, n = (nnE L).length := ⟨_, rfl⟩
    rw [← hn] at hij hT ⊢
    refine s_pin 0 rfl rfl (fun h _ => absurd (congrArg List.length h) (by simp; omega)) ?_
    intro bb cc hc hlc hcm
    rw [hM] at hlc
    simp only [List.set_cons_zero]
    have hof : L.length - n = 0 ∨ n * ti186.size = n * ti186.size := .inr rfl
    repeat' (first | ((with_reducible (refine is_retC ?_)); refine s_mv 0 0 ?_ (by exact rfl) hc; refine s_unpin 4 (r := 0) ?_ (by exact rfl) hc) | refine ks ?_ | refine ko ?_ | refine s_lenL ?_ | refine s_sliceL (a := (n : Int)) (b := (L.length : Int)) (c := cc) (off' := n * ti186.size) (m' := L.length - n) (c' := cc - n) ?_ (by omega) (by omega) (by omega) (off_nz rfl (by omega)) (by omega) (by omega) | refine s_sliceL (a := 0) (b := (n : Int)) (c := cc) (off' := 0) (m' := n) (c' := cc) ?_ (by omega) (by omega) (by omega) (off_ze _ _) (by omega) (by omega) | refine s_clearL (ei := ti186) (r := 0) (c := cc) (o := n) (m := L.length - n) ?_ (by exact rfl) hc (by omega) (by omega) (.inr rfl) (by exact hT) | refine fh_ret1 def_nil ?_ ?_ | exact memIn_nil | refine memIn_same ?_ | exact am_same)
    all_goals trace_state
theorem delC_h (L : List (Val × Int)) (hl : L.length ≤ 4096) (hne : L ≠ []) : HCall Tryz.prog 234 [.c (.arr 0 0 L.length), .c (.d (.lit (.func (.func 236) #[] #[])))] [.arr 0 186 4 (L.map cnD)] (.c (.arr 0 1 (nnE L).length)) [.arr 1 186 4 ((nnE L).map cnD)] := by
  by_cases h : led L < L.length
  · exact delB_h L hl h
  · exact delA_h L hl hne h
theorem rankCmp_c (x y : Val × Int) : PCall Tryz.prog 238 [.agg (cnD x), .agg (cnD y)] (.v (.one (.lit (.int .i64 (x.1.cmp y.1))))) := by
  refine pcallN hT Tryz.func238 Tryz.ntmps238 [.tmp 4] fun B => ?_
  repeat' (first | refine ks ?_ | refine ko ?_ | refine s_call (compare_c x.1 y.1) ?_ | refine kf ?_ | fail)
  all_goals rfl
noncomputable def rkE (f : Int) (L : List (Val × Int)) : Val :=
  if nnE L = [] then Val.null else if f = 2 then nthE (ascE L) 0 else if f = 3 then nthE (ascE L) (ttl (nnE L) - 1) else nthE (ascE L) ((ttl (nnE L) - 1) / 2)
theorem clone0_c : PCall Tryz.prog 235 [.one (cntsD [])] (.v (.one (cntsD []))) := by
  refine pcallN hT Tryz.func235 Tryz.ntmps235 [.tmp 2] fun B => ?_
  repeat' (first | refine ks ?_ | refine ko ?_ | refine s_if rfl (fun hb => ?_) (fun hb => ?_) | refine s_eqNil (fun b hnil => ?_) | refine kf ?_ | refine kg ?_ ?_ | fail)
  all_goals first
    | rfl
    | (simp; done)
theorem del0_c : PCall Tryz.prog 234 [.one (cntsD []), .one (.lit (.func (.func 236) #[] #[]))] (.v (.one (cntsD []))) := by
  have h := idxC_c [] (by simp)
  rw [if_neg (by decide)] at h
  refine pcallN hT Tryz.func234 Tryz.ntmps234 [.tmp 4] fun B => ?_
  repeat' (first | refine ks ?_ | refine ko ?_ | refine s_call (h) ?_ | refine kf ?_ | fail)
  all_goals rfl
theorem ranked0_c (f : Int) : PCall Tryz.prog 198 [.one (.lit (.int .i64 f)), .one (cntsD [])] (.v (.agg (rkE f []).d)) := by
  have h : rkE f [] = Val.null := by unfold rkE; exact if_pos rfl
  rw [h]
  refine pcallN hT Tryz.func198 Tryz.ntmps198 [.cell 4 73] fun B => ?_
  repeat' (first | refine ks ?_ | refine ko ?_ | refine s_call (clone0_c) ?_ | refine s_call (del0_c) ?_ | refine kf ?_ | exact k0 | refine kg ?_ ?_ | fail)
  all_goals rfl
theorem ascE_len (L : List (Val × Int)) : (ascE L).length = (nnE L).length := (ascE_perm L).length_eq
theorem nn_bnd {L : List (Val × Int)} (h : Bnd L) : Bnd (ascE L) := by
  refine ⟨by rw [ascE_len]; exact Nat.le_trans (nnE_len L) h.1, fun x hx => ?_⟩
  exact h.2 x (List.mem_filter.1 ((ascE_perm L).mem_iff.1 hx)).1
theorem ranked1_c (L : List (Val × Int)) (hb : Bnd L) (hne : L ≠ []) (hn : nnE L = []) (f : Int) : PCall Tryz.prog 198 [.one (.lit (.int .i64 f)), .one (cntsD L)] (.v (.agg (rkE f L).d)) := by
  have h : rkE f L = Val.null := by unfold rkE; rw [if_pos hn]
  rw [h]
  have h1 := cloneC_h L hb.1 hne
  have h2 := delC_h L hb.1 hne
  rw [hn, List.length_nil, List.map_nil] at h2
  refine pcallN hT Tryz.func198 Tryz.ntmps198 [.cell 4 73] fun B => ?_
  repeat' (first | refine ks ?_ | refine ko ?_ | refine s_callH [] (h1) ?_ | refine s_callH [1] (h2) ?_ | refine kf ?_ | exact k0 | refine kg ?_ ?_ | fail)
  all_goals rfl
theorem ranked_c (L : List (Val × Int)) (hb : Bnd L) (hp : PosC L) (f : Int) (hf : f = 2 ∨ f = 3 ∨ f = 4) : PCall Tryz.prog 198 [.one (.lit (.int .i64 f)), .one (cntsD L)] (.v (.agg (rkE f L).d)) := by
  by_cases hne : L = []
  · subst hne; exact ranked0_c f
  by_cases hn : nnE L = []
  · exact ranked1_c L hb hne hn f
  have h1 := cloneC_h L hb.1 hne
  have h2 := delC_h L hb.1 hne
  have hnl := nnE_len L
  have hbl := hb.1
  have hS := sortF237_h cnD (fun _ => rfl) (fun x y => x.1.cmp y.1) vcmp_ok.swo 238 (nnE L) (by omega) (fun x _ y _ => rankCmp_c x y)
  have hse : sortF (fun x y : Val × Int => x.1.cmp y.1) (nnE L) = ascE L := rfl
  rw [hse] at hS
  have hr : rkE f L = if f = 2 then nthE (ascE L) 0 else if f = 3 then nthE (ascE L) (ttl (nnE L) - 1) else nthE (ascE L) ((ttl (nnE L) - 1) / 2) := by unfold rkE; rw [if_neg hn]
  have ht : ttl (nnE L) = ttl (ascE L) := (sum_perm (ascE_perm L)).symm
  rw [hr, ht]
  have hal := ascE_len L
  have hB := nn_bnd hb
  have hP : PosC (ascE L) := fun x hx => hp x (List.mem_filter.1 ((ascE_perm L).mem_iff.1 hx)).1
  have hpos : 0 < (nnE L).length := List.length_pos_iff.2 hn
  clear hr ht hse
  generalize ascE L = S at hS hal hB hP ⊢
  generalize hN : (nnE L).length = N at h2 hS hal hpos hnl
  clear hN
  rcases hf with rfl | rfl | rfl
  · obtain ⟨x, S', rfl⟩ : ∃ x S', S = x :: S' := by
      cases S with
      | nil => simp at hal; omega
      | cons x S' => exact ⟨x, S', rfl⟩
    rw [if_pos rfl, nth_first hP]
    have hv : ((x :: S').map cnD)[0]? = some (cnD x) := rfl
    have hvl : ((x :: S').map cnD).length = N := by rw [List.length_map]; exact hal
    generalize (x :: S').map cnD = M at hS hv hvl
    refine pcallN hT Tryz.func198 Tryz.ntmps198 [.cell 4 73] fun B => ?_
    repeat' (first | refine ks ?_ | refine ko ?_ | refine s_loadAA ?_ (he' := (by first | exact hv | exact rfl)) | refine s_callH [] (h1) ?_ | refine s_callH [1] (h2) ?_ | refine s_callH [1] (hS) ?_ | refine kf ?_ | exact k0 | refine kg ?_ ?_ | fail)
    all_goals rfl
  · obtain ⟨S', x, rfl⟩ : ∃ S' x, S = S' ++ [x] := by
      rcases List.eq_nil_or_concat S with h | ⟨a, b, h⟩
      · subst h; simp at hal; omega
      · exact ⟨a, b, by rw [h, List.concat_eq_append]⟩
    rw [if_neg (by decide), if_pos rfl, nth_last hP]
    have hSl : S'.length + 1 = N := by simpa using hal
    have hv : ((S' ++ [x]).map cnD)[((N : Int) - 1).toNat]? = some (cnD x) := by
      rw [show ((N : Int) - 1).toNat = S'.length by omega, List.getElem?_map]; simp
    have hvl : ((S' ++ [x]).map cnD).length = N := by rw [List.length_map]; exact hal
    generalize (S' ++ [x]).map cnD = M at hS hv hvl
    refine pcallN hT Tryz.func198 Tryz.ntmps198 [.cell 4 73] fun B => ?_
    repeat' (first | refine ks ?_ | refine ko ?_ | refine s_loadAA ?_ (he' := (by first | exact hv | exact rfl)) | refine s_callH [] (h1) ?_ | refine s_callH [1] (h2) ?_ | refine s_callH [1] (hS) ?_ | refine kf ?_ | exact k0 | refine kg ?_ ?_ | fail)
    all_goals rfl
  · rw [if_neg (by decide), if_neg (by decide)]
    have hSl := hB.1
    have htp := ttl_pos hP (fun q => by rw [q] at hal; simp at hal; omega)
    have htb := ttl_bd hB S.length
    rw [List.take_length] at htb
    refine pcallN hT Tryz.func198 Tryz.ntmps198 [.cell 4 73] fun B => ?_
    repeat' (first | refine ks ?_ | refine ko ?_ | refine s_callH [] (h1) ?_ | refine s_callH [1] (h2) ?_ | refine s_callH [1] (hS) ?_ | refine kf ?_ | exact k0 | refine kg ?_ ?_ | fail)
    refine s_lp (X := Nat × Int) [5, 7, 38, 39, 40, 41, 42, 43, 44, 45, 46] (fun x => x.1 ≤ N ∧ x.2 = ttl (S.take x.1)) (fun x lz => (38, (.c (.d (.lit (.int .i64 x.1))))) :: (5, .c (.d (.lit (.int .i64 x.2)))) :: lz) (fun x => [.box 1 (Val.null.d.map .d), .arr 3 186 4 (S.map cnD)]) (fun x => N - x.1) ((0, 0)) ?_ ?_ ?_ ?_
    repeat' (first | exact slots_nil | refine kw ?_ | refine kv ?_ ?_ | exact memIn_nil | omega)
    · exact ⟨by simp, rfl⟩
    rintro ⟨k, m⟩ c ⟨hk, hm⟩
    dsimp only at hk hm ⊢
    by_cases hkl : k < N
    · have hv : S[k]? = some S[k] := List.getElem?_eq_getElem (by omega)
      generalize S[k] = x at hv
      have hv2 : (S.map cnD)[k]? = some (cnD x) := by rw [List.getElem?_map, hv]; rfl
      have e1 := ttl_snoc hv
      have b1 := ttl_bd hB (k + 1)
      have b2 := ttl_bd hB k
      rw [← hm] at e1 b2
      have hvl : (S.map cnD).length = N := by rw [List.length_map]; exact hal
      generalize S.map cnD = M at hv2 hvl ⊢
      repeat' (first | refine ks ?_ | refine ko ?_ | refine s_loadAA ?_ (he' := (by first | exact hv2 | exact rfl)) | refine kf ?_ | exact k0 | refine kg ?_ ?_ | fail)
      (apply s_round ((k + 1, m + x.2)); all_goals (try dsimp only); all_goals (try (repeat' (first | exact slots_nil | refine kw ?_ | refine kv ?_ ?_ | exact memIn_nil | omega))))
      all_goals exact ⟨by omega, e1.symm⟩
    · obtain rfl : k = N := by omega
      rw [take_ge (by omega)] at hm
      rw [← hm] at htp htb ⊢
      repeat' (first | refine ks ?_ | refine ko ?_ | refine kf ?_ | exact k0 | refine kg ?_ ?_ | fail)
      refine s_lp (X := Nat × Int) [8, 10, 52, 53, 54, 55, 56, 57, 58, 59, 60, 61, 62, 63, 64, 65, 66] (fun x => x.1 ≤ k ∧ 0 ≤ x.2 ∧ x.2 ≤ 1073741824 ∧ nthE S ((m - 1) / 2) = nthE (S.drop x.1) x.2) (fun x lz => (52, (.c (.d (.lit (.int .i64 x.1))))) :: (8, .c (.d (.lit (.int .i64 x.2)))) :: lz) (fun x => [.box 1 (Val.null.d.map .d), .arr 3 186 4 (S.map cnD)]) (fun x => k - x.1) ((0, (m - 1) / 2)) ?_ ?_ ?_ ?_
      repeat' (first | exact slots_nil | refine kw ?_ | refine kv ?_ ?_ | exact memIn_nil | omega)
      all_goals try (dsimp only; rw [Int.tdiv_eq_ediv_of_nonneg (by omega), wrap_i64 (by omega) (by omega)]; done)
      all_goals try (exact ⟨by omega, by dsimp only; omega, by dsimp only; omega, rfl⟩)
      rintro ⟨q, z⟩ c2 ⟨hq, hz0, hz1, hnt⟩
      dsimp only at hq hz0 hz1 hnt ⊢
      by_cases hql : q < k
      · have hv : S[q]? = some S[q] := List.getElem?_eq_getElem (by omega)
        have hpx := hP _ (List.mem_of_getElem? hv)
        generalize S[q] = x at hv hpx
        have hv2 : (S.map cnD)[q]? = some (cnD x) := by rw [List.getElem?_map, hv]; rfl
        have hvl : (S.map cnD).length = k := by rw [List.length_map]; exact hal
        rw [drop_cons hv, nthE] at hnt
        generalize S.map cnD = M at hv2 hvl ⊢
        by_cases hzx : z < x.2
        · rw [if_pos hzx] at hnt
          rw [hnt]
          repeat' (first | refine ks ?_ | refine ko ?_ | refine s_loadAA ?_ (he' := (by first | exact hv2 | exact rfl)) | refine kf ?_ | exact k0 | refine kg ?_ ?_ | fail)
          all_goals rfl
        · rw [if_neg hzx] at hnt
          repeat' (first | refine ks ?_ | refine ko ?_ | refine s_loadAA ?_ (he' := (by first | exact hv2 | exact rfl)) | refine kf ?_ | exact k0 | refine kg ?_ ?_ | fail)
          (apply s_round ((q + 1, z - x.2)); all_goals (try dsimp only); all_goals (try (repeat' (first | exact slots_nil | refine kw ?_ | refine kv ?_ ?_ | exact memIn_nil | omega))))
          all_goals exact ⟨by omega, by omega, by omega, hnt⟩
      · rw [List.drop_eq_nil_of_le (by omega), nthE] at hnt
        rw [hnt]
        repeat' (first | refine ks ?_ | refine ko ?_ | refine kf ?_ | exact k0 | refine kg ?_ ?_ | fail)
        all_goals rfl
end Go.Proofs.YtmpgmjlanngkfaaGreat
end
