/-
  Aggregates: fold, values of groups, Exact.
-/
import Derived.Test.YtojfhaoleedmkaaGreatAgf
section
section
namespace Go.Proofs.YtojfhaoleedmkaaGreat
open Go.Abs Go.RowKit
attribute [local irreducible] ARun kont MCall PCall HCall resVal SF CF CFs defersOk slotsIn memIn fin finM VLe
set_option linter.unusedSimpArgs false
set_option maxRecDepth 100000
set_option maxHeartbeats 4000000
theorem delA_h (L : List (Val × Int)) (hl : L.length ≤ 4096) (hne : L ≠ []) (hpl : ¬ led L < L.length) : HCall Tryz.prog 135 [.c (.arr 0 0 L.length), .c (.d (.lit (.func (.func 137) #[] #[])))] [.arr 0 99 4 (L.map cnD)] (.c (.arr 0 1 (nnE L).length)) [.arr 1 99 4 ((nnE L).map cnD)] := by
  have hpos : 0 < L.length := List.length_pos_iff.2 hne
  have hidx := idxC_c L hl
  have hll := led_le L
  have hsf : ∀ mem : List Blk, mem[0]? = some (.arr 0 99 4 (L.map cnD)) → SFs mem [.c (.arr 0 0 L.length), .c (.d (.lit (.func (.func 137) #[] #[])))] [.one (cntsD L), .one (.lit (.func (.func 137) #[] #[]))] := fun mem hm => sfs_arr1 hm (by simp) (take_ge (by simp))
  rw [if_neg hpl] at hidx
  have hnn : nnE L = L := by
    have := led_nn L
    rw [show led L = L.length by omega, List.take_length] at this; exact this
  rw [hnn]
  refine hcallN hT Tryz.func135 Tryz.ntmps135 [.tmp 4] fun B => ?_
  repeat' (first | refine ks ?_ | refine ko ?_ | refine s_callB hidx (hsf _ rfl) ?_ | refine fh_ret1 def_nil ?_ ?_ | exact memIn_nil | refine memIn_same ?_ | exact am_same)
theorem off_nz {c s : Nat} {a : Int} {i : Nat} (ha : a = i) (h : i < c) : i * s = if c = a.toNat then 0 else 0 + a.toNat * s := by
  subst ha; rw [if_neg (by omega)]; simp
theorem nnE_len (L : List (Val × Int)) : (nnE L).length ≤ L.length := List.length_filter_le ..
theorem delB_h (L : List (Val × Int)) (hl : L.length ≤ 4096) (hpl : led L < L.length) : HCall Tryz.prog 135 [.c (.arr 0 0 L.length), .c (.d (.lit (.func (.func 137) #[] #[])))] [.arr 0 99 4 (L.map cnD)] (.c (.arr 0 1 (nnE L).length)) [.arr 1 99 4 ((nnE L).map cnD)] := by
  have hidx := idxC_c L hl
  have hsf : ∀ mem : List Blk, mem[0]? = some (.arr 0 99 4 (L.map cnD)) → SFs mem [.c (.arr 0 0 L.length), .c (.d (.lit (.func (.func 137) #[] #[])))] [.one (cntsD L), .one (.lit (.func (.func 137) #[] #[]))] := fun mem hm => sfs_arr1 hm (by simp) (take_ge (by simp))
  rw [if_pos hpl] at hidx
  have hv0 : L[led L]? = some L[led L] := List.getElem?_eq_getElem hpl
  have hn0 := led_at hv0
  have hs0 := nnE_snoc hv0
  rw [if_neg (by simp [hn0]), List.append_nil, led_nn] at hs0
  have hl0 : (nnE (L.take (led L + 1))).length = led L := by rw [hs0]; simp; omega
  have hm0 : (L.map cnD).take (led L) = (nnE (L.take (led L + 1))).map cnD := by rw [hs0, List.map_take]
  generalize led L = p at hidx hpl hl0 hm0
  clear hv0 hn0 hs0
  refine hcallN hT Tryz.func135 Tryz.ntmps135 [.tmp 4] fun B => ?_
  repeat' (first | refine ks ?_ | refine ko ?_ | refine s_callB hidx (hsf _ rfl) ?_ | refine fh_ret1 def_nil ?_ ?_ | exact memIn_nil | refine memIn_same ?_ | exact am_same)
  refine s_lp (X := Nat × List (List Dat)) [5, 6, 7, 16, 17, 18, 19, 20, 21, 22, 23, 24, 25, 26, 27, 28, 29, 30, 31, 32, 33, 34, 35] (fun x => x.1 ≤ L.length ∧ x.2.length = L.length ∧ (nnE (L.take x.1)).length < x.1 ∧ x.2.take (nnE (L.take x.1)).length = (nnE (L.take x.1)).map cnD ∧ x.2.drop x.1 = (L.drop x.1).map cnD ∧ (∀ e ∈ x.2, e.length = 4)) (fun x lz => (6, (.c (.d (.lit (.int .i64 x.1))))) :: (5, (.c (.d (.lit (.int .i64 (nnE (L.take x.1)).length))))) :: lz) (fun x => [.arr 0 99 4 x.2]) (fun x => L.length - x.1) ((p + 1, L.map cnD)) ?_ ?_ ?_ ?_
  repeat' (first | exact slots_nil | refine kw ?_ | refine kv ?_ ?_ | exact memIn_nil | omega)
  all_goals first
    | (rw [hl0]; done)
    | (dsimp only; exact ⟨by omega, by simp, by omega, by rw [hl0]; exact hm0, by rw [List.map_drop], fun e he => by obtain ⟨y, _, rfl⟩ := List.mem_map.1 he; rfl⟩)
    | skip
  rintro ⟨j, M⟩ c ⟨hj, hM, hij, hT, hD, h4⟩
  dsimp only at hj hM hij hT hD h4 ⊢
  by_cases hjl : j < L.length
  · have hv : L[j]? = some L[j] := List.getElem?_eq_getElem hjl
    generalize L[j] = x at hv
    have hMv : M[j]? = some (cnD x) := by
      have h1 : (M.drop j)[0]? = some (cnD x) := by rw [hD, drop_cons hv]; rfl
      rw [List.getElem?_drop] at h1; simpa using h1
    have hsn := nnE_snoc hv
    have hnu := isNull_c x
    have hD' : M.drop (j + 1) = (L.drop (j + 1)).map cnD := by
      have : (M.drop j).drop 1 = ((L.drop j).map cnD).drop 1 := by rw [hD]
      rw [List.drop_drop, drop_cons hv, List.map_cons, List.drop_succ_cons, List.drop_zero] at this
      exact this
    obtain ⟨n, hn⟩ : ∃ n, n = (nnE (L.take j)).length := ⟨_, rfl⟩
    rw [← hn] at hij hT ⊢
    cases hnn : nnP x with
    | true =>
      rw [hnn] at hnu hsn
      rw [if_pos rfl] at hsn
      have hn' : (nnE (L.take (j + 1))).length = n + 1 := by rw [hsn, List.length_append, ← hn]; rfl
      have hT' : (M.set n (cnD x)).take (n + 1) = (nnE (L.take (j + 1))).map cnD := by
        rw [List.take_add_one, List.getElem?_set_self (by omega), List.take_set_of_le (Nat.le_refl _), hT, hsn, List.map_append]; rfl
      have hD2 : (M.set n (cnD x)).drop (j + 1) = (L.drop (j + 1)).map cnD := by
        rw [List.drop_set_of_lt (by omega)]; exact hD'
      have hMn : M[n]? = some M[n] := List.getElem?_eq_getElem (by omega)
      have hm4 := h4 _ (List.mem_of_getElem? hMn)
      generalize M[n] = mn at hMn hm4
      obtain ⟨m1, m2, m3, m4, rfl⟩ : ∃ a b c d, mn = [a, b, c, d] := by
        match mn, hm4 with
        | [a, b, c, d], _ => exact ⟨a, b, c, d, rfl⟩
      repeat' (first | refine ks ?_ | refine ko ?_ | refine s_loadAA ?_ (he' := (by first | exact hMv | exact hMn | exact rfl)) | refine s_call (hnu) ?_ | refine s_storeA ?_ (hj := (by first | exact hMv | exact hMn | exact rfl)) | refine fh_ret1 def_nil ?_ ?_ | exact memIn_nil | refine memIn_same ?_ | exact am_same)
      (apply s_round ((j + 1, M.set n (cnD x))); all_goals (try dsimp only); all_goals (try (repeat' (first | exact slots_nil | refine kw ?_ | refine kv ?_ ?_ | exact memIn_nil | omega))))
      all_goals first
        | (rw [hn']; done)
        | (rw [hn']; rfl)
        | exact ⟨by omega, by simp [hM], by omega, by rw [hn']; exact hT', hD2, fun e he => by
            rcases List.mem_or_eq_of_mem_set he with q | q
            · exact h4 e q
            · subst q; rfl⟩
        | trace_state
    | false =>
      rw [hnn] at hnu hsn
      rw [if_neg (by decide), List.append_nil] at hsn
      repeat' (first | refine ks ?_ | refine ko ?_ | refine s_loadAA ?_ (he' := (by first | exact hMv | exact rfl)) | refine s_call (hnu) ?_ | refine s_storeA ?_ (hj := (by first | exact hMv | exact rfl)) | refine fh_ret1 def_nil ?_ ?_ | exact memIn_nil | refine memIn_same ?_ | exact am_same)
      (apply s_round ((j + 1, M)); all_goals (try dsimp only); all_goals (try (repeat' (first | exact slots_nil | refine kw ?_ | refine kv ?_ ?_ | exact memIn_nil | omega))))
      all_goals first
        | (rw [hsn, ← hn]; done)
        | exact ⟨by omega, hM, by rw [hsn, ← hn]; omega, by rw [hsn, ← hn]; exact hT, hD', h4⟩
        | trace_state
  · obtain rfl : j = L.length := by omega
    rw [List.take_length] at hij hT ⊢
    obtain ⟨n, hn⟩ : ∃ n, n = (nnE L).length := ⟨_, rfl⟩
    rw [← hn] at hij hT ⊢
    refine s_pin 0 rfl rfl (fun h _ => absurd (congrArg List.length h) (by simp; omega)) ?_
    intro bb cc hc hlc hcm
    rw [hM] at hlc
    simp only [List.set_cons_zero]
    have hof : L.length - n = 0 ∨ n * ti99.size = n * ti99.size := .inr rfl
    repeat' (first | ((with_reducible (refine is_retC ?_)); refine s_mv 0 0 ?_ (by exact rfl) hc; refine s_unpin 4 (r := 0) ?_ (by exact rfl) hc) | refine ks ?_ | refine ko ?_ | refine s_lenL ?_ | refine s_sliceL (a := (n : Int)) (b := (L.length : Int)) (c := cc) (off' := n * ti99.size) (m' := L.length - n) (c' := cc - n) ?_ (by omega) (by omega) (by omega) (off_nz rfl (by omega)) (by omega) (by omega) | refine s_sliceL (a := 0) (b := (n : Int)) (c := cc) (off' := 0) (m' := n) (c' := cc) ?_ (by omega) (by omega) (by omega) (off_ze _ _) (by omega) (by omega) | refine s_clearL (ei := ti99) (r := 0) (c := cc) (o := n) (m := L.length - n) ?_ (by exact rfl) hc (by omega) (by omega) (.inr rfl) (by exact hT) | refine fh_ret1 def_nil ?_ ?_ | exact memIn_nil | refine memIn_same ?_ | exact am_same)
    all_goals trace_state
end Go.Proofs.YtojfhaoleedmkaaGreat
end
section
namespace Go.Proofs.YtojfhaoleedmkaaGreat
open Go.Abs Go.RowKit
attribute [local irreducible] ARun kont MCall PCall HCall resVal SF CF CFs defersOk slotsIn memIn fin finM VLe
set_option linter.unusedSimpArgs false
set_option maxRecDepth 100000
set_option maxHeartbeats 4000000
theorem delC_h (L : List (Val × Int)) (hl : L.length ≤ 4096) (hne : L ≠ []) : HCall Tryz.prog 135 [.c (.arr 0 0 L.length), .c (.d (.lit (.func (.func 137) #[] #[])))] [.arr 0 99 4 (L.map cnD)] (.c (.arr 0 1 (nnE L).length)) [.arr 1 99 4 ((nnE L).map cnD)] := by
  by_cases h : led L < L.length
  · exact delB_h L hl h
  · exact delA_h L hl hne h
theorem rankCmp_c (x y : Val × Int) : PCall Tryz.prog 139 [.agg (cnD x), .agg (cnD y)] (.v (.one (.lit (.int .i64 (x.1.cmp y.1))))) := by
  refine pcallN hT Tryz.func139 Tryz.ntmps139 [.tmp 4] fun B => ?_
  repeat' (first | refine ks ?_ | refine ko ?_ | refine s_call (compare_c x.1 y.1) ?_ | refine f_ret1 def_nil ?_ | refine t_tmp ?_)
  all_goals rfl
noncomputable def rkE (f : Int) (L : List (Val × Int)) : Val :=
  if nnE L = [] then Val.null else if f = 2 then nthE (ascE L) 0 else if f = 3 then nthE (ascE L) (ttl (nnE L) - 1) else nthE (ascE L) ((ttl (nnE L) - 1) / 2)
theorem clone0_c : PCall Tryz.prog 136 [.one (cntsD [])] (.v (.one (cntsD []))) := by
  refine pcallN hT Tryz.func136 Tryz.ntmps136 [.tmp 2] fun B => ?_
  repeat' (first | refine ks ?_ | refine ko ?_ | refine s_if rfl (fun hb => ?_) (fun hb => ?_) | refine s_eqNil (fun b hnil => ?_) | refine f_ret1 def_nil ?_ | refine t_tmpE ?_ | refine t_tmpA rfl rfl ?_ ?_)
  all_goals first
    | rfl
    | (simp; done)
theorem del0_c : PCall Tryz.prog 135 [.one (cntsD []), .one (.lit (.func (.func 137) #[] #[]))] (.v (.one (cntsD []))) := by
  have h := idxC_c [] (by simp)
  rw [if_neg (by decide)] at h
  refine pcallN hT Tryz.func135 Tryz.ntmps135 [.tmp 4] fun B => ?_
  repeat' (first | refine ks ?_ | refine ko ?_ | refine s_call (h) ?_ | refine f_ret1 def_nil ?_ | refine t_tmp ?_)
  all_goals rfl
theorem ranked0_c (f : Int) : PCall Tryz.prog 98 [.one (.lit (.int .i64 f)), .one (cntsD [])] (.v (.agg (rkE f []).d)) := by
  have h : rkE f [] = Val.null := by unfold rkE; exact if_pos rfl
  rw [h]
  refine pcallN hT Tryz.func98 Tryz.ntmps98 [.cell 4 53] fun B => ?_
  repeat' (first | refine ks ?_ | refine ko ?_ | refine s_call (clone0_c) ?_ | refine s_call (del0_c) ?_ | refine f_ret1 def_nil ?_ | refine t_cellG ?_ | exact cfs_nil | refine cfs_cons ?_ ?_ | refine cf_d ?_)
  all_goals rfl
theorem ascE_len (L : List (Val × Int)) : (ascE L).length = (nnE L).length := (ascE_perm L).length_eq
theorem nn_bnd {L : List (Val × Int)} (h : Bnd L) : Bnd (ascE L) := by
  refine ⟨by rw [ascE_len]; exact Nat.le_trans (nnE_len L) h.1, fun x hx => ?_⟩
  exact h.2 x (List.mem_filter.1 ((ascE_perm L).mem_iff.1 hx)).1
theorem ranked1_c (L : List (Val × Int)) (hb : Bnd L) (hne : L ≠ []) (hn : nnE L = []) (f : Int) : PCall Tryz.prog 98 [.one (.lit (.int .i64 f)), .one (cntsD L)] (.v (.agg (rkE f L).d)) := by
  have h : rkE f L = Val.null := by unfold rkE; rw [if_pos hn]
  rw [h]
  have h1 := cloneC_h L hb.1 hne
  have h2 := delC_h L hb.1 hne
  rw [hn, List.length_nil, List.map_nil] at h2
  refine pcallN hT Tryz.func98 Tryz.ntmps98 [.cell 4 53] fun B => ?_
  repeat' (first | refine ks ?_ | refine ko ?_ | refine s_callH [] (h1) ?_ | refine s_callH [1] (h2) ?_ | refine f_ret1 def_nil ?_ | refine t_cellG ?_ | exact cfs_nil | refine cfs_cons ?_ ?_ | refine cf_d ?_)
  all_goals rfl
theorem ranked_c (L : List (Val × Int)) (hb : Bnd L) (hp : PosC L) (f : Int) (hf : f = 2 ∨ f = 3 ∨ f = 4) : PCall Tryz.prog 98 [.one (.lit (.int .i64 f)), .one (cntsD L)] (.v (.agg (rkE f L).d)) := by
  by_cases hne : L = []
  · subst hne; exact ranked0_c f
  by_cases hn : nnE L = []
  · exact ranked1_c L hb hne hn f
  have h1 := cloneC_h L hb.1 hne
  have h2 := delC_h L hb.1 hne
  have hnl := nnE_len L
  have hbl := hb.1
  have hS := sortF138_h cnD (fun _ => rfl) (fun x y => x.1.cmp y.1) vcmp_ok.swo 139 (nnE L) (by omega) (fun x _ y _ => rankCmp_c x y)
  have hse : sortF (fun x y : Val × Int => x.1.cmp y.1) (nnE L) = ascE L := rfl
  rw [hse] at hS
  have hr : rkE f L = if f = 2 then nthE (ascE L) 0 else if f = 3 then nthE (ascE L) (ttl (nnE L) - 1) else nthE (ascE L) ((ttl (nnE L) - 1) / 2) := by unfold rkE; rw [if_neg hn]
  have ht : ttl (nnE L) = ttl (ascE L) := (sum_perm (ascE_perm L)).symm
  rw [hr, ht]
  have hal := ascE_len L
  have hB := nn_bnd hb
  have hP : PosC (ascE L) := fun x hx => hp x (List.mem_filter.1 ((ascE_perm L).mem_iff.1 hx)).1
  have hpos : 0 < (nnE L).length := List.length_pos_iff.2 hn
  clear hr ht hse
  generalize ascE L = S at hS hal hB hP ⊢
  generalize hN : (nnE L).length = N at h2 hS hal hpos hnl
  clear hN
  rcases hf with rfl | rfl | rfl
  · obtain ⟨x, S', rfl⟩ : ∃ x S', S = x :: S' := by
      cases S with
      | nil => simp at hal; omega
      | cons x S' => exact ⟨x, S', rfl⟩
    rw [if_pos rfl, nth_first hP]
    have hv : ((x :: S').map cnD)[0]? = some (cnD x) := rfl
    have hvl : ((x :: S').map cnD).length = N := by rw [List.length_map]; exact hal
    generalize (x :: S').map cnD = M at hS hv hvl
    refine pcallN hT Tryz.func98 Tryz.ntmps98 [.cell 4 53] fun B => ?_
    repeat' (first | refine ks ?_ | refine ko ?_ | refine s_loadAA ?_ (he' := (by first | exact hv | exact rfl)) | refine s_callH [] (h1) ?_ | refine s_callH [1] (h2) ?_ | refine s_callH [1] (hS) ?_ | refine f_ret1 def_nil ?_ | refine t_cellG ?_ | exact cfs_nil | refine cfs_cons ?_ ?_ | refine cf_d ?_)
    all_goals rfl
  · obtain ⟨S', x, rfl⟩ : ∃ S' x, S = S' ++ [x] := by
      rcases List.eq_nil_or_concat S with h | ⟨a, b, h⟩
      · subst h; simp at hal; omega
      · exact ⟨a, b, by rw [h, List.concat_eq_append]⟩
    rw [if_neg (by decide), if_pos rfl, nth_last hP]
    have hSl : S'.length + 1 = N := by simpa using hal
    have hv : ((S' ++ [x]).map cnD)[((N : Int) - 1).toNat]? = some (cnD x) := by
      rw [show ((N : Int) - 1).toNat = S'.length by omega, List.getElem?_map]; simp
    have hvl : ((S' ++ [x]).map cnD).length = N := by rw [List.length_map]; exact hal
    generalize (S' ++ [x]).map cnD = M at hS hv hvl
    refine pcallN hT Tryz.func98 Tryz.ntmps98 [.cell 4 53] fun B => ?_
    repeat' (first | refine ks ?_ | refine ko ?_ | refine s_loadAA ?_ (he' := (by first | exact hv | exact rfl)) | refine s_callH [] (h1) ?_ | refine s_callH [1] (h2) ?_ | refine s_callH [1] (hS) ?_ | refine f_ret1 def_nil ?_ | refine t_cellG ?_ | exact cfs_nil | refine cfs_cons ?_ ?_ | refine cf_d ?_)
    all_goals rfl
  · rw [if_neg (by decide), if_neg (by decide)]
    have hSl := hB.1
    have htp := ttl_pos hP (fun q => by rw [q] at hal; simp at hal; omega)
    have htb := ttl_bd hB S.length
    rw [List.take_length] at htb
    refine pcallN hT Tryz.func98 Tryz.ntmps98 [.cell 4 53] fun B => ?_
    repeat' (first | refine ks ?_ | refine ko ?_ | refine s_callH [] (h1) ?_ | refine s_callH [1] (h2) ?_ | refine s_callH [1] (hS) ?_ | refine f_ret1 def_nil ?_ | refine t_cellG ?_ | exact cfs_nil | refine cfs_cons ?_ ?_ | refine cf_d ?_)
    refine s_lp (X := Nat × Int) [5, 7, 38, 39, 40, 41, 42, 43, 44, 45, 46] (fun x => x.1 ≤ N ∧ x.2 = ttl (S.take x.1)) (fun x lz => (38, (.c (.d (.lit (.int .i64 x.1))))) :: (5, .c (.d (.lit (.int .i64 x.2)))) :: lz) (fun x => [.box 1 (Val.null.d.map .d), .arr 3 99 4 (S.map cnD)]) (fun x => N - x.1) ((0, 0)) ?_ ?_ ?_ ?_
    repeat' (first | exact slots_nil | refine kw ?_ | refine kv ?_ ?_ | exact memIn_nil | omega)
    · exact ⟨by simp, rfl⟩
    rintro ⟨k, m⟩ c ⟨hk, hm⟩
    dsimp only at hk hm ⊢
    by_cases hkl : k < N
    · have hv : S[k]? = some S[k] := List.getElem?_eq_getElem (by omega)
      generalize S[k] = x at hv
      have hv2 : (S.map cnD)[k]? = some (cnD x) := by rw [List.getElem?_map, hv]; rfl
      have e1 := ttl_snoc hv
      have b1 := ttl_bd hB (k + 1)
      have b2 := ttl_bd hB k
      rw [← hm] at e1 b2
      have hvl : (S.map cnD).length = N := by rw [List.length_map]; exact hal
      generalize S.map cnD = M at hv2 hvl ⊢
      repeat' (first | refine ks ?_ | refine ko ?_ | refine s_loadAA ?_ (he' := (by first | exact hv2 | exact rfl)) | refine f_ret1 def_nil ?_ | refine t_cellG ?_ | exact cfs_nil | refine cfs_cons ?_ ?_ | refine cf_d ?_)
      (apply s_round ((k + 1, m + x.2)); all_goals (try dsimp only); all_goals (try (repeat' (first | exact slots_nil | refine kw ?_ | refine kv ?_ ?_ | exact memIn_nil | omega))))
      all_goals exact ⟨by omega, e1.symm⟩
    · obtain rfl : k = N := by omega
      rw [take_ge (by omega)] at hm
      rw [← hm] at htp htb ⊢
      repeat' (first | refine ks ?_ | refine ko ?_ | refine f_ret1 def_nil ?_ | refine t_cellG ?_ | exact cfs_nil | refine cfs_cons ?_ ?_ | refine cf_d ?_)
      refine s_lp (X := Nat × Int) [8, 10, 52, 53, 54, 55, 56, 57, 58, 59, 60, 61, 62, 63, 64, 65, 66] (fun x => x.1 ≤ k ∧ 0 ≤ x.2 ∧ x.2 ≤ 1073741824 ∧ nthE S ((m - 1) / 2) = nthE (S.drop x.1) x.2) (fun x lz => (52, (.c (.d (.lit (.int .i64 x.1))))) :: (8, .c (.d (.lit (.int .i64 x.2)))) :: lz) (fun x => [.box 1 (Val.null.d.map .d), .arr 3 99 4 (S.map cnD)]) (fun x => k - x.1) ((0, (m - 1) / 2)) ?_ ?_ ?_ ?_
      repeat' (first | exact slots_nil | refine kw ?_ | refine kv ?_ ?_ | exact memIn_nil | omega)
      all_goals try (dsimp only; rw [Int.tdiv_eq_ediv_of_nonneg (by omega), wrap_i64 (by omega) (by omega)]; done)
      all_goals try (exact ⟨by omega, by dsimp only; omega, by dsimp only; omega, rfl⟩)
      rintro ⟨q, z⟩ c2 ⟨hq, hz0, hz1, hnt⟩
      dsimp only at hq hz0 hz1 hnt ⊢
      by_cases hql : q < k
      · have hv : S[q]? = some S[q] := List.getElem?_eq_getElem (by omega)
        have hpx := hP _ (List.mem_of_getElem? hv)
        generalize S[q] = x at hv hpx
        have hv2 : (S.map cnD)[q]? = some (cnD x) := by rw [List.getElem?_map, hv]; rfl
        have hvl : (S.map cnD).length = k := by rw [List.length_map]; exact hal
        rw [drop_cons hv, nthE] at hnt
        generalize S.map cnD = M at hv2 hvl ⊢
        by_cases hzx : z < x.2
        · rw [if_pos hzx] at hnt
          rw [hnt]
          repeat' (first | refine ks ?_ | refine ko ?_ | refine s_loadAA ?_ (he' := (by first | exact hv2 | exact rfl)) | refine f_ret1 def_nil ?_ | refine t_cellG ?_ | exact cfs_nil | refine cfs_cons ?_ ?_ | refine cf_d ?_)
          all_goals rfl
        · rw [if_neg hzx] at hnt
          repeat' (first | refine ks ?_ | refine ko ?_ | refine s_loadAA ?_ (he' := (by first | exact hv2 | exact rfl)) | refine f_ret1 def_nil ?_ | refine t_cellG ?_ | exact cfs_nil | refine cfs_cons ?_ ?_ | refine cf_d ?_)
          (apply s_round ((q + 1, z - x.2)); all_goals (try dsimp only); all_goals (try (repeat' (first | exact slots_nil | refine kw ?_ | refine kv ?_ ?_ | exact memIn_nil | omega))))
          all_goals exact ⟨by omega, by omega, by omega, hnt⟩
      · rw [List.drop_eq_nil_of_le (by omega), nthE] at hnt
        rw [hnt]
        repeat' (first | refine ks ?_ | refine ko ?_ | refine f_ret1 def_nil ?_ | refine t_cellG ?_ | exact cfs_nil | refine cfs_cons ?_ ?_ | refine cf_d ?_)
        all_goals rfl
end Go.Proofs.YtojfhaoleedmkaaGreat
end
end
section
namespace Go.Proofs.YtojfhaoleedmkaaGreat
open Go.Abs Go.RowKit
attribute [local irreducible] ARun kont MCall PCall HCall resVal SF CF CFs defersOk slotsIn memIn fin finM VLe
set_option linter.unusedSimpArgs false
set_option maxRecDepth 100000
set_option maxHeartbeats 4000000
theorem fold_rk (f : Int) (L : List (Val × Int)) (hf : f = 2 ∨ f = 3 ∨ f = 4) : foldE f L = rkE f L := by
  unfold foldE rkE
  rcases hf with rfl | rfl | rfl
  · rw [if_neg (by decide), if_neg (by decide), if_pos rfl]; simp
  · rw [if_neg (by decide), if_neg (by decide), if_neg (by decide), if_pos rfl]; simp
  · rw [if_neg (by decide), if_neg (by decide), if_neg (by decide), if_neg (by decide), if_pos rfl]; simp
theorem fold_c (f : Int) (L : List (Val × Int)) (hb : Bnd L) (hp : PosC L) : PCall Tryz.prog 49 [.one (.lit (.int .i64 f)), .one (cntsD L)] (.v (.agg (foldE f L).d)) := by
  have hl := hb.1
  by_cases h0 : f = 0
  · subst h0
    have hn := aggNumber_c (ttl L)
    have he : foldE 0 L = Val.ofInt (ttl L) := by unfold foldE; rw [if_pos rfl]
    rw [he]
    refine pcallN hT Tryz.func49 Tryz.ntmps49 [.cell 4 53] fun B => ?_
    repeat' (first | refine ks ?_ | refine ko ?_ | refine s_indexD ?_ (hel := (by first | exact rfl)) | refine f_ret1 def_nil ?_ | refine t_cellG ?_ | exact cfs_nil | refine cfs_cons ?_ ?_ | refine cf_d ?_)
    refine s_lp (X := Nat × Int) [5, 7, 15, 16, 17, 18, 19, 20, 21, 22, 23] (fun x => x.1 ≤ L.length ∧ x.2 = ttl (L.take x.1)) (fun x lz => (15, (.c (.d (.lit (.int .i64 x.1))))) :: (5, .c (.d (.lit (.int .i64 x.2)))) :: lz) (fun x => [.box 1 (Val.null.d.map .d)]) (fun x => L.length - x.1) ((0, 0)) ?_ ?_ ?_ ?_
    repeat' (first | exact slots_nil | refine kw ?_ | exact memIn_nil | omega)
    · exact ⟨by simp, rfl⟩
    rintro ⟨k, m⟩ c ⟨hk, hm⟩
    dsimp only at hk hm ⊢
    by_cases hkl : k < L.length
    · have hv : L[k]? = some L[k] := List.getElem?_eq_getElem (by omega)
      generalize L[k] = x at hv
      have hv2 : (L.map cnD)[k]? = some (cnD x) := by rw [List.getElem?_map, hv]; rfl
      have e1 := ttl_snoc hv
      have b1 := ttl_bd hb (k + 1)
      rw [← hm] at e1
      repeat' (first | refine ks ?_ | refine ko ?_ | refine s_indexD ?_ (hel := (by first | exact idx_map hv2 (by omega) | exact hv2 | exact rfl)) | refine f_ret1 def_nil ?_ | refine t_cellG ?_ | exact cfs_nil | refine cfs_cons ?_ ?_ | refine cf_d ?_)
      (apply s_round ((k + 1, m + x.2)); all_goals (try dsimp only); all_goals (try (repeat' (first | exact slots_nil | refine kw ?_ | exact memIn_nil | omega))))
      all_goals exact ⟨by omega, e1.symm⟩
    · rw [take_ge (show L.length ≤ k by omega)] at hm
      rw [← hm] at hn ⊢
      repeat' (first | refine ks ?_ | refine ko ?_ | refine s_indexD ?_ (hel := (by first | exact rfl)) | refine s_call (hn) ?_ | refine f_ret1 def_nil ?_ | refine t_cellG ?_ | exact cfs_nil | refine cfs_cons ?_ ?_ | refine cf_d ?_)
      all_goals rfl
  by_cases h1 : f = 1
  · subst h1
    have hs := aggSum_c L hb
    have hn := aggNumber_c (sumV L)
    by_cases hc : cntV L = 0
    · have he : foldE 1 L = Val.null := by unfold foldE; rw [if_neg (by decide), if_pos rfl, if_pos hc]
      rw [he]
      rw [hc] at hs
      refine pcallN hT Tryz.func49 Tryz.ntmps49 [.cell 4 53] fun B => ?_
      repeat' (first | refine ks ?_ | refine ko ?_ | refine s_indexD ?_ (hel := (by first | exact rfl)) | refine s_call (hs) ?_ | refine f_ret1 def_nil ?_ | refine t_cellG ?_ | exact cfs_nil | refine cfs_cons ?_ ?_ | refine cf_d ?_)
      all_goals rfl
    · have he : foldE 1 L = Val.ofInt (sumV L) := by unfold foldE; rw [if_neg (by decide), if_pos rfl, if_neg hc]
      rw [he]
      generalize cntV L = n at hs hc
      refine pcallN hT Tryz.func49 Tryz.ntmps49 [.cell 4 53] fun B => ?_
      repeat' (first | refine ks ?_ | refine ko ?_ | refine s_indexD ?_ (hel := (by first | exact rfl)) | refine s_call (hs) ?_ | refine s_call (hn) ?_ | refine f_ret1 def_nil ?_ | refine t_cellG ?_ | exact cfs_nil | refine cfs_cons ?_ ?_ | refine cf_d ?_)
      all_goals rfl
  by_cases h2 : f = 2 ∨ f = 3 ∨ f = 4
  · have hr := ranked_c L hb hp f h2
    rw [fold_rk f L h2]
    rcases h2 with rfl | rfl | rfl
    all_goals
      refine pcallN hT Tryz.func49 Tryz.ntmps49 [.cell 4 53] fun B => ?_
      repeat' (first | refine ks ?_ | refine ko ?_ | refine s_indexD ?_ (hel := (by first | exact rfl)) | refine s_call (hr) ?_ | refine f_ret1 def_nil ?_ | refine t_cellG ?_ | exact cfs_nil | refine cfs_cons ?_ ?_ | refine cf_d ?_)
      all_goals rfl
  · have he : foldE f L = Val.null := by unfold foldE; rw [if_neg h0, if_neg h1, if_neg (by omega), if_neg (by omega), if_neg (by omega)]
    rw [he]
    refine pcallN hT Tryz.func49 Tryz.ntmps49 [.cell 4 53] fun B => ?_
    repeat' (first | refine ks ?_ | refine ko ?_ | refine s_indexD ?_ (hel := (by first | exact rfl)) | refine f_ret1 def_nil ?_ | refine t_cellG ?_ | exact cfs_nil | refine cfs_cons ?_ ?_ | refine cf_d ?_)
    all_goals first
      | rfl
      | (exfalso; simp at hb; omega)
structure Agg where
  name : ByteArray
  func : Int
  expr : List Trm
def Agg.d (x : Agg) : List Dat := [.lit (.string x.name), .lit (.int .i64 x.func), exprD x.expr]
def aggD (l : List Agg) : Dat := .sl (l.map Agg.d)
def vlE (x : Agg) (e : Entry) : Val × Int := (if x.func = 0 then Val.null else evE x.expr e.row, e.count)
def valsE (x : Agg) (es : List Entry) : List (Val × Int) := es.map (vlE x)
theorem valsE_snoc {ag : Agg} {es : List Entry} {i : Nat} {y : Entry} (h : es[i]? = some y) : (valsE ag (es.take i)).map cnD ++ [cnD (vlE ag y)] = (valsE ag (es.take (i + 1))).map cnD := by
  rw [take_snoc' h]; simp [valsE]
theorem valsE_len (ag : Agg) (es : List Entry) : (valsE ag es).length = es.length := by simp [valsE]
theorem values_c (g : List Val × List Entry) (ag : Agg) (hl : g.2.length ≤ 4096) : PCall Tryz.prog 50 [.agg (grD g), .agg ag.d] (.v (.one (cntsD (valsE ag g.2)))) := by
  obtain ⟨key, es⟩ := g
  dsimp only at hl ⊢
  refine pcallN hT Tryz.func50 Tryz.ntmps50 [.tmp 4] fun B => ?_
  repeat' (first | refine ks ?_ | refine ko ?_ | refine s_indexD ?_ (hel := (by first | exact rfl)) | refine f_ret1 def_nil ?_ | refine t_tmp ?_)
  refine s_own 5 99 4 ?_
  refine s_lp (X := Nat × Nat) [5, 7, 8, 12, 13, 14, 15, 16, 17, 18, 19, 20, 21, 22, 23, 24, 25, 26, 27, 28, 29, 30, 31] (fun x => x.1 ≤ es.length) (fun x lz => (12, (.c (.d (.lit (.int .i64 x.1))))) :: (5, .c (.arr 2 x.2 x.1)) :: lz) (fun x => [.box 1 [.d (rowX key), .d (bagD es)], .box 2 (ag.d.map .d), .arr x.2 99 4 ((valsE ag (es.take x.1)).map cnD)]) (fun x => es.length - x.1) ((0, 3)) ?_ ?_ ?_ ?_
  repeat' (first | exact slots_nil | refine kw ?_ | exact memIn_nil | refine kv ?_ ?_ | omega)
  rintro ⟨i, k⟩ c hi
  dsimp only at hi ⊢
  by_cases hlt : i < es.length
  · have hv : es[i]? = some es[i] := List.getElem?_eq_getElem hlt
    generalize es[i] = y at hv
    have hs := valsE_snoc (ag := ag) hv
    have hal : ((valsE ag (es.take i)).map cnD).length = i := by simp [valsE]; omega
    have hv2 : (es.map Entry.d)[i]? = some y.d := by rw [List.getElem?_map, hv]; rfl
    generalize (valsE ag (es.take i)).map cnD = A at hs hal ⊢
    by_cases hf : ag.func = 0
    · have hy : cnD (vlE ag y) = Val.null.d ++ [.lit (.int .i64 y.count)] := by unfold vlE cnD; rw [if_pos hf]; rfl
      rw [hy] at hs
      repeat' (first | refine ks ?_ | refine ko ?_ | refine s_indexD ?_ (hel := (by first | exact idx_map hv2 (by omega) | exact hv2 | exact rfl)) | refine f_ret1 def_nil ?_ | refine t_tmp ?_)
      (apply s_round ((i + 1, c + 3)); all_goals (try dsimp only); all_goals (try (repeat' (first | exact slots_nil | refine kw ?_ | exact memIn_nil | refine kv ?_ ?_ | omega))))
      all_goals first
        | omega
        | (rw [take_ge (by omega)]; exact hs)
    · have hev := exEval_c ag.expr y.row
      have hy : cnD (vlE ag y) = (evE ag.expr y.row).d ++ [.lit (.int .i64 y.count)] := by unfold vlE cnD; rw [if_neg hf]; rfl
      rw [hy] at hs
      repeat' (first | refine ks ?_ | refine ko ?_ | refine s_indexD ?_ (hel := (by first | exact idx_map hv2 (by omega) | exact hv2 | exact rfl)) | refine s_call (hev) ?_ | refine f_ret1 def_nil ?_ | refine t_tmp ?_)
      (apply s_round ((i + 1, c + 3)); all_goals (try dsimp only); all_goals (try (repeat' (first | exact slots_nil | refine kw ?_ | exact memIn_nil | refine kv ?_ ?_ | omega))))
      all_goals first
        | omega
        | (rw [take_ge (by omega)]; exact hs)
  · obtain rfl : i = es.length := by omega
    rw [take_ge (Nat.le_refl _)]
    refine s_freeze (m := es.length) (r := 2) (es := (valsE ag es).map cnD) 5 ?_ (hl := by rw [List.length_map, valsE_len]; omega) (hes := take_ge (by rw [List.length_map, valsE_len]; omega))
    repeat' (first | refine ks ?_ | refine ko ?_ | refine s_indexD ?_ (hel := (by first | exact rfl)) | refine f_ret1 def_nil ?_ | refine t_tmp ?_)
    all_goals rfl
end Go.Proofs.YtojfhaoleedmkaaGreat
end
