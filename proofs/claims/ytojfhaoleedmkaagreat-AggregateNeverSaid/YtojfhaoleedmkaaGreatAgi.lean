/-
  Aggregates: ranked values, fold.
-/
import Derived.Test.YtojfhaoleedmkaaGreatAgh
namespace Go.Proofs.YtojfhaoleedmkaaGreat
open Go.Abs Go.RowKit
attribute [local irreducible] ARun kont MCall PCall HCall resVal SF CF CFs defersOk slotsIn memIn fin finM VLe
set_option linter.unusedSimpArgs false
set_option maxRecDepth 100000
set_option maxHeartbeats 4000000
theorem delC_h (L : List (Val × Int)) (hl : L.length ≤ 4096) (hne : L ≠ []) : HCall Tryz.prog 135 [.c (.arr 0 0 L.length), .c (.d (.lit (.func (.func 137) #[] #[])))] [.arr 0 99 4 (L.map cnD)] (.c (.arr 0 1 (nnE L).length)) [.arr 1 99 4 ((nnE L).map cnD)] := by
  by_cases h : led L < L.length
  · exact delB_h L hl h
  · exact delA_h L hl hne h
theorem rankCmp_c (x y : Val × Int) : PCall Tryz.prog 139 [.agg (cnD x), .agg (cnD y)] (.v (.one (.lit (.int .i64 (x.1.cmp y.1))))) := by
  refine pcallN hT Tryz.func139 Tryz.ntmps139 [.tmp 4] fun B => ?_
  repeat' (first | refine ks ?_ | refine ko ?_ | refine s_call (compare_c x.1 y.1) ?_ | refine f_ret1 def_nil ?_ | refine t_tmp ?_)
  all_goals rfl
noncomputable def rkE (f : Int) (L : List (Val × Int)) : Val :=
  if nnE L = [] then Val.null else if f = 2 then nthE (ascE L) 0 else if f = 3 then nthE (ascE L) (ttl (nnE L) - 1) else nthE (ascE L) ((ttl (nnE L) - 1) / 2)
theorem clone0_c : PCall Tryz.prog 136 [.one (cntsD [])] (.v (.one (cntsD []))) := by
  refine pcallN hT Tryz.func136 Tryz.ntmps136 [.tmp 2] fun B => ?_
  repeat' (first | refine ks ?_ | refine ko ?_ | refine s_if rfl (fun hb => ?_) (fun hb => ?_) | refine s_eqNil (fun b hnil => ?_) | refine f_ret1 def_nil ?_ | refine t_tmpE ?_ | refine t_tmpA rfl rfl ?_ ?_)
  all_goals first
    | rfl
    | (simp; done)
theorem del0_c : PCall Tryz.prog 135 [.one (cntsD []), .one (.lit (.func (.func 137) #[] #[]))] (.v (.one (cntsD []))) := by
  have h := idxC_c [] (by simp)
  rw [if_neg (by decide)] at h
  refine pcallN hT Tryz.func135 Tryz.ntmps135 [.tmp 4] fun B => ?_
  repeat' (first | refine ks ?_ | refine ko ?_ | refine s_call (h) ?_ | refine f_ret1 def_nil ?_ | refine t_tmp ?_)
  all_goals rfl
theorem ranked0_c (f : Int) : PCall Tryz.prog 98 [.one (.lit (.int .i64 f)), .one (cntsD [])] (.v (.agg (rkE f []).d)) := by
  have h : rkE f [] = Val.null := by unfold rkE; exact if_pos rfl
  rw [h]
  refine pcallN hT Tryz.func98 Tryz.ntmps98 [.cell 4 53] fun B => ?_
  repeat' (first | refine ks ?_ | refine ko ?_ | refine s_call (clone0_c) ?_ | refine s_call (del0_c) ?_ | refine f_ret1 def_nil ?_ | refine t_cellG ?_ | exact cfs_nil | refine cfs_cons ?_ ?_ | refine cf_d ?_)
  all_goals rfl
theorem ascE_len (L : List (Val × Int)) : (ascE L).length = (nnE L).length := (ascE_perm L).length_eq
theorem nn_bnd {L : List (Val × Int)} (h : Bnd L) : Bnd (ascE L) := by
  refine ⟨by rw [ascE_len]; exact Nat.le_trans (nnE_len L) h.1, fun x hx => ?_⟩
  exact h.2 x (List.mem_filter.1 ((ascE_perm L).mem_iff.1 hx)).1
theorem ranked1_c (L : List (Val × Int)) (hb : Bnd L) (hne : L ≠ []) (hn : nnE L = []) (f : Int) : PCall Tryz.prog 98 [.one (.lit (.int .i64 f)), .one (cntsD L)] (.v (.agg (rkE f L).d)) := by
  have h : rkE f L = Val.null := by unfold rkE; rw [if_pos hn]
  rw [h]
  have h1 := cloneC_h L hb.1 hne
  have h2 := delC_h L hb.1 hne
  rw [hn, List.length_nil, List.map_nil] at h2
  refine pcallN hT Tryz.func98 Tryz.ntmps98 [.cell 4 53] fun B => ?_
  repeat' (first | refine ks ?_ | refine ko ?_ | refine s_callH [] (h1) ?_ | refine s_callH [1] (h2) ?_ | refine f_ret1 def_nil ?_ | refine t_cellG ?_ | exact cfs_nil | refine cfs_cons ?_ ?_ | refine cf_d ?_)
  all_goals rfl
theorem ranked_c (L : List (Val × Int)) (hb : Bnd L) (hp : PosC L) (f : Int) (hf : f = 2 ∨ f = 3 ∨ f = 4) : PCall Tryz.prog 98 [.one (.lit (.int .i64 f)), .one (cntsD L)] (.v (.agg (rkE f L).d)) := by
  by_cases hne : L = []
  · subst hne; exact ranked0_c f
  by_cases hn : nnE L = []
  · exact ranked1_c L hb hne hn f
  have h1 := cloneC_h L hb.1 hne
  have h2 := delC_h L hb.1 hne
  have hnl := nnE_len L
  have hbl := hb.1
  have hS := sortF138_h cnD (fun _ => rfl) (fun x y => x.1.cmp y.1) vcmp_ok.swo 139 (nnE L) (by omega) (fun x _ y _ => rankCmp_c x y)
  have hse : sortF (fun x y : Val × Int => x.1.cmp y.1) (nnE L) = ascE L := rfl
  rw [hse] at hS
  have hr : rkE f L = if f = 2 then nthE (ascE L) 0 else if f = 3 then nthE (ascE L) (ttl (nnE L) - 1) else nthE (ascE L) ((ttl (nnE L) - 1) / 2) := by unfold rkE; rw [if_neg hn]
  have ht : ttl (nnE L) = ttl (ascE L) := (sum_perm (ascE_perm L)).symm
  rw [hr, ht]
  have hal := ascE_len L
  have hB := nn_bnd hb
  have hP : PosC (ascE L) := fun x hx => hp x (List.mem_filter.1 ((ascE_perm L).mem_iff.1 hx)).1
  have hpos : 0 < (nnE L).length := List.length_pos_iff.2 hn
  clear hr ht hse
  generalize ascE L = S at hS hal hB hP ⊢
  generalize hN : (nnE L).length = N at h2 hS hal hpos hnl
  clear hN
  rcases hf with rfl | rfl | rfl
  · obtain ⟨x, S', rfl⟩ : ∃ x S', S = x :: S' := by
      cases S with
      | nil => simp at hal; omega
      | cons x S' => exact ⟨x, S', rfl⟩
    rw [if_pos rfl, nth_first hP]
    have hv : ((x :: S').map cnD)[0]? = some (cnD x) := rfl
    have hvl : ((x :: S').map cnD).length = N := by rw [List.length_map]; exact hal
    generalize (x :: S').map cnD = M at hS hv hvl
    refine pcallN hT Tryz.func98 Tryz.ntmps98 [.cell 4 53] fun B => ?_
    repeat' (first | refine ks ?_ | refine ko ?_ | refine s_loadAA ?_ (he' := (by first | exact hv | exact rfl)) | refine s_callH [] (h1) ?_ | refine s_callH [1] (h2) ?_ | refine s_callH [1] (hS) ?_ | refine f_ret1 def_nil ?_ | refine t_cellG ?_ | exact cfs_nil | refine cfs_cons ?_ ?_ | refine cf_d ?_)
    all_goals rfl
  · obtain ⟨S', x, rfl⟩ : ∃ S' x, S = S' ++ [x] := by
      rcases List.eq_nil_or_concat S with h | ⟨a, b, h⟩
      · subst h; simp at hal; omega
      · exact ⟨a, b, by rw [h, List.concat_eq_append]⟩
    rw [if_neg (by decide), if_pos rfl, nth_last hP]
    have hSl : S'.length + 1 = N := by simpa using hal
    have hv : ((S' ++ [x]).map cnD)[((N : Int) - 1).toNat]? = some (cnD x) := by
      rw [show ((N : Int) - 1).toNat = S'.length by omega, List.getElem?_map]; simp
    have hvl : ((S' ++ [x]).map cnD).length = N := by rw [List.length_map]; exact hal
    generalize (S' ++ [x]).map cnD = M at hS hv hvl
    refine pcallN hT Tryz.func98 Tryz.ntmps98 [.cell 4 53] fun B => ?_
    repeat' (first | refine ks ?_ | refine ko ?_ | refine s_loadAA ?_ (he' := (by first | exact hv | exact rfl)) | refine s_callH [] (h1) ?_ | refine s_callH [1] (h2) ?_ | refine s_callH [1] (hS) ?_ | refine f_ret1 def_nil ?_ | refine t_cellG ?_ | exact cfs_nil | refine cfs_cons ?_ ?_ | refine cf_d ?_)
    all_goals rfl
  · rw [if_neg (by decide), if_neg (by decide)]
    have hSl := hB.1
    have htp := ttl_pos hP (fun q => by rw [q] at hal; simp at hal; omega)
    have htb := ttl_bd hB S.length
    rw [List.take_length] at htb
    refine pcallN hT Tryz.func98 Tryz.ntmps98 [.cell 4 53] fun B => ?_
    repeat' (first | refine ks ?_ | refine ko ?_ | refine s_callH [] (h1) ?_ | refine s_callH [1] (h2) ?_ | refine s_callH [1] (hS) ?_ | refine f_ret1 def_nil ?_ | refine t_cellG ?_ | exact cfs_nil | refine cfs_cons ?_ ?_ | refine cf_d ?_)
    refine s_lp (X := Nat × Int) [5, 7, 38, 39, 40, 41, 42, 43, 44, 45, 46] (fun x => x.1 ≤ N ∧ x.2 = ttl (S.take x.1)) (fun x lz => (38, (.c (.d (.lit (.int .i64 x.1))))) :: (5, .c (.d (.lit (.int .i64 x.2)))) :: lz) (fun x => [.box 1 (Val.null.d.map .d), .arr 3 99 4 (S.map cnD)]) (fun x => N - x.1) ((0, 0)) ?_ ?_ ?_ ?_
    repeat' (first | exact slots_nil | refine kw ?_ | refine kv ?_ ?_ | exact memIn_nil | omega)
    · exact ⟨by simp, rfl⟩
    rintro ⟨k, m⟩ c ⟨hk, hm⟩
    dsimp only at hk hm ⊢
    by_cases hkl : k < N
    · have hv : S[k]? = some S[k] := List.getElem?_eq_getElem (by omega)
      generalize S[k] = x at hv
      have hv2 : (S.map cnD)[k]? = some (cnD x) := by rw [List.getElem?_map, hv]; rfl
      have e1 := ttl_snoc hv
      have b1 := ttl_bd hB (k + 1)
      have b2 := ttl_bd hB k
      rw [← hm] at e1 b2
      have hvl : (S.map cnD).length = N := by rw [List.length_map]; exact hal
      generalize S.map cnD = M at hv2 hvl ⊢
      repeat' (first | refine ks ?_ | refine ko ?_ | refine s_loadAA ?_ (he' := (by first | exact hv2 | exact rfl)) | refine f_ret1 def_nil ?_ | refine t_cellG ?_ | exact cfs_nil | refine cfs_cons ?_ ?_ | refine cf_d ?_)
      (apply s_round ((k + 1, m + x.2)); all_goals (try dsimp only); all_goals (try (repeat' (first | exact slots_nil | refine kw ?_ | refine kv ?_ ?_ | exact memIn_nil | omega))))
      all_goals exact ⟨by omega, e1.symm⟩
    · obtain rfl : k = N := by omega
      rw [take_ge (by omega)] at hm
      rw [← hm] at htp htb ⊢
      repeat' (first | refine ks ?_ | refine ko ?_ | refine f_ret1 def_nil ?_ | refine t_cellG ?_ | exact cfs_nil | refine cfs_cons ?_ ?_ | refine cf_d ?_)
      refine s_lp (X := Nat × Int) [8, 10, 52, 53, 54, 55, 56, 57, 58, 59, 60, 61, 62, 63, 64, 65, 66] (fun x => x.1 ≤ k ∧ 0 ≤ x.2 ∧ x.2 ≤ 1073741824 ∧ nthE S ((m - 1) / 2) = nthE (S.drop x.1) x.2) (fun x lz => (52, (.c (.d (.lit (.int .i64 x.1))))) :: (8, .c (.d (.lit (.int .i64 x.2)))) :: lz) (fun x => [.box 1 (Val.null.d.map .d), .arr 3 99 4 (S.map cnD)]) (fun x => k - x.1) ((0, (m - 1) / 2)) ?_ ?_ ?_ ?_
      repeat' (first | exact slots_nil | refine kw ?_ | refine kv ?_ ?_ | exact memIn_nil | omega)
      all_goals try (dsimp only; rw [Int.tdiv_eq_ediv_of_nonneg (by omega), wrap_i64 (by omega) (by omega)]; done)
      all_goals try (exact ⟨by omega, by dsimp only; omega, by dsimp only; omega, rfl⟩)
      rintro ⟨q, z⟩ c2 ⟨hq, hz0, hz1, hnt⟩
      dsimp only at hq hz0 hz1 hnt ⊢
      by_cases hql : q < k
      · have hv : S[q]? = some S[q] := List.getElem?_eq_getElem (by omega)
        have hpx := hP _ (List.mem_of_getElem? hv)
        generalize S[q] = x at hv hpx
        have hv2 : (S.map cnD)[q]? = some (cnD x) := by rw [List.getElem?_map, hv]; rfl
        have hvl : (S.map cnD).length = k := by rw [List.length_map]; exact hal
        rw [drop_cons hv, nthE] at hnt
        generalize S.map cnD = M at hv2 hvl ⊢
        by_cases hzx : z < x.2
        · rw [if_pos hzx] at hnt
          rw [hnt]
          repeat' (first | refine ks ?_ | refine ko ?_ | refine s_loadAA ?_ (he' := (by first | exact hv2 | exact rfl)) | refine f_ret1 def_nil ?_ | refine t_cellG ?_ | exact cfs_nil | refine cfs_cons ?_ ?_ | refine cf_d ?_)
          all_goals rfl
        · rw [if_neg hzx] at hnt
          repeat' (first | refine ks ?_ | refine ko ?_ | refine s_loadAA ?_ (he' := (by first | exact hv2 | exact rfl)) | refine f_ret1 def_nil ?_ | refine t_cellG ?_ | exact cfs_nil | refine cfs_cons ?_ ?_ | refine cf_d ?_)
          (apply s_round ((q + 1, z - x.2)); all_goals (try dsimp only); all_goals (try (repeat' (first | exact slots_nil | refine kw ?_ | refine kv ?_ ?_ | exact memIn_nil | omega))))
          all_goals exact ⟨by omega, by omega, by omega, hnt⟩
      · rw [List.drop_eq_nil_of_le (by omega), nthE] at hnt
        rw [hnt]
        repeat' (first | refine ks ?_ | refine ko ?_ | refine f_ret1 def_nil ?_ | refine t_cellG ?_ | exact cfs_nil | refine cfs_cons ?_ ?_ | refine cf_d ?_)
        all_goals rfl
end Go.Proofs.YtojfhaoleedmkaaGreat
