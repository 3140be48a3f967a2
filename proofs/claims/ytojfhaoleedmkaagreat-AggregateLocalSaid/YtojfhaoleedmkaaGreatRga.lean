/-
  Aggregates, the document's: first, integers, nth, fold, Fold.
-/
import Derived.Test.YtojfhaoleedmkaaGreatAgj
import Derived.Test.YtojfhaoleedmkaaGreatFld
namespace Go.Proofs.YtojfhaoleedmkaaGreat
open Go.Abs Go.RowKit
attribute [local irreducible] ARun kont MCall PCall HCall resVal SF CF CFs defersOk slotsIn memIn fin finM VLe
set_option linter.unusedSimpArgs false
set_option maxRecDepth 100000
set_option maxHeartbeats 4000000
def firstV : List Val → Val
  | [] => Val.null
  | v :: _ => v
def vc (e : Entry) : Val × Int := (firstV e.row, e.count)
def vcs (l : List Entry) : List (Val × Int) := l.map vc
theorem vcs_len (l : List Entry) : (vcs l).length = l.length := by simp [vcs]
theorem vcs_get {l : List Entry} {i : Nat} {e : Entry} (h : l[i]? = some e) : (vcs l)[i]? = some (vc e) := by unfold vcs; rw [List.getElem?_map, h]; rfl
theorem first_c (r : List Val) : PCall Tryz.prog 106 [.one (rowD r)] (.v (.agg (firstV r).d)) := by
  cases r with
  | nil =>
    refine pcallN hT Tryz.func106 Tryz.ntmps106 [.cell 2 53] fun B => ?_
    repeat' (first | refine ks ?_ | refine ko ?_ | refine s_indexD ?_ (hel := (by first | exact rfl)) | refine f_ret1 def_nil ?_ | refine t_cellG ?_ | exact cfs_nil | refine cfs_cons ?_ ?_ | refine cf_d ?_)
    all_goals rfl
  | cons v r =>
    have hv : ((v :: r).map Val.d)[0]? = some v.d := rfl
    have hl : ((v :: r).map Val.d).length = r.length + 1 := by simp
    unfold rowD
    generalize (v :: r).map Val.d = M at hv hl
    refine pcallN hT Tryz.func106 Tryz.ntmps106 [.cell 2 53] fun B => ?_
    repeat' (first | refine ks ?_ | refine ko ?_ | refine s_indexD ?_ (hel := (by first | exact idx_map hv (by omega) | exact hv | exact rfl)) | refine f_ret1 def_nil ?_ | refine t_cellG ?_ | exact cfs_nil | refine cfs_cons ?_ ?_ | refine cf_d ?_)
    all_goals rfl
theorem integers_c (l : List Entry) (h : Bnd (vcs l)) : PCall Tryz.prog 65 [.one (bagD l)] (.tup [.one (.lit (.int .i64 (sumV (vcs l)))), .one (.lit (.int .i64 (cntV (vcs l))))]) := by
  have hl := h.1
  rw [vcs_len] at hl
  refine pcallN hT Tryz.func65 Tryz.ntmps65 [.tmp 2, .tmp 3] fun B => ?_
  repeat' (first | refine ks ?_ | refine ko ?_ | refine s_indexD ?_ (hel := (by first | exact rfl)) | refine f_ret2 def_nil ?_ ?_ | refine t_tmp ?_)
  refine s_lp (X := Nat × Int × Int) [4, 5, 6, 7, 8, 9, 10, 11, 12, 13, 14, 15, 16, 17, 18, 19, 20, 21, 22, 23, 24, 25, 26, 27, 28, 29, 30, 31, 32, 33, 34, 35, 36, 37, 38, 39] (fun x => x.1 ≤ l.length ∧ x.2.1 = sumV ((vcs l).take x.1) ∧ x.2.2 = cntV ((vcs l).take x.1)) (fun x lz => (6, (.c (.d (.lit (.int .i64 x.1))))) :: (4, .c (.d (.lit (.int .i64 x.2.1)))) :: (5, .c (.d (.lit (.int .i64 x.2.2)))) :: lz) (fun x => []) (fun x => l.length - x.1) ((0, 0, 0)) ?_ ?_ ?_ ?_
  repeat' (first | exact slots_nil | refine kw ?_ | exact memIn_nil | omega)
  · exact ⟨by simp, rfl, rfl⟩
  rintro ⟨i, s, m⟩ c ⟨hi, hs, hm⟩
  dsimp only at hi hs hm ⊢
  by_cases hlt : i < l.length
  · have hv : l[i]? = some l[i] := List.getElem?_eq_getElem hlt
    generalize l[i] = e at hv
    have hx := h.2 _ (List.mem_of_getElem? (vcs_get hv))
    have hv2 : (l.map Entry.d)[i]? = some e.d := by rw [List.getElem?_map, hv]; rfl
    have b1 := sumV_bd h i
    have b2 := cntV_bd h i
    have b3 := sumV_bd h (i + 1)
    have b4 := prod_bd hx.1 hx.2
    have e1 := sumV_snoc (vcs_get hv)
    have e2 := cntV_snoc (vcs_get hv)
    rw [← hs] at b1 e1
    rw [← hm] at b2 e2
    have hf := first_c e.row
    unfold vc at e1 e2 b4 hx
    dsimp only at e1 e2 b4 hx
    generalize firstV e.row = u at hf e1 e2 b4 hx
    by_cases hk : u.kind = 1
    · rw [if_pos hk] at e1 e2
      obtain ⟨p, hp⟩ : ∃ p, p = u.int * e.count := ⟨_, rfl⟩
      rw [← hp] at b4 e1
      repeat' (first | refine ks ?_ | refine ko ?_ | refine s_indexD ?_ (hel := (by first | exact idx_map hv2 (by omega) | exact hv2 | exact rfl)) | refine s_call (hf) ?_ | refine f_ret2 def_nil ?_ ?_ | refine t_tmp ?_)
      (apply s_round ((i + 1, s + u.int * e.count, m + e.count)); all_goals (try dsimp only); all_goals (try (repeat' (first | exact slots_nil | refine kw ?_ | exact memIn_nil | omega))))
      all_goals exact ⟨by omega, by rw [e1, hp], e2.symm⟩
    · rw [if_neg hk, Int.add_zero] at e1 e2
      repeat' (first | refine ks ?_ | refine ko ?_ | refine s_indexD ?_ (hel := (by first | exact idx_map hv2 (by omega) | exact hv2 | exact rfl)) | refine s_call (hf) ?_ | refine f_ret2 def_nil ?_ ?_ | refine t_tmp ?_)
      (apply s_round ((i + 1, s, m)); all_goals (try dsimp only); all_goals (try (repeat' (first | exact slots_nil | refine kw ?_ | exact memIn_nil | omega))))
      all_goals exact ⟨by omega, e1.symm, e2.symm⟩
  · rw [take_ge (show (vcs l).length ≤ i by rw [vcs_len]; omega)] at hs hm
    rw [← hs, ← hm]
    repeat' (first | refine ks ?_ | refine ko ?_ | refine s_indexD ?_ (hel := (by first | exact rfl)) | refine f_ret2 def_nil ?_ ?_ | refine t_tmp ?_)
    all_goals rfl
theorem nnE_drop {L : List (Val × Int)} {i : Nat} {x : Val × Int} (h : L[i]? = some x) : nnE (L.drop i) = (if nnP x then [x] else []) ++ nnE (L.drop (i + 1)) := by
  rw [drop_cons h, nnE_eq, List.filter_cons]
  split <;> rfl
theorem refNth_c (l : List Entry) (i0 : Int) (h : Bnd (vcs l)) (hp : PosC (vcs l)) (h0 : 0 ≤ i0) (h1 : i0 ≤ 1099511627776) : PCall Tryz.prog 107 [.one (bagD l), .one (.lit (.int .i64 i0))] (.v (.agg (nthE (nnE (vcs l)) i0).d)) := by
  have hl := h.1
  rw [vcs_len] at hl
  refine pcallN hT Tryz.func107 Tryz.ntmps107 [.cell 4 53] fun B => ?_
  repeat' (first | refine ks ?_ | refine ko ?_ | refine s_indexD ?_ (hel := (by first | exact rfl)) | refine f_ret1 def_nil ?_ | refine t_cellG ?_ | exact cfs_nil | refine cfs_cons ?_ ?_ | refine cf_d ?_)
  refine s_lp (X := Nat × Int) [1, 5, 6, 7, 8, 9, 10, 11, 12, 13, 14, 15, 16, 17, 18, 19, 20, 21, 22, 23, 24, 25, 26, 27, 28, 29, 30, 31, 32, 33, 34] (fun x => x.1 ≤ l.length ∧ 0 ≤ x.2 ∧ x.2 ≤ 1099511627776 ∧ nthE (nnE (vcs l)) i0 = nthE (nnE ((vcs l).drop x.1)) x.2) (fun x lz => (5, (.c (.d (.lit (.int .i64 x.1))))) :: (1, .c (.d (.lit (.int .i64 x.2)))) :: lz) (fun x => [.box 1 (Val.null.d.map .d)]) (fun x => l.length - x.1) ((0, i0)) ?_ ?_ ?_ ?_
  repeat' (first | exact slots_nil | refine kw ?_ | exact memIn_nil | omega)
  · exact ⟨by simp, h0, h1, rfl⟩
  rintro ⟨i, m⟩ c ⟨hi, hm0, hm1, hinv⟩
  dsimp only at hi hm0 hm1 hinv ⊢
  by_cases hlt : i < l.length
  · have hv : l[i]? = some l[i] := List.getElem?_eq_getElem hlt
    generalize l[i] = e at hv
    have hx := h.2 _ (List.mem_of_getElem? (vcs_get hv))
    have hpx := hp _ (List.mem_of_getElem? (vcs_get hv))
    have hv2 : (l.map Entry.d)[i]? = some e.d := by rw [List.getElem?_map, hv]; rfl
    have hf := first_c e.row
    rw [nnE_drop (vcs_get hv)] at hinv
    unfold vc nnP at hinv
    unfold vc at hx hpx
    dsimp only at hinv hx hpx
    generalize firstV e.row = u at hf hinv hx
    by_cases hk : u.kind = 0
    · rw [if_neg (by simp [hk]), List.nil_append] at hinv
      repeat' (first | refine s_fieldV ?_ | refine ks ?_ | refine ko ?_ | refine s_indexD ?_ (hel := (by first | exact idx_map hv2 (by omega) | exact hv2 | exact rfl)) | refine s_call (hf) ?_ | refine f_ret1 def_nil ?_ | refine t_cellG ?_ | exact cfs_nil | refine cfs_cons ?_ ?_ | refine cf_d ?_)
      (apply s_round ((i + 1, m)); all_goals (try dsimp only); all_goals (try (repeat' (first | exact slots_nil | refine kw ?_ | exact memIn_nil | omega))))
      all_goals exact ⟨by omega, hm0, hm1, hinv⟩
    · rw [if_pos (by simp [hk]), List.singleton_append, nthE] at hinv
      dsimp only at hinv
      by_cases hc : m < e.count
      · rw [if_pos hc] at hinv
        rw [hinv]
        repeat' (first | refine s_fieldV ?_ | refine ks ?_ | refine ko ?_ | refine s_indexD ?_ (hel := (by first | exact idx_map hv2 (by omega) | exact hv2 | exact rfl)) | refine s_call (hf) ?_ | refine f_ret1 def_nil ?_ | refine t_cellG ?_ | exact cfs_nil | refine cfs_cons ?_ ?_ | refine cf_d ?_)
        all_goals rfl
      · rw [if_neg hc] at hinv
        repeat' (first | refine s_fieldV ?_ | refine ks ?_ | refine ko ?_ | refine s_indexD ?_ (hel := (by first | exact idx_map hv2 (by omega) | exact hv2 | exact rfl)) | refine s_call (hf) ?_ | refine f_ret1 def_nil ?_ | refine t_cellG ?_ | exact cfs_nil | refine cfs_cons ?_ ?_ | refine cf_d ?_)
        (apply s_round ((i + 1, m - e.count)); all_goals (try dsimp only); all_goals (try (repeat' (first | exact slots_nil | refine kw ?_ | exact memIn_nil | omega))))
        all_goals exact ⟨by omega, by omega, by omega, hinv⟩
  · rw [List.drop_eq_nil_of_le (show (vcs l).length ≤ i by rw [vcs_len]; omega)] at hinv
    rw [hinv]
    repeat' (first | refine ks ?_ | refine ko ?_ | refine s_indexD ?_ (hel := (by first | exact rfl)) | refine f_ret1 def_nil ?_ | refine t_cellG ?_ | exact cfs_nil | refine cfs_cons ?_ ?_ | refine cf_d ?_)
    all_goals rfl
theorem nn_ttl {L : List (Val × Int)} (hp : PosC L) : (ttl (nnE L) = 0 ↔ nnE L = []) ∧ (nnE L ≠ [] → 0 < ttl (nnE L)) := by
  have hP : PosC (nnE L) := fun x hx => hp x (List.mem_filter.1 hx).1
  refine ⟨⟨fun h => ?_, fun h => by rw [h]; rfl⟩, fun h => ttl_pos hP h⟩
  by_cases hn : nnE L = []
  · exact hn
  · have := ttl_pos hP hn; omega
theorem nn_ttl_le {L : List (Val × Int)} (h : Bnd L) (i : Nat) : -1073741824 ≤ ttl (nnE (L.take i)) ∧ ttl (nnE (L.take i)) ≤ 1073741824 := by
  have hB : Bnd (nnE (L.take i)) := ⟨Nat.le_trans (nnE_len _) (by rw [List.length_take]; have := h.1; omega), fun x hx => h.2 x (List.mem_of_mem_take (List.mem_filter.1 hx).1)⟩
  have := ttl_bd hB (nnE (L.take i)).length
  rw [List.take_length] at this
  exact this
def ValC (L : List (Val × Int)) : Prop := ∀ x ∈ L, x.1.clean = x.1
theorem nth_asc {L : List (Val × Int)} (ha : AscV L) (hp : PosC L) (hc : ValC L) {i : Int} (h0 : 0 ≤ i) (h1 : i < ttl (nnE L)) : nthE (nnE L) i = nthE (ascE L) i :=
  nth_perm (ha.sublist List.filter_sublist) (ascE_asc L) (fun x hx => hp x (List.mem_filter.1 hx).1) (ascE_perm L).symm (fun x hx => hc x (List.mem_filter.1 hx).1) h0 h1
theorem foldI_c (f : Int) (l : List Entry) (h : Bnd (vcs l)) (hp : PosC (vcs l)) (ha : AscV (vcs l)) (hc : ValC (vcs l)) : PCall Tryz.prog 54 [.one (.lit (.int .i64 f)), .one (bagD l)] (.v (.agg (foldE f (vcs l)).d)) := by
  have hl := h.1
  rw [vcs_len] at hl
  refine pcallN hT Tryz.func54 Tryz.ntmps54 [.cell 4 53] fun B => ?_
  repeat' (first | refine ks ?_ | refine ko ?_ | refine s_indexD ?_ (hel := (by first | exact rfl)) | refine f_ret1 def_nil ?_ | refine t_cellG ?_ | exact cfs_nil | refine cfs_cons ?_ ?_ | refine cf_d ?_)
  refine s_lp (X := Nat × Int × Int) [5, 6, 7, 10, 11, 12, 13, 14, 15, 16, 17, 18, 19, 20, 21, 22, 23, 24, 25, 26, 27, 28, 29, 30, 31, 32, 33, 34, 35, 36, 37] (fun x => x.1 ≤ l.length ∧ x.2.1 = ttl ((vcs l).take x.1) ∧ x.2.2 = ttl (nnE ((vcs l).take x.1))) (fun x lz => (7, (.c (.d (.lit (.int .i64 x.1))))) :: (5, .c (.d (.lit (.int .i64 x.2.1)))) :: (6, .c (.d (.lit (.int .i64 x.2.2)))) :: lz) (fun x => [.box 1 (Val.null.d.map .d)]) (fun x => l.length - x.1) ((0, 0, 0)) ?_ ?_ ?_ ?_
  repeat' (first | exact slots_nil | refine kw ?_ | exact memIn_nil | omega)
  · exact ⟨by simp, rfl, rfl⟩
  rintro ⟨i, s, m⟩ c ⟨hi, hs, hm⟩
  dsimp only at hi hs hm ⊢
  by_cases hlt : i < l.length
  · have hv : l[i]? = some l[i] := List.getElem?_eq_getElem hlt
    generalize l[i] = e at hv
    have hx := h.2 _ (List.mem_of_getElem? (vcs_get hv))
    have hv2 : (l.map Entry.d)[i]? = some e.d := by rw [List.getElem?_map, hv]; rfl
    have b1 := ttl_bd h i
    have b2 := nn_ttl_le h i
    have e1 := ttl_snoc (vcs_get hv)
    have e2 : ttl (nnE ((vcs l).take (i + 1))) = ttl (nnE ((vcs l).take i)) + (if (firstV e.row).kind = 0 then 0 else e.count) := by
      rw [nnE_snoc (vcs_get hv)]
      unfold nnP vc
      by_cases hk : (firstV e.row).kind = 0 <;> simp [hk, ttl]
    rw [← hs] at b1 e1
    rw [← hm] at b2 e2
    have hf := first_c e.row
    unfold vc at e1 hx
    dsimp only at e1 hx
    generalize firstV e.row = u at hf e1 e2 hx
    by_cases hk : u.kind = 0
    · rw [if_pos hk, Int.add_zero] at e2
      repeat' (first | refine s_fieldV ?_ | refine ks ?_ | refine ko ?_ | refine s_indexD ?_ (hel := (by first | exact idx_map hv2 (by omega) | exact hv2 | exact rfl)) | refine s_call (hf) ?_ | refine f_ret1 def_nil ?_ | refine t_cellG ?_ | exact cfs_nil | refine cfs_cons ?_ ?_ | refine cf_d ?_)
      (apply s_round ((i + 1, s + e.count, m)); all_goals (try dsimp only); all_goals (try (repeat' (first | exact slots_nil | refine kw ?_ | exact memIn_nil | omega))))
      all_goals exact ⟨by omega, e1.symm, e2.symm⟩
    · rw [if_neg hk] at e2
      repeat' (first | refine s_fieldV ?_ | refine ks ?_ | refine ko ?_ | refine s_indexD ?_ (hel := (by first | exact idx_map hv2 (by omega) | exact hv2 | exact rfl)) | refine s_call (hf) ?_ | refine f_ret1 def_nil ?_ | refine t_cellG ?_ | exact cfs_nil | refine cfs_cons ?_ ?_ | refine cf_d ?_)
      (apply s_round ((i + 1, s + e.count, m + e.count)); all_goals (try dsimp only); all_goals (try (repeat' (first | exact slots_nil | refine kw ?_ | exact memIn_nil | omega))))
      all_goals exact ⟨by omega, e1.symm, e2.symm⟩
  · rw [take_ge (show (vcs l).length ≤ i by rw [vcs_len]; omega)] at hs hm
    have hb := nn_ttl_le h l.length
    rw [take_ge (show (vcs l).length ≤ l.length by rw [vcs_len]; omega)] at hb
    obtain ⟨n1, n2⟩ := nn_ttl hp
    have hz := integers_c l h
    by_cases f0 : f = 0
    · subst f0
      have he : foldE 0 (vcs l) = Val.ofInt s := by unfold foldE; rw [if_pos rfl, hs]
      rw [he]
      repeat' (first | refine ks ?_ | refine ko ?_ | refine s_indexD ?_ (hel := (by first | exact rfl)) | refine s_call (refInt_c _) ?_ | refine f_ret1 def_nil ?_ | refine t_cellG ?_ | exact cfs_nil | refine cfs_cons ?_ ?_ | refine cf_d ?_)
      all_goals rfl
    by_cases f1 : f = 1
    · subst f1
      by_cases hcz : cntV (vcs l) = 0
      · have he : foldE 1 (vcs l) = Val.null := by unfold foldE; rw [if_neg (by decide), if_pos rfl, if_pos hcz]
        rw [he]
        rw [hcz] at hz
        repeat' (first | refine ks ?_ | refine ko ?_ | refine s_indexD ?_ (hel := (by first | exact rfl)) | refine s_call (hz) ?_ | refine s_call (refInt_c _) ?_ | refine f_ret1 def_nil ?_ | refine t_cellG ?_ | exact cfs_nil | refine cfs_cons ?_ ?_ | refine cf_d ?_)
        all_goals rfl
      · have he : foldE 1 (vcs l) = Val.ofInt (sumV (vcs l)) := by unfold foldE; rw [if_neg (by decide), if_pos rfl, if_neg hcz]
        rw [he]
        generalize cntV (vcs l) = q at hz hcz
        repeat' (first | refine ks ?_ | refine ko ?_ | refine s_indexD ?_ (hel := (by first | exact rfl)) | refine s_call (hz) ?_ | refine s_call (refInt_c _) ?_ | refine f_ret1 def_nil ?_ | refine t_cellG ?_ | exact cfs_nil | refine cfs_cons ?_ ?_ | refine cf_d ?_)
        all_goals rfl
    by_cases hnn : nnE (vcs l) = []
    · have he : foldE f (vcs l) = Val.null := by unfold foldE; rw [if_neg f0, if_neg f1]; simp [hnn]
      rw [he]
      rw [hnn] at hm
      have hm' : m = 0 := hm
      repeat' (first | refine ks ?_ | refine ko ?_ | refine s_indexD ?_ (hel := (by first | exact rfl)) | refine f_ret1 def_nil ?_ | refine t_cellG ?_ | exact cfs_nil | refine cfs_cons ?_ ?_ | refine cf_d ?_)
      all_goals rfl
    have hpos := n2 hnn
    by_cases f2 : f = 2
    · subst f2
      have he : foldE 2 (vcs l) = nthE (nnE (vcs l)) 0 := by
        unfold foldE; rw [if_neg (by decide), if_neg (by decide), if_pos rfl, if_neg hnn, nth_asc ha hp hc (by omega) (by omega)]
      have hn := refNth_c l 0 h hp (by omega) (by omega)
      rw [he]
      generalize nthE (nnE (vcs l)) 0 = R at hn
      repeat' (first | refine ks ?_ | refine ko ?_ | refine s_indexD ?_ (hel := (by first | exact rfl)) | refine s_call (hn) ?_ | refine f_ret1 def_nil ?_ | refine t_cellG ?_ | exact cfs_nil | refine cfs_cons ?_ ?_ | refine cf_d ?_)
      all_goals rfl
    by_cases f3 : f = 3
    · subst f3
      have he : foldE 3 (vcs l) = nthE (nnE (vcs l)) (m - 1) := by
        unfold foldE; rw [if_neg (by decide), if_neg (by decide), if_neg (by decide), if_pos rfl, if_neg hnn, ← nth_asc ha hp hc (by omega) (by omega), hm]
      have hn := refNth_c l (m - 1) h hp (by omega) (by omega)
      rw [he]
      generalize nthE (nnE (vcs l)) (m - 1) = R at hn
      repeat' (first | refine ks ?_ | refine ko ?_ | refine s_indexD ?_ (hel := (by first | exact rfl)) | refine s_call (hn) ?_ | refine f_ret1 def_nil ?_ | refine t_cellG ?_ | exact cfs_nil | refine cfs_cons ?_ ?_ | refine cf_d ?_)
      all_goals rfl
    by_cases f4 : f = 4
    · subst f4
      have hd : IntKind.i64.wrap ((m - 1).tdiv 2) = (m - 1) / 2 := by rw [Int.tdiv_eq_ediv_of_nonneg (by omega), wrap_i64 (by omega) (by omega)]
      have he : foldE 4 (vcs l) = nthE (nnE (vcs l)) ((m - 1) / 2) := by
        unfold foldE; rw [if_neg (by decide), if_neg (by decide), if_neg (by decide), if_neg (by decide), if_pos rfl, if_neg hnn, ← nth_asc ha hp hc (by omega) (by omega), hm]
      have hn := refNth_c l ((m - 1) / 2) h hp (by omega) (by omega)
      rw [he]
      rw [← hd] at hn ⊢
      generalize nthE (nnE (vcs l)) (IntKind.i64.wrap ((m - 1).tdiv 2)) = R at hn
      repeat' (first | refine ks ?_ | refine ko ?_ | refine s_indexD ?_ (hel := (by first | exact rfl)) | refine s_call (hn) ?_ | refine f_ret1 def_nil ?_ | refine t_cellG ?_ | exact cfs_nil | refine cfs_cons ?_ ?_ | refine cf_d ?_)
      all_goals rfl
    · have he : foldE f (vcs l) = Val.null := by unfold foldE; rw [if_neg f0, if_neg f1, if_neg f2, if_neg f3, if_neg f4]
      rw [he]
      repeat' (first | refine ks ?_ | refine ko ?_ | refine s_indexD ?_ (hel := (by first | exact rfl)) | refine f_ret1 def_nil ?_ | refine t_cellG ?_ | exact cfs_nil | refine cfs_cons ?_ ?_ | refine cf_d ?_)
      all_goals rfl
end Go.Proofs.YtojfhaoleedmkaaGreat
