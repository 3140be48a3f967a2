/-
  bag.merge, bag.Add, bag.Subtract.
-/
import Derived.Test.YtmpgmjlanngkfaaGreatRek
section
namespace Go.Proofs.YtmpgmjlanngkfaaGreat
open Go.Abs Go.RowKit
attribute [local irreducible] ARun kont MCall PCall HCall resVal SF CF CFs defersOk slotsIn memIn fin finM VLe
set_option linter.unusedSimpArgs false
set_option maxRecDepth 100000
set_option maxHeartbeats 4000000
theorem add0_h (e : Entry) (out : List Entry) : HCall Tryz.prog 97 [.agg (e.d.map .d), (.c (.d (.lit (.int .i64 0)))), .c (.bp 0 0 0)] [.box 0 [.arr 1 0 out.length], .arr 0 56 2 (out.map Entry.d)] (.tup []) [.box 0 [.arr 1 0 out.length], .arr 0 56 2 (out.map Entry.d)] := by
  refine hcallN hT Tryz.func97 Tryz.ntmps97 [] fun B => ?_
  repeat' (first | refine ks ?_ | refine ko ?_ | refine kf ?_ | exact k0 | refine memIn_same ?_)
theorem add1_h (e : Entry) (n : Int) (hn : n ≠ 0) (out : List Entry) (ho : out.length ≤ 1000000) (hr : e.row.length ≤ 1000000) : HCall Tryz.prog 97 [.agg (e.d.map .d), (.c (.d (.lit (.int .i64 n)))), .c (.bp 0 0 0)] [.box 0 [.arr 1 0 out.length], .arr 0 56 2 (out.map Entry.d)] (.tup []) [.box 0 [.arr 1 1 (out.length + 1)], .arr 1 56 2 ((out ++ [(⟨e.row, n⟩ : Entry)]).map Entry.d)] := by
  have hc := clone_c e.row hr
  refine hcallN hT Tryz.func97 Tryz.ntmps97 [] fun B => ?_
  repeat' (first | refine ks ?_ | refine ko ?_ | refine s_call (hc) ?_ | refine kf ?_ | exact k0 | refine memIn_same ?_ | refine m1 ?_ ?_)
  rw [List.map_append]; rfl
def sc (s : Int) (e : Entry) : Entry := ⟨e.row, s * e.count⟩
theorem mergeE_nil (a : List Entry) : mergeE a [] = a := by cases a <;> simp [mergeE]
theorem mergeE_nil' (b : List Entry) : mergeE [] b = b := by simp [mergeE]
theorem merge_c' (a b : List Entry) (s : Int) (hs : s = 1 ∨ s = -1) (ha : bagValid a = true) (hb : bagValid b = true) : PCall Tryz.prog 48 [.one (bagD a), .one (bagD b), .one (.lit (.int .i64 s))] (.tup [.one (bagD (fitsE (mergeE a (b.map (sc s)))).1), .one (.lit (.int .i64 (fitsE (mergeE a (b.map (sc s)))).2))]) := by
  obtain ⟨hal, hma⟩ := valid_mem ha
  obtain ⟨hbl, hmb⟩ := valid_mem hb
  refine pcallN hT Tryz.func48 Tryz.ntmps48 [.tmp 6, .tmp 7] fun B => ?_
  repeat' (first | refine ks ?_ | refine ko ?_ | refine s_indexD ?_ (hel := (by first | exact rfl)) | refine kf ?_ | refine kg ?_ ?_ | fail)
  refine s_ownBox 0 0 56 2 ?_
  refine s_lp (X := List Entry × List Entry × Nat × List Entry) [0, 1, 10, 17, 18, 19, 20, 21, 22, 23, 24, 25, 26, 27, 28, 29, 30, 31, 32, 33, 34, 35, 36, 37, 38, 39, 40, 41, 42, 43, 44, 45, 46, 47, 48, 49, 50, 51, 52, 53, 54, 55, 56, 57, 58, 59, 60, 61, 62, 63, 64, 65, 66, 67, 68, 69, 70, 71, 72, 73, 74, 75, 76, 77, 78, 79, 80, 81, 82, 83] (fun x => (∀ e ∈ x.1, e ∈ a) ∧ (∀ e ∈ x.2.1, e ∈ b) ∧ x.1.length ≤ a.length ∧ x.2.1.length ≤ b.length ∧ x.2.2.2.length + x.1.length + x.2.1.length ≤ a.length + b.length ∧ x.2.2.2 ++ mergeE x.1 (x.2.1.map (sc s)) = mergeE a (b.map (sc s))) (fun x lz => (0, .c (.d (bagD x.1))) :: (1, .c (.d (bagD x.2.1))) :: lz) (fun x => [.box 1 [.arr 1 x.2.2.1 x.2.2.2.length], .arr x.2.2.1 56 2 (x.2.2.2.map Entry.d)]) (fun x => x.1.length + x.2.1.length) ((a, b, 2, [])) ?_ ?_ ?_ ?_
  repeat' (first | exact slots_nil | refine kw ?_ | refine kv ?_ ?_ | exact memIn_nil | omega)
  · exact ⟨fun e h => h, fun e h => h, Nat.le_refl _, Nat.le_refl _, by simp, rfl⟩
  rintro ⟨a', b', k, out⟩ c ⟨h1, h2, h3, h4, h5, hinv⟩
  dsimp only at h1 h2 h3 h4 h5 hinv ⊢
  by_cases hend : a'.length = 0 ∨ b'.length = 0
  · have hM : out ++ a' ++ b'.map (sc s) = mergeE a (b.map (sc s)) := by
      rw [← hinv]
      rcases hend with h | h
      · obtain rfl := List.length_eq_zero_iff.1 h
        rw [mergeE_nil', List.append_nil]
      · obtain rfl := List.length_eq_zero_iff.1 h
        rw [List.map_nil, mergeE_nil, List.append_nil]
    clear hinv
    generalize mergeE a (b.map (sc s)) = M at hM
    have hlm : M.length = out.length + a'.length + b'.length := by rw [← hM]; simp; omega
    have hend : a'.length = 0 ∨ (0 < a'.length ∧ b'.length = 0) := by omega
    rcases hend with hend | hend
    all_goals
      repeat' (first | refine ks ?_ | refine ko ?_ | refine s_indexD ?_ (hel := (by first | exact rfl)) | refine kf ?_ | refine kg ?_ ?_ | fail)
      refine s_lp (X := Nat × Nat) [12, 86, 87, 88, 89, 90, 91, 92, 93, 94, 95] (fun x => x.1 ≤ a'.length) (fun x lz => (86, (.c (.d (.lit (.int .i64 x.1))))) :: lz) (fun x => [.box 1 [.arr 1 x.2 (out ++ a'.take x.1).length], .arr x.2 56 2 ((out ++ a'.take x.1).map Entry.d)]) (fun x => a'.length - x.1) ((0, k)) ?_ ?_ ?_ ?_
      repeat' (first | exact slots_nil | refine kw ?_ | refine kv ?_ ?_ | exact memIn_nil | omega)
      all_goals try (simp; done)
      rintro ⟨i, k1⟩ c1 hi
      dsimp only at hi ⊢
      by_cases hlt : i < a'.length
      · have hv : a'[i]? = some a'[i] := List.getElem?_eq_getElem hlt
        obtain ⟨hxr, hxc, hxn⟩ := hma _ (h1 _ (List.getElem_mem hlt))
        generalize a'[i] = e at hv hxr hxc hxn
        have hxl := rowOK_len hxr
        have htk : a'.take (i + 1) = a'.take i ++ [e] := by rw [List.take_add_one, hv]; rfl
        have hol : (out ++ a'.take i).length ≤ 100000 := by simp; omega
        have hadd := add1_h e e.count hxn (out ++ a'.take i) (by omega) (by omega)
        repeat' (first | refine ks ?_ | refine ko ?_ | refine s_indexD ?_ (hel := (by first | exact idx_map hv (by omega) | exact hv | exact rfl)) | refine s_callH [0, 1] (hadd) ?_ | refine kf ?_ | refine kg ?_ ?_ | fail)
        (apply s_round ((i + 1, _)); all_goals (try dsimp only); all_goals (try (repeat' (first | exact slots_nil | refine w1 ?_ | refine w3 ?_ ?_ | exact memIn_nil | refine memIn_same ?_ | refine m1 ?_ ?_ | refine m2 ?_ ?_ | omega))))
        all_goals first
          | (rw [htk, ← List.append_assoc]; simp only [List.length_append, List.length_singleton]; done)
          | (rw [htk, ← List.append_assoc]; done)
      · rw [take_ge (show a'.length ≤ i by omega)]
        repeat' (first | refine ks ?_ | refine ko ?_ | refine s_indexD ?_ (hel := (by first | exact rfl)) | refine kf ?_ | refine kg ?_ ?_ | fail)
        refine s_lp (X := Nat × Nat) [14, 98, 99, 100, 101, 102, 103, 104, 105, 106, 107, 108, 109] (fun x => x.1 ≤ b'.length) (fun x lz => (98, (.c (.d (.lit (.int .i64 x.1))))) :: lz) (fun x => [.box 1 [.arr 1 x.2 (out ++ a' ++ (b'.take x.1).map (sc s)).length], .arr x.2 56 2 ((out ++ a' ++ (b'.take x.1).map (sc s)).map Entry.d)]) (fun x => b'.length - x.1) ((0, k1)) ?_ ?_ ?_ ?_
        repeat' (first | exact slots_nil | refine kw ?_ | refine kv ?_ ?_ | exact memIn_nil | omega)
        all_goals try (simp; done)
        rintro ⟨j, k2⟩ c2 hj
        dsimp only at hj ⊢
        by_cases hlt : j < b'.length
        · have hv : b'[j]? = some b'[j] := List.getElem?_eq_getElem hlt
          obtain ⟨hxr, hxc, hxn⟩ := hmb _ (h2 _ (List.getElem_mem hlt))
          generalize b'[j] = e at hv hxr hxc hxn
          have hxl := rowOK_len hxr
          have hsy : -262144 ≤ s * e.count ∧ s * e.count ≤ 262144 ∧ s * e.count ≠ 0 := by
            rcases hs with rfl | rfl
            · omega
            · omega
          have htk : (b'.take (j + 1)).map (sc s) = (b'.take j).map (sc s) ++ [sc s e] := take_map (sc s) hv
          have hol : (out ++ a' ++ (b'.take j).map (sc s)).length ≤ 100000 := by simp; omega
          have hadd := add1_h e (s * e.count) hsy.2.2 (out ++ a' ++ (b'.take j).map (sc s)) (by omega) (by omega)
          repeat' (first | refine ks ?_ | refine ko ?_ | refine s_indexD ?_ (hel := (by first | exact idx_map hv (by omega) | exact hv | exact rfl)) | refine s_callH [0, 1] (hadd) ?_ | refine kf ?_ | refine kg ?_ ?_ | fail)
          (apply s_round ((j + 1, _)); all_goals (try dsimp only); all_goals (try (repeat' (first | exact slots_nil | refine w1 ?_ | refine w3 ?_ ?_ | exact memIn_nil | refine memIn_same ?_ | refine m1 ?_ ?_ | refine m2 ?_ ?_ | omega))))
          all_goals first
            | (rw [htk, ← List.append_assoc]; simp only [List.length_append, List.length_singleton]; done)
            | (rw [htk, ← List.append_assoc]; rfl)
        · rw [take_ge (show b'.length ≤ j by omega), hM]
          have hlc := limits_c M
          have hsf : ∀ mem : List Blk, mem[1]? = some (.arr k2 56 2 (M.map Entry.d)) → SFs mem [.c (.arr 1 k2 M.length)] [.one (bagD M)] := fun mem hm => sfs_arr hm (by simp) (take_ge (by simp))
          by_cases hz : (fitsE M).2 = 0
          · have hz1 := fits_ok hz
            rw [hz1, hz]
            rw [hz] at hlc
            repeat' (first | refine ks ?_ | refine ko ?_ | refine s_indexD ?_ (hel := (by first | exact rfl)) | refine s_callB hlc (hsf _ rfl) ?_ | refine kf ?_ | refine kg ?_ ?_ | fail)
            · simp
            · rw [take_ge (by simp)]; rfl
            · rfl
          · have hz1 := fits_bad hz
            rw [hz1]
            generalize (fitsE M).2 = er at hz hlc
            repeat' (first | refine ks ?_ | refine ko ?_ | refine s_indexD ?_ (hel := (by first | exact rfl)) | refine s_callB hlc (hsf _ rfl) ?_ | refine kf ?_ | refine kg ?_ ?_ | fail)
            all_goals rfl
  · obtain ⟨x, a2, rfl⟩ : ∃ x a2, a' = x :: a2 := by
      cases a' with
      | nil => exact absurd (.inl rfl) hend
      | cons x a2 => exact ⟨x, a2, rfl⟩
    obtain ⟨y, b2, rfl⟩ : ∃ y b2, b' = y :: b2 := by
      cases b' with
      | nil => exact absurd (.inr rfl) hend
      | cons y b2 => exact ⟨y, b2, rfl⟩
    obtain ⟨hxr, hxc, hxn⟩ := hma x (h1 x (by simp))
    obtain ⟨hyr, hyc, hyn⟩ := hmb y (h2 y (by simp))
    have hxl := rowOK_len hxr
    have hyl := rowOK_len hyr
    have hvx : (x :: a2)[0]? = some x := rfl
    have hvy : (y :: b2)[0]? = some y := rfl
    have hsy : -262144 ≤ s * y.count ∧ s * y.count ≤ 262144 ∧ s * y.count ≠ 0 := by
      rcases hs with rfl | rfl
      · omega
      · omega
    have hla : (x :: a2).length = a2.length + 1 := rfl
    have hlb : (y :: b2).length = b2.length + 1 := rfl
    rw [List.map_cons, mergeE] at hinv
    rcases Int.lt_trichotomy (rowCmp x.row y.row) 0 with hc | hc | hc
    · have hadd := add1_h x x.count hxn out (by omega) (by omega)
      rw [if_pos (show rowCmp x.row (sc s y).row < 0 from hc)] at hinv
      repeat' (first | refine ks ?_ | refine ko ?_ | refine s_indexD ?_ (hel := (by first | exact idx_map hvx (by omega) | exact idx_map hvy (by omega) | exact hvx | exact hvy | exact rfl)) | refine s_call (compareRows_c _ _) ?_ | refine s_callH [0, 1] (hadd) ?_ | refine kf ?_ | refine kg ?_ ?_ | fail)
      (apply s_round ((a2, y :: b2, _, out ++ [x])); all_goals (try dsimp only); all_goals (try (repeat' (first | exact slots_nil | refine w1 ?_ | refine w3 ?_ ?_ | exact memIn_nil | refine memIn_same ?_ | refine m1 ?_ ?_ | refine m2 ?_ ?_ | omega))))
      · rw [take_ge (by simp)]; rfl
      · rw [List.length_append]; rfl
      · refine ⟨fun e h => h1 e (by simp [h]), h2, by omega, by omega, by rw [List.length_append, List.length_singleton]; omega, ?_⟩
        rw [← hinv, List.append_assoc]; rfl
    · rw [if_neg (show ¬ rowCmp x.row (sc s y).row < 0 by show ¬ rowCmp x.row y.row < 0; omega), if_neg (show ¬ 0 < rowCmp x.row (sc s y).row by show ¬ 0 < rowCmp x.row y.row; omega)] at hinv
      by_cases hz : x.count + s * y.count = 0
      · have hadd := add0_h x out
        rw [if_pos (show x.count + (sc s y).count = 0 from hz)] at hinv
        rw [← hz] at hadd
        repeat' (first | refine ks ?_ | refine ko ?_ | refine s_indexD ?_ (hel := (by first | exact idx_map hvx (by omega) | exact idx_map hvy (by omega) | exact hvx | exact hvy | exact rfl)) | refine s_call (compareRows_c _ _) ?_ | refine s_callH [0, 1] (hadd) ?_ | refine kf ?_ | refine kg ?_ ?_ | fail)
        (apply s_round ((a2, b2, _, out)); all_goals (try dsimp only); all_goals (try (repeat' (first | exact slots_nil | refine w1 ?_ | refine w3 ?_ ?_ | exact memIn_nil | refine memIn_same ?_ | refine m1 ?_ ?_ | refine m2 ?_ ?_ | omega))))
        · rw [take_ge (by simp)]; rfl
        · rw [take_ge (by simp)]; rfl
        · exact ⟨fun e h => h1 e (by simp [h]), fun e h => h2 e (by simp [h]), by omega, by omega, by omega, hinv⟩
      · have hadd := add1_h x (x.count + s * y.count) hz out (by omega) (by omega)
        rw [if_neg (show ¬ x.count + (sc s y).count = 0 from hz)] at hinv
        repeat' (first | refine ks ?_ | refine ko ?_ | refine s_indexD ?_ (hel := (by first | exact idx_map hvx (by omega) | exact idx_map hvy (by omega) | exact hvx | exact hvy | exact rfl)) | refine s_call (compareRows_c _ _) ?_ | refine s_callH [0, 1] (hadd) ?_ | refine kf ?_ | refine kg ?_ ?_ | fail)
        (apply s_round ((a2, b2, _, out ++ [⟨x.row, x.count + s * y.count⟩])); all_goals (try dsimp only); all_goals (try (repeat' (first | exact slots_nil | refine w1 ?_ | refine w3 ?_ ?_ | exact memIn_nil | refine memIn_same ?_ | refine m1 ?_ ?_ | refine m2 ?_ ?_ | omega))))
        · rw [take_ge (by simp)]; rfl
        · rw [take_ge (by simp)]; rfl
        · rw [List.length_append]; rfl
        · refine ⟨fun e h => h1 e (by simp [h]), fun e h => h2 e (by simp [h]), by omega, by omega, by rw [List.length_append, List.length_singleton]; omega, ?_⟩
          rw [← hinv, List.append_assoc]; rfl
    · have hadd := add1_h y (s * y.count) hsy.2.2 out (by omega) (by omega)
      rw [if_neg (show ¬ rowCmp x.row (sc s y).row < 0 by show ¬ rowCmp x.row y.row < 0; omega), if_pos (show 0 < rowCmp x.row (sc s y).row from hc)] at hinv
      repeat' (first | refine ks ?_ | refine ko ?_ | refine s_indexD ?_ (hel := (by first | exact idx_map hvx (by omega) | exact idx_map hvy (by omega) | exact hvx | exact hvy | exact rfl)) | refine s_call (compareRows_c _ _) ?_ | refine s_callH [0, 1] (hadd) ?_ | refine kf ?_ | refine kg ?_ ?_ | fail)
      (apply s_round ((x :: a2, b2, _, out ++ [sc s y])); all_goals (try dsimp only); all_goals (try (repeat' (first | exact slots_nil | refine w1 ?_ | refine w3 ?_ ?_ | exact memIn_nil | refine memIn_same ?_ | refine m1 ?_ ?_ | refine m2 ?_ ?_ | omega))))
      · rw [take_ge (by simp)]; rfl
      · rw [List.length_append]; rfl
      · refine ⟨h1, fun e h => h2 e (by simp [h]), by omega, by omega, by rw [List.length_append, List.length_singleton]; omega, ?_⟩
        rw [← hinv, List.append_assoc]; rfl
end Go.Proofs.YtmpgmjlanngkfaaGreat
end
