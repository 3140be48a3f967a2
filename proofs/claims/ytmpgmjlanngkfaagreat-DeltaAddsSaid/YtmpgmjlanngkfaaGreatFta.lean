/-
  The document's Normalize with its result as an array of the caller's own.
-/
import Derived.Test.YtmpgmjlanngkfaaGreatNorm
import Derived.Test.YtmpgmjlanngkfaaGreatTex
section
namespace Go.Proofs.YtmpgmjlanngkfaaGreat
open Go.Abs Go.RowKit
attribute [local irreducible] ARun kont MCall PCall HCall resVal SF CF CFs defersOk slotsIn memIn fin finM VLe
set_option linter.unusedSimpArgs false
set_option maxRecDepth 100000
set_option maxHeartbeats 4000000
theorem mergeA_h (a b : List Entry) (ha : a.length ≤ 100000000) (hb' : b.length ≤ 100000000) (sa : within 1152921504606846976 a) (sb : within 1152921504606846976 b) : HCall Tryz.prog 131 [.c (.d (bagD a)), .c (.d (bagD b))] [] (.c (.arr 0 1 (mergeE a b).length)) [.arr 1 56 2 ((mergeE a b).map Entry.d)] := by
  refine hcallN hT Tryz.func131 Tryz.ntmps131 [.tmp 4] fun B => ?_
  repeat' (first | refine ks ?_ | refine ko ?_ | refine s_if rfl (fun hb => ?_) (fun hb => ?_) | refine s_indexD ?_ (hel := (by first | exact rfl)) | refine kf ?_ | refine kg ?_ ?_ | exact k0 | refine memIn_same ?_ | refine m1 ?_ ?_)
  refine s_own 5 56 2 ?_
  refine s_lp (X := Nat × Nat × Nat × List Entry) [5, 6, 7, 8, 9, 10, 11, 12, 13, 14, 15, 16, 17, 18, 19, 20, 21, 22, 23, 24, 25, 26, 27, 28, 29, 30, 31, 32, 33, 34, 35, 36, 37, 38, 39, 40, 41, 42, 43, 44, 45, 46, 47, 48, 49, 50, 51, 52, 53, 54, 55, 56, 57, 58, 59, 60, 61, 62, 63, 64, 65, 66, 67, 68, 69, 70, 71, 72, 73, 74, 75, 76, 77, 78, 79, 80, 81, 82, 83, 84, 85, 86, 87, 88, 89, 90, 91] (fun x => x.1 ≤ a.length ∧ x.2.1 ≤ b.length ∧ x.2.2.2 ++ mergeE (a.drop x.1) (b.drop x.2.1) = mergeE a b) (fun x lz => (5, .c (.arr 0 x.2.2.1 x.2.2.2.length)) :: (6, (.c (.d (.lit (.int .i64 x.1))))) :: (7, (.c (.d (.lit (.int .i64 x.2.1))))) :: lz) (fun x => [.arr x.2.2.1 56 2 (x.2.2.2.map Entry.d)]) (fun x => (a.length - x.1) + (b.length - x.2.1)) ((0, 0, 1, [])) ?_ ?_ ?_ ?_
  repeat' (first | exact slots_nil | refine kw ?_ | exact memIn_nil | refine kv ?_ ?_ | omega)
  · exact ⟨by simp, by simp, by simp⟩
  rintro ⟨i, j, k, out⟩ c ⟨hi, hj, hinv⟩
  dsimp only at hi hj hinv ⊢
  have hol : out.length ≤ a.length + b.length := by
    have := congrArg List.length hinv
    have h2 := mergeE_len a b
    simp at this; omega
  by_cases hlt : i < a.length
  · have hv : a[i]? = some a[i] := List.getElem?_eq_getElem hlt
    obtain ⟨hs1, hs2⟩ := sa _ (List.getElem_mem hlt)
    generalize a[i] = x at hv hs1 hs2
    rw [drop_cons hv] at hinv
    by_cases hlt2 : j < b.length
    · have hu : b[j]? = some b[j] := List.getElem?_eq_getElem hlt2
      obtain ⟨hs3, hs4⟩ := sb _ (List.getElem_mem hlt2)
      generalize b[j] = y at hu hs3 hs4
      rw [drop_cons hu, mergeE] at hinv
      repeat' (first | refine ks ?_ | refine ko ?_ | refine s_if rfl (fun hb => ?_) (fun hb => ?_) | refine s_indexD ?_ (hel := (by first | exact idx_map hv (by omega) | exact idx_map hu (by omega) | exact hv | exact hu | exact rfl)) | refine s_call (refCompareRows_c _ _) ?_ | refine kf ?_ | refine kg ?_ ?_ | exact k0 | refine memIn_same ?_ | refine m1 ?_ ?_)
      · (apply s_round ((i + 1, j, _, out ++ [x])); all_goals (try dsimp only); all_goals (try (repeat' (first | exact slots_nil | refine w1 ?_ | exact memIn_nil | refine memIn_same ?_ | refine m1 ?_ ?_ | omega))))
        · rw [List.map_append]; rfl
        · refine ⟨by omega, by omega, ?_⟩
          rw [if_pos hb] at hinv; rw [← hinv, drop_cons hu, List.append_assoc]; rfl
      · (apply s_round ((i, j + 1, _, out ++ [y])); all_goals (try dsimp only); all_goals (try (repeat' (first | exact slots_nil | refine w1 ?_ | exact memIn_nil | refine memIn_same ?_ | refine m1 ?_ ?_ | omega))))
        · rw [List.map_append]; rfl
        · refine ⟨by omega, by omega, ?_⟩
          rw [if_neg (by omega), if_pos hb] at hinv; rw [← hinv, drop_cons hv, List.append_assoc]; rfl
      · (apply s_round ((i + 1, j + 1, _, out ++ [⟨x.row, x.count + y.count⟩])); all_goals (try dsimp only); all_goals (try (repeat' (first | exact slots_nil | refine w1 ?_ | exact memIn_nil | refine memIn_same ?_ | refine m1 ?_ ?_ | omega))))
        · rw [List.map_append]; rfl
        · refine ⟨by omega, by omega, ?_⟩
          rw [if_neg (by omega), if_neg (by omega), if_neg hb] at hinv; rw [← hinv, List.append_assoc]
      · (apply s_round ((i + 1, j + 1, _, out)); all_goals (try dsimp only); all_goals (try (repeat' (first | exact slots_nil | refine w1 ?_ | exact memIn_nil | refine memIn_same ?_ | refine m1 ?_ ?_ | omega))))
        refine ⟨by omega, by omega, ?_⟩
        rw [if_neg (by omega), if_neg (by omega), if_pos hb] at hinv; rw [← hinv]; rfl
    · rw [drop_nil (show b.length ≤ j by omega), mergeE] at hinv
      · repeat' (first | refine ks ?_ | refine ko ?_ | refine s_if rfl (fun hb => ?_) (fun hb => ?_) | refine s_indexD ?_ (hel := (by first | exact idx_map hv (by omega) | exact hv | exact rfl)) | refine s_call (refCompareRows_c _ _) ?_ | refine kf ?_ | refine kg ?_ ?_ | exact k0 | refine memIn_same ?_ | refine m1 ?_ ?_)
        (apply s_round ((i + 1, j, _, out ++ [x])); all_goals (try dsimp only); all_goals (try (repeat' (first | exact slots_nil | refine w1 ?_ | exact memIn_nil | refine memIn_same ?_ | refine m1 ?_ ?_ | omega))))
        · rw [List.map_append]; rfl
        · refine ⟨by omega, by omega, ?_⟩
          rw [← hinv, drop_nil (show b.length ≤ j by omega), List.append_assoc]
          cases h : List.drop (i + 1) a <;> simp [mergeE]
      · simp
  · by_cases hlt2 : j < b.length
    · have hu : b[j]? = some b[j] := List.getElem?_eq_getElem hlt2
      generalize b[j] = y at hu
      rw [drop_nil (show a.length ≤ i by omega), drop_cons hu, mergeE] at hinv
      repeat' (first | refine ks ?_ | refine ko ?_ | refine s_if rfl (fun hb => ?_) (fun hb => ?_) | refine s_indexD ?_ (hel := (by first | exact idx_map hu (by omega) | exact hu | exact rfl)) | refine s_call (refCompareRows_c _ _) ?_ | refine kf ?_ | refine kg ?_ ?_ | exact k0 | refine memIn_same ?_ | refine m1 ?_ ?_)
      (apply s_round ((i, j + 1, _, out ++ [y])); all_goals (try dsimp only); all_goals (try (repeat' (first | exact slots_nil | refine w1 ?_ | exact memIn_nil | refine memIn_same ?_ | refine m1 ?_ ?_ | omega))))
      · rw [List.map_append]; rfl
      · refine ⟨by omega, by omega, ?_⟩
        rw [← hinv, drop_nil (show a.length ≤ i by omega), mergeE, List.append_assoc]; rfl
    · rw [drop_nil (show a.length ≤ i by omega), drop_nil (show b.length ≤ j by omega), mergeE, List.append_nil] at hinv
      rw [← hinv]
      repeat' (first | refine ks ?_ | refine ko ?_ | refine s_if rfl (fun hb => ?_) (fun hb => ?_) | refine s_indexD ?_ (hel := (by first | exact rfl)) | refine kf ?_ | refine kg ?_ ?_ | exact k0 | refine memIn_same ?_ | refine m1 ?_ ?_)
      all_goals rfl
def nilE : List Entry → Bool
  | [] => true
  | [e] => decide (e.count = 0)
  | _ => false
theorem nilE_sort {l : List Entry} (h : nilE l = true) : sortE l = [] := by
  match l, h with
  | [], _ => rw [sortE]; rfl
  | [e], h => rw [sortE, dif_pos (by simp)]; simp [nilE] at h; simp [h]
theorem sortN_h (l : List Entry) (h : nilE l = true) : HCall Tryz.prog 77 [.c (.d (bagD l))] [] (.c .emp) [] := by
  match l, h with
  | [], _ =>
    refine hcallN hT Tryz.func77 Tryz.ntmps77 [.tmp 2] fun B => ?_
    repeat' (first | refine ks ?_ | refine ko ?_ | refine s_indexD ?_ (hel := (by first | exact rfl)) | refine kg ?_ ?_ | exact k0 | fail)
  | [e], h =>
    have h : e.count = 0 := by simpa [nilE] using h
    refine hcallN hT Tryz.func77 Tryz.ntmps77 [.tmp 2] fun B => ?_
    repeat' (first | refine ks ?_ | refine ko ?_ | refine s_indexD ?_ (hel := (by first | exact rfl)) | refine kg ?_ ?_ | exact k0 | fail)
theorem sortA_h (l : List Entry) (h : nilE l = false) (hbig : l.length ≤ 1000000) (hw : within 262144 l) : HCall Tryz.prog 77 [.c (.d (bagD l))] [] (.c (.arr 0 1 (sortE l).length)) [.arr 1 56 2 ((sortE l).map Entry.d)] := by
  match l, h, hbig, hw with
  | [e], h, _, _ =>
    have h : e.count ≠ 0 := by simpa [nilE] using h
    have he : sortE [e] = [e] := by rw [sortE, dif_pos (by simp)]; simp [h]
    rw [he]
    refine hcallN hT Tryz.func77 Tryz.ntmps77 [.tmp 2] fun B => ?_
    repeat' (first | refine s_bsliceO (r := 0) ?_ | refine ks ?_ | refine ko ?_ | refine s_indexD ?_ (hel := (by first | exact rfl)) | refine fh_ret1 def_nil ?_ ?_ | exact memIn_nil | refine memIn_same ?_ | exact am_same)
    all_goals rfl
  | x :: y :: l, _, hbig, hw =>
    have h1 : ¬ (x :: y :: l).length ≤ 1 := by simp
    have hlen : (x :: y :: l).length = l.length + 2 := by simp
    generalize x :: y :: l = l at h1 hlen hbig hw
    have hS := sortE_len
    have e : sortE l = mergeE (sortE (l.take (l.length / 2))) (sortE (l.drop (l.length / 2))) := by rw [sortE, dif_neg h1]
    have w1 : within 262144 (l.take (l.length / 2)) := fun e he => hw e (List.mem_of_mem_take he)
    have w2 : within 262144 (l.drop (l.length / 2)) := fun e he => hw e (List.mem_of_mem_drop he)
    have c1 := sort_c l.length (l.take (l.length / 2)) (by simp; omega) (by simp; omega) w1
    have c2 := sort_c l.length (l.drop (l.length / 2)) (by simp) (by simp; omega) w2
    have l1 := hS (l.take (l.length / 2))
    have l2 := hS (l.drop (l.length / 2))
    simp only [List.length_take, List.length_drop] at l1 l2
    have v1 := sortE_within _ w1
    have v2 := sortE_within _ w2
    simp only [List.length_take, List.length_drop] at v1 v2
    have c3 := mergeA_h (sortE (l.take (l.length / 2))) (sortE (l.drop (l.length / 2))) (by omega) (by omega) (within_mono v1 (by omega)) (within_mono v2 (by omega))
    clear hS w1 w2 v1 v2 hw hlen
    rw [e]
    generalize mergeE (sortE (l.take (l.length / 2))) (sortE (l.drop (l.length / 2))) = R at c3
    refine hcallN hT Tryz.func77 Tryz.ntmps77 [.tmp 2] fun B => ?_
    repeat' (first | refine ks ?_ | refine ko ?_ | refine s_indexD ?_ (hel := (by first | exact rfl)) | refine s_call (c1) ?_ | refine s_call (c2) ?_ | refine s_callH [] (c3) ?_ | refine kg ?_ ?_ | exact k0 | refine memIn_same ?_)
    all_goals rfl
theorem fitsN_h : HCall Tryz.prog 76 [.c .emp] [] (.tup [.c .emp, .c (.d (.lit (.int .i64 0)))]) [] := by
  refine hcallN hT Tryz.func76 Tryz.ntmps76 [.tmp 2, .tmp 3] fun B => ?_
  repeat' (first | refine ks ?_ | refine ko ?_ | refine kg ?_ ?_ | exact k0 | fail)
  refine s_lp (X := Nat) [2, 3, 4, 8, 9, 10, 11, 12, 13, 14, 15, 16, 17, 18, 19, 20] (fun x => x = 0) (fun x lz => (4, (.c (.d (.lit (.int .i64 x))))) :: lz) (fun x => []) (fun x => 0) (0) ?_ ?_ ?_ ?_
  repeat' (first | exact slots_nil | refine kw ?_ | exact memIn_nil | omega)
  all_goals try rfl
  rintro i c rfl
  repeat' (first | refine ks ?_ | refine ko ?_ | refine kg ?_ ?_ | exact k0 | fail)
theorem fitsA_h (l : List Entry) (h : (fitsE l).2 = 0) : HCall Tryz.prog 76 [.c (.arr 0 0 l.length)] [.arr 0 56 2 (l.map Entry.d)] (.tup [.c (.arr 0 0 l.length), .c (.d (.lit (.int .i64 0)))]) [.arr 0 56 2 (l.map Entry.d)] := by
  have hl : l.length ≤ 4096 := by
    unfold fitsE at h
    split at h
    · cases h
    · omega
  have hall : ∀ e ∈ l, countOK e.count = true := by
    unfold fitsE at h
    rw [if_neg (by omega)] at h
    split at h
    · rename_i h1; exact List.all_eq_true.1 h1
    · cases h
  clear h
  refine hcallN hT Tryz.func76 Tryz.ntmps76 [.tmp 2, .tmp 3] fun B => ?_
  repeat' (first | refine ks ?_ | refine ko ?_ | refine kg ?_ ?_ | exact k0 | refine memIn_same ?_)
  refine s_lp (X := Nat) [2, 3, 4, 8, 9, 10, 11, 12, 13, 14, 15, 16, 17, 18, 19, 20] (fun x => x ≤ l.length) (fun x lz => (4, (.c (.d (.lit (.int .i64 x))))) :: lz) (fun x => [.arr 0 56 2 (l.map Entry.d)]) (fun x => l.length - x) (0) ?_ ?_ ?_ ?_
  repeat' (first | exact slots_nil | refine kw ?_ | exact memIn_nil | omega)
  rintro i c hi
  by_cases hlt : i < l.length
  · have hv : l[i]? = some l[i] := List.getElem?_eq_getElem hlt
    have hc := countOK_c l[i].count
    rw [hall _ (List.getElem_mem hlt)] at hc
    generalize l[i] = e at hv hc
    have hv1 : (l.map Entry.d)[i]? = some e.d := by rw [List.getElem?_map, hv]; rfl
    repeat' (first | refine ks ?_ | refine ko ?_ | refine s_loadA1 ?_ (he' := (by first | exact hv1 | exact rfl)) | refine s_call (hc) ?_ | refine kg ?_ ?_ | exact k0 | refine memIn_same ?_)
    (apply s_round (i + 1); all_goals (try dsimp only); all_goals (try (repeat' (first | exact slots_nil | refine kw ?_ | exact memIn_nil | omega))))
  · obtain rfl : i = l.length := by omega
    repeat' (first | refine ks ?_ | refine ko ?_ | refine kg ?_ ?_ | exact k0 | refine memIn_same ?_)
theorem normN_h (l : List Entry) (h : nilE l = true) (hi : l.all entryIn = true) : HCall Tryz.prog 33 [.c (.d (bagD l))] [] (.tup [.c .emp, .c (.d (.lit (.int .i64 0)))]) [] := by
  have hlen : l.length ≤ 1 := by
    match l, h with
    | [], _ => simp
    | [e], _ => simp
  have hs := sortN_h l h
  have hf := fitsN_h
  have hall := List.all_eq_true.1 hi
  refine hcallN hT Tryz.func33 Tryz.ntmps33 [.tmp 2, .tmp 3] fun B => ?_
  repeat' (first | refine ks ?_ | refine ko ?_ | refine s_indexD ?_ (hel := (by first | exact rfl)) | refine kg ?_ ?_ | exact k0 | fail)
  refine s_lp (X := Nat) [2, 3, 4, 5, 6, 7, 8, 9, 10, 11, 12, 13, 14, 15, 16, 17, 18, 19, 20, 21, 22, 23, 24, 25, 26] (fun x => x ≤ l.length) (fun x lz => (4, (.c (.d (.lit (.int .i64 x))))) :: lz) (fun x => []) (fun x => l.length - x) (0) ?_ ?_ ?_ ?_
  repeat' (first | exact slots_nil | refine kw ?_ | exact memIn_nil | omega)
  rintro i c hi
  by_cases hlt : i < l.length
  · have hv : l[i]? = some l[i] := List.getElem?_eq_getElem hlt
    have hq := hall _ (List.getElem_mem hlt)
    generalize l[i] = e at hv hq
    simp only [entryIn, Bool.and_eq_true] at hq
    have h1 := refValidRow_c e.row
    have h2 := countOK_c e.count
    rw [hq.1] at h1
    rw [hq.2] at h2
    repeat' (first | refine ks ?_ | refine ko ?_ | refine s_indexD ?_ (hel := (by first | exact idx_map hv (by omega) | exact hv | exact rfl)) | refine s_call (h1) ?_ | refine s_call (h2) ?_ | refine kg ?_ ?_ | exact k0 | fail)
    (apply s_round (i + 1); all_goals (try dsimp only); all_goals (try (repeat' (first | exact slots_nil | refine kw ?_ | exact memIn_nil | omega))))
  · repeat' (first | refine ks ?_ | refine ko ?_ | refine s_indexD ?_ (hel := (by first | exact rfl)) | refine s_callH [] (hs) ?_ | refine s_callH [] (hf) ?_ | refine kg ?_ ?_ | exact k0 | fail)
theorem normA_h (l : List Entry) (h : nilE l = false) (hi : (normE l).2 = 0) (hlen : l.length ≤ 1000000) : HCall Tryz.prog 33 [.c (.d (bagD l))] [] (.tup [.c (.arr 0 1 (normE l).1.length), .c (.d (.lit (.int .i64 0)))]) [.arr 1 56 2 ((normE l).1.map Entry.d)] := by
  have hall : ∀ e ∈ l, entryIn e = true := by
    unfold normE at hi
    split at hi
    · rename_i h1; exact List.all_eq_true.1 h1
    · cases hi
  have hn : normE l = fitsE (sortE l) := by unfold normE; rw [if_pos (List.all_eq_true.2 hall)]
  rw [hn] at hi ⊢
  have hw : within 262144 l := fun e he => by
    have := hall e he
    simp [entryIn, countOK] at this
    omega
  have hs := sortA_h l h hlen hw
  have hf := fitsA_h (sortE l) hi
  have hfe : (fitsE (sortE l)).1 = sortE l := by
    unfold fitsE at hi ⊢
    split
    · rename_i h1; rw [if_pos h1] at hi; cases hi
    · rename_i h1
      rw [if_neg h1] at hi
      split
      · rfl
      · rename_i h2; rw [if_neg h2] at hi; cases hi
  rw [hfe]
  clear hn hi hw hfe h
  generalize sortE l = R at hs hf
  refine hcallN hT Tryz.func33 Tryz.ntmps33 [.tmp 2, .tmp 3] fun B => ?_
  repeat' (first | refine ks ?_ | refine ko ?_ | refine s_indexD ?_ (hel := (by first | exact rfl)) | refine kg ?_ ?_ | exact k0 | refine memIn_same ?_)
  refine s_lp (X := Nat) [2, 3, 4, 5, 6, 7, 8, 9, 10, 11, 12, 13, 14, 15, 16, 17, 18, 19, 20, 21, 22, 23, 24, 25, 26] (fun x => x ≤ l.length) (fun x lz => (4, (.c (.d (.lit (.int .i64 x))))) :: lz) (fun x => []) (fun x => l.length - x) (0) ?_ ?_ ?_ ?_
  repeat' (first | exact slots_nil | refine kw ?_ | exact memIn_nil | omega)
  rintro i c hi
  by_cases hlt : i < l.length
  · have hv : l[i]? = some l[i] := List.getElem?_eq_getElem hlt
    have hq := hall _ (List.getElem_mem hlt)
    generalize l[i] = e at hv hq
    simp only [entryIn, Bool.and_eq_true] at hq
    have h1 := refValidRow_c e.row
    have h2 := countOK_c e.count
    rw [hq.1] at h1
    rw [hq.2] at h2
    repeat' (first | refine ks ?_ | refine ko ?_ | refine s_indexD ?_ (hel := (by first | exact idx_map hv (by omega) | exact hv | exact rfl)) | refine s_call (h1) ?_ | refine s_call (h2) ?_ | refine kg ?_ ?_ | exact k0 | refine memIn_same ?_)
    (apply s_round (i + 1); all_goals (try dsimp only); all_goals (try (repeat' (first | exact slots_nil | refine kw ?_ | exact memIn_nil | omega))))
  · repeat' (first | refine ks ?_ | refine ko ?_ | refine s_indexD ?_ (hel := (by first | exact rfl)) | refine s_callH [] (hs) ?_ | refine s_callH [0] (hf) ?_ | refine kg ?_ ?_ | exact k0 | refine memIn_same ?_)
end Go.Proofs.YtmpgmjlanngkfaaGreat
end
