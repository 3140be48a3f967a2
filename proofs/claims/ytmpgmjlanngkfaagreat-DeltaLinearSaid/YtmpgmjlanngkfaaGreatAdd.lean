/-
  bag.Add and bag.Subtract; sums of valid bags in plain terms.
-/
import Derived.Test.YtmpgmjlanngkfaaGreatMrg
namespace Go.Proofs.YtmpgmjlanngkfaaGreat
open Go.Abs Go.RowKit
attribute [local irreducible] ARun kont MCall PCall HCall resVal SF CF CFs defersOk slotsIn memIn fin finM VLe
set_option linter.unusedSimpArgs false
set_option maxRecDepth 100000
set_option maxHeartbeats 4000000

theorem add1_d : DeferOk Tryz.prog 46 0 := by
  refine ⟨⟨_, Tryz.func46, by kernel_rfl, by kernel_rfl⟩, fun vs w hl => ?_⟩
  match vs, hl with
  | [], _ =>
    refine callsD_of_wpS Tryz.func46 rfl fun c₀ cs hu => ?_
    apply wpS_region
    simp [wpOpsS, go_sem, recoverD, hu, Tryz.ntmps46, Exit.thenS]
    cases c₀
    simp_all [bodyPostS, results, Tryz.results46]

theorem subtract1_d : DeferOk Tryz.prog 94 0 := by
  refine ⟨⟨_, Tryz.func94, by kernel_rfl, by kernel_rfl⟩, fun vs w hl => ?_⟩
  match vs, hl with
  | [], _ =>
    refine callsD_of_wpS Tryz.func94 rfl fun c₀ cs hu => ?_
    apply wpS_region
    simp [wpOpsS, go_sem, recoverD, hu, Tryz.ntmps94, Exit.thenS]
    cases c₀
    simp_all [bodyPostS, results, Tryz.results94]

def addE (s : Int) (a b : List Entry) : List Entry × Int := if bagValid a ∧ bagValid b then fitsE (mergeE a (b.map (sc s))) else ([], 1)

theorem add_c (a b : List Entry) : PCall Tryz.prog 19 [.one (bagD a), .one (bagD b)] (.tup [.one (bagD (addE 1 a b).1), .one (.lit (.int .i64 (addE 1 a b).2))]) := by
  have h1 := bagValid_c a
  have h2 := bagValid_c b
  by_cases ha : bagValid a = true
  · by_cases hb : bagValid b = true
    · have hm := merge_c' a b 1 (.inl rfl) ha hb
      have he : addE 1 a b = fitsE (mergeE a (b.map (sc 1))) := if_pos ⟨ha, hb⟩
      rw [he]
      generalize fitsE (mergeE a (b.map (sc 1))) = R at hm
      obtain ⟨r, er⟩ := R
      dsimp only at hm ⊢
      rw [ha] at h1
      rw [hb] at h2
      refine pcallN hT Tryz.func19 Tryz.ntmps19 [.tmp 4, .tmp 5] fun B => ?_
      repeat' (first | (with_reducible (first | refine k_seq ?_ | refine k_skip ?_ | refine k_ret ?_ | refine n_seq ?_ | refine r_seq ?_)) | refine s_reg ?_ | refine s_ifT ?_ | refine s_ifF ?_ | refine r_end ?_ | refine s_skipS ?_ | refine s_move ?_ | refine s_assign ?_ | refine s_call (h1) ?_ | refine s_call (h2) ?_ | refine s_call (hm) ?_ | refine s_pick ?_ | refine s_extract ?_ | refine s_not ?_ | refine s_defer ?_ | refine f_ret2 (by repeat (first | exact def_nil | refine def_cons add1_d ?_)) ?_ ?_ | refine t_tmp ?_ | refine t_tmpE ?_)
      all_goals rfl
    · have he : addE 1 a b = ([], 1) := if_neg (fun q => hb q.2)
      rw [he]
      rw [ha] at h1
      rw [show bagValid b = false by simpa using hb] at h2
      refine pcallN hT Tryz.func19 Tryz.ntmps19 [.tmp 4, .tmp 5] fun B => ?_
      repeat' (first | (with_reducible (first | refine k_seq ?_ | refine k_skip ?_ | refine k_ret ?_ | refine n_seq ?_ | refine r_seq ?_)) | refine s_reg ?_ | refine s_ifT ?_ | refine s_ifF ?_ | refine r_end ?_ | refine s_skipS ?_ | refine s_move ?_ | refine s_assign ?_ | refine s_call (h1) ?_ | refine s_call (h2) ?_ | refine s_pick ?_ | refine s_extract ?_ | refine s_not ?_ | refine s_defer ?_ | refine f_ret2 (by repeat (first | exact def_nil | refine def_cons add1_d ?_)) ?_ ?_ | refine t_tmp ?_ | refine t_tmpE ?_)
      all_goals rfl
  · have he : addE 1 a b = ([], 1) := if_neg (fun q => ha q.1)
    rw [he]
    rw [show bagValid a = false by simpa using ha] at h1
    refine pcallN hT Tryz.func19 Tryz.ntmps19 [.tmp 4, .tmp 5] fun B => ?_
    repeat' (first | (with_reducible (first | refine k_seq ?_ | refine k_skip ?_ | refine k_ret ?_ | refine n_seq ?_ | refine r_seq ?_)) | refine s_reg ?_ | refine s_ifT ?_ | refine s_ifF ?_ | refine r_end ?_ | refine s_skipS ?_ | refine s_move ?_ | refine s_assign ?_ | refine s_call (h1) ?_ | refine s_call (h2) ?_ | refine s_pick ?_ | refine s_extract ?_ | refine s_not ?_ | refine s_defer ?_ | refine f_ret2 (by repeat (first | exact def_nil | refine def_cons add1_d ?_)) ?_ ?_ | refine t_tmp ?_ | refine t_tmpE ?_)
    all_goals rfl

theorem subtract_c (a b : List Entry) : PCall Tryz.prog 45 [.one (bagD a), .one (bagD b)] (.tup [.one (bagD (addE (-1) a b).1), .one (.lit (.int .i64 (addE (-1) a b).2))]) := by
  have h1 := bagValid_c a
  have h2 := bagValid_c b
  by_cases ha : bagValid a = true
  · by_cases hb : bagValid b = true
    · have hm := merge_c' a b (-1) (.inr rfl) ha hb
      have he : addE (-1) a b = fitsE (mergeE a (b.map (sc (-1)))) := if_pos ⟨ha, hb⟩
      rw [he]
      generalize fitsE (mergeE a (b.map (sc (-1)))) = R at hm
      obtain ⟨r, er⟩ := R
      dsimp only at hm ⊢
      rw [ha] at h1
      rw [hb] at h2
      refine pcallN hT Tryz.func45 Tryz.ntmps45 [.tmp 4, .tmp 5] fun B => ?_
      repeat' (first | (with_reducible (first | refine k_seq ?_ | refine k_skip ?_ | refine k_ret ?_ | refine n_seq ?_ | refine r_seq ?_)) | refine s_reg ?_ | refine s_ifT ?_ | refine s_ifF ?_ | refine r_end ?_ | refine s_skipS ?_ | refine s_move ?_ | refine s_assign ?_ | refine s_call (h1) ?_ | refine s_call (h2) ?_ | refine s_call (hm) ?_ | refine s_pick ?_ | refine s_extract ?_ | refine s_not ?_ | refine s_defer ?_ | refine f_ret2 (by repeat (first | exact def_nil | refine def_cons subtract1_d ?_)) ?_ ?_ | refine t_tmp ?_ | refine t_tmpE ?_)
      all_goals rfl
    · have he : addE (-1) a b = ([], 1) := if_neg (fun q => hb q.2)
      rw [he]
      rw [ha] at h1
      rw [show bagValid b = false by simpa using hb] at h2
      refine pcallN hT Tryz.func45 Tryz.ntmps45 [.tmp 4, .tmp 5] fun B => ?_
      repeat' (first | (with_reducible (first | refine k_seq ?_ | refine k_skip ?_ | refine k_ret ?_ | refine n_seq ?_ | refine r_seq ?_)) | refine s_reg ?_ | refine s_ifT ?_ | refine s_ifF ?_ | refine r_end ?_ | refine s_skipS ?_ | refine s_move ?_ | refine s_assign ?_ | refine s_call (h1) ?_ | refine s_call (h2) ?_ | refine s_pick ?_ | refine s_extract ?_ | refine s_not ?_ | refine s_defer ?_ | refine f_ret2 (by repeat (first | exact def_nil | refine def_cons subtract1_d ?_)) ?_ ?_ | refine t_tmp ?_ | refine t_tmpE ?_)
      all_goals rfl
  · have he : addE (-1) a b = ([], 1) := if_neg (fun q => ha q.1)
    rw [he]
    rw [show bagValid a = false by simpa using ha] at h1
    refine pcallN hT Tryz.func45 Tryz.ntmps45 [.tmp 4, .tmp 5] fun B => ?_
    repeat' (first | (with_reducible (first | refine k_seq ?_ | refine k_skip ?_ | refine k_ret ?_ | refine n_seq ?_ | refine r_seq ?_)) | refine s_reg ?_ | refine s_ifT ?_ | refine s_ifF ?_ | refine r_end ?_ | refine s_skipS ?_ | refine s_move ?_ | refine s_assign ?_ | refine s_call (h1) ?_ | refine s_call (h2) ?_ | refine s_pick ?_ | refine s_extract ?_ | refine s_not ?_ | refine s_defer ?_ | refine f_ret2 (by repeat (first | exact def_nil | refine def_cons subtract1_d ?_)) ?_ ?_ | refine t_tmp ?_ | refine t_tmpE ?_)
    all_goals rfl

theorem sumK_sc (s : Int) (l : List Entry) (r : List Val) : sumK (l.map (sc s)) r = s * sumK l r := by
  induction l with
  | nil => simp [sumK]
  | cons e l ih =>
    simp only [List.map_cons, sumK, ih, Int.mul_add]
    congr 1
    show (if rowCmp e.row r = 0 then s * e.count else 0) = _
    split <;> simp

theorem sc_sorted {s : Int} (hs : s = 1 ∨ s = -1) {l : List Entry} (h : Sorted l) : Sorted (l.map (sc s)) := by
  refine ⟨?_, fun e he => ?_, fun e he => ?_⟩
  · rw [List.pairwise_map]; exact h.up
  · obtain ⟨x, hx, rfl⟩ := List.mem_map.1 he
    have := h.nz x hx
    show s * x.count ≠ 0
    rcases hs with rfl | rfl <;> omega
  · obtain ⟨x, hx, rfl⟩ := List.mem_map.1 he
    exact h.cl x hx

theorem sc_within {s : Int} (hs : s = 1 ∨ s = -1) {M : Int} {l : List Entry} (h : within M l) : within M (l.map (sc s)) := fun e he => by
  obtain ⟨x, hx, rfl⟩ := List.mem_map.1 he
  have := h x hx
  show -M ≤ s * x.count ∧ s * x.count ≤ M
  rcases hs with rfl | rfl <;> omega

/-- The sum of two valid bags of few small entries. -/
theorem addE_small {s : Int} (hs : s = 1 ∨ s = -1) {a b : List Entry} {M N : Int} (ha : bagValid a = true) (hb : bagValid b = true) (wa : within M a) (wb : within N b) (hM : 0 ≤ M) (hN : 0 ≤ N) (hMN : M + N ≤ 262144) (hl : a.length + b.length ≤ 4096) :
    (addE s a b).2 = 0 ∧ bagValid (addE s a b).1 = true ∧ within (M + N) (addE s a b).1 ∧ (addE s a b).1.length ≤ a.length + b.length ∧ ∀ r, sumK (addE s a b).1 r = sumK a r + s * sumK b r := by
  have he : addE s a b = fitsE (mergeE a (b.map (sc s))) := if_pos ⟨ha, hb⟩
  have hsa := sorted_of_valid ha
  have hsb := sc_sorted hs (sorted_of_valid hb)
  have hw := mergeE_within hM hN a (b.map (sc s)) wa (sc_within hs wb)
  have hlen := mergeE_len a (b.map (sc s))
  rw [List.length_map] at hlen
  have hso := mergeE_sorted _ _ hsa hsb
  have hfit : fitsE (mergeE a (b.map (sc s))) = (mergeE a (b.map (sc s)), 0) := by
    rw [fitsE, if_neg (by omega), if_pos]
    refine List.all_eq_true.2 fun e he => ?_
    have := hw e he
    simp only [countOK, Bool.and_eq_true, decide_eq_true_eq]
    omega
  rw [he, hfit]
  refine ⟨rfl, ?_, hw, hlen, fun r => by rw [sumK_mergeE, sumK_sc]⟩
  simp only [bagValid, Bool.and_eq_true, decide_eq_true_eq]
  refine ⟨by omega, good_of (fun e hm => ?_) hso.up (by simp)⟩
  obtain ⟨x, hx, hr⟩ := mem_mergeE _ _ e hm
  have hrow : rowOK e.row = true := by
    rw [← hr]
    rcases hx with hx | hx
    · exact ((valid_mem ha).2 x hx).1
    · obtain ⟨y, hy, rfl⟩ := List.mem_map.1 hx
      exact ((valid_mem hb).2 y hy).1
  have hcw := hw e hm
  simp only [Entry.ok, countOK, Bool.and_eq_true, decide_eq_true_eq]
  exact ⟨⟨hrow, by omega, by omega⟩, hso.nz e hm⟩
end Go.Proofs.YtmpgmjlanngkfaaGreat
