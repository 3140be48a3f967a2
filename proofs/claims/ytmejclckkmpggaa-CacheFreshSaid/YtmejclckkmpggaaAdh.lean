/-
  bag.Subtract; sums of valid bags in plain terms.
-/
import Derived.Test.YtmejclckkmpggaaMrh
namespace Go.Proofs.Ytmejclckkmpggaa
open Go.Abs Go.RowKit
attribute [local irreducible] ARun kont MCall PCall HCall resVal SF CF CFs defersOk slotsIn memIn fin finM VLe
set_option linter.unusedSimpArgs false
set_option maxRecDepth 100000
set_option maxHeartbeats 4000000

theorem subtract1_d : DeferOk Try.prog 75 0 := by
  refine ⟨⟨_, Try.func75, by kernel_rfl, by kernel_rfl⟩, fun vs w hl => ?_⟩
  match vs, hl with
  | [], _ =>
    refine callsD_of_wpS Try.func75 rfl fun c₀ cs hu => ?_
    apply wpS_region
    simp [wpOpsS, go_sem, recoverD, hu, Try.ntmps75, Exit.thenS]
    cases c₀
    simp_all [bodyPostS, results, Try.results75]

def addE (s : Int) (a b : List Entry) : List Entry × Int := if bagValid a ∧ bagValid b then fitsE (mergeE a (b.map (sc s))) else ([], 1)

theorem subtract_c (a b : List Entry) : PCall Try.prog 38 [.one (bagD a), .one (bagD b)] (.tup [.one (bagD (addE (-1) a b).1), .one (.lit (.int .i64 (addE (-1) a b).2))]) := by
  have h1 := bagValid_c a
  have h2 := bagValid_c b
  by_cases ha : bagValid a = true
  · by_cases hb : bagValid b = true
    · have hm := merge_c' a b (-1) (.inr rfl) ha hb
      have he : addE (-1) a b = fitsE (mergeE a (b.map (sc (-1)))) := if_pos ⟨ha, hb⟩
      rw [he]
      generalize fitsE (mergeE a (b.map (sc (-1)))) = R at hm
      obtain ⟨r, er⟩ := R
      dsimp only at hm ⊢
      rw [ha] at h1
      rw [hb] at h2
      refine pcallN hT Try.func38 Try.ntmps38 [.tmp 4, .tmp 5] fun B => ?_
      repeat' (first | (with_reducible (first | refine k_seq ?_ | refine k_skip ?_ | refine k_ret ?_ | refine n_seq ?_ | refine r_seq ?_)) | refine s_reg ?_ | refine s_ifT ?_ | refine s_ifF ?_ | refine r_end ?_ | refine s_skipS ?_ | refine s_move ?_ | refine s_assign ?_ | refine s_call (h1) ?_ | refine s_call (h2) ?_ | refine s_call (hm) ?_ | refine s_pick ?_ | refine s_extract ?_ | refine s_not ?_ | refine s_defer ?_ | refine f_ret2 (by repeat (first | exact def_nil | refine def_cons subtract1_d ?_)) ?_ ?_ | refine t_tmp ?_ | refine t_tmpE ?_)
      all_goals rfl
    · have he : addE (-1) a b = ([], 1) := if_neg (fun q => hb q.2)
      rw [he]
      rw [ha] at h1
      rw [show bagValid b = false by simpa using hb] at h2
      refine pcallN hT Try.func38 Try.ntmps38 [.tmp 4, .tmp 5] fun B => ?_
      repeat' (first | (with_reducible (first | refine k_seq ?_ | refine k_skip ?_ | refine k_ret ?_ | refine n_seq ?_ | refine r_seq ?_)) | refine s_reg ?_ | refine s_ifT ?_ | refine s_ifF ?_ | refine r_end ?_ | refine s_skipS ?_ | refine s_move ?_ | refine s_assign ?_ | refine s_call (h1) ?_ | refine s_call (h2) ?_ | refine s_pick ?_ | refine s_extract ?_ | refine s_not ?_ | refine s_defer ?_ | refine f_ret2 (by repeat (first | exact def_nil | refine def_cons subtract1_d ?_)) ?_ ?_ | refine t_tmp ?_ | refine t_tmpE ?_)
      all_goals rfl
  · have he : addE (-1) a b = ([], 1) := if_neg (fun q => ha q.1)
    rw [he]
    rw [show bagValid a = false by simpa using ha] at h1
    refine pcallN hT Try.func38 Try.ntmps38 [.tmp 4, .tmp 5] fun B => ?_
    repeat' (first | (with_reducible (first | refine k_seq ?_ | refine k_skip ?_ | refine k_ret ?_ | refine n_seq ?_ | refine r_seq ?_)) | refine s_reg ?_ | refine s_ifT ?_ | refine s_ifF ?_ | refine r_end ?_ | refine s_skipS ?_ | refine s_move ?_ | refine s_assign ?_ | refine s_call (h1) ?_ | refine s_call (h2) ?_ | refine s_pick ?_ | refine s_extract ?_ | refine s_not ?_ | refine s_defer ?_ | refine f_ret2 (by repeat (first | exact def_nil | refine def_cons subtract1_d ?_)) ?_ ?_ | refine t_tmp ?_ | refine t_tmpE ?_)
    all_goals rfl

theorem sumK_sc (s : Int) (l : List Entry) (r : List Val) : sumK (l.map (sc s)) r = s * sumK l r := by
  induction l with
  | nil => simp [sumK]
  | cons e l ih =>
    simp only [List.map_cons, sumK, ih, Int.mul_add]
    congr 1
    show (if rowCmp e.row r = 0 then s * e.count else 0) = _
    split <;> simp

theorem sc_sorted {s : Int} (hs : s = 1 ∨ s = -1) {l : List Entry} (h : Sorted l) : Sorted (l.map (sc s)) := by
  refine ⟨?_, fun e he => ?_, fun e he => ?_⟩
  · rw [List.pairwise_map]; exact h.up
  · obtain ⟨x, hx, rfl⟩ := List.mem_map.1 he
    have := h.nz x hx
    show s * x.count ≠ 0
    rcases hs with rfl | rfl <;> omega
  · obtain ⟨x, hx, rfl⟩ := List.mem_map.1 he
    exact h.cl x hx

end Go.Proofs.Ytmejclckkmpggaa
