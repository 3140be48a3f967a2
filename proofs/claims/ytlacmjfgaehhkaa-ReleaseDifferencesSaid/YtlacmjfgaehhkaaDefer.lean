/-
  Deferred functions that recover: where nothing has panicked they do nothing.
-/
import Derived.Test.YtlacmjfgaehhkaaTypes
import Derived.Recover
namespace Go.Proofs.Ytlacmjfgaehhkaa
open Go.Abs Go.RowKit
set_option linter.unusedSimpArgs false
set_option maxRecDepth 100000

theorem bagValid1_d : DeferOk Try.prog 52 0 := by
  refine ⟨⟨_, Try.func52, by kernel_rfl, by kernel_rfl⟩, fun vs w hl => ?_⟩
  match vs, hl with
  | [], _ =>
    refine callsD_of_wpS Try.func52 rfl fun c₀ cs hu => ?_
    apply wpS_region
    simp [wpOpsS, go_sem, recoverD, hu, Try.ntmps52, Exit.thenS]
    cases c₀
    simp_all [bodyPostS, results, Try.results52]

theorem publish1_d : DeferOk Try.prog 35 1 := by
  refine ⟨⟨_, Try.func35, by kernel_rfl, by kernel_rfl⟩, fun vs w hl => ?_⟩
  match vs, hl with
  | [p], _ =>
    refine callsD_of_wpS Try.func35 rfl fun c₀ cs hu => ?_
    apply wpS_seq
    apply wpS_region
    simp [wpOpsS, go_sem, recoverD, hu, Try.ntmps35, Exit.thenS]
    refine wpS_cond (t := false) (by simp [Act.eval, Array.replicate]) ?_
    simp only [Bool.false_eq_true, if_false]
    refine wpS_of_wp (wp_skip ?_)
    cases c₀
    simp_all [bodyPostS, results, Try.results35]
end Go.Proofs.Ytlacmjfgaehhkaa
