/-
  Deferred functions that recover: where nothing has panicked they do nothing.
-/
import Derived.Test.YtgfachlcocjdbaaTypes
import Derived.Recover
namespace Go.Proofs.Ytgfachlcocjdbaa
open Go.Abs Go.RowKit
set_option linter.unusedSimpArgs false
set_option maxRecDepth 100000

theorem bagValid1_d : DeferOk Try.prog 48 0 := by
  refine ⟨⟨_, Try.func48, by kernel_rfl, by kernel_rfl⟩, fun vs w hl => ?_⟩
  match vs, hl with
  | [], _ =>
    refine callsD_of_wpS Try.func48 rfl fun c₀ cs hu => ?_
    apply wpS_region
    simp [wpOpsS, go_sem, recoverD, hu, Try.ntmps48, Exit.thenS]
    cases c₀
    simp_all [bodyPostS, results, Try.results48]

end Go.Proofs.Ytgfachlcocjdbaa
