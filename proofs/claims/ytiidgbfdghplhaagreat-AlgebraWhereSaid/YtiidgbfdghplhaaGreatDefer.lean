/-
  Deferred functions that recover: where nothing has panicked they do nothing.
-/
import Derived.Test.YtiidgbfdghplhaaGreatCmp
import Derived.Recover
namespace Go.Proofs.YtiidgbfdghplhaaGreat
open Go.Abs Go.RowKit
set_option linter.unusedSimpArgs false
set_option maxRecDepth 100000

theorem bagValid1_d : DeferOk Tryz.prog 72 0 := by
  refine ⟨⟨_, Tryz.func72, by kernel_rfl, by kernel_rfl⟩, fun vs w hl => ?_⟩
  match vs, hl with
  | [], _ =>
    refine callsD_of_wpS Tryz.func72 rfl fun c₀ cs hu => ?_
    apply wpS_region
    simp [wpOpsS, go_sem, recoverD, hu, Tryz.ntmps72, Exit.thenS]
    cases c₀
    simp_all [bodyPostS, results, Tryz.results72]

end Go.Proofs.YtiidgbfdghplhaaGreat
