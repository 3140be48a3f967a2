/-
  AggregateGroup: the law returns true.
-/
import Derived.Test.YtojfhaoleedmkaaGreatLgp
import Derived.Test.YtojfhaoleedmkaaGreatTkg
import Derived.Test.YtojfhaoleedmkaaGreatTpo
namespace Go.Proofs.YtojfhaoleedmkaaGreat
open Go.Abs Go.RowKit
attribute [local irreducible] ARun kont MCall PCall HCall resVal SF CF CFs defersOk slotsIn memIn fin finM VLe
set_option linter.unusedSimpArgs false
set_option maxRecDepth 100000
set_option maxHeartbeats 4000000
theorem newTape9_ok {l : List Int} (h : l.length ≤ 17592186044416) : (Tape.mk l 0).ok := ⟨h, by simp⟩
theorem sameSelf_c (l : List Entry) : PCall Tryz.prog 18 [.one (bagD l), .one (bagD l)] (.v (.one (.lit (.bool true)))) := by
  have h := same06_c l l
  rw [sameBag_refl] at h
  exact h
end Go.Proofs.YtojfhaoleedmkaaGreat
