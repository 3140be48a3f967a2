/-
  BagOrder.
-/
import Derived.Test.YtgfachlcocjdbaaBao
namespace Go.Proofs.Ytgfachlcocjdbaa
open Go.Abs Go.RowKit
attribute [local irreducible] ARun kont MCall PCall HCall resVal SF CF CFs defersOk slotsIn memIn fin finM VLe
set_option linter.unusedSimpArgs false
set_option maxRecDepth 100000
set_option maxHeartbeats 4000000

theorem newTape_ok {l : List Int} (h : l.length ≤ 17592186044416) : (Tape.mk l 0).ok := ⟨h, by simp⟩

end Go.Proofs.Ytgfachlcocjdbaa
