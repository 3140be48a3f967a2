/-
  Aggregates: merge of states.
-/
import Derived.Test.YtmpgmjlanngkfaaGreatTkg
section
namespace Go.Proofs.YtmpgmjlanngkfaaGreat
open Go.Abs Go.RowKit
attribute [local irreducible] ARun kont MCall PCall HCall resVal SF CF CFs defersOk slotsIn memIn fin finM VLe
set_option linter.unusedSimpArgs false
set_option maxRecDepth 100000
set_option maxHeartbeats 4000000
def mixE (xs ys : List Int) (i : Nat) : List Int := (List.zipWith (fun x y => w64 (x + y)) xs ys).take i ++ xs.drop i
def SOk (n : Nat) (s : Sta) : Prop := s.key.length ≤ 100000 ∧ s.sums.length = n ∧ s.some.length = n
end Go.Proofs.YtmpgmjlanngkfaaGreat
end
