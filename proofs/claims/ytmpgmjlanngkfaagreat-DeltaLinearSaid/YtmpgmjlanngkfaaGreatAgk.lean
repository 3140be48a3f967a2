/-
  Aggregates: Exact, Group.
-/
import Derived.Test.YtmpgmjlanngkfaaGreatExn
import Derived.Test.YtmpgmjlanngkfaaGreatVew
import Derived.Test.YtmpgmjlanngkfaaGreatNrm
import Derived.Test.YtmpgmjlanngkfaaGreatTny
namespace Go.Proofs.YtmpgmjlanngkfaaGreat
open Go.Abs Go.RowKit
attribute [local irreducible] ARun kont MCall PCall HCall resVal SF CF CFs defersOk slotsIn memIn fin finM VLe
set_option linter.unusedSimpArgs false
set_option maxRecDepth 100000
set_option maxHeartbeats 4000000

noncomputable def grpRow (ag : List Agg) (g : List Val × List Entry) : List Val := g.1 ++ ag.map fun x => foldE x.func (valsE x g.2)
noncomputable def groupE (b : List Entry) (keys : List Itm) (ag : List Agg) : List Entry × Int :=
  if positiveE b = true ∧ keys.length + ag.length ≤ 8 then normE ((grpE b (keyE keys)).map fun g => ⟨grpRow ag g, 1⟩) else ([], 1)

def grS (k v m : Nat) (key : List Val) : SVal := match k with
  | 0 => .c (.d (rowX key))
  | _ + 1 => .c (.arr 3 v m)
noncomputable def grM (k v : Nat) (ag : List Agg) (g : List Val × List Entry) : List Blk := match k with
  | 0 => []
  | k + 1 => [.arr v 73 3 ((grpRow (ag.take (k + 1)) g).map Val.d)]

end Go.Proofs.YtmpgmjlanngkfaaGreat
