/-
  The contract of the library's slices.SortFunc, laid at this program by the kit's own tool; and what our walk makes of it.
-/
import Derived.Test.YtmejclckkmpggaaSrt
import Derived.Test.YtmejclckkmpggaaTypes
namespace Go.Proofs
open Go.Shelf
def Try.srt69_ren : Go.Shelf.Ren := ⟨fun | 6 => 69 | 15 => 90 | 14 => 89 | 28 => 108 | 29 => 109 | 20 => 100 | 21 => 101 | 22 => 102 | 23 => 103 | 24 => 104 | 25 => 105 | 26 => 106 | 27 => 107 | 46 => 112 | 47 => 113 | 48 => 114 | 49 => 115 | 50 => 116 | 57 => 117 | n => n, fun | 22 => 33 | 24 => 24 | 25 => 78 | 3 => 3 | 39 => 43 | 0 => 0 | 53 => 111 | 55 => 113 | 4 => 4 | 46 => 104 | 45 => 103 | 50 => 108 | 5 => 5 | 9 => 9 | 66 => 115 | 70 => 119 | 76 => 121 | 77 => 122 | n => n, fun | n => n⟩
end Go.Proofs
namespace Go.Proofs.Ytmejclckkmpggaa
open Go.Abs Go.RowKit
end Go.Proofs.Ytmejclckkmpggaa
