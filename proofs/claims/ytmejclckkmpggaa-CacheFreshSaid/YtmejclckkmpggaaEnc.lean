/-
  The byte form of values and rows.
-/
import Derived.Test.YtmejclckkmpggaaRowc
namespace Go.Proofs.Ytmejclckkmpggaa
open Go.Abs Go.RowKit
attribute [local irreducible] ARun kont MCall PCall HCall resVal SF CF CFs defersOk slotsIn memIn fin finM VLe
set_option linter.unusedSimpArgs false
set_option maxRecDepth 100000
set_option maxHeartbeats 4000000

def u8of (z : Int) : UInt8 := UInt8.ofNat (z.emod 256).toNat

def encInt (n : Int) : List UInt8 := [2, u8of (shrInt .i64 n 32), u8of (shrInt .i64 n 24), u8of (shrInt .i64 n 16), u8of (shrInt .i64 n 8), u8of n]
def esc1 (b : UInt8) : List UInt8 := if b = 0 then [0, 255] else [b]
def esc (l : List UInt8) : List UInt8 := l.flatMap esc1
def encVal (v : Val) : List UInt8 :=
  if v.kind = 1 then encInt (v.int + 4294967296)
  else if v.kind = 2 then 3 :: (esc v.text.data.toList ++ [0, 0])
  else [1]

def encRow (r : List Val) : List UInt8 := r.flatMap fun v => encVal v.clean

end Go.Proofs.Ytmejclckkmpggaa
