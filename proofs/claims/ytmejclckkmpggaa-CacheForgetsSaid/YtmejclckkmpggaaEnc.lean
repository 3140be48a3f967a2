/-
  The byte form of values and rows.
-/
import Derived.Test.YtmejclckkmpggaaRowc
namespace Go.Proofs.Ytmejclckkmpggaa
open Go.Abs Go.RowKit
attribute [local irreducible] ARun kont MCall PCall HCall resVal SF CF CFs defersOk slotsIn memIn fin finM VLe
set_option linter.unusedSimpArgs false
set_option maxRecDepth 100000
set_option maxHeartbeats 4000000

def u8of (z : Int) : UInt8 := UInt8.ofNat (z.emod 256).toNat

theorem u8of_wrap (z : Int) : IntKind.u8.wrap z = ((u8of z).toNat : Nat) := by
  have h1 := Int.emod_nonneg z (show (256 : Int) ≠ 0 by decide)
  have h2 := Int.emod_lt_of_pos z (show (0 : Int) < 256 by decide)
  have e : (u8of z).toNat = (z.emod 256).toNat := by
    unfold u8of
    rw [UInt8.toNat_ofNat']
    have : (z.emod 256).toNat < 256 := by
      have : z.emod 256 = z % 256 := rfl
      omega
    omega
  rw [e]
  have : z.emod 256 = z % 256 := rfl
  simp [IntKind.wrap, IntKind.bits, IntKind.signed]
  omega

def encInt (n : Int) : List UInt8 := [2, u8of (shrInt .i64 n 32), u8of (shrInt .i64 n 24), u8of (shrInt .i64 n 16), u8of (shrInt .i64 n 8), u8of n]
def esc1 (b : UInt8) : List UInt8 := if b = 0 then [0, 255] else [b]
def esc (l : List UInt8) : List UInt8 := l.flatMap esc1
def encVal (v : Val) : List UInt8 :=
  if v.kind = 1 then encInt (v.int + 4294967296)
  else if v.kind = 2 then 3 :: (esc v.text.data.toList ++ [0, 0])
  else [1]

theorem esc_snoc {l : List UInt8} {i : Nat} {b : UInt8} (h : l[i]? = some b) : esc (l.take (i + 1)) = esc (l.take i) ++ esc1 b := by
  rw [List.take_add_one, h, esc, esc, List.flatMap_append]
  simp

theorem esc_len (l : List UInt8) : (esc l).length ≤ 2 * l.length := by
  induction l with
  | nil => simp [esc]
  | cons b l ih =>
    have : esc (b :: l) = esc1 b ++ esc l := by simp [esc]
    rw [this, List.length_append, List.length_cons]
    have : (esc1 b).length ≤ 2 := by unfold esc1; split <;> simp
    omega

theorem encVal_len (v : Val) (h : v.valid = true) : (encVal v).length ≤ 80 := by
  unfold encVal
  split
  · simp [encInt]
  · split
    · rename_i h1 h2
      have hs : v.text.size ≤ 32 := by
        unfold Val.valid at h
        rw [if_neg (by omega), if_neg h1, if_pos h2] at h
        simp at h
        exact h.2
      have := esc_len v.text.data.toList
      have e : v.text.data.toList.length = v.text.size := by simp
      simp only [List.length_cons, List.length_append, List.length_nil]
      omega
    · simp

def encRow (r : List Val) : List UInt8 := r.flatMap fun v => encVal v.clean

theorem clean_valid' (v : Val) : v.clean.valid = true := by
  unfold Val.clean
  split
  · assumption
  · simp [Val.null, Val.valid, ByteArray.toList_eq]

theorem encRow_snoc {r : List Val} {i : Nat} {v : Val} (h : r[i]? = some v) : encRow (r.take (i + 1)) = encRow (r.take i) ++ encVal v.clean := by
  rw [List.take_add_one, h, encRow, encRow, List.flatMap_append]
  simp

theorem encRow_len (r : List Val) : (encRow r).length ≤ 80 * r.length := by
  induction r with
  | nil => simp [encRow]
  | cons v r ih =>
    have : encRow (v :: r) = encVal v.clean ++ encRow r := by simp [encRow]
    rw [this, List.length_append, List.length_cons]
    have := encVal_len v.clean (clean_valid' v)
    omega

end Go.Proofs.Ytmejclckkmpggaa
