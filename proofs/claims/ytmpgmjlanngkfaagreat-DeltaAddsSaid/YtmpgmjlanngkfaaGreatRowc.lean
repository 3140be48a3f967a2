/-
  Rows: compared, cleaned, tested.
-/
import Derived.Test.YtmpgmjlanngkfaaGreatArz
section
namespace Go.Proofs.YtmpgmjlanngkfaaGreat
open Go.Abs Go.RowKit
attribute [local irreducible] ARun Au MCall PCall HCall Ak SF CF CFs Af Ag Ar fin AP VLe
set_option linter.unusedSimpArgs false
set_option maxRecDepth 100000
set_option maxHeartbeats 4000000
variable {i : Nat}
def BP (r : List Val) : Dat := .sl (r.map Val.d)
theorem Dg {α : Type} (p : α → Bool) {l : List α} {v : α} (hv : l[i]? = some v) (h : (l.take i).all p = true) (hp : p v = true) : (l.take (i + 1)).all p = true := by
 rw [IU, List.all_append, h, hv]
 simp [hp]
theorem Ee {α : Type} (p : α → Bool) {l : List α} {v : α} (hv : l[i]? = some v) (hp : p v = false) : l.all p = false := by
 rw [List.all_eq_false]
 exact ⟨v, Cl hv, by simp [hp]⟩
theorem Ay {α : Type} {l : List α} {v : α} (h : l[i]? = some v) : l.drop i = v :: l.drop (i + 1) := by
 have hlt := lt_of_getElem? h
 rw [ZL hlt]
 rw [Bh hlt] at h
 simp at h
 rw [h]
theorem Hn {α β : Type} (f : α → β) {l : List α} {v : α} (hv : l[i]? = some v) : (l.take (i + 1)).map f = (l.take i).map f ++ [f v] := by
 rw [IU, Ah', hv]
 rfl
theorem Ao {α : Type} {l : List α} (h : l.length ≤ i) : l.take i = l := Mq h
def AD (r : List Val) : Bool := decide (r.length ≤ 16) && r.all Val.valid
theorem Py (r : List Val) : PC 122 [.one (BP r)] (.v (.one (.lit (.bool (AD r))))) := by
 refine Ac hT Tryz.func122 Tryz.ntmps122 [.tmp 2] fun B => ?_
 repeat' first | refine kz ?_ | refine AN rfl (fun hb => ?_) (fun hb => ?_) | refine Aw ?_ | refine kf ?_ | fail
 ·refine congrArg Dat.lit (congrArg Value.bool ?_)
  simp [AD]
  intros; omega
 ·have hl : r.length ≤ 16 := by omega
  refine A0 (X := Nat) ([2, 4] ++ List.range' 10 8) (fun x => x ≤ r.length ∧ (r.take x).all Val.valid = true) (fun x lz => (10, (iC x)) :: lz) (fun x => []) (fun x => r.length - x) (0) ?_ ?_ ?_ ?_
  repeat' first | exact k0 | refine kw ?_ | omega
  ·exact ⟨by simp, by simp⟩
  rintro i c ⟨hi, hinv⟩
  by_cases hlt : i < r.length
  ·obtain ⟨v, hv⟩ := gx hlt
   repeat' first | refine kz ?_ | refine AN rfl (fun hb => ?_) (fun hb => ?_) | refine AX hv ?_ | refine Aw ?_ | refine Aa (I6 _) ?_ | refine kf ?_ | fail
   ·refine congrArg Dat.lit (congrArg Value.bool ?_)
    rw [AD, Ee Val.valid hv hb, Bool.and_false]
   ·apply Ad (i + 1) <;> (try dsimp only) <;> try repeat' first | exact k0 | refine kw ?_ | omega
    exact ⟨by omega, Dg _ hv hinv hb⟩
  ·repeat' first | refine kz ?_ | refine AN rfl (fun hb => ?_) (fun hb => ?_) | refine Aw ?_ | refine kf ?_ | fail
   refine congrArg Dat.lit (congrArg Value.bool ?_)
   rw [Ao (by omega)] at hinv
   simp [AD, hinv, hl]
theorem Et (r : List Val) : PC 74 [.one (BP r)] (.v (.one (.lit (.bool (AD r))))) := by
 refine Ac hT Tryz.func74 Tryz.ntmps74 [.tmp 2] fun B => ?_
 repeat' first | refine kz ?_ | refine AN rfl (fun hb => ?_) (fun hb => ?_) | refine Aw ?_ | refine kf ?_ | fail
 ·refine congrArg Dat.lit (congrArg Value.bool ?_)
  simp [AD]
  intros; omega
 ·have hl : r.length ≤ 16 := by omega
  refine A0 (X := Nat) ([2, 3] ++ List.range' 7 12) (fun x => x ≤ r.length ∧ (r.take x).all Val.valid = true) (fun x lz => (3, (iC x)) :: lz) (fun x => []) (fun x => r.length - x) (0) ?_ ?_ ?_ ?_
  repeat' first | exact k0 | refine kw ?_ | omega
  ·exact ⟨by simp, by simp⟩
  rintro i c ⟨hi, hinv⟩
  by_cases hlt : i < r.length
  ·obtain ⟨v, hv⟩ := gx hlt
   repeat' first | refine kz ?_ | refine AN rfl (fun hb => ?_) (fun hb => ?_) | refine AX hv ?_ | refine Aw ?_ | refine Aa (Ki _) ?_ | refine kf ?_ | fail
   ·refine congrArg Dat.lit (congrArg Value.bool ?_)
    rw [AD, Ee Val.valid hv hb, Bool.and_false]
   ·apply Ad (i + 1) <;> (try dsimp only) <;> try repeat' first | exact k0 | refine kw ?_ | omega
    exact ⟨by omega, Dg _ hv hinv hb⟩
  ·repeat' first | refine kz ?_ | refine AN rfl (fun hb => ?_) (fun hb => ?_) | refine Aw ?_ | refine kf ?_ | fail
   refine congrArg Dat.lit (congrArg Value.bool ?_)
   rw [Ao (by omega)] at hinv
   simp [AD, hinv, hl]
def Ai : List Val → List Val → Int
 | [], [] => 0
 | [], _ :: _ => -1
 | _ :: _, [] => 1
 | a :: x, b :: y => if a.cmp b = 0 then Ai x y else a.cmp b
theorem J8 (x y : List Val) (h : x = [] ∨ y = []) : Ai x y = Ge x.length y.length := by
 rcases h with rfl | rfl
 ·cases y <;> simp [Ai, Ge]
 ·cases x <;> simp [Ai, Ge]; omega
theorem Bu (r s : List Val) : PC 182 [.one (BP r), .one (BP s)] (.v (.one (.lit (.int .i64 (Ai r s))))) := by
 refine Ac hT Tryz.func182 Tryz.ntmps182 [.tmp 4] fun B => ?_
 refine JD 0 rfl fun hlr => ?_
 refine JD 1 rfl fun hls => ?_
 simp only [BQ, maxLen] at hlr hls
 repeat' first | refine kz ?_ | refine AN rfl (fun hb => ?_) (fun hb => ?_) | refine Aw ?_ | refine kf ?_ | refine Aq rfl rfl (fun hb => ?_) (fun hb => ?_)
 refine A0 (X := Nat) (List.range' 4 27) (fun x => x ≤ r.length ∧ x ≤ s.length ∧ Ai r s = Ai (r.drop x) (s.drop x)) (fun x lz => (5, (iC x)) :: lz) (fun x => []) (fun x => r.length - x) (0) ?_ ?_ ?_ ?_
 repeat' first | exact k0 | refine kw ?_ | omega
 ·exact ⟨by simp, by simp, by simp⟩
 rintro i c ⟨hi, hj, hinv⟩
 by_cases hlt : i < r.length ∧ i < s.length
 ·obtain ⟨hlt, hlt2⟩ := hlt
  obtain ⟨a, hv⟩ := gx hlt
  obtain ⟨b, hu⟩ := gx hlt2
  rw [Ay hv, Ay hu, Ai] at hinv
  repeat' first | refine kz ?_ | refine AN rfl (fun hb => ?_) (fun hb => ?_) | refine AX hv ?_ | refine AX hu ?_ | refine Aw ?_ | refine Aa (LU _ _) ?_ | refine kf ?_ | refine Aq rfl rfl (fun hb => ?_) (fun hb => ?_)
  ·rw [hinv, if_neg hb]
  ·apply Ad (i + 1) <;> (try dsimp only) <;> try repeat' first | exact k0 | refine kw ?_ | omega
   try exact ⟨by omega, by omega, by rw [hinv, if_pos hb]⟩
 ·have he : Ai r s = Ge r.length s.length := by
   rw [hinv, J8 _ _ (by simp only [List.drop_eq_nil_iff]; omega)]
   simp only [Fo, Ge]
   (repeat' split) <;> omega
  repeat' first | refine kz ?_ | refine AN rfl (fun hb => ?_) (fun hb => ?_) | refine Aw ?_ | refine kf ?_ | refine Aq rfl rfl (fun hb => ?_) (fun hb => ?_)
  all_goals (rw [he, Ge])
  all_goals (refine congrArg Dat.lit (congrArg (Value.int _) ?_); (repeat' split) <;> omega)
theorem Bf (r s : List Val) : PC 59 [.one (BP r), .one (BP s)] (.v (.one (.lit (.int .i64 (Ai r s))))) := by
 refine Ac hT Tryz.func59 Tryz.ntmps59 [.tmp 4] fun B => ?_
 refine JD 0 rfl fun hlr => ?_
 refine JD 1 rfl fun hls => ?_
 simp only [BQ, maxLen] at hlr hls
 repeat' first | refine kz ?_ | refine AN rfl (fun hb => ?_) (fun hb => ?_) | refine Aw ?_ | refine kf ?_ | fail
 have hm : (if (s.length : Int) < r.length then (s.length : Int) else r.length) = (min r.length s.length : Nat) := by
  split <;> omega
 simp only [hm]
 generalize hmn : min r.length s.length = m
 refine A0 (X := Nat) ([4, 5, 6] ++ List.range' 12 16) (fun x => x ≤ m ∧ Ai r s = Ai (r.drop x) (s.drop x)) (fun x lz => (12, (iC x)) :: lz) (fun x => []) (fun x => m - x) (0) ?_ ?_ ?_ ?_
 repeat' first | exact k0 | refine kw ?_ | omega
 ·exact ⟨by simp, by simp⟩
 rintro i c ⟨hi, hinv⟩
 by_cases hlt : i < m
 ·obtain ⟨a, hv⟩ := gx (l := r) (i := i) (by omega)
  obtain ⟨b, hu⟩ := gx (l := s) (i := i) (by omega)
  rw [Ay hv, Ay hu, Ai] at hinv
  repeat' first | refine kz ?_ | refine AN rfl (fun hb => ?_) (fun hb => ?_) | refine AX hv ?_ | refine AX hu ?_ | refine Aw ?_ | refine Aa (HJ _ _) ?_ | refine kf ?_ | fail
  ·rw [hinv, if_neg hb]
  ·apply Ad (i + 1) <;> (try dsimp only) <;> try repeat' first | exact k0 | refine kw ?_ | omega
   try exact ⟨by omega, by rw [hinv, if_pos hb]⟩
 ·have he : Ai r s = Ge r.length s.length := by
   rw [hinv, J8 _ _ (by simp only [List.drop_eq_nil_iff]; omega)]
   simp only [Fo, Ge]
   (repeat' split) <;> omega
  repeat' first | refine kz ?_ | refine AN rfl (fun hb => ?_) (fun hb => ?_) | refine Aw ?_ | refine Aa (OC _ _) ?_ | refine kf ?_ | fail
  all_goals (rw [he])
end Go.Proofs.YtmpgmjlanngkfaaGreat
end
