/-
  Expressions: terms as data, the number of operands, valid terms.
-/
import Derived.Test.YtmpgmjlanngkfaaGreatCmp
import Derived.Test.YtmpgmjlanngkfaaGreatSrt
section
namespace Go.Proofs.YtmpgmjlanngkfaaGreat
open Go.Abs Go.RowKit
attribute [local irreducible] ARun At MCall PCall HCall Am SF CF CFs Ah Aj Ar fin AW VLe
set_option linter.unusedSimpArgs false
set_option maxRecDepth 100000
def AU (r : List Val) : Dat := .sl (r.map Val.d)
theorem Cw {α : Type} (p : α → Bool) {l : List α} {i : Nat} {v : α} (hv : l[i]? = some v) (h : (l.take i).all p = true) (hp : p v = true) : (l.take (i + 1)).all p = true := by
 rw [List.take_add_one, List.all_append, h, hv]
 simp [hp]
theorem DP {α : Type} (p : α → Bool) {l : List α} {i : Nat} {v : α} (hv : l[i]? = some v) (hp : p v = false) : l.all p = false := by
 rw [List.all_eq_false]
 exact ⟨v, List.mem_of_getElem? hv, by simp [hp]⟩
theorem AD {α : Type} {l : List α} {i : Nat} {v : α} (h : l[i]? = some v) : l.drop i = v :: l.drop (i + 1) := by
 have hlt := lt_of_getElem? h
 rw [List.drop_eq_getElem_cons hlt]
 rw [List.getElem?_eq_getElem hlt] at h
 simp at h
 rw [h]
theorem EU {α β : Type} (f : α → β) {l : List α} {i : Nat} {v : α} (hv : l[i]? = some v) : (l.take (i + 1)).map f = (l.take i).map f ++ [f v] := by
 rw [List.take_add_one, List.map_append, hv]
 rfl
theorem Ag {α : Type} {l : List α} {i : Nat} (h : l.length ≤ i) : l.take i = l := List.take_of_length_le h
def AQ (r : List Val) : Bool := decide (r.length ≤ 16) && r.all Val.valid
theorem Pv (r : List Val) : PCall Tryz.prog 122 [.one (AU r)] (.v (.one (.lit (.bool (AQ r))))) := by
 refine Ac hT Tryz.func122 Tryz.ntmps122 [.tmp 2] fun B => ?_
 repeat' (first | refine kz ?_ | refine Au rfl (fun hb => ?_) (fun hb => ?_) | refine ki ?_ | refine kf ?_ | fail)
 ·refine congrArg Dat.lit (congrArg Value.bool ?_)
  simp [AQ]
  intros; omega
 ·have hl : r.length ≤ 16 := by omega
  refine AO (X := Nat) [2, 4, 10, 11, 12, 13, 14, 15, 16, 17] (fun x => x ≤ r.length ∧ (r.take x).all Val.valid = true) (fun x lz => (10, (.c (.d (.lit (.int .i64 x))))) :: lz) (fun x => []) (fun x => r.length - x) (0) ?_ ?_ ?_ ?_
  repeat' (first | exact k0 | refine kw ?_ | omega)
  ·exact ⟨by simp, by simp⟩
  rintro i c ⟨hi, hinv⟩
  by_cases hlt : i < r.length
  ·have hv : r[i]? = some r[i] := List.getElem?_eq_getElem hlt
   generalize r[i] = v at hv
   repeat' (first | refine kz ?_ | refine Au rfl (fun hb => ?_) (fun hb => ?_) | refine kx hv ?_ | refine ki ?_ | refine Aa (Ja _) ?_ | refine kf ?_ | fail)
   ·refine congrArg Dat.lit (congrArg Value.bool ?_)
    rw [AQ, DP Val.valid hv hb, Bool.and_false]
   ·(apply Ae (i + 1); all_goals (try dsimp only); all_goals (try (repeat' (first | exact k0 | refine kw ?_ | omega))))
    exact ⟨by omega, Cw _ hv hinv hb⟩
  ·repeat' (first | refine kz ?_ | refine Au rfl (fun hb => ?_) (fun hb => ?_) | refine ki ?_ | refine kf ?_ | fail)
   refine congrArg Dat.lit (congrArg Value.bool ?_)
   rw [Ag (by omega)] at hinv
   simp [AQ, hinv, hl]
theorem ED (r : List Val) : PCall Tryz.prog 74 [.one (AU r)] (.v (.one (.lit (.bool (AQ r))))) := by
 refine Ac hT Tryz.func74 Tryz.ntmps74 [.tmp 2] fun B => ?_
 repeat' (first | refine kz ?_ | refine Au rfl (fun hb => ?_) (fun hb => ?_) | refine ki ?_ | refine kf ?_ | fail)
 ·refine congrArg Dat.lit (congrArg Value.bool ?_)
  simp [AQ]
  intros; omega
 ·have hl : r.length ≤ 16 := by omega
  refine AO (X := Nat) [2, 3, 7, 8, 9, 10, 11, 12, 13, 14, 15, 16, 17, 18] (fun x => x ≤ r.length ∧ (r.take x).all Val.valid = true) (fun x lz => (3, (.c (.d (.lit (.int .i64 x))))) :: lz) (fun x => []) (fun x => r.length - x) (0) ?_ ?_ ?_ ?_
  repeat' (first | exact k0 | refine kw ?_ | omega)
  ·exact ⟨by simp, by simp⟩
  rintro i c ⟨hi, hinv⟩
  by_cases hlt : i < r.length
  ·have hv : r[i]? = some r[i] := List.getElem?_eq_getElem hlt
   generalize r[i] = v at hv
   repeat' (first | refine kz ?_ | refine Au rfl (fun hb => ?_) (fun hb => ?_) | refine kx hv ?_ | refine ki ?_ | refine Aa (Hc _) ?_ | refine kf ?_ | fail)
   ·refine congrArg Dat.lit (congrArg Value.bool ?_)
    rw [AQ, DP Val.valid hv hb, Bool.and_false]
   ·(apply Ae (i + 1); all_goals (try dsimp only); all_goals (try (repeat' (first | exact k0 | refine kw ?_ | omega))))
    exact ⟨by omega, Cw _ hv hinv hb⟩
  ·repeat' (first | refine kz ?_ | refine Au rfl (fun hb => ?_) (fun hb => ?_) | refine ki ?_ | refine kf ?_ | fail)
   refine congrArg Dat.lit (congrArg Value.bool ?_)
   rw [Ag (by omega)] at hinv
   simp [AQ, hinv, hl]
def Ak : List Val → List Val → Int
 | [], [] => 0
 | [], _ :: _ => -1
 | _ :: _, [] => 1
 | a :: x, b :: y => if a.cmp b = 0 then Ak x y else a.cmp b
theorem J9 (x y : List Val) (h : x = [] ∨ y = []) : Ak x y = Gy x.length y.length := by
 rcases h with rfl | rfl
 ·cases y <;> simp [Ak, Gy]
 ·cases x <;> simp [Ak, Gy]; omega
theorem Bb (r s : List Val) : PCall Tryz.prog 182 [.one (AU r), .one (AU s)] (.v (.one (.lit (.int .i64 (Ak r s))))) := by
 refine Ac hT Tryz.func182 Tryz.ntmps182 [.tmp 4] fun B => ?_
 refine fsq 0 rfl fun hlr => ?_
 refine fsq 1 rfl fun hls => ?_
 simp only [List.length_map, maxLen] at hlr hls
 repeat' (first | refine kz ?_ | refine Au rfl (fun hb => ?_) (fun hb => ?_) | refine ki ?_ | refine kf ?_ | refine Ai rfl rfl (fun hb => ?_) (fun hb => ?_))
 refine AO (X := Nat) [4, 5, 6, 7, 8, 9, 10, 11, 12, 13, 14, 15, 16, 17, 18, 19, 20, 21, 22, 23, 24, 25, 26, 27, 28, 29, 30] (fun x => x ≤ r.length ∧ x ≤ s.length ∧ Ak r s = Ak (r.drop x) (s.drop x)) (fun x lz => (5, (.c (.d (.lit (.int .i64 x))))) :: lz) (fun x => []) (fun x => r.length - x) (0) ?_ ?_ ?_ ?_
 repeat' (first | exact k0 | refine kw ?_ | omega)
 ·exact ⟨by simp, by simp, by simp⟩
 rintro i c ⟨hi, hj, hinv⟩
 by_cases hlt : i < r.length ∧ i < s.length
 ·obtain ⟨hlt, hlt2⟩ := hlt
  have hv : r[i]? = some r[i] := List.getElem?_eq_getElem hlt
  generalize r[i] = a at hv
  have hu : s[i]? = some s[i] := List.getElem?_eq_getElem hlt2
  generalize s[i] = b at hu
  rw [AD hv, AD hu, Ak] at hinv
  repeat' (first | refine kz ?_ | refine Au rfl (fun hb => ?_) (fun hb => ?_) | refine kx hv ?_ | refine kx hu ?_ | refine ki ?_ | refine Aa (Hn _ _) ?_ | refine kf ?_ | refine Ai rfl rfl (fun hb => ?_) (fun hb => ?_))
  ·rw [hinv, if_neg hb]
  ·(apply Ae (i + 1); all_goals (try dsimp only); all_goals (try (repeat' (first | exact k0 | refine kw ?_ | omega))))
   try exact ⟨by omega, by omega, by rw [hinv, if_pos hb]⟩
 ·have he : Ak r s = Gy r.length s.length := by
   rw [hinv, J9 _ _ (by simp only [List.drop_eq_nil_iff]; omega)]
   simp only [List.length_drop, Gy]
   (repeat' split) <;> omega
  repeat' (first | refine kz ?_ | refine Au rfl (fun hb => ?_) (fun hb => ?_) | refine ki ?_ | refine kf ?_ | refine Ai rfl rfl (fun hb => ?_) (fun hb => ?_))
  all_goals (rw [he, Gy])
  all_goals (refine congrArg Dat.lit (congrArg (Value.int _) ?_); (repeat' split) <;> omega)
theorem Bf (r s : List Val) : PCall Tryz.prog 59 [.one (AU r), .one (AU s)] (.v (.one (.lit (.int .i64 (Ak r s))))) := by
 refine Ac hT Tryz.func59 Tryz.ntmps59 [.tmp 4] fun B => ?_
 refine fsq 0 rfl fun hlr => ?_
 refine fsq 1 rfl fun hls => ?_
 simp only [List.length_map, maxLen] at hlr hls
 repeat' (first | refine kz ?_ | refine Au rfl (fun hb => ?_) (fun hb => ?_) | refine ki ?_ | refine kf ?_ | fail)
 have hm : (if (s.length : Int) < r.length then (s.length : Int) else r.length) = (min r.length s.length : Nat) := by
  split <;> omega
 simp only [hm]
 generalize hmn : min r.length s.length = m
 refine AO (X := Nat) [4, 5, 6, 12, 13, 14, 15, 16, 17, 18, 19, 20, 21, 22, 23, 24, 25, 26, 27] (fun x => x ≤ m ∧ Ak r s = Ak (r.drop x) (s.drop x)) (fun x lz => (12, (.c (.d (.lit (.int .i64 x))))) :: lz) (fun x => []) (fun x => m - x) (0) ?_ ?_ ?_ ?_
 repeat' (first | exact k0 | refine kw ?_ | omega)
 ·exact ⟨by simp, by simp⟩
 rintro i c ⟨hi, hinv⟩
 by_cases hlt : i < m
 ·have hv : r[i]? = some r[i] := List.getElem?_eq_getElem (by omega)
  generalize r[i] = a at hv
  have hu : s[i]? = some s[i] := List.getElem?_eq_getElem (by omega)
  generalize s[i] = b at hu
  rw [AD hv, AD hu, Ak] at hinv
  repeat' (first | refine kz ?_ | refine Au rfl (fun hb => ?_) (fun hb => ?_) | refine kx hv ?_ | refine kx hu ?_ | refine ki ?_ | refine Aa (H2 _ _) ?_ | refine kf ?_ | fail)
  ·rw [hinv, if_neg hb]
  ·(apply Ae (i + 1); all_goals (try dsimp only); all_goals (try (repeat' (first | exact k0 | refine kw ?_ | omega))))
   try exact ⟨by omega, by rw [hinv, if_pos hb]⟩
 ·have he : Ak r s = Gy r.length s.length := by
   rw [hinv, J9 _ _ (by simp only [List.drop_eq_nil_iff]; omega)]
   simp only [List.length_drop, Gy]
   (repeat' split) <;> omega
  repeat' (first | refine kz ?_ | refine Au rfl (fun hb => ?_) (fun hb => ?_) | refine ki ?_ | refine Aa (Ow _ _) ?_ | refine kf ?_ | fail)
  all_goals (rw [he])
end Go.Proofs.YtmpgmjlanngkfaaGreat
end
section
namespace Go.Proofs.YtmpgmjlanngkfaaGreat
open Go.Abs Go.RowKit
attribute [local irreducible] ARun At MCall PCall HCall Am SF CF CFs Ah Aj Ar fin AW VLe
set_option linter.unusedSimpArgs false
set_option maxRecDepth 100000
set_option maxHeartbeats 4000000
def IX (z : Int) : UInt8 := UInt8.ofNat (z.emod 256).toNat
theorem Ia (z : Int) : IntKind.u8.wrap z = ((IX z).toNat : Nat) := by
 have h1 := Int.emod_nonneg z (show (256 : Int) ≠ 0 by decide)
 have h2 := Int.emod_lt_of_pos z (show (0 : Int) < 256 by decide)
 have e : (IX z).toNat = (z.emod 256).toNat := by
  unfold IX
  rw [UInt8.toNat_ofNat']
  have : (z.emod 256).toNat < 256 := by
   have : z.emod 256 = z % 256 := rfl
   omega
  omega
 rw [e]
 have : z.emod 256 = z % 256 := rfl
 simp [IntKind.wrap, IntKind.bits, IntKind.signed]
 omega
def Bm (n : Int) : List UInt8 := [2, IX (Cq .i64 n 32), IX (Cq .i64 n 24), IX (Cq .i64 n 16), IX (Cq .i64 n 8), IX n]
def D3 (b : UInt8) : List UInt8 := if b = 0 then [0, 255] else [b]
def Cv (l : List UInt8) : List UInt8 := l.flatMap D3
def AJ (v : Val) : List UInt8 :=
 if v.kind = 1 then Bm (v.int + 4294967296)
 else if v.kind = 2 then 3 :: (Cv v.text.data.toList ++ [0, 0])
 else [1]
theorem M9 {l : List UInt8} {i : Nat} {b : UInt8} (h : l[i]? = some b) : Cv (l.take (i + 1)) = Cv (l.take i) ++ D3 b := by
 rw [List.take_add_one, h, Cv, Cv, List.flatMap_append]
 simp
theorem LN (l : List UInt8) : (Cv l).length ≤ 2 * l.length := by
 induction l with
 | nil => simp [Cv]
 | cons b l ih =>
   have : Cv (b :: l) = D3 b ++ Cv l := by simp [Cv]
   rw [this, List.length_append, List.length_cons]
   have : (D3 b).length ≤ 2 := by unfold D3; split <;> simp
   omega
theorem JF (v : Val) (h : v.valid = true) : (AJ v).length ≤ 80 := by
 unfold AJ
 split
 ·simp [Bm]
 ·split
  ·rename_i h1 h2
   have hs : v.text.size ≤ 32 := by
    unfold Val.valid at h
    rw [if_neg (by omega), if_neg h1, if_pos h2] at h
    simp at h
    exact h.2
   have := LN v.text.data.toList
   have e : v.text.data.toList.length = v.text.size := by simp
   simp only [List.length_cons, List.length_append, List.length_nil]
   omega
  ·simp
theorem Ki (out : List UInt8) (v : Val) (ho : out.length ≤ 1000000) (hv : v.valid = true) :
  HCall Tryz.prog 176 [.c (.arr 0 0 out.length), .agg (v.d.map .d)] [.arr 0 5 1 (out.map Mg)] (.c (.arr 0 1 (out ++ AJ v).length)) [.arr 1 5 1 ((out ++ AJ v).map Mg)] := by
 by_cases hk1 : v.kind = 1
 ·have hb1 : -4294967296 ≤ v.int ∧ v.int ≤ 4294967296 := by
   unfold Val.valid at hv
   rw [if_neg (by omega), if_pos hk1] at hv
   simp at hv
   exact ⟨hv.1.1, hv.1.2⟩
  obtain ⟨hb1, hb2⟩ := hb1
  have he : AJ v = Bm (v.int + 4294967296) := by rw [AJ, if_pos hk1]
  refine As hT Tryz.func176 Tryz.ntmps176 [.tmp 4] fun B => ?_
  repeat' (first | refine kz ?_ | refine Au rfl (fun hb => ?_) (fun hb => ?_) | refine ki ?_ | refine kg ?_ ?_ | exact k0 | refine m1 ?_ ?_ | refine JO ?_)
  ·rw [he, List.map_append]
   simp only [Ia, Bm, List.map_cons, List.map_nil, Mg]
   rfl
  ·rw [he]; simp [Bm]
 ·by_cases hk2 : v.kind = 2
  ·have hs : v.text.size ≤ 32 := by
    unfold Val.valid at hv
    rw [if_neg (by omega), if_neg hk1, if_pos hk2] at hv
    simp at hv
    exact hv.2
   have he : AJ v = 3 :: (Cv v.text.data.toList ++ [0, 0]) := by rw [AJ, if_neg hk1, if_pos hk2]
   have hl : v.text.data.toList.length = v.text.size := by simp
   generalize hL : v.text.data.toList = l at he hl
   refine As hT Tryz.func176 Tryz.ntmps176 [.tmp 4] fun B => ?_
   repeat' (first | refine kz ?_ | refine Au rfl (fun hb => ?_) (fun hb => ?_) | refine ki ?_ | refine kg ?_ ?_ | exact k0 | refine m1 ?_ ?_ | refine JO ?_)
   rw [hL]
   refine AO (X := Nat × Nat) [0, 7, 41, 42, 43, 44, 45, 46, 47, 48, 49, 50, 51, 52, 53, 54] (fun x => x.1 ≤ l.length) (fun x lz => (0, .c (.arr 0 x.2 (out ++ 3 :: Cv (l.take x.1)).length)) :: (41, (.c (.d (.lit (.int .i64 x.1))))) :: lz) (fun x => [.arr x.2 5 1 ((out ++ 3 :: Cv (l.take x.1)).map Mg)]) (fun x => l.length - x.1) ((0, 2)) ?_ ?_ ?_ ?_
   repeat' (first | exact k0 | refine kw ?_ | refine kv ?_ ?_ | omega)
   ·simp [Cv]
   ·simp [Cv]; rfl
   rintro ⟨i, k⟩ c hi
   dsimp only at hi ⊢
   have hel := LN (l.take i)
   have htl : (l.take i).length = i := by simp; omega
   by_cases hlt : i < l.length
   ·have hv : l[i]? = some l[i] := List.getElem?_eq_getElem hlt
    generalize l[i] = b at hv
    have hsn := M9 hv
    repeat' (first | refine kz ?_ | refine Au rfl (fun hb => ?_) (fun hb => ?_) | refine kx hv ?_ | refine ki ?_ | refine kg ?_ ?_ | exact k0 | refine m1 ?_ ?_ | refine JO ?_)
    ·have hb0 : b = 0 := by apply UInt8.toNat_inj.1; simpa using hb
     subst hb0
     (apply Ae ((i + 1, _)); all_goals (try dsimp only); all_goals (try (repeat' (first | exact k0 | refine w1 ?_ | refine w5 ?_ ?_ | refine m1 ?_ ?_ | omega))))
     · rw [hsn]; simp [D3]; omega
     · rw [hsn]; simp [D3, Mg]
    ·have hb0 : ¬ b = 0 := by intro q; subst q; exact hb rfl
     (apply Ae ((i + 1, _)); all_goals (try dsimp only); all_goals (try (repeat' (first | exact k0 | refine w1 ?_ | refine w5 ?_ ?_ | refine m1 ?_ ?_ | omega))))
     · rw [hsn]; simp [D3, hb0]; omega
     · rw [hsn]; simp [D3, Mg, hb0]
   ·repeat' (first | refine kz ?_ | refine Au rfl (fun hb => ?_) (fun hb => ?_) | refine ki ?_ | refine kg ?_ ?_ | exact k0 | refine m1 ?_ ?_ | refine JO ?_)
    ·rw [he, Ag (by omega)]; simp [Mg]
    ·rw [he, Ag (by omega)]; simp; omega
  ·have he : AJ v = [1] := by rw [AJ, if_neg hk1, if_neg hk2]
   refine As hT Tryz.func176 Tryz.ntmps176 [.tmp 4] fun B => ?_
   repeat' (first | refine kz ?_ | refine Au rfl (fun hb => ?_) (fun hb => ?_) | refine ki ?_ | refine kg ?_ ?_ | exact k0 | refine m1 ?_ ?_ | refine JO ?_)
   ·rw [he, List.map_append]; rfl
   ·rw [he]; simp
def Ao (r : List Val) : List UInt8 := r.flatMap fun v => AJ v.clean
theorem E7 (v : Val) : v.clean.valid = true := by
 unfold Val.clean
 split
 ·assumption
 ·simp [Val.null, Val.valid, ByteArray.toList_eq]
theorem Na {r : List Val} {i : Nat} {v : Val} (h : r[i]? = some v) : Ao (r.take (i + 1)) = Ao (r.take i) ++ AJ v.clean := by
 rw [List.take_add_one, h, Ao, Ao, List.flatMap_append]
 simp
theorem GV (r : List Val) : (Ao r).length ≤ 80 * r.length := by
 induction r with
 | nil => simp [Ao]
 | cons v r ih =>
   have : Ao (v :: r) = AJ v.clean ++ Ao r := by simp [Ao]
   rw [this, List.length_append, List.length_cons]
   have := JF v.clean (E7 v)
   omega
theorem Cl (r : List Val) (hr : r.length ≤ 10000) : PCall Tryz.prog 114 [.one (AU r)] (.v (.one (.lit (.string ⟨(Ao r).toArray⟩)))) := by
 refine Ac hT Tryz.func114 Tryz.ntmps114 [.tmp 2] fun B => ?_
 repeat' (first | refine kz ?_ | refine ki ?_ | refine kf ?_ | fail)
 refine BA 3 5 1 ?_
 refine AO (X := Nat × Nat) [3, 5, 8, 9, 10, 11, 12, 13, 14, 15, 16] (fun x => x.1 ≤ r.length) (fun x lz => (3, .c (.arr 0 x.2 (Ao (r.take x.1)).length)) :: (8, (.c (.d (.lit (.int .i64 x.1))))) :: lz) (fun x => [.arr x.2 5 1 ((Ao (r.take x.1)).map Mg)]) (fun x => r.length - x.1) ((0, 1)) ?_ ?_ ?_ ?_
 repeat' (first | exact k0 | refine kw ?_ | refine kv ?_ ?_ | omega)
 rintro ⟨i, k⟩ c hi
 dsimp only at hi ⊢
 have hel := GV (r.take i)
 have htl : (r.take i).length = i := by simp; omega
 by_cases hlt : i < r.length
 ·have hv : r[i]? = some r[i] := List.getElem?_eq_getElem hlt
  generalize r[i] = v at hv
  have hsn := Na hv
  repeat' (first | refine kz ?_ | refine kx hv ?_ | refine ki ?_ | refine Aa (HO _) ?_ | refine Ad [0] (Ki (Ao (r.take i)) v.clean (by omega) (E7 v)) ?_ | refine kf ?_ | fail)
  (apply Ae ((i + 1, _)); all_goals (try dsimp only); all_goals (try (repeat' (first | exact k0 | refine w1 ?_ | refine w5 ?_ ?_ | refine Ab ?_ | refine m1 ?_ ?_ | omega))))
  all_goals rw [hsn]
 ·repeat' (first | refine kz ?_ | refine ki ?_ | refine kf ?_ | fail)
  all_goals (rw [Ag (by omega)])
end Go.Proofs.YtmpgmjlanngkfaaGreat
end
section
namespace Go.Proofs.YtmpgmjlanngkfaaGreat
open Go.Abs Go.RowKit
set_option linter.unusedSimpArgs false
structure CmpOk {α κ : Type} (f : α → α → Int) (key : α → κ) : Prop where
 zero : ∀ a b, f a b = 0 ↔ key a = key b
 anti : ∀ a b, f b a < 0 ↔ 0 < f a b
 trans : ∀ a b c, f a b < 0 → f b c < 0 → f a c < 0
namespace CmpOk
variable {α κ : Type} {f : α → α → Int} {key : α → κ} (h : CmpOk f key)
include h
theorem refl (a : α) : f a a = 0 := (h.zero a a).2 rfl
theorem left {a a' b : α} (e : key a = key a') (hb : f a b < 0) : f a' b < 0 := by
 have h0 := (h.zero a a').2 e
 rcases Int.lt_trichotomy (f a' b) 0 with q | q | q
 ·exact q
 ·have := (h.zero a' b).1 q
  have := (h.zero a b).2 (e.trans this)
  omega
 ·have := h.trans a b a' hb ((h.anti a' b).2 q)
  omega
theorem right {a b b' : α} (e : key b = key b') (hb : f a b < 0) : f a b' < 0 := by
 have h0 := (h.zero b b').2 e
 rcases Int.lt_trichotomy (f a b') 0 with q | q | q
 ·exact q
 ·have := (h.zero a b').1 q
  have := (h.zero a b).2 (this.trans e.symm)
  omega
 ·have := h.trans b' a b ((h.anti a b').2 q) hb
  have := (h.zero b' b).2 e.symm
  omega
theorem swo : Go.Sort.SWO (Go.Proofs.ltOf f) where
 irrefl x := by have := h.refl x; simp [Go.Proofs.ltOf, this]
 trans x y z h1 h2 := by
  simp only [Go.Proofs.ltOf, decide_eq_true_eq] at *
  exact h.trans x y z h1 h2
 ntrans x y z h1 h2 := by
  simp only [Go.Proofs.ltOf, decide_eq_false_iff_not] at *
  intro q
  have hyz : f z y ≤ 0 := by
   by_cases w : 0 < f z y
   ·exact absurd ((h.anti z y).2 w) h2
   ·omega
  rcases Int.lt_or_eq_of_le hyz with w | w
  ·exact h1 (h.trans x z y q w)
  ·exact h1 (h.right ((h.zero z y).1 w) q)
end CmpOk
theorem CmpOk.comp {α β κ : Type} {f : α → α → Int} {key : α → κ} (h : CmpOk f key) (g : β → α) : CmpOk (fun x y => f (g x) (g y)) (fun x => key (g x)) :=
 ⟨fun _ _ => h.zero _ _, fun _ _ => h.anti _ _, fun _ _ _ => h.trans _ _ _⟩
theorem EB {α : Type} {R : α → α → Prop} (hirr : ∀ a, ¬ R a a) (htr : ∀ a b c, R a b → R b c → R a c) : ∀ {l m : List α}, l.Pairwise R → m.Pairwise R → (∀ x, x ∈ l ↔ x ∈ m) → l = m
 | [], [], _, _, _ => rfl
 | [], b :: m, _, _, h => by have := (h b).2 (by simp); simp at this
 | a :: l, [], _, _, h => by have := (h a).1 (by simp); simp at this
 | a :: l, b :: m, hl, hm, h => by
   obtain ⟨l1, l2⟩ := List.pairwise_cons.1 hl
   obtain ⟨m1, m2⟩ := List.pairwise_cons.1 hm
   have hab : a = b := by
    rcases List.mem_cons.1 ((h a).1 (by simp)) with q | q
    ·exact q
    ·rcases List.mem_cons.1 ((h b).2 (by simp)) with p | p
     ·exact p.symm
     ·exact absurd (htr _ _ _ (m1 a q) (l1 b p)) (hirr b)
   subst hab
   rw [EB hirr htr l2 m2 fun x => ?_]
   constructor
   ·intro hx
    rcases List.mem_cons.1 ((h x).1 (by simp [hx])) with q | q
    ·subst q; exact absurd (l1 x hx) (hirr x)
    ·exact q
   ·intro hx
    rcases List.mem_cons.1 ((h x).2 (by simp [hx])) with q | q
    ·subst q; exact absurd (m1 x hx) (hirr x)
    ·exact q
theorem Le : ∀ l : List UInt8, Op.bytesLess l l = false
 | [] => rfl
 | a :: l => by simp [Op.bytesLess, Le l]
theorem N5 : ∀ {x y z : List UInt8}, Op.bytesLess x y = true → Op.bytesLess y z = true → Op.bytesLess x z = true
 | [], [], _, h, _ => by simp [Op.bytesLess] at h
 | [], _ :: _, [], _, h => by simp [Op.bytesLess] at h
 | [], _ :: _, _ :: _, _, _ => by simp [Op.bytesLess]
 | _ :: _, [], _, h, _ => by simp [Op.bytesLess] at h
 | _ :: _, _ :: _, [], _, h => by simp [Op.bytesLess] at h
 | a :: x, b :: y, c :: z, h1, h2 => by
   have ih := @N5 x y z
   simp only [Op.bytesLess, Bool.or_eq_true, Bool.and_eq_true, decide_eq_true_eq, beq_iff_eq, UInt8.lt_iff_toNat_lt] at h1 h2 ⊢
   rcases h1 with h1 | ⟨rfl, h1⟩
   ·rcases h2 with h2 | ⟨rfl, _⟩
    ·exact .inl (by omega)
    ·exact .inl h1
   ·rcases h2 with h2 | ⟨rfl, h2⟩
    ·exact .inl h2
    ·exact .inr ⟨rfl, ih h1 h2⟩
theorem N6 : ∀ {x y : List UInt8}, Op.bytesLess x y = false → Op.bytesLess y x = false → x = y
 | [], [], _, _ => rfl
 | [], _ :: _, h, _ => by simp [Op.bytesLess] at h
 | _ :: _, [], _, h => by simp [Op.bytesLess] at h
 | a :: x, b :: y, h1, h2 => by
   have ih := @N6 x y
   simp only [Op.bytesLess, Bool.or_eq_false_iff, decide_eq_false_iff_not, UInt8.lt_iff_toNat_lt] at h1 h2
   have hab : a = b := by
    apply UInt8.toNat_inj.1
    omega
   subst hab
   rw [ih (by simpa using h1.2) (by simpa using h2.2)]
theorem Gt {a b : ByteArray} (h : a.toList = b.toList) : a = b := by
 rw [ByteArray.toList_eq, ByteArray.toList_eq] at h
 cases a; cases b
 simp only at h
 congr 1
 exact Array.ext' h
theorem F4 {x y : Val} : x.same y = true ↔ x = y := by
 constructor
 ·intro h
  simp only [Val.same, Bool.and_eq_true, beq_iff_eq] at h
  cases x; cases y
  simp only at h
  rw [h.1, h.2.1, Gt h.2.2]
 ·rintro rfl
  simp [Val.same]
theorem F5 (x : Val) : x.less x = false := by
 simp [Val.less, Le]
theorem F6 {x y : Val} (hx : x.valid = true) (hy : y.valid = true) : x.less y = true ↔ x.kind < y.kind ∨ (x.kind = y.kind ∧ (x.int < y.int ∨ (x.int = y.int ∧ Op.bytesLess x.text.toList y.text.toList = true))) := by
 simp only [Val.less, Bool.or_eq_true, Bool.and_eq_true, decide_eq_true_eq, beq_iff_eq]
 constructor
 ·rintro (h | ⟨h1, h2 | h2⟩)
  ·exact .inl h
  ·exact .inr ⟨h1, .inl h2⟩
  ·by_cases hk : x.kind = 2
   ·exact .inr ⟨h1, .inr ⟨by rw [DQ hx (by omega), DQ hy (by omega)], h2⟩⟩
   ·rw [C5 hx hk, C5 hy (by omega)] at h2
    simp [Op.bytesLess] at h2
 ·rintro (h | ⟨h1, h2 | ⟨_, h2⟩⟩)
  ·exact .inl h
  ·exact .inr ⟨h1, .inl h2⟩
  ·exact .inr ⟨h1, .inr h2⟩
theorem J3 {x y z : Val} (hx : x.valid = true) (hy : y.valid = true) (hz : z.valid = true) (h1 : x.less y = true) (h2 : y.less z = true) : x.less z = true := by
 rw [F6 hx hy] at h1
 rw [F6 hy hz] at h2
 rw [F6 hx hz]
 rcases h1 with h1 | ⟨h1, h1' | ⟨h1', h1''⟩⟩
 ·rcases h2 with h2 | ⟨h2, _⟩
  ·exact .inl (by omega)
  ·exact .inl (by omega)
 ·rcases h2 with h2 | ⟨h2, h2' | ⟨h2', _⟩⟩
  ·exact .inl (by omega)
  ·exact .inr ⟨by omega, .inl (by omega)⟩
  ·exact .inr ⟨by omega, .inl (by omega)⟩
 ·rcases h2 with h2 | ⟨h2, h2' | ⟨h2', h2''⟩⟩
  ·exact .inl (by omega)
  ·exact .inr ⟨by omega, .inl (by omega)⟩
  ·exact .inr ⟨by omega, .inr ⟨by omega, N5 h1'' h2''⟩⟩
theorem Po {x y : Val} (hx : x.valid = true) (hy : y.valid = true) (h1 : x.less y = false) (h2 : y.less x = false) : x = y := by
 have n1 : ¬ x.less y = true := by simp [h1]
 have n2 : ¬ y.less x = true := by simp [h2]
 rw [F6 hx hy] at n1
 rw [F6 hy hx] at n2
 have hk : x.kind = y.kind := by omega
 have hi : x.int = y.int := by omega
 have ht : x.text = y.text := by
  apply Gt
  apply N6
  ·cases hq : Op.bytesLess x.text.toList y.text.toList with
   | false => rfl
   | true => exact absurd (.inr ⟨hk, .inr ⟨hi, hq⟩⟩) n1
  ·cases hq : Op.bytesLess y.text.toList x.text.toList with
   | false => rfl
   | true => exact absurd (.inr ⟨hk.symm, .inr ⟨hi.symm, hq⟩⟩) n2
 cases x; cases y
 simp only at hk hi ht
 rw [hk, hi, ht]
theorem cmp_ok : CmpOk Val.cmp Val.clean := by
 have lt : ∀ a b : Val, a.cmp b < 0 ↔ a.clean.less b.clean = true := by
  intro a b
  unfold Val.cmp
  split
  ·rename_i h
   rw [F4] at h
   rw [h, F5]
   simp
  ·split <;> simp_all
 refine ⟨fun a b => ?_, fun a b => ?_, fun a b c h1 h2 => ?_⟩
 ·rw [← F4]
  unfold Val.cmp
  split
  ·simp_all
  ·split <;> simp_all
 ·rw [lt]
  unfold Val.cmp
  by_cases hs : a.clean = b.clean
  ·rw [if_pos (F4.2 hs), hs, F5]; simp
  ·rw [if_neg (fun q => hs (F4.1 q))]
   split
   ·rename_i h
    constructor
    · intro q
      have := J3 (AR _) (AR _) (AR _) h q
      rw [F5] at this
      cases this
    · intro q; omega
   ·rename_i h
    simp only [Int.reduceLT, iff_true]
    cases hq : b.clean.less a.clean with
    | true => rfl
    | false => exact absurd (Po (AR _) (AR _) (by simpa using h) hq) hs
 ·rw [lt] at *
  exact J3 (AR _) (AR _) (AR _) h1 h2
theorem rowCmp_ok : CmpOk Ak (fun r => r.map Val.clean) := by
 have hz : ∀ r s : List Val, Ak r s = 0 ↔ r.map Val.clean = s.map Val.clean := by
   intro r
   induction r with
   | nil => intro s; cases s <;> simp [Ak]
   | cons a r ih =>
     intro s
     cases s with
     | nil => simp [Ak]
     | cons b s =>
       simp only [Ak, List.map_cons, List.cons.injEq]
       by_cases h : a.cmp b = 0
       ·rw [if_pos h, ih s]
        exact ⟨fun q => ⟨(cmp_ok.zero a b).1 h, q⟩, fun q => q.2⟩
       ·rw [if_neg h]
        exact ⟨fun q => absurd q h, fun q => absurd ((cmp_ok.zero a b).2 q.1) h⟩
 have ha : ∀ r s : List Val, Ak s r < 0 ↔ 0 < Ak r s := by
   intro r
   induction r with
   | nil => intro s; cases s <;> simp [Ak]
   | cons a r ih =>
     intro s
     cases s with
     | nil => simp [Ak]
     | cons b s =>
       simp only [Ak]
       by_cases h : a.cmp b = 0
       ·rw [if_pos h, if_pos ((cmp_ok.zero b a).2 ((cmp_ok.zero a b).1 h).symm)]
        exact ih s
       ·rw [if_neg h, if_neg (fun q => h ((cmp_ok.zero a b).2 ((cmp_ok.zero b a).1 q).symm))]
        exact cmp_ok.anti a b
 refine ⟨hz, ha, ?_⟩
 intro r
 induction r with
 | nil =>
   intro s t h1 h2
   cases t with
   | nil => cases s <;> simp [Ak] at h1 h2
   | cons c t => simp [Ak]
 | cons a r ih =>
   intro s t h1 h2
   cases s with
   | nil => simp [Ak] at h1
   | cons b s =>
     cases t with
     | nil => simp [Ak] at h2
     | cons c t =>
       simp only [Ak] at h1 h2 ⊢
       by_cases hab : a.cmp b = 0
       ·rw [if_pos hab] at h1
        by_cases hbc : b.cmp c = 0
        ·rw [if_pos hbc] at h2
         rw [if_pos ((cmp_ok.zero a c).2 (((cmp_ok.zero a b).1 hab).trans ((cmp_ok.zero b c).1 hbc)))]
         exact ih s t h1 h2
        ·rw [if_neg hbc] at h2
         have := cmp_ok.left ((cmp_ok.zero a b).1 hab).symm h2
         rw [if_neg (by omega)]; exact this
       ·rw [if_neg hab] at h1
        by_cases hbc : b.cmp c = 0
        ·have := cmp_ok.right ((cmp_ok.zero b c).1 hbc) h1
         rw [if_neg (by omega)]; exact this
        ·rw [if_neg hbc] at h2
         have := cmp_ok.trans a b c h1 h2
         rw [if_neg (by omega)]; exact this
def YY {α : Type} (lt : α → α → Bool) (p : α) : List α → List α → List α
 | [], B => p :: B
 | q :: A, B => if lt p q then YY lt p A (q :: B) else A.reverse ++ q :: p :: B
def aB {α : Type} (lt : α → α → Bool) (p : α) (l : List α) : List α := YY lt p l.reverse []
end Go.Proofs.YtmpgmjlanngkfaaGreat
end
section
namespace Go.Proofs.YtmpgmjlanngkfaaGreat
open Go.Abs Go.RowKit
attribute [local irreducible] ARun At MCall PCall HCall Am SF CF CFs Ah Aj Ar fin AW VLe
set_option linter.unusedSimpArgs false
set_option maxRecDepth 100000
set_option maxHeartbeats 4000000
structure Trm where
 op : Int
 v : Val
 col : Int
def Trm.d (t : Trm) : List Dat := [.lit (.int .i64 t.op), .lit (.int .i64 t.v.kind), .lit (.int .i64 t.v.int), .lit (.string t.v.text), .lit (.int .i64 t.col)]
def AK (e : List Trm) : Dat := .sl (e.map Trm.d)
def D6 (op : Int) : Int :=
 if op = 1 ∨ op = 2 then 0
 else if op = 3 ∨ op = 9 ∨ op = 13 ∨ op = 16 then 1
 else if op = 18 then 3
 else if 1 ≤ op ∧ op ≤ 18 then 2
 else -1
theorem Hu (op : Int) : -1 ≤ D6 op ∧ D6 op ≤ 3 := by
 unfold D6
 split
 ·omega
 split
 ·omega
 split
 ·omega
 split <;> omega
theorem LS (op : Int) : PCall Tryz.prog 156 [.one (.lit (.int .i64 op))] (.v (.one (.lit (.int .i64 (D6 op))))) := by
 refine Ac hT Tryz.func156 Tryz.ntmps156 [.tmp 2] fun B => ?_
 repeat' (first | refine kz ?_ | refine Au rfl (fun hb => ?_) (fun hb => ?_) | refine kf ?_ | fail)
 all_goals (refine congrArg Dat.lit (congrArg (Value.int _) ?_); unfold D6; simp_all)
 all_goals omega
theorem JI (op : Int) : PCall Tryz.prog 72 [.one (.lit (.int .i64 op))] (.v (.one (.lit (.int .i64 (D6 op))))) := by
 refine Ac hT Tryz.func72 Tryz.ntmps72 [.tmp 2] fun B => ?_
 repeat' (first | refine kz ?_ | refine Au rfl (fun hb => ?_) (fun hb => ?_) | refine Ai rfl rfl (fun hb => ?_) (fun hb => ?_) | refine kf ?_ | fail)
 all_goals (refine congrArg Dat.lit (congrArg (Value.int _) ?_); unfold D6; simp_all)
 all_goals omega
def CS (t : Trm) : Bool :=
 if t.op = 1 then decide (t.col = 0) && decide (t.v.kind ≠ 0) && t.v.valid
 else if t.op = 2 then decide (0 ≤ t.col) && t.v.same Val.null
 else decide (t.col = 0) && t.v.same Val.null
def CD (t : Trm) : Bool := decide (0 ≤ D6 t.op) && CS t
theorem Ns (v : Val) : v.same Val.null = ((v.kind == 0) && ((v.int == 0) && v.text.toList.isEmpty)) := by
 rw [Val.same, ← EV]; rfl
theorem I5 (a b : Int) : (a == b) = decide (a = b) := by
 rw [Bool.eq_iff_iff]; simp
theorem Nt (t : Trm) : PCall Tryz.prog 265 [.agg t.d] (.v (.one (.lit (.bool (CS t))))) := by
 have h1 := Hc t.v
 refine Ac hT Tryz.func265 Tryz.ntmps265 [.tmp 2] fun B => ?_
 repeat' (first | refine kz ?_ | refine Au rfl (fun hb => ?_) (fun hb => ?_) | refine Aa (h1) ?_ | refine Ai rfl rfl (fun hb => ?_) (fun hb => ?_) | refine kf ?_ | fail)
 all_goals (refine congrArg Dat.lit (congrArg Value.bool ?_); unfold CS; simp_all [Ns, EV, Cb, Iv])
 all_goals exact I5 _ _
theorem Nu (t : Trm) : PCall Tryz.prog 203 [.agg t.d] (.v (.one (.lit (.bool (CD t))))) := by
 have h1 := Ja t.v
 have h2 := LS t.op
 refine Ac hT Tryz.func203 Tryz.ntmps203 [.tmp 2] fun B => ?_
 repeat' (first | refine kz ?_ | refine Au rfl (fun hb => ?_) (fun hb => ?_) | refine Aa (h1) ?_ | refine Aa (h2) ?_ | refine Ai rfl rfl (fun hb => ?_) (fun hb => ?_) | refine kf ?_ | fail)
 all_goals (refine congrArg Dat.lit (congrArg Value.bool ?_); unfold CD CS; simp_all [Ns, EV, Cb, Iv])
 all_goals first | exact I5 _ _ | (intros; omega)
end Go.Proofs.YtmpgmjlanngkfaaGreat
end
