/-
  The byte form of values and rows.
-/
import Derived.Test.YtojfhaoleedmkaaGreatCmp
section
namespace Go.Proofs.YtojfhaoleedmkaaGreat
open Go.Abs Go.RowKit
attribute [local irreducible] ARun kont MCall PCall HCall resVal SF CF CFs defersOk slotsIn memIn fin finM VLe
set_option linter.unusedSimpArgs false
set_option maxRecDepth 100000
def rowD (r : List Val) : Dat := .sl (r.map Val.d)
theorem take_all {α : Type} (p : α → Bool) {l : List α} {i : Nat} {v : α} (hv : l[i]? = some v) (h : (l.take i).all p = true) (hp : p v = true) : (l.take (i + 1)).all p = true := by
  rw [List.take_add_one, List.all_append, h, hv]
  simp [hp]
theorem not_all {α : Type} (p : α → Bool) {l : List α} {i : Nat} {v : α} (hv : l[i]? = some v) (hp : p v = false) : l.all p = false := by
  rw [List.all_eq_false]
  exact ⟨v, List.mem_of_getElem? hv, by simp [hp]⟩
theorem drop_cons {α : Type} {l : List α} {i : Nat} {v : α} (h : l[i]? = some v) : l.drop i = v :: l.drop (i + 1) := by
  have hlt := lt_of_getElem? h
  rw [List.drop_eq_getElem_cons hlt]
  rw [List.getElem?_eq_getElem hlt] at h
  simp at h
  rw [h]
theorem take_map {α β : Type} (f : α → β) {l : List α} {i : Nat} {v : α} (hv : l[i]? = some v) : (l.take (i + 1)).map f = (l.take i).map f ++ [f v] := by
  rw [List.take_add_one, List.map_append, hv]
  rfl
theorem take_ge {α : Type} {l : List α} {i : Nat} (h : l.length ≤ i) : l.take i = l := List.take_of_length_le h
def rowOK (r : List Val) : Bool := decide (r.length ≤ 16) && r.all Val.valid
theorem validRow_c (r : List Val) : PCall Tryz.prog 80 [.one (rowD r)] (.v (.one (.lit (.bool (rowOK r))))) := by
  refine pcallN hT Tryz.func80 Tryz.ntmps80 [.tmp 2] fun B => ?_
  repeat' (first | refine ks ?_ | refine ko ?_ | refine s_if rfl (fun hb => ?_) (fun hb => ?_) | refine s_indexD ?_ (hel := (by first | exact rfl)) | refine f_ret1 def_nil ?_ | refine t_tmp ?_)
  · refine congrArg Dat.lit (congrArg Value.bool ?_)
    simp [rowOK]
    intros; omega
  · have hl : r.length ≤ 16 := by omega
    refine s_lp (X := Nat) [2, 4, 10, 11, 12, 13, 14, 15, 16, 17] (fun x => x ≤ r.length ∧ (r.take x).all Val.valid = true) (fun x lz => (10, (.c (.d (.lit (.int .i64 x))))) :: lz) (fun x => []) (fun x => r.length - x) (0) ?_ ?_ ?_ ?_
    repeat' (first | exact slots_nil | refine kw ?_ | exact memIn_nil | omega)
    · exact ⟨by simp, by simp⟩
    rintro i c ⟨hi, hinv⟩
    by_cases hlt : i < r.length
    · have hv : r[i]? = some r[i] := List.getElem?_eq_getElem hlt
      generalize r[i] = v at hv
      repeat' (first | refine ks ?_ | refine ko ?_ | refine s_if rfl (fun hb => ?_) (fun hb => ?_) | refine s_indexD ?_ (hel := (by first | exact idx_map hv (by omega) | exact hv | exact rfl)) | refine s_call (valid_c _) ?_ | refine f_ret1 def_nil ?_ | refine t_tmp ?_)
      · refine congrArg Dat.lit (congrArg Value.bool ?_)
        rw [rowOK, not_all Val.valid hv hb, Bool.and_false]
      · (apply s_round (i + 1); all_goals (try dsimp only); all_goals (try (repeat' (first | exact slots_nil | refine kw ?_ | exact memIn_nil | omega))))
        exact ⟨by omega, take_all _ hv hinv hb⟩
    · repeat' (first | refine ks ?_ | refine ko ?_ | refine s_if rfl (fun hb => ?_) (fun hb => ?_) | refine s_indexD ?_ (hel := (by first | exact rfl)) | refine f_ret1 def_nil ?_ | refine t_tmp ?_)
      refine congrArg Dat.lit (congrArg Value.bool ?_)
      rw [take_ge (by omega)] at hinv
      simp [rowOK, hinv, hl]
theorem refValidRow_c (r : List Val) : PCall Tryz.prog 85 [.one (rowD r)] (.v (.one (.lit (.bool (rowOK r))))) := by
  refine pcallN hT Tryz.func85 Tryz.ntmps85 [.tmp 2] fun B => ?_
  repeat' (first | refine ks ?_ | refine ko ?_ | refine s_if rfl (fun hb => ?_) (fun hb => ?_) | refine s_indexD ?_ (hel := (by first | exact rfl)) | refine f_ret1 def_nil ?_ | refine t_tmp ?_)
  · refine congrArg Dat.lit (congrArg Value.bool ?_)
    simp [rowOK]
    intros; omega
  · have hl : r.length ≤ 16 := by omega
    refine s_lp (X := Nat) [2, 3, 7, 8, 9, 10, 11, 12, 13, 14, 15, 16, 17, 18] (fun x => x ≤ r.length ∧ (r.take x).all Val.valid = true) (fun x lz => (3, (.c (.d (.lit (.int .i64 x))))) :: lz) (fun x => []) (fun x => r.length - x) (0) ?_ ?_ ?_ ?_
    repeat' (first | exact slots_nil | refine kw ?_ | exact memIn_nil | omega)
    · exact ⟨by simp, by simp⟩
    rintro i c ⟨hi, hinv⟩
    by_cases hlt : i < r.length
    · have hv : r[i]? = some r[i] := List.getElem?_eq_getElem hlt
      generalize r[i] = v at hv
      repeat' (first | refine ks ?_ | refine ko ?_ | refine s_if rfl (fun hb => ?_) (fun hb => ?_) | refine s_indexD ?_ (hel := (by first | exact idx_map hv (by omega) | exact hv | exact rfl)) | refine s_call (refValid_c _) ?_ | refine f_ret1 def_nil ?_ | refine t_tmp ?_)
      · refine congrArg Dat.lit (congrArg Value.bool ?_)
        rw [rowOK, not_all Val.valid hv hb, Bool.and_false]
      · (apply s_round (i + 1); all_goals (try dsimp only); all_goals (try (repeat' (first | exact slots_nil | refine kw ?_ | exact memIn_nil | omega))))
        exact ⟨by omega, take_all _ hv hinv hb⟩
    · repeat' (first | refine ks ?_ | refine ko ?_ | refine s_if rfl (fun hb => ?_) (fun hb => ?_) | refine s_indexD ?_ (hel := (by first | exact rfl)) | refine f_ret1 def_nil ?_ | refine t_tmp ?_)
      refine congrArg Dat.lit (congrArg Value.bool ?_)
      rw [take_ge (by omega)] at hinv
      simp [rowOK, hinv, hl]
def rowCmp : List Val → List Val → Int
  | [], [] => 0
  | [], _ :: _ => -1
  | _ :: _, [] => 1
  | a :: x, b :: y => if a.cmp b = 0 then rowCmp x y else a.cmp b
theorem rowCmp_end (x y : List Val) (h : x = [] ∨ y = []) : rowCmp x y = icmp x.length y.length := by
  rcases h with rfl | rfl
  · cases y <;> simp [rowCmp, icmp]
  · cases x <;> simp [rowCmp, icmp]; omega
theorem refCompareRows_c (r s : List Val) : PCall Tryz.prog 108 [.one (rowD r), .one (rowD s)] (.v (.one (.lit (.int .i64 (rowCmp r s))))) := by
  refine pcallN hT Tryz.func108 Tryz.ntmps108 [.tmp 4] fun B => ?_
  refine k_len 0 rfl fun hlr => ?_
  refine k_len 1 rfl fun hls => ?_
  simp only [List.length_map, maxLen] at hlr hls
  repeat' (first | refine ks ?_ | refine ko ?_ | refine s_if rfl (fun hb => ?_) (fun hb => ?_) | refine s_indexD ?_ (hel := (by first | exact rfl)) | refine s_kT ?_ | refine s_split rfl rfl (fun hb => ?_) (fun hb => ?_) | refine f_ret1 def_nil ?_ | refine t_tmp ?_)
  refine s_lp (X := Nat) [4, 5, 6, 7, 8, 9, 10, 11, 12, 13, 14, 15, 16, 17, 18, 19, 20, 21, 22, 23, 24, 25, 26, 27, 28, 29, 30] (fun x => x ≤ r.length ∧ x ≤ s.length ∧ rowCmp r s = rowCmp (r.drop x) (s.drop x)) (fun x lz => (5, (.c (.d (.lit (.int .i64 x))))) :: lz) (fun x => []) (fun x => r.length - x) (0) ?_ ?_ ?_ ?_
  repeat' (first | exact slots_nil | refine kw ?_ | exact memIn_nil | omega)
  · exact ⟨by simp, by simp, by simp⟩
  rintro i c ⟨hi, hj, hinv⟩
  by_cases hlt : i < r.length ∧ i < s.length
  · obtain ⟨hlt, hlt2⟩ := hlt
    have hv : r[i]? = some r[i] := List.getElem?_eq_getElem hlt
    generalize r[i] = a at hv
    have hu : s[i]? = some s[i] := List.getElem?_eq_getElem hlt2
    generalize s[i] = b at hu
    rw [drop_cons hv, drop_cons hu, rowCmp] at hinv
    repeat' (first | refine ks ?_ | refine ko ?_ | refine s_if rfl (fun hb => ?_) (fun hb => ?_) | refine s_indexD ?_ (hel := (by first | exact idx_map hv (by omega) | exact idx_map hu (by omega) | exact hv | exact hu | exact rfl)) | refine s_call (refCompare_c _ _) ?_ | refine s_kT ?_ | refine s_split rfl rfl (fun hb => ?_) (fun hb => ?_) | refine f_ret1 def_nil ?_ | refine t_tmp ?_)
    · rw [hinv, if_neg hb]
    · (apply s_round (i + 1); all_goals (try dsimp only); all_goals (try (repeat' (first | exact slots_nil | refine kw ?_ | exact memIn_nil | omega))))
      try exact ⟨by omega, by omega, by rw [hinv, if_pos hb]⟩
  · have he : rowCmp r s = icmp r.length s.length := by
      rw [hinv, rowCmp_end _ _ (by simp only [List.drop_eq_nil_iff]; omega)]
      simp only [List.length_drop, icmp]
      (repeat' split) <;> omega
    repeat' (first | refine ks ?_ | refine ko ?_ | refine s_if rfl (fun hb => ?_) (fun hb => ?_) | refine s_indexD ?_ (hel := (by first | exact rfl)) | refine s_kT ?_ | refine s_split rfl rfl (fun hb => ?_) (fun hb => ?_) | refine f_ret1 def_nil ?_ | refine t_tmp ?_)
    all_goals (rw [he, icmp])
    all_goals (refine congrArg Dat.lit (congrArg (Value.int _) ?_); (repeat' split) <;> omega)
theorem compareRows_c (r s : List Val) : PCall Tryz.prog 82 [.one (rowD r), .one (rowD s)] (.v (.one (.lit (.int .i64 (rowCmp r s))))) := by
  refine pcallN hT Tryz.func82 Tryz.ntmps82 [.tmp 4] fun B => ?_
  refine k_len 0 rfl fun hlr => ?_
  refine k_len 1 rfl fun hls => ?_
  simp only [List.length_map, maxLen] at hlr hls
  repeat' (first | refine ks ?_ | refine ko ?_ | refine s_if rfl (fun hb => ?_) (fun hb => ?_) | refine s_indexD ?_ (hel := (by first | exact rfl)) | refine f_ret1 def_nil ?_ | refine t_tmp ?_)
  have hm : (if (s.length : Int) < r.length then (s.length : Int) else r.length) = (min r.length s.length : Nat) := by
    split <;> omega
  simp only [hm]
  generalize hmn : min r.length s.length = m
  refine s_lp (X := Nat) [4, 5, 6, 12, 13, 14, 15, 16, 17, 18, 19, 20, 21, 22, 23, 24, 25, 26, 27] (fun x => x ≤ m ∧ rowCmp r s = rowCmp (r.drop x) (s.drop x)) (fun x lz => (12, (.c (.d (.lit (.int .i64 x))))) :: lz) (fun x => []) (fun x => m - x) (0) ?_ ?_ ?_ ?_
  repeat' (first | exact slots_nil | refine kw ?_ | exact memIn_nil | omega)
  · exact ⟨by simp, by simp⟩
  rintro i c ⟨hi, hinv⟩
  by_cases hlt : i < m
  · have hv : r[i]? = some r[i] := List.getElem?_eq_getElem (by omega)
    generalize r[i] = a at hv
    have hu : s[i]? = some s[i] := List.getElem?_eq_getElem (by omega)
    generalize s[i] = b at hu
    rw [drop_cons hv, drop_cons hu, rowCmp] at hinv
    repeat' (first | refine ks ?_ | refine ko ?_ | refine s_if rfl (fun hb => ?_) (fun hb => ?_) | refine s_indexD ?_ (hel := (by first | exact idx_map hv (by omega) | exact idx_map hu (by omega) | exact hv | exact hu | exact rfl)) | refine s_call (compare_c _ _) ?_ | refine f_ret1 def_nil ?_ | refine t_tmp ?_)
    · rw [hinv, if_neg hb]
    · (apply s_round (i + 1); all_goals (try dsimp only); all_goals (try (repeat' (first | exact slots_nil | refine kw ?_ | exact memIn_nil | omega))))
      try exact ⟨by omega, by rw [hinv, if_pos hb]⟩
  · have he : rowCmp r s = icmp r.length s.length := by
      rw [hinv, rowCmp_end _ _ (by simp only [List.drop_eq_nil_iff]; omega)]
      simp only [List.length_drop, icmp]
      (repeat' split) <;> omega
    repeat' (first | refine ks ?_ | refine ko ?_ | refine s_if rfl (fun hb => ?_) (fun hb => ?_) | refine s_indexD ?_ (hel := (by first | exact rfl)) | refine s_call (cmpInt_c _ _) ?_ | refine f_ret1 def_nil ?_ | refine t_tmp ?_)
    all_goals (rw [he])
end Go.Proofs.YtojfhaoleedmkaaGreat
end
section
namespace Go.Proofs.YtojfhaoleedmkaaGreat
open Go.Abs Go.RowKit
attribute [local irreducible] ARun kont MCall PCall HCall resVal SF CF CFs defersOk slotsIn memIn fin finM VLe
set_option linter.unusedSimpArgs false
set_option maxRecDepth 100000
set_option maxHeartbeats 4000000
def u8of (z : Int) : UInt8 := UInt8.ofNat (z.emod 256).toNat
theorem u8of_wrap (z : Int) : IntKind.u8.wrap z = ((u8of z).toNat : Nat) := by
  have h1 := Int.emod_nonneg z (show (256 : Int) ≠ 0 by decide)
  have h2 := Int.emod_lt_of_pos z (show (0 : Int) < 256 by decide)
  have e : (u8of z).toNat = (z.emod 256).toNat := by
    unfold u8of
    rw [UInt8.toNat_ofNat']
    have : (z.emod 256).toNat < 256 := by
      have : z.emod 256 = z % 256 := rfl
      omega
    omega
  rw [e]
  have : z.emod 256 = z % 256 := rfl
  simp [IntKind.wrap, IntKind.bits, IntKind.signed]
  omega
def encInt (n : Int) : List UInt8 := [2, u8of (shrInt .i64 n 32), u8of (shrInt .i64 n 24), u8of (shrInt .i64 n 16), u8of (shrInt .i64 n 8), u8of n]
def esc1 (b : UInt8) : List UInt8 := if b = 0 then [0, 255] else [b]
def esc (l : List UInt8) : List UInt8 := l.flatMap esc1
def encVal (v : Val) : List UInt8 :=
  if v.kind = 1 then encInt (v.int + 4294967296)
  else if v.kind = 2 then 3 :: (esc v.text.data.toList ++ [0, 0])
  else [1]
theorem esc_snoc {l : List UInt8} {i : Nat} {b : UInt8} (h : l[i]? = some b) : esc (l.take (i + 1)) = esc (l.take i) ++ esc1 b := by
  rw [List.take_add_one, h, esc, esc, List.flatMap_append]
  simp
theorem esc_len (l : List UInt8) : (esc l).length ≤ 2 * l.length := by
  induction l with
  | nil => simp [esc]
  | cons b l ih =>
    have : esc (b :: l) = esc1 b ++ esc l := by simp [esc]
    rw [this, List.length_append, List.length_cons]
    have : (esc1 b).length ≤ 2 := by unfold esc1; split <;> simp
    omega
theorem encVal_len (v : Val) (h : v.valid = true) : (encVal v).length ≤ 80 := by
  unfold encVal
  split
  · simp [encInt]
  · split
    · rename_i h1 h2
      have hs : v.text.size ≤ 32 := by
        unfold Val.valid at h
        rw [if_neg (by omega), if_neg h1, if_pos h2] at h
        simp at h
        exact h.2
      have := esc_len v.text.data.toList
      have e : v.text.data.toList.length = v.text.size := by simp
      simp only [List.length_cons, List.length_append, List.length_nil]
      omega
    · simp
theorem appendValue_h (out : List UInt8) (v : Val) (ho : out.length ≤ 1000000) (hv : v.valid = true) :
    HCall Tryz.prog 131 [.c (.arr 0 0 out.length), .agg (v.d.map .d)] [.arr 0 5 1 (out.map byD)] (.c (.arr 0 1 (out ++ encVal v).length)) [.arr 1 5 1 ((out ++ encVal v).map byD)] := by
  by_cases hk1 : v.kind = 1
  · have hb1 : -4294967296 ≤ v.int ∧ v.int ≤ 4294967296 := by
      unfold Val.valid at hv
      rw [if_neg (by omega), if_pos hk1] at hv
      simp at hv
      exact ⟨hv.1.1, hv.1.2⟩
    obtain ⟨hb1, hb2⟩ := hb1
    have he : encVal v = encInt (v.int + 4294967296) := by rw [encVal, if_pos hk1]
    refine hcallN hT Tryz.func131 Tryz.ntmps131 [.tmp 4] fun B => ?_
    repeat' (first | refine ks ?_ | refine ko ?_ | refine s_if rfl (fun hb => ?_) (fun hb => ?_) | refine s_indexD ?_ (hel := (by first | exact rfl)) | refine fh_ret1 def_nil ?_ ?_ | exact memIn_nil | refine m1 ?_ ?_ | refine am_arr ?_)
    · rw [he, List.map_append]
      simp only [u8of_wrap, encInt, List.map_cons, List.map_nil, byD]
      rfl
    · rw [he]; simp [encInt]
  · by_cases hk2 : v.kind = 2
    · have hs : v.text.size ≤ 32 := by
        unfold Val.valid at hv
        rw [if_neg (by omega), if_neg hk1, if_pos hk2] at hv
        simp at hv
        exact hv.2
      have he : encVal v = 3 :: (esc v.text.data.toList ++ [0, 0]) := by rw [encVal, if_neg hk1, if_pos hk2]
      have hl : v.text.data.toList.length = v.text.size := by simp
      generalize hL : v.text.data.toList = l at he hl
      refine hcallN hT Tryz.func131 Tryz.ntmps131 [.tmp 4] fun B => ?_
      repeat' (first | refine ks ?_ | refine ko ?_ | refine s_if rfl (fun hb => ?_) (fun hb => ?_) | refine s_indexD ?_ (hel := (by first | exact rfl)) | refine fh_ret1 def_nil ?_ ?_ | exact memIn_nil | refine m1 ?_ ?_ | refine am_arr ?_)
      rw [hL]
      refine s_lp (X := Nat × Nat) [0, 7, 41, 42, 43, 44, 45, 46, 47, 48, 49, 50, 51, 52, 53, 54] (fun x => x.1 ≤ l.length) (fun x lz => (0, .c (.arr 0 x.2 (out ++ 3 :: esc (l.take x.1)).length)) :: (41, (.c (.d (.lit (.int .i64 x.1))))) :: lz) (fun x => [.arr x.2 5 1 ((out ++ 3 :: esc (l.take x.1)).map byD)]) (fun x => l.length - x.1) ((0, 2)) ?_ ?_ ?_ ?_
      repeat' (first | exact slots_nil | refine kw ?_ | refine kv ?_ ?_ | exact memIn_nil | omega)
      · simp [esc]
      · simp [esc]; rfl
      rintro ⟨i, k⟩ c hi
      dsimp only at hi ⊢
      have hel := esc_len (l.take i)
      have htl : (l.take i).length = i := by simp; omega
      by_cases hlt : i < l.length
      · have hv : l[i]? = some l[i] := List.getElem?_eq_getElem hlt
        generalize l[i] = b at hv
        have hsn := esc_snoc hv
        repeat' (first | refine ks ?_ | refine ko ?_ | refine s_if rfl (fun hb => ?_) (fun hb => ?_) | refine s_indexD ?_ (hel := (by first | exact idx_map hv (by omega) | exact hv | exact rfl)) | refine fh_ret1 def_nil ?_ ?_ | exact memIn_nil | refine m1 ?_ ?_ | refine am_arr ?_)
        · have hb0 : b = 0 := by apply UInt8.toNat_inj.1; simpa using hb
          subst hb0
          (apply s_round ((i + 1, _)); all_goals (try dsimp only); all_goals (try (repeat' (first | exact slots_nil | refine w1 ?_ | refine w5 ?_ ?_ | exact memIn_nil | refine m1 ?_ ?_ | omega))))
          · rw [hsn]; simp [esc1]; omega
          · rw [hsn]; simp [esc1, byD]
        · have hb0 : ¬ b = 0 := by intro q; subst q; exact hb rfl
          (apply s_round ((i + 1, _)); all_goals (try dsimp only); all_goals (try (repeat' (first | exact slots_nil | refine w1 ?_ | refine w5 ?_ ?_ | exact memIn_nil | refine m1 ?_ ?_ | omega))))
          · rw [hsn]; simp [esc1, hb0]; omega
          · rw [hsn]; simp [esc1, byD, hb0]
      · repeat' (first | refine ks ?_ | refine ko ?_ | refine s_if rfl (fun hb => ?_) (fun hb => ?_) | refine s_indexD ?_ (hel := (by first | exact rfl)) | refine fh_ret1 def_nil ?_ ?_ | exact memIn_nil | refine m1 ?_ ?_ | refine am_arr ?_)
        · rw [he, take_ge (by omega)]; simp [byD]
        · rw [he, take_ge (by omega)]; simp; omega
    · have he : encVal v = [1] := by rw [encVal, if_neg hk1, if_neg hk2]
      refine hcallN hT Tryz.func131 Tryz.ntmps131 [.tmp 4] fun B => ?_
      repeat' (first | refine ks ?_ | refine ko ?_ | refine s_if rfl (fun hb => ?_) (fun hb => ?_) | refine s_indexD ?_ (hel := (by first | exact rfl)) | refine fh_ret1 def_nil ?_ ?_ | exact memIn_nil | refine m1 ?_ ?_ | refine am_arr ?_)
      · rw [he, List.map_append]; rfl
      · rw [he]; simp
def encRow (r : List Val) : List UInt8 := r.flatMap fun v => encVal v.clean
theorem clean_valid' (v : Val) : v.clean.valid = true := by
  unfold Val.clean
  split
  · assumption
  · simp [Val.null, Val.valid, ByteArray.toList_eq]
theorem encRow_snoc {r : List Val} {i : Nat} {v : Val} (h : r[i]? = some v) : encRow (r.take (i + 1)) = encRow (r.take i) ++ encVal v.clean := by
  rw [List.take_add_one, h, encRow, encRow, List.flatMap_append]
  simp
theorem encRow_len (r : List Val) : (encRow r).length ≤ 80 * r.length := by
  induction r with
  | nil => simp [encRow]
  | cons v r ih =>
    have : encRow (v :: r) = encVal v.clean ++ encRow r := by simp [encRow]
    rw [this, List.length_append, List.length_cons]
    have := encVal_len v.clean (clean_valid' v)
    omega
theorem encodeRow_c (r : List Val) (hr : r.length ≤ 10000) : PCall Tryz.prog 93 [.one (rowD r)] (.v (.one (.lit (.string ⟨(encRow r).toArray⟩)))) := by
  refine pcallN hT Tryz.func93 Tryz.ntmps93 [.tmp 2] fun B => ?_
  repeat' (first | refine ks ?_ | refine ko ?_ | refine s_indexD ?_ (hel := (by first | exact rfl)) | refine f_ret1 def_nil ?_ | refine t_tmp ?_)
  refine s_own 3 5 1 ?_
  refine s_lp (X := Nat × Nat) [3, 5, 8, 9, 10, 11, 12, 13, 14, 15, 16] (fun x => x.1 ≤ r.length) (fun x lz => (3, .c (.arr 0 x.2 (encRow (r.take x.1)).length)) :: (8, (.c (.d (.lit (.int .i64 x.1))))) :: lz) (fun x => [.arr x.2 5 1 ((encRow (r.take x.1)).map byD)]) (fun x => r.length - x.1) ((0, 1)) ?_ ?_ ?_ ?_
  repeat' (first | exact slots_nil | refine kw ?_ | refine kv ?_ ?_ | exact memIn_nil | omega)
  rintro ⟨i, k⟩ c hi
  dsimp only at hi ⊢
  have hel := encRow_len (r.take i)
  have htl : (r.take i).length = i := by simp; omega
  by_cases hlt : i < r.length
  · have hv : r[i]? = some r[i] := List.getElem?_eq_getElem hlt
    generalize r[i] = v at hv
    have hsn := encRow_snoc hv
    repeat' (first | refine ks ?_ | refine ko ?_ | refine s_indexD ?_ (hel := (by first | exact idx_map hv (by omega) | exact hv | exact rfl)) | refine s_call (clean_c _) ?_ | refine s_callH [0] (appendValue_h (encRow (r.take i)) v.clean (by omega) (clean_valid' v)) ?_ | refine f_ret1 def_nil ?_ | refine t_tmp ?_)
    (apply s_round ((i + 1, _)); all_goals (try dsimp only); all_goals (try (repeat' (first | exact slots_nil | refine w1 ?_ | refine w5 ?_ ?_ | exact memIn_nil | refine memIn_same ?_ | refine m1 ?_ ?_ | omega))))
    all_goals rw [hsn]
  · repeat' (first | refine ks ?_ | refine ko ?_ | refine s_indexD ?_ (hel := (by first | exact rfl)) | refine f_ret1 def_nil ?_ | refine t_tmp ?_)
    all_goals (rw [take_ge (by omega)])
end Go.Proofs.YtojfhaoleedmkaaGreat
end
