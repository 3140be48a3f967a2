/-
  Rows: compared, cleaned, tested.
-/
import Derived.Test.YtmpgmjlanngkfaaGreatCmp
namespace Go.Proofs.YtmpgmjlanngkfaaGreat
open Go.Abs Go.RowKit
attribute [local irreducible] ARun kont MCall PCall HCall resVal SF CF CFs defersOk slotsIn memIn fin finM VLe
set_option linter.unusedSimpArgs false
set_option maxRecDepth 100000

def rowD (r : List Val) : Dat := .sl (r.map Val.d)

theorem take_all {α : Type} (p : α → Bool) {l : List α} {i : Nat} {v : α} (hv : l[i]? = some v) (h : (l.take i).all p = true) (hp : p v = true) : (l.take (i + 1)).all p = true := by
  rw [List.take_add_one, List.all_append, h, hv]
  simp [hp]

theorem not_all {α : Type} (p : α → Bool) {l : List α} {i : Nat} {v : α} (hv : l[i]? = some v) (hp : p v = false) : l.all p = false := by
  rw [List.all_eq_false]
  exact ⟨v, List.mem_of_getElem? hv, by simp [hp]⟩

theorem drop_cons {α : Type} {l : List α} {i : Nat} {v : α} (h : l[i]? = some v) : l.drop i = v :: l.drop (i + 1) := by
  have hlt := lt_of_getElem? h
  rw [List.drop_eq_getElem_cons hlt]
  rw [List.getElem?_eq_getElem hlt] at h
  simp at h
  rw [h]

theorem take_map {α β : Type} (f : α → β) {l : List α} {i : Nat} {v : α} (hv : l[i]? = some v) : (l.take (i + 1)).map f = (l.take i).map f ++ [f v] := by
  rw [List.take_add_one, List.map_append, hv]
  rfl

theorem take_ge {α : Type} {l : List α} {i : Nat} (h : l.length ≤ i) : l.take i = l := List.take_of_length_le h

def rowOK (r : List Val) : Bool := decide (r.length ≤ 16) && r.all Val.valid

theorem validRow_c (r : List Val) : PCall Tryz.prog 122 [.one (rowD r)] (.v (.one (.lit (.bool (rowOK r))))) := by
  refine pcallN hT Tryz.func122 Tryz.ntmps122 [.tmp 2] fun B => ?_
  repeat' (first | (with_reducible (first | refine k_seq ?_ | refine k_block ?_ | refine k_skip ?_ | refine k_exit ?_ | refine k_ret ?_ | refine n_seq ?_ | refine n_block ?_ | refine e_seq ?_ | refine e_here ?_ | refine r_seq ?_ | refine r_block ?_ | refine o_exit ?_ | refine o_ret ?_)) | refine s_reg ?_ | refine s_ifT ?_ | refine s_ifF ?_ | refine s_if rfl (fun hb => ?_) (fun hb => ?_) | refine r_end ?_ | refine s_move ?_ | refine s_assign ?_ | refine s_int ?_ | refine s_loadFA ?_ | refine s_loadBA ?_ | refine s_indexD ?_ (hel := (by first | exact rfl)) | refine s_lenD ?_ | refine s_storeB ?_ | refine s_alloc ?_ | refine s_not ?_ | refine f_ret1 def_nil ?_ | refine t_tmp ?_)
  · refine congrArg Dat.lit (congrArg Value.bool ?_)
    simp [rowOK]
    intros; omega
  · have hl : r.length ≤ 16 := by omega
    refine s_lp (X := Nat) [2, 4, 10, 11, 12, 13, 14, 15, 16, 17] (fun x => x ≤ r.length ∧ (r.take x).all Val.valid = true) (fun x lz => (10, (.c (.d (.lit (.int .i64 x))))) :: lz) (fun x => []) (fun x => r.length - x) (0) ?_ ?_ ?_ ?_
    repeat' (first | exact slots_nil | refine w1 ?_ | exact memIn_nil | omega)
    · exact ⟨by simp, by simp⟩
    rintro i c ⟨hi, hinv⟩
    by_cases hlt : i < r.length
    · have hv : r[i]? = some r[i] := List.getElem?_eq_getElem hlt
      generalize r[i] = v at hv
      repeat' (first | (with_reducible (first | refine k_seq ?_ | refine k_block ?_ | refine k_skip ?_ | refine k_exit ?_ | refine k_ret ?_ | refine n_seq ?_ | refine n_block ?_ | refine e_seq ?_ | refine e_here ?_ | refine r_seq ?_ | refine r_block ?_ | refine o_exit ?_ | refine o_ret ?_)) | refine s_reg ?_ | refine s_ifT ?_ | refine s_ifF ?_ | refine s_if rfl (fun hb => ?_) (fun hb => ?_) | refine r_end ?_ | refine s_move ?_ | refine s_assign ?_ | refine s_int ?_ | refine s_loadFA ?_ | refine s_loadBA ?_ | refine s_indexD ?_ (hel := (by first | exact idx_map hv (by omega) | exact hv | exact rfl)) | refine s_call (valid_c _) ?_ | refine s_lenD ?_ | refine s_storeB ?_ | refine s_alloc ?_ | refine s_not ?_ | refine f_ret1 def_nil ?_ | refine t_tmp ?_)
      · refine congrArg Dat.lit (congrArg Value.bool ?_)
        rw [rowOK, not_all Val.valid hv hb, Bool.and_false]
      · (apply s_round (i + 1); all_goals (try dsimp only); all_goals (try (repeat' (first | exact slots_nil | refine w1 ?_ | exact memIn_nil | omega))))
        exact ⟨by omega, take_all _ hv hinv hb⟩
    · repeat' (first | (with_reducible (first | refine k_seq ?_ | refine k_block ?_ | refine k_skip ?_ | refine k_exit ?_ | refine k_ret ?_ | refine n_seq ?_ | refine n_block ?_ | refine e_seq ?_ | refine e_here ?_ | refine r_seq ?_ | refine r_block ?_ | refine o_exit ?_ | refine o_ret ?_)) | refine s_reg ?_ | refine s_ifT ?_ | refine s_ifF ?_ | refine s_if rfl (fun hb => ?_) (fun hb => ?_) | refine r_end ?_ | refine s_move ?_ | refine s_assign ?_ | refine s_int ?_ | refine s_loadFA ?_ | refine s_loadBA ?_ | refine s_indexD ?_ (hel := (by first | exact rfl)) | refine s_lenD ?_ | refine s_storeB ?_ | refine s_alloc ?_ | refine s_not ?_ | refine f_ret1 def_nil ?_ | refine t_tmp ?_)
      refine congrArg Dat.lit (congrArg Value.bool ?_)
      rw [take_ge (by omega)] at hinv
      simp [rowOK, hinv, hl]

theorem refValidRow_c (r : List Val) : PCall Tryz.prog 74 [.one (rowD r)] (.v (.one (.lit (.bool (rowOK r))))) := by
  refine pcallN hT Tryz.func74 Tryz.ntmps74 [.tmp 2] fun B => ?_
  repeat' (first | (with_reducible (first | refine k_seq ?_ | refine k_block ?_ | refine k_skip ?_ | refine k_exit ?_ | refine k_ret ?_ | refine n_seq ?_ | refine n_block ?_ | refine e_seq ?_ | refine e_here ?_ | refine r_seq ?_ | refine r_block ?_ | refine o_exit ?_ | refine o_ret ?_)) | refine s_reg ?_ | refine s_ifT ?_ | refine s_ifF ?_ | refine s_if rfl (fun hb => ?_) (fun hb => ?_) | refine r_end ?_ | refine s_move ?_ | refine s_assign ?_ | refine s_int ?_ | refine s_loadFA ?_ | refine s_indexD ?_ (hel := (by first | exact rfl)) | refine s_lenD ?_ | refine s_not ?_ | refine f_ret1 def_nil ?_ | refine t_tmp ?_)
  · refine congrArg Dat.lit (congrArg Value.bool ?_)
    simp [rowOK]
    intros; omega
  · have hl : r.length ≤ 16 := by omega
    refine s_lp (X := Nat) [2, 3, 7, 8, 9, 10, 11, 12, 13, 14, 15, 16, 17, 18] (fun x => x ≤ r.length ∧ (r.take x).all Val.valid = true) (fun x lz => (3, (.c (.d (.lit (.int .i64 x))))) :: lz) (fun x => []) (fun x => r.length - x) (0) ?_ ?_ ?_ ?_
    repeat' (first | exact slots_nil | refine w1 ?_ | exact memIn_nil | omega)
    · exact ⟨by simp, by simp⟩
    rintro i c ⟨hi, hinv⟩
    by_cases hlt : i < r.length
    · have hv : r[i]? = some r[i] := List.getElem?_eq_getElem hlt
      generalize r[i] = v at hv
      repeat' (first | (with_reducible (first | refine k_seq ?_ | refine k_block ?_ | refine k_skip ?_ | refine k_exit ?_ | refine k_ret ?_ | refine n_seq ?_ | refine n_block ?_ | refine e_seq ?_ | refine e_here ?_ | refine r_seq ?_ | refine r_block ?_ | refine o_exit ?_ | refine o_ret ?_)) | refine s_reg ?_ | refine s_ifT ?_ | refine s_ifF ?_ | refine s_if rfl (fun hb => ?_) (fun hb => ?_) | refine r_end ?_ | refine s_move ?_ | refine s_assign ?_ | refine s_int ?_ | refine s_loadFA ?_ | refine s_indexD ?_ (hel := (by first | exact idx_map hv (by omega) | exact hv | exact rfl)) | refine s_call (refValid_c _) ?_ | refine s_lenD ?_ | refine s_not ?_ | refine f_ret1 def_nil ?_ | refine t_tmp ?_)
      · refine congrArg Dat.lit (congrArg Value.bool ?_)
        rw [rowOK, not_all Val.valid hv hb, Bool.and_false]
      · (apply s_round (i + 1); all_goals (try dsimp only); all_goals (try (repeat' (first | exact slots_nil | refine w1 ?_ | exact memIn_nil | omega))))
        exact ⟨by omega, take_all _ hv hinv hb⟩
    · repeat' (first | (with_reducible (first | refine k_seq ?_ | refine k_block ?_ | refine k_skip ?_ | refine k_exit ?_ | refine k_ret ?_ | refine n_seq ?_ | refine n_block ?_ | refine e_seq ?_ | refine e_here ?_ | refine r_seq ?_ | refine r_block ?_ | refine o_exit ?_ | refine o_ret ?_)) | refine s_reg ?_ | refine s_ifT ?_ | refine s_ifF ?_ | refine s_if rfl (fun hb => ?_) (fun hb => ?_) | refine r_end ?_ | refine s_move ?_ | refine s_assign ?_ | refine s_int ?_ | refine s_loadFA ?_ | refine s_indexD ?_ (hel := (by first | exact rfl)) | refine s_lenD ?_ | refine s_not ?_ | refine f_ret1 def_nil ?_ | refine t_tmp ?_)
      refine congrArg Dat.lit (congrArg Value.bool ?_)
      rw [take_ge (by omega)] at hinv
      simp [rowOK, hinv, hl]

def rowCmp : List Val → List Val → Int
  | [], [] => 0
  | [], _ :: _ => -1
  | _ :: _, [] => 1
  | a :: x, b :: y => if a.cmp b = 0 then rowCmp x y else a.cmp b

theorem rowCmp_end (x y : List Val) (h : x = [] ∨ y = []) : rowCmp x y = icmp x.length y.length := by
  rcases h with rfl | rfl
  · cases y <;> simp [rowCmp, icmp]
  · cases x <;> simp [rowCmp, icmp]; omega

theorem refCompareRows_c (r s : List Val) : PCall Tryz.prog 182 [.one (rowD r), .one (rowD s)] (.v (.one (.lit (.int .i64 (rowCmp r s))))) := by
  refine pcallN hT Tryz.func182 Tryz.ntmps182 [.tmp 4] fun B => ?_
  refine k_len 0 rfl fun hlr => ?_
  refine k_len 1 rfl fun hls => ?_
  simp only [List.length_map, maxLen] at hlr hls
  repeat' (first | (with_reducible (first | refine k_seq ?_ | refine k_block ?_ | refine k_skip ?_ | refine k_exit ?_ | refine k_ret ?_ | refine n_seq ?_ | refine n_block ?_ | refine e_seq ?_ | refine e_here ?_ | refine r_seq ?_ | refine r_block ?_ | refine o_exit ?_ | refine o_ret ?_)) | refine s_reg ?_ | refine s_ifT ?_ | refine s_ifF ?_ | refine s_if rfl (fun hb => ?_) (fun hb => ?_) | refine r_end ?_ | refine s_endD ?_ | refine s_skipS ?_ | refine s_move ?_ | refine s_assign ?_ | refine s_int ?_ | refine s_loadFA ?_ | refine s_indexD ?_ (hel := (by first | exact rfl)) | refine s_pick ?_ | refine s_lenD ?_ | refine s_kT ?_ | refine s_split rfl rfl (fun hb => ?_) (fun hb => ?_) | refine f_ret1 def_nil ?_ | refine t_tmp ?_)
  refine s_lp (X := Nat) [4, 5, 6, 7, 8, 9, 10, 11, 12, 13, 14, 15, 16, 17, 18, 19, 20, 21, 22, 23, 24, 25, 26, 27, 28, 29, 30] (fun x => x ≤ r.length ∧ x ≤ s.length ∧ rowCmp r s = rowCmp (r.drop x) (s.drop x)) (fun x lz => (5, (.c (.d (.lit (.int .i64 x))))) :: lz) (fun x => []) (fun x => r.length - x) (0) ?_ ?_ ?_ ?_
  repeat' (first | exact slots_nil | refine w1 ?_ | exact memIn_nil | omega)
  · exact ⟨by simp, by simp, by simp⟩
  rintro i c ⟨hi, hj, hinv⟩
  by_cases hlt : i < r.length ∧ i < s.length
  · obtain ⟨hlt, hlt2⟩ := hlt
    have hv : r[i]? = some r[i] := List.getElem?_eq_getElem hlt
    generalize r[i] = a at hv
    have hu : s[i]? = some s[i] := List.getElem?_eq_getElem hlt2
    generalize s[i] = b at hu
    rw [drop_cons hv, drop_cons hu, rowCmp] at hinv
    repeat' (first | (with_reducible (first | refine k_seq ?_ | refine k_block ?_ | refine k_skip ?_ | refine k_exit ?_ | refine k_ret ?_ | refine n_seq ?_ | refine n_block ?_ | refine e_seq ?_ | refine e_here ?_ | refine r_seq ?_ | refine r_block ?_ | refine o_exit ?_ | refine o_ret ?_)) | refine s_reg ?_ | refine s_ifT ?_ | refine s_ifF ?_ | refine s_if rfl (fun hb => ?_) (fun hb => ?_) | refine r_end ?_ | refine s_endD ?_ | refine s_skipS ?_ | refine s_move ?_ | refine s_assign ?_ | refine s_int ?_ | refine s_loadFA ?_ | refine s_indexD ?_ (hel := (by first | exact idx_map hv (by omega) | exact idx_map hu (by omega) | exact hv | exact hu | exact rfl)) | refine s_call (refCompare_c _ _) ?_ | refine s_pick ?_ | refine s_lenD ?_ | refine s_kT ?_ | refine s_split rfl rfl (fun hb => ?_) (fun hb => ?_) | refine f_ret1 def_nil ?_ | refine t_tmp ?_)
    · rw [hinv, if_neg hb]
    · (apply s_round (i + 1); all_goals (try dsimp only); all_goals (try (repeat' (first | exact slots_nil | refine w1 ?_ | exact memIn_nil | omega))))
      try exact ⟨by omega, by omega, by rw [hinv, if_pos hb]⟩
  · have he : rowCmp r s = icmp r.length s.length := by
      rw [hinv, rowCmp_end _ _ (by simp only [List.drop_eq_nil_iff]; omega)]
      simp only [List.length_drop, icmp]
      (repeat' split) <;> omega
    repeat' (first | (with_reducible (first | refine k_seq ?_ | refine k_block ?_ | refine k_skip ?_ | refine k_exit ?_ | refine k_ret ?_ | refine n_seq ?_ | refine n_block ?_ | refine e_seq ?_ | refine e_here ?_ | refine r_seq ?_ | refine r_block ?_ | refine o_exit ?_ | refine o_ret ?_)) | refine s_reg ?_ | refine s_ifT ?_ | refine s_ifF ?_ | refine s_if rfl (fun hb => ?_) (fun hb => ?_) | refine r_end ?_ | refine s_endD ?_ | refine s_skipS ?_ | refine s_move ?_ | refine s_assign ?_ | refine s_int ?_ | refine s_loadFA ?_ | refine s_indexD ?_ (hel := (by first | exact rfl)) | refine s_pick ?_ | refine s_lenD ?_ | refine s_kT ?_ | refine s_split rfl rfl (fun hb => ?_) (fun hb => ?_) | refine f_ret1 def_nil ?_ | refine t_tmp ?_)
    all_goals (rw [he, icmp])
    all_goals (refine congrArg Dat.lit (congrArg (Value.int _) ?_); (repeat' split) <;> omega)

theorem compareRows_c (r s : List Val) : PCall Tryz.prog 59 [.one (rowD r), .one (rowD s)] (.v (.one (.lit (.int .i64 (rowCmp r s))))) := by
  refine pcallN hT Tryz.func59 Tryz.ntmps59 [.tmp 4] fun B => ?_
  refine k_len 0 rfl fun hlr => ?_
  refine k_len 1 rfl fun hls => ?_
  simp only [List.length_map, maxLen] at hlr hls
  repeat' (first | (with_reducible (first | refine k_seq ?_ | refine k_block ?_ | refine k_skip ?_ | refine k_exit ?_ | refine k_ret ?_ | refine n_seq ?_ | refine n_block ?_ | refine e_seq ?_ | refine e_here ?_ | refine r_seq ?_ | refine r_block ?_ | refine o_exit ?_ | refine o_ret ?_)) | refine s_reg ?_ | refine s_ifT ?_ | refine s_ifF ?_ | refine s_if rfl (fun hb => ?_) (fun hb => ?_) | refine r_end ?_ | refine s_endD ?_ | refine s_move ?_ | refine s_assign ?_ | refine s_int ?_ | refine s_loadFA ?_ | refine s_indexD ?_ (hel := (by first | exact rfl)) | refine s_lenD ?_ | refine s_min ?_ | refine f_ret1 def_nil ?_ | refine t_tmp ?_)
  have hm : (if (s.length : Int) < r.length then (s.length : Int) else r.length) = (min r.length s.length : Nat) := by
    split <;> omega
  simp only [hm]
  generalize hmn : min r.length s.length = m
  refine s_lp (X := Nat) [4, 5, 6, 12, 13, 14, 15, 16, 17, 18, 19, 20, 21, 22, 23, 24, 25, 26, 27] (fun x => x ≤ m ∧ rowCmp r s = rowCmp (r.drop x) (s.drop x)) (fun x lz => (12, (.c (.d (.lit (.int .i64 x))))) :: lz) (fun x => []) (fun x => m - x) (0) ?_ ?_ ?_ ?_
  repeat' (first | exact slots_nil | refine w1 ?_ | exact memIn_nil | omega)
  · exact ⟨by simp, by simp⟩
  rintro i c ⟨hi, hinv⟩
  by_cases hlt : i < m
  · have hv : r[i]? = some r[i] := List.getElem?_eq_getElem (by omega)
    generalize r[i] = a at hv
    have hu : s[i]? = some s[i] := List.getElem?_eq_getElem (by omega)
    generalize s[i] = b at hu
    rw [drop_cons hv, drop_cons hu, rowCmp] at hinv
    repeat' (first | (with_reducible (first | refine k_seq ?_ | refine k_block ?_ | refine k_skip ?_ | refine k_exit ?_ | refine k_ret ?_ | refine n_seq ?_ | refine n_block ?_ | refine e_seq ?_ | refine e_here ?_ | refine r_seq ?_ | refine r_block ?_ | refine o_exit ?_ | refine o_ret ?_)) | refine s_reg ?_ | refine s_ifT ?_ | refine s_ifF ?_ | refine s_if rfl (fun hb => ?_) (fun hb => ?_) | refine r_end ?_ | refine s_endD ?_ | refine s_move ?_ | refine s_assign ?_ | refine s_int ?_ | refine s_loadFA ?_ | refine s_indexD ?_ (hel := (by first | exact idx_map hv (by omega) | exact idx_map hu (by omega) | exact hv | exact hu | exact rfl)) | refine s_call (compare_c _ _) ?_ | refine s_lenD ?_ | refine s_min ?_ | refine f_ret1 def_nil ?_ | refine t_tmp ?_)
    · rw [hinv, if_neg hb]
    · (apply s_round (i + 1); all_goals (try dsimp only); all_goals (try (repeat' (first | exact slots_nil | refine w1 ?_ | exact memIn_nil | omega))))
      try exact ⟨by omega, by rw [hinv, if_pos hb]⟩
  · have he : rowCmp r s = icmp r.length s.length := by
      rw [hinv, rowCmp_end _ _ (by simp only [List.drop_eq_nil_iff]; omega)]
      simp only [List.length_drop, icmp]
      (repeat' split) <;> omega
    repeat' (first | (with_reducible (first | refine k_seq ?_ | refine k_block ?_ | refine k_skip ?_ | refine k_exit ?_ | refine k_ret ?_ | refine n_seq ?_ | refine n_block ?_ | refine e_seq ?_ | refine e_here ?_ | refine r_seq ?_ | refine r_block ?_ | refine o_exit ?_ | refine o_ret ?_)) | refine s_reg ?_ | refine s_ifT ?_ | refine s_ifF ?_ | refine s_if rfl (fun hb => ?_) (fun hb => ?_) | refine r_end ?_ | refine s_endD ?_ | refine s_move ?_ | refine s_assign ?_ | refine s_int ?_ | refine s_loadFA ?_ | refine s_indexD ?_ (hel := (by first | exact rfl)) | refine s_call (cmpInt_c _ _) ?_ | refine s_lenD ?_ | refine s_min ?_ | refine f_ret1 def_nil ?_ | refine t_tmp ?_)
    all_goals (rw [he])

end Go.Proofs.YtmpgmjlanngkfaaGreat
