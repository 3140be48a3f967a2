/-
  The document's Normalize: lists of entries sorted and summed.
-/
import Derived.Test.YtmpgmjlanngkfaaGreatCmp
import Derived.Recover
section
namespace Go.Proofs.YtmpgmjlanngkfaaGreat
open Go.Abs Go.RowKit
attribute [local irreducible] ARun kont MCall PCall HCall resVal SF CF CFs defersOk slotsIn memIn fin finM VLe
set_option linter.unusedSimpArgs false
set_option maxRecDepth 100000
def rowD (r : List Val) : Dat := .sl (r.map Val.d)
theorem take_all {α : Type} (p : α → Bool) {l : List α} {i : Nat} {v : α} (hv : l[i]? = some v) (h : (l.take i).all p = true) (hp : p v = true) : (l.take (i + 1)).all p = true := by
  rw [List.take_add_one, List.all_append, h, hv]
  simp [hp]
theorem not_all {α : Type} (p : α → Bool) {l : List α} {i : Nat} {v : α} (hv : l[i]? = some v) (hp : p v = false) : l.all p = false := by
  rw [List.all_eq_false]
  exact ⟨v, List.mem_of_getElem? hv, by simp [hp]⟩
theorem drop_cons {α : Type} {l : List α} {i : Nat} {v : α} (h : l[i]? = some v) : l.drop i = v :: l.drop (i + 1) := by
  have hlt := lt_of_getElem? h
  rw [List.drop_eq_getElem_cons hlt]
  rw [List.getElem?_eq_getElem hlt] at h
  simp at h
  rw [h]
theorem take_map {α β : Type} (f : α → β) {l : List α} {i : Nat} {v : α} (hv : l[i]? = some v) : (l.take (i + 1)).map f = (l.take i).map f ++ [f v] := by
  rw [List.take_add_one, List.map_append, hv]
  rfl
theorem take_ge {α : Type} {l : List α} {i : Nat} (h : l.length ≤ i) : l.take i = l := List.take_of_length_le h
def rowOK (r : List Val) : Bool := decide (r.length ≤ 16) && r.all Val.valid
theorem validRow_c (r : List Val) : PCall Tryz.prog 122 [.one (rowD r)] (.v (.one (.lit (.bool (rowOK r))))) := by
  refine pcallN hT Tryz.func122 Tryz.ntmps122 [.tmp 2] fun B => ?_
  repeat' (first | refine ks ?_ | refine ko ?_ | refine s_if rfl (fun hb => ?_) (fun hb => ?_) | refine s_indexD ?_ (hel := (by first | exact rfl)) | refine kf ?_ | fail)
  · refine congrArg Dat.lit (congrArg Value.bool ?_)
    simp [rowOK]
    intros; omega
  · have hl : r.length ≤ 16 := by omega
    refine s_lp (X := Nat) [2, 4, 10, 11, 12, 13, 14, 15, 16, 17] (fun x => x ≤ r.length ∧ (r.take x).all Val.valid = true) (fun x lz => (10, (.c (.d (.lit (.int .i64 x))))) :: lz) (fun x => []) (fun x => r.length - x) (0) ?_ ?_ ?_ ?_
    repeat' (first | exact slots_nil | refine kw ?_ | exact memIn_nil | omega)
    · exact ⟨by simp, by simp⟩
    rintro i c ⟨hi, hinv⟩
    by_cases hlt : i < r.length
    · have hv : r[i]? = some r[i] := List.getElem?_eq_getElem hlt
      generalize r[i] = v at hv
      repeat' (first | refine ks ?_ | refine ko ?_ | refine s_if rfl (fun hb => ?_) (fun hb => ?_) | refine s_indexD ?_ (hel := (by first | exact idx_map hv (by omega) | exact hv | exact rfl)) | refine s_call (valid_c _) ?_ | refine kf ?_ | fail)
      · refine congrArg Dat.lit (congrArg Value.bool ?_)
        rw [rowOK, not_all Val.valid hv hb, Bool.and_false]
      · (apply s_round (i + 1); all_goals (try dsimp only); all_goals (try (repeat' (first | exact slots_nil | refine kw ?_ | exact memIn_nil | omega))))
        exact ⟨by omega, take_all _ hv hinv hb⟩
    · repeat' (first | refine ks ?_ | refine ko ?_ | refine s_if rfl (fun hb => ?_) (fun hb => ?_) | refine s_indexD ?_ (hel := (by first | exact rfl)) | refine kf ?_ | fail)
      refine congrArg Dat.lit (congrArg Value.bool ?_)
      rw [take_ge (by omega)] at hinv
      simp [rowOK, hinv, hl]
theorem refValidRow_c (r : List Val) : PCall Tryz.prog 74 [.one (rowD r)] (.v (.one (.lit (.bool (rowOK r))))) := by
  refine pcallN hT Tryz.func74 Tryz.ntmps74 [.tmp 2] fun B => ?_
  repeat' (first | refine ks ?_ | refine ko ?_ | refine s_if rfl (fun hb => ?_) (fun hb => ?_) | refine s_indexD ?_ (hel := (by first | exact rfl)) | refine kf ?_ | fail)
  · refine congrArg Dat.lit (congrArg Value.bool ?_)
    simp [rowOK]
    intros; omega
  · have hl : r.length ≤ 16 := by omega
    refine s_lp (X := Nat) [2, 3, 7, 8, 9, 10, 11, 12, 13, 14, 15, 16, 17, 18] (fun x => x ≤ r.length ∧ (r.take x).all Val.valid = true) (fun x lz => (3, (.c (.d (.lit (.int .i64 x))))) :: lz) (fun x => []) (fun x => r.length - x) (0) ?_ ?_ ?_ ?_
    repeat' (first | exact slots_nil | refine kw ?_ | exact memIn_nil | omega)
    · exact ⟨by simp, by simp⟩
    rintro i c ⟨hi, hinv⟩
    by_cases hlt : i < r.length
    · have hv : r[i]? = some r[i] := List.getElem?_eq_getElem hlt
      generalize r[i] = v at hv
      repeat' (first | refine ks ?_ | refine ko ?_ | refine s_if rfl (fun hb => ?_) (fun hb => ?_) | refine s_indexD ?_ (hel := (by first | exact idx_map hv (by omega) | exact hv | exact rfl)) | refine s_call (refValid_c _) ?_ | refine kf ?_ | fail)
      · refine congrArg Dat.lit (congrArg Value.bool ?_)
        rw [rowOK, not_all Val.valid hv hb, Bool.and_false]
      · (apply s_round (i + 1); all_goals (try dsimp only); all_goals (try (repeat' (first | exact slots_nil | refine kw ?_ | exact memIn_nil | omega))))
        exact ⟨by omega, take_all _ hv hinv hb⟩
    · repeat' (first | refine ks ?_ | refine ko ?_ | refine s_if rfl (fun hb => ?_) (fun hb => ?_) | refine s_indexD ?_ (hel := (by first | exact rfl)) | refine kf ?_ | fail)
      refine congrArg Dat.lit (congrArg Value.bool ?_)
      rw [take_ge (by omega)] at hinv
      simp [rowOK, hinv, hl]
def rowCmp : List Val → List Val → Int
  | [], [] => 0
  | [], _ :: _ => -1
  | _ :: _, [] => 1
  | a :: x, b :: y => if a.cmp b = 0 then rowCmp x y else a.cmp b
theorem rowCmp_end (x y : List Val) (h : x = [] ∨ y = []) : rowCmp x y = icmp x.length y.length := by
  rcases h with rfl | rfl
  · cases y <;> simp [rowCmp, icmp]
  · cases x <;> simp [rowCmp, icmp]; omega
theorem refCompareRows_c (r s : List Val) : PCall Tryz.prog 182 [.one (rowD r), .one (rowD s)] (.v (.one (.lit (.int .i64 (rowCmp r s))))) := by
  refine pcallN hT Tryz.func182 Tryz.ntmps182 [.tmp 4] fun B => ?_
  refine k_len 0 rfl fun hlr => ?_
  refine k_len 1 rfl fun hls => ?_
  simp only [List.length_map, maxLen] at hlr hls
  repeat' (first | refine ks ?_ | refine ko ?_ | refine s_if rfl (fun hb => ?_) (fun hb => ?_) | refine s_indexD ?_ (hel := (by first | exact rfl)) | refine kf ?_ | refine s_split rfl rfl (fun hb => ?_) (fun hb => ?_))
  refine s_lp (X := Nat) [4, 5, 6, 7, 8, 9, 10, 11, 12, 13, 14, 15, 16, 17, 18, 19, 20, 21, 22, 23, 24, 25, 26, 27, 28, 29, 30] (fun x => x ≤ r.length ∧ x ≤ s.length ∧ rowCmp r s = rowCmp (r.drop x) (s.drop x)) (fun x lz => (5, (.c (.d (.lit (.int .i64 x))))) :: lz) (fun x => []) (fun x => r.length - x) (0) ?_ ?_ ?_ ?_
  repeat' (first | exact slots_nil | refine kw ?_ | exact memIn_nil | omega)
  · exact ⟨by simp, by simp, by simp⟩
  rintro i c ⟨hi, hj, hinv⟩
  by_cases hlt : i < r.length ∧ i < s.length
  · obtain ⟨hlt, hlt2⟩ := hlt
    have hv : r[i]? = some r[i] := List.getElem?_eq_getElem hlt
    generalize r[i] = a at hv
    have hu : s[i]? = some s[i] := List.getElem?_eq_getElem hlt2
    generalize s[i] = b at hu
    rw [drop_cons hv, drop_cons hu, rowCmp] at hinv
    repeat' (first | refine ks ?_ | refine ko ?_ | refine s_if rfl (fun hb => ?_) (fun hb => ?_) | refine s_indexD ?_ (hel := (by first | exact idx_map hv (by omega) | exact idx_map hu (by omega) | exact hv | exact hu | exact rfl)) | refine s_call (refCompare_c _ _) ?_ | refine kf ?_ | refine s_split rfl rfl (fun hb => ?_) (fun hb => ?_))
    · rw [hinv, if_neg hb]
    · (apply s_round (i + 1); all_goals (try dsimp only); all_goals (try (repeat' (first | exact slots_nil | refine kw ?_ | exact memIn_nil | omega))))
      try exact ⟨by omega, by omega, by rw [hinv, if_pos hb]⟩
  · have he : rowCmp r s = icmp r.length s.length := by
      rw [hinv, rowCmp_end _ _ (by simp only [List.drop_eq_nil_iff]; omega)]
      simp only [List.length_drop, icmp]
      (repeat' split) <;> omega
    repeat' (first | refine ks ?_ | refine ko ?_ | refine s_if rfl (fun hb => ?_) (fun hb => ?_) | refine s_indexD ?_ (hel := (by first | exact rfl)) | refine kf ?_ | refine s_split rfl rfl (fun hb => ?_) (fun hb => ?_))
    all_goals (rw [he, icmp])
    all_goals (refine congrArg Dat.lit (congrArg (Value.int _) ?_); (repeat' split) <;> omega)
theorem compareRows_c (r s : List Val) : PCall Tryz.prog 59 [.one (rowD r), .one (rowD s)] (.v (.one (.lit (.int .i64 (rowCmp r s))))) := by
  refine pcallN hT Tryz.func59 Tryz.ntmps59 [.tmp 4] fun B => ?_
  refine k_len 0 rfl fun hlr => ?_
  refine k_len 1 rfl fun hls => ?_
  simp only [List.length_map, maxLen] at hlr hls
  repeat' (first | refine ks ?_ | refine ko ?_ | refine s_if rfl (fun hb => ?_) (fun hb => ?_) | refine s_indexD ?_ (hel := (by first | exact rfl)) | refine kf ?_ | fail)
  have hm : (if (s.length : Int) < r.length then (s.length : Int) else r.length) = (min r.length s.length : Nat) := by
    split <;> omega
  simp only [hm]
  generalize hmn : min r.length s.length = m
  refine s_lp (X := Nat) [4, 5, 6, 12, 13, 14, 15, 16, 17, 18, 19, 20, 21, 22, 23, 24, 25, 26, 27] (fun x => x ≤ m ∧ rowCmp r s = rowCmp (r.drop x) (s.drop x)) (fun x lz => (12, (.c (.d (.lit (.int .i64 x))))) :: lz) (fun x => []) (fun x => m - x) (0) ?_ ?_ ?_ ?_
  repeat' (first | exact slots_nil | refine kw ?_ | exact memIn_nil | omega)
  · exact ⟨by simp, by simp⟩
  rintro i c ⟨hi, hinv⟩
  by_cases hlt : i < m
  · have hv : r[i]? = some r[i] := List.getElem?_eq_getElem (by omega)
    generalize r[i] = a at hv
    have hu : s[i]? = some s[i] := List.getElem?_eq_getElem (by omega)
    generalize s[i] = b at hu
    rw [drop_cons hv, drop_cons hu, rowCmp] at hinv
    repeat' (first | refine ks ?_ | refine ko ?_ | refine s_if rfl (fun hb => ?_) (fun hb => ?_) | refine s_indexD ?_ (hel := (by first | exact idx_map hv (by omega) | exact idx_map hu (by omega) | exact hv | exact hu | exact rfl)) | refine s_call (compare_c _ _) ?_ | refine kf ?_ | fail)
    · rw [hinv, if_neg hb]
    · (apply s_round (i + 1); all_goals (try dsimp only); all_goals (try (repeat' (first | exact slots_nil | refine kw ?_ | exact memIn_nil | omega))))
      try exact ⟨by omega, by rw [hinv, if_pos hb]⟩
  · have he : rowCmp r s = icmp r.length s.length := by
      rw [hinv, rowCmp_end _ _ (by simp only [List.drop_eq_nil_iff]; omega)]
      simp only [List.length_drop, icmp]
      (repeat' split) <;> omega
    repeat' (first | refine ks ?_ | refine ko ?_ | refine s_if rfl (fun hb => ?_) (fun hb => ?_) | refine s_indexD ?_ (hel := (by first | exact rfl)) | refine s_call (cmpInt_c _ _) ?_ | refine kf ?_ | fail)
    all_goals (rw [he])
end Go.Proofs.YtmpgmjlanngkfaaGreat
end
section
namespace Go.Proofs.YtmpgmjlanngkfaaGreat
open Go.Abs Go.RowKit
set_option linter.unusedSimpArgs false
set_option maxRecDepth 100000
theorem bagValid1_d : DeferOk Tryz.prog 95 0 := by
  refine ⟨⟨_, Tryz.func95, by kernel_rfl, by kernel_rfl⟩, fun vs w hl => ?_⟩
  match vs, hl with
  | [], _ =>
    refine callsD_of_wpS Tryz.func95 rfl fun c₀ cs hu => ?_
    apply wpS_region
    simp [wpOpsS, go_sem, recoverD, hu, Tryz.ntmps95, Exit.thenS]
    cases c₀
    simp_all [bodyPostS, results, Tryz.results95]
end Go.Proofs.YtmpgmjlanngkfaaGreat
end
section
namespace Go.Proofs.YtmpgmjlanngkfaaGreat
open Go.Abs Go.RowKit
attribute [local irreducible] ARun kont MCall PCall HCall resVal SF CF CFs defersOk slotsIn memIn fin finM VLe
set_option linter.unusedSimpArgs false
set_option maxRecDepth 100000
structure Entry where
  row : List Val
  count : Int
def Entry.d (e : Entry) : List Dat := [rowD e.row, .lit (.int .i64 e.count)]
def bagD (l : List Entry) : Dat := .sl (l.map Entry.d)
def countOK (n : Int) : Bool := decide (-262144 ≤ n) && decide (n ≤ 262144)
def Entry.ok (e : Entry) : Bool := rowOK e.row && countOK e.count && decide (e.count ≠ 0)
def goodFrom : Option Entry → List Entry → Bool
  | _, [] => true
  | p, e :: l => e.ok && (match p with | none => true | some q => decide (rowCmp q.row e.row < 0)) && goodFrom (some e) l
def bagValid (l : List Entry) : Bool := decide (l.length ≤ 4096) && goodFrom none l
def prevOf (l : List Entry) (i : Nat) : Option Entry := if i = 0 then none else l[i - 1]?
theorem countOK_c (n : Int) : PCall Tryz.prog 75 [.one (.lit (.int .i64 n))] (.v (.one (.lit (.bool (countOK n))))) := by
  refine pcallN hT Tryz.func75 Tryz.ntmps75 [.tmp 2] fun B => ?_
  repeat' (first | refine ks ?_ | refine ko ?_ | refine s_split rfl rfl (fun hb => ?_) (fun hb => ?_) | refine kf ?_ | fail)
  all_goals (refine congrArg Dat.lit (congrArg Value.bool ?_); simp_all [countOK]; try omega)
theorem inRange_c (n : Int) : PCall Tryz.prog 150 [.one (.lit (.int .i64 n))] (.v (.one (.lit (.bool (countOK n))))) := by
  refine pcallN hT Tryz.func150 Tryz.ntmps150 [.tmp 2] fun B => ?_
  repeat' (first | refine ks ?_ | refine ko ?_ | refine s_split rfl rfl (fun hb => ?_) (fun hb => ?_) | refine kf ?_ | fail)
  all_goals (refine congrArg Dat.lit (congrArg Value.bool ?_); simp_all [countOK]; try omega)
theorem validEntry_c (e : Entry) : PCall Tryz.prog 96 [.agg e.d] (.v (.one (.lit (.bool (countOK e.count && rowOK e.row))))) := by
  refine pcallN hT Tryz.func96 Tryz.ntmps96 [.tmp 2] fun B => ?_
  repeat' (first | refine ks ?_ | refine ko ?_ | refine s_call (inRange_c _) ?_ | refine s_call (validRow_c _) ?_ | refine s_split rfl rfl (fun hb => ?_) (fun hb => ?_) | refine kf ?_ | fail)
  all_goals (refine congrArg Dat.lit (congrArg Value.bool ?_); simp_all)
theorem good_step {l : List Entry} {i : Nat} {e : Entry} (h : l[i]? = some e) : goodFrom (prevOf l i) (l.drop i) = (e.ok && (match prevOf l i with | none => true | some q => decide (rowCmp q.row e.row < 0)) && goodFrom (prevOf l (i + 1)) (l.drop (i + 1))) := by
  rw [drop_cons h, goodFrom.eq_def]
  have : prevOf l (i + 1) = some e := by simp [prevOf, h]
  rw [this]
set_option maxHeartbeats 1000000 in
theorem bagValid_c (l : List Entry) : PCall Tryz.prog 47 [.one (bagD l)] (.v (.one (.lit (.bool (bagValid l))))) := by
  refine pcallN hT Tryz.func47 Tryz.ntmps47 [.tmp 2] fun B => ?_
  repeat' (first | refine ks ?_ | refine ko ?_ | refine s_if rfl (fun hb => ?_) (fun hb => ?_) | refine s_indexD ?_ (hel := (by first | exact rfl)) | refine kf ?_ | refine s_split rfl rfl (fun hb => ?_) (fun hb => ?_) | refine f_ret1 (by repeat (first | exact def_nil | refine def_cons bagValid1_d ?_)) ?_)
  · refine congrArg Dat.lit (congrArg Value.bool ?_)
    simp [bagValid]
    intros; omega
  · have hl : l.length ≤ 4096 := by omega
    refine s_lp (X := Nat) [2, 3, 4, 10, 11, 12, 13, 14, 15, 16, 17, 18, 19, 20, 21, 22, 23, 24, 25, 26, 27, 28, 29, 30, 31, 32, 33, 34, 35, 36, 37] (fun x => x ≤ l.length ∧ goodFrom none l = goodFrom (prevOf l x) (l.drop x)) (fun x lz => (10, (.c (.d (.lit (.int .i64 x))))) :: lz) (fun x => []) (fun x => l.length - x) (0) ?_ ?_ ?_ ?_
    repeat' (first | exact slots_nil | refine kw ?_ | exact memIn_nil | omega)
    · exact ⟨by simp, by simp [prevOf]⟩
    rintro i c ⟨hi, hinv⟩
    by_cases hlt : i < l.length
    · have hv : l[i]? = some l[i] := List.getElem?_eq_getElem hlt
      generalize l[i] = e at hv
      rw [good_step hv] at hinv
      rcases i with _ | j
      · have hp : prevOf l 0 = none := rfl
        rw [hp] at hinv
        repeat' (first | refine ks ?_ | refine ko ?_ | refine s_if rfl (fun hb => ?_) (fun hb => ?_) | refine s_indexD ?_ (hel := (by first | exact idx_map hv (by omega) | exact hv | exact rfl)) | refine s_call (validEntry_c _) ?_ | refine s_call (compareRows_c _ _) ?_ | refine kf ?_ | refine s_split rfl rfl (fun hb => ?_) (fun hb => ?_) | refine f_ret1 (by repeat (first | exact def_nil | refine def_cons bagValid1_d ?_)) ?_)
        all_goals first
          | (refine congrArg Dat.lit (congrArg Value.bool ?_); simp only [bagValid, hinv, Entry.ok]; cases h1 : rowOK e.row <;> cases h2 : countOK e.count <;> simp_all <;> done)
          | (refine congrArg Dat.lit (congrArg Value.bool ?_); simp only [bagValid, hinv]; simp; intros; omega)
          | ((apply s_round (1); all_goals (try dsimp only); all_goals (try (repeat' (first | exact slots_nil | refine kw ?_ | exact memIn_nil | omega)))); (try exact ⟨by omega, by rw [hinv]; simp_all [Entry.ok]⟩))
      · have hu : l[j]? = some l[j] := List.getElem?_eq_getElem (by omega)
        generalize l[j] = p at hu
        have hp : prevOf l (j + 1) = some p := by simp [prevOf, hu]
        rw [hp] at hinv
        repeat' (first | refine ks ?_ | refine ko ?_ | refine s_if rfl (fun hb => ?_) (fun hb => ?_) | refine s_indexD ?_ (hel := (by first | exact idx_map hv (by omega) | exact idx_map hu (by omega) | exact hv | exact hu | exact rfl)) | refine s_call (validEntry_c _) ?_ | refine s_call (compareRows_c _ _) ?_ | refine kf ?_ | refine s_split rfl rfl (fun hb => ?_) (fun hb => ?_) | refine f_ret1 (by repeat (first | exact def_nil | refine def_cons bagValid1_d ?_)) ?_)
        all_goals first
          | (refine congrArg Dat.lit (congrArg Value.bool ?_); simp only [bagValid, hinv, Entry.ok]; cases h1 : rowOK e.row <;> cases h2 : countOK e.count <;> simp_all <;> done)
          | (refine congrArg Dat.lit (congrArg Value.bool ?_); simp only [bagValid, hinv]; simp; intros; omega)
          | ((apply s_round (j + 1 + 1); all_goals (try dsimp only); all_goals (try (repeat' (first | exact slots_nil | refine kw ?_ | exact memIn_nil | omega)))); (try exact ⟨by omega, by rw [hinv]; simp_all [Entry.ok]⟩))
    · repeat' (first | refine ks ?_ | refine ko ?_ | refine s_if rfl (fun hb => ?_) (fun hb => ?_) | refine s_indexD ?_ (hel := (by first | exact rfl)) | refine kf ?_ | refine s_split rfl rfl (fun hb => ?_) (fun hb => ?_) | refine f_ret1 (by repeat (first | exact def_nil | refine def_cons bagValid1_d ?_)) ?_)
      refine congrArg Dat.lit (congrArg Value.bool ?_)
      rw [List.drop_eq_nil_of_le (by omega)] at hinv
      simp [bagValid, hinv, hl, goodFrom]
def mergeE : List Entry → List Entry → List Entry
  | [], b => b
  | a, [] => a
  | x :: a, y :: b =>
    if rowCmp x.row y.row < 0 then x :: mergeE a (y :: b)
    else if 0 < rowCmp x.row y.row then y :: mergeE (x :: a) b
    else (if x.count + y.count = 0 then [] else [⟨x.row, x.count + y.count⟩]) ++ mergeE a b
  termination_by a b => a.length + b.length
theorem mergeE_len (a b : List Entry) : (mergeE a b).length ≤ a.length + b.length := by
  induction a, b using mergeE.induct with
  | case1 b => simp [mergeE]
  | case2 a h => simp [mergeE]
  | case3 x a y b h ih => rw [mergeE, if_pos h]; simp at ih ⊢; omega
  | case4 x a y b h1 h2 ih => rw [mergeE, if_neg h1, if_pos h2]; simp at ih ⊢; omega
  | case5 x a y b h1 h2 ih => rw [mergeE, if_neg h1, if_neg h2]; simp at ih ⊢; split <;> simp <;> omega
def within (M : Int) (l : List Entry) : Prop := ∀ e ∈ l, -M ≤ e.count ∧ e.count ≤ M
theorem within_mono {M M' : Int} {l : List Entry} (h : within M l) (hm : M ≤ M') : within M' l := fun e he => by have := h e he; omega
theorem mergeE_within {M N : Int} (hM : 0 ≤ M) (hN : 0 ≤ N) (a b : List Entry) : within M a → within N b → within (M + N) (mergeE a b) := by
  induction a, b using mergeE.induct with
  | case1 b => intro _ hb; rw [mergeE]; exact within_mono hb (by omega)
  | case2 a h => intro ha _; rw [mergeE]; exact within_mono ha (by omega); exact h
  | case3 x a y b h ih =>
    intro ha hb
    rw [mergeE, if_pos h]
    have := ih (fun e he => ha e (by simp [he])) hb
    intro e he
    rcases List.mem_cons.1 he with rfl | he
    · have := ha e (by simp); omega
    · exact this e he
  | case4 x a y b h1 h2 ih =>
    intro ha hb
    rw [mergeE, if_neg h1, if_pos h2]
    have := ih ha (fun e he => hb e (by simp [he]))
    intro e he
    rcases List.mem_cons.1 he with rfl | he
    · have := hb e (by simp); omega
    · exact this e he
  | case5 x a y b h1 h2 ih =>
    intro ha hb
    rw [mergeE, if_neg h1, if_neg h2]
    have := ih (fun e he => ha e (by simp [he])) (fun e he => hb e (by simp [he]))
    intro e he
    rcases List.mem_append.1 he with he | he
    · have q1 := ha x (by simp)
      have q2 := hb y (by simp)
      split at he
      · simp at he
      · simp at he; subst he; simp only; omega
    · exact this e he
theorem drop_nil {α : Type} {l : List α} {i : Nat} (h : l.length ≤ i) : l.drop i = [] := List.drop_eq_nil_of_le h
theorem merge_c (a b : List Entry) (ha : a.length ≤ 100000000) (hb' : b.length ≤ 100000000) (sa : within 1152921504606846976 a) (sb : within 1152921504606846976 b) : PCall Tryz.prog 131 [.one (bagD a), .one (bagD b)] (.v (.one (bagD (mergeE a b)))) := by
  refine pcallN hT Tryz.func131 Tryz.ntmps131 [.tmp 4] fun B => ?_
  repeat' (first | refine ks ?_ | refine ko ?_ | refine s_if rfl (fun hb => ?_) (fun hb => ?_) | refine s_indexD ?_ (hel := (by first | exact rfl)) | refine kf ?_ | refine kg ?_ ?_ | fail)
  refine s_own 5 56 2 ?_
  refine s_lp (X := Nat × Nat × Nat × List Entry) [5, 6, 7, 8, 9, 10, 11, 12, 13, 14, 15, 16, 17, 18, 19, 20, 21, 22, 23, 24, 25, 26, 27, 28, 29, 30, 31, 32, 33, 34, 35, 36, 37, 38, 39, 40, 41, 42, 43, 44, 45, 46, 47, 48, 49, 50, 51, 52, 53, 54, 55, 56, 57, 58, 59, 60, 61, 62, 63, 64, 65, 66, 67, 68, 69, 70, 71, 72, 73, 74, 75, 76, 77, 78, 79, 80, 81, 82, 83, 84, 85, 86, 87, 88, 89, 90, 91] (fun x => x.1 ≤ a.length ∧ x.2.1 ≤ b.length ∧ x.2.2.2 ++ mergeE (a.drop x.1) (b.drop x.2.1) = mergeE a b) (fun x lz => (5, .c (.arr 0 x.2.2.1 x.2.2.2.length)) :: (6, (.c (.d (.lit (.int .i64 x.1))))) :: (7, (.c (.d (.lit (.int .i64 x.2.1))))) :: lz) (fun x => [.arr x.2.2.1 56 2 (x.2.2.2.map Entry.d)]) (fun x => (a.length - x.1) + (b.length - x.2.1)) ((0, 0, 1, [])) ?_ ?_ ?_ ?_
  repeat' (first | exact slots_nil | refine kw ?_ | exact memIn_nil | refine kv ?_ ?_ | omega)
  · exact ⟨by simp, by simp, by simp⟩
  rintro ⟨i, j, k, out⟩ c ⟨hi, hj, hinv⟩
  dsimp only at hi hj hinv ⊢
  have hol : out.length ≤ a.length + b.length := by
    have := congrArg List.length hinv
    have h2 := mergeE_len a b
    simp at this; omega
  by_cases hlt : i < a.length
  · have hv : a[i]? = some a[i] := List.getElem?_eq_getElem hlt
    obtain ⟨hs1, hs2⟩ := sa _ (List.getElem_mem hlt)
    generalize a[i] = x at hv hs1 hs2
    rw [drop_cons hv] at hinv
    by_cases hlt2 : j < b.length
    · have hu : b[j]? = some b[j] := List.getElem?_eq_getElem hlt2
      obtain ⟨hs3, hs4⟩ := sb _ (List.getElem_mem hlt2)
      generalize b[j] = y at hu hs3 hs4
      rw [drop_cons hu, mergeE] at hinv
      repeat' (first | refine ks ?_ | refine ko ?_ | refine s_if rfl (fun hb => ?_) (fun hb => ?_) | refine s_indexD ?_ (hel := (by first | exact idx_map hv (by omega) | exact idx_map hu (by omega) | exact hv | exact hu | exact rfl)) | refine s_call (refCompareRows_c _ _) ?_ | refine kf ?_ | refine kg ?_ ?_ | fail)
      · (apply s_round ((i + 1, j, _, out ++ [x])); all_goals (try dsimp only); all_goals (try (repeat' (first | exact slots_nil | refine w1 ?_ | exact memIn_nil | refine memIn_same ?_ | refine m1 ?_ ?_ | omega))))
        · rw [List.map_append]; rfl
        · refine ⟨by omega, by omega, ?_⟩
          rw [if_pos hb] at hinv; rw [← hinv, drop_cons hu, List.append_assoc]; rfl
      · (apply s_round ((i, j + 1, _, out ++ [y])); all_goals (try dsimp only); all_goals (try (repeat' (first | exact slots_nil | refine w1 ?_ | exact memIn_nil | refine memIn_same ?_ | refine m1 ?_ ?_ | omega))))
        · rw [List.map_append]; rfl
        · refine ⟨by omega, by omega, ?_⟩
          rw [if_neg (by omega), if_pos hb] at hinv; rw [← hinv, drop_cons hv, List.append_assoc]; rfl
      · (apply s_round ((i + 1, j + 1, _, out ++ [⟨x.row, x.count + y.count⟩])); all_goals (try dsimp only); all_goals (try (repeat' (first | exact slots_nil | refine w1 ?_ | exact memIn_nil | refine memIn_same ?_ | refine m1 ?_ ?_ | omega))))
        · rw [List.map_append]; rfl
        · refine ⟨by omega, by omega, ?_⟩
          rw [if_neg (by omega), if_neg (by omega), if_neg hb] at hinv; rw [← hinv, List.append_assoc]
      · (apply s_round ((i + 1, j + 1, _, out)); all_goals (try dsimp only); all_goals (try (repeat' (first | exact slots_nil | refine w1 ?_ | exact memIn_nil | refine memIn_same ?_ | refine m1 ?_ ?_ | omega))))
        refine ⟨by omega, by omega, ?_⟩
        rw [if_neg (by omega), if_neg (by omega), if_pos hb] at hinv; rw [← hinv]; rfl
    · rw [drop_nil (show b.length ≤ j by omega), mergeE] at hinv
      · repeat' (first | refine ks ?_ | refine ko ?_ | refine s_if rfl (fun hb => ?_) (fun hb => ?_) | refine s_indexD ?_ (hel := (by first | exact idx_map hv (by omega) | exact hv | exact rfl)) | refine s_call (refCompareRows_c _ _) ?_ | refine kf ?_ | refine kg ?_ ?_ | fail)
        (apply s_round ((i + 1, j, _, out ++ [x])); all_goals (try dsimp only); all_goals (try (repeat' (first | exact slots_nil | refine w1 ?_ | exact memIn_nil | refine memIn_same ?_ | refine m1 ?_ ?_ | omega))))
        · rw [List.map_append]; rfl
        · refine ⟨by omega, by omega, ?_⟩
          rw [← hinv, drop_nil (show b.length ≤ j by omega), List.append_assoc]
          cases h : List.drop (i + 1) a <;> simp [mergeE]
      · simp
  · by_cases hlt2 : j < b.length
    · have hu : b[j]? = some b[j] := List.getElem?_eq_getElem hlt2
      generalize b[j] = y at hu
      rw [drop_nil (show a.length ≤ i by omega), drop_cons hu, mergeE] at hinv
      repeat' (first | refine ks ?_ | refine ko ?_ | refine s_if rfl (fun hb => ?_) (fun hb => ?_) | refine s_indexD ?_ (hel := (by first | exact idx_map hu (by omega) | exact hu | exact rfl)) | refine s_call (refCompareRows_c _ _) ?_ | refine kf ?_ | refine kg ?_ ?_ | fail)
      (apply s_round ((i, j + 1, _, out ++ [y])); all_goals (try dsimp only); all_goals (try (repeat' (first | exact slots_nil | refine w1 ?_ | exact memIn_nil | refine memIn_same ?_ | refine m1 ?_ ?_ | omega))))
      · rw [List.map_append]; rfl
      · refine ⟨by omega, by omega, ?_⟩
        rw [← hinv, drop_nil (show a.length ≤ i by omega), mergeE, List.append_assoc]; rfl
    · rw [drop_nil (show a.length ≤ i by omega), drop_nil (show b.length ≤ j by omega), mergeE, List.append_nil] at hinv
      repeat' (first | refine ks ?_ | refine ko ?_ | refine s_if rfl (fun hb => ?_) (fun hb => ?_) | refine s_indexD ?_ (hel := (by first | exact rfl)) | refine kf ?_ | refine kg ?_ ?_ | fail)
      · simp
      · rw [← hinv, take_ge (by simp)]; rfl
def sortE (l : List Entry) : List Entry :=
  if h : l.length ≤ 1 then l.filter (fun e => decide (e.count ≠ 0))
  else mergeE (sortE (l.take (l.length / 2))) (sortE (l.drop (l.length / 2)))
  termination_by l.length
  decreasing_by
    · simp; omega
    · simp; omega
theorem sortE_len (l : List Entry) : (sortE l).length ≤ l.length := by
  induction l using sortE.induct with
  | case1 l h => rw [sortE, dif_pos h]; exact List.length_filter_le ..
  | case2 l h ih1 ih2 =>
    rw [sortE, dif_neg h]
    have := mergeE_len (sortE (l.take (l.length / 2))) (sortE (l.drop (l.length / 2)))
    simp at ih1 ih2 ⊢
    omega
theorem sortE_within (l : List Entry) : within 262144 l → within (262144 * l.length) (sortE l) := by
  induction l using sortE.induct with
  | case1 l h =>
    intro hw
    rw [sortE, dif_pos h]
    intro e he
    have hm := (List.mem_filter.1 he).1
    have := hw e hm
    have hl : 1 ≤ l.length := by cases l <;> simp at hm ⊢
    omega
  | case2 l h ih1 ih2 =>
    intro hw
    rw [sortE, dif_neg h]
    have q1 := ih1 (fun e he => hw e (List.mem_of_mem_take he))
    have q2 := ih2 (fun e he => hw e (List.mem_of_mem_drop he))
    refine within_mono (mergeE_within (by omega) (by omega) _ _ q1 q2) ?_
    simp; omega
theorem sort_c : ∀ (n : Nat) (l : List Entry), l.length ≤ n → l.length ≤ 1000000 → within 262144 l → PCall Tryz.prog 77 [.one (bagD l)] (.v (.one (bagD (sortE l)))) := by
  intro n
  induction n with
  | zero =>
    intro l hl _ _
    have : l = [] := List.eq_nil_of_length_eq_zero (by omega)
    subst this
    refine pcallN hT Tryz.func77 Tryz.ntmps77 [.tmp 2] fun B => ?_
    repeat' (first | refine ks ?_ | refine ko ?_ | refine s_if rfl (fun hb => ?_) (fun hb => ?_) | refine s_indexD ?_ (hel := (by first | exact rfl)) | refine kf ?_ | fail)
    rw [sortE]; rfl
  | succ n ih =>
    intro l hl hbig hw
    by_cases h1 : l.length ≤ 1
    · match l, h1 with
      | [], _ =>
        refine pcallN hT Tryz.func77 Tryz.ntmps77 [.tmp 2] fun B => ?_
        repeat' (first | refine ks ?_ | refine ko ?_ | refine s_if rfl (fun hb => ?_) (fun hb => ?_) | refine s_indexD ?_ (hel := (by first | exact rfl)) | refine kf ?_ | fail)
        rw [sortE]; rfl
      | [e], _ =>
        refine pcallN hT Tryz.func77 Tryz.ntmps77 [.tmp 2] fun B => ?_
        repeat' (first | refine ks ?_ | refine ko ?_ | refine s_if rfl (fun hb => ?_) (fun hb => ?_) | refine s_indexD ?_ (hel := (by first | exact rfl)) | refine kf ?_ | fail)
        all_goals (rw [sortE, dif_pos (by simp)]; simp [hb] <;> rfl)
    · have hS := sortE_len
      have e : sortE l = mergeE (sortE (l.take (l.length / 2))) (sortE (l.drop (l.length / 2))) := by rw [sortE, dif_neg h1]
      have w1 : within 262144 (l.take (l.length / 2)) := fun e he => hw e (List.mem_of_mem_take he)
      have w2 : within 262144 (l.drop (l.length / 2)) := fun e he => hw e (List.mem_of_mem_drop he)
      have c1 := ih (l.take (l.length / 2)) (by simp; omega) (by simp; omega) w1
      have c2 := ih (l.drop (l.length / 2)) (by simp; omega) (by simp; omega) w2
      have l1 := hS (l.take (l.length / 2))
      have l2 := hS (l.drop (l.length / 2))
      simp only [List.length_take, List.length_drop] at l1 l2
      have v1 := sortE_within _ w1
      have v2 := sortE_within _ w2
      simp only [List.length_take, List.length_drop] at v1 v2
      have c3 := merge_c (sortE (l.take (l.length / 2))) (sortE (l.drop (l.length / 2))) (by omega) (by omega) (within_mono v1 (by omega)) (within_mono v2 (by omega))
      clear ih hS w1 w2 v1 v2 hw
      refine pcallN hT Tryz.func77 Tryz.ntmps77 [.tmp 2] fun B => ?_
      repeat' (first | refine ks ?_ | refine ko ?_ | refine s_if rfl (fun hb => ?_) (fun hb => ?_) | refine s_indexD ?_ (hel := (by first | exact rfl)) | refine s_call (c1) ?_ | refine s_call (c2) ?_ | refine s_call (c3) ?_ | refine kf ?_ | fail)
      rw [e]
def fitsE (l : List Entry) : List Entry × Int := if 4096 < l.length then ([], 8) else if l.all (fun e => countOK e.count) then (l, 0) else ([], 9)
theorem fits_c (l : List Entry) : PCall Tryz.prog 76 [.one (bagD l)] (.tup [.one (bagD (fitsE l).1), .one (.lit (.int .i64 (fitsE l).2))]) := by
  refine pcallN hT Tryz.func76 Tryz.ntmps76 [.tmp 2, .tmp 3] fun B => ?_
  repeat' (first | refine ks ?_ | refine ko ?_ | refine s_if rfl (fun hb => ?_) (fun hb => ?_) | refine s_indexD ?_ (hel := (by first | exact rfl)) | refine kg ?_ ?_ | refine kf ?_ | fail)
  all_goals try (first | (rw [fitsE, if_pos (by omega)]; rfl) | (rw [fitsE, if_pos (by omega)]))
  have hl : l.length ≤ 4096 := by omega
  refine s_lp (X := Nat) [2, 3, 4, 8, 9, 10, 11, 12, 13, 14, 15, 16, 17, 18, 19, 20] (fun x => x ≤ l.length ∧ (l.take x).all (fun e => countOK e.count) = true) (fun x lz => (4, (.c (.d (.lit (.int .i64 x))))) :: lz) (fun x => []) (fun x => l.length - x) (0) ?_ ?_ ?_ ?_
  repeat' (first | exact slots_nil | refine kw ?_ | exact memIn_nil | omega)
  · exact ⟨by simp, by simp⟩
  rintro i c ⟨hi, hinv⟩
  by_cases hlt : i < l.length
  · have hv : l[i]? = some l[i] := List.getElem?_eq_getElem hlt
    generalize l[i] = e at hv
    repeat' (first | refine ks ?_ | refine ko ?_ | refine s_if rfl (fun hb => ?_) (fun hb => ?_) | refine s_indexD ?_ (hel := (by first | exact idx_map hv (by omega) | exact hv | exact rfl)) | refine s_call (countOK_c _) ?_ | refine kg ?_ ?_ | refine kf ?_ | fail)
    · rw [fitsE, if_neg (by omega), not_all (fun e : Entry => countOK e.count) hv hb]; rfl
    · rw [fitsE, if_neg (by omega), not_all (fun e : Entry => countOK e.count) hv hb]; rfl
    · (apply s_round (i + 1); all_goals (try dsimp only); all_goals (try (repeat' (first | exact slots_nil | refine kw ?_ | exact memIn_nil | omega))))
      exact ⟨by omega, take_all (fun e : Entry => countOK e.count) hv hinv hb⟩
  · rw [take_ge (by omega)] at hinv
    repeat' (first | refine ks ?_ | refine ko ?_ | refine s_if rfl (fun hb => ?_) (fun hb => ?_) | refine s_indexD ?_ (hel := (by first | exact rfl)) | refine kg ?_ ?_ | refine kf ?_ | fail)
    all_goals (rw [fitsE, if_neg (by omega), hinv]; rfl)
def entryIn (e : Entry) : Bool := rowOK e.row && countOK e.count
def normE (l : List Entry) : List Entry × Int := if l.all entryIn then fitsE (sortE l) else ([], 1)
theorem normalize_c (l : List Entry) (hlen : l.length ≤ 1000000) : PCall Tryz.prog 33 [.one (bagD l)] (.tup [.one (bagD (normE l).1), .one (.lit (.int .i64 (normE l).2))]) := by
  refine pcallN hT Tryz.func33 Tryz.ntmps33 [.tmp 2, .tmp 3] fun B => ?_
  repeat' (first | refine ks ?_ | refine ko ?_ | refine s_if rfl (fun hb => ?_) (fun hb => ?_) | refine s_indexD ?_ (hel := (by first | exact rfl)) | refine s_split rfl rfl (fun hb => ?_) (fun hb => ?_) | refine kg ?_ ?_ | refine kf ?_ | fail)
  refine s_lp (X := Nat) [2, 3, 4, 5, 6, 7, 8, 9, 10, 11, 12, 13, 14, 15, 16, 17, 18, 19, 20, 21, 22, 23, 24, 25, 26] (fun x => x ≤ l.length ∧ (l.take x).all entryIn = true) (fun x lz => (4, (.c (.d (.lit (.int .i64 x))))) :: lz) (fun x => []) (fun x => l.length - x) (0) ?_ ?_ ?_ ?_
  repeat' (first | exact slots_nil | refine kw ?_ | exact memIn_nil | omega)
  · exact ⟨by simp, by simp⟩
  rintro i c ⟨hi, hinv⟩
  by_cases hlt : i < l.length
  · have hv : l[i]? = some l[i] := List.getElem?_eq_getElem hlt
    generalize l[i] = e at hv
    repeat' (first | refine ks ?_ | refine ko ?_ | refine s_if rfl (fun hb => ?_) (fun hb => ?_) | refine s_indexD ?_ (hel := (by first | exact idx_map hv (by omega) | exact hv | exact rfl)) | refine s_call (countOK_c _) ?_ | refine s_call (refValidRow_c _) ?_ | refine s_split rfl rfl (fun hb => ?_) (fun hb => ?_) | refine kg ?_ ?_ | refine kf ?_ | fail)
    all_goals first
      | (rw [normE, not_all entryIn hv (by simp_all [entryIn])]; rfl)
      | ((apply s_round (i + 1); all_goals (try dsimp only); all_goals (try (repeat' (first | exact slots_nil | refine kw ?_ | exact memIn_nil | omega)))); exact ⟨by omega, take_all entryIn hv hinv (by simp_all [entryIn])⟩)
  · rw [take_ge (by omega)] at hinv
    have hw : within 262144 l := by
      intro e he
      have := List.all_eq_true.1 hinv e he
      simp [entryIn, countOK] at this
      omega
    repeat' (first | refine ks ?_ | refine ko ?_ | refine s_if rfl (fun hb => ?_) (fun hb => ?_) | refine s_indexD ?_ (hel := (by first | exact rfl)) | refine s_call (sort_c l.length l (Nat.le_refl _) hlen hw) ?_ | refine s_call (fits_c _) ?_ | refine s_split rfl rfl (fun hb => ?_) (fun hb => ?_) | refine kg ?_ ?_ | refine kf ?_ | fail)
    all_goals (rw [normE, hinv]; rfl)
end Go.Proofs.YtmpgmjlanngkfaaGreat
end
