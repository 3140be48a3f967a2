/-
  The tape's bag of rows with positive multiplicities.
-/
import Derived.Test.YtmpgmjlanngkfaaGreatTny
section
section
namespace Go.Proofs.YtmpgmjlanngkfaaGreat
open Go.Abs Go.RowKit
attribute [local irreducible] ARun kont MCall PCall HCall resVal SF CF CFs defersOk slotsIn memIn fin finM VLe
set_option linter.unusedSimpArgs false
set_option maxRecDepth 100000
set_option maxHeartbeats 4000000

theorem null_valid : Val.null.valid = true := by decide +kernel

theorem map_at {α β : Type} {f g : α → β} {l : List α} {i : Nat} {e : α} (h : l[i]? = some e) : ((l.take i).map f ++ (l.drop i).map g)[i]? = some (g e) := by
  have hlt := lt_of_getElem? h
  rw [List.getElem?_append_right (by simp; omega), List.length_map, List.length_take, Nat.min_eq_left (by omega), Nat.sub_self, drop_cons h]; rfl
theorem map_set {α β : Type} {f g : α → β} {l : List α} {i : Nat} {e : α} (h : l[i]? = some e) : ((l.take i).map f ++ (l.drop i).map g).set i (f e) = (l.take (i + 1)).map f ++ (l.drop (i + 1)).map g := by
  have hlt := lt_of_getElem? h
  have hl : ((l.take i).map f).length = i := by simp; omega
  rw [take_map f h, drop_cons h, List.set_append_right _ _ (by omega), hl, Nat.sub_self, List.append_assoc]; rfl
theorem set_same {β : Type} {l : List β} {i : Nat} {v : β} (h : l[i]? = some v) : l.set i v = l := by
  apply List.ext_getElem?
  intro j
  by_cases hj : i = j
  · subst hj; rw [List.getElem?_set_self (lt_of_getElem? h), h]
  · rw [List.getElem?_set_ne hj]

theorem short_valid (t : Tape) : t.short.valid = true := by
  have h : ∀ v ∈ shortVals, v.valid = true := by
    intro v hv
    simp only [shortVals, List.mem_cons, List.not_mem_nil, or_false] at hv
    rcases hv with rfl | rfl | rfl | rfl | rfl | rfl
    · exact null_valid
    all_goals exact clean_valid' _
  unfold Tape.short
  rw [List.getD_eq_getElem?_getD]
  cases hq : shortVals[(t.nx 6).toNat]? with
  | none => exact null_valid
  | some v => exact h v (List.mem_of_getElem? hq)

theorem num_bd (t : Tape) : -3 ≤ t.num ∧ t.num ≤ 3 := by
  have h : ∀ z ∈ entNums, -3 ≤ z ∧ z ≤ 3 := by decide
  unfold Tape.num
  rw [List.getD_eq_getElem?_getD]
  cases hq : entNums[(t.nx 8).toNat]? with
  | none => decide
  | some v => exact h v (List.mem_of_getElem? hq)

theorem rowS_valid (t : Tape) : ∀ j, ∀ v ∈ (rowS t j).1, v.valid = true
  | 0 => by simp [rowS]
  | j + 1 => by
    intro v hv
    rw [rowS] at hv
    rcases List.mem_append.1 hv with hv | hv
    · exact rowS_valid t j v hv
    · obtain rfl := List.mem_singleton.1 hv; exact short_valid _

theorem rowS_len (t : Tape) : ∀ j, (rowS t j).1.length = j
  | 0 => rfl
  | j + 1 => by rw [rowS]; simp [rowS_len t j]

theorem entS_good (t : Tape) (w : Nat) (hw : w ≤ 16) : ∀ m, ∀ e ∈ (entS t w m).1, rowOK e.row = true ∧ -3 ≤ e.count ∧ e.count ≤ 3
  | 0 => by simp [entS]
  | m + 1 => by
    intro e he
    rw [entS] at he
    rcases List.mem_append.1 he with he | he
    · exact entS_good t w hw m e he
    · obtain rfl := List.mem_singleton.1 he
      refine ⟨?_, num_bd _⟩
      simp only [rowOK, Bool.and_eq_true, decide_eq_true_eq, List.all_eq_true]
      exact ⟨by rw [rowS_len]; exact hw, rowS_valid _ _⟩

theorem entS_wid (t : Tape) (w : Nat) : ∀ m, ∀ e ∈ (entS t w m).1, e.row.length = w
  | 0 => by simp [entS]
  | m + 1 => by
    intro e he
    rw [entS] at he
    rcases List.mem_append.1 he with he | he
    · exact entS_wid t w m e he
    · obtain rfl := List.mem_singleton.1 he
      exact rowS_len _ _

theorem sortE_withinM (M : Int) (hM : 0 ≤ M) (l : List Entry) : within M l → within (M * l.length) (sortE l) := by
  induction l using sortE.induct with
  | case1 l h =>
    intro hw
    rw [sortE, dif_pos h]
    intro e he
    have hm := (List.mem_filter.1 he).1
    have := hw e hm
    have hl : l.length = 1 := by cases l <;> simp at hm h ⊢; omega
    rw [hl]; omega
  | case2 l h ih1 ih2 =>
    intro hw
    rw [sortE, dif_neg h]
    have q1 := ih1 (fun e he => hw e (List.mem_of_mem_take he))
    have q2 := ih2 (fun e he => hw e (List.mem_of_mem_drop he))
    have p1 := Int.mul_nonneg hM (show (0 : Int) ≤ ((l.take (l.length / 2)).length : Int) by omega)
    have p2 := Int.mul_nonneg hM (show (0 : Int) ≤ ((l.drop (l.length / 2)).length : Int) by omega)
    refine within_mono (mergeE_within p1 p2 _ _ q1 q2) ?_
    rw [← Int.mul_add]
    refine Int.mul_le_mul_of_nonneg_left ?_ hM
    simp; omega

/-- The bag of a list of few small entries. -/
theorem norm_small {l : List Entry} (h : ∀ e ∈ l, rowOK e.row = true ∧ -3 ≤ e.count ∧ e.count ≤ 3) (hl : l.length ≤ 1000) : (normE l).2 = 0 ∧ bagValid (normE l).1 = true ∧ within 3000 (normE l).1 ∧ (normE l).1.length ≤ l.length := by
  have hall : l.all entryIn = true := List.all_eq_true.2 fun e he => by
    obtain ⟨h1, h2, h3⟩ := h e he
    simp only [entryIn, countOK, Bool.and_eq_true, decide_eq_true_eq]
    exact ⟨h1, by omega, by omega⟩
  have hw : within (3 * l.length) (sortE l) := sortE_withinM 3 (by omega) l (fun e he => (h e he).2)
  have hw2 : within 3000 (sortE l) := within_mono hw (by omega)
  have hlen := sortE_len l
  have hz : (normE l).2 = 0 := by
    rw [normE, if_pos hall, fitsE, if_neg (by omega), if_pos]
    refine List.all_eq_true.2 fun e he => ?_
    have := hw2 e he
    simp only [countOK, Bool.and_eq_true, decide_eq_true_eq]
    omega
  obtain ⟨g1, g2, g3, g4⟩ := norm_good hz
  rw [g1]
  exact ⟨hz, g3, hw2, hlen⟩

def absE (sg : Bool) (e : Entry) : Entry := if sg = false ∧ e.count < 0 then ⟨e.row, -e.count⟩ else e

end Go.Proofs.YtmpgmjlanngkfaaGreat
end
section
section
namespace Go.Proofs.YtmpgmjlanngkfaaGreat
open Go.Abs Go.RowKit
attribute [local irreducible] ARun kont MCall PCall HCall resVal SF CF CFs defersOk slotsIn memIn fin finM VLe
set_option linter.unusedSimpArgs false
set_option maxRecDepth 100000
set_option maxHeartbeats 4000000

def txts : List ByteArray := [⟨#[97]⟩, ⟨#[98]⟩, ⟨#[]⟩, ⟨#[97, 98]⟩, ⟨#[97, 32, 98]⟩, ⟨#[120, 0, 121]⟩, ⟨#[255, 34, 92]⟩, ⟨#[98, 32, 97, 32, 98]⟩, ⟨#[108, 111, 110, 103, 32, 116, 101, 120, 116, 32, 111, 102, 32, 116, 104, 105, 114, 116, 121, 45, 116, 119, 111, 32, 98, 121, 116, 101, 115, 32, 105, 116]⟩, ⟨#[66]⟩]
def sD (s : ByteArray) : List Dat := [.lit (.string s)]
def ints : List Int := [0, 1, 2, 3, -1, -2, 7, 100, 4294967296, -4294967296, 5, 4]
def Tape.text (t : Tape) : Val := Val.ofText (txts.getD (t.nx 10).toNat ⟨#[]⟩)
def Tape.int (t : Tape) : Val := Val.ofInt (ints.getD (t.nx 12).toNat 0)

theorem text_h (t : Tape) (ht : t.ok) : HCall Tryz.prog 127 [.c (.bp 0 0 0)] [(.box 0 [.d (numD (t).l), .d (.lit (.int .i64 (t).at_))])] (.agg (t.text.d.map .d)) [(.box 0 [.d (numD (t.go 10).l), .d (.lit (.int .i64 (t.go 10).at_))])] := by
  have hn := next_h t 10 ht (by omega) (by omega)
  obtain ⟨b1, b2⟩ := t.nx_bd 10
  have hv : txts[(t.nx 10).toNat]? = some (txts.getD (t.nx 10).toNat ⟨#[]⟩) := by
    rw [List.getD_eq_getElem?_getD, List.getElem?_eq_getElem (by simp [txts]; omega)]; rfl
  have hv1 : (txts.map sD)[(t.nx 10).toNat]? = some (sD (txts.getD (t.nx 10).toNat ⟨#[]⟩)) := by rw [List.getElem?_map, hv]; rfl
  have hr := refText_c (txts.getD (t.nx 10).toNat ⟨#[]⟩)
  change PCall _ _ _ (.v (.agg t.text.d)) at hr
  generalize txts.getD (t.nx 10).toNat ⟨#[]⟩ = s at hv hv1 hr
  generalize t.nx 10 = z at hn b1 b2 hv hv1
  generalize t.go 10 = t' at hn
  refine hcallN hT Tryz.func127 Tryz.ntmps127 [.cell 2 73] fun B => ?_
  repeat' (first | (with_reducible (first | refine k_seq ?_ | refine k_ret ?_ | refine n_seq ?_)) | refine s_reg ?_ | refine r_end ?_ | refine s_move ?_ | refine s_loadF1 ?_ | refine s_indexD ?_ (hel := (by first | exact idx_map hv1 (by omega) | exact hv1 | exact rfl)) | refine s_call (hr) ?_ | refine s_callH [0] (hn) ?_ | refine s_storeB ?_ | refine s_bslice ?_ | refine s_alloc ?_ | refine fh_cellG def_nil ?_ ?_ | exact memIn_nil | refine memIn_same ?_ | exact am_same)

theorem int_h (t : Tape) (ht : t.ok) : HCall Tryz.prog 128 [.c (.bp 0 0 0)] [(.box 0 [.d (numD (t).l), .d (.lit (.int .i64 (t).at_))])] (.agg (t.int.d.map .d)) [(.box 0 [.d (numD (t.go 12).l), .d (.lit (.int .i64 (t.go 12).at_))])] := by
  have hn := next_h t 12 ht (by omega) (by omega)
  obtain ⟨b1, b2⟩ := t.nx_bd 12
  have hv : ints[(t.nx 12).toNat]? = some (ints.getD (t.nx 12).toNat 0) := by
    rw [List.getD_eq_getElem?_getD, List.getElem?_eq_getElem (by simp [ints]; omega)]; rfl
  have hv1 : (ints.map iD)[(t.nx 12).toNat]? = some (iD (ints.getD (t.nx 12).toNat 0)) := by rw [List.getElem?_map, hv]; rfl
  have hr := refInt_c (ints.getD (t.nx 12).toNat 0)
  change PCall _ _ _ (.v (.agg t.int.d)) at hr
  generalize ints.getD (t.nx 12).toNat 0 = s at hv hv1 hr
  generalize t.nx 12 = z at hn b1 b2 hv hv1
  generalize t.go 12 = t' at hn
  refine hcallN hT Tryz.func128 Tryz.ntmps128 [.cell 2 73] fun B => ?_
  repeat' (first | (with_reducible (first | refine k_seq ?_ | refine k_ret ?_ | refine n_seq ?_)) | refine s_reg ?_ | refine r_end ?_ | refine s_move ?_ | refine s_loadF1 ?_ | refine s_indexD ?_ (hel := (by first | exact idx_map hv1 (by omega) | exact hv1 | exact rfl)) | refine s_call (hr) ?_ | refine s_callH [0] (hn) ?_ | refine s_storeB ?_ | refine s_bslice ?_ | refine s_alloc ?_ | refine fh_cellG def_nil ?_ ?_ | exact memIn_nil | refine memIn_same ?_ | exact am_same)

/-- A value, and the tape behind it. -/
def Tape.val (t : Tape) : Val × Tape :=
  if t.nx 5 = 0 then (Val.null, t.go 5)
  else if t.nx 5 = 1 ∨ t.nx 5 = 2 then ((t.go 5).text, (t.go 5).go 10)
  else ((t.go 5).int, (t.go 5).go 12)

end Go.Proofs.YtmpgmjlanngkfaaGreat
end
section
namespace Go.Proofs.YtmpgmjlanngkfaaGreat
open Go.Abs Go.RowKit
attribute [local irreducible] ARun kont MCall PCall HCall resVal SF CF CFs defersOk slotsIn memIn fin finM VLe
set_option linter.unusedSimpArgs false
set_option maxRecDepth 100000
set_option maxHeartbeats 4000000

def rowV (t : Tape) : Nat → List Val × Tape
  | 0 => ([], t)
  | j + 1 => ((rowV t j).1 ++ [(rowV t j).2.val.1], (rowV t j).2.val.2)
end Go.Proofs.YtmpgmjlanngkfaaGreat
end
end
end
section
namespace Go.Proofs.YtmpgmjlanngkfaaGreat
open Go.Abs Go.RowKit
attribute [local irreducible] ARun kont MCall PCall HCall resVal SF CF CFs defersOk slotsIn memIn fin finM VLe
set_option linter.unusedSimpArgs false
set_option maxRecDepth 100000
set_option maxHeartbeats 4000000

theorem sumK_ge {r : List Val} : ∀ {l : List Entry}, (∀ e ∈ l, 0 ≤ e.count) → 0 ≤ sumK l r
  | [], _ => Int.le_refl _
  | e :: l, h => by
    have h1 := sumK_ge (r := r) (l := l) fun x hx => h x (by simp [hx])
    have h2 := h e (by simp)
    rw [sumK]; split <;> omega

theorem bagP_h (t : Tape) (w n : Nat) (ht : t.ok) (hw : w ≤ 16) (hn : n ≤ 999) : ∃ (b : List Entry) (t' : Tape), t'.ok ∧ bagValid b = true ∧ within 3000 b ∧ b.length ≤ n ∧ Tiny (3 * n) w b ∧ (∀ e ∈ b, 0 < e.count) ∧ HCall Tryz.prog 11 [.c (.bp 0 0 0), (.c (.d (.lit (.int .i64 (w : Int))))), (.c (.d (.lit (.int .i64 (n : Int))))), .c (.d (.lit (.bool false)))] [(.box 0 [.d (numD (t).l), .d (.lit (.int .i64 (t).at_))])] (.c (.d (bagD b))) [(.box 0 [.d (numD (t').l), .d (.lit (.int .i64 (t').at_))])] := by
  have hent := entries_h t w n ht (by omega) (by omega)
  obtain ⟨b1, b2⟩ := t.nx_bd ((n : Int) + 1)
  have hok1 := ht.go ((n : Int) + 1)
  obtain ⟨i0, hi0⟩ := Int.eq_ofNat_of_zero_le b1
  rw [hi0, Int.toNat_natCast] at hent
  rw [hi0] at b1 b2
  have hxo := entS_ok hok1 w i0
  have hgood := entS_good (t.go ((n : Int) + 1)) w hw i0
  have hwid := entS_wid (t.go ((n : Int) + 1)) w i0
  generalize t.go ((n : Int) + 1) = t1 at hent hok1 hxo hgood hwid
  obtain ⟨hok2, hxl⟩ := hxo
  generalize entS t1 w i0 = E at hent hok2 hxl hgood hwid
  obtain ⟨es, t2⟩ := E
  dsimp only at hent hok2 hxl hgood hwid
  have hxn : es.length ≤ n := by omega
  subst hxl
  have hg2 : ∀ e ∈ es.map (absE false), rowOK e.row = true ∧ -3 ≤ e.count ∧ e.count ≤ 3 := fun e he => by
    obtain ⟨x, hx, rfl⟩ := List.mem_map.1 he
    obtain ⟨g1, g2⟩ := hgood x hx
    unfold absE
    split
    · exact ⟨g1, by simp only; omega⟩
    · exact ⟨g1, g2⟩
  have hsm := norm_small hg2 (by simp; omega)
  have htn : Tiny (3 * n) w (normE (es.map (absE false))).1 := by
    rw [(norm_good hsm.1).1]
    refine (tiny_of (fun e he => (hg2 e he).1) (fun e he => ?_) (Nat.le_trans (absS_le (n := 3) fun e he => ?_) ?_) (by omega)).1
    · obtain ⟨x, hx, rfl⟩ := List.mem_map.1 he
      have := hwid x hx
      unfold absE
      split <;> exact this
    · have := (hg2 e he).2
      omega
    · rw [List.length_map]
      omega
  have hpos : ∀ e ∈ (normE (es.map (absE false))).1, 0 < e.count := by
    obtain ⟨q1, q2, _, q4⟩ := norm_good hsm.1
    rw [q1]
    intro e he
    have h1 := q4 e.row
    rw [sumK_mem (apart_of_sorted q2.up) he (rowCmp_ok.refl _)] at h1
    have h2 := sumK_ge (r := e.row) (l := es.map (absE false)) fun x hx => by
      obtain ⟨y, _, rfl⟩ := List.mem_map.1 hx
      unfold absE
      split
      · dsimp only; omega
      · rename_i hq
        have : ¬ y.count < 0 := fun h => hq ⟨rfl, h⟩
        omega
    have h3 := q2.nz e he
    omega
  rw [List.length_map] at hsm
  have hnc := normalize_c (es.map (absE false)) (by simp; omega)
  generalize normE (es.map (absE false)) = R at hsm hnc htn hpos
  obtain ⟨rb, re⟩ := R
  dsimp only at hsm hnc htn hpos
  refine ⟨rb, t2, hok2, hsm.2.1, hsm.2.2.1, by omega, htn, hpos, ?_⟩
  have f9 : List.take es.length ((es.map (absE false)).map Entry.d) = (es.map (absE false)).map Entry.d := take_ge (by simp)
  refine hcallN hT Tryz.func11 Tryz.ntmps11 [.tmp 8] fun B => ?_
  repeat' (first | (with_reducible (first | refine k_seq ?_ | refine k_block ?_ | refine k_skip ?_ | refine k_exit ?_ | refine k_ret ?_ | refine n_seq ?_ | refine n_block ?_ | refine e_seq ?_ | refine e_here ?_ | refine o_exit ?_)) | refine s_reg ?_ | refine s_ifT ?_ | refine s_ifF ?_ | refine r_end ?_ | refine s_move ?_ | refine s_assign ?_ | refine s_int ?_ | refine s_indexA ?_ | refine s_fieldA ?_ | refine s_callH [0] (hent) ?_ | refine s_pick ?_ | refine s_lenD ?_ | refine s_lenA ?_ | refine s_extract ?_ | refine s_not ?_ | refine s_neg ?_ | refine fh_ret1 def_nil ?_ ?_ | exact memIn_nil | refine memIn_same ?_ | refine m1 ?_ ?_ | exact am_same)
  refine s_lp (X := Nat) [10, 17, 18, 19, 20, 21, 22, 23, 24, 25, 26, 27, 28, 29, 30, 31, 32, 33, 34, 35, 36, 37, 38, 39, 40, 41, 42] (fun x => x ≤ es.length) (fun x lz => (10, (.c (.d (.lit (.int .i64 x))))) :: lz) (fun x => [(.box 0 [.d (numD (t2).l), .d (.lit (.int .i64 (t2).at_))]), .arr 1 56 2 ((es.take x).map (fun e => (absE false e).d) ++ (es.drop x).map Entry.d)]) (fun x => es.length - x) (0) ?_ ?_ ?_ ?_
  repeat' (first | exact slots_nil | refine w1 ?_ | exact memIn_nil | refine memIn_same ?_ | refine m1 ?_ ?_ | omega)
  rintro i c hi
  by_cases hlt : i < es.length
  · have hv : es[i]? = some es[i] := List.getElem?_eq_getElem hlt
    have hgc := (hgood _ (List.getElem_mem hlt)).2
    generalize es[i] = e at hv hgc
    have hv1 := map_at (f := fun e => (absE false e).d) (g := Entry.d) hv
    have hst := map_set (f := fun e => (absE false e).d) (g := Entry.d) hv
    generalize hA : (es.take i).map (fun e => (absE false e).d) ++ (es.drop i).map Entry.d = A at hv1 hst
    by_cases hc : e.count < 0
    · have he : absE false e = ⟨e.row, -e.count⟩ := if_pos ⟨rfl, hc⟩
      simp only [he] at hst
      have hal : A.length = es.length := by rw [← hA]; simp; omega
      repeat' (first | (with_reducible (first | refine k_seq ?_ | refine k_block ?_ | refine k_skip ?_ | refine k_exit ?_ | refine k_ret ?_ | refine n_seq ?_ | refine n_block ?_ | refine e_seq ?_ | refine e_here ?_ | refine o_exit ?_)) | refine s_reg ?_ | refine s_ifT ?_ | refine s_ifF ?_ | refine r_end ?_ | refine s_move ?_ | refine s_assign ?_ | refine s_int ?_ | refine s_loadA1 ?_ (he' := (by first | exact hv1 | exact rfl)) | refine s_indexA ?_ | refine s_fieldA ?_ | refine s_pick ?_ | refine s_lenD ?_ | refine s_lenA ?_ | refine s_storeA ?_ (hj := (by first | exact hv1 | exact rfl)) | refine s_extract ?_ | refine s_not ?_ | refine s_neg ?_ | refine fh_ret1 def_nil ?_ ?_ | exact memIn_nil | refine memIn_same ?_ | refine m1 ?_ ?_ | exact am_same)
      (apply s_round (i + 1); all_goals (try dsimp only); all_goals (try (repeat' (first | exact slots_nil | refine w1 ?_ | exact memIn_nil | refine memIn_same ?_ | refine m1 ?_ ?_ | omega))))
      exact hst
    · have he : absE false e = e := if_neg fun q => hc q.2
      simp only [he] at hst
      rw [set_same hv1] at hst
      have hal : A.length = es.length := by rw [← hA]; simp; omega
      repeat' (first | (with_reducible (first | refine k_seq ?_ | refine k_block ?_ | refine k_skip ?_ | refine k_exit ?_ | refine k_ret ?_ | refine n_seq ?_ | refine n_block ?_ | refine e_seq ?_ | refine e_here ?_ | refine o_exit ?_)) | refine s_reg ?_ | refine s_ifT ?_ | refine s_ifF ?_ | refine r_end ?_ | refine s_move ?_ | refine s_assign ?_ | refine s_int ?_ | refine s_loadA1 ?_ (he' := (by first | exact hv1 | exact rfl)) | refine s_indexA ?_ | refine s_fieldA ?_ | refine s_pick ?_ | refine s_lenD ?_ | refine s_lenA ?_ | refine s_storeA ?_ (hj := (by first | exact hv1 | exact rfl)) | refine s_extract ?_ | refine s_not ?_ | refine s_neg ?_ | refine fh_ret1 def_nil ?_ ?_ | exact memIn_nil | refine memIn_same ?_ | refine m1 ?_ ?_ | exact am_same)
      (apply s_round (i + 1); all_goals (try dsimp only); all_goals (try (repeat' (first | exact slots_nil | refine w1 ?_ | exact memIn_nil | refine memIn_same ?_ | refine m1 ?_ ?_ | omega))))
  · rw [take_ge (show es.length ≤ i by omega), List.drop_eq_nil_of_le (by omega), List.map_nil, List.append_nil, show (es.map fun e => (absE false e).d) = (es.map (absE false)).map Entry.d by rw [List.map_map]; rfl]
    have hl1 : (es.map (absE false)).length = es.length := by simp
    have hl2 : ((es.map (absE false)).map Entry.d).length = es.length := by simp
    repeat' (first | refine s_freeze 9 ?_ (hes := f9) | (with_reducible (first | refine k_seq ?_ | refine k_block ?_ | refine k_skip ?_ | refine k_exit ?_ | refine k_ret ?_ | refine n_seq ?_ | refine n_block ?_ | refine e_seq ?_ | refine e_here ?_ | refine o_exit ?_)) | refine s_reg ?_ | refine s_ifT ?_ | refine s_ifF ?_ | refine r_end ?_ | refine s_move ?_ | refine s_assign ?_ | refine s_int ?_ | refine s_indexA ?_ | refine s_fieldA ?_ | refine s_call (hnc) ?_ | refine s_pick ?_ | refine s_lenD ?_ | refine s_lenA ?_ | refine s_extract ?_ | refine s_not ?_ | refine s_neg ?_ | refine fh_ret1 def_nil ?_ ?_ | exact memIn_nil | refine memIn_same ?_ | refine m1 ?_ ?_ | exact am_same)

end Go.Proofs.YtmpgmjlanngkfaaGreat
end
