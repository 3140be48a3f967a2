/-
  The tape: valid bags.
-/
import Derived.Test.YtiidgbfdghplhaaGreatBao
section
namespace Go.Proofs.YtiidgbfdghplhaaGreat
open Go.Abs Go.RowKit
set_option linter.unusedSimpArgs false
set_option maxRecDepth 100000

/-- The sum of the absolute counts. -/
def absS : List Entry → Nat
  | [] => 0
  | e :: l => e.count.natAbs + absS l
theorem absS_append (a b : List Entry) : absS (a ++ b) = absS a + absS b := by
  induction a with
  | nil => simp [absS]
  | cons e a ih => simp only [List.cons_append, absS, ih]; omega
theorem absS_mergeE (a b : List Entry) : absS (mergeE a b) ≤ absS a + absS b := by
  induction a, b using mergeE.induct with
  | case1 b => simp [mergeE, absS]
  | case2 a h => rw [mergeE]; · omega
                 · exact h
  | case3 x a y b h ih => rw [mergeE, if_pos h]; simp only [absS] at ih ⊢; omega
  | case4 x a y b h1 h2 ih => rw [mergeE, if_neg h1, if_pos h2]; simp only [absS] at ih ⊢; omega
  | case5 x a y b h1 h2 ih =>
    rw [mergeE, if_neg h1, if_neg h2, absS_append]
    simp only [absS] at ih ⊢
    split
    · simp only [absS]; omega
    · simp only [absS]; omega
theorem absS_filter (p : Entry → Bool) (l : List Entry) : absS (l.filter p) ≤ absS l := by
  induction l with
  | nil => exact Nat.le_refl _
  | cons e l ih =>
    rw [List.filter_cons]
    split
    · simp only [absS]; omega
    · simp only [absS]; omega
theorem absS_sortE (l : List Entry) : absS (sortE l) ≤ absS l := by
  induction l using sortE.induct with
  | case1 l h => rw [sortE, dif_pos h]; exact absS_filter _ _
  | case2 l h ih1 ih2 =>
    rw [sortE, dif_neg h]
    have h1 := absS_mergeE (sortE (l.take (l.length / 2))) (sortE (l.drop (l.length / 2)))
    have h2 := absS_append (l.take (l.length / 2)) (l.drop (l.length / 2))
    rw [List.take_append_drop] at h2
    omega
theorem absS_mem {l : List Entry} {e : Entry} (h : e ∈ l) : e.count.natAbs ≤ absS l := by
  induction l with
  | nil => cases h
  | cons x l ih =>
    rcases List.mem_cons.1 h with rfl | h
    · simp only [absS]; omega
    · have := ih h; simp only [absS]; omega
theorem absS_len {l : List Entry} (h : ∀ e ∈ l, e.count ≠ 0) : l.length ≤ absS l := by
  induction l with
  | nil => exact Nat.le_refl _
  | cons e l ih =>
    have h1 := ih fun x hx => h x (by simp [hx])
    have h2 := h e (by simp)
    simp only [absS, List.length_cons]; omega
theorem absS_le {l : List Entry} {n : Nat} (h : ∀ e ∈ l, e.count.natAbs ≤ n) : absS l ≤ n * l.length := by
  induction l with
  | nil => exact Nat.zero_le _
  | cons e l ih =>
    have h1 := ih fun x hx => h x (by simp [hx])
    have h2 := h e (by simp)
    simp only [absS, List.length_cons, Nat.mul_add]; omega

/-- The sum of a function of the rows over a list, times the counts. -/
def wS (f : List Val → Int) : List Entry → Int
  | [] => 0
  | e :: l => e.count * f e.row + wS f l
theorem wS_append (f : List Val → Int) (a b : List Entry) : wS f (a ++ b) = wS f a + wS f b := by
  induction a with
  | nil => simp [wS]
  | cons e a ih => simp only [List.cons_append, wS, ih]; omega
theorem wS_congr {f g : List Val → Int} {l : List Entry} (h : ∀ e ∈ l, f e.row = g e.row) : wS f l = wS g l := by
  induction l with
  | nil => rfl
  | cons e l ih => rw [wS, wS, h e (by simp), ih fun x hx => h x (by simp [hx])]
theorem wS_zero (l : List Entry) : wS (fun _ => 0) l = 0 := by
  induction l with
  | nil => rfl
  | cons e l ih => rw [wS, ih]; omega
theorem wS_mergeE (f : List Val → Int) (a b : List Entry) : (∀ e ∈ a, rowClean e.row) → (∀ e ∈ b, rowClean e.row) → wS f (mergeE a b) = wS f a + wS f b := by
  induction a, b using mergeE.induct with
  | case1 b => intro _ _; simp [mergeE, wS]
  | case2 a h => intro _ _; rw [mergeE]; · simp [wS]
                 · exact h
  | case3 x a y b h ih =>
    intro ha hb
    have ih := ih (fun e he => ha e (by simp [he])) hb
    rw [mergeE, if_pos h]; simp only [wS] at ih ⊢; rw [ih]; omega
  | case4 x a y b h1 h2 ih =>
    intro ha hb
    have ih := ih ha (fun e he => hb e (by simp [he]))
    rw [mergeE, if_neg h1, if_pos h2]; simp only [wS] at ih ⊢; rw [ih]; omega
  | case5 x a y b h1 h2 ih =>
    intro ha hb
    have ih := ih (fun e he => ha e (by simp [he])) (fun e he => hb e (by simp [he]))
    have h0 : rowCmp x.row y.row = 0 := by omega
    have hr := clean_eq (ha x (by simp)) (hb y (by simp)) h0
    rw [mergeE, if_neg h1, if_neg h2, wS_append, ih]
    simp only [wS]
    rw [← hr]
    have hm : (x.count + y.count) * f x.row = x.count * f x.row + y.count * f x.row := Int.add_mul ..
    split
    · rename_i hz
      rw [hz, Int.zero_mul] at hm
      simp only [wS]; omega
    · simp only [wS]; omega
theorem wS_filter (f : List Val → Int) (l : List Entry) : wS f (l.filter (fun e => decide (e.count ≠ 0))) = wS f l := by
  induction l with
  | nil => rfl
  | cons e l ih =>
    rw [List.filter_cons]
    split
    · simp only [wS, ih]
    · rename_i h
      have : e.count = 0 := by simpa using h
      simp only [wS, ih, this]; omega
theorem wS_sortE (f : List Val → Int) (l : List Entry) : (∀ e ∈ l, rowClean e.row) → wS f (sortE l) = wS f l := by
  induction l using sortE.induct with
  | case1 l h => intro _; rw [sortE, dif_pos h]; exact wS_filter f l
  | case2 l h ih1 ih2 =>
    intro hc
    have c1 : ∀ e ∈ l.take (l.length / 2), rowClean e.row := fun e he => hc e (List.mem_of_mem_take he)
    have c2 : ∀ e ∈ l.drop (l.length / 2), rowClean e.row := fun e he => hc e (List.mem_of_mem_drop he)
    rw [sortE, dif_neg h, wS_mergeE f _ _ (sortE_says _ c1).1.cl (sortE_says _ c2).1.cl, ih1 c1, ih2 c2, ← wS_append, List.take_append_drop]

def indR (r s : List Val) : Int := if rowCmp s r = 0 then 1 else 0
theorem sumK_w (l : List Entry) (r : List Val) : sumK l r = wS (indR r) l := by
  induction l with
  | nil => rfl
  | cons e l ih =>
    rw [sumK, wS, ih, indR]
    split <;> simp
/-- A valid bag whose rows have w cells and whose absolute counts sum up to at most n. -/
structure Tiny (n w : Nat) (b : List Entry) : Prop where
  v : bagValid b = true
  w : ∀ e ∈ b, e.row.length = w
  s : absS b ≤ n
theorem Tiny.cl {n w : Nat} {b : List Entry} (h : Tiny n w b) : ∀ e ∈ b, rowClean e.row := fun e he => rowOK_clean ((valid_mem h.v).2 e he).1
theorem tiny_of {l : List Entry} {n w : Nat} (hr : ∀ e ∈ l, rowOK e.row = true) (hw : ∀ e ∈ l, e.row.length = w) (hs : absS l ≤ n) (hn : n ≤ 4096) : Tiny n w (sortE l) ∧ ∀ e ∈ sortE l, e.count.natAbs ≤ 4096 := by
  obtain ⟨h1, _⟩ := sortE_says l fun e he => rowOK_clean (hr e he)
  have h2 := absS_sortE l
  have h3 : ∀ e ∈ sortE l, e.count.natAbs ≤ 4096 := fun e he => by have := absS_mem he; omega
  have h4 := absS_len h1.nz
  refine ⟨⟨?_, fun e he => ?_, by omega⟩, h3⟩
  · rw [bagValid, good_of (fun e he => ?_) h1.up (by simp), Bool.and_true]
    · simp only [decide_eq_true_eq]; omega
    · obtain ⟨x, hx, q⟩ := mem_sortE l e he
      have a1 := hr x hx
      rw [q] at a1
      have a2 := h1.nz e he
      have a3 := h3 e he
      simp only [Entry.ok, a1, countOK, Bool.true_and, Bool.and_eq_true, decide_eq_true_eq]
      omega
  · obtain ⟨x, hx, q⟩ := mem_sortE l e he
    rw [← q]; exact hw x hx
end Go.Proofs.YtiidgbfdghplhaaGreat
end
section
namespace Go.Proofs.YtiidgbfdghplhaaGreat
open Go.Abs Go.RowKit
attribute [local irreducible] ARun kont MCall PCall HCall resVal SF CF CFs defersOk slotsIn memIn fin finM VLe
set_option linter.unusedSimpArgs false
set_option maxRecDepth 100000
set_option maxHeartbeats 4000000

theorem null_valid : Val.null.valid = true := by decide +kernel

theorem map_at {α β : Type} {f g : α → β} {l : List α} {i : Nat} {e : α} (h : l[i]? = some e) : ((l.take i).map f ++ (l.drop i).map g)[i]? = some (g e) := by
  have hlt := lt_of_getElem? h
  rw [List.getElem?_append_right (by simp; omega), List.length_map, List.length_take, Nat.min_eq_left (by omega), Nat.sub_self, drop_cons h]; rfl
theorem map_set {α β : Type} {f g : α → β} {l : List α} {i : Nat} {e : α} (h : l[i]? = some e) : ((l.take i).map f ++ (l.drop i).map g).set i (f e) = (l.take (i + 1)).map f ++ (l.drop (i + 1)).map g := by
  have hlt := lt_of_getElem? h
  have hl : ((l.take i).map f).length = i := by simp; omega
  rw [take_map f h, drop_cons h, List.set_append_right _ _ (by omega), hl, Nat.sub_self, List.append_assoc]; rfl
theorem set_same {β : Type} {l : List β} {i : Nat} {v : β} (h : l[i]? = some v) : l.set i v = l := by
  apply List.ext_getElem?
  intro j
  by_cases hj : i = j
  · subst hj; rw [List.getElem?_set_self (lt_of_getElem? h), h]
  · rw [List.getElem?_set_ne hj]

theorem short_valid (t : Tape) : t.short.valid = true := by
  have h : ∀ v ∈ shortVals, v.valid = true := by
    intro v hv
    simp only [shortVals, List.mem_cons, List.not_mem_nil, or_false] at hv
    rcases hv with rfl | rfl | rfl | rfl | rfl | rfl
    · exact null_valid
    all_goals exact clean_valid' _
  unfold Tape.short
  rw [List.getD_eq_getElem?_getD]
  cases hq : shortVals[(t.nx 6).toNat]? with
  | none => exact null_valid
  | some v => exact h v (List.mem_of_getElem? hq)

theorem num_bd (t : Tape) : -3 ≤ t.num ∧ t.num ≤ 3 := by
  have h : ∀ z ∈ entNums, -3 ≤ z ∧ z ≤ 3 := by decide
  unfold Tape.num
  rw [List.getD_eq_getElem?_getD]
  cases hq : entNums[(t.nx 8).toNat]? with
  | none => decide
  | some v => exact h v (List.mem_of_getElem? hq)

theorem rowS_valid (t : Tape) : ∀ j, ∀ v ∈ (rowS t j).1, v.valid = true
  | 0 => by simp [rowS]
  | j + 1 => by
    intro v hv
    rw [rowS] at hv
    rcases List.mem_append.1 hv with hv | hv
    · exact rowS_valid t j v hv
    · obtain rfl := List.mem_singleton.1 hv; exact short_valid _

theorem rowS_len (t : Tape) : ∀ j, (rowS t j).1.length = j
  | 0 => rfl
  | j + 1 => by rw [rowS]; simp [rowS_len t j]

theorem entS_good (t : Tape) (w : Nat) (hw : w ≤ 16) : ∀ m, ∀ e ∈ (entS t w m).1, rowOK e.row = true ∧ -3 ≤ e.count ∧ e.count ≤ 3
  | 0 => by simp [entS]
  | m + 1 => by
    intro e he
    rw [entS] at he
    rcases List.mem_append.1 he with he | he
    · exact entS_good t w hw m e he
    · obtain rfl := List.mem_singleton.1 he
      refine ⟨?_, num_bd _⟩
      simp only [rowOK, Bool.and_eq_true, decide_eq_true_eq, List.all_eq_true]
      exact ⟨by rw [rowS_len]; exact hw, rowS_valid _ _⟩

theorem entS_wid (t : Tape) (w : Nat) : ∀ m, ∀ e ∈ (entS t w m).1, e.row.length = w
  | 0 => by simp [entS]
  | m + 1 => by
    intro e he
    rw [entS] at he
    rcases List.mem_append.1 he with he | he
    · exact entS_wid t w m e he
    · obtain rfl := List.mem_singleton.1 he
      exact rowS_len _ _

theorem sortE_withinM (M : Int) (hM : 0 ≤ M) (l : List Entry) : within M l → within (M * l.length) (sortE l) := by
  induction l using sortE.induct with
  | case1 l h =>
    intro hw
    rw [sortE, dif_pos h]
    intro e he
    have hm := (List.mem_filter.1 he).1
    have := hw e hm
    have hl : l.length = 1 := by cases l <;> simp at hm h ⊢; omega
    rw [hl]; omega
  | case2 l h ih1 ih2 =>
    intro hw
    rw [sortE, dif_neg h]
    have q1 := ih1 (fun e he => hw e (List.mem_of_mem_take he))
    have q2 := ih2 (fun e he => hw e (List.mem_of_mem_drop he))
    have p1 := Int.mul_nonneg hM (show (0 : Int) ≤ ((l.take (l.length / 2)).length : Int) by omega)
    have p2 := Int.mul_nonneg hM (show (0 : Int) ≤ ((l.drop (l.length / 2)).length : Int) by omega)
    refine within_mono (mergeE_within p1 p2 _ _ q1 q2) ?_
    rw [← Int.mul_add]
    refine Int.mul_le_mul_of_nonneg_left ?_ hM
    simp; omega

/-- The bag of a list of few small entries. -/
theorem norm_small {l : List Entry} (h : ∀ e ∈ l, rowOK e.row = true ∧ -3 ≤ e.count ∧ e.count ≤ 3) (hl : l.length ≤ 1000) : (normE l).2 = 0 ∧ bagValid (normE l).1 = true ∧ within 3000 (normE l).1 ∧ (normE l).1.length ≤ l.length := by
  have hall : l.all entryIn = true := List.all_eq_true.2 fun e he => by
    obtain ⟨h1, h2, h3⟩ := h e he
    simp only [entryIn, countOK, Bool.and_eq_true, decide_eq_true_eq]
    exact ⟨h1, by omega, by omega⟩
  have hw : within (3 * l.length) (sortE l) := sortE_withinM 3 (by omega) l (fun e he => (h e he).2)
  have hw2 : within 3000 (sortE l) := within_mono hw (by omega)
  have hlen := sortE_len l
  have hz : (normE l).2 = 0 := by
    rw [normE, if_pos hall, fitsE, if_neg (by omega), if_pos]
    refine List.all_eq_true.2 fun e he => ?_
    have := hw2 e he
    simp only [countOK, Bool.and_eq_true, decide_eq_true_eq]
    omega
  obtain ⟨g1, g2, g3, g4⟩ := norm_good hz
  rw [g1]
  exact ⟨hz, g3, hw2, hlen⟩

def absE (sg : Bool) (e : Entry) : Entry := if sg = false ∧ e.count < 0 then ⟨e.row, -e.count⟩ else e

theorem bagT_h (t : Tape) (w n : Nat) (sg : Bool) (ht : t.ok) (hw : w ≤ 16) (hn : n ≤ 999) : ∃ (b : List Entry) (t' : Tape), t'.ok ∧ bagValid b = true ∧ within 3000 b ∧ b.length ≤ n ∧ Tiny (3 * n) w b ∧ HCall Tryz.prog 10 [.c (.bp 0 0 0), (.c (.d (.lit (.int .i64 (w : Int))))), (.c (.d (.lit (.int .i64 (n : Int))))), .c (.d (.lit (.bool sg)))] [(.box 0 [.d (numD (t).l), .d (.lit (.int .i64 (t).at_))])] (.c (.d (bagD b))) [(.box 0 [.d (numD (t').l), .d (.lit (.int .i64 (t').at_))])] := by
  have hent := entries_h t w n ht (by omega) (by omega)
  obtain ⟨b1, b2⟩ := t.nx_bd ((n : Int) + 1)
  have hok1 := ht.go ((n : Int) + 1)
  obtain ⟨i0, hi0⟩ := Int.eq_ofNat_of_zero_le b1
  rw [hi0, Int.toNat_natCast] at hent
  rw [hi0] at b1 b2
  have hxo := entS_ok hok1 w i0
  have hgood := entS_good (t.go ((n : Int) + 1)) w hw i0
  have hwid := entS_wid (t.go ((n : Int) + 1)) w i0
  generalize t.go ((n : Int) + 1) = t1 at hent hok1 hxo hgood hwid
  obtain ⟨hok2, hxl⟩ := hxo
  generalize entS t1 w i0 = E at hent hok2 hxl hgood hwid
  obtain ⟨es, t2⟩ := E
  dsimp only at hent hok2 hxl hgood hwid
  have hxn : es.length ≤ n := by omega
  subst hxl
  have hg2 : ∀ e ∈ es.map (absE sg), rowOK e.row = true ∧ -3 ≤ e.count ∧ e.count ≤ 3 := fun e he => by
    obtain ⟨x, hx, rfl⟩ := List.mem_map.1 he
    obtain ⟨g1, g2⟩ := hgood x hx
    unfold absE
    split
    · exact ⟨g1, by simp only; omega⟩
    · exact ⟨g1, g2⟩
  have hsm := norm_small hg2 (by simp; omega)
  have htn : Tiny (3 * n) w (normE (es.map (absE sg))).1 := by
    rw [(norm_good hsm.1).1]
    refine (tiny_of (fun e he => (hg2 e he).1) (fun e he => ?_) (Nat.le_trans (absS_le (n := 3) fun e he => ?_) ?_) (by omega)).1
    · obtain ⟨x, hx, rfl⟩ := List.mem_map.1 he
      have := hwid x hx
      unfold absE
      split <;> exact this
    · have := (hg2 e he).2
      omega
    · rw [List.length_map]
      omega
  rw [List.length_map] at hsm
  have hnc := normalize_c (es.map (absE sg)) (by simp; omega)
  generalize normE (es.map (absE sg)) = R at hsm hnc htn
  obtain ⟨rb, re⟩ := R
  dsimp only at hsm hnc htn
  refine ⟨rb, t2, hok2, hsm.2.1, hsm.2.2.1, by omega, htn, ?_⟩
  have f9 : List.take es.length ((es.map (absE sg)).map Entry.d) = (es.map (absE sg)).map Entry.d := take_ge (by simp)
  refine hcallN hT Tryz.func10 Tryz.ntmps10 [.tmp 8] fun B => ?_
  repeat' (first | (with_reducible (first | refine k_seq ?_ | refine k_block ?_ | refine k_skip ?_ | refine k_exit ?_ | refine k_ret ?_ | refine n_seq ?_ | refine n_block ?_ | refine e_seq ?_ | refine e_here ?_ | refine o_exit ?_)) | refine s_reg ?_ | refine s_ifT ?_ | refine s_ifF ?_ | refine r_end ?_ | refine s_skipS ?_ | refine s_move ?_ | refine s_assign ?_ | refine s_int ?_ | refine s_indexA ?_ | refine s_fieldA ?_ | refine s_callH [0] (hent) ?_ | refine s_pick ?_ | refine s_lenD ?_ | refine s_lenA ?_ | refine s_extract ?_ | refine s_not ?_ | refine s_neg ?_ | refine fh_ret1 def_nil ?_ ?_ | exact memIn_nil | refine memIn_same ?_ | refine m1 ?_ ?_ | exact am_same)
  refine s_lp (X := Nat) [10, 17, 18, 19, 20, 21, 22, 23, 24, 25, 26, 27, 28, 29, 30, 31, 32, 33, 34, 35, 36, 37, 38, 39, 40, 41, 42] (fun x => x ≤ es.length) (fun x lz => (10, (.c (.d (.lit (.int .i64 x))))) :: lz) (fun x => [(.box 0 [.d (numD (t2).l), .d (.lit (.int .i64 (t2).at_))]), .arr 1 59 2 ((es.take x).map (fun e => (absE sg e).d) ++ (es.drop x).map Entry.d)]) (fun x => es.length - x) (0) ?_ ?_ ?_ ?_
  repeat' (first | exact slots_nil | refine w1 ?_ | exact memIn_nil | refine memIn_same ?_ | refine m1 ?_ ?_ | omega)
  rintro i c hi
  by_cases hlt : i < es.length
  · have hv : es[i]? = some es[i] := List.getElem?_eq_getElem hlt
    have hgc := (hgood _ (List.getElem_mem hlt)).2
    generalize es[i] = e at hv hgc
    have hv1 := map_at (f := fun e => (absE sg e).d) (g := Entry.d) hv
    have hst := map_set (f := fun e => (absE sg e).d) (g := Entry.d) hv
    generalize hA : (es.take i).map (fun e => (absE sg e).d) ++ (es.drop i).map Entry.d = A at hv1 hst
    by_cases hc : sg = false ∧ e.count < 0
    · obtain ⟨rfl, hc⟩ := hc
      have he : absE false e = ⟨e.row, -e.count⟩ := if_pos ⟨rfl, hc⟩
      simp only [he] at hst
      have hal : A.length = es.length := by rw [← hA]; simp; omega
      repeat' (first | (with_reducible (first | refine k_seq ?_ | refine k_block ?_ | refine k_skip ?_ | refine k_exit ?_ | refine k_ret ?_ | refine n_seq ?_ | refine n_block ?_ | refine e_seq ?_ | refine e_here ?_ | refine o_exit ?_)) | refine s_reg ?_ | refine s_ifT ?_ | refine s_ifF ?_ | refine r_end ?_ | refine s_skipS ?_ | refine s_move ?_ | refine s_assign ?_ | refine s_int ?_ | refine s_loadA1 ?_ (he' := (by first | exact hv1 | exact rfl)) | refine s_indexA ?_ | refine s_fieldA ?_ | refine s_pick ?_ | refine s_lenD ?_ | refine s_lenA ?_ | refine s_storeA ?_ (hj := (by first | exact hv1 | exact rfl)) | refine s_extract ?_ | refine s_not ?_ | refine s_neg ?_ | refine fh_ret1 def_nil ?_ ?_ | exact memIn_nil | refine memIn_same ?_ | refine m1 ?_ ?_ | exact am_same)
      (apply s_round (i + 1); all_goals (try dsimp only); all_goals (try (repeat' (first | exact slots_nil | refine w1 ?_ | exact memIn_nil | refine memIn_same ?_ | refine m1 ?_ ?_ | omega))))
      exact hst
    · have he : absE sg e = e := if_neg hc
      simp only [he] at hst
      rw [set_same hv1] at hst
      have hal : A.length = es.length := by rw [← hA]; simp; omega
      cases sg with
      | true =>
        repeat' (first | (with_reducible (first | refine k_seq ?_ | refine k_block ?_ | refine k_skip ?_ | refine k_exit ?_ | refine k_ret ?_ | refine n_seq ?_ | refine n_block ?_ | refine e_seq ?_ | refine e_here ?_ | refine o_exit ?_)) | refine s_reg ?_ | refine s_ifT ?_ | refine s_ifF ?_ | refine r_end ?_ | refine s_skipS ?_ | refine s_move ?_ | refine s_assign ?_ | refine s_int ?_ | refine s_loadA1 ?_ (he' := (by first | exact hv1 | exact rfl)) | refine s_indexA ?_ | refine s_fieldA ?_ | refine s_pick ?_ | refine s_lenD ?_ | refine s_lenA ?_ | refine s_storeA ?_ (hj := (by first | exact hv1 | exact rfl)) | refine s_extract ?_ | refine s_not ?_ | refine s_neg ?_ | refine fh_ret1 def_nil ?_ ?_ | exact memIn_nil | refine memIn_same ?_ | refine m1 ?_ ?_ | exact am_same)
        (apply s_round (i + 1); all_goals (try dsimp only); all_goals (try (repeat' (first | exact slots_nil | refine w1 ?_ | exact memIn_nil | refine memIn_same ?_ | refine m1 ?_ ?_ | omega))))
      | false =>
        have hc : ¬ e.count < 0 := fun h => hc ⟨rfl, h⟩
        repeat' (first | (with_reducible (first | refine k_seq ?_ | refine k_block ?_ | refine k_skip ?_ | refine k_exit ?_ | refine k_ret ?_ | refine n_seq ?_ | refine n_block ?_ | refine e_seq ?_ | refine e_here ?_ | refine o_exit ?_)) | refine s_reg ?_ | refine s_ifT ?_ | refine s_ifF ?_ | refine r_end ?_ | refine s_skipS ?_ | refine s_move ?_ | refine s_assign ?_ | refine s_int ?_ | refine s_loadA1 ?_ (he' := (by first | exact hv1 | exact rfl)) | refine s_indexA ?_ | refine s_fieldA ?_ | refine s_pick ?_ | refine s_lenD ?_ | refine s_lenA ?_ | refine s_storeA ?_ (hj := (by first | exact hv1 | exact rfl)) | refine s_extract ?_ | refine s_not ?_ | refine s_neg ?_ | refine fh_ret1 def_nil ?_ ?_ | exact memIn_nil | refine memIn_same ?_ | refine m1 ?_ ?_ | exact am_same)
        (apply s_round (i + 1); all_goals (try dsimp only); all_goals (try (repeat' (first | exact slots_nil | refine w1 ?_ | exact memIn_nil | refine memIn_same ?_ | refine m1 ?_ ?_ | omega))))
  · rw [take_ge (show es.length ≤ i by omega), List.drop_eq_nil_of_le (by omega), List.map_nil, List.append_nil, show (es.map fun e => (absE sg e).d) = (es.map (absE sg)).map Entry.d by rw [List.map_map]; rfl]
    have hl1 : (es.map (absE sg)).length = es.length := by simp
    have hl2 : ((es.map (absE sg)).map Entry.d).length = es.length := by simp
    repeat' (first | refine s_freeze 9 ?_ (hes := f9) | (with_reducible (first | refine k_seq ?_ | refine k_block ?_ | refine k_skip ?_ | refine k_exit ?_ | refine k_ret ?_ | refine n_seq ?_ | refine n_block ?_ | refine e_seq ?_ | refine e_here ?_ | refine o_exit ?_)) | refine s_reg ?_ | refine s_ifT ?_ | refine s_ifF ?_ | refine r_end ?_ | refine s_skipS ?_ | refine s_move ?_ | refine s_assign ?_ | refine s_int ?_ | refine s_indexA ?_ | refine s_fieldA ?_ | refine s_call (hnc) ?_ | refine s_pick ?_ | refine s_lenD ?_ | refine s_lenA ?_ | refine s_extract ?_ | refine s_not ?_ | refine s_neg ?_ | refine fh_ret1 def_nil ?_ ?_ | exact memIn_nil | refine memIn_same ?_ | refine m1 ?_ ?_ | exact am_same)

end Go.Proofs.YtiidgbfdghplhaaGreat
end
