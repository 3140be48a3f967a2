/-
  Small bags, in plain terms: sums of absolute counts, and sums over rows.
-/
import Derived.Test.YtmpgmjlanngkfaaGreatTyB
import Derived.Test.YtmpgmjlanngkfaaGreatSam
section
namespace Go.Proofs.YtmpgmjlanngkfaaGreat
open Go.Abs Go.RowKit
attribute [local irreducible] ARun kont MCall PCall HCall resVal SF CF CFs defersOk slotsIn memIn fin finM VLe
set_option linter.unusedSimpArgs false
set_option maxRecDepth 100000
set_option maxHeartbeats 4000000

def rowS (t : Tape) : Nat → List Val × Tape
  | 0 => ([], t)
  | j + 1 => ((rowS t j).1 ++ [(rowS t j).2.short], (rowS t j).2.go 6)
def entNums : List Int := [1, 1, 1, 2, -1, 3, -2, 0]
def Tape.num (t : Tape) : Int := entNums.getD (t.nx 8).toNat 0
def entS (t : Tape) (w : Nat) : Nat → List Entry × Tape
  | 0 => ([], t)
  | m + 1 => ((entS t w m).1 ++ [⟨(rowS (entS t w m).2 w).1, (rowS (entS t w m).2 w).2.num⟩], (rowS (entS t w m).2 w).2.go 8)

theorem rowS_ok {t : Tape} (h : t.ok) : ∀ j, (rowS t j).2.ok ∧ (rowS t j).1.length = j
  | 0 => ⟨h, rfl⟩
  | j + 1 => by
    obtain ⟨h1, h2⟩ := rowS_ok h j
    exact ⟨h1.go 6, by rw [rowS]; simp [h2]⟩
theorem entS_ok {t : Tape} (h : t.ok) (w : Nat) : ∀ m, (entS t w m).2.ok ∧ (entS t w m).1.length = m
  | 0 => ⟨h, rfl⟩
  | m + 1 => by
    obtain ⟨h1, h2⟩ := entS_ok h w m
    exact ⟨(rowS_ok h1 w).1.go 8, by rw [entS]; simp [h2]⟩

theorem entries_h (t : Tape) (w n : Nat) (ht : t.ok) (hw : w ≤ 1000) (hn : n ≤ 1000) : HCall Tryz.prog 32 [.c (.bp 0 0 0), (.c (.d (.lit (.int .i64 (w : Int))))), (.c (.d (.lit (.int .i64 (n : Int)))))] [(.box 0 [.d (numD (t).l), .d (.lit (.int .i64 (t).at_))])] (.c (.arr 1 1 (t.nx ((n : Int) + 1)).toNat)) [(.box 0 [.d (numD ((entS (t.go ((n : Int) + 1)) w (t.nx ((n : Int) + 1)).toNat).2).l), .d (.lit (.int .i64 ((entS (t.go ((n : Int) + 1)) w (t.nx ((n : Int) + 1)).toNat).2).at_))]), .arr 1 56 2 ((entS (t.go ((n : Int) + 1)) w (t.nx ((n : Int) + 1)).toNat).1.map Entry.d)] := by
  have hnx := next_h t ((n : Int) + 1) ht (by omega) (by omega)
  obtain ⟨b1, b2⟩ := t.nx_bd ((n : Int) + 1)
  have ht1 := ht.go ((n : Int) + 1)
  obtain ⟨i, hi⟩ := Int.eq_ofNat_of_zero_le b1
  rw [hi] at hnx b1 b2 ⊢
  rw [Int.toNat_natCast]
  generalize t.go ((n : Int) + 1) = t1 at hnx ht1
  have hin : i ≤ 1000 := by omega
  refine hcallN hT Tryz.func32 Tryz.ntmps32 [.tmp 6] fun B => ?_
  repeat' (first | (with_reducible (first | refine k_seq ?_ | refine k_block ?_ | refine k_skip ?_ | refine k_exit ?_ | refine k_ret ?_ | refine n_seq ?_ | refine n_block ?_ | refine e_seq ?_ | refine e_here ?_ | refine o_exit ?_)) | refine s_reg ?_ | refine s_ifT ?_ | refine s_ifF ?_ | refine r_end ?_ | refine s_move ?_ | refine s_assign ?_ | refine s_int ?_ | refine s_loadF1 ?_ | refine s_indexD ?_ (hel := (by first | exact rfl)) | refine s_callH [0] (hnx) ?_ | refine s_appA ?_ | refine s_bslice ?_ | refine s_build ?_ | refine fh_ret1 def_nil ?_ ?_ | exact memIn_nil | refine memIn_same ?_ | refine m1 ?_ ?_ | refine m2 ?_ ?_ | exact am_same)
  refine s_own 7 56 2 ?_
  refine s_lp (X := Nat × Nat) [7, 8, 9, 10, 15, 16, 17, 18, 19, 20, 21, 22, 23, 24, 25, 26, 27, 28, 29, 30, 31, 32, 33, 34, 35, 36, 37, 38] (fun x => x.1 ≤ i) (fun x lz => (7, .c (.arr 1 x.2 x.1)) :: (8, (.c (.d (.lit (.int .i64 ((i - x.1 : Nat) : Int)))))) :: lz) (fun x => [(.box 0 [.d (numD ((entS t1 w x.1).2).l), .d (.lit (.int .i64 ((entS t1 w x.1).2).at_))]), .arr x.2 56 2 ((entS t1 w x.1).1.map Entry.d)]) (fun x => i - x.1) ((0, 2)) ?_ ?_ ?_ ?_
  repeat' (first | exact slots_nil | refine w1 ?_ | exact memIn_nil | refine memIn_same ?_ | refine m1 ?_ ?_ | refine m2 ?_ ?_ | omega)
  rintro ⟨m, k⟩ c hm
  dsimp only at hm ⊢
  obtain ⟨hok, hlen⟩ := entS_ok ht1 w m
  have hstep : entS t1 w (m + 1) = ((entS t1 w m).1 ++ [⟨(rowS (entS t1 w m).2 w).1, (rowS (entS t1 w m).2 w).2.num⟩], (rowS (entS t1 w m).2 w).2.go 8) := rfl
  by_cases hlt : m < i
  · generalize hE : entS t1 w m = E at hok hlen hstep
    obtain ⟨el, T⟩ := E
    dsimp only at hok hlen hstep ⊢
    repeat' (first | (with_reducible (first | refine k_seq ?_ | refine k_block ?_ | refine k_skip ?_ | refine k_exit ?_ | refine k_ret ?_ | refine n_seq ?_ | refine n_block ?_ | refine e_seq ?_ | refine e_here ?_ | refine o_exit ?_)) | refine s_reg ?_ | refine s_ifT ?_ | refine s_ifF ?_ | refine r_end ?_ | refine s_move ?_ | refine s_assign ?_ | refine s_int ?_ | refine s_loadF1 ?_ | refine s_indexD ?_ (hel := (by first | exact rfl)) | refine s_appA ?_ | refine s_bslice ?_ | refine s_build ?_ | refine fh_ret1 def_nil ?_ ?_ | exact memIn_nil | refine memIn_same ?_ | refine m1 ?_ ?_ | refine m2 ?_ ?_ | exact am_same)
    refine s_own 9 73 3 ?_
    refine s_lp (X := Nat × Nat) [9, 10, 19, 20, 21, 22, 23, 24, 25, 26, 27, 28] (fun x => x.1 ≤ w) (fun x lz => (9, .c (.arr 2 x.2 x.1)) :: (10, (.c (.d (.lit (.int .i64 x.1))))) :: lz) (fun x => [(.box 0 [.d (numD ((rowS T x.1).2).l), .d (.lit (.int .i64 ((rowS T x.1).2).at_))]), .arr k 56 2 (el.map Entry.d), .arr x.2 73 3 ((rowS T x.1).1.map Val.d)]) (fun x => w - x.1) ((0, c + 1)) ?_ ?_ ?_ ?_
    repeat' (first | exact slots_nil | refine w1 ?_ | exact memIn_nil | refine memIn_same ?_ | refine m1 ?_ ?_ | refine m2 ?_ ?_ | omega)
    rintro ⟨j, k2⟩ c2 hj
    dsimp only at hj ⊢
    obtain ⟨rok, rlen⟩ := rowS_ok hok j
    by_cases hlt2 : j < w
    · have hsh := short_h (rowS T j).2 rok
      repeat' (first | (with_reducible (first | refine k_seq ?_ | refine k_block ?_ | refine k_skip ?_ | refine k_exit ?_ | refine k_ret ?_ | refine n_seq ?_ | refine n_block ?_ | refine e_seq ?_ | refine e_here ?_ | refine o_exit ?_)) | refine s_reg ?_ | refine s_ifT ?_ | refine s_ifF ?_ | refine r_end ?_ | refine s_move ?_ | refine s_assign ?_ | refine s_int ?_ | refine s_loadF1 ?_ | refine s_indexD ?_ (hel := (by first | exact rfl)) | refine s_callH [0] (hsh) ?_ | refine s_appA ?_ | refine s_bslice ?_ | refine s_build ?_ | refine fh_ret1 def_nil ?_ ?_ | exact memIn_nil | refine memIn_same ?_ | refine m1 ?_ ?_ | refine m2 ?_ ?_ | exact am_same)
      (apply s_round ((j + 1, _)); all_goals (try dsimp only); all_goals (try (repeat' (first | exact slots_nil | refine w1 ?_ | exact memIn_nil | refine memIn_same ?_ | refine m1 ?_ ?_ | refine m2 ?_ ?_ | omega))))
      rw [rowS, List.map_append]; rfl
    · obtain rfl : j = w := by omega
      have hnx := next_h (rowS T j).2 8 rok (by omega) (by omega)
      obtain ⟨q1, q2⟩ := (rowS T j).2.nx_bd 8
      have hvn : (entNums.map iD)[((rowS T j).2.nx 8).toNat]? = some (iD (rowS T j).2.num) := by
        rw [List.getElem?_map]
        unfold Tape.num
        rw [List.getD_eq_getElem?_getD, List.getElem?_eq_getElem (by simp [entNums]; omega)]; rfl
      have hf9 : List.take j ((rowS T j).1.map Val.d) = (rowS T j).1.map Val.d := take_ge (by simp; omega)
      repeat' (first | refine s_freeze 9 ?_ (hes := hf9) | (with_reducible (first | refine k_seq ?_ | refine k_block ?_ | refine k_skip ?_ | refine k_exit ?_ | refine k_ret ?_ | refine n_seq ?_ | refine n_block ?_ | refine e_seq ?_ | refine e_here ?_ | refine o_exit ?_)) | refine s_reg ?_ | refine s_ifT ?_ | refine s_ifF ?_ | refine r_end ?_ | refine s_move ?_ | refine s_assign ?_ | refine s_int ?_ | refine s_loadF1 ?_ | refine s_indexD ?_ (hel := (by first | exact idx_map hvn (by omega) | exact hvn | exact rfl)) | refine s_callH [0] (hnx) ?_ | refine s_appA ?_ | refine s_bslice ?_ | refine s_build ?_ | refine fh_ret1 def_nil ?_ ?_ | exact memIn_nil | refine memIn_same ?_ | refine m1 ?_ ?_ | refine m2 ?_ ?_ | exact am_same)
      (apply s_round ((m + 1, _)); all_goals (try dsimp only); all_goals (try (repeat' (first | exact slots_nil | refine w1 ?_ | exact memIn_nil | refine memIn_same ?_ | refine m1 ?_ ?_ | refine m2 ?_ ?_ | omega))))
      · rw [hstep]
      · rw [hstep, List.map_append]; rfl
  · obtain rfl : m = i := by omega
    repeat' (first | (with_reducible (first | refine k_seq ?_ | refine k_block ?_ | refine k_skip ?_ | refine k_exit ?_ | refine k_ret ?_ | refine n_seq ?_ | refine n_block ?_ | refine e_seq ?_ | refine e_here ?_ | refine o_exit ?_)) | refine s_reg ?_ | refine s_ifT ?_ | refine s_ifF ?_ | refine r_end ?_ | refine s_move ?_ | refine s_assign ?_ | refine s_int ?_ | refine s_loadF1 ?_ | refine s_indexD ?_ (hel := (by first | exact rfl)) | refine s_appA ?_ | refine s_bslice ?_ | refine s_build ?_ | refine fh_ret1 def_nil ?_ ?_ | exact memIn_nil | refine memIn_same ?_ | refine m1 ?_ ?_ | refine m2 ?_ ?_ | exact am_same)
end Go.Proofs.YtmpgmjlanngkfaaGreat
end
section
section
namespace Go.Proofs.YtmpgmjlanngkfaaGreat
open Go.Abs Go.RowKit
set_option linter.unusedSimpArgs false
set_option maxRecDepth 100000

theorem all_clean {l : List Entry} (h : l.all entryIn = true) : ∀ e ∈ l, rowClean e.row := fun e he => by
  have := List.all_eq_true.1 h e he
  simp only [entryIn, Bool.and_eq_true] at this
  exact rowOK_clean this.1

theorem mem_sortE (l : List Entry) : ∀ e, e ∈ sortE l → ∃ x ∈ l, x.row = e.row := by
  induction l using sortE.induct with
  | case1 l h => intro e he; rw [sortE, dif_pos h] at he; exact ⟨e, (List.mem_filter.1 he).1, rfl⟩
  | case2 l h ih1 ih2 =>
    intro e he
    rw [sortE, dif_neg h] at he
    obtain ⟨x, hx, hr⟩ := mem_mergeE _ _ e he
    rcases hx with hx | hx
    · obtain ⟨y, hy, hq⟩ := ih1 x hx
      exact ⟨y, List.mem_of_mem_take hy, hq.trans hr⟩
    · obtain ⟨y, hy, hq⟩ := ih2 x hx
      exact ⟨y, List.mem_of_mem_drop hy, hq.trans hr⟩

theorem good_of : ∀ {l : List Entry} {p : Option Entry}, (∀ e ∈ l, e.ok = true) → l.Pairwise eR → (∀ q, p = some q → ∀ e ∈ l, eR q e) → goodFrom p l = true
  | [], _, _, _, _ => rfl
  | x :: l, p, h, hs, hp => by
    obtain ⟨h1, h2⟩ := List.pairwise_cons.1 hs
    have ih := good_of (p := some x) (fun e he => h e (by simp [he])) h2 (fun q hq => by cases hq; exact h1)
    simp only [goodFrom, Bool.and_eq_true]
    refine ⟨⟨h x (by simp), ?_⟩, ih⟩
    cases p with
    | none => rfl
    | some q => exact decide_eq_true (hp q rfl x (by simp))

/-- What a good Normalize returns. -/
theorem norm_good {l : List Entry} (h : (normE l).2 = 0) : (normE l).1 = sortE l ∧ Sorted (sortE l) ∧ bagValid (sortE l) = true ∧ ∀ r, sumK (sortE l) r = sumK l r := by
  unfold normE at *
  split at h
  · rename_i hall
    rw [if_pos hall]
    obtain ⟨p1, p2⟩ := sortE_says l (all_clean hall)
    refine ⟨fits_ok h, p1, ?_, p2⟩
    unfold fitsE at h
    split at h
    · cases h
    · split at h
      · rename_i hl hc
        simp only [bagValid, Bool.and_eq_true, decide_eq_true_eq]
        refine ⟨by omega, good_of (fun e he => ?_) p1.up (by simp)⟩
        have h1 := List.all_eq_true.1 hc e he
        obtain ⟨x, hx, hr⟩ := mem_sortE l e he
        have h2 := List.all_eq_true.1 hall x hx
        simp only [entryIn, Bool.and_eq_true] at h2
        simp only [Entry.ok, Bool.and_eq_true, decide_eq_true_eq]
        rw [← hr]
        exact ⟨⟨h2.1, h1⟩, p1.nz e he⟩
      · cases h
  · cases h

theorem sorted_of_valid {l : List Entry} (h : bagValid l = true) : Sorted l := by
  obtain ⟨_, hm⟩ := valid_mem h
  refine ⟨?_, fun e he => (hm e he).2.2, fun e he => rowOK_clean (hm e he).1⟩
  simp only [bagValid, Bool.and_eq_true] at h
  have key : ∀ {l : List Entry} {p : Option Entry}, goodFrom p l = true → l.Pairwise eR ∧ ∀ q, p = some q → ∀ e ∈ l, eR q e := by
    intro l
    induction l with
    | nil => intro p _; exact ⟨.nil, by simp⟩
    | cons x l ih =>
      intro p hp
      simp only [goodFrom, Bool.and_eq_true] at hp
      obtain ⟨i1, i2⟩ := ih hp.2
      refine ⟨List.pairwise_cons.2 ⟨i2 x rfl, i1⟩, fun q hq e he => ?_⟩
      subst hq
      have hqx : eR q x := by simpa [eR] using hp.1.2
      rcases List.mem_cons.1 he with rfl | he
      · exact hqx
      · exact eR_tr _ _ _ hqx (i2 x rfl e he)
  exact (key h.2).1

/-- A valid bag is kept. -/
theorem norm_valid {l : List Entry} (h : bagValid l = true) : normE l = (l, 0) := by
  have hs := sorted_of_valid h
  obtain ⟨hlen, hm⟩ := valid_mem h
  have hall : l.all entryIn = true := List.all_eq_true.2 fun e he => by
    obtain ⟨h1, h2, _⟩ := hm e he
    simp only [entryIn, countOK, Bool.and_eq_true, decide_eq_true_eq]
    exact ⟨h1, h2.1, h2.2⟩
  obtain ⟨p1, p2⟩ := sortE_says l (all_clean hall)
  have : sortE l = l := p1.unique hs p2
  rw [normE, if_pos hall, this, fitsE, if_neg (by omega), if_pos]
  refine List.all_eq_true.2 fun e he => ?_
  obtain ⟨_, h2, _⟩ := hm e he
  simp only [countOK, Bool.and_eq_true, decide_eq_true_eq]
  exact h2
end Go.Proofs.YtmpgmjlanngkfaaGreat
end
section
namespace Go.Proofs.YtmpgmjlanngkfaaGreat
open Go.Abs Go.RowKit
set_option linter.unusedSimpArgs false
set_option maxRecDepth 100000

/-- The sum of the absolute counts. -/
def absS : List Entry → Nat
  | [] => 0
  | e :: l => e.count.natAbs + absS l
theorem absS_append (a b : List Entry) : absS (a ++ b) = absS a + absS b := by
  induction a with
  | nil => simp [absS]
  | cons e a ih => simp only [List.cons_append, absS, ih]; omega
theorem absS_mergeE (a b : List Entry) : absS (mergeE a b) ≤ absS a + absS b := by
  induction a, b using mergeE.induct with
  | case1 b => simp [mergeE, absS]
  | case2 a h => rw [mergeE]; · omega
                 · exact h
  | case3 x a y b h ih => rw [mergeE, if_pos h]; simp only [absS] at ih ⊢; omega
  | case4 x a y b h1 h2 ih => rw [mergeE, if_neg h1, if_pos h2]; simp only [absS] at ih ⊢; omega
  | case5 x a y b h1 h2 ih =>
    rw [mergeE, if_neg h1, if_neg h2, absS_append]
    simp only [absS] at ih ⊢
    split
    · simp only [absS]; omega
    · simp only [absS]; omega
theorem absS_filter (p : Entry → Bool) (l : List Entry) : absS (l.filter p) ≤ absS l := by
  induction l with
  | nil => exact Nat.le_refl _
  | cons e l ih =>
    rw [List.filter_cons]
    split
    · simp only [absS]; omega
    · simp only [absS]; omega
theorem absS_sortE (l : List Entry) : absS (sortE l) ≤ absS l := by
  induction l using sortE.induct with
  | case1 l h => rw [sortE, dif_pos h]; exact absS_filter _ _
  | case2 l h ih1 ih2 =>
    rw [sortE, dif_neg h]
    have h1 := absS_mergeE (sortE (l.take (l.length / 2))) (sortE (l.drop (l.length / 2)))
    have h2 := absS_append (l.take (l.length / 2)) (l.drop (l.length / 2))
    rw [List.take_append_drop] at h2
    omega
theorem absS_mem {l : List Entry} {e : Entry} (h : e ∈ l) : e.count.natAbs ≤ absS l := by
  induction l with
  | nil => cases h
  | cons x l ih =>
    rcases List.mem_cons.1 h with rfl | h
    · simp only [absS]; omega
    · have := ih h; simp only [absS]; omega
theorem absS_len {l : List Entry} (h : ∀ e ∈ l, e.count ≠ 0) : l.length ≤ absS l := by
  induction l with
  | nil => exact Nat.le_refl _
  | cons e l ih =>
    have h1 := ih fun x hx => h x (by simp [hx])
    have h2 := h e (by simp)
    simp only [absS, List.length_cons]; omega
theorem absS_le {l : List Entry} {n : Nat} (h : ∀ e ∈ l, e.count.natAbs ≤ n) : absS l ≤ n * l.length := by
  induction l with
  | nil => exact Nat.zero_le _
  | cons e l ih =>
    have h1 := ih fun x hx => h x (by simp [hx])
    have h2 := h e (by simp)
    simp only [absS, List.length_cons, Nat.mul_add]; omega

/-- The sum of a function of the rows over a list, times the counts. -/
def wS (f : List Val → Int) : List Entry → Int
  | [] => 0
  | e :: l => e.count * f e.row + wS f l
theorem wS_append (f : List Val → Int) (a b : List Entry) : wS f (a ++ b) = wS f a + wS f b := by
  induction a with
  | nil => simp [wS]
  | cons e a ih => simp only [List.cons_append, wS, ih]; omega
theorem wS_mergeE (f : List Val → Int) (a b : List Entry) : (∀ e ∈ a, rowClean e.row) → (∀ e ∈ b, rowClean e.row) → wS f (mergeE a b) = wS f a + wS f b := by
  induction a, b using mergeE.induct with
  | case1 b => intro _ _; simp [mergeE, wS]
  | case2 a h => intro _ _; rw [mergeE]; · simp [wS]
                 · exact h
  | case3 x a y b h ih =>
    intro ha hb
    have ih := ih (fun e he => ha e (by simp [he])) hb
    rw [mergeE, if_pos h]; simp only [wS] at ih ⊢; rw [ih]; omega
  | case4 x a y b h1 h2 ih =>
    intro ha hb
    have ih := ih ha (fun e he => hb e (by simp [he]))
    rw [mergeE, if_neg h1, if_pos h2]; simp only [wS] at ih ⊢; rw [ih]; omega
  | case5 x a y b h1 h2 ih =>
    intro ha hb
    have ih := ih (fun e he => ha e (by simp [he])) (fun e he => hb e (by simp [he]))
    have h0 : rowCmp x.row y.row = 0 := by omega
    have hr := clean_eq (ha x (by simp)) (hb y (by simp)) h0
    rw [mergeE, if_neg h1, if_neg h2, wS_append, ih]
    simp only [wS]
    rw [← hr]
    have hm : (x.count + y.count) * f x.row = x.count * f x.row + y.count * f x.row := Int.add_mul ..
    split
    · rename_i hz
      rw [hz, Int.zero_mul] at hm
      simp only [wS]; omega
    · simp only [wS]; omega
theorem wS_filter (f : List Val → Int) (l : List Entry) : wS f (l.filter (fun e => decide (e.count ≠ 0))) = wS f l := by
  induction l with
  | nil => rfl
  | cons e l ih =>
    rw [List.filter_cons]
    split
    · simp only [wS, ih]
    · rename_i h
      have : e.count = 0 := by simpa using h
      simp only [wS, ih, this]; omega
theorem wS_sortE (f : List Val → Int) (l : List Entry) : (∀ e ∈ l, rowClean e.row) → wS f (sortE l) = wS f l := by
  induction l using sortE.induct with
  | case1 l h => intro _; rw [sortE, dif_pos h]; exact wS_filter f l
  | case2 l h ih1 ih2 =>
    intro hc
    have c1 : ∀ e ∈ l.take (l.length / 2), rowClean e.row := fun e he => hc e (List.mem_of_mem_take he)
    have c2 : ∀ e ∈ l.drop (l.length / 2), rowClean e.row := fun e he => hc e (List.mem_of_mem_drop he)
    rw [sortE, dif_neg h, wS_mergeE f _ _ (sortE_says _ c1).1.cl (sortE_says _ c2).1.cl, ih1 c1, ih2 c2, ← wS_append, List.take_append_drop]

def indR (r s : List Val) : Int := if rowCmp s r = 0 then 1 else 0
theorem sumK_w (l : List Entry) (r : List Val) : sumK l r = wS (indR r) l := by
  induction l with
  | nil => rfl
  | cons e l ih =>
    rw [sumK, wS, ih, indR]
    split <;> simp
/-- A valid bag whose rows have w cells and whose absolute counts sum up to at most n. -/
structure Tiny (n w : Nat) (b : List Entry) : Prop where
  v : bagValid b = true
  w : ∀ e ∈ b, e.row.length = w
  s : absS b ≤ n
theorem Tiny.cl {n w : Nat} {b : List Entry} (h : Tiny n w b) : ∀ e ∈ b, rowClean e.row := fun e he => rowOK_clean ((valid_mem h.v).2 e he).1
theorem tiny_of {l : List Entry} {n w : Nat} (hr : ∀ e ∈ l, rowOK e.row = true) (hw : ∀ e ∈ l, e.row.length = w) (hs : absS l ≤ n) (hn : n ≤ 4096) : Tiny n w (sortE l) ∧ ∀ e ∈ sortE l, e.count.natAbs ≤ 4096 := by
  obtain ⟨h1, _⟩ := sortE_says l fun e he => rowOK_clean (hr e he)
  have h2 := absS_sortE l
  have h3 : ∀ e ∈ sortE l, e.count.natAbs ≤ 4096 := fun e he => by have := absS_mem he; omega
  have h4 := absS_len h1.nz
  refine ⟨⟨?_, fun e he => ?_, by omega⟩, h3⟩
  · rw [bagValid, good_of (fun e he => ?_) h1.up (by simp), Bool.and_true]
    · simp only [decide_eq_true_eq]; omega
    · obtain ⟨x, hx, q⟩ := mem_sortE l e he
      have a1 := hr x hx
      rw [q] at a1
      have a2 := h1.nz e he
      have a3 := h3 e he
      simp only [Entry.ok, a1, countOK, Bool.true_and, Bool.and_eq_true, decide_eq_true_eq]
      omega
  · obtain ⟨x, hx, q⟩ := mem_sortE l e he
    rw [← q]; exact hw x hx
end Go.Proofs.YtmpgmjlanngkfaaGreat
end
end
