/-
  Where, Map, Join and Project of sums of small bags, in plain terms.
-/
import Derived.Test.YtiidgbfdghplhaaGreatAdd
import Derived.Test.YtiidgbfdghplhaaGreatAss
import Derived.Test.YtiidgbfdghplhaaGreatExn
import Derived.Test.YtiidgbfdghplhaaGreatExo
section
namespace Go.Proofs.YtiidgbfdghplhaaGreat
open Go.Abs Go.RowKit
attribute [local irreducible] ARun kont MCall PCall HCall resVal SF CF CFs defersOk slotsIn memIn fin finM VLe
set_option linter.unusedSimpArgs false
set_option maxRecDepth 100000
set_option maxHeartbeats 4000000

theorem map_sc1 (l : List Entry) : l.map (sc 1) = l := by
  conv => rhs; rw [← List.map_id l]
  apply List.map_congr_left
  intro e _
  show (⟨e.row, 1 * e.count⟩ : Entry) = e
  rw [Int.one_mul]
theorem valid_within {l : List Entry} (h : bagValid l = true) : within 1152921504606846976 l := fun e he => by
  have := ((valid_mem h).2 e he).2.1
  omega

/-- The sum of two valid bags. -/
theorem refAddV_c (a b : List Entry) (ha : bagValid a = true) (hb : bagValid b = true) : PCall Tryz.prog 58 [.one (bagD a), .one (bagD b)] (.tup [.one (bagD (addE 1 a b).1), .one (.lit (.int .i64 (addE 1 a b).2))]) := by
  have h1 := refBagValid_c a
  have h2 := refBagValid_c b
  have l1 := (valid_mem ha).1
  have l2 := (valid_mem hb).1
  have hm := merge_c a b (by omega) (by omega) (valid_within ha) (valid_within hb)
  have he : addE 1 a b = fitsE (mergeE a b) := by rw [addE, if_pos ⟨ha, hb⟩, map_sc1]
  have hf := fits_c (mergeE a b)
  rw [he]
  generalize mergeE a b = M at hm hf
  generalize fitsE M = R at hf
  obtain ⟨r, er⟩ := R
  dsimp only at hf ⊢
  rw [ha] at h1
  rw [hb] at h2
  refine pcallN hT Tryz.func58 Tryz.ntmps58 [.tmp 4, .tmp 5] fun B => ?_
  repeat' (first | (with_reducible (first | refine k_seq ?_ | refine k_skip ?_ | refine k_ret ?_ | refine n_seq ?_)) | refine s_reg ?_ | refine s_ifF ?_ | refine r_end ?_ | refine s_move ?_ | refine s_assign ?_ | refine s_call (h1) ?_ | refine s_call (h2) ?_ | refine s_call (hm) ?_ | refine s_call (hf) ?_ | refine s_pick ?_ | refine s_extract ?_ | refine s_not ?_ | refine f_ret2 def_nil ?_ ?_ | refine t_tmp ?_)
  all_goals rfl
end Go.Proofs.YtiidgbfdghplhaaGreat
end
section
namespace Go.Proofs.YtiidgbfdghplhaaGreat
open Go.Abs Go.RowKit
set_option linter.unusedSimpArgs false
set_option maxRecDepth 100000

theorem Tiny.within {n w : Nat} {b : List Entry} (h : Tiny n w b) : within (n : Int) b := fun e he => by
  have h1 := absS_mem he
  have h2 := h.s
  omega
theorem Tiny.len {n w : Nat} {b : List Entry} (h : Tiny n w b) : b.length ≤ n :=
  Nat.le_trans (absS_len (sorted_of_valid h.v).nz) h.s

theorem bag_eq {s t : List Entry} (hs : bagValid s = true) (ht : bagValid t = true) (h : ∀ g, wS g s = wS g t) : s = t :=
  (sorted_of_valid hs).unique (sorted_of_valid ht) fun r => by rw [sumK_w, sumK_w, h]

/-- The sum of two small bags. -/
theorem addT {a b : List Entry} {A B w : Nat} (ha : Tiny A w a) (hb : Tiny B w b) (hn : A + B ≤ 4096) : ∃ s, addE 1 a b = (s, 0) ∧ Tiny (A + B) w s ∧ ∀ g, wS g s = wS g a + wS g b := by
  have la := ha.len
  have lb := hb.len
  obtain ⟨h1, h2, _⟩ := addE_small (s := 1) (.inl rfl) ha.v hb.v ha.within hb.within (by omega) (by omega) (by omega) (by omega)
  have he : addE 1 a b = fitsE (mergeE a b) := by rw [addE, if_pos ⟨ha.v, hb.v⟩, map_sc1]
  rw [he] at h1 h2 ⊢
  have hf := fits_ok h1
  rw [hf] at h2
  refine ⟨mergeE a b, Prod.ext hf h1, ⟨h2, fun e hm => ?_, ?_⟩, fun g => wS_mergeE g a b ha.cl hb.cl⟩
  · obtain ⟨x, hx, hr⟩ := mem_mergeE a b e hm
    rw [← hr]
    rcases hx with hx | hx
    · exact ha.w x hx
    · exact hb.w x hx
  · have := absS_mergeE a b
    have h3 := ha.s
    have h4 := hb.s
    omega

theorem lin_op {ra rb rs : List Entry} {A B w : Nat} (ta : Tiny A w ra) (tb : Tiny B w rb) (vs : bagValid rs = true) (hn : A + B ≤ 4096) (h : ∀ g, wS g rs = wS g ra + wS g rb) : addE 1 ra rb = (rs, 0) := by
  obtain ⟨s, h1, h2, h3⟩ := addT ta tb hn
  rw [h1, bag_eq h2.v vs fun g => by rw [h3, h]]

theorem filter_valid {l : List Entry} (p : Entry → Bool) (h : bagValid l = true) : bagValid (l.filter p) = true := by
  obtain ⟨h1, h2⟩ := valid_mem h
  have hs := sorted_of_valid h
  have hl := List.length_filter_le p l
  rw [bagValid, good_of (fun e he => ?_) (List.Pairwise.sublist List.filter_sublist hs.up) (by simp), Bool.and_true]
  · simp only [decide_eq_true_eq]; omega
  · obtain ⟨q1, q2, q3⟩ := h2 e (List.mem_filter.1 he).1
    simp only [Entry.ok, q1, countOK, Bool.true_and, Bool.and_eq_true, decide_eq_true_eq]
    omega

def keepR (e : List Trm) (r : List Val) : Bool := decide (e.length = 0) || holdsE e r
theorem wS_filter2 (e : List Trm) (g : List Val → Int) (l : List Entry) : wS g (l.filter (keepE e)) = wS (fun r => if keepR e r then g r else 0) l := by
  induction l with
  | nil => rfl
  | cons x l ih =>
    rw [List.filter_cons, wS, ← ih]
    have hk : keepE e x = keepR e x.row := rfl
    rw [hk]
    cases keepR e x.row <;> simp [wS]
theorem whereT {a : List Entry} {A w : Nat} (ha : Tiny A w a) (e : List Trm) : Tiny A w (whereE a e) ∧ ∀ g, wS g (whereE a e) = wS (fun r => if keepR e r then g r else 0) a := by
  have h : whereE a e = a.filter (keepE e) := by rw [whereE, ha.v, if_pos rfl]
  rw [h]
  exact ⟨⟨filter_valid _ ha.v, fun x hx => ha.w x (List.mem_filter.1 hx).1, Nat.le_trans (absS_filter _ _) ha.s⟩, fun g => wS_filter2 e g a⟩

theorem map_row {items : List (List Trm)} (hc : items.length ≤ 8) (e : Entry) : rowOK (map1 items e).row = true := by
  simp only [rowOK, map1, Bool.and_eq_true, decide_eq_true_eq, List.length_map, List.all_eq_true]
  refine ⟨by omega, fun v hv => ?_⟩
  obtain ⟨c, _, rfl⟩ := List.mem_map.1 hv
  exact evE_valid c e.row
theorem wS_map (g : List Val → Int) (items : List (List Trm)) (l : List Entry) : wS g (l.map (map1 items)) = wS (fun s => g (items.map fun t => evE t s)) l := by
  induction l with
  | nil => rfl
  | cons x l ih => rw [List.map_cons, wS, wS, ih]; rfl
theorem mapT {b : List Entry} {A w : Nat} (hb : Tiny A w b) (items : List (List Trm)) (hc : items.length ≤ 8) (hn : A ≤ 4096) : ∃ r, mapE b items = (r, 0) ∧ Tiny A items.length r ∧ ∀ g, wS g r = wS (fun s => g (items.map fun t => evE t s)) b := by
  have hr : ∀ e ∈ b.map (map1 items), rowOK e.row = true := fun e he => by
    obtain ⟨x, hx, rfl⟩ := List.mem_map.1 he
    exact map_row hc x
  have hs : absS (b.map (map1 items)) ≤ A := by
    rw [absS_map (n := 1) fun e _ => by rw [Nat.one_mul]; rfl, Nat.one_mul]; exact hb.s
  obtain ⟨t1, t2⟩ := tiny_of (w := items.length) hr (fun e he => by obtain ⟨x, _, rfl⟩ := List.mem_map.1 he; simp [map1]) hs hn
  refine ⟨_, ?_, t1, fun g => by rw [wS_sortE _ _ fun e he => rowOK_clean (hr e he), wS_map]⟩
  have hl := (valid_mem t1.v).1
  have hall : (b.map (map1 items)).all entryIn = true := List.all_eq_true.2 fun e he => by
    have h1 := hr e he
    obtain ⟨x, hx, rfl⟩ := List.mem_map.1 he
    have h2 := ((valid_mem hb.v).2 x hx).2.1
    have h3 : countOK x.count = true := by simp only [countOK, Bool.and_eq_true, decide_eq_true_eq]; exact h2
    rw [entryIn, h1]; exact h3
  rw [mapE, hb.v, decide_eq_true hc, Bool.and_self, if_pos rfl, normE, if_pos hall, fitsE, if_neg (by omega), if_pos]
  rw [List.all_eq_true]
  intro e he
  have := t2 e he
  simp only [countOK, Bool.and_eq_true, decide_eq_true_eq]; omega

theorem wS_join (g : List Val → Int) {a b : List Entry} {A B w1 w2 : Nat} (ha : Tiny A w1 a) (hb : Tiny B w2 b) (on : List (Int × Int)) (hw : w1 + w2 ≤ 16) : wS g (sortE (pairsE a b on)) = wS (fun s => wS (fun t => if meetsE s t on then g (s ++ t) else 0) b) a := by
  rw [wS_sortE _ _ fun e he => rowOK_clean (pairs_rows ha.rows hb.rows hw e he).1, wS_pairsE]
theorem wS_projT (g : List Val → Int) {b : List Entry} {A w : Nat} (hb : Tiny A w b) (cols : List Int) (hc : cols.length ≤ 8) : wS g (sortE (b.map (proj1 cols))) = wS (fun s => g (cols.map (atE s))) b := by
  rw [wS_sortE _ _ fun e he => by
    obtain ⟨x, hx, rfl⟩ := List.mem_map.1 he
    exact rowOK_clean (proj_row hc (hb.rows x hx).1), wS_proj]
end Go.Proofs.YtiidgbfdghplhaaGreat
end
