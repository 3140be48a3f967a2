/-
  Changes of views of one source without groups and Distinct, plain: they are what the view makes of the change.
-/
import Derived.Test.YtmpgmjlanngkfaaGreatAdd
import Derived.Test.YtmpgmjlanngkfaaGreatTny
import Derived.Test.YtmpgmjlanngkfaaGreatExn
import Derived.Test.YtmpgmjlanngkfaaGreatExo
import Derived.Test.YtmpgmjlanngkfaaGreatVde
import Derived.Test.YtmpgmjlanngkfaaGreatTpo
section
namespace Go.Proofs.YtmpgmjlanngkfaaGreat
open Go.Abs Go.RowKit
set_option linter.unusedSimpArgs false
set_option maxRecDepth 100000

theorem fitsE_ok {a : List Entry} (h : (fitsE a).2 = 0) : (fitsE a).1 = a := by
  unfold fitsE at *
  split at h
  · cases h
  · split at h
    · rename_i h1 h2; rw [if_neg h1, if_pos h2]
    · cases h
theorem map_sc_one (l : List Entry) : l.map (sc 1) = l := by
  conv => rhs; rw [← List.map_id l]
  refine List.map_congr_left fun e _ => ?_
  show (⟨e.row, 1 * e.count⟩ : Entry) = e
  rw [Int.one_mul]
/-- Small bags of rows of any widths. -/
structure TinV (n : Nat) (b : List Entry) : Prop where
  v : bagValid b = true
  s : absS b ≤ n
theorem Tiny.tv {n w : Nat} {b : List Entry} (h : Tiny n w b) : TinV n b := ⟨h.v, h.s⟩
theorem TinV.cl {n : Nat} {b : List Entry} (h : TinV n b) : ∀ e ∈ b, rowClean e.row := fun e he => rowOK_clean ((valid_mem h.v).2 e he).1
theorem TinV.win {n : Nat} {b : List Entry} (h : TinV n b) : within (n : Int) b := fun e he => by
  have h1 := absS_mem he
  have h2 := h.s
  omega
theorem TinV.len9 {n : Nat} {b : List Entry} (h : TinV n b) : b.length ≤ n :=
  Nat.le_trans (absS_len (sorted_of_valid h.v).nz) h.s
theorem Tiny.win {n w : Nat} {b : List Entry} (h : Tiny n w b) : within (n : Int) b := h.tv.win
theorem Tiny.len9 {n w : Nat} {b : List Entry} (h : Tiny n w b) : b.length ≤ n := h.tv.len9
/-- The sum of two small bags. -/
theorem addV9 {a b : List Entry} {A B : Nat} (ha : TinV A a) (hb : TinV B b) (hn : A + B ≤ 4096) : ∃ s, addE 1 a b = (s, 0) ∧ TinV (A + B) s ∧ (∀ e ∈ s, ∃ x, (x ∈ a ∨ x ∈ b) ∧ x.row = e.row) ∧ ∀ g, wS g s = wS g a + wS g b := by
  have la := ha.len9
  have lb := hb.len9
  obtain ⟨h1, h2, _⟩ := addE_small (s := 1) (.inl rfl) ha.v hb.v ha.win hb.win (by omega) (by omega) (by omega) (by omega)
  have he : addE 1 a b = fitsE (mergeE a b) := by rw [addE, if_pos ⟨ha.v, hb.v⟩, map_sc_one]
  rw [he] at h1 h2 ⊢
  have hf := fitsE_ok h1
  rw [hf] at h2
  refine ⟨mergeE a b, Prod.ext hf h1, ⟨h2, ?_⟩, fun e hm => mem_mergeE a b e hm, fun g => wS_mergeE g a b ha.cl hb.cl⟩
  have := absS_mergeE a b
  have h3 := ha.s
  have h4 := hb.s
  omega
theorem addT9 {a b : List Entry} {A B w : Nat} (ha : Tiny A w a) (hb : Tiny B w b) (hn : A + B ≤ 4096) : ∃ s, addE 1 a b = (s, 0) ∧ Tiny (A + B) w s ∧ ∀ g, wS g s = wS g a + wS g b := by
  obtain ⟨s, h1, h2, h3, h4⟩ := addV9 ha.tv hb.tv hn
  refine ⟨s, h1, ⟨h2.v, fun e hm => ?_, h2.s⟩, h4⟩
  obtain ⟨x, hx, hr⟩ := h3 e hm
  rw [← hr]
  rcases hx with hx | hx
  · exact ha.w x hx
  · exact hb.w x hx
theorem wS_negate (g : List Val → Int) (b : List Entry) : wS g (b.map (sc (-1))) = - wS g b := by
  induction b with
  | nil => rfl
  | cons e b ih =>
    rw [List.map_cons, wS, wS, ih]
    show (-1 * e.count) * g e.row + _ = _
    rw [show (-1 : Int) * e.count = -e.count by omega, Int.neg_mul]
    omega
/-- A small bag turned around. -/
theorem negV9 {b : List Entry} {B : Nat} (hb : TinV B b) (hn : B ≤ 4096) : addE (-1) [] b = (b.map (sc (-1)), 0) ∧ TinV B (b.map (sc (-1))) := by
  have lb := hb.len9
  have ev : bagValid [] = true := rfl
  obtain ⟨h1, h2, _⟩ := addE_small (s := -1) (.inr rfl) (M := 0) ev hb.v (fun e he => by cases he) hb.win (by omega) (by omega) (by omega) (by simp; omega)
  have he : addE (-1) [] b = fitsE (b.map (sc (-1))) := by rw [addE, if_pos ⟨ev, hb.v⟩, mergeE_nil']
  rw [he] at h1 h2 ⊢
  have hf := fitsE_ok h1
  rw [hf] at h2
  refine ⟨Prod.ext hf h1, h2, ?_⟩
  have h3 := hb.s
  have : ∀ l : List Entry, absS (l.map (sc (-1))) = absS l := fun l => by
    induction l with
    | nil => rfl
    | cons e l ih => rw [List.map_cons, absS, absS, ih]; show (-1 * e.count).natAbs + _ = _; omega
  rw [this]; exact h3
theorem bag_eq9 {s t : List Entry} (hs : bagValid s = true) (ht : bagValid t = true) (h : ∀ g, wS g s = wS g t) : s = t :=
  (sorted_of_valid hs).unique (sorted_of_valid ht) fun r => by rw [sumK_w, sumK_w, h]
theorem filter_valid9 {l : List Entry} (p : Entry → Bool) (h : bagValid l = true) : bagValid (l.filter p) = true := by
  obtain ⟨h1, h2⟩ := valid_mem h
  have hs := sorted_of_valid h
  have hl := List.length_filter_le p l
  rw [bagValid, good_of (fun e he => ?_) (List.Pairwise.sublist List.filter_sublist hs.up) (by simp), Bool.and_true]
  · simp only [decide_eq_true_eq]; omega
  · obtain ⟨q1, q2, q3⟩ := h2 e (List.mem_filter.1 he).1
    simp only [Entry.ok, q1, countOK, Bool.true_and, Bool.and_eq_true, decide_eq_true_eq]
    omega
/-- The difference of two small bags. -/
theorem subV9 {a b : List Entry} {A B : Nat} (ha : TinV A a) (hb : TinV B b) (hn : A + B ≤ 4096) : ∃ s, addE (-1) a b = (s, 0) ∧ TinV (A + B) s ∧ (∀ e ∈ s, ∃ x, (x ∈ a ∨ x ∈ b) ∧ x.row = e.row) ∧ ∀ g, wS g s = wS g a - wS g b := by
  obtain ⟨h1, h2⟩ := negV9 hb (by omega)
  obtain ⟨s, g1, g2, g3, g4⟩ := addV9 ha h2 hn
  refine ⟨s, ?_, g2, fun e he => ?_, fun g => by rw [g4, wS_negate]; omega⟩
  · rw [addE, if_pos ⟨ha.v, h2.v⟩, map_sc_one] at g1
    rw [addE, if_pos ⟨ha.v, hb.v⟩]; exact g1
  · obtain ⟨x, hx, hr⟩ := g3 e he
    rcases hx with hx | hx
    · exact ⟨x, .inl hx, hr⟩
    · obtain ⟨y, hy, rfl⟩ := List.mem_map.1 hx
      exact ⟨y, .inr hy, hr⟩
theorem subT9 {a b : List Entry} {A B w : Nat} (ha : Tiny A w a) (hb : Tiny B w b) (hn : A + B ≤ 4096) : ∃ s, addE (-1) a b = (s, 0) ∧ Tiny (A + B) w s ∧ ∀ g, wS g s = wS g a - wS g b := by
  obtain ⟨s, h1, h2, h3, h4⟩ := subV9 ha.tv hb.tv hn
  refine ⟨s, h1, ⟨h2.v, fun e hm => ?_, h2.s⟩, h4⟩
  obtain ⟨x, hx, hr⟩ := h3 e hm
  rw [← hr]
  rcases hx with hx | hx
  · exact ha.w x hx
  · exact hb.w x hx
end Go.Proofs.YtmpgmjlanngkfaaGreat
end
section
section
namespace Go.Proofs.YtmpgmjlanngkfaaGreat
open Go.Abs Go.RowKit
set_option linter.unusedSimpArgs false
set_option maxRecDepth 100000

theorem absS_map9 {f : Entry → Entry} {l : List Entry} {n : Nat} (h : ∀ e ∈ l, (f e).count.natAbs = n * e.count.natAbs) : absS (l.map f) = n * absS l := by
  induction l with
  | nil => rfl
  | cons e l ih =>
    rw [List.map_cons, absS, absS, h e (by simp), ih fun x hx => h x (by simp [hx]), Nat.mul_add]
def keepR9 (e : List Trm) (r : List Val) : Bool := decide (e.length = 0) || holdsE e r
theorem wS_keep9 (e : List Trm) (g : List Val → Int) (l : List Entry) : wS g (l.filter (keepE e)) = wS (fun r => if keepR9 e r then g r else 0) l := by
  induction l with
  | nil => rfl
  | cons x l ih =>
    rw [List.filter_cons, wS, ← ih]
    have hk : keepE e x = keepR9 e x.row := rfl
    rw [hk]
    cases keepR9 e x.row <;> simp [wS]
theorem whereT9 {a : List Entry} {A w : Nat} (ha : Tiny A w a) (e : List Trm) : Tiny A w (whereE a e) ∧ ∀ g, wS g (whereE a e) = wS (fun r => if keepR9 e r then g r else 0) a := by
  have h : whereE a e = a.filter (keepE e) := by rw [whereE, ha.v, if_pos rfl]
  rw [h]
  exact ⟨⟨filter_valid9 _ ha.v, fun x hx => ha.w x (List.mem_filter.1 hx).1, Nat.le_trans (absS_filter _ _) ha.s⟩, fun g => wS_keep9 e g a⟩

theorem map_row9 {items : List (List Trm)} (hc : items.length ≤ 8) (e : Entry) : rowOK (map1 items e).row = true := by
  simp only [rowOK, map1, Bool.and_eq_true, decide_eq_true_eq, List.length_map, List.all_eq_true]
  refine ⟨by omega, fun v hv => ?_⟩
  obtain ⟨c, _, rfl⟩ := List.mem_map.1 hv
  exact evE_valid c e.row
theorem wS_map9 (g : List Val → Int) (items : List (List Trm)) (l : List Entry) : wS g (l.map (map1 items)) = wS (fun s => g (items.map fun t => evE t s)) l := by
  induction l with
  | nil => rfl
  | cons x l ih => rw [List.map_cons, wS, wS, ih]; rfl
theorem mapT9 {b : List Entry} {A w : Nat} (hb : Tiny A w b) (items : List (List Trm)) (hc : items.length ≤ 8) (hn : A ≤ 4096) : ∃ r, mapE b items = (r, 0) ∧ Tiny A items.length r ∧ ∀ g, wS g r = wS (fun s => g (items.map fun t => evE t s)) b := by
  have hr : ∀ e ∈ b.map (map1 items), rowOK e.row = true := fun e he => by
    obtain ⟨x, hx, rfl⟩ := List.mem_map.1 he
    exact map_row9 hc x
  have hs : absS (b.map (map1 items)) ≤ A := by
    rw [absS_map9 (n := 1) fun e _ => by rw [Nat.one_mul]; rfl, Nat.one_mul]; exact hb.s
  obtain ⟨t1, t2⟩ := tiny_of (w := items.length) hr (fun e he => by obtain ⟨x, _, rfl⟩ := List.mem_map.1 he; simp [map1]) hs hn
  refine ⟨_, ?_, t1, fun g => by rw [wS_sortE _ _ fun e he => rowOK_clean (hr e he), wS_map9]⟩
  have hl := (valid_mem t1.v).1
  have hall : (b.map (map1 items)).all entryIn = true := List.all_eq_true.2 fun e he => by
    have h1 := hr e he
    obtain ⟨x, hx, rfl⟩ := List.mem_map.1 he
    have h2 := ((valid_mem hb.v).2 x hx).2.1
    have h3 : countOK x.count = true := by simp only [countOK, Bool.and_eq_true, decide_eq_true_eq]; exact h2
    rw [entryIn, h1]; exact h3
  rw [mapE, hb.v, decide_eq_true hc, Bool.and_self, if_pos rfl, normE, if_pos hall, fitsE, if_neg (by omega), if_pos]
  rw [List.all_eq_true]
  intro e he
  have := t2 e he
  simp only [countOK, Bool.and_eq_true, decide_eq_true_eq]; omega

theorem tiny_nil (w : Nat) : Tiny 0 w [] := ⟨rfl, fun e he => (by cases he), Nat.le_refl 0⟩
theorem add_nil9 {a : List Entry} {A w : Nat} (ha : Tiny A w a) (hn : A ≤ 4096) : addE 1 a [] = (a, 0) := by
  obtain ⟨s, h1, h2, h3⟩ := addT9 ha (tiny_nil w) (by omega)
  rw [h1, bag_eq9 h2.v ha.v fun g => by rw [h3]; show wS g a + 0 = _; omega]
theorem sub_add9 {a d s : List Entry} {A D w : Nat} (ha : Tiny A w a) (hd : Tiny D w d) (hs : Tiny (A + D) w s) (hn : A + D + A ≤ 4096) (h : ∀ g, wS g s = wS g a + wS g d) : addE (-1) s a = (d, 0) := by
  obtain ⟨x, h1, h2, h3⟩ := subT9 hs ha hn
  rw [h1, bag_eq9 h2.v hd.v fun g => by rw [h3, h]; omega]
/-- What Where and Map make of a sum, minus what they make of its first part, is what they make of the second. -/
theorem sub_sel9 {a d s : List Entry} {A D w : Nat} (ha : Tiny A w a) (hd : Tiny D w d) (hs : Tiny (A + D) w s) (hn : A + D + A ≤ 4096) (h : ∀ g, wS g s = wS g a + wS g d) (e : List Trm) (items : List (List Trm)) (hc : items.length ≤ 8) :
    ∃ x y z, mapE (whereE s e) items = (x, 0) ∧ mapE (whereE a e) items = (y, 0) ∧ mapE (whereE d e) items = (z, 0) ∧ bagValid x = true ∧ bagValid y = true ∧ bagValid z = true ∧ addE (-1) x y = (z, 0) := by
  obtain ⟨w1, g1⟩ := whereT9 hs e
  obtain ⟨w2, g2⟩ := whereT9 ha e
  obtain ⟨w3, g3⟩ := whereT9 hd e
  obtain ⟨x, m1, t1, f1⟩ := mapT9 w1 items hc (by omega)
  obtain ⟨y, m2, t2, f2⟩ := mapT9 w2 items hc (by omega)
  obtain ⟨z, m3, t3, f3⟩ := mapT9 w3 items hc (by omega)
  exact ⟨x, y, z, m1, m2, m3, t1.v, t2.v, t3.v, sub_add9 t2 t3 t1 hn fun g => by rw [f1, f2, f3, g1, g2, g3, h]⟩
end Go.Proofs.YtmpgmjlanngkfaaGreat
end
section
namespace Go.Proofs.YtmpgmjlanngkfaaGreat
open Go.Abs Go.RowKit
set_option linter.unusedSimpArgs false
set_option maxRecDepth 100000

theorem pos_val9 {a : List Entry} (va : bagValid a = true) (pa : ∀ e ∈ a, 0 < e.count) : positiveE a = true := by
  unfold positiveE
  rw [va, Bool.true_and, List.all_eq_true]
  intro e he
  have := pa e he
  simp; omega
theorem pos_sum9 {a d s : List Entry} (vs : bagValid s = true) (pa : ∀ e ∈ a, 0 < e.count) (pd : ∀ e ∈ d, 0 < e.count) (h : ∀ g, wS g s = wS g a + wS g d) : positiveE s = true := by
  unfold positiveE
  rw [vs, Bool.true_and, List.all_eq_true]
  intro e he
  have h1 := sumK_mem (apart_of_sorted (sorted_of_valid vs).up) he (rowCmp_ok.refl _)
  rw [sumK_w, h, ← sumK_w, ← sumK_w] at h1
  have h2 := sumK_ge (r := e.row) (l := a) fun x hx => by have := pa x hx; omega
  have h3 := sumK_ge (r := e.row) (l := d) fun x hx => by have := pd x hx; omega
  simp; omega

theorem fit9 {a d : List Entry} {A D w : Nat} (ha : Tiny A w a) (hd : Tiny D w d) (pa : ∀ e ∈ a, 0 < e.count) (pd : ∀ e ∈ d, 0 < e.count) (hn : A + D ≤ 4096) : ∃ s, fitE a d = (s, 0) ∧ Tiny (A + D) w s ∧ ∀ g, wS g s = wS g a + wS g d := by
  obtain ⟨s, h1, h2, h3⟩ := addT9 ha hd hn
  refine ⟨s, ?_, h2, h3⟩
  unfold fitE
  rw [h1, if_pos ⟨rfl, pos_sum9 h2.v pa pd h3⟩]

theorem lin_sel {v : Vw} {a d : List Entry} {A D w : Nat} (ha : Tiny A w a) (hd : Tiny D w d) (hn : A + D + A ≤ 4096) (pa : ∀ e ∈ a, 0 < e.count) (pd : ∀ e ∈ d, 0 < e.count) (hk : v.kind = 0) (hr : emptyR v = true) (hdis : v.distinct = false) (hi : v.items.length ≤ 8) :
    chaE (derivE v a []) (conSE (a, 0) (selE v a) (fitE a d) (selE v (fitE a d).1)) = ((mapE (whereE d v.wher) (v.items.map Itm.expr)).1, 0) := by
  obtain ⟨s, h1, h2, h3⟩ := fit9 ha hd pa pd (by omega)
  obtain ⟨x, y, z, m1, m2, m3, -, -, -, hs⟩ := sub_sel9 ha hd h2 hn h3 v.wher (v.items.map Itm.expr) (by simpa using hi)
  have hder : derivE v a [] = true := by
    unfold derivE knownV usesR
    rw [hk, hr, pos_val9 ha.v pa]; rfl
  have hsel : ∀ b q, mapE (whereE b v.wher) (v.items.map Itm.expr) = (q, 0) → selE v b = (q, 0) := fun b q hb => by
    unfold selE outE
    rw [if_neg (by omega), hb, if_pos rfl, hdis, if_neg (by decide)]
  rw [h1, hder, hsel _ _ m1, hsel _ _ m2, m3]
  exact hs

theorem lin_uni {v : Vw} {a d : List Entry} {A D w : Nat} (ha : Tiny A w a) (hd : Tiny D w d) (hn : A + D + A ≤ 4096) (pa : ∀ e ∈ a, 0 < e.count) (pd : ∀ e ∈ d, 0 < e.count) (hk : v.kind = 2) :
    chaE (derivE v a []) (conUE v a [] d []) = (d, 0) := by
  obtain ⟨s, h1, h2, h3⟩ := fit9 ha hd pa pd (by omega)
  have h0 : fitE [] [] = ([], 0) := by
    unfold fitE
    rw [add_nil9 (tiny_nil w) (by omega), if_pos ⟨rfl, rfl⟩]
  have hu : usesR v = true := by simp [usesR, hk]
  have hder : derivE v a [] = true := by
    unfold derivE knownV
    rw [hk, hu, pos_val9 ha.v pa]; rfl
  have hc : chgE v a [] d [] = (s, [], 0) := by
    unfold chgE
    rw [h1, h0, if_pos ⟨rfl, hu⟩]
  have hq : conUE v a [] d [] = (a, s, 0) := by
    unfold conUE
    rw [add_nil9 ha (by omega), if_pos rfl, hc, if_pos rfl]
    dsimp only
    rw [add_nil9 h2 (by omega)]
  rw [hder, hq]
  exact sub_add9 ha hd h2 hn h3
end Go.Proofs.YtmpgmjlanngkfaaGreat
end
end
