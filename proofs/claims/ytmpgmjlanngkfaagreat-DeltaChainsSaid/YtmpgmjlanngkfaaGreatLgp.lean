/-
  Aggregates, plain: the rows of groups.
-/
import Derived.Test.YtmpgmjlanngkfaaGreatVew
import Derived.Test.YtmpgmjlanngkfaaGreatAss
import Derived.Test.YtmpgmjlanngkfaaGreatAgr
import Derived.Test.YtmpgmjlanngkfaaGreatAgq
import Derived.Test.YtmpgmjlanngkfaaGreatTkg
import Derived.Test.YtmpgmjlanngkfaaGreatHom
import Derived.Test.YtmpgmjlanngkfaaGreatNrm
section
namespace Go.Proofs.YtmpgmjlanngkfaaGreat
open Go.Abs Go.RowKit
set_option linter.unusedSimpArgs false
set_option maxRecDepth 100000
theorem fitsE_ok {a : List Entry} (h : (fitsE a).2 = 0) : (fitsE a).1 = a := by
  unfold fitsE at *
  split at h
  · cases h
  · split at h
    · rename_i h1 h2; rw [if_neg h1, if_pos h2]
    · cases h
theorem map_sc_one (l : List Entry) : l.map (sc 1) = l := by
  conv => rhs; rw [← List.map_id l]
  refine List.map_congr_left fun e _ => ?_
  show (⟨e.row, 1 * e.count⟩ : Entry) = e
  rw [Int.one_mul]
structure TinV (n : Nat) (b : List Entry) : Prop where
  v : bagValid b = true
  s : absS b ≤ n
theorem Tiny.tv {n w : Nat} {b : List Entry} (h : Tiny n w b) : TinV n b := ⟨h.v, h.s⟩
theorem TinV.cl {n : Nat} {b : List Entry} (h : TinV n b) : ∀ e ∈ b, rowClean e.row := fun e he => rowOK_clean ((valid_mem h.v).2 e he).1
theorem TinV.win {n : Nat} {b : List Entry} (h : TinV n b) : within (n : Int) b := fun e he => by
  have h1 := absS_mem he
  have h2 := h.s
  omega
theorem TinV.len9 {n : Nat} {b : List Entry} (h : TinV n b) : b.length ≤ n :=
  Nat.le_trans (absS_len (sorted_of_valid h.v).nz) h.s
theorem Tiny.win {n w : Nat} {b : List Entry} (h : Tiny n w b) : within (n : Int) b := h.tv.win
theorem Tiny.len9 {n w : Nat} {b : List Entry} (h : Tiny n w b) : b.length ≤ n := h.tv.len9
theorem tiny_mono {n m w : Nat} {b : List Entry} (h : Tiny n w b) (hn : n ≤ m) : Tiny m w b := ⟨h.v, h.w, Nat.le_trans h.s hn⟩
theorem tinV_mono {n m : Nat} {b : List Entry} (h : TinV n b) (hn : n ≤ m) : TinV m b := ⟨h.v, Nat.le_trans h.s hn⟩
theorem addV9 {a b : List Entry} {A B : Nat} (ha : TinV A a) (hb : TinV B b) (hn : A + B ≤ 4096) : ∃ s, addE 1 a b = (s, 0) ∧ TinV (A + B) s ∧ (∀ e ∈ s, ∃ x, (x ∈ a ∨ x ∈ b) ∧ x.row = e.row) ∧ ∀ g, wS g s = wS g a + wS g b := by
  have la := ha.len9
  have lb := hb.len9
  obtain ⟨h1, h2, _⟩ := addE_small (s := 1) (.inl rfl) ha.v hb.v ha.win hb.win (by omega) (by omega) (by omega) (by omega)
  have he : addE 1 a b = fitsE (mergeE a b) := by rw [addE, if_pos ⟨ha.v, hb.v⟩, map_sc_one]
  rw [he] at h1 h2 ⊢
  have hf := fitsE_ok h1
  rw [hf] at h2
  refine ⟨mergeE a b, Prod.ext hf h1, ⟨h2, ?_⟩, fun e hm => mem_mergeE a b e hm, fun g => wS_mergeE g a b ha.cl hb.cl⟩
  have := absS_mergeE a b
  have h3 := ha.s
  have h4 := hb.s
  omega
theorem addT9 {a b : List Entry} {A B w : Nat} (ha : Tiny A w a) (hb : Tiny B w b) (hn : A + B ≤ 4096) : ∃ s, addE 1 a b = (s, 0) ∧ Tiny (A + B) w s ∧ ∀ g, wS g s = wS g a + wS g b := by
  obtain ⟨s, h1, h2, h3, h4⟩ := addV9 ha.tv hb.tv hn
  refine ⟨s, h1, ⟨h2.v, fun e hm => ?_, h2.s⟩, h4⟩
  obtain ⟨x, hx, hr⟩ := h3 e hm
  rw [← hr]
  rcases hx with hx | hx
  · exact ha.w x hx
  · exact hb.w x hx
theorem wS_negate (g : List Val → Int) (b : List Entry) : wS g (b.map (sc (-1))) = - wS g b := by
  induction b with
  | nil => rfl
  | cons e b ih =>
    rw [List.map_cons, wS, wS, ih]
    show (-1 * e.count) * g e.row + _ = _
    rw [show (-1 : Int) * e.count = -e.count by omega, Int.neg_mul]
    omega
theorem negV9 {b : List Entry} {B : Nat} (hb : TinV B b) (hn : B ≤ 4096) : addE (-1) [] b = (b.map (sc (-1)), 0) ∧ TinV B (b.map (sc (-1))) := by
  have lb := hb.len9
  have ev : bagValid [] = true := rfl
  obtain ⟨h1, h2, _⟩ := addE_small (s := -1) (.inr rfl) (M := 0) ev hb.v (fun e he => by cases he) hb.win (by omega) (by omega) (by omega) (by simp; omega)
  have he : addE (-1) [] b = fitsE (b.map (sc (-1))) := by rw [addE, if_pos ⟨ev, hb.v⟩, mergeE_nil']
  rw [he] at h1 h2 ⊢
  have hf := fitsE_ok h1
  rw [hf] at h2
  refine ⟨Prod.ext hf h1, h2, ?_⟩
  have h3 := hb.s
  have : ∀ l : List Entry, absS (l.map (sc (-1))) = absS l := fun l => by
    induction l with
    | nil => rfl
    | cons e l ih => rw [List.map_cons, absS, absS, ih]; show (-1 * e.count).natAbs + _ = _; omega
  rw [this]; exact h3
theorem bag_eq9 {s t : List Entry} (hs : bagValid s = true) (ht : bagValid t = true) (h : ∀ g, wS g s = wS g t) : s = t :=
  (sorted_of_valid hs).unique (sorted_of_valid ht) fun r => by rw [sumK_w, sumK_w, h]
theorem filter_valid9 {l : List Entry} (p : Entry → Bool) (h : bagValid l = true) : bagValid (l.filter p) = true := by
  obtain ⟨h1, h2⟩ := valid_mem h
  have hs := sorted_of_valid h
  have hl := List.length_filter_le p l
  rw [bagValid, good_of (fun e he => ?_) (List.Pairwise.sublist List.filter_sublist hs.up) (by simp), Bool.and_true]
  · simp only [decide_eq_true_eq]; omega
  · obtain ⟨q1, q2, q3⟩ := h2 e (List.mem_filter.1 he).1
    simp only [Entry.ok, q1, countOK, Bool.true_and, Bool.and_eq_true, decide_eq_true_eq]
    omega
theorem subV9 {a b : List Entry} {A B : Nat} (ha : TinV A a) (hb : TinV B b) (hn : A + B ≤ 4096) : ∃ s, addE (-1) a b = (s, 0) ∧ TinV (A + B) s ∧ (∀ e ∈ s, ∃ x, (x ∈ a ∨ x ∈ b) ∧ x.row = e.row) ∧ ∀ g, wS g s = wS g a - wS g b := by
  obtain ⟨h1, h2⟩ := negV9 hb (by omega)
  obtain ⟨s, g1, g2, g3, g4⟩ := addV9 ha h2 hn
  refine ⟨s, ?_, g2, fun e he => ?_, fun g => by rw [g4, wS_negate]; omega⟩
  · rw [addE, if_pos ⟨ha.v, h2.v⟩, map_sc_one] at g1
    rw [addE, if_pos ⟨ha.v, hb.v⟩]; exact g1
  · obtain ⟨x, hx, hr⟩ := g3 e he
    rcases hx with hx | hx
    · exact ⟨x, .inl hx, hr⟩
    · obtain ⟨y, hy, rfl⟩ := List.mem_map.1 hx
      exact ⟨y, .inr hy, hr⟩
theorem absS_map9 {f : Entry → Entry} {l : List Entry} {n : Nat} (h : ∀ e ∈ l, (f e).count.natAbs = n * e.count.natAbs) : absS (l.map f) = n * absS l := by
  induction l with
  | nil => rfl
  | cons e l ih =>
    rw [List.map_cons, absS, absS, h e (by simp), ih fun x hx => h x (by simp [hx]), Nat.mul_add]
def keepR9 (e : List Trm) (r : List Val) : Bool := decide (e.length = 0) || holdsE e r
theorem wS_keep9 (e : List Trm) (g : List Val → Int) (l : List Entry) : wS g (l.filter (keepE e)) = wS (fun r => if keepR9 e r then g r else 0) l := by
  induction l with
  | nil => rfl
  | cons x l ih =>
    rw [List.filter_cons, wS, ← ih]
    have hk : keepE e x = keepR9 e x.row := rfl
    rw [hk]
    cases keepR9 e x.row <;> simp [wS]
theorem whereT9 {a : List Entry} {A w : Nat} (ha : Tiny A w a) (e : List Trm) : Tiny A w (whereE a e) ∧ ∀ g, wS g (whereE a e) = wS (fun r => if keepR9 e r then g r else 0) a := by
  have h : whereE a e = a.filter (keepE e) := by rw [whereE, ha.v, if_pos rfl]
  rw [h]
  exact ⟨⟨filter_valid9 _ ha.v, fun x hx => ha.w x (List.mem_filter.1 hx).1, Nat.le_trans (absS_filter _ _) ha.s⟩, fun g => wS_keep9 e g a⟩
theorem map_row9 {items : List (List Trm)} (hc : items.length ≤ 8) (e : Entry) : rowOK (map1 items e).row = true := by
  simp only [rowOK, map1, Bool.and_eq_true, decide_eq_true_eq, List.length_map, List.all_eq_true]
  refine ⟨by omega, fun v hv => ?_⟩
  obtain ⟨c, _, rfl⟩ := List.mem_map.1 hv
  exact evE_valid c e.row
theorem wS_map9 (g : List Val → Int) (items : List (List Trm)) (l : List Entry) : wS g (l.map (map1 items)) = wS (fun s => g (items.map fun t => evE t s)) l := by
  induction l with
  | nil => rfl
  | cons x l ih => rw [List.map_cons, wS, wS, ih]; rfl
theorem mapT9 {b : List Entry} {A w : Nat} (hb : Tiny A w b) (items : List (List Trm)) (hc : items.length ≤ 8) (hn : A ≤ 4096) : ∃ r, mapE b items = (r, 0) ∧ Tiny A items.length r ∧ ∀ g, wS g r = wS (fun s => g (items.map fun t => evE t s)) b := by
  have hr : ∀ e ∈ b.map (map1 items), rowOK e.row = true := fun e he => by
    obtain ⟨x, hx, rfl⟩ := List.mem_map.1 he
    exact map_row9 hc x
  have hs : absS (b.map (map1 items)) ≤ A := by
    rw [absS_map9 (n := 1) fun e _ => by rw [Nat.one_mul]; rfl, Nat.one_mul]; exact hb.s
  obtain ⟨t1, t2⟩ := tiny_of (w := items.length) hr (fun e he => by obtain ⟨x, _, rfl⟩ := List.mem_map.1 he; simp [map1]) hs hn
  refine ⟨_, ?_, t1, fun g => by rw [wS_sortE _ _ fun e he => rowOK_clean (hr e he), wS_map9]⟩
  have hl := (valid_mem t1.v).1
  have hall : (b.map (map1 items)).all entryIn = true := List.all_eq_true.2 fun e he => by
    have h1 := hr e he
    obtain ⟨x, hx, rfl⟩ := List.mem_map.1 he
    have h2 := ((valid_mem hb.v).2 x hx).2.1
    have h3 : countOK x.count = true := by simp only [countOK, Bool.and_eq_true, decide_eq_true_eq]; exact h2
    rw [entryIn, h1]; exact h3
  rw [mapE, hb.v, decide_eq_true hc, Bool.and_self, if_pos rfl, normE, if_pos hall, fitsE, if_neg (by omega), if_pos]
  rw [List.all_eq_true]
  intro e he
  have := t2 e he
  simp only [countOK, Bool.and_eq_true, decide_eq_true_eq]; omega
theorem tiny_nil (w : Nat) : Tiny 0 w [] := ⟨rfl, fun e he => (by cases he), Nat.le_refl 0⟩
theorem add_nil9 {a : List Entry} {A w : Nat} (ha : Tiny A w a) (hn : A ≤ 4096) : addE 1 a [] = (a, 0) := by
  obtain ⟨s, h1, h2, h3⟩ := addT9 ha (tiny_nil w) (by omega)
  rw [h1, bag_eq9 h2.v ha.v fun g => by rw [h3]; show wS g a + 0 = _; omega]
end Go.Proofs.YtmpgmjlanngkfaaGreat
end
section
namespace Go.Proofs.YtmpgmjlanngkfaaGreat
open Go.Abs Go.RowKit
attribute [local irreducible] ARun kont MCall PCall HCall resVal SF CF CFs defersOk slotsIn memIn fin finM VLe
set_option linter.unusedSimpArgs false
set_option maxRecDepth 100000
set_option maxHeartbeats 4000000
def correctE (g : List Sta) (change : List Entry) (keys : List Itm) (ag : List Agg) : List Sta × Int :=
  if stsOk ag g = true then
    if (statesE change keys ag).2 = 0 then
      if ((mergeS g (statesE change keys ag).1).filter nzS).length ≤ 4096 then
        if stsOk ag ((mergeS g (statesE change keys ag).1).filter nzS) = true then ((mergeS g (statesE change keys ag).1).filter nzS, 0) else ([], 9)
      else ([], 8)
    else ([], 1)
  else ([], 1)
def shV (c : Int) (t : Agg × Int × Int) : Val := if t.1.func = 0 then Val.ofInt c else if t.2.2 = 0 then Val.null else Val.ofInt t.2.1
def shRow (ag : List Agg) (s : Sta) : List Val := s.key ++ (tri ag s).map (shV s.count)
def shE (ag : List Agg) (s : Sta) : Entry := ⟨shRow ag s, 1⟩
end Go.Proofs.YtmpgmjlanngkfaaGreat
end
section
namespace Go.Proofs.YtmpgmjlanngkfaaGreat
open Go.Abs Go.RowKit
set_option linter.unusedSimpArgs false
set_option maxRecDepth 100000

theorem nthE_mem : ∀ (S : List (Val × Int)) (i : Int), nthE S i = Val.null ∨ ∃ x ∈ S, x.1 = nthE S i
  | [], _ => .inl rfl
  | x :: S, i => by
    rw [nthE]
    split
    · exact .inr ⟨x, by simp, rfl⟩
    · rcases nthE_mem S (i - x.2) with h | ⟨y, hy, h⟩
      · exact .inl h
      · exact .inr ⟨y, by simp [hy], h⟩
theorem foldE_valid (f : Int) {L : List (Val × Int)} (h : ∀ x ∈ L, x.1.valid = true) : (foldE f L).valid = true := by
  have hA : ∀ i, (nthE (ascE L) i).valid = true := fun i => by
    rcases nthE_mem (ascE L) i with h1 | ⟨x, hx, h1⟩
    · rw [h1]; exact nullV
    · rw [← h1]; exact h x (List.mem_filter.1 ((ascE_perm L).mem_iff.1 hx)).1
  have hI : ∀ n, (Val.ofInt n).valid = true := fun n => by unfold Val.ofInt; exact clean_valid' _
  unfold foldE
  repeat' split
  all_goals first
    | exact hI _
    | exact nullV
    | exact hA _
theorem rowCmp_app : ∀ {a b x y : List Val}, a.length = b.length → rowCmp a b < 0 → rowCmp (a ++ x) (b ++ y) < 0
  | [], [], _, _, _, h => by simp [rowCmp] at h
  | u :: a, v :: b, x, y, hl, h => by
    rw [List.cons_append, List.cons_append, rowCmp]
    rw [rowCmp] at h
    split
    · rename_i q
      rw [if_pos q] at h
      exact rowCmp_app (by simpa using hl) h
    · rename_i q
      rw [if_neg q] at h; exact h
  | [], _ :: _, _, _, hl, _ => by simp at hl
  | _ :: _, [], _, _, hl, _ => by simp at hl
theorem keyE_val (keys : List Itm) (row : List Val) : ∀ v ∈ keyE keys row, v.valid = true := fun v hv => by
  obtain ⟨it, _, rfl⟩ := List.mem_map.1 hv
  exact evE_valid ..
theorem grpRow_val {ag : List Agg} {keys : List Itm} {b : List Entry} {k : List Val} (hk : k ∈ keysE b (keyE keys)) (es : List Entry) : ∀ v ∈ grpRow ag (k, es), v.valid = true := fun v hv => by
  obtain ⟨_, _, h3⟩ := keys_says (b := b) (kf := keyE keys) fun e _ => keyE_clean keys e.row
  rcases List.mem_append.1 hv with hv | hv
  · obtain ⟨e, _, rfl⟩ := (h3 k).1 hk
    exact keyE_val keys e.row v hv
  · obtain ⟨x, _, rfl⟩ := List.mem_map.1 hv
    refine foldE_valid _ fun y hy => ?_
    obtain ⟨e, _, rfl⟩ := List.mem_map.1 hy
    exact vlE_valid x e
theorem rows_valid {ag : List Agg} {keys : List Itm} {b : List Entry} (hl : b.length ≤ 4096) (h8 : keys.length + ag.length ≤ 8) : bagValid ((keysE b (keyE keys)).map (grE ag keys b)) = true := by
  have hK : CleanK b (keyE keys) := fun e _ => keyE_clean keys e.row
  obtain ⟨h1, _, _⟩ := keys_says hK
  have hlen := keysE_len b _ hK
  rw [bagValid, good_of (fun e he => ?_) ?_ (by simp), Bool.and_true]
  · simp only [decide_eq_true_eq, List.length_map]; omega
  · rw [List.pairwise_map]
    refine List.Pairwise.imp_of_mem (fun {x y} hx hy h => ?_) h1
    exact rowCmp_app (by rw [(keysE_mem hx).2, (keysE_mem hy).2]) h
  · obtain ⟨k, hk, rfl⟩ := List.mem_map.1 he
    have q1 : rowOK (grE ag keys b k).row = true := by
      simp only [rowOK, Bool.and_eq_true, decide_eq_true_eq, List.all_eq_true]
      refine ⟨?_, grpRow_val hk _⟩
      show (grpRow ag (k, _)).length ≤ _
      rw [grpRow_len, (keysE_mem hk).2]
      omega
    simp only [Entry.ok, q1, Bool.true_and]
    show (countOK 1 && decide ((1 : Int) ≠ 0)) = true
    decide
theorem group_rows {ag : List Agg} {keys : List Itm} {b : List Entry} (hp : positiveE b = true) (h8 : keys.length + ag.length ≤ 8) : groupE b keys ag = ((keysE b (keyE keys)).map (grE ag keys b), 0) := by
  rw [groupE_keys ⟨hp, h8⟩]
  exact norm_valid (rows_valid (valid_mem (pos_mem hp).1).1 h8)
theorem filter_pos {b : List Entry} (p : Entry → Bool) (h : positiveE b = true) : positiveE (b.filter p) = true := by
  obtain ⟨h1, h2⟩ := pos_mem h
  obtain ⟨h3, h4⟩ := valid_mem h1
  have hs := sorted_of_valid h1
  have hl := List.length_filter_le p b
  unfold positiveE
  rw [bagValid, good_of (fun e he => ?_) (List.Pairwise.sublist List.filter_sublist hs.up) (by simp), Bool.and_true, Bool.and_eq_true, List.all_eq_true]
  · refine ⟨by simp only [decide_eq_true_eq]; omega, fun e he => ?_⟩
    have := h2 e (List.mem_filter.1 he).1
    simp only [decide_eq_true_eq]; omega
  · obtain ⟨q1, q2, q3⟩ := h4 e (List.mem_filter.1 he).1
    simp only [Entry.ok, q1, countOK, Bool.true_and, Bool.and_eq_true, decide_eq_true_eq]
    omega
end Go.Proofs.YtmpgmjlanngkfaaGreat
end
