/-
  Algebra: the joiner's sums are those of the document's join. Plain, no program.
-/
import Derived.Test.YtmpgmjlanngkfaaGreatJoq
import Derived.Test.YtmpgmjlanngkfaaGreatRek
section
namespace Go.Proofs.YtmpgmjlanngkfaaGreat
open Go.Abs Go.RowKit
set_option linter.unusedSimpArgs false
set_option maxRecDepth 100000
theorem text_inj {a b : ByteArray} (h : a.toList = b.toList) : a = b := by
  rw [ByteArray.toList_eq, ByteArray.toList_eq] at h
  cases a; cases b
  simpa using h
theorem sameVal_iff {a b : Val} : sameVal a b = true ↔ a = b := by
  refine ⟨fun h => ?_, fun h => by rw [h]; exact sameVal_refl _⟩
  simp only [sameVal, Bool.and_eq_true, beq_iff_eq] at h
  obtain ⟨h1, h2, h3⟩ := h
  have := text_inj h3
  cases a; cases b; simp_all
def item1 (b : List Entry) (on : List (Int × Int)) (u : Entry) : Option Item := match keyS u.row (on.map Prod.fst) with
  | none => none
  | some key => if partE b (on.map Prod.snd) key = [] then none else some (encP u, partE b (on.map Prod.snd) key)
def itemsJ (a b : List Entry) (on : List (Int × Int)) : List Item := a.filterMap (item1 b on)
theorem runJ_A (b : List Entry) (on : List (Int × Int)) : ∀ (a : List Entry) (q : JS), runJ b on a q = runA (itemsJ a b on) q
  | [], q => rfl
  | u :: a, q => by
    rw [runJ, stepJ, itemsJ, List.filterMap_cons, item1]
    cases hk : keyS u.row (on.map Prod.fst) with
    | none => simp only; exact runJ_A b on a q
    | some key =>
      simp only
      by_cases hp : partE b (on.map Prod.snd) key = []
      · rw [if_pos hp, if_pos hp]; exact runJ_A b on a q
      · rw [if_neg hp, if_neg hp]
        simp only [runA, stepA]
        have ih := runJ_A b on a
        unfold itemsJ at ih
        show (match (match closeE (encRow u.row) q.1.reverse q.2.1 q.2.2 with | none => none | some (st', s', r') => _) with | none => none | some q' => runJ b on a q') = (match (match closeE (encRow u.row) q.1.reverse q.2.1 q.2.2 with | none => none | some (st', s', r') => _) with | none => none | some q' => runA (List.filterMap (item1 b on) a) q')
        cases closeE (encRow u.row) q.1.reverse q.2.1 q.2.2 with
        | none => rfl
        | some z => exact ih _
theorem finJ_A (a b : List Entry) (on : List (Int × Int)) : finJ a b on = finA (itemsJ a b on) := by
  unfold finJ finA
  rw [runJ_A]
  cases runA (itemsJ a b on) ([], [], []) with
  | none => rfl
  | some q =>
    simp only
    cases closeE [] q.1.reverse q.2.1 q.2.2 with
    | none => rfl
    | some z => rfl
theorem encRow_cons (a : Val) (r : List Val) : encRow (a :: r) = encVal a.clean ++ encRow r := by simp [encRow]
theorem encRow_append (r s : List Val) : encRow (r ++ s) = encRow r ++ encRow s := by simp [encRow]
theorem encRow_pre : ∀ {r s : List Val}, encRow r <+: encRow s → r.map Val.clean <+: s.map Val.clean
  | [], s, _ => List.nil_prefix
  | a :: r, [], h => by
    rw [encRow_cons] at h
    have hl := h.length_le
    have hne : 0 < (encVal a.clean).length := List.length_pos_iff.2 (encVal_ne a.clean)
    rw [List.length_append, show (encRow []).length = 0 from rfl] at hl
    omega
  | a :: r, b :: s, h => by
    obtain ⟨t, h⟩ := h
    rw [encRow_cons, encRow_cons, List.append_assoc] at h
    obtain ⟨q1, q2⟩ := encVal_inj (clean_valid a) (clean_valid b) h
    obtain ⟨z, hz⟩ := encRow_pre ⟨t, q2⟩
    exact ⟨z, by rw [List.map_cons, List.map_cons, q1, ← hz]; rfl⟩
theorem encRow_pre' {r s : List Val} (h : r.map Val.clean <+: s.map Val.clean) : encRow r <+: encRow s := by
  obtain ⟨t, h⟩ := h
  rw [← encRow_clean r, ← encRow_clean s, ← h, encRow_append]
  exact List.prefix_append ..
theorem pre_le : ∀ {r s : List Val}, r.map Val.clean <+: s.map Val.clean → ¬ rowCmp s r < 0
  | [], s, _ => by cases s <;> simp [rowCmp]
  | a :: r, [], h => by simp at h
  | a :: r, b :: s, h => by
    rw [List.map_cons, List.map_cons, List.cons_prefix_cons] at h
    rw [rowCmp, if_pos ((cmp_ok.zero b a).2 h.1.symm)]
    exact pre_le h.2
theorem pre_near : ∀ {r s t : List Val}, r.map Val.clean <+: t.map Val.clean → rowCmp r s < 0 → rowCmp s t < 0 → r.map Val.clean <+: s.map Val.clean
  | [], s, t, _, _, _ => List.nil_prefix
  | a :: r, [], t, _, h, _ => by simp [rowCmp] at h
  | a :: r, b :: s, [], _, _, h => by simp [rowCmp] at h
  | a :: r, b :: s, c :: t, h, h1, h2 => by
    rw [List.map_cons, List.map_cons, List.cons_prefix_cons] at h
    rw [List.map_cons, List.map_cons, List.cons_prefix_cons]
    rw [rowCmp] at h1 h2
    have hab : a.cmp b = 0 := by
      apply Classical.byContradiction
      intro hne
      rw [if_neg hne] at h1
      have h3 := cmp_ok.left h.1 h1
      have h4 := (cmp_ok.anti c b).2
      have h5 := (cmp_ok.anti b c).1 h3
      rw [if_neg (by omega)] at h2
      omega
    have hbc : b.cmp c = 0 := (cmp_ok.zero b c).2 (((cmp_ok.zero a b).1 hab).symm.trans h.1)
    rw [if_pos hab] at h1
    rw [if_pos hbc] at h2
    exact ⟨(cmp_ok.zero a b).1 hab, pre_near h.2 h1 h2⟩
theorem item1_fst {b : List Entry} {on : List (Int × Int)} {u : Entry} {x : Item} (h : item1 b on u = some x) : ∃ key, keyS u.row (on.map Prod.fst) = some key ∧ x = (encP u, partE b (on.map Prod.snd) key) := by
  unfold item1 at h
  split at h
  · cases h
  · rename_i key hk
    split at h
    · cases h
    · simp only [Option.some.injEq] at h
      exact ⟨key, hk, h.symm⟩
def SR (x y : Item) : Prop := ∃ u w : List Val, x.1.1 = encRow u ∧ y.1.1 = encRow w ∧ rowCmp u w < 0
theorem items_sr {a : List Entry} (b : List Entry) (on : List (Int × Int)) (h : a.Pairwise eR) : (itemsJ a b on).Pairwise SR := by
  refine h.filterMap (item1 b on) fun u w huw x hx y hy => ?_
  obtain ⟨_, _, rfl⟩ := item1_fst hx
  obtain ⟨_, _, rfl⟩ := item1_fst hy
  exact ⟨u.row, w.row, rfl, rfl, huw⟩
theorem items_ord {a : List Entry} (b : List Entry) (on : List (Int × Int)) (h : a.Pairwise eR) : InOrd (itemsJ a b on) := by
  have hS := items_sr b on h
  refine ⟨hS.imp fun {x y} hxy q => ?_, fun d x0 t hd x hx y hy hp => ?_⟩
  · obtain ⟨u, w, h1, h2, h3⟩ := hxy
    rw [h1, h2] at q
    exact pre_le (encRow_pre q) h3
  · rw [hd] at hS
    obtain ⟨_, g1, g2⟩ := List.pairwise_append.1 hS
    obtain ⟨u, v, e1, e2, e3⟩ := g2 x hx x0 (by simp)
    obtain ⟨v', w, f1, f2, f3⟩ := (List.pairwise_cons.1 g1).1 y hy
    have hvv : rowCmp v' w < 0 := f3
    have hvw : rowCmp v w < 0 := rowCmp_ok.left ((rowCmp_ok.zero _ _).1 (encRow_iff.1 (f1.symm.trans e2))) f3
    rw [e1, f2] at hp
    rw [e1, e2]
    exact encRow_pre' (pre_near (encRow_pre hp) e3 hvw)
theorem atE_clean {row : List Val} (h : rowOK row = true) (col : Int) : (atE row col).clean = atE row col := by
  simp only [rowOK, Bool.and_eq_true, List.all_eq_true] at h
  have hn : Val.null.clean = Val.null := by unfold Val.clean; split <;> rfl
  unfold atE
  split
  · exact hn
  · split
    · rename_i v hv
      rw [Val.clean, if_pos (h.2 v (List.mem_of_getElem? hv))]
    · exact hn
theorem keyV_clean {row : List Val} (h : rowOK row = true) : ∀ {cs : List Int} {l : List Val}, keyV row cs = some l → l.map Val.clean = l
  | [], l, hl => by simp [keyV] at hl; subst hl; rfl
  | c :: cs, l, hl => by
    rw [keyV] at hl
    split at hl
    · cases hl
    · cases hq : keyV row cs with
      | none => rw [hq] at hl; cases hl
      | some m =>
        rw [hq] at hl
        simp at hl
        subst hl
        rw [List.map_cons, atE_clean h, keyV_clean h hq]
theorem meets_key (x y : List Val) : ∀ on : List (Int × Int), meetsE x y on = true ↔ ∃ l, keyV x (on.map Prod.fst) = some l ∧ keyV y (on.map Prod.snd) = some l
  | [] => by simp [meetsE, keyV]
  | p :: on => by
    have ih := meets_key x y on
    have e : meetsE x y (p :: on) = ((decide ((atE x p.1).kind ≠ 0) && sameVal (atE x p.1) (atE y p.2)) && meetsE x y on) := by simp [meetsE]
    rw [e, Bool.and_eq_true, Bool.and_eq_true, ih, sameVal_iff, List.map_cons, List.map_cons, keyV, keyV]
    constructor
    · rintro ⟨⟨h1, h2⟩, l, h3, h4⟩
      simp only [decide_eq_true_eq] at h1
      rw [← h2, if_neg h1, if_neg h1, h3, h4]
      exact ⟨_, rfl, rfl⟩
    · rintro ⟨l, h3, h4⟩
      split at h3
      · cases h3
      · rename_i hk
        split at h4
        · cases h4
        · cases h5 : keyV x (on.map Prod.fst) with
          | none => rw [h5] at h3; cases h3
          | some m =>
            cases h6 : keyV y (on.map Prod.snd) with
            | none => rw [h6] at h4; cases h4
            | some m' =>
              rw [h5] at h3
              rw [h6] at h4
              simp only [Option.map_some, Option.some.injEq] at h3 h4
              rw [← h4] at h3
              injection h3 with q1 q2
              exact ⟨⟨by simpa using hk, q1⟩, m, rfl, by rw [q2]⟩
theorem meets_keyS {x y : List Val} (hx : rowOK x = true) (hy : rowOK y = true) (on : List (Int × Int)) : meetsE x y on = true ↔ ∃ k, keyS x (on.map Prod.fst) = some k ∧ keyS y (on.map Prod.snd) = some k := by
  rw [meets_key]
  unfold keyS
  constructor
  · rintro ⟨l, h1, h2⟩
    exact ⟨encRow l, by rw [h1]; rfl, by rw [h2]; rfl⟩
  · rintro ⟨k, h1, h2⟩
    cases h3 : keyV x (on.map Prod.fst) with
    | none => rw [h3] at h1; cases h1
    | some l =>
      cases h4 : keyV y (on.map Prod.snd) with
      | none => rw [h4] at h2; cases h2
      | some m =>
        rw [h3] at h1
        rw [h4] at h2
        simp only [Option.map_some, Option.some.injEq] at h1 h2
        have := encRow_inj (h1.trans h2.symm)
        rw [keyV_clean hx h3, keyV_clean hy h4] at this
        exact ⟨l, rfl, by rw [this]⟩
theorem part_T1 (u : Entry) (on2 : List Int) (key : Bs) (r : List Val) : ∀ b : List Entry, T1 (encP u) (partE b on2 key) (encRow r) = sumK ((b.filter fun y => decide (keyS y.row on2 = some key)).map (pairE u)) r
  | [] => rfl
  | y :: b => by
    have ih := part_T1 u on2 key r b
    unfold partE at ih ⊢
    rw [List.filterMap_cons, List.filter_cons]
    by_cases h : keyS y.row on2 = some key
    · rw [if_pos h, if_pos (by simpa using h)]
      simp only [T1, List.map_cons, List.sum_cons, sumK] at ih ⊢
      rw [ih]
      have he : ((encP u).1 ++ (encP y).1 = encRow r) ↔ rowCmp (pairE u y).row r = 0 := by
        show encRow u.row ++ encRow y.row = encRow r ↔ rowCmp (u.row ++ y.row) r = 0
        rw [← encRow_append, encRow_iff]
      by_cases hq : rowCmp (pairE u y).row r = 0
      · rw [if_pos hq, if_pos (he.2 hq)]; rfl
      · rw [if_neg hq, if_neg (fun z => hq (he.1 z))]
    · rw [if_neg h, if_neg (by simpa using h)]
      exact ih
theorem items_sum {a b : List Entry} (on : List (Int × Int)) (ha : ∀ e ∈ a, rowOK e.row = true) (hb : ∀ e ∈ b, rowOK e.row = true) (r : List Val) : TT (itemsJ a b on) (encRow r) = sumK (pairsE a b on) r := by
  induction a with
  | nil => rfl
  | cons u a ih =>
    have ih := ih (fun e he => ha e (by simp [he]))
    have hu := ha u (by simp)
    have e1 : pairsE (u :: a) b on = pairs1 u b on ++ pairsE a b on := by simp [pairsE]
    rw [e1, sumK_append, ← ih]
    unfold itemsJ
    rw [List.filterMap_cons]
    cases hk : keyS u.row (on.map Prod.fst) with
    | none =>
      have hp : pairs1 u b on = [] := by
        unfold pairs1
        rw [List.filter_eq_nil_iff.2]
        · rfl
        · intro y hy hm
          obtain ⟨k, h1, _⟩ := (meets_keyS hu (hb y hy) on).1 hm
          rw [hk] at h1; cases h1
      rw [hp]
      have hi : item1 b on u = none := by unfold item1; rw [hk]
      rw [hi]
      simp [sumK]
    | some key =>
      have hp : pairs1 u b on = (b.filter fun y => decide (keyS y.row (on.map Prod.snd) = some key)).map (pairE u) := by
        unfold pairs1
        congr 1
        apply List.filter_congr
        intro y hy
        rw [Bool.eq_iff_iff, meets_keyS hu (hb y hy), decide_eq_true_eq]
        constructor
        · rintro ⟨k, h1, h2⟩
          rw [hk] at h1
          simp only [Option.some.injEq] at h1
          rw [h1]; exact h2
        · intro h; exact ⟨key, hk, h⟩
      rw [hp, ← part_T1]
      by_cases hpe : partE b (on.map Prod.snd) key = []
      · have hi : item1 b on u = none := by unfold item1; rw [hk]; simp only; rw [if_pos hpe]
        rw [hi, hpe]
        simp [T1]
      · have hi : item1 b on u = some (encP u, partE b (on.map Prod.snd) key) := by unfold item1; rw [hk]; simp only; rw [if_neg hpe]
        rw [hi]
        simp [TT]
theorem items_row {a b : List Entry} {on : List (Int × Int)} {c : Bs} (h : TT (itemsJ a b on) c ≠ 0) : ∃ u ∈ a, ∃ y ∈ b, c = encRow (u.row ++ y.row) := by
  have hG : GG (itemsJ a b on) c := by
    apply Classical.byContradiction
    intro hn
    apply h
    unfold TT
    have : ∀ l : List Item, ¬ GG l c → (l.map fun x => T1 x.1 x.2 c).sum = 0 := by
      intro l
      induction l with
      | nil => intro _; rfl
      | cons x l ih =>
        intro hl
        have h1 : ¬ G1 x.1 x.2 c := fun q => hl ⟨x, by simp, q⟩
        have h2 : ¬ GG l c := fun ⟨y, hy, q⟩ => hl ⟨y, by simp [hy], q⟩
        have h3 : T1 x.1 x.2 c = 0 := by
          unfold T1
          have : ∀ ps : List (Bs × Int), (∀ y ∈ ps, x.1.1 ++ y.1 ≠ c) → (ps.map fun y => if x.1.1 ++ y.1 = c then x.1.2 * y.2 else 0).sum = 0 := by
            intro ps
            induction ps with
            | nil => intro _; rfl
            | cons y ps ih2 => intro hps; rw [List.map_cons, List.sum_cons, ih2 (fun z hz => hps z (by simp [hz])), if_neg (hps y (by simp))]; rfl
          exact this _ fun y hy q => h1 ⟨y, hy, q⟩
        rw [List.map_cons, List.sum_cons, ih h2, h3]; rfl
    exact this _ hn
  obtain ⟨x, hx, y, hy, hc⟩ := hG
  obtain ⟨u, hu, hi⟩ := List.mem_filterMap.1 hx
  obtain ⟨key, _, rfl⟩ := item1_fst hi
  obtain ⟨z, hz, rfl, _⟩ := partE_mem hy
  exact ⟨u, hu, z, hz, by rw [encRow_append]; exact hc.symm⟩
theorem nodup_sub {α : Type} [DecidableEq α] : ∀ {l m : List α}, l.Nodup → (∀ x ∈ l, x ∈ m) → l.length ≤ m.length
  | [], m, _, _ => Nat.zero_le _
  | x :: l, m, h, hs => by
    obtain ⟨h1, h2⟩ := List.nodup_cons.1 h
    have hx := hs x (by simp)
    have := nodup_sub (l := l) (m := m.erase x) h2 fun y hy => (List.mem_erase_of_ne (by rintro rfl; exact h1 hy)).2 (hs y (by simp [hy]))
    rw [List.length_erase_of_mem hx] at this
    have hpos := List.length_pos_of_mem hx
    rw [List.length_cons]; omega
theorem ex_map {α β : Type} {f : α → β} {P : α → Prop} : ∀ {l : List β}, (∀ y ∈ l, ∃ x, f x = y ∧ P x) → ∃ xs : List α, xs.map f = l ∧ ∀ x ∈ xs, P x
  | [], _ => ⟨[], rfl, by simp⟩
  | y :: l, h => by
    obtain ⟨x, hx, hp⟩ := h y (by simp)
    obtain ⟨xs, h1, h2⟩ := ex_map (l := l) (fun z hz => h z (by simp [hz]))
    exact ⟨x :: xs, by rw [List.map_cons, hx, h1], fun z hz => by
      rcases List.mem_cons.1 hz with rfl | hz
      · exact hp
      · exact h2 z hz⟩
theorem runA_len : ∀ {l : List Item} {q q' : JS}, runA l q = some q' → q.2.2.length ≤ 4096 → q'.2.2.length ≤ 4096
  | [], q, q', h, hq => by simp only [runA, Option.some.injEq] at h; subst h; exact hq
  | x :: l, q, q', h, hq => by
    rw [runA, stepA] at h
    cases hc : closeE x.1.1 q.1.reverse q.2.1 q.2.2 with
    | none => rw [hc] at h; cases h
    | some z =>
      obtain ⟨st', s', r'⟩ := z
      rw [hc] at h
      exact runA_len h (closeE_sub hc hq).2.2.2
theorem finA_len {l : List Item} {r : List (Bs × Int)} (h : finA l = some r) : r.length ≤ 4096 := by
  unfold finA at h
  cases hq : runA l ([], [], []) with
  | none => rw [hq] at h; cases h
  | some q =>
    rw [hq] at h
    simp only at h
    cases hc : closeE [] q.1.reverse q.2.1 q.2.2 with
    | none => rw [hc] at h; cases h
    | some z =>
      obtain ⟨st', s', r'⟩ := z
      rw [hc] at h
      simp only [Option.some.injEq] at h
      subst h
      exact (closeE_sub hc (runA_len hq (by simp))).2.2.2
theorem pairs_ok {a b : List Entry} (ha : ∀ e ∈ a, rowOK e.row = true ∧ e.row.length ≤ 8 ∧ e.count ≠ 0) (hb : ∀ e ∈ b, rowOK e.row = true ∧ e.row.length ≤ 8 ∧ e.count ≠ 0) {u y : Entry} (hu : u ∈ a) (hy : y ∈ b) : rowOK (u.row ++ y.row) = true ∧ u.count * y.count ≠ 0 := by
  obtain ⟨h1, h2, h3⟩ := ha u hu
  obtain ⟨h4, h5, h6⟩ := hb y hy
  simp only [rowOK, Bool.and_eq_true, decide_eq_true_eq] at h1 h4 ⊢
  refine ⟨⟨by simp; omega, by rw [List.all_append, h1.2, h4.2]; rfl⟩, fun q => ?_⟩
  rcases Int.mul_eq_zero.1 q with q | q
  · exact h3 q
  · exact h6 q
theorem bound_all (l : List Entry) : (l.all fun e => decide (-262144 ≤ e.count ∧ e.count ≤ 262144)) = l.all fun e => countOK e.count := by
  congr 1
  funext e
  simp [countOK]
theorem join_says {a b : List Entry} (on : List (Int × Int)) (ha : narrowE a = true) (hb : narrowE b = true) :
    match finJ a b on with
    | none => boundE (sumR (pairsE a b on)) = ([], 8)
    | some r => ∃ rs : List Entry, r = rs.map encP ∧ (∀ e ∈ rs, rowOK e.row = true) ∧ boundE (sumR (pairsE a b on)) = if rs.all (fun e => countOK e.count) then (sortF entCmp rs, 0) else ([], 9) := by
  obtain ⟨_, am⟩ := narrow_mem ha
  obtain ⟨_, bm⟩ := narrow_mem hb
  have am1 : ∀ e ∈ a, rowOK e.row = true ∧ e.row.length ≤ 8 ∧ e.count ≠ 0 := fun e he => ⟨(am e he).1, (am e he).2.2⟩
  have bm1 : ∀ e ∈ b, rowOK e.row = true ∧ e.row.length ≤ 8 ∧ e.count ≠ 0 := fun e he => ⟨(bm e he).1, (bm e he).2.2⟩
  have hva : bagValid a = true := by unfold narrowE at ha; simp only [Bool.and_eq_true] at ha; exact ha.2
  have hO := items_ord b on (sorted_of_valid hva).up
  have hsum := items_sum on (fun e he => (am e he).1) (fun e he => (bm e he).1)
  have hpc : ∀ e ∈ pairsE a b on, rowOK e.row = true ∧ e.count ≠ 0 := fun e he => by
    obtain ⟨x, hx, y, hy, _, rfl⟩ := pairs_mem he
    exact pairs_ok am1 bm1 hx hy
  have hsr := sumR_sort (pairsE a b on) fun e he => (hpc e he).2
  obtain ⟨s1, s2⟩ := sortE_says (pairsE a b on) fun e he => rowOK_clean (hpc e he).1
  have hrow : ∀ r : List (Bs × Int), FinR (TT (itemsJ a b on)) r → ∃ rs : List Entry, rs.map encP = r ∧ ∀ e ∈ rs, rowOK e.row = true ∧ e.count ≠ 0 ∧ sumK (pairsE a b on) e.row = e.count := fun r hr => by
    refine ex_map fun e he => ?_
    obtain ⟨h1, h2⟩ := hr.2 e he
    obtain ⟨u, hu, y, hy, hc⟩ := items_row (h1 ▸ h2)
    refine ⟨⟨u.row ++ y.row, e.2⟩, ?_, (pairs_ok am1 bm1 hu hy).1, h2, ?_⟩
    · show (encRow (u.row ++ y.row), e.2) = e
      rw [← hc]
    · rw [← hsum, ← hc, ← h1]
  have hF := finA_says hO
  rw [finJ_A]
  cases hq : finA (itemsJ a b on) with
  | none =>
    rw [hq] at hF
    obtain ⟨r, hl, hr⟩ := hF
    obtain ⟨rs, h1, h2⟩ := hrow r hr
    have hle : r.length ≤ (sortE (pairsE a b on)).length := by
      have := nodup_sub (l := r.map Prod.fst) (m := (sortE (pairsE a b on)).map fun e => encRow e.row) hr.1 fun c hc => by
        rw [← h1, List.map_map] at hc
        obtain ⟨e, he, rfl⟩ := List.mem_map.1 hc
        obtain ⟨_, q2, q3⟩ := h2 e he
        rw [← s2] at q3
        obtain ⟨x, hx, hz⟩ := sumK_nz (l := sortE (pairsE a b on)) (r := e.row) (by rw [q3]; exact q2)
        exact List.mem_map.2 ⟨x, hx, encRow_iff.2 hz⟩
      simpa using this
    simp only
    unfold boundE
    rw [hsr, if_pos (by omega)]
  | some r =>
    rw [hq] at hF
    obtain ⟨hr, hall⟩ := hF
    obtain ⟨rs, h1, h2⟩ := hrow r hr
    have hap : apart rs := by
      have hn := hr.1
      rw [← h1, List.map_map] at hn
      unfold apart
      rw [List.nodup_iff_pairwise_ne, List.pairwise_map] at hn
      exact hn.imp fun {x y} q z => q (encRow_iff.2 z)
    have hsu : ∀ ρ, sumK rs ρ = sumK (pairsE a b on) ρ := fun ρ => by
      by_cases hex : ∃ e ∈ rs, rowCmp e.row ρ = 0
      · obtain ⟨e, he, hz⟩ := hex
        rw [sumK_mem hap he hz, ← (h2 e he).2.2, ← hsum, ← hsum, encRow_iff.2 hz]
      · rw [sumK_none fun e he z => hex ⟨e, he, z⟩]
        apply Classical.byContradiction
        intro hne
        rw [← hsum] at hne
        have hm := hall _ (fun z => hne z.symm)
        rw [← h1] at hm
        obtain ⟨e, he, hee⟩ := List.mem_map.1 hm
        exact hex ⟨e, he, encRow_iff.1 (congrArg Prod.fst hee)⟩
    have hso := sortF_sums (fun e he => rowOK_clean (hpc e he).1) hap (fun e he => (h2 e he).2.1) (fun e he => rowOK_clean (h2 e he).1) hsu
    have hperm := sortF_perm entCmp_ok.swo rs
    refine ⟨rs, h1.symm, fun e he => (h2 e he).1, ?_⟩
    have hlen := finA_len hq
    rw [← h1, List.length_map] at hlen
    unfold boundE
    rw [hsr, ← hso, if_neg (by rw [hperm.length_eq]; omega), bound_all, hperm.all_eq]
end Go.Proofs.YtmpgmjlanngkfaaGreat
end
