/-
  Expressions: the document's Substitute.
-/
import Derived.Test.YtiidgbfdghplhaaGreatExb
import Derived.Test.YtiidgbfdghplhaaGreatExd
section
namespace Go.Proofs.YtiidgbfdghplhaaGreat
open Go.Abs Go.RowKit
set_option linter.unusedSimpArgs false
set_option maxRecDepth 100000

/-- A sequence read from another list. -/
theorem seqP_tr {α β : Type} {p : List Trm → Option (α × List Trm)} {q : List Trm → Option (β × List Trm)} {R : α → β → Prop} {φ : List Trm → List Trm} {Pd : List Trm → Prop} (h : ∀ l a r, Pd l → p l = some (a, r) → Pd r ∧ ∃ b, q (φ l) = some (b, φ r) ∧ R a b) : ∀ {k : Nat} {l r : List Trm} {zs : List α}, Pd l → seqP p k l = some (zs, r) → ∃ bs, seqP q k (φ l) = some (bs, φ r) ∧ All2 R zs bs
  | 0, l, r, zs, _, hh => by
    simp only [seqP, Option.some.injEq, Prod.mk.injEq] at hh
    obtain ⟨rfl, rfl⟩ := hh
    exact ⟨[], rfl, .nil⟩
  | k + 1, l, r, zs, hP, hh => by
    rw [seqP] at hh
    cases hq : p l with
    | none => rw [hq] at hh; cases hh
    | some x =>
      obtain ⟨a, r1⟩ := x
      rw [hq] at hh; simp only at hh
      cases hs : seqP p k r1 with
      | none => rw [hs] at hh; cases hh
      | some x' =>
        obtain ⟨zs', r2⟩ := x'
        rw [hs] at hh
        simp only [Option.some.injEq, Prod.mk.injEq] at hh
        obtain ⟨rfl, rfl⟩ := hh
        obtain ⟨hP1, b, h1, h2⟩ := h l a r1 hP hq
        obtain ⟨bs, h3, h4⟩ := seqP_tr h hP1 hs
        exact ⟨b :: bs, by rw [seqP, h1]; simp only; rw [h3], .cons h2 h4⟩
theorem map_snd_eq {zs bs : List (Nat × Val)} (h : All2 (fun a b => a.2 = b.2) zs bs) : zs.map Prod.snd = bs.map Prod.snd := by
  induction h with
  | nil => rfl
  | cons h _ ih => rw [List.map_cons, List.map_cons, h, ih]
theorem map_both_eq {zs bs : List (Nat × Val)} (h : All2 (fun a b => a = b) zs bs) : zs = bs := by
  induction h with
  | nil => rfl
  | cons h _ ih => rw [h, ih]

/-- What an expression means hangs on its columns only. -/
theorem parse_cols (row row' : List Val) : ∀ (n : Nat) (l : List Trm) (x : Nat × Val) (r : List Trm), (∀ t ∈ l, t.op = 2 → atE row t.col = atE row' t.col) → parse row n l = some (x, r) → parse row' n l = some (x, r)
  | 0, l, x, r, _, h => by cases h
  | n + 1, l, x, r, hc, h => by
    obtain ⟨m, t, l', xs, hm, rfl, ht, hs, hx⟩ := parse_cons h
    obtain rfl : n = m := by omega
    obtain ⟨bs, h1, h2⟩ := seqP_tr (q := parse row' n) (R := fun a b => a = b) (φ := id) (Pd := fun l => ∀ t ∈ l, t.op = 2 → atE row t.col = atE row' t.col) (fun l a r hP hh => by
      obtain ⟨s, e, _⟩ := parse_pre row n l a r hh
      exact ⟨fun t ht => hP t (by rw [e]; simp [ht]), a, parse_cols row row' n l a r hP hh, rfl⟩) (fun t' ht' => hc t' (by simp [ht'])) hs
    obtain rfl := map_both_eq h2
    have h1 : seqP (parse row' n) (aryE t.op).toNat l' = some (xs, (x, r).snd) := h1
    rw [parse_mk ht h1]
    simp only at hx
    rw [hx]
    have : tmE t row' (xs.map Prod.snd) = tmE t row (xs.map Prod.snd) := by
      unfold tmE
      split
      · rfl
      · split
        · rename_i h2'
          rw [hc t (by simp) h2']
        · rfl
    rw [this]
theorem evE_cols (e : List Trm) (row row' : List Val) (h : ∀ t ∈ e, t.op = 2 → atE row t.col = atE row' t.col) : evE e row = evE e row' := by
  cases hv : exprOK e with
  | false => rw [evE_no hv, evE_no hv]
  | true =>
    obtain ⟨_, x, hx⟩ := (exprOK_iff e row).1 hv
    rw [evE_ok hv hx, evE_ok hv (parse_cols row row' 16 e x [] h hx)]

/-- All terms of an expression are valid. -/
theorem parse_terms (row : List Val) : ∀ (n : Nat) (l : List Trm) (x : Nat × Val) (r : List Trm), parse row n l = some (x, r) → ∃ s, l = s ++ r ∧ ∀ t ∈ s, termOK t = true
  | 0, l, x, r, h => by cases h
  | n + 1, l, x, r, h => by
    obtain ⟨m, t, l', xs, hm, rfl, ht, hs, hx⟩ := parse_cons h
    obtain rfl : n = m := by omega
    obtain ⟨ss, h1, h2, h3⟩ := seqP_all (Q := fun s _ => ∀ t ∈ s, termOK t = true) (fun l a r hh => parse_terms row n l a r hh) hs
    have hl := seqP_len hs
    refine ⟨t :: ss.flatten, by rw [h1]; rfl, fun t' ht' => ?_⟩
    rcases List.mem_cons.1 ht' with rfl | ht'
    · exact ht
    · obtain ⟨s, hs1, hs2⟩ := List.mem_flatten.1 ht'
      obtain ⟨i, hi, rfl⟩ := List.mem_iff_getElem.1 hs1
      exact h3 i ss[i] (xs[i]'(by omega)) (List.getElem?_eq_getElem hi) (List.getElem?_eq_getElem _) t' hs2
theorem exprOK_col {e : List Trm} (he : exprOK e = true) {t : Trm} (ht : t ∈ e) (o2 : t.op = 2) : 0 ≤ t.col := by
  obtain ⟨_, x, hx⟩ := (exprOK_iff e []).1 he
  obtain ⟨s, h1, h2⟩ := parse_terms [] 16 e x [] hx
  rw [List.append_nil] at h1
  subst h1
  have h3 := h2 t ht
  simp only [termOK, Bool.and_eq_true, decide_eq_true_eq] at h3
  have h4 := h3.2
  rw [fieldsE, if_neg (by omega), if_pos o2, Bool.and_eq_true, decide_eq_true_eq] at h4
  exact h4.1

def subT (items : List (List Trm)) (t : Trm) : List Trm := if t.op = 2 then items.getD t.col.toNat [] else [t]
def subE (items : List (List Trm)) (e : List Trm) : List Trm := e.flatMap (subT items)
theorem subE_cons (items : List (List Trm)) (t : Trm) (l : List Trm) : subE items (t :: l) = subT items t ++ subE items l := rfl
def ColsIn (items : List (List Trm)) (l : List Trm) : Prop := ∀ t ∈ l, t.op = 2 → t.col < items.length

theorem parse_sub {items : List (List Trm)} (hi : ∀ it ∈ items, exprOK it = true) (row : List Val) : ∀ (n : Nat) (l : List Trm) (x : Nat × Val) (r : List Trm), ColsIn items l → parse (items.map fun t => evE t row) n l = some (x, r) → ∃ d, parse row (n + 16) (subE items l) = some ((d, x.2), subE items r)
  | 0, l, x, r, _, h => by cases h
  | n + 1, l, x, r, hc, h => by
    obtain ⟨m, t, l', xs, hm, rfl, ht, hs, hx⟩ := parse_cons h
    obtain rfl : n = m := by omega
    simp only at hs hx
    rw [hx]
    by_cases o2 : t.op = 2
    · have ha : aryE t.op = 0 := by rw [o2]; rfl
      rw [ha] at hs
      simp only [Int.toNat_zero, seqP, Option.some.injEq, Prod.mk.injEq] at hs
      obtain ⟨rfl, rfl⟩ := hs
      have h0 : 0 ≤ t.col := by
        simp only [termOK, Bool.and_eq_true, decide_eq_true_eq] at ht
        have := ht.2
        rw [fieldsE, if_neg (by omega), if_pos o2, Bool.and_eq_true, decide_eq_true_eq] at this
        exact this.1
      have hlt := hc t (by simp) o2
      have hg : items[t.col.toNat]? = some (items[t.col.toNat]'(by omega)) := List.getElem?_eq_getElem _
      have hit := hi _ (List.mem_of_getElem? hg)
      generalize items[t.col.toNat]'(by omega) = it at hg hit
      obtain ⟨_, y, hy⟩ := (exprOK_iff it row).1 hit
      have hev := evE_ok (row := row) hit hy
      obtain ⟨s', e1, _, e3⟩ := parse_pre row 16 it y [] hy
      rw [List.append_nil] at e1
      subst e1
      have hsub : subE items (t :: l') = it ++ subE items l' := by
        rw [subE_cons, subT, if_pos o2, List.getD_eq_getElem?_getD, hg]; rfl
      have hle := (parse_valid row 16 _ _ _ hy).2.2
      refine ⟨y.1, ?_⟩
      rw [hsub, parse_fuel row 16 _ _ _ (e3 (subE items l')) (n + 1 + 16) (by omega)]
      have hat : atE (items.map fun t => evE t row) t.col = y.2 := by
        have h1 : (items.map fun t => evE t row)[t.col.toNat]? = some y.2 := by rw [List.getElem?_map, hg, ← hev]; rfl
        have := atE_in h1
        rwa [Int.toNat_of_nonneg h0] at this
      have hcl : y.2.clean = y.2 := by rw [Val.clean, if_pos (parse_valid row 16 _ _ _ hy).1]
      simp only
      rw [show tmE t (items.map fun t => evE t row) (List.map Prod.snd []) = y.2 by rw [tmE, if_neg (by omega), if_pos o2, hat, hcl]]
    · obtain ⟨bs, h1, h2⟩ := seqP_tr (q := parse row (n + 16)) (R := fun a b => a.2 = b.2) (φ := subE items) (Pd := ColsIn items) (fun l a r hP hh => by
        obtain ⟨s, e, _⟩ := parse_pre _ n l a r hh
        obtain ⟨d, hd⟩ := parse_sub hi row n l a r hP hh
        exact ⟨fun t ht => hP t (by rw [e]; simp [ht]), _, hd, rfl⟩) (fun t' ht' => hc t' (by simp [ht'])) hs
      have hsub : subE items (t :: l') = t :: subE items l' := by rw [subE_cons, subT, if_neg o2]; rfl
      rw [hsub, show n + 1 + 16 = (n + 16) + 1 by omega, parse_mk ht h1]
      refine ⟨1 + maxL (bs.map Prod.fst), ?_⟩
      have htm : tmE t row (bs.map Prod.snd) = tmE t (items.map fun t => evE t row) (xs.map Prod.snd) := by
        rw [← map_snd_eq h2]
        by_cases o1 : t.op = 1
        · rw [tmE, tmE, if_pos o1, if_pos o1]
        · rw [tmE, tmE, if_neg o1, if_neg o1, if_neg o2, if_neg o2]
      rw [htm]

/-- The value of an expression with its columns replaced is its value for the values of the items. -/
theorem subst_eval {items : List (List Trm)} {e : List Trm} (row : List Val) (hi : ∀ it ∈ items, exprOK it = true) (he : exprOK e = true) (hc : ColsIn items e) (hs : exprOK (subE items e) = true) : evE (subE items e) row = evE e (items.map fun t => evE t row) := by
  obtain ⟨_, x, hx⟩ := (exprOK_iff e (items.map fun t => evE t row)).1 he
  obtain ⟨_, z, hz⟩ := (exprOK_iff (subE items e) row).1 hs
  obtain ⟨d, hd⟩ := parse_sub hi row 16 e x [] hc hx
  have h1 := parse_fuel row 16 _ _ _ hz (16 + 16) (by have := (parse_valid row 16 _ _ _ hz).2.2; omega)
  rw [show subE items [] = [] from rfl] at hd
  rw [hd] at h1
  simp only [Option.some.injEq, Prod.mk.injEq, and_true] at h1
  rw [evE_ok he hx, evE_ok hs hz, ← h1]
end Go.Proofs.YtiidgbfdghplhaaGreat
end
section
namespace Go.Proofs.YtiidgbfdghplhaaGreat
open Go.Abs Go.RowKit
attribute [local irreducible] ARun kont MCall PCall HCall resVal SF CF CFs defersOk slotsIn memIn fin finM VLe
set_option linter.unusedSimpArgs false
set_option maxRecDepth 100000
set_option maxHeartbeats 4000000

def itemsD (ss : List (List Trm)) : Dat := .sl (ss.map fun s => [exprD s])

/-- What Substitute gives: an error, or the expression with its columns replaced. -/
def SubR (e : List Trm) (items : List (List Trm)) (r : List Trm × Int) : Prop :=
  r.2 ≠ 0 ∨ (r = (subE items e, 0) ∧ exprOK e = true ∧ (∀ it ∈ items, exprOK it = true) ∧ ColsIn items e ∧ exprOK (subE items e) = true)

theorem subE_snoc (items : List (List Trm)) {e : List Trm} {i : Nat} {t : Trm} (h : e[i]? = some t) : subE items (e.take (i + 1)) = subE items (e.take i) ++ subT items t := by
  unfold subE
  rw [List.take_add_one, h, List.flatMap_append]
  simp
theorem subE_len {items : List (List Trm)} (hi : ∀ it ∈ items, exprOK it = true) : ∀ e : List Trm, (subE items e).length ≤ 64 * e.length
  | [] => by simp [subE]
  | t :: e => by
    have ih := subE_len hi e
    rw [subE_cons, List.length_append, List.length_cons]
    have : (subT items t).length ≤ 64 := by
      unfold subT
      split
      · rw [List.getD_eq_getElem?_getD]
        cases hq : items[t.col.toNat]? with
        | none => simp
        | some it => exact ((exprOK_iff it []).1 (hi it (List.mem_of_getElem? hq))).1
      · simp
    omega

theorem substitute_c (e : List Trm) (items : List (List Trm)) (hil : items.length ≤ 1000) : ∃ r, SubR e items r ∧ PCall Tryz.prog 22 [.one (exprD e), .one (itemsD items)] (.tup [.one (exprD r.1), .one (.lit (.int .i64 r.2))]) := by
  have h1 := refExprValid_c e
  cases he : exprOK e with
  | false =>
    rw [he] at h1
    refine ⟨([], 1), .inl (by decide), ?_⟩
    unfold itemsD
    refine pcallN hT Tryz.func22 Tryz.ntmps22 [.tmp 4, .tmp 5] fun B => ?_
    repeat' (first | (with_reducible (first | refine k_seq ?_ | refine k_block ?_ | refine k_skip ?_ | refine k_exit ?_ | refine k_ret ?_ | refine n_seq ?_ | refine n_block ?_ | refine e_seq ?_ | refine e_here ?_ | refine r_seq ?_ | refine r_block ?_ | refine o_exit ?_ | refine o_ret ?_)) | refine s_reg ?_ | refine s_ifT ?_ | refine s_ifF ?_ | refine r_end ?_ | refine s_move ?_ | refine s_assign ?_ | refine s_int ?_ | refine s_loadF1 ?_ | refine s_loadFA ?_ | refine s_indexD ?_ (hel := (by first | exact rfl)) | refine s_fieldF ?_ | refine s_call (h1) ?_ | refine s_lenD ?_ | refine s_appA ?_ | refine s_bslice ?_ | refine s_not ?_ | refine f_ret2 def_nil ?_ ?_ | refine t_tmp ?_ | refine t_tmpE ?_)
    all_goals rfl
  | true =>
  rw [he] at h1
  have hel := ((exprOK_iff e []).1 he).1
  -- the loops' results do not hang on how they are reached: by cases on what they find
  by_cases hall : ∀ it ∈ items, exprOK it = true
  · by_cases hcols : ColsIn items e
    · have h2 := refExprValid_c (subE items e)
      have hsl := subE_len hall e
      refine ⟨if exprOK (subE items e) = true then (subE items e, 0) else ([], 8), ?_, ?_⟩
      · split
        · rename_i hs; exact .inr ⟨rfl, he, hall, hcols, hs⟩
        · exact .inl (by decide)
      have hfr : List.take (subE items e).length ((subE items e).map Trm.d) = (subE items e).map Trm.d := take_ge (by simp)
      unfold itemsD
      refine pcallN hT Tryz.func22 Tryz.ntmps22 [.tmp 4, .tmp 5] fun B => ?_
      repeat' (first | (with_reducible (first | refine k_seq ?_ | refine k_block ?_ | refine k_skip ?_ | refine k_exit ?_ | refine k_ret ?_ | refine n_seq ?_ | refine n_block ?_ | refine e_seq ?_ | refine e_here ?_ | refine r_seq ?_ | refine r_block ?_ | refine o_exit ?_ | refine o_ret ?_)) | refine s_reg ?_ | refine s_ifT ?_ | refine s_ifF ?_ | refine r_end ?_ | refine s_move ?_ | refine s_assign ?_ | refine s_int ?_ | refine s_loadF1 ?_ | refine s_loadFA ?_ | refine s_indexD ?_ (hel := (by first | exact rfl)) | refine s_fieldF ?_ | refine s_call (h1) ?_ | refine s_lenD ?_ | refine s_appA ?_ | refine s_bslice ?_ | refine s_not ?_ | refine f_ret2 def_nil ?_ ?_ | refine t_tmp ?_ | refine t_tmpE ?_)
      refine s_lp (X := Nat) [4, 5, 6, 12, 13, 14, 15, 16, 17, 18, 19, 20, 21, 22, 23] (fun x => x ≤ items.length) (fun x lz => (6, (.c (.d (.lit (.int .i64 x))))) :: lz) (fun x => []) (fun x => items.length - x) (0) ?_ ?_ ?_ ?_
      repeat' (first | exact slots_nil | refine w1 ?_ | exact memIn_nil | refine memIn_same ?_ | refine m1 ?_ ?_ | omega)
      rintro i c hi
      by_cases hlt : i < items.length
      · have hx : items[i]? = some items[i] := List.getElem?_eq_getElem hlt
        generalize items[i] = it at hx
        have hx2 : (items.map fun s => [exprD s])[i]? = some [exprD it] := by rw [List.getElem?_map, hx]; rfl
        have h3 := refExprValid_c it
        rw [hall it (List.mem_of_getElem? hx)] at h3
        repeat' (first | (with_reducible (first | refine k_seq ?_ | refine k_block ?_ | refine k_skip ?_ | refine k_exit ?_ | refine k_ret ?_ | refine n_seq ?_ | refine n_block ?_ | refine e_seq ?_ | refine e_here ?_ | refine r_seq ?_ | refine r_block ?_ | refine o_exit ?_ | refine o_ret ?_)) | refine s_reg ?_ | refine s_ifT ?_ | refine s_ifF ?_ | refine r_end ?_ | refine s_move ?_ | refine s_assign ?_ | refine s_int ?_ | refine s_loadF1 ?_ | refine s_loadFA ?_ | refine s_indexD ?_ (hel := (by first | exact idx_map hx2 (by omega) | exact hx2 | exact rfl)) | refine s_fieldF ?_ | refine s_call (h3) ?_ | refine s_lenD ?_ | refine s_appA ?_ | refine s_bslice ?_ | refine s_not ?_ | refine f_ret2 def_nil ?_ ?_ | refine t_tmp ?_ | refine t_tmpE ?_)
        (apply s_round (i + 1); all_goals (try dsimp only); all_goals (try (repeat' (first | exact slots_nil | refine w1 ?_ | exact memIn_nil | refine memIn_same ?_ | refine m1 ?_ ?_ | omega))))
      · have hie : i = items.length := by omega
        subst hie
        repeat' (first | (with_reducible (first | refine k_seq ?_ | refine k_block ?_ | refine k_skip ?_ | refine k_exit ?_ | refine k_ret ?_ | refine n_seq ?_ | refine n_block ?_ | refine e_seq ?_ | refine e_here ?_ | refine r_seq ?_ | refine r_block ?_ | refine o_exit ?_ | refine o_ret ?_)) | refine s_reg ?_ | refine s_ifT ?_ | refine s_ifF ?_ | refine r_end ?_ | refine s_move ?_ | refine s_assign ?_ | refine s_int ?_ | refine s_loadF1 ?_ | refine s_loadFA ?_ | refine s_indexD ?_ (hel := (by first | exact rfl)) | refine s_fieldF ?_ | refine s_lenD ?_ | refine s_appA ?_ | refine s_bslice ?_ | refine s_not ?_ | refine f_ret2 def_nil ?_ ?_ | refine t_tmp ?_ | refine t_tmpE ?_)
        refine s_own 7 70 5 ?_
        refine s_lp (X := Nat × Nat × List Trm) [4, 5, 7, 8, 24, 25, 26, 27, 28, 29, 30, 31, 32, 33, 34, 35, 36, 37, 38, 39, 40, 41, 42, 43, 44, 45, 46, 47, 48, 49, 50, 51, 52, 53, 54, 55, 56, 57, 58, 59, 60, 61, 62] (fun x => x.1 ≤ e.length ∧ x.2.2 = subE items (e.take x.1)) (fun x lz => (7, .c (.arr 0 x.2.1 x.2.2.length)) :: (8, (.c (.d (.lit (.int .i64 x.1))))) :: lz) (fun x => [.arr x.2.1 70 5 (x.2.2.map Trm.d)]) (fun x => e.length - x.1) ((0, c + 1, [])) ?_ ?_ ?_ ?_
        repeat' (first | exact slots_nil | refine w1 ?_ | exact memIn_nil | refine memIn_same ?_ | refine m1 ?_ ?_ | omega)
        · exact ⟨by simp, rfl⟩
        rintro ⟨j, k, out⟩ c2 ⟨hj, hout⟩
        dsimp only at hj hout ⊢
        have hol : out.length ≤ 100000 := by
          rw [hout]
          have := subE_len hall (e.take j)
          have h4 : (e.take j).length ≤ 64 := by simp; omega
          omega
        by_cases hlt2 : j < e.length
        · have hv : e[j]? = some e[j] := List.getElem?_eq_getElem hlt2
          generalize e[j] = t at hv
          have hsn := subE_snoc items hv
          rw [← hout] at hsn
          by_cases o2 : t.op = 2
          · have hct := hcols t (List.mem_of_getElem? hv) o2
            have hc0 := exprOK_col he (List.mem_of_getElem? hv) o2
            have hg : items[t.col.toNat]? = some (items[t.col.toNat]'(by omega)) := List.getElem?_eq_getElem _
            have hgl := ((exprOK_iff _ []).1 (hall _ (List.mem_of_getElem? hg))).1
            generalize items[t.col.toNat]'(by omega) = it at hg hgl
            have hg2 : (items.map fun s => [exprD s])[t.col.toNat]? = some [exprD it] := by rw [List.getElem?_map, hg]; rfl
            rw [show subT items t = it by rw [subT, if_pos o2, List.getD_eq_getElem?_getD, hg]; rfl] at hsn
            clear hout h2 hfr hall hcols h1
            repeat' (first | (with_reducible (first | refine k_seq ?_ | refine k_block ?_ | refine k_skip ?_ | refine k_exit ?_ | refine k_ret ?_ | refine n_seq ?_ | refine n_block ?_ | refine e_seq ?_ | refine e_here ?_ | refine r_seq ?_ | refine r_block ?_ | refine o_exit ?_ | refine o_ret ?_)) | refine s_reg ?_ | refine s_ifT ?_ | refine s_ifF ?_ | refine r_end ?_ | refine s_move ?_ | refine s_assign ?_ | refine s_int ?_ | refine s_loadF1 ?_ | refine s_loadFA ?_ | refine s_indexD ?_ (hel := (by first | exact idx_map hv (by omega) | exact idx_map hg2 (by omega) | exact hv | exact hg2 | exact rfl)) | refine s_fieldF ?_ | refine s_lenD ?_ | refine s_appA ?_ | refine s_bslice ?_ | refine s_not ?_ | refine f_ret2 def_nil ?_ ?_ | refine t_tmp ?_ | refine t_tmpE ?_)
            (apply s_round ((j + 1, _, out ++ it)); all_goals (try dsimp only); all_goals (try (repeat' (first | exact slots_nil | refine w1 ?_ | exact memIn_nil | refine memIn_same ?_ | refine m1 ?_ ?_ | omega))))
            all_goals first | (exact ⟨by omega, hsn.symm⟩) | exact List.map_append.symm | (simp; done) | skip
          · rw [show subT items t = [t] from if_neg o2] at hsn
            clear hout h2 hfr hall hcols h1
            repeat' (first | (with_reducible (first | refine k_seq ?_ | refine k_block ?_ | refine k_skip ?_ | refine k_exit ?_ | refine k_ret ?_ | refine n_seq ?_ | refine n_block ?_ | refine e_seq ?_ | refine e_here ?_ | refine r_seq ?_ | refine r_block ?_ | refine o_exit ?_ | refine o_ret ?_)) | refine s_reg ?_ | refine s_ifT ?_ | refine s_ifF ?_ | refine r_end ?_ | refine s_move ?_ | refine s_assign ?_ | refine s_int ?_ | refine s_loadF1 ?_ | refine s_loadFA ?_ | refine s_indexD ?_ (hel := (by first | exact idx_map hv (by omega) | exact hv | exact rfl)) | refine s_fieldF ?_ | refine s_lenD ?_ | refine s_appA ?_ | refine s_bslice ?_ | refine s_not ?_ | refine f_ret2 def_nil ?_ ?_ | refine t_tmp ?_ | refine t_tmpE ?_)
            (apply s_round ((j + 1, _, out ++ [t])); all_goals (try dsimp only); all_goals (try (repeat' (first | exact slots_nil | refine w1 ?_ | exact memIn_nil | refine memIn_same ?_ | refine m1 ?_ ?_ | omega))))
            all_goals first | (exact ⟨by omega, hsn.symm⟩) | (rw [List.map_append]; rfl) | (simp; done) | skip
        · have hje : j = e.length := by omega
          subst hje
          rw [List.take_length] at hout
          subst hout
          cases hs : exprOK (subE items e) with
          | true =>
            rw [hs] at h2
            rw [if_pos rfl]
            repeat' (first | refine s_freeze 7 ?_ (hes := hfr) | (with_reducible (first | refine k_seq ?_ | refine k_block ?_ | refine k_skip ?_ | refine k_exit ?_ | refine k_ret ?_ | refine n_seq ?_ | refine n_block ?_ | refine e_seq ?_ | refine e_here ?_ | refine r_seq ?_ | refine r_block ?_ | refine o_exit ?_ | refine o_ret ?_)) | refine s_reg ?_ | refine s_ifT ?_ | refine s_ifF ?_ | refine r_end ?_ | refine s_move ?_ | refine s_assign ?_ | refine s_int ?_ | refine s_loadF1 ?_ | refine s_loadFA ?_ | refine s_indexD ?_ (hel := (by first | exact rfl)) | refine s_fieldF ?_ | refine s_call (h2) ?_ | refine s_lenD ?_ | refine s_appA ?_ | refine s_bslice ?_ | refine s_not ?_ | refine f_ret2 def_nil ?_ ?_ | refine t_tmp ?_ | refine t_tmpE ?_)
            all_goals rfl
          | false =>
            rw [hs] at h2
            rw [if_neg (by decide)]
            repeat' (first | refine s_freeze 7 ?_ (hes := hfr) | (with_reducible (first | refine k_seq ?_ | refine k_block ?_ | refine k_skip ?_ | refine k_exit ?_ | refine k_ret ?_ | refine n_seq ?_ | refine n_block ?_ | refine e_seq ?_ | refine e_here ?_ | refine r_seq ?_ | refine r_block ?_ | refine o_exit ?_ | refine o_ret ?_)) | refine s_reg ?_ | refine s_ifT ?_ | refine s_ifF ?_ | refine r_end ?_ | refine s_move ?_ | refine s_assign ?_ | refine s_int ?_ | refine s_loadF1 ?_ | refine s_loadFA ?_ | refine s_indexD ?_ (hel := (by first | exact rfl)) | refine s_fieldF ?_ | refine s_call (h2) ?_ | refine s_lenD ?_ | refine s_appA ?_ | refine s_bslice ?_ | refine s_not ?_ | refine f_ret2 def_nil ?_ ?_ | refine t_tmp ?_ | refine t_tmpE ?_)
            all_goals rfl
    · refine ⟨([], 3), .inl (by decide), ?_⟩
      unfold itemsD
      refine pcallN hT Tryz.func22 Tryz.ntmps22 [.tmp 4, .tmp 5] fun B => ?_
      repeat' (first | (with_reducible (first | refine k_seq ?_ | refine k_block ?_ | refine k_skip ?_ | refine k_exit ?_ | refine k_ret ?_ | refine n_seq ?_ | refine n_block ?_ | refine e_seq ?_ | refine e_here ?_ | refine r_seq ?_ | refine r_block ?_ | refine o_exit ?_ | refine o_ret ?_)) | refine s_reg ?_ | refine s_ifT ?_ | refine s_ifF ?_ | refine r_end ?_ | refine s_move ?_ | refine s_assign ?_ | refine s_int ?_ | refine s_loadF1 ?_ | refine s_loadFA ?_ | refine s_indexD ?_ (hel := (by first | exact rfl)) | refine s_fieldF ?_ | refine s_call (h1) ?_ | refine s_lenD ?_ | refine s_appA ?_ | refine s_bslice ?_ | refine s_not ?_ | refine f_ret2 def_nil ?_ ?_ | refine t_tmp ?_ | refine t_tmpE ?_)
      refine s_lp (X := Nat) [4, 5, 6, 12, 13, 14, 15, 16, 17, 18, 19, 20, 21, 22, 23] (fun x => x ≤ items.length) (fun x lz => (6, (.c (.d (.lit (.int .i64 x))))) :: lz) (fun x => []) (fun x => items.length - x) (0) ?_ ?_ ?_ ?_
      repeat' (first | exact slots_nil | refine w1 ?_ | exact memIn_nil | refine memIn_same ?_ | refine m1 ?_ ?_ | omega)
      rintro i c hi
      by_cases hlt : i < items.length
      · have hx : items[i]? = some items[i] := List.getElem?_eq_getElem hlt
        generalize items[i] = it at hx
        have hx2 : (items.map fun s => [exprD s])[i]? = some [exprD it] := by rw [List.getElem?_map, hx]; rfl
        have h3 := refExprValid_c it
        rw [hall it (List.mem_of_getElem? hx)] at h3
        repeat' (first | (with_reducible (first | refine k_seq ?_ | refine k_block ?_ | refine k_skip ?_ | refine k_exit ?_ | refine k_ret ?_ | refine n_seq ?_ | refine n_block ?_ | refine e_seq ?_ | refine e_here ?_ | refine r_seq ?_ | refine r_block ?_ | refine o_exit ?_ | refine o_ret ?_)) | refine s_reg ?_ | refine s_ifT ?_ | refine s_ifF ?_ | refine r_end ?_ | refine s_move ?_ | refine s_assign ?_ | refine s_int ?_ | refine s_loadF1 ?_ | refine s_loadFA ?_ | refine s_indexD ?_ (hel := (by first | exact idx_map hx2 (by omega) | exact hx2 | exact rfl)) | refine s_fieldF ?_ | refine s_call (h3) ?_ | refine s_lenD ?_ | refine s_appA ?_ | refine s_bslice ?_ | refine s_not ?_ | refine f_ret2 def_nil ?_ ?_ | refine t_tmp ?_ | refine t_tmpE ?_)
        (apply s_round (i + 1); all_goals (try dsimp only); all_goals (try (repeat' (first | exact slots_nil | refine w1 ?_ | exact memIn_nil | refine memIn_same ?_ | refine m1 ?_ ?_ | omega))))
      · have hie : i = items.length := by omega
        subst hie
        repeat' (first | (with_reducible (first | refine k_seq ?_ | refine k_block ?_ | refine k_skip ?_ | refine k_exit ?_ | refine k_ret ?_ | refine n_seq ?_ | refine n_block ?_ | refine e_seq ?_ | refine e_here ?_ | refine r_seq ?_ | refine r_block ?_ | refine o_exit ?_ | refine o_ret ?_)) | refine s_reg ?_ | refine s_ifT ?_ | refine s_ifF ?_ | refine r_end ?_ | refine s_move ?_ | refine s_assign ?_ | refine s_int ?_ | refine s_loadF1 ?_ | refine s_loadFA ?_ | refine s_indexD ?_ (hel := (by first | exact rfl)) | refine s_fieldF ?_ | refine s_lenD ?_ | refine s_appA ?_ | refine s_bslice ?_ | refine s_not ?_ | refine f_ret2 def_nil ?_ ?_ | refine t_tmp ?_ | refine t_tmpE ?_)
        refine s_own 7 70 5 ?_
        refine s_lp (X := Nat × Nat × List Trm) [4, 5, 7, 8, 24, 25, 26, 27, 28, 29, 30, 31, 32, 33, 34, 35, 36, 37, 38, 39, 40, 41, 42, 43, 44, 45, 46, 47, 48, 49, 50, 51, 52, 53, 54, 55, 56, 57, 58, 59, 60, 61, 62] (fun x => x.1 ≤ e.length ∧ ColsIn items (e.take x.1) ∧ x.2.2 = subE items (e.take x.1)) (fun x lz => (7, .c (.arr 0 x.2.1 x.2.2.length)) :: (8, (.c (.d (.lit (.int .i64 x.1))))) :: lz) (fun x => [.arr x.2.1 70 5 (x.2.2.map Trm.d)]) (fun x => e.length - x.1) ((0, c + 1, [])) ?_ ?_ ?_ ?_
        repeat' (first | exact slots_nil | refine w1 ?_ | exact memIn_nil | refine memIn_same ?_ | refine m1 ?_ ?_ | omega)
        · exact ⟨by simp, fun t ht => by simp at ht, rfl⟩
        rintro ⟨j, k, out⟩ c2 ⟨hj, hci, hout⟩
        dsimp only at hj hci hout ⊢
        have hol : out.length ≤ 100000 := by
          rw [hout]
          have := subE_len hall (e.take j)
          have h4 : (e.take j).length ≤ 64 := by simp; omega
          omega
        by_cases hlt2 : j < e.length
        · have hv : e[j]? = some e[j] := List.getElem?_eq_getElem hlt2
          generalize e[j] = t at hv
          have hsn := subE_snoc items hv
          rw [← hout] at hsn
          have hcn : (t.op = 2 → t.col < items.length) → ColsIn items (e.take (j + 1)) := fun q u hu => by
            rw [List.take_add_one, hv] at hu
            rcases List.mem_append.1 hu with hu | hu
            · exact hci u hu
            · simp at hu; subst hu; exact q
          by_cases o2 : t.op = 2
          · have hc0 := exprOK_col he (List.mem_of_getElem? hv) o2
            by_cases hct : t.col < items.length
            · have hcn := hcn fun _ => hct
              have hg : items[t.col.toNat]? = some (items[t.col.toNat]'(by omega)) := List.getElem?_eq_getElem _
              have hgl := ((exprOK_iff _ []).1 (hall _ (List.mem_of_getElem? hg))).1
              generalize items[t.col.toNat]'(by omega) = it at hg hgl
              have hg2 : (items.map fun s => [exprD s])[t.col.toNat]? = some [exprD it] := by rw [List.getElem?_map, hg]; rfl
              rw [show subT items t = it by rw [subT, if_pos o2, List.getD_eq_getElem?_getD, hg]; rfl] at hsn
              clear hout hall hcols h1 hci
              repeat' (first | (with_reducible (first | refine k_seq ?_ | refine k_block ?_ | refine k_skip ?_ | refine k_exit ?_ | refine k_ret ?_ | refine n_seq ?_ | refine n_block ?_ | refine e_seq ?_ | refine e_here ?_ | refine r_seq ?_ | refine r_block ?_ | refine o_exit ?_ | refine o_ret ?_)) | refine s_reg ?_ | refine s_ifT ?_ | refine s_ifF ?_ | refine r_end ?_ | refine s_move ?_ | refine s_assign ?_ | refine s_int ?_ | refine s_loadF1 ?_ | refine s_loadFA ?_ | refine s_indexD ?_ (hel := (by first | exact idx_map hv (by omega) | exact idx_map hg2 (by omega) | exact hv | exact hg2 | exact rfl)) | refine s_fieldF ?_ | refine s_lenD ?_ | refine s_appA ?_ | refine s_bslice ?_ | refine s_not ?_ | refine f_ret2 def_nil ?_ ?_ | refine t_tmp ?_ | refine t_tmpE ?_)
              (apply s_round ((j + 1, _, out ++ it)); all_goals (try dsimp only); all_goals (try (repeat' (first | exact slots_nil | refine w1 ?_ | exact memIn_nil | refine memIn_same ?_ | refine m1 ?_ ?_ | omega))))
              all_goals first | (exact ⟨by omega, hcn, hsn.symm⟩) | exact List.map_append.symm | (simp; done) | skip
            · clear hout hall hcols h1 hci hcn hsn
              repeat' (first | (with_reducible (first | refine k_seq ?_ | refine k_block ?_ | refine k_skip ?_ | refine k_exit ?_ | refine k_ret ?_ | refine n_seq ?_ | refine n_block ?_ | refine e_seq ?_ | refine e_here ?_ | refine r_seq ?_ | refine r_block ?_ | refine o_exit ?_ | refine o_ret ?_)) | refine s_reg ?_ | refine s_ifT ?_ | refine s_ifF ?_ | refine r_end ?_ | refine s_move ?_ | refine s_assign ?_ | refine s_int ?_ | refine s_loadF1 ?_ | refine s_loadFA ?_ | refine s_indexD ?_ (hel := (by first | exact idx_map hv (by omega) | exact hv | exact rfl)) | refine s_fieldF ?_ | refine s_lenD ?_ | refine s_appA ?_ | refine s_bslice ?_ | refine s_not ?_ | refine f_ret2 def_nil ?_ ?_ | refine t_tmp ?_ | refine t_tmpE ?_)
              all_goals rfl
          · have hcn := hcn fun q => absurd q o2
            rw [show subT items t = [t] from if_neg o2] at hsn
            clear hout hall hcols h1 hci
            repeat' (first | (with_reducible (first | refine k_seq ?_ | refine k_block ?_ | refine k_skip ?_ | refine k_exit ?_ | refine k_ret ?_ | refine n_seq ?_ | refine n_block ?_ | refine e_seq ?_ | refine e_here ?_ | refine r_seq ?_ | refine r_block ?_ | refine o_exit ?_ | refine o_ret ?_)) | refine s_reg ?_ | refine s_ifT ?_ | refine s_ifF ?_ | refine r_end ?_ | refine s_move ?_ | refine s_assign ?_ | refine s_int ?_ | refine s_loadF1 ?_ | refine s_loadFA ?_ | refine s_indexD ?_ (hel := (by first | exact idx_map hv (by omega) | exact hv | exact rfl)) | refine s_fieldF ?_ | refine s_lenD ?_ | refine s_appA ?_ | refine s_bslice ?_ | refine s_not ?_ | refine f_ret2 def_nil ?_ ?_ | refine t_tmp ?_ | refine t_tmpE ?_)
            (apply s_round ((j + 1, _, out ++ [t])); all_goals (try dsimp only); all_goals (try (repeat' (first | exact slots_nil | refine w1 ?_ | exact memIn_nil | refine memIn_same ?_ | refine m1 ?_ ?_ | omega))))
            all_goals first | (exact ⟨by omega, hcn, hsn.symm⟩) | (rw [List.map_append]; rfl) | (simp; done) | skip
        · have hje : j = e.length := by omega
          subst hje
          rw [List.take_length] at hci
          exact absurd hci hcols
  · refine ⟨([], 1), .inl (by decide), ?_⟩
    unfold itemsD
    refine pcallN hT Tryz.func22 Tryz.ntmps22 [.tmp 4, .tmp 5] fun B => ?_
    repeat' (first | (with_reducible (first | refine k_seq ?_ | refine k_block ?_ | refine k_skip ?_ | refine k_exit ?_ | refine k_ret ?_ | refine n_seq ?_ | refine n_block ?_ | refine e_seq ?_ | refine e_here ?_ | refine r_seq ?_ | refine r_block ?_ | refine o_exit ?_ | refine o_ret ?_)) | refine s_reg ?_ | refine s_ifT ?_ | refine s_ifF ?_ | refine r_end ?_ | refine s_move ?_ | refine s_assign ?_ | refine s_int ?_ | refine s_loadF1 ?_ | refine s_loadFA ?_ | refine s_indexD ?_ (hel := (by first | exact rfl)) | refine s_fieldF ?_ | refine s_call (h1) ?_ | refine s_lenD ?_ | refine s_appA ?_ | refine s_bslice ?_ | refine s_not ?_ | refine f_ret2 def_nil ?_ ?_ | refine t_tmp ?_ | refine t_tmpE ?_)
    refine s_lp (X := Nat) [4, 5, 6, 12, 13, 14, 15, 16, 17, 18, 19, 20, 21, 22, 23] (fun x => x ≤ items.length ∧ ∀ it ∈ items.take x, exprOK it = true) (fun x lz => (6, (.c (.d (.lit (.int .i64 x))))) :: lz) (fun x => []) (fun x => items.length - x) (0) ?_ ?_ ?_ ?_
    repeat' (first | exact slots_nil | refine w1 ?_ | exact memIn_nil | refine memIn_same ?_ | refine m1 ?_ ?_ | omega)
    · exact ⟨by simp, fun it h => by simp at h⟩
    rintro i c ⟨hi, hinv⟩
    by_cases hlt : i < items.length
    · have hx : items[i]? = some items[i] := List.getElem?_eq_getElem hlt
      generalize items[i] = it at hx
      have hx2 : (items.map fun s => [exprD s])[i]? = some [exprD it] := by rw [List.getElem?_map, hx]; rfl
      have h3 := refExprValid_c it
      cases hok : exprOK it with
      | true =>
        rw [hok] at h3
        have hnx : ∀ u ∈ items.take (i + 1), exprOK u = true := fun u hu => by
          rw [List.take_add_one, hx] at hu
          rcases List.mem_append.1 hu with hu | hu
          · exact hinv u hu
          · simp at hu; subst hu; exact hok
        clear hall hinv
        repeat' (first | (with_reducible (first | refine k_seq ?_ | refine k_block ?_ | refine k_skip ?_ | refine k_exit ?_ | refine k_ret ?_ | refine n_seq ?_ | refine n_block ?_ | refine e_seq ?_ | refine e_here ?_ | refine r_seq ?_ | refine r_block ?_ | refine o_exit ?_ | refine o_ret ?_)) | refine s_reg ?_ | refine s_ifT ?_ | refine s_ifF ?_ | refine r_end ?_ | refine s_move ?_ | refine s_assign ?_ | refine s_int ?_ | refine s_loadF1 ?_ | refine s_loadFA ?_ | refine s_indexD ?_ (hel := (by first | exact idx_map hx2 (by omega) | exact hx2 | exact rfl)) | refine s_fieldF ?_ | refine s_call (h3) ?_ | refine s_lenD ?_ | refine s_appA ?_ | refine s_bslice ?_ | refine s_not ?_ | refine f_ret2 def_nil ?_ ?_ | refine t_tmp ?_ | refine t_tmpE ?_)
        (apply s_round (i + 1); all_goals (try dsimp only); all_goals (try (repeat' (first | exact slots_nil | refine w1 ?_ | exact memIn_nil | refine memIn_same ?_ | refine m1 ?_ ?_ | omega))))
        all_goals exact ⟨by omega, hnx⟩
      | false =>
        rw [hok] at h3
        clear hall hinv
        repeat' (first | (with_reducible (first | refine k_seq ?_ | refine k_block ?_ | refine k_skip ?_ | refine k_exit ?_ | refine k_ret ?_ | refine n_seq ?_ | refine n_block ?_ | refine e_seq ?_ | refine e_here ?_ | refine r_seq ?_ | refine r_block ?_ | refine o_exit ?_ | refine o_ret ?_)) | refine s_reg ?_ | refine s_ifT ?_ | refine s_ifF ?_ | refine r_end ?_ | refine s_move ?_ | refine s_assign ?_ | refine s_int ?_ | refine s_loadF1 ?_ | refine s_loadFA ?_ | refine s_indexD ?_ (hel := (by first | exact idx_map hx2 (by omega) | exact hx2 | exact rfl)) | refine s_fieldF ?_ | refine s_call (h3) ?_ | refine s_lenD ?_ | refine s_appA ?_ | refine s_bslice ?_ | refine s_not ?_ | refine f_ret2 def_nil ?_ ?_ | refine t_tmp ?_ | refine t_tmpE ?_)
        all_goals rfl
    · have hie : i = items.length := by omega
      subst hie
      rw [List.take_length] at hinv
      exact absurd hinv hall
end Go.Proofs.YtiidgbfdghplhaaGreat
end
