/-
  Expressions: the document's evaluation.
-/
import Derived.Test.YtojfhaoleedmkaaGreatTex
import Derived.Test.YtojfhaoleedmkaaGreatExk
namespace Go.Proofs.YtojfhaoleedmkaaGreat
open Go.Abs Go.RowKit
attribute [local irreducible] ARun kont MCall PCall HCall resVal SF CF CFs defersOk slotsIn memIn fin finM VLe
set_option linter.unusedSimpArgs false
set_option maxRecDepth 100000
set_option maxHeartbeats 4000000
theorem refApply1_c (op : Int) (hop : op = 3 ∨ op = 9 ∨ op = 13 ∨ op = 16) (a b c : Val) (va : a.valid = true) : PCall Tryz.prog 151 [.one (.lit (.int .i64 op)), .one (rowD [a])] (.v (.agg (apE op a b c).d)) := by
  have hv : ∀ v ∈ [a], v.valid = true := by simp [va]
  rcases hop with rfl | rfl | rfl | rfl
  · rw [show apE 3 a b c = arE 3 a a by simp [apE]]
    exact refApplyS_c 3 (by omega) [a] _ (fun _ => strict3_c a va) (fun ⟨v, h1, h2⟩ => by simp at h1; subst h1; exact if_pos (.inl (by omega))) hv
  · rw [show apE 9 a b c = txtE 9 a b by simp [apE]]
    exact refApplyS_c 9 (by omega) [a] _ (fun _ => strict9_c a b) (fun ⟨v, h1, h2⟩ => by simp at h1; subst h1; exact if_pos (by omega)) hv
  · rw [show apE 13 a b c = arE 13 a a by simp [apE]]
    exact refApplyS_c 13 (by omega) [a] _ (fun _ => strict13_c a) (fun ⟨v, h1, h2⟩ => by simp at h1; subst h1; exact if_pos (.inl (by omega))) hv
  · rw [show apE 16 a b c = truthE (a.same Val.null) by rw [sameNull_iff va]; simp [apE, lenE], ← litsV]
    refine pcallN hT Tryz.func151 Tryz.ntmps151 [.cell 4 53] fun B => ?_
    repeat' (first | refine ks ?_ | refine ko ?_ | refine s_indexD ?_ (hel := (by first | exact rfl)) | refine s_call (refBit_c _) ?_ | refine f_ret1 def_nil ?_ | refine t_cellG ?_ | exact cfs_nil | refine cfs_cons ?_ ?_ | refine cf_d ?_)
    all_goals rfl
theorem refApply2_c (op : Int) (hop : op = 4 ∨ op = 5 ∨ op = 6 ∨ op = 7 ∨ op = 8 ∨ op = 10 ∨ op = 11 ∨ op = 12 ∨ op = 14 ∨ op = 15 ∨ op = 17) (a b c : Val) (va : a.valid = true) (vb : b.valid = true) : PCall Tryz.prog 151 [.one (.lit (.int .i64 op)), .one (rowD [a, b])] (.v (.agg (apE op a b c).d)) := by
  have hv : ∀ v ∈ [a, b], v.valid = true := by simp [va, vb]
  have hn : ∀ {R : Val}, (a.kind = 0 → R = Val.null) → (b.kind = 0 → R = Val.null) → (∃ v ∈ [a, b], v.kind = 0) → R = Val.null := fun {R} h1 h2 ⟨v, h3, h4⟩ => by
    simp at h3
    rcases h3 with rfl | rfl
    · exact h1 h4
    · exact h2 h4
  have har : ∀ o : Int, (a.kind = 0 → arE o a b = Val.null) ∧ (b.kind = 0 → arE o a b = Val.null) := fun o => ⟨fun h => if_pos (.inl (by omega)), fun h => if_pos (.inr (by omega))⟩
  have hnz : (∀ v ∈ [a, b], v.kind ≠ 0) → a.kind ≠ 0 := fun h => h a (by simp)
  rcases hop with h | h | h | h | rfl | rfl | rfl | rfl | rfl | rfl | rfl
  · rw [show apE op a b c = arE op a b by rw [h]; simp [apE]]
    exact refApplyS_c op (by omega) [a, b] _ (fun _ => strictN_c op (by omega) a b va vb) (hn (har op).1 (har op).2) hv
  · rw [show apE op a b c = arE op a b by rw [h]; simp [apE]]
    exact refApplyS_c op (by omega) [a, b] _ (fun _ => strictN_c op (by omega) a b va vb) (hn (har op).1 (har op).2) hv
  · rw [show apE op a b c = arE op a b by rw [h]; simp [apE]]
    exact refApplyS_c op (by omega) [a, b] _ (fun _ => strictN_c op (by omega) a b va vb) (hn (har op).1 (har op).2) hv
  · rw [show apE op a b c = arE op a b by rw [h]; simp [apE]]
    exact refApplyS_c op (by omega) [a, b] _ (fun _ => strictN_c op (by omega) a b va vb) (hn (har op).1 (har op).2) hv
  · rw [show apE 8 a b c = txtE 8 a b by simp [apE]]
    exact refApplyS_c 8 (by omega) [a, b] _ (fun _ => strict8_c a b va vb) (hn (fun h => if_pos (by omega)) (fun h => by
      unfold txtE
      split
      · rfl
      · rw [if_neg (by omega), if_neg (fun q => by omega), if_neg (fun q => by omega)])) hv
  · rw [show apE 10 a b c = txtE 10 a b by simp [apE]]
    exact refApplyS_c 10 (by omega) [a, b] _ (fun _ => strict10_c a b) (hn (fun h => if_pos (by omega)) (fun h => by
      unfold txtE
      split
      · rfl
      · rw [if_neg (by omega), if_neg (fun q => by omega), if_neg (fun q => by omega)])) hv
  · rw [show apE 11 a b c = cmpE 11 a b by simp [apE]]
    exact refApplyS_c 11 (by omega) [a, b] _ (fun h => strict11_c a b (hnz h)) (hn (fun h => if_pos (.inl h)) (fun h => by
      by_cases k : a.kind = 0
      · exact if_pos (.inl k)
      · exact if_pos (.inr (by omega)))) hv
  · rw [show apE 12 a b c = cmpE 12 a b by simp [apE]]
    exact refApplyS_c 12 (by omega) [a, b] _ (fun h => strict12_c a b (hnz h)) (hn (fun h => if_pos (.inl h)) (fun h => by
      by_cases k : a.kind = 0
      · exact if_pos (.inl k)
      · exact if_pos (.inr (by omega)))) hv
  · rw [show apE 14 a b c = andE a b by simp [apE, lenE]]
    have h1 := refTruth_c a
    have h2 := refTruth_c b
    have h3 := refThree14_c a b
    refine pcallN hT Tryz.func151 Tryz.ntmps151 [.cell 4 53] fun B => ?_
    repeat' (first | refine ks ?_ | refine ko ?_ | refine s_indexD ?_ (hel := (by first | exact rfl)) | refine s_call (h1) ?_ | refine s_call (h2) ?_ | refine s_call (h3) ?_ | refine f_ret1 def_nil ?_ | refine t_cellG ?_ | exact cfs_nil | refine cfs_cons ?_ ?_ | refine cf_d ?_)
    all_goals rfl
  · rw [show apE 15 a b c = orE a b by simp [apE, lenE]]
    have h1 := refTruth_c a
    have h2 := refTruth_c b
    have h3 := refThree15_c a b
    refine pcallN hT Tryz.func151 Tryz.ntmps151 [.cell 4 53] fun B => ?_
    repeat' (first | refine ks ?_ | refine ko ?_ | refine s_indexD ?_ (hel := (by first | exact rfl)) | refine s_call (h1) ?_ | refine s_call (h2) ?_ | refine s_call (h3) ?_ | refine f_ret1 def_nil ?_ | refine t_cellG ?_ | exact cfs_nil | refine cfs_cons ?_ ?_ | refine cf_d ?_)
    all_goals rfl
  · have hsn := sameNull_iff va
    rw [← litsV] at hsn
    by_cases k : a.kind = 0
    · rw [show apE 17 a b c = b by simp [apE, lenE, k]]
      rw [decide_eq_true k] at hsn
      refine pcallN hT Tryz.func151 Tryz.ntmps151 [.cell 4 53] fun B => ?_
      repeat' (first | refine ks ?_ | refine ko ?_ | refine s_indexD ?_ (hel := (by first | exact rfl)) | refine f_ret1 def_nil ?_ | refine t_cellG ?_ | exact cfs_nil | refine cfs_cons ?_ ?_ | refine cf_d ?_)
      all_goals first | rfl | (exfalso; simp_all; done)
    · rw [show apE 17 a b c = a by simp [apE, lenE, k]]
      rw [decide_eq_false k] at hsn
      refine pcallN hT Tryz.func151 Tryz.ntmps151 [.cell 4 53] fun B => ?_
      repeat' (first | refine ks ?_ | refine ko ?_ | refine s_indexD ?_ (hel := (by first | exact rfl)) | refine f_ret1 def_nil ?_ | refine t_cellG ?_ | exact cfs_nil | refine cfs_cons ?_ ?_ | refine cf_d ?_)
      all_goals first | rfl | (exfalso; simp_all; done)
theorem refApply3_c (a b c : Val) : PCall Tryz.prog 151 [.one (.lit (.int .i64 18)), .one (rowD [a, b, c])] (.v (.agg (apE 18 a b c).d)) := by
  have h1 := refTruth_c a
  rw [show apE 18 a b c = if isT a then b else c by simp [apE, lenE]]
  cases ht : isT a with
  | true =>
    rw [(isT_iff a).1 ht] at h1
    refine pcallN hT Tryz.func151 Tryz.ntmps151 [.cell 4 53] fun B => ?_
    repeat' (first | refine ks ?_ | refine ko ?_ | refine s_indexD ?_ (hel := (by first | exact rfl)) | refine s_call (h1) ?_ | refine f_ret1 def_nil ?_ | refine t_cellG ?_ | exact cfs_nil | refine cfs_cons ?_ ?_ | refine cf_d ?_)
    all_goals rfl
  | false =>
    have hne : truthR a ≠ 1 := fun q => by rw [(isT_iff a).2 q] at ht; cases ht
    generalize truthR a = z at h1 hne
    refine pcallN hT Tryz.func151 Tryz.ntmps151 [.cell 4 53] fun B => ?_
    repeat' (first | refine ks ?_ | refine ko ?_ | refine s_indexD ?_ (hel := (by first | exact rfl)) | refine s_call (h1) ?_ | refine f_ret1 def_nil ?_ | refine t_cellG ?_ | exact cfs_nil | refine cfs_cons ?_ ?_ | refine cf_d ?_)
    all_goals first | rfl | (exfalso; simp_all; done)
theorem refApply_c (op : Int) (vs : List Val) (hl : (vs.length : Int) = aryE op) (h3 : op ≠ 1 ∧ op ≠ 2) (hv : ∀ v ∈ vs, v.valid = true) : PCall Tryz.prog 151 [.one (.lit (.int .i64 op)), .one (rowD vs)] (.v (.agg (apE op (nthV vs 0) (nthV vs 1) (nthV vs 2)).d)) := by
  unfold aryE at hl
  split at hl
  · omega
  split at hl
  · rename_i _ h
    match vs, hl with
    | [a], _ => exact refApply1_c op (by omega) a _ _ (hv a (by simp))
  split at hl
  · rename_i _ _ h
    match vs, hl with
    | [a, b, c], _ => rw [h]; exact refApply3_c a b c
  split at hl
  · rename_i _ _ _ h
    match vs, hl with
    | [a, b], _ => exact refApply2_c op (by omega) a b _ (hv a (by simp)) (hv b (by simp))
  · omega
def partsD (ss : List (List Trm)) : Dat := .sl (ss.map fun s => [exprD s])
theorem drop_flat {ss : List (List Trm)} {i : Nat} {s : List Trm} (h : ss[i]? = some s) : ss.flatten.drop (ss.take i).flatten.length = s ++ (ss.drop (i + 1)).flatten := by
  have e : ss.flatten = (ss.take i).flatten ++ (s ++ (ss.drop (i + 1)).flatten) := by
    conv => lhs; rw [← List.take_append_drop i ss, List.flatten_append, drop_cons h, List.flatten_cons]
  rw [e, List.drop_left]
theorem flat_take {ss : List (List Trm)} {i : Nat} {s : List Trm} (h : ss[i]? = some s) : (ss.take (i + 1)).flatten.length = (ss.take i).flatten.length + s.length := by
  rw [List.take_add_one, h]; simp
theorem flat_le (ss : List (List Trm)) (i : Nat) : (ss.take i).flatten.length ≤ ss.flatten.length := by
  conv => rhs; rw [← List.take_append_drop i ss, List.flatten_append, List.length_append]
  omega
theorem operands_c (e : List Trm) (t : Trm) (ss : List (List Trm)) (he : e = t :: ss.flatten) (hl : e.length ≤ 90000) (h : ∀ s ∈ ss, 0 < s.length ∧ ∃ x, ∀ r, parse [] 16 (s ++ r) = some (x, r)) : PCall Tryz.prog 150 [.one (exprD e)] (.v (.one (partsD ss))) := by
  have hel : e.length = ss.flatten.length + 1 := by rw [he, List.length_cons]
  have hlen : ss.length ≤ ss.flatten.length := by
    clear hl hel he
    induction ss with
    | nil => simp
    | cons s ss ih =>
      have h1 := ih fun x hx => h x (by simp [hx])
      have h2 := (h s (by simp)).1
      simp only [List.flatten_cons, List.length_append, List.length_cons]; omega
  have hf : List.take ss.length (ss.map fun s => [exprD s]) = ss.map fun s => [exprD s] := take_ge (by simp)
  refine pcallN hT Tryz.func150 Tryz.ntmps150 [.tmp 2] fun B => ?_
  repeat' (first | refine ks ?_ | refine ko ?_ | refine f_ret1 def_nil ?_ | refine t_tmp ?_)
  refine s_own 3 44 1 ?_
  refine s_lp (X := Nat × Nat) [3, 4, 5, 6, 7, 8, 9, 10, 11, 12, 13, 14, 15, 16, 17, 18, 19, 20] (fun x => x.1 ≤ ss.length) (fun x lz => (3, .c (.arr 0 x.2 x.1)) :: (4, (.c (.d (.lit (.int .i64 ((1 + (ss.take x.1).flatten.length : Nat) : Int)))))) :: lz) (fun x => [.arr x.2 44 1 ((ss.take x.1).map fun s => [exprD s])]) (fun x => ss.length - x.1) ((0, 1)) ?_ ?_ ?_ ?_
  repeat' (first | exact slots_nil | refine kw ?_ | exact memIn_nil | refine kv ?_ ?_ | omega)
  rintro ⟨i, k⟩ c hi
  dsimp only at hi ⊢
  have hil : (ss.take i).length = i := by simp; omega
  by_cases hlt : i < ss.length
  · have hv : ss[i]? = some ss[i] := List.getElem?_eq_getElem hlt
    generalize ss[i] = s at hv
    obtain ⟨h0, x, hx⟩ := h s (List.mem_of_getElem? hv)
    have hft := flat_take hv
    have hfl := flat_le ss (i + 1)
    have hdr : e.drop (1 + (ss.take i).flatten.length) = s ++ (ss.drop (i + 1)).flatten := by
      rw [he, Nat.add_comm, List.drop_succ_cons, drop_flat hv]
    have hc := end_c e (by omega) 16 (1 + (ss.take i).flatten.length) (by omega) (by omega)
    have hr : ((ss.drop (i + 1)).flatten).length + (s.length + (1 + (ss.take i).flatten.length)) = e.length := by
      have := congrArg List.length hdr
      rw [List.length_drop, List.length_append] at this
      omega
    have hE : endR e (1 + (ss.take i).flatten.length) 16 = ((1 + (ss.take i).flatten.length + s.length : Nat) : Int) := by
      rw [endR, hdr, hx]
      simp only
      congr 1; omega
    rw [hE] at hc
    have hsl : (e.take (1 + (ss.take i).flatten.length + s.length)).drop (1 + (ss.take i).flatten.length) = s := by
      rw [List.drop_take, Nat.add_sub_cancel_left, hdr]; simp
    have hmap : (ss.take (i + 1)).map (fun s => [exprD s]) = (ss.take i).map (fun s => [exprD s]) ++ [[exprD s]] := take_map _ hv
    generalize hn : 1 + (ss.take i).flatten.length = n at *
    have hn1 : 1 + (ss.take (i + 1)).flatten.length = n + s.length := by omega
    clear hx hdr hE h he
    repeat' (first | refine ks ?_ | refine ko ?_ | refine s_call (hc) ?_ | refine f_ret1 def_nil ?_ | refine t_tmp ?_)
    rw [hsl]
    (apply s_round ((i + 1, _)); all_goals (try dsimp only); all_goals (try (repeat' (first | exact slots_nil | refine w1 ?_ | exact memIn_nil | refine memIn_same ?_ | refine m1 ?_ ?_ | omega))))
    all_goals first | (exact hmap.symm) | (refine congrArg _ ?_; omega) | skip
  · obtain rfl : i = ss.length := by omega
    rw [show ss.take ss.length = ss from take_ge (Nat.le_refl _)]
    clear h he
    repeat' (first | refine s_freeze 3 ?_ (hes := hf) | refine ks ?_ | refine ko ?_ | refine f_ret1 def_nil ?_ | refine t_tmp ?_)
    all_goals rfl
theorem refEvalV_c (row : List Val) : ∀ (n : Nat) (e : List Trm) (x : Nat × Val), n ≤ 16 → e.length ≤ 64 → parse row n e = some (x, []) → PCall Tryz.prog 117 [.one (exprD e), .one (rowD row)] (.v (.agg x.2.d)) := by
  intro n
  induction n with
  | zero => intro e x _ _ h; cases h
  | succ n ih =>
    intro e x hn hl hx
    obtain ⟨m, t, l', xs, hm, he, ht, hs, hx1⟩ := parse_cons hx
    obtain rfl : n = m := by omega
    simp only at hs hx1
    have hv : e[0]? = some t := by rw [he]; rfl
    have h0 : 0 ≤ aryE t.op ∧ fieldsE t = true := by
      simpa only [termOK, Bool.and_eq_true, decide_eq_true_eq] using ht
    rw [hx1]
    dsimp only
    by_cases o1 : t.op = 1
    · rw [show tmE t row (xs.map Prod.snd) = t.v from if_pos o1]
      clear ih
      refine pcallN hT Tryz.func117 Tryz.ntmps117 [.cell 4 53] fun B => ?_
      repeat' (first | refine ks ?_ | refine ko ?_ | refine s_indexD ?_ (hel := (by first | exact idx_map hv (by omega) | exact hv | exact rfl)) | refine f_ret1 def_nil ?_ | refine t_cellG ?_ | exact cfs_nil | refine cfs_cons ?_ ?_ | refine cf_d ?_)
      all_goals rfl
    by_cases o2 : t.op = 2
    · rw [show tmE t row (xs.map Prod.snd) = (atE row t.col).clean by rw [tmE, if_neg o1, if_pos o2]]
      have hcol : 0 ≤ t.col := by
        have := h0.2
        rw [fieldsE, if_neg o1, if_pos o2, Bool.and_eq_true, decide_eq_true_eq] at this
        exact this.1
      clear ih
      by_cases hk : t.col.toNat < row.length
      · have hr : row[t.col.toNat]? = some row[t.col.toNat] := List.getElem?_eq_getElem hk
        have hat : atE row t.col = row[t.col.toNat] := by
          have := atE_in hr
          rwa [Int.toNat_of_nonneg hcol] at this
        rw [hat]
        generalize row[t.col.toNat] = v at hr
        have hr2 : (row.map Val.d)[t.col.toNat]? = some v.d := by rw [List.getElem?_map, hr]; rfl
        refine pcallN hT Tryz.func117 Tryz.ntmps117 [.cell 4 53] fun B => ?_
        repeat' (first | refine ks ?_ | refine ko ?_ | refine s_indexD ?_ (hel := (by first | exact idx_map hv (by omega) | exact idx_map hr2 (by omega) | exact hv | exact hr2 | exact rfl)) | refine s_call (refClean_c v) ?_ | refine f_ret1 def_nil ?_ | refine t_cellG ?_ | exact cfs_nil | refine cfs_cons ?_ ?_ | refine cf_d ?_)
        all_goals rfl
      · rw [atE_hi (by omega), show Val.null.clean = Val.null by unfold Val.clean; split <;> rfl]
        refine pcallN hT Tryz.func117 Tryz.ntmps117 [.cell 4 53] fun B => ?_
        repeat' (first | refine ks ?_ | refine ko ?_ | refine s_indexD ?_ (hel := (by first | exact idx_map hv (by omega) | exact hv | exact rfl)) | refine f_ret1 def_nil ?_ | refine t_cellG ?_ | exact cfs_nil | refine cfs_cons ?_ ?_ | refine cf_d ?_)
        all_goals rfl
    obtain ⟨ss, hss, hsl, hsq⟩ := seqP_all (Q := fun s a => 0 < s.length ∧ ∀ r', parse row n (s ++ r') = some (a, r')) (fun l a r hh => parse_pre row n l a r hh) hs
    rw [List.append_nil] at hss
    have hxl := seqP_len hs
    have hpart : ∀ s ∈ ss, 0 < s.length ∧ ∃ y, ∀ r, parse [] 16 (s ++ r) = some (y, r) := fun s hm' => by
      obtain ⟨i, hi, rfl⟩ := List.mem_iff_getElem.1 hm'
      obtain ⟨q1, q2⟩ := hsq i ss[i] xs[i] (List.getElem?_eq_getElem hi) (List.getElem?_eq_getElem (by omega))
      obtain ⟨y, hy, _⟩ := parse_row row [] n _ _ _ (q2 [])
      have hyn := (parse_valid [] n _ _ _ hy).2.2
      have hy16 := parse_fuel [] n _ _ _ hy 16 (by omega)
      obtain ⟨s', e1, _, e3⟩ := parse_pre [] 16 _ _ _ hy16
      rw [List.append_nil, List.append_nil] at e1
      refine ⟨q1, y, fun r => ?_⟩
      rw [e1]; exact e3 r
    have h1 := operands_c e t ss (by rw [he, hss]) (by omega) hpart
    obtain ⟨vs, hvs⟩ : ∃ vs, vs = xs.map Prod.snd := ⟨_, rfl⟩
    have hvl : vs.length = ss.length := by rw [hvs, List.length_map, hxl, hsl]
    have hvv : ∀ v ∈ vs, v.valid = true := fun v hv' => by
      rw [hvs] at hv'
      obtain ⟨a, ha, rfl⟩ := List.mem_map.1 hv'
      obtain ⟨i, hi, rfl⟩ := List.mem_iff_getElem.1 ha
      obtain ⟨q1, q2⟩ := hsq i (ss[i]'(by omega)) xs[i] (List.getElem?_eq_getElem _) (List.getElem?_eq_getElem hi)
      exact (parse_valid row n _ _ _ (q2 [])).1
    have hse : ∀ (i : Nat) (s : List Trm), ss[i]? = some s → ∃ v, vs[i]? = some v ∧ PCall Tryz.prog 117 [.one (exprD s), .one (rowD row)] (.v (.agg v.d)) := fun i s hi => by
      have hlt := lt_of_getElem? hi
      have hxi : xs[i]? = some (xs[i]'(by omega)) := List.getElem?_eq_getElem _
      obtain ⟨q1, q2⟩ := hsq i s _ hi hxi
      have q3 := q2 []
      rw [List.append_nil] at q3
      have hsle : s.length ≤ 64 := by
        have h1 := flat_le ss (i + 1)
        have h2 := flat_take hi
        have h3 : e.length = ss.flatten.length + 1 := by rw [he, hss, List.length_cons]
        omega
      refine ⟨_, ?_, ih s _ (by omega) hsle q3⟩
      subst hvs
      rw [List.getElem?_map, hxi]; rfl
    have hap := refApply_c t.op vs (by rw [hvl, hsl]; omega) ⟨o1, o2⟩ hvv
    rw [show tmE t row (xs.map Prod.snd) = apE t.op (nthV vs 0) (nthV vs 1) (nthV vs 2) by rw [tmE, if_neg o1, if_neg o2, hvs]]
    generalize apE t.op (nthV vs 0) (nthV vs 1) (nthV vs 2) = R at hap ⊢
    have hf : List.take vs.length (vs.map Val.d) = vs.map Val.d := take_ge (by simp)
    have hsb : ss.length ≤ 3 := by have := (aryE_bd t.op).2; omega
    clear ih hs hsq hss hx hx1 hpart hvs hxl hvv he ht h0
    unfold partsD at h1
    refine pcallN hT Tryz.func117 Tryz.ntmps117 [.cell 4 53] fun B => ?_
    repeat' (first | refine ks ?_ | refine ko ?_ | refine s_indexD ?_ (hel := (by first | exact idx_map hv (by omega) | exact hv | exact rfl)) | refine s_call (h1) ?_ | refine f_ret1 def_nil ?_ | refine t_cellG ?_ | exact cfs_nil | refine cfs_cons ?_ ?_ | refine cf_d ?_)
    refine s_own 5 53 3 ?_
    refine s_lp (X := Nat × Nat) [5, 7, 38, 39, 40, 41, 42, 43, 44, 45, 46, 47, 48, 49, 50, 51, 52] (fun x => x.1 ≤ ss.length) (fun x lz => (5, .c (.arr 1 x.2 x.1)) :: (7, (.c (.d (.lit (.int .i64 x.1))))) :: lz) (fun x => [.box 1 (Val.null.d.map .d), .arr x.2 53 3 ((vs.take x.1).map Val.d)]) (fun x => ss.length - x.1) ((0, 2)) ?_ ?_ ?_ ?_
    repeat' (first | exact slots_nil | refine kw ?_ | exact memIn_nil | refine kv ?_ ?_ | omega)
    rintro ⟨i, k⟩ c hi
    dsimp only at hi ⊢
    by_cases hlt : i < ss.length
    · have hsi : ss[i]? = some ss[i] := List.getElem?_eq_getElem hlt
      generalize ss[i] = s at hsi
      obtain ⟨v, hvi, hcall⟩ := hse i s hsi
      have hpi : (ss.map fun s => [exprD s])[i]? = some [exprD s] := by rw [List.getElem?_map, hsi]; rfl
      have hmap : (vs.take (i + 1)).map Val.d = (vs.take i).map Val.d ++ [v.d] := take_map _ hvi
      have hil : (vs.take i).length = i := by simp; omega
      clear hse hap h1
      repeat' (first | refine ks ?_ | refine ko ?_ | refine s_indexD ?_ (hel := (by first | exact idx_map hv (by omega) | exact idx_map hpi (by omega) | exact hv | exact hpi | exact rfl)) | refine s_call (hcall) ?_ | refine f_ret1 def_nil ?_ | refine t_cellG ?_ | exact cfs_nil | refine cfs_cons ?_ ?_ | refine cf_d ?_)
      (apply s_round ((i + 1, _)); all_goals (try dsimp only); all_goals (try (repeat' (first | exact slots_nil | refine w1 ?_ | exact memIn_nil | refine memIn_same ?_ | refine m1 ?_ ?_ | omega))))
      all_goals first | exact hmap.symm | skip
    · obtain rfl : i = ss.length := by omega
      rw [← hvl, show vs.take vs.length = vs from take_ge (Nat.le_refl _)]
      clear hse h1
      repeat' (first | refine s_freeze 5 ?_ (hes := hf) | refine ks ?_ | refine ko ?_ | refine s_indexD ?_ (hel := (by first | exact idx_map hv (by omega) | exact hv | exact rfl)) | refine s_call (hap) ?_ | refine f_ret1 def_nil ?_ | refine t_cellG ?_ | exact cfs_nil | refine cfs_cons ?_ ?_ | refine cf_d ?_)
      all_goals rfl
theorem refEval_c (e : List Trm) (row : List Val) : PCall Tryz.prog 69 [.one (exprD e), .one (rowD row)] (.v (.agg (evE e row).d)) := by
  have h1 := refExprValid_c e
  cases hv : exprOK e with
  | false =>
    rw [evE_no hv]
    rw [hv] at h1
    refine pcallN hT Tryz.func69 Tryz.ntmps69 [.cell 4 53] fun B => ?_
    repeat' (first | refine ks ?_ | refine ko ?_ | refine s_call (h1) ?_ | refine f_ret1 def_nil ?_ | refine t_cellG ?_ | exact cfs_nil | refine cfs_cons ?_ ?_ | refine cf_d ?_)
    all_goals rfl
  | true =>
    rw [hv] at h1
    obtain ⟨hl, x, hx⟩ := (exprOK_iff e row).1 hv
    rw [evE_ok hv hx]
    have h2 := refEvalV_c row 16 e x (by omega) hl hx
    clear hx
    generalize x.2 = v at h2 ⊢
    refine pcallN hT Tryz.func69 Tryz.ntmps69 [.cell 4 53] fun B => ?_
    repeat' (first | refine ks ?_ | refine ko ?_ | refine s_call (h1) ?_ | refine s_call (h2) ?_ | refine f_ret1 def_nil ?_ | refine t_cellG ?_ | exact cfs_nil | refine cfs_cons ?_ ?_ | refine cf_d ?_)
    all_goals rfl
end Go.Proofs.YtojfhaoleedmkaaGreat
