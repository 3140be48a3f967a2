/-
  CacheFresh.
-/
import Derived.Test.YtmejclckkmpggaaAdh
import Derived.Test.YtmejclckkmpggaaLcg
section
namespace Go.Proofs.Ytmejclckkmpggaa
open Go.Abs Go.RowKit
attribute [local irreducible] ARun kont MCall PCall HCall resVal SF CF CFs defersOk slotsIn memIn fin finM VLe
set_option linter.unusedSimpArgs false
set_option maxRecDepth 100000
set_option maxHeartbeats 4000000

theorem merge_anti {a b : List Entry} (ha : bagValid a = true) (hb : bagValid b = true) : mergeE b (a.map (sc (-1))) = (mergeE a (b.map (sc (-1)))).map (sc (-1)) := by
  have hs : (-1 : Int) = 1 ∨ (-1 : Int) = -1 := .inr rfl
  refine Sorted.unique (mergeE_sorted _ _ (sorted_of_valid hb) (sc_sorted hs (sorted_of_valid ha))) (sc_sorted hs (mergeE_sorted _ _ (sorted_of_valid ha) (sc_sorted hs (sorted_of_valid hb)))) fun r => ?_
  rw [sumK_mergeE, sumK_sc, sumK_sc, sumK_mergeE, sumK_sc]; omega
theorem fits_neg (l : List Entry) : (fitsE (l.map (sc (-1)))).2 = (fitsE l).2 := by
  have h : (l.map (sc (-1))).all (fun e => countOK e.count) = l.all (fun e => countOK e.count) := by
    rw [List.all_map]
    congr 1
    funext e
    show countOK (-1 * e.count) = countOK e.count
    rw [Bool.eq_iff_iff]
    simp only [countOK, Bool.and_eq_true, decide_eq_true_eq]
    omega
  unfold fitsE
  rw [List.length_map, h]
  split
  · rfl
  · split <;> rfl
theorem sub_err {a b : List Entry} (ha : bagValid a = true) (hb : bagValid b = true) : (addE (-1) b a).2 = (addE (-1) a b).2 := by
  unfold addE
  rw [if_pos ⟨hb, ha⟩, if_pos ⟨ha, hb⟩, merge_anti ha hb, fits_neg]
theorem sub_ok {a b : List Entry} (ha : bagValid a = true) (hb : bagValid b = true) (h : (addE (-1) a b).2 = 0) : (addE (-1) a b).1.length ≤ 4096 ∧ ∀ r, sumK (addE (-1) a b).1 r = sumK a r - sumK b r := by
  have he : addE (-1) a b = fitsE (mergeE a (b.map (sc (-1)))) := if_pos ⟨ha, hb⟩
  rw [he] at h ⊢
  have h2 := fits_ok h
  refine ⟨?_, fun r => by rw [h2, sumK_mergeE, sumK_sc]; omega⟩
  rw [h2]
  unfold fitsE at h
  split at h
  · cases h
  · omega

theorem cellE_map (row : List Val) (col : Int) : cellE row col = if col < 0 then Val.null else ((row.map Val.clean)[col.toNat]?).getD Val.null := by
  unfold cellE
  split
  · rfl
  · rw [List.getElem?_map]; cases row[col.toNat]? <;> rfl
theorem cell_class {e r : List Val} (h : rowCmp e r = 0) (col : Int) : cellE e col = cellE r col := by
  rw [cellE_map, cellE_map, (rowCmp_ok.zero _ _).1 h]
theorem sumK_sel (l : List Entry) (col : Int) (v : Val) (r : List Val) : sumK (selE l col v) r = if sameVal (cellE r col) v.clean = true then sumK l r else 0 := by
  induction l with
  | nil => simp [selE, sumK]
  | cons e l ih =>
    unfold selE at ih ⊢
    rw [List.filter_cons]
    by_cases hr : rowCmp e.row r = 0
    · rw [cell_class hr]
      by_cases hv : sameVal (cellE r col) v.clean = true
      · rw [if_pos hv] at ih ⊢
        rw [if_pos hv, sumK, sumK, ih]
      · rw [if_neg hv] at ih ⊢
        rw [if_neg hv, ih]
    · have h1 : ∀ m : List Entry, sumK (e :: m) r = sumK m r := fun m => by rw [sumK, if_neg hr]; omega
      split
      · rw [h1, h1, ih]
      · rw [h1, ih]
theorem sel_sorted {l : List Entry} (h : bagValid l = true) (col : Int) (v : Val) : Sorted (selE l col v) := by
  have hs := sorted_of_valid h
  exact ⟨hs.up.sublist List.filter_sublist, fun e he => hs.nz e (List.mem_filter.1 he).1, fun e he => hs.cl e (List.mem_filter.1 he).1⟩

theorem untouched {a b minus plus : List Entry} {col : Int} {v : Val} (ha : bagValid a = true) (hb : bagValid b = true) (hm : ∀ r, sumK minus r = sumK a r - sumK b r) (hv : v.clean = v) (ht : ¬ v ∈ touchE minus plus col) : selE a col v = selE b col v := by
  refine Sorted.unique (sel_sorted ha ..) (sel_sorted hb ..) fun r => ?_
  rw [sumK_sel, sumK_sel]
  split
  · rename_i hs
    have hs := sameVal_iff.1 hs
    rw [hv] at hs
    have h1 := hm r
    by_cases hz : sumK minus r = 0
    · omega
    · obtain ⟨e, he, hr⟩ := sumK_nz hz
      exact absurd ((touch_says minus plus col).2 v |>.2 (List.mem_append.2 (.inl (List.mem_map.2 ⟨e, he, by rw [cell_class hr, hs]⟩)))) ht
  · rfl

/-- What filled has kept: entries of day 9, as the view has them. -/
def Kept (c : Conf) (a : List Entry) (s : List Cach) : Prop := validC s = true ∧ ∀ x ∈ s, x.day = 9 ∧ x.rows = selE a c.col x.val

theorem kept_fresh {c : Conf} {a : List Entry} {s : List Cach} (ha : bagValid a = true) (h : Kept c a s) : freshE c s a = true := by
  unfold freshE
  rw [h.1, ha, Bool.and_self, Bool.true_and, List.all_eq_true]
  intro x hx
  rw [freshX, (h.2 x hx).2]; exact sameBag_refl _
theorem val_clean {s : List Cach} (h : validC s = true) {x : Cach} (hx : x ∈ s) : x.val.clean = x.val := ok_clean ((validC_iff.1 h).2.1 x hx)
theorem purge_fresh {c : Conf} {a b minus plus : List Entry} {s : List Cach} (ha : bagValid a = true) (hb : bagValid b = true) (hm : ∀ r, sumK minus r = sumK a r - sumK b r) (h : Kept c a s) : freshE c (purE s (touchE minus plus c.col)) b = true := by
  unfold freshE
  rw [pur_valid, hb, Bool.and_self, Bool.true_and, List.all_eq_true]
  intro x hx
  unfold purE at hx
  rw [if_pos h.1] at hx
  obtain ⟨h1, h2⟩ := List.mem_filter.1 hx
  have hvc := val_clean h.1 h1
  have hnt : ¬ x.val ∈ touchE minus plus c.col := fun q => by
    unfold goneE at h2
    have : ((touchE minus plus c.col).map Val.clean).any (sameVal · x.val) = true := any_iff.2 (List.mem_map.2 ⟨x.val, q, hvc⟩)
    rw [this] at h2; cases h2
  rw [freshX, (h.2 x h1).2, untouched ha hb hm hvc hnt]
  exact sameBag_refl _
theorem refill_fresh {c : Conf} {b : List Entry} {s : List Cach} (hb : bagValid b = true) (day : Int) : freshE c (refillE c s b day) b = true := by
  unfold freshE
  rw [refill_valid, hb, Bool.and_self, Bool.true_and, List.all_eq_true]
  intro x hx
  unfold refillE at hx
  split at hx
  · rw [fill_eq] at hx
    obtain ⟨y, _, rfl⟩ := List.mem_map.1 hx
    exact sameBag_refl _
  · cases hx
theorem refill_len (c : Conf) (s : List Cach) (b : List Entry) (day : Int) : (refillE c s b day).length ≤ s.length := by
  unfold refillE
  split
  · exact fill_len ..
  · simp
theorem touch_len (minus plus : List Entry) (col : Int) : (touchE minus plus col).length ≤ minus.length + plus.length := by
  have h := (setV_says (cellsE minus col ++ cellsE plus col)).2.2
  rw [touchE, (sortF_perm cmp_ok.swo _).length_eq]
  simpa [cellsE] using h

theorem clean_clean (v : Val) : v.clean.clean = v.clean := by
  have h := clean_valid v
  generalize v.clean = u at h ⊢
  unfold Val.clean; rw [if_pos h]
theorem sel_clean (a : List Entry) (col : Int) (v : Val) : selE a col v.clean = selE a col v := by
  unfold selE; rw [clean_clean]
theorem kept_step {c : Conf} {a : List Entry} {s : List Cach} (hc : 1 ≤ c.ttl ∧ c.ttl ≤ 1000) (ha : bagValid a = true) (h : Kept c a s) (v : Val) :
    (lookE c s a v 9).2 = (selE a c.col v, 0) ∧ Kept c a (lookE c s a v 9).1 := by
  have hv := look_valid c s a v 9
  have hfi : s.filter (liveE c.ttl 9) = s := List.filter_eq_self.2 fun e he => by
    have := (h.2 e he).1
    simp only [liveE, Bool.and_eq_true, decide_eq_true_eq]
    omega
  unfold lookE at hv ⊢
  have hcond : (validC s && bagValid a && dayOK c.ttl && dayOK 9) = true := by
    rw [h.1, ha]; simp [dayOK]; omega
  rw [if_pos hcond, hfi] at hv ⊢
  split
  · rename_i e hf
    obtain ⟨i, h1, h2, h3⟩ := find_at hf
    have he := sameVal_iff.1 h2
    rw [(h.2 e (List.mem_of_getElem? h1)).2, he, sel_clean]
    exact ⟨rfl, h⟩
  · rename_i hf
    rw [hf] at hv
    rw [sel_clean] at hv ⊢
    refine ⟨rfl, hv, fun x hx => ?_⟩
    rcases List.mem_cons.1 ((insE_perm _ _).mem_iff.1 hx) with rfl | hx
    · exact ⟨rfl, (sel_clean ..).symm⟩
    · exact h.2 x ((roomE_sub s).subset hx)

def keptL (c : Conf) (a : List Entry) (l : List Val) : List Cach := l.foldl (fun s v => (lookE c s a v 9).1) []
theorem keptL_ok {c : Conf} {a : List Entry} (hc : 1 ≤ c.ttl ∧ c.ttl ≤ 1000) (ha : bagValid a = true) : ∀ (l : List Val) (s : List Cach), Kept c a s → Kept c a (l.foldl (fun s v => (lookE c s a v 9).1) s)
  | [], _, h => h
  | v :: l, _, h => keptL_ok hc ha l _ (kept_step hc ha h v).2
theorem kept_nil (c : Conf) (a : List Entry) : Kept c a [] := ⟨rfl, fun x hx => by cases hx⟩

theorem filled_c (c : Conf) (a : List Entry) (vs : List Val) (hc : 1 ≤ c.ttl ∧ c.ttl ≤ 1000) (ha : bagValid a = true) :
    PCall Try.prog 37 [.agg c.d, .one (bagD a), .one (rowD vs), .one (.lit (.int .i64 9))] (.tup [.one (cachD (keptL c a (vs.take 12))), .one (.lit (.bool true))]) := by
  obtain ⟨r1, r2⟩ := rows_bd ha
  refine pcallN hT Try.func37 Try.ntmps37 [.tmp 8, .tmp 9] fun B => ?_
  refine k_len (0 + 1 + 1) rfl fun hll => ?_
  simp only [List.length_map, maxLen] at hll
  repeat' (first | (with_reducible (first | refine k_seq ?_ | refine k_block ?_ | refine k_skip ?_ | refine k_exit ?_ | refine k_ret ?_ | refine n_seq ?_ | refine n_block ?_ | refine e_seq ?_ | refine e_here ?_ | refine o_exit ?_)) | refine s_reg ?_ | refine s_ifT ?_ | refine s_ifF ?_ | refine r_end ?_ | refine s_endD ?_ | refine s_skipS ?_ | refine s_move ?_ | refine s_assign ?_ | refine s_int ?_ | refine s_loadB1 ?_ | refine s_loadFA ?_ | refine s_loadBA ?_ | refine s_indexD ?_ (hel := (by first | exact rfl)) | refine s_fieldB ?_ | refine s_pick ?_ | refine s_lenD ?_ | refine s_extract ?_ | refine s_not ?_ | refine s_box ?_ | refine s_kT ?_ | refine s_split rfl rfl (fun hb => ?_) (fun hb => ?_) | refine f_ret2 def_nil ?_ ?_ | refine t_tmp ?_)
  refine s_lp (X := Nat × List Cach) [8, 9, 10, 11, 12, 13, 14, 15, 16, 17, 18, 19, 20, 21, 22, 23, 24, 25, 26, 27, 28, 29, 30, 31, 32, 33, 34, 35, 36, 37, 38, 39, 40, 41, 42, 43, 44, 45, 46, 47, 48, 49, 50, 51, 52, 53] (fun x => x.1 ≤ vs.length ∧ x.1 ≤ 12 ∧ Kept c a x.2 ∧ x.2 = keptL c a (vs.take x.1)) (fun x lz => (11, (.c (.d (.lit (.int .i64 x.1))))) :: (10, .c (.d (cachD x.2))) :: lz) (fun x => [.box 1 (c.d.map .d)]) (fun x => 12 - x.1) ((0, [])) ?_ ?_ ?_ ?_
  repeat' (first | exact slots_nil | refine w1 ?_ | exact memIn_nil | refine memIn_same ?_ | omega)
  · exact ⟨by simp, by omega, kept_nil c a, rfl⟩
  rintro ⟨i, s⟩ ck ⟨hi, hi2, hk, hs⟩
  dsimp only at hi hi2 hk hs ⊢
  by_cases hlt : i < vs.length ∧ i < 12
  · have hv : vs[i]? = some vs[i] := List.getElem?_eq_getElem hlt.1
    generalize vs[i] = v at hv
    have hlk := lookup_c c s a v 9
    obtain ⟨k1, k2⟩ := kept_step hc ha hk v
    have hsn : keptL c a (vs.take (i + 1)) = (lookE c s a v 9).1 := by
      unfold keptL at hs ⊢
      rw [List.take_add_one, hv, List.foldl_append, ← hs]; rfl
    generalize lookE c s a v 9 = r at hlk k1 k2 hsn
    obtain ⟨t, l, e⟩ := r
    dsimp only at k1 k2 hsn
    injection k1 with k1 k3
    subst k1; subst k3
    unfold lookR at hlk
    have hse := refSelect_c a c.col v r1
    have hsb := sameBag26_c (selE a c.col v) (selE a c.col v)
    rw [sameBag_refl] at hsb
    repeat' (first | (with_reducible (first | refine k_seq ?_ | refine k_block ?_ | refine k_skip ?_ | refine k_exit ?_ | refine k_ret ?_ | refine n_seq ?_ | refine n_block ?_ | refine e_seq ?_ | refine e_here ?_ | refine o_exit ?_)) | refine s_reg ?_ | refine s_ifT ?_ | refine s_ifF ?_ | refine r_end ?_ | refine s_endD ?_ | refine s_skipS ?_ | refine s_move ?_ | refine s_assign ?_ | refine s_int ?_ | refine s_loadB1 ?_ | refine s_loadFA ?_ | refine s_loadBA ?_ | refine s_indexD ?_ (hel := (by first | exact idx_map hv (by omega) | exact hv | exact rfl)) | refine s_fieldB ?_ | refine s_call (hlk) ?_ | refine s_call (hse) ?_ | refine s_call (hsb) ?_ | refine s_pick ?_ | refine s_lenD ?_ | refine s_extract ?_ | refine s_not ?_ | refine s_box ?_ | refine s_kT ?_ | refine s_split rfl rfl (fun hb => ?_) (fun hb => ?_) | refine f_ret2 def_nil ?_ ?_ | refine t_tmp ?_)
    (apply s_round ((i + 1, t)); all_goals (try dsimp only); all_goals (try (repeat' (first | exact slots_nil | refine w1 ?_ | exact memIn_nil | refine memIn_same ?_ | omega))))
    all_goals exact ⟨by omega, by omega, k2, hsn.symm⟩
  · have hte : vs.take i = vs.take 12 := by
      by_cases h : i < vs.length
      · rw [show i = 12 by omega]
      · rw [take_ge (show vs.length ≤ i by omega), take_ge (show vs.length ≤ 12 by omega)]
    rw [← hte, ← hs]
    repeat' (first | (with_reducible (first | refine k_seq ?_ | refine k_block ?_ | refine k_skip ?_ | refine k_exit ?_ | refine k_ret ?_ | refine n_seq ?_ | refine n_block ?_ | refine e_seq ?_ | refine e_here ?_ | refine o_exit ?_)) | refine s_reg ?_ | refine s_ifT ?_ | refine s_ifF ?_ | refine r_end ?_ | refine s_endD ?_ | refine s_skipS ?_ | refine s_move ?_ | refine s_assign ?_ | refine s_int ?_ | refine s_loadB1 ?_ | refine s_loadFA ?_ | refine s_loadBA ?_ | refine s_indexD ?_ (hel := (by first | exact rfl)) | refine s_fieldB ?_ | refine s_pick ?_ | refine s_lenD ?_ | refine s_extract ?_ | refine s_not ?_ | refine s_box ?_ | refine s_kT ?_ | refine s_split rfl rfl (fun hb => ?_) (fun hb => ?_) | refine f_ret2 def_nil ?_ ?_ | refine t_tmp ?_)
    all_goals first
      | omega
      | rfl
end Go.Proofs.Ytmejclckkmpggaa
end
section
namespace Go.Proofs.Ytmejclckkmpggaa
open Go.Abs Go.RowKit
attribute [local irreducible] ARun kont MCall PCall HCall resVal SF CF CFs defersOk slotsIn memIn fin finM VLe
set_option linter.unusedSimpArgs false
set_option maxRecDepth 100000
set_option maxHeartbeats 4000000

def inFresh (c : Conf) (v0 v1 : List Entry) : Bool := shortE v0 && (shortE v1 && decide (1 ≤ c.ttl ∧ c.ttl ≤ 1000))

theorem lawFresh_c (c : Conf) (v0 v1 : List Entry) (vs : List Val) : PCall Try.prog 11 [.agg c.d, .agg [bagD v0, bagD v1], .one (rowD vs)] (.v (.one (.lit (.bool true)))) := by
  have s0 := short_c v0
  have s1 := short_c v1
  by_cases h0 : shortE v0 = true
  · by_cases h1 : shortE v1 = true
    · by_cases hc : 1 ≤ c.ttl ∧ c.ttl ≤ 1000
      · rw [h0] at s0
        rw [h1] at s1
        have n0 := normalize_c v0 (by have := (short_says h0).1; omega)
        have n1 := normalize_c v1 (by have := (short_says h1).1; omega)
        by_cases e0 : (normE v0).2 = 0
        · by_cases e1 : (normE v1).2 = 0
          · obtain ⟨a1, a2, a3, a4⟩ := norm_good e0
            obtain ⟨b1, b2, b3, b4⟩ := norm_good e1
            rw [a1, e0] at n0
            rw [b1, e1] at n1
            generalize sortE v0 = a at n0 a3
            generalize sortE v1 = b at n1 b3
            clear a1 a2 a4 b1 b2 b4 e0 e1
            have f1 := filled_c c a vs hc a3
            have hk : Kept c a (keptL c a (vs.take 12)) := keptL_ok hc a3 _ _ (kept_nil c a)
            generalize keptL c a (vs.take 12) = s at f1 hk
            have g1 := subtract_c a b
            have g2 := subtract_c b a
            have hge := sub_err a3 b3
            have f2 := fresh_c c s a
            rw [kept_fresh a3 hk] at f2
            by_cases hg : (addE (-1) a b).2 = 0
            · obtain ⟨m1, m2⟩ := sub_ok a3 b3 hg
              obtain ⟨p1, p2⟩ := sub_ok b3 a3 (hge.trans hg)
              rw [hge.trans hg] at g2
              rw [hg] at g1
              have hf := purge_fresh (plus := (addE (-1) b a).1) a3 b3 m2 hk
              generalize (addE (-1) a b).1 = minus at g1 m1 hf
              generalize (addE (-1) b a).1 = plus at g2 p1 hf
              have t1 := touched_c minus plus c.col (by omega) (by omega)
              have htl := touch_len minus plus c.col
              have t2 := purge_c s (touchE minus plus c.col) (by omega)
              have t3 := fresh_c c (purE s (touchE minus plus c.col)) b
              rw [hf] at t3
              generalize touchE minus plus c.col = w at t1 t2 t3
              generalize purE s w = t at t2 t3
              have u1 := refill_c c s b 10
              have u2 := fresh_c c (refillE c s b 10) b
              rw [refill_fresh b3] at u2
              have hul := refill_len c s b 10
              generalize refillE c s b 10 = u at u1 u2 hul
              refine pcallN hT Try.func11 Try.ntmps11 [.tmp 6] fun B => ?_
              repeat' (first | (with_reducible (first | refine k_seq ?_ | refine k_skip ?_ | refine k_ret ?_ | refine n_seq ?_ | refine r_seq ?_)) | refine s_reg ?_ | refine s_ifT ?_ | refine s_ifF ?_ | refine r_end ?_ | refine s_skipS ?_ | refine s_move ?_ | refine s_assign ?_ | refine s_int ?_ | refine s_loadB1 ?_ | refine s_loadBA ?_ | refine s_indexVB ?_ | refine s_fieldB ?_ | refine s_call (s0) ?_ | refine s_call (s1) ?_ | refine s_call (n0) ?_ | refine s_call (n1) ?_ | refine s_call (f1) ?_ | refine s_call (g1) ?_ | refine s_call (g2) ?_ | refine s_call (f2) ?_ | refine s_call (t1) ?_ | refine s_call (t2) ?_ | refine s_call (t3) ?_ | refine s_call (u1) ?_ | refine s_call (u2) ?_ | refine s_call (awake30_c) ?_ | refine s_pick ?_ | refine s_lenD ?_ | refine s_extract ?_ | refine s_not ?_ | refine s_box ?_ | refine s_kT ?_ | refine s_kF ?_ | refine s_split rfl rfl (fun hb => ?_) (fun hb => ?_) | refine f_ret1 def_nil ?_ | refine t_tmp ?_)
              all_goals rfl
            · rw [hge] at g2
              generalize (addE (-1) a b).1 = minus at g1
              generalize (addE (-1) b a).1 = plus at g2
              generalize (addE (-1) a b).2 = g at g1 g2 hg
              refine pcallN hT Try.func11 Try.ntmps11 [.tmp 6] fun B => ?_
              repeat' (first | refine s_eqIs ?_ | (with_reducible (first | refine k_seq ?_ | refine k_skip ?_ | refine k_ret ?_ | refine n_seq ?_ | refine r_seq ?_)) | refine s_reg ?_ | refine s_ifT ?_ | refine s_ifF ?_ | refine r_end ?_ | refine s_skipS ?_ | refine s_move ?_ | refine s_assign ?_ | refine s_int ?_ | refine s_loadB1 ?_ | refine s_loadBA ?_ | refine s_indexVB ?_ | refine s_fieldB ?_ | refine s_call (s0) ?_ | refine s_call (s1) ?_ | refine s_call (n0) ?_ | refine s_call (n1) ?_ | refine s_call (f1) ?_ | refine s_call (g1) ?_ | refine s_call (g2) ?_ | refine s_call (f2) ?_ | refine s_call (awake30_c) ?_ | refine s_pick ?_ | refine s_lenD ?_ | refine s_extract ?_ | refine s_not ?_ | refine s_box ?_ | refine s_kT ?_ | refine s_kF ?_ | refine s_split rfl rfl (fun hb => ?_) (fun hb => ?_) | refine f_ret1 def_nil ?_ | refine t_tmp ?_)
              all_goals rfl
          · generalize normE v0 = R0 at n0 e0
            generalize normE v1 = R1 at n1 e1
            obtain ⟨a, e⟩ := R0
            obtain ⟨b, f⟩ := R1
            dsimp only at e0 e1 n0 n1
            refine pcallN hT Try.func11 Try.ntmps11 [.tmp 6] fun B => ?_
            repeat' (first | (with_reducible (first | refine k_seq ?_ | refine k_skip ?_ | refine k_ret ?_ | refine n_seq ?_ | refine r_seq ?_)) | refine s_reg ?_ | refine s_ifT ?_ | refine s_ifF ?_ | refine r_end ?_ | refine s_skipS ?_ | refine s_move ?_ | refine s_assign ?_ | refine s_int ?_ | refine s_loadB1 ?_ | refine s_loadBA ?_ | refine s_indexVB ?_ | refine s_fieldB ?_ | refine s_call (s0) ?_ | refine s_call (s1) ?_ | refine s_call (n0) ?_ | refine s_call (n1) ?_ | refine s_call (awake30_c) ?_ | refine s_pick ?_ | refine s_lenD ?_ | refine s_extract ?_ | refine s_not ?_ | refine s_box ?_ | refine s_kT ?_ | refine s_kF ?_ | refine s_split rfl rfl (fun hb => ?_) (fun hb => ?_) | refine f_ret1 def_nil ?_ | refine t_tmp ?_)
            all_goals rfl
        · generalize normE v0 = R0 at n0 e0
          generalize normE v1 = R1 at n1
          obtain ⟨a, e⟩ := R0
          obtain ⟨b, f⟩ := R1
          dsimp only at e0 n0 n1
          refine pcallN hT Try.func11 Try.ntmps11 [.tmp 6] fun B => ?_
          repeat' (first | (with_reducible (first | refine k_seq ?_ | refine k_skip ?_ | refine k_ret ?_ | refine n_seq ?_ | refine r_seq ?_)) | refine s_reg ?_ | refine s_ifT ?_ | refine s_ifF ?_ | refine r_end ?_ | refine s_skipS ?_ | refine s_move ?_ | refine s_assign ?_ | refine s_int ?_ | refine s_loadB1 ?_ | refine s_loadBA ?_ | refine s_indexVB ?_ | refine s_fieldB ?_ | refine s_call (s0) ?_ | refine s_call (s1) ?_ | refine s_call (n0) ?_ | refine s_call (n1) ?_ | refine s_call (awake30_c) ?_ | refine s_pick ?_ | refine s_lenD ?_ | refine s_extract ?_ | refine s_not ?_ | refine s_box ?_ | refine s_kT ?_ | refine s_kF ?_ | refine s_split rfl rfl (fun hb => ?_) (fun hb => ?_) | refine f_ret1 def_nil ?_ | refine t_tmp ?_)
          all_goals rfl
      · rw [h0] at s0
        rw [h1] at s1
        refine pcallN hT Try.func11 Try.ntmps11 [.tmp 6] fun B => ?_
        repeat' (first | (exfalso; omega) | (with_reducible (first | refine k_seq ?_ | refine k_skip ?_ | refine k_ret ?_ | refine n_seq ?_ | refine r_seq ?_)) | refine s_reg ?_ | refine s_ifT ?_ | refine s_ifF ?_ | refine r_end ?_ | refine s_skipS ?_ | refine s_move ?_ | refine s_assign ?_ | refine s_int ?_ | refine s_loadB1 ?_ | refine s_loadBA ?_ | refine s_indexVB ?_ | refine s_fieldB ?_ | refine s_call (s0) ?_ | refine s_call (s1) ?_ | refine s_call (awake30_c) ?_ | refine s_pick ?_ | refine s_lenD ?_ | refine s_extract ?_ | refine s_not ?_ | refine s_box ?_ | refine s_kT ?_ | refine s_kF ?_ | refine s_split rfl rfl (fun hb => ?_) (fun hb => ?_) | refine f_ret1 def_nil ?_ | refine t_tmp ?_)
        all_goals rfl
    · rw [Bool.not_eq_true] at h1
      rw [h1] at s1
      rw [h0] at s0
      refine pcallN hT Try.func11 Try.ntmps11 [.tmp 6] fun B => ?_
      repeat' (first | (with_reducible (first | refine k_seq ?_ | refine k_skip ?_ | refine k_ret ?_ | refine n_seq ?_ | refine r_seq ?_)) | refine s_reg ?_ | refine s_ifT ?_ | refine s_ifF ?_ | refine r_end ?_ | refine s_skipS ?_ | refine s_move ?_ | refine s_assign ?_ | refine s_int ?_ | refine s_loadB1 ?_ | refine s_loadBA ?_ | refine s_indexVB ?_ | refine s_fieldB ?_ | refine s_call (s0) ?_ | refine s_call (s1) ?_ | refine s_call (awake30_c) ?_ | refine s_pick ?_ | refine s_lenD ?_ | refine s_extract ?_ | refine s_not ?_ | refine s_box ?_ | refine s_kT ?_ | refine s_kF ?_ | refine s_split rfl rfl (fun hb => ?_) (fun hb => ?_) | refine f_ret1 def_nil ?_ | refine t_tmp ?_)
      all_goals rfl
  · rw [Bool.not_eq_true] at h0
    rw [h0] at s0
    refine pcallN hT Try.func11 Try.ntmps11 [.tmp 6] fun B => ?_
    repeat' (first | (with_reducible (first | refine k_seq ?_ | refine k_skip ?_ | refine k_ret ?_ | refine n_seq ?_ | refine r_seq ?_)) | refine s_reg ?_ | refine s_ifT ?_ | refine s_ifF ?_ | refine r_end ?_ | refine s_skipS ?_ | refine s_move ?_ | refine s_assign ?_ | refine s_int ?_ | refine s_loadB1 ?_ | refine s_loadBA ?_ | refine s_indexVB ?_ | refine s_fieldB ?_ | refine s_call (s0) ?_ | refine s_call (awake30_c) ?_ | refine s_pick ?_ | refine s_lenD ?_ | refine s_extract ?_ | refine s_not ?_ | refine s_box ?_ | refine s_kT ?_ | refine s_kF ?_ | refine s_split rfl rfl (fun hb => ?_) (fun hb => ?_) | refine f_ret1 def_nil ?_ | refine t_tmp ?_)
    all_goals rfl
end Go.Proofs.Ytmejclckkmpggaa
end
