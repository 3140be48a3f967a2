/-
  ReleasePublishes: the program's Publish and the document's agree.
-/
import Derived.Test.YtlacmjfgaehhkaaPub2
namespace Go.Proofs.Ytlacmjfgaehhkaa
open Go.Abs Go.RowKit
attribute [local irreducible] ARun kont MCall PCall HCall resVal SF CF CFs defersOk slotsIn memIn fin finM VLe
set_option linter.unusedSimpArgs false
set_option maxRecDepth 100000
set_option maxHeartbeats 4000000

theorem ofInt_eq {n : Int} (h1 : -4294967296 ≤ n) (h2 : n ≤ 4294967296) : Val.ofInt n = ⟨1, n, ⟨#[]⟩⟩ := by
  have : (⟨1, n, ⟨#[]⟩⟩ : Val).valid = true := by simp [Val.valid, h1, h2, ByteArray.toList_eq]
  rw [Val.ofInt, Val.clean, if_pos this]

theorem ofInt_valid (n : Int) : (Val.ofInt n).valid = true := clean_valid _

theorem cmp_int {a b : Int} (ha : -4294967296 ≤ a) (ha2 : a ≤ 4294967296) (hb : -4294967296 ≤ b) (hb2 : b ≤ 4294967296) (h : a < b) : (Val.ofInt a).cmp (Val.ofInt b) = -1 := by
  have e1 : (Val.ofInt a).clean = Val.ofInt a := by rw [Val.clean, if_pos (ofInt_valid a)]
  have e2 : (Val.ofInt b).clean = Val.ofInt b := by rw [Val.clean, if_pos (ofInt_valid b)]
  rw [Val.cmp, e1, e2, ofInt_eq ha ha2, ofInt_eq hb hb2]
  have hne : (a == b) = false := by simp; omega
  simp [Val.same, Val.less, hne, h]

theorem grp_some {counts : List Int} {i : Nat} {e : Entry} (h : grp counts i = some e) : e.count = 1 ∧ e.row = [Val.ofInt i, Val.ofInt (cnt (counts.getD i 0))] ∧ 0 < cnt (counts.getD i 0) := by
  unfold grp at h
  split at h
  · rename_i hc; simp at h; subst h; exact ⟨rfl, rfl, hc⟩
  · cases h

theorem goodFrom_groups (counts : List Int) : ∀ (n k : Nat), k + n ≤ 40 → ∀ p : Option Entry, (∀ q, p = some q → ∃ j, j < k ∧ grp counts j = some q) → goodFrom p ((List.range' k n).filterMap (grp counts)) = true
  | 0, k, _, p, _ => by simp [goodFrom]
  | n + 1, k, hk, p, hp => by
    rw [List.range'_succ, List.filterMap_cons]
    cases hg : grp counts k with
    | none => exact goodFrom_groups counts n (k + 1) (by omega) p (fun q hq => by obtain ⟨j, h1, h2⟩ := hp q hq; exact ⟨j, by omega, h2⟩)
    | some e =>
      obtain ⟨h1, h2, h3⟩ := grp_some hg
      have hb := cnt_bd (counts.getD k 0)
      simp only [goodFrom, Bool.and_eq_true]
      refine ⟨⟨?_, ?_⟩, goodFrom_groups counts n (k + 1) (by omega) (some e) (fun q hq => ⟨k, by omega, by rw [← hq]; exact hg⟩)⟩
      · simp [Entry.ok, rowOK, countOK, h1, h2, ofInt_valid]
      · cases p with
        | none => rfl
        | some q =>
          obtain ⟨j, hj, hq⟩ := hp q rfl
          obtain ⟨q1, q2, q3⟩ := grp_some hq
          simp only [q2, h2, rowCmp, decide_eq_true_eq]
          rw [cmp_int (by omega) (by omega) (by omega) (by omega) (show (j : Int) < k by omega), if_neg (by omega)]
          omega

theorem groups_len (counts : List Int) : (groups counts).length ≤ 40 := Nat.le_trans (groupsTo_len ..) (by omega)
theorem groups_valid (counts : List Int) : bagValid (groups counts) = true := by
  have h := goodFrom_groups counts (min counts.length 40) 0 (by omega) none (by simp)
  have h2 := groups_len counts
  rw [bagValid, Bool.and_eq_true, decide_eq_true_eq]
  refine ⟨by omega, ?_⟩
  rw [groups, groupsTo, List.range_eq_range']
  exact h

theorem pub1_grp {counts : List Int} {i : Nat} (thr : Int) {e : Entry} (h : grp counts i = some e) (hi : i < 40) : pub1 thr 1 e = if thr ≤ cnt (counts.getD i 0) then some ⟨[Val.ofInt i], cnt (counts.getD i 0) - (cnt (counts.getD i 0)).tmod thr⟩ else none := by
  obtain ⟨h1, h2, h3⟩ := grp_some h
  have hb := cnt_bd (counts.getD i 0)
  have hcl : (Val.ofInt i).clean = Val.ofInt i := by rw [Val.clean, if_pos (ofInt_valid _)]
  simp only [pub1, h1, if_true, h2, List.getElem?_cons_succ, List.getElem?_cons_zero, ofInt_eq (show -4294967296 ≤ cnt (counts.getD i 0) by omega) (by omega)]
  simp [hcl]

theorem fm_congr {α β : Type} {f g : α → Option β} : ∀ {l : List α}, (∀ x ∈ l, f x = g x) → l.filterMap f = l.filterMap g
  | [], _ => rfl
  | x :: l, h => by rw [List.filterMap_cons, List.filterMap_cons, h x (by simp), fm_congr (fun y hy => h y (by simp [hy]))]

/-- What is published of built groups. -/
def pubG (thr : Int) (counts : List Int) (i : Nat) : Option Pub := if 0 < cnt (counts.getD i 0) ∧ thr ≤ cnt (counts.getD i 0) then some ⟨[Val.ofInt i], cnt (counts.getD i 0) - (cnt (counts.getD i 0)).tmod thr⟩ else none
def pubsG (thr : Int) (counts : List Int) : List Pub := (List.range (min counts.length 40)).filterMap (pubG thr counts)

theorem publish_groups (r : Rls) (h : 1 ≤ r.thr) (counts : List Int) : publishAll r 1 (groups counts) = pubsG r.thr counts := by
  rw [publishAll, if_pos ⟨h, by omega, groups_valid counts⟩, publish, groups, groupsTo, List.filterMap_filterMap, pubsG]
  refine fm_congr fun i hi => ?_
  have hi : i < 40 := by simp at hi; omega
  cases hg : grp counts i with
  | none =>
    have : ¬ 0 < cnt (counts.getD i 0) := by
      intro hc; rw [grp, if_pos hc] at hg; cases hg
    simp only [Option.bind_none, pubG]
    rw [if_neg (by omega)]
  | some e =>
    simp only [Option.bind_some]
    rw [show (1 : Int).toNat = 1 from rfl, pub1_grp r.thr hg hi, pubG]
    have := (grp_some hg).2.2
    by_cases hc : r.thr ≤ cnt (counts.getD i 0)
    · rw [if_pos hc, if_pos ⟨this, hc⟩]
    · rw [if_neg hc, if_neg (by omega)]

theorem awake_list : pubsG 5 [4, 5, 9, 10] = [⟨[Val.ofInt 1], 5⟩, ⟨[Val.ofInt 2], 5⟩, ⟨[Val.ofInt 3], 10⟩] := by
  rfl

theorem awake_c : PCall Try.prog 12 [] (.v (.one (.lit (.bool true)))) := by
  have hp := publish_c ⟨⟨#[]⟩, ⟨#[]⟩, 5⟩ 1 (groups [4, 5, 9, 10])
  rw [publish_groups _ (by decide), awake_list] at hp
  have hg := groups_c [4, 5, 9, 10]
  refine pcallS hT Try.func12 rfl (by kernel_rfl) _ [.tmp 0] Try.ntmps12 rfl rfl (by repeat' (first | exact nfNil rfl | apply nfCons (a := ((_, SVal.c _) : Nat × SVal)) rfl | apply nfCons (a := ((_, SVal.agg _) : Nat × SVal)) rfl)) fun B => ?_
  repeat' (first | (with_reducible (first | refine k_seq ?_ | refine k_block ?_ | refine k_skip ?_ | refine k_exit ?_ | refine k_ret ?_ | refine n_seq ?_ | refine n_block ?_ | refine e_seq ?_ | refine e_here ?_ | refine r_seq ?_ | refine r_block ?_ | refine o_exit ?_ | refine o_ret ?_)) | ((with_reducible refine is_region ?_); refine s_reg ?_) | ((with_reducible refine is_cond ?_); first | refine s_ifT ?_ | refine s_ifF ?_ | refine s_if rfl (fun hb => ?_) (fun hb => ?_)) | ((with_reducible refine is_exit ?_); refine s_past ?_) | ((with_reducible refine is_end ?_); first | refine r_end ?_ | refine s_endD ?_) | ((with_reducible refine is_guard ?_); first | refine s_skipS ?_ | refine s_skipU ?_ | refine s_skipN ?_ | refine s_skipUN ?_) | ((with_reducible refine is_move ?_); (first | refine s_move ?_ | fail)) | ((with_reducible refine is_assign ?_); (first | refine s_assign ?_ | fail)) | ((with_reducible refine is_bin ?_); (first | refine s_int ?_ | refine s_str ?_ | refine s_eqB ?_ | refine s_neB ?_ | refine s_eqA ?_ | refine s_neA ?_ | refine s_shr ?_ | refine s_shl ?_ | refine s_or ?_ | refine s_xor ?_ | refine s_eqNil (fun b hnil => ?_) | fail)) | ((with_reducible refine is_load ?_); (first | refine s_loadF1 ?_ | refine s_loadB1 ?_ | refine s_loadFA ?_ | refine s_loadBA ?_ | fail)) | ((with_reducible refine is_index ?_); (first | refine s_indexD ?_ (hel := (by first | exact rfl)) | refine s_indexA ?_ | refine s_indexVF ?_ | refine s_indexVB ?_ | fail)) | ((with_reducible refine is_field ?_); (first | refine s_fieldF ?_ | refine s_fieldB ?_ | refine s_fieldA ?_ | fail)) | ((with_reducible refine is_call ?_); (first | refine s_call (hg) ?_ | refine s_call (hp) ?_ | refine s_call (refInt_c 1) ?_ | fail)) | ((with_reducible refine is_pick ?_); (first | refine s_pick ?_ | refine s_pickB ?_ | fail)) | ((with_reducible refine is_built ?_); (first | refine s_lenD ?_ | refine s_lenE ?_ | refine s_lenS ?_ | refine s_lenA ?_ | refine s_appE ?_ | refine s_appA ?_ | refine s_min ?_ | refine s_max ?_ | fail)) | ((with_reducible refine is_bslice ?_); (first | refine s_bslice0 ?_ | refine s_bslice ?_ | fail)) | ((with_reducible refine is_build ?_); (first | refine s_build ?_ | fail)) | ((with_reducible refine is_guard ?_); first | refine s_kT ?_ | refine s_kF ?_ | refine s_split rfl rfl (fun hb => ?_) (fun hb => ?_)) | ((with_reducible refine is_fin ?_); first | refine f_ret1 def_nil ?_ | refine f_ret2 def_nil ?_ ?_ | refine f_ret3 def_nil ?_ ?_ ?_ | refine f_end1 def_nil ?_) | ((with_reducible refine is_res ?_); first | refine t_tmp ?_ | refine t_tmpE ?_ | refine t_tmpA rfl rfl ?_ ?_ | refine d_tmpG rfl ?_ | refine t_cell (P := Try.prog) ?_ | refine t_cellG ?_) | ((with_reducible refine is_cfs ?_); first | exact cfs_nil | refine cfs_cons ?_ ?_) | ((with_reducible refine is_cf ?_); first | refine cf_d ?_ | refine cf_emp ?_ | refine cf_arr rfl ?_ ?_))
  refine congrArg Dat.lit (congrArg Value.bool ?_)
  rw [lits_same]; exact sameVal_refl _

theorem law_c (r : Rls) (keys : Int) (rows : List Entry) : PCall Try.prog 3 [.agg r.d, .one (.lit (.int .i64 keys)), .one (bagD rows)] (.v (.one (.lit (.bool true)))) := by
  by_cases hs : shortE rows = true
  · have hl : rows.length ≤ 40 := by simp [shortE] at hs; exact hs.2
    have hn := normalize_c rows (by omega)
    have hsh := short_c rows
    rw [hs] at hsh
    have s1 := same35_c (publishAll r keys rows) (publishAll r keys rows)
    have s2 := same35_c (publishAll r keys (normE rows).1) (publishAll r keys (normE rows).1)
    rw [samePub_refl] at s1 s2
    refine pcallS hT Try.func3 rfl (by kernel_rfl) _ [.tmp 6] Try.ntmps3 rfl rfl (by repeat' (first | exact nfNil rfl | apply nfCons (a := ((_, SVal.c _) : Nat × SVal)) rfl | apply nfCons (a := ((_, SVal.agg _) : Nat × SVal)) rfl)) fun B => ?_
    repeat' (first | (with_reducible (first | refine k_seq ?_ | refine k_block ?_ | refine k_skip ?_ | refine k_exit ?_ | refine k_ret ?_ | refine n_seq ?_ | refine n_block ?_ | refine e_seq ?_ | refine e_here ?_ | refine r_seq ?_ | refine r_block ?_ | refine o_exit ?_ | refine o_ret ?_)) | ((with_reducible refine is_region ?_); refine s_reg ?_) | ((with_reducible refine is_cond ?_); first | refine s_ifT ?_ | refine s_ifF ?_ | refine s_if rfl (fun hb => ?_) (fun hb => ?_)) | ((with_reducible refine is_exit ?_); refine s_past ?_) | ((with_reducible refine is_end ?_); first | refine r_end ?_ | refine s_endD ?_) | ((with_reducible refine is_guard ?_); first | refine s_skipS ?_ | refine s_skipU ?_ | refine s_skipN ?_ | refine s_skipUN ?_) | ((with_reducible refine is_move ?_); (first | refine s_move ?_ | fail)) | ((with_reducible refine is_assign ?_); (first | refine s_assign ?_ | fail)) | ((with_reducible refine is_load ?_); (first | refine s_loadF1 ?_ | refine s_loadB1 ?_ | refine s_loadFA ?_ | refine s_loadBA ?_ | fail)) | ((with_reducible refine is_call ?_); (first | refine s_call (hsh) ?_ | refine s_call (hn) ?_ | refine s_call (publish_c _ _ _) ?_ | refine s_call (refPublish_c _ _ _) ?_ | refine s_call (publish_c r keys rows) ?_ | refine s_call (refPublish_c r keys rows) ?_ | refine s_call (s1) ?_ | refine s_call (s2) ?_ | refine s_call (awake_c) ?_ | fail)) | ((with_reducible refine is_pick ?_); (first | refine s_pick ?_ | refine s_pickB ?_ | fail)) | ((with_reducible refine is_extract ?_); (first | refine s_extract ?_ | fail)) | ((with_reducible refine is_un ?_); (first | refine s_not ?_ | refine s_neg ?_ | fail)) | ((with_reducible refine is_box ?_); (first | refine s_box ?_ | fail)) | ((with_reducible refine is_guard ?_); first | refine s_kT ?_ | refine s_kF ?_ | refine s_split rfl rfl (fun hb => ?_) (fun hb => ?_)) | ((with_reducible refine is_fin ?_); first | refine f_ret1 def_nil ?_ | refine f_ret2 def_nil ?_ ?_ | refine f_ret3 def_nil ?_ ?_ ?_ | refine f_end1 def_nil ?_) | ((with_reducible refine is_res ?_); first | refine t_tmp ?_ | refine t_tmpE ?_ | refine t_tmpA rfl rfl ?_ ?_ | refine d_tmpG rfl ?_ | refine t_cell (P := Try.prog) ?_ | refine t_cellG ?_) | ((with_reducible refine is_cfs ?_); first | exact cfs_nil | refine cfs_cons ?_ ?_) | ((with_reducible refine is_cf ?_); first | refine cf_d ?_ | refine cf_emp ?_ | refine cf_arr rfl ?_ ?_))
    all_goals rfl
  · have hsh := short_c rows
    rw [show shortE rows = false by simpa using hs] at hsh
    refine pcallS hT Try.func3 rfl (by kernel_rfl) _ [.tmp 6] Try.ntmps3 rfl rfl (by repeat' (first | exact nfNil rfl | apply nfCons (a := ((_, SVal.c _) : Nat × SVal)) rfl | apply nfCons (a := ((_, SVal.agg _) : Nat × SVal)) rfl)) fun B => ?_
    repeat' (first | (with_reducible (first | refine k_seq ?_ | refine k_block ?_ | refine k_skip ?_ | refine k_exit ?_ | refine k_ret ?_ | refine n_seq ?_ | refine n_block ?_ | refine e_seq ?_ | refine e_here ?_ | refine r_seq ?_ | refine r_block ?_ | refine o_exit ?_ | refine o_ret ?_)) | ((with_reducible refine is_region ?_); refine s_reg ?_) | ((with_reducible refine is_cond ?_); first | refine s_ifT ?_ | refine s_ifF ?_ | refine s_if rfl (fun hb => ?_) (fun hb => ?_)) | ((with_reducible refine is_exit ?_); refine s_past ?_) | ((with_reducible refine is_end ?_); first | refine r_end ?_ | refine s_endD ?_) | ((with_reducible refine is_guard ?_); first | refine s_skipS ?_ | refine s_skipU ?_ | refine s_skipN ?_ | refine s_skipUN ?_) | ((with_reducible refine is_move ?_); (first | refine s_move ?_ | fail)) | ((with_reducible refine is_assign ?_); (first | refine s_assign ?_ | fail)) | ((with_reducible refine is_load ?_); (first | refine s_loadF1 ?_ | refine s_loadB1 ?_ | refine s_loadFA ?_ | refine s_loadBA ?_ | fail)) | ((with_reducible refine is_call ?_); (first | refine s_call (hsh) ?_ | refine s_call (awake_c) ?_ | fail)) | ((with_reducible refine is_pick ?_); (first | refine s_pick ?_ | refine s_pickB ?_ | fail)) | ((with_reducible refine is_extract ?_); (first | refine s_extract ?_ | fail)) | ((with_reducible refine is_un ?_); (first | refine s_not ?_ | refine s_neg ?_ | fail)) | ((with_reducible refine is_box ?_); (first | refine s_box ?_ | fail)) | ((with_reducible refine is_guard ?_); first | refine s_kT ?_ | refine s_kF ?_ | refine s_split rfl rfl (fun hb => ?_) (fun hb => ?_)) | ((with_reducible refine is_fin ?_); first | refine f_ret1 def_nil ?_ | refine f_ret2 def_nil ?_ ?_ | refine f_ret3 def_nil ?_ ?_ ?_ | refine f_end1 def_nil ?_) | ((with_reducible refine is_res ?_); first | refine t_tmp ?_ | refine t_tmpE ?_ | refine t_tmpA rfl rfl ?_ ?_ | refine d_tmpG rfl ?_ | refine t_cell (P := Try.prog) ?_ | refine t_cellG ?_) | ((with_reducible refine is_cfs ?_); first | exact cfs_nil | refine cfs_cons ?_ ?_) | ((with_reducible refine is_cf ?_); first | refine cf_d ?_ | refine cf_emp ?_ | refine cf_arr rfl ?_ ?_))
    all_goals rfl
end Go.Proofs.Ytlacmjfgaehhkaa
