/-
  The cache: the values that a change touches.
-/
import Derived.Test.YtmejclckkmpggaaCac
import Derived.Test.YtmejclckkmpggaaOrd
import Derived.Test.YtmejclckkmpggaaLaid
namespace Go.Proofs.Ytmejclckkmpggaa
open Go.Abs Go.RowKit
attribute [local irreducible] ARun kont MCall PCall HCall resVal SF CF CFs defersOk slotsIn memIn fin finM VLe
set_option linter.unusedSimpArgs false
set_option maxRecDepth 100000
set_option maxHeartbeats 4000000

theorem nodup_le : ∀ (n : Nat) (l : List Nat), l.Nodup → (∀ b ∈ l, b < n) → l.length ≤ n
  | 0, l, _, h => by
    cases l with
    | nil => simp
    | cons x l => have := h x (by simp); omega
  | n + 1, l, hn, h => by
    have := nodup_le n (l.erase n) (hn.erase n) (fun b hb => by
      have h1 := (hn.mem_erase_iff).1 hb
      have := h b h1.2
      have := h1.1
      omega)
    rw [List.length_erase] at this
    split at this <;> omega

theorem nodup_snoc {sb : List Nat} {j n : Nat} (hnd : sb.Nodup) (hsb : ∀ b ∈ sb, b < n) (hn : ¬ j ∈ sb) (hj : j < n) : (sb ++ [j]).Nodup ∧ ∀ b ∈ sb ++ [j], b < n := by
  refine ⟨?_, fun b hb => ?_⟩
  · rw [List.nodup_append]
    exact ⟨hnd, by simp, fun a ha b hb => by rintro rfl; simp at hb; subst hb; exact hn ha⟩
  · rcases List.mem_append.1 hb with hb | hb
    · exact hsb b hb
    · simp at hb; omega

theorem touched1_d : DeferOk Try.prog 68 1 := by
  refine ⟨⟨_, Try.func68, by kernel_rfl, by kernel_rfl⟩, fun vs w hl => ?_⟩
  match vs, hl with
  | [p0], _ =>
    refine callsD_of_wpS Try.func68 rfl fun c₀ cs hu => ?_
    apply wpS_seq
    apply wpS_region
    simp [wpOpsS, go_sem, recoverD, hu, Try.ntmps68, Exit.thenS]
    refine wpS_cond (t := false) (by simp [Act.eval, Array.replicate]) ?_
    simp only [Bool.false_eq_true, if_false]
    refine wpS_of_wp (wp_skip ?_)
    cases c₀
    simp_all [bodyPostS, results, Try.results68]

def addV (acc : List Val) (v : Val) : List Val := if acc.any (sameVal · v) then acc else acc ++ [v]
def setV (l : List Val) : List Val := l.foldl addV []

theorem any_iff {acc : List Val} {v : Val} : acc.any (sameVal · v) = true ↔ v ∈ acc := by
  rw [List.any_eq_true]
  exact ⟨fun ⟨x, h1, h2⟩ => by rw [sameVal_iff] at h2; exact h2 ▸ h1, fun h => ⟨v, h, sameVal_refl v⟩⟩
theorem addV_mem {acc : List Val} {v x : Val} : x ∈ addV acc v ↔ x ∈ acc ∨ x = v := by
  unfold addV
  split
  · rename_i h; rw [any_iff] at h
    exact ⟨.inl, fun q => q.elim id (fun e => e ▸ h)⟩
  · simp
theorem addV_nodup {acc : List Val} {v : Val} (h : acc.Nodup) : (addV acc v).Nodup := by
  unfold addV
  split
  · exact h
  · rename_i hn; rw [any_iff] at hn
    rw [List.nodup_append]
    exact ⟨h, by simp, fun a ha b hb => by rintro rfl; simp at hb; subst hb; exact hn ha⟩
theorem fold_says : ∀ (l acc : List Val), acc.Nodup → (l.foldl addV acc).Nodup ∧ (∀ x, x ∈ l.foldl addV acc ↔ x ∈ acc ∨ x ∈ l) ∧ (l.foldl addV acc).length ≤ acc.length + l.length
  | [], acc, h => ⟨h, by simp, by simp⟩
  | v :: l, acc, h => by
    obtain ⟨h1, h2, h3⟩ := fold_says l (addV acc v) (addV_nodup h)
    refine ⟨h1, fun x => ?_, ?_⟩
    · rw [List.foldl_cons, h2, addV_mem]; simp [or_assoc]
    · rw [List.foldl_cons]
      have : (addV acc v).length ≤ acc.length + 1 := by unfold addV; split <;> simp
      simp only [List.length_cons]; omega
theorem setV_says (l : List Val) : (setV l).Nodup ∧ (∀ x, x ∈ setV l ↔ x ∈ l) ∧ (setV l).length ≤ l.length := by
  obtain ⟨h1, h2, h3⟩ := fold_says l [] .nil
  exact ⟨h1, fun x => by rw [setV, h2]; simp, by unfold setV; simpa using h3⟩
theorem setV_snoc {l : List Val} {i : Nat} {v : Val} (h : l[i]? = some v) : setV (l.take (i + 1)) = addV (setV (l.take i)) v := by
  unfold setV
  rw [List.take_add_one, h, List.foldl_append]; rfl

def valK (v : Val) : Value := .agg [.int .i64 v.kind, .int .i64 v.int, .string v.text].toArray
def kvV (v : Val) : Value × PV := (valK v, .one (.lit (.bool true)))
theorem valK_inj {u v : Val} (h : valK u = valK v) : u = v := by
  unfold valK at h
  injection h with h
  have h' := congrArg Array.toList h
  simp only [List.cons.injEq, Value.int.injEq, Value.string.injEq, true_and, and_true] at h'
  obtain ⟨a1, a2, a3⟩ := u
  obtain ⟨b1, b2, b3⟩ := v
  dsimp only at h'
  rw [h'.1, h'.2.1, h'.2.2]
theorem valK_good (v : Val) : IsRec [.int .i64 0, .int .i64 0, .string ⟨#[]⟩] (valK v) := ⟨_, rfl, by simp [alikes, alike]⟩
theorem kvV_good (l : List Val) : ∀ e ∈ l.map kvV, IsRec [.int .i64 0, .int .i64 0, .string ⟨#[]⟩] e.1 := fun e he => by
  obtain ⟨v, _, rfl⟩ := List.mem_map.1 he
  exact valK_good v
theorem valK_rep (v : Val) (E : Env) (w : World) : SRep E w (valK v) (.agg (v.d.map .d)) := by
  refine .agg _ _ rfl fun i u x hu hx => ?_
  match i with
  | 0 => simp [Val.d] at hu hx; subst hu; subst hx; exact .d (.lit _ rfl)
  | 1 => simp [Val.d] at hu hx; subst hu; subst hx; exact .d (.lit _ rfl)
  | 2 => simp [Val.d] at hu hx; subst hu; subst hx; exact .d (.lit _ rfl)
  | i + 3 => simp at hu

def cellsE (l : List Entry) (col : Int) : List Val := l.map fun e => cellE e.row col

def pickV (acc : List Val) (sb : List Nat) : List Val := sb.filterMap (acc[·]?)
theorem pickV_snoc {acc : List Val} {sb : List Nat} {b : Nat} {e : Val} (h : acc[b]? = some e) : pickV acc (sb ++ [b]) = pickV acc sb ++ [e] := by
  unfold pickV
  rw [List.filterMap_append]
  congr 1
  simp [h]
theorem pickV_all {acc : List Val} {sb : List Nat} (hn : sb.Nodup) (hs : ∀ b ∈ sb, b < acc.length) (hall : ∀ b ∈ List.range acc.length, b ∈ sb) : (pickV acc sb).Perm acc := by
  have hp : sb.Perm (List.range acc.length) := by
    rw [List.perm_ext_iff_of_nodup hn List.nodup_range]
    intro b
    exact ⟨fun h => List.mem_range.2 (hs b h), hall b⟩
  refine (hp.filterMap (acc[·]?)).trans (.of_eq ?_)
  apply List.ext_getElem?
  intro i
  have : ∀ (l : List Val) , (List.range l.length).filterMap (l[·]?) = l := by
    intro l
    induction l with
    | nil => rfl
    | cons x l ih =>
      rw [List.length_cons, List.range_succ_eq_map, List.filterMap_cons]
      simp only [List.getElem?_cons_zero, List.filterMap_map]
      congr 1
  rw [this]

theorem set_same {α : Type} {l : List α} {j : Nat} {x : α} (h : l[j]? = some x) : l.set j x = l := by
  refine List.ext_getElem? fun i => ?_
  rw [List.getElem?_set]
  split
  · rename_i q; subst q
    split
    · exact h.symm
    · rename_i q; rw [List.getElem?_eq_none (by omega)] at h; cases h
  · rfl

def vR (a b : Val) : Prop := a.cmp b < 0
theorem vR_irr (a : Val) : ¬ vR a a := by unfold vR; rw [cmp_ok.refl]; omega
theorem vR_tr (a b c : Val) (h1 : vR a b) (h2 : vR b c) : vR a c := cmp_ok.trans _ _ _ h1 h2
theorem cell_clean (row : List Val) (col : Int) : (cellE row col).clean = cellE row col := by
  have h : (cellE row col).valid = true := by
    unfold cellE
    split
    · decide +kernel
    · split
      · exact clean_valid _
      · decide +kernel
  generalize cellE row col = u at h
  unfold Val.clean; rw [if_pos h]
theorem cells_clean {l : List Entry} {col : Int} {v : Val} (h : v ∈ cellsE l col) : v.clean = v := by
  obtain ⟨e, _, rfl⟩ := List.mem_map.1 h
  exact cell_clean _ _

/-- Sorted, without a value twice. -/
theorem sortV_strict {l : List Val} (hn : l.Nodup) (hc : ∀ v ∈ l, v.clean = v) : (sortF Val.cmp l).Pairwise vR := by
  have hp := sortF_perm cmp_ok.swo l
  have hs := sortF_sorted cmp_ok.swo l
  have hn' : (sortF Val.cmp l).Nodup := hp.nodup_iff.2 hn
  have hc' : ∀ v ∈ sortF Val.cmp l, v.clean = v := fun v hv => hc v (hp.mem_iff.1 hv)
  generalize sortF Val.cmp l = m at hs hn' hc'
  have : m.Pairwise fun a b => a ∈ m ∧ b ∈ m ∧ a ≠ b ∧ ¬ b.cmp a < 0 := by
    have h1 : m.Pairwise fun a b => a ≠ b := hn'
    have h3 := (h1.and hs)
    exact List.Pairwise.imp_of_mem (fun {a b} ha hb ⟨q1, q2⟩ => ⟨ha, hb, q1, q2⟩) h3
  refine this.imp ?_
  rintro a b ⟨ha, hb, hne, hle⟩
  have h0 := cmp_ok.zero a b
  have h1 := cmp_ok.anti a b
  rw [hc' a ha, hc' b hb] at h0
  show a.cmp b < 0
  have : ¬ a.cmp b = 0 := fun q => hne (h0.1 q)
  omega

noncomputable def touchE (minus plus : List Entry) (col : Int) : List Val := sortF Val.cmp (setV (cellsE minus col ++ cellsE plus col))

theorem touch_says (minus plus : List Entry) (col : Int) : (touchE minus plus col).Pairwise vR ∧ ∀ v, v ∈ touchE minus plus col ↔ v ∈ cellsE minus col ++ cellsE plus col := by
  obtain ⟨h1, h2, h3⟩ := setV_says (cellsE minus col ++ cellsE plus col)
  refine ⟨sortV_strict h1 fun v hv => ?_, fun v => ?_⟩
  · rcases List.mem_append.1 ((h2 v).1 hv) with h | h <;> exact cells_clean h
  · rw [touchE, (sortF_perm cmp_ok.swo _).mem_iff, h2]

theorem touched_c (minus plus : List Entry) (col : Int) (hm : minus.length ≤ 10000) (hp : plus.length ≤ 10000) : PCall Try.prog 33 [.one (bagD minus), .one (bagD plus), .one (.lit (.int .i64 col))] (.v (.one (rowD (touchE minus plus col)))) := by
  obtain ⟨L, hL⟩ : ∃ L, L = cellsE minus col ++ cellsE plus col := ⟨_, rfl⟩
  have hLm : ∀ (i : Nat) e, minus[i]? = some e → L[i]? = some (cellE e.row col) := fun i e h => by
    have := lt_of_getElem? h
    rw [hL, List.getElem?_append_left (by simp [cellsE]; omega), cellsE, List.getElem?_map, h]; rfl
  have hLp : ∀ (i : Nat) e, plus[i]? = some e → L[minus.length + i]? = some (cellE e.row col) := fun i e h => by
    rw [hL, List.getElem?_append_right (by simp [cellsE]), show minus.length + i - (cellsE minus col).length = i by simp [cellsE], cellsE, List.getElem?_map, h]; rfl
  have hLl : L.length = minus.length + plus.length := by rw [hL]; simp [cellsE]
  have hLc : ∀ v ∈ L, v.clean = v := fun v hv => by
    rw [hL] at hv
    rcases List.mem_append.1 hv with h | h <;> exact cells_clean h
  have htE : touchE minus plus col = sortF Val.cmp (setV L) := by rw [hL]; rfl
  rw [htE]
  clear hL htE
  refine pcallN hT Try.func33 Try.ntmps33 [.cell 6 33] fun B => ?_
  repeat' (first | (with_reducible (first | refine k_seq ?_ | refine k_block ?_ | refine k_skip ?_ | refine k_exit ?_ | refine k_ret ?_ | refine n_seq ?_ | refine n_block ?_ | refine e_seq ?_ | refine e_here ?_ | refine o_exit ?_)) | refine s_reg ?_ | refine s_ifT ?_ | refine s_ifF ?_ | refine r_end ?_ | refine s_move ?_ | refine s_assign ?_ | refine s_int ?_ | refine s_mkMap ?_ | refine s_range ?_ | refine s_loadB1 ?_ | refine s_loadFA ?_ | refine s_loadBA ?_ | refine s_indexD ?_ (hel := (by first | exact rfl)) | refine s_fieldB ?_ | refine s_lenD ?_ | refine s_appA ?_ | refine s_storeB ?_ | refine s_bslice ?_ | refine s_extract ?_ | refine s_alloc ?_ | refine s_funcC ?_ | refine s_defer ?_ | refine f_ret1 (by repeat (first | exact def_nil | refine def_cons touched1_d ?_)) ?_ | refine t_cell (P := Try.prog) ?_ | refine cf_arr rfl ?_ ?_)
  refine s_lp (X := Nat) [9, 17, 18, 19, 20, 21, 22, 23, 24, 25, 26] (fun x => x ≤ minus.length) (fun x lz => (17, (.c (.d (.lit (.int .i64 x))))) :: lz) (fun x => [.box 1 [.emp], .map 2 24 4 ((setV (L.take x)).map kvV) (List.range (setV (L.take x)).length) (setV (L.take x)).length]) (fun x => minus.length - x) (0) ?_ ?_ ?_ ?_
  repeat' (first | exact slots_nil | refine w1 ?_ | exact memIn_nil | refine memIn_same ?_ | refine m1 ?_ ?_ | refine m2 ?_ ?_ | refine m3 ?_ ?_ ?_ ?_ | omega)
  rintro i c hi
  by_cases hlt : i < minus.length
  · have hv : minus[i]? = some minus[i] := List.getElem?_eq_getElem hlt
    generalize minus[i] = e at hv
    have hsn := setV_snoc (hLm i e hv)
    have hcc := cell_c e.row col
    generalize cellE e.row col = u at hsn hcc
    generalize setV (L.take i) = acc at hsn
    by_cases hex : u ∈ acc
    · obtain ⟨j, hj⟩ := List.mem_iff_getElem?.1 hex
      have hj' : (acc.map kvV)[j]? = some (valK u, .one (.lit (.bool true))) := by rw [List.getElem?_map, hj]; rfl
      have hset := set_same hj'
      rw [addV, if_pos (any_iff.2 hex)] at hsn
      repeat' (first | (with_reducible (first | refine k_seq ?_ | refine k_block ?_ | refine k_skip ?_ | refine k_exit ?_ | refine k_ret ?_ | refine n_seq ?_ | refine n_block ?_ | refine e_seq ?_ | refine e_here ?_ | refine o_exit ?_)) | refine s_reg ?_ | refine s_ifT ?_ | refine s_ifF ?_ | refine r_end ?_ | refine s_move ?_ | refine s_assign ?_ | refine s_int ?_ | refine s_mkMap ?_ | refine s_range ?_ | refine s_loadB1 ?_ | refine s_loadFA ?_ | refine s_loadBA ?_ | refine s_indexD ?_ (hel := (by first | exact idx_map hv (by omega) | exact hv | exact rfl)) | refine s_fieldB ?_ | refine s_call (hcc) ?_ | refine s_lenD ?_ | refine s_appA ?_ | refine s_storeB ?_ | refine s_bslice ?_ | refine s_extract ?_ | refine s_alloc ?_ | refine s_funcC ?_ | refine s_defer ?_ | refine s_mapOld hj' (valK_good u) (kvV_good _) ?_ (hes := hset) | refine f_ret1 (by repeat (first | exact def_nil | refine def_cons touched1_d ?_)) ?_ | refine t_cell (P := Try.prog) ?_ | refine cf_arr rfl ?_ ?_)
      (apply s_round (i + 1); all_goals (try dsimp only); all_goals (try (repeat' (first | exact slots_nil | refine w1 ?_ | exact memIn_nil | refine memIn_same ?_ | refine m1 ?_ ?_ | refine m2 ?_ ?_ | refine m3 ?_ ?_ ?_ ?_ | omega))))
      all_goals (rw [hsn])
    · have hno : ∀ x ∈ acc.map kvV, x.1 ≠ valK u := fun x hx h => by
        obtain ⟨a, ha, rfl⟩ := List.mem_map.1 hx
        exact hex (valK_inj h ▸ ha)
      rw [addV, if_neg (by rw [any_iff]; exact hex)] at hsn
      repeat' (first | (with_reducible (first | refine k_seq ?_ | refine k_block ?_ | refine k_skip ?_ | refine k_exit ?_ | refine k_ret ?_ | refine n_seq ?_ | refine n_block ?_ | refine e_seq ?_ | refine e_here ?_ | refine o_exit ?_)) | refine s_reg ?_ | refine s_ifT ?_ | refine s_ifF ?_ | refine r_end ?_ | refine s_move ?_ | refine s_assign ?_ | refine s_int ?_ | refine s_mkMap ?_ | refine s_range ?_ | refine s_loadB1 ?_ | refine s_loadFA ?_ | refine s_loadBA ?_ | refine s_indexD ?_ (hel := (by first | exact idx_map hv (by omega) | exact hv | exact rfl)) | refine s_fieldB ?_ | refine s_call (hcc) ?_ | refine s_lenD ?_ | refine s_appA ?_ | refine s_storeB ?_ | refine s_bslice ?_ | refine s_extract ?_ | refine s_alloc ?_ | refine s_funcC ?_ | refine s_defer ?_ | refine s_mapNew hno (valK_good u) (kvV_good _) ?_ | refine f_ret1 (by repeat (first | exact def_nil | refine def_cons touched1_d ?_)) ?_ | refine t_cell (P := Try.prog) ?_ | refine cf_arr rfl ?_ ?_)
      (apply s_round (i + 1); all_goals (try dsimp only); all_goals (try (repeat' (first | exact slots_nil | refine w1 ?_ | exact memIn_nil | refine memIn_same ?_ | refine m1 ?_ ?_ | refine m2 ?_ ?_ | refine m3 ?_ ?_ ?_ ?_ | omega))))
      · rw [hsn, List.map_append]; rfl
      · rw [hsn, List.length_append, List.length_singleton, List.range_succ]
      · rw [hsn]; simp
  · obtain rfl : i = minus.length := by omega
    repeat' (first | (with_reducible (first | refine k_seq ?_ | refine k_block ?_ | refine k_skip ?_ | refine k_exit ?_ | refine k_ret ?_ | refine n_seq ?_ | refine n_block ?_ | refine e_seq ?_ | refine e_here ?_ | refine o_exit ?_)) | refine s_reg ?_ | refine s_ifT ?_ | refine s_ifF ?_ | refine r_end ?_ | refine s_move ?_ | refine s_assign ?_ | refine s_int ?_ | refine s_mkMap ?_ | refine s_range ?_ | refine s_loadB1 ?_ | refine s_loadFA ?_ | refine s_loadBA ?_ | refine s_indexD ?_ (hel := (by first | exact rfl)) | refine s_fieldB ?_ | refine s_lenD ?_ | refine s_appA ?_ | refine s_storeB ?_ | refine s_bslice ?_ | refine s_extract ?_ | refine s_alloc ?_ | refine s_funcC ?_ | refine s_defer ?_ | refine f_ret1 (by repeat (first | exact def_nil | refine def_cons touched1_d ?_)) ?_ | refine t_cell (P := Try.prog) ?_ | refine cf_arr rfl ?_ ?_)
    refine s_lp (X := Nat) [11, 29, 30, 31, 32, 33, 34, 35, 36, 37, 38] (fun x => x ≤ plus.length) (fun x lz => (29, (.c (.d (.lit (.int .i64 x))))) :: lz) (fun x => [.box 1 [.emp], .map 2 24 4 ((setV (L.take (minus.length + x))).map kvV) (List.range (setV (L.take (minus.length + x))).length) (setV (L.take (minus.length + x))).length]) (fun x => plus.length - x) (0) ?_ ?_ ?_ ?_
    repeat' (first | exact slots_nil | refine w1 ?_ | exact memIn_nil | refine memIn_same ?_ | refine m1 ?_ ?_ | refine m2 ?_ ?_ | refine m3 ?_ ?_ ?_ ?_ | omega)
    rintro i c1 hi1
    by_cases hlt : i < plus.length
    · have hv : plus[i]? = some plus[i] := List.getElem?_eq_getElem hlt
      generalize plus[i] = e at hv
      have hsn := setV_snoc (hLp i e hv)
      have hcc := cell_c e.row col
      generalize cellE e.row col = u at hsn hcc
      generalize setV (L.take (minus.length + i)) = acc at hsn
      by_cases hex : u ∈ acc
      · obtain ⟨j, hj⟩ := List.mem_iff_getElem?.1 hex
        have hj' : (acc.map kvV)[j]? = some (valK u, .one (.lit (.bool true))) := by rw [List.getElem?_map, hj]; rfl
        have hset := set_same hj'
        rw [addV, if_pos (any_iff.2 hex)] at hsn
        repeat' (first | (with_reducible (first | refine k_seq ?_ | refine k_block ?_ | refine k_skip ?_ | refine k_exit ?_ | refine k_ret ?_ | refine n_seq ?_ | refine n_block ?_ | refine e_seq ?_ | refine e_here ?_ | refine o_exit ?_)) | refine s_reg ?_ | refine s_ifT ?_ | refine s_ifF ?_ | refine r_end ?_ | refine s_move ?_ | refine s_assign ?_ | refine s_int ?_ | refine s_mkMap ?_ | refine s_range ?_ | refine s_loadB1 ?_ | refine s_loadFA ?_ | refine s_loadBA ?_ | refine s_indexD ?_ (hel := (by first | exact idx_map hv (by omega) | exact hv | exact rfl)) | refine s_fieldB ?_ | refine s_call (hcc) ?_ | refine s_lenD ?_ | refine s_appA ?_ | refine s_storeB ?_ | refine s_bslice ?_ | refine s_extract ?_ | refine s_alloc ?_ | refine s_funcC ?_ | refine s_defer ?_ | refine s_mapOld hj' (valK_good u) (kvV_good _) ?_ (hes := hset) | refine f_ret1 (by repeat (first | exact def_nil | refine def_cons touched1_d ?_)) ?_ | refine t_cell (P := Try.prog) ?_ | refine cf_arr rfl ?_ ?_)
        (apply s_round (i + 1); all_goals (try dsimp only); all_goals (try (repeat' (first | exact slots_nil | refine w1 ?_ | exact memIn_nil | refine memIn_same ?_ | refine m1 ?_ ?_ | refine m2 ?_ ?_ | refine m3 ?_ ?_ ?_ ?_ | omega))))
        all_goals (rw [← Nat.add_assoc, hsn])
      · have hno : ∀ x ∈ acc.map kvV, x.1 ≠ valK u := fun x hx h => by
          obtain ⟨a, ha, rfl⟩ := List.mem_map.1 hx
          exact hex (valK_inj h ▸ ha)
        rw [addV, if_neg (by rw [any_iff]; exact hex)] at hsn
        repeat' (first | (with_reducible (first | refine k_seq ?_ | refine k_block ?_ | refine k_skip ?_ | refine k_exit ?_ | refine k_ret ?_ | refine n_seq ?_ | refine n_block ?_ | refine e_seq ?_ | refine e_here ?_ | refine o_exit ?_)) | refine s_reg ?_ | refine s_ifT ?_ | refine s_ifF ?_ | refine r_end ?_ | refine s_move ?_ | refine s_assign ?_ | refine s_int ?_ | refine s_mkMap ?_ | refine s_range ?_ | refine s_loadB1 ?_ | refine s_loadFA ?_ | refine s_loadBA ?_ | refine s_indexD ?_ (hel := (by first | exact idx_map hv (by omega) | exact hv | exact rfl)) | refine s_fieldB ?_ | refine s_call (hcc) ?_ | refine s_lenD ?_ | refine s_appA ?_ | refine s_storeB ?_ | refine s_bslice ?_ | refine s_extract ?_ | refine s_alloc ?_ | refine s_funcC ?_ | refine s_defer ?_ | refine s_mapNew hno (valK_good u) (kvV_good _) ?_ | refine f_ret1 (by repeat (first | exact def_nil | refine def_cons touched1_d ?_)) ?_ | refine t_cell (P := Try.prog) ?_ | refine cf_arr rfl ?_ ?_)
        (apply s_round (i + 1); all_goals (try dsimp only); all_goals (try (repeat' (first | exact slots_nil | refine w1 ?_ | exact memIn_nil | refine memIn_same ?_ | refine m1 ?_ ?_ | refine m2 ?_ ?_ | refine m3 ?_ ?_ ?_ ?_ | omega))))
        · rw [← Nat.add_assoc, hsn, List.map_append]; rfl
        · rw [← Nat.add_assoc, hsn, List.length_append, List.length_singleton, List.range_succ]
        · rw [← Nat.add_assoc, hsn]; simp
    · rw [take_ge (show L.length ≤ minus.length + i by omega)]
      obtain ⟨n1, n2, n3⟩ := setV_says L
      have hac : ∀ v ∈ setV L, v.clean = v := fun v hv => hLc v ((n2 v).1 hv)
      generalize setV L = acc at n1 n2 n3 hac
      repeat' (first | (with_reducible (first | refine k_seq ?_ | refine k_block ?_ | refine k_skip ?_ | refine k_exit ?_ | refine k_ret ?_ | refine n_seq ?_ | refine n_block ?_ | refine e_seq ?_ | refine e_here ?_ | refine o_exit ?_)) | refine s_reg ?_ | refine s_ifT ?_ | refine s_ifF ?_ | refine r_end ?_ | refine s_move ?_ | refine s_assign ?_ | refine s_int ?_ | refine s_mkMap ?_ | refine s_range ?_ | refine s_loadB1 ?_ | refine s_loadFA ?_ | refine s_loadBA ?_ | refine s_indexD ?_ (hel := (by first | exact rfl)) | refine s_fieldB ?_ | refine s_lenD ?_ | refine s_appA ?_ | refine s_storeB ?_ | refine s_bslice ?_ | refine s_extract ?_ | refine s_alloc ?_ | refine s_funcC ?_ | refine s_defer ?_ | refine f_ret1 (by repeat (first | exact def_nil | refine def_cons touched1_d ?_)) ?_ | refine t_cell (P := Try.prog) ?_ | refine cf_arr rfl ?_ ?_)
      refine s_ownBox 0 0 24 3 ?_
      refine s_lp (X := List Nat × Nat) [12, 41, 42, 43, 44, 45, 46, 47, 48] (fun x => x.1.Nodup ∧ (∀ b ∈ x.1, b < acc.length)) (fun x lz => lz) (fun x => [.box 1 [.arr 3 x.2 (pickV acc x.1).length], .map 2 24 4 (acc.map kvV) (List.range acc.length) acc.length, .iter (c1 + 1) 1 2 acc.length x.1, .arr x.2 24 3 ((pickV acc x.1).map Val.d)]) (fun x => acc.length - x.1.length) (([], c1 + 1 + 1)) ?_ ?_ ?_ ?_
      repeat' (first | exact slots_nil | refine w1 ?_ | exact memIn_nil | refine memIn_same ?_ | refine m1 ?_ ?_ | refine m2 ?_ ?_ | refine m3 ?_ ?_ ?_ ?_ | omega)
      · exact ⟨.nil, by simp⟩
      rintro ⟨sb, kv⟩ c2 ⟨hnd, hsb⟩
      dsimp only at hnd hsb ⊢
      have hle : ∀ j, j < acc.length → ¬ j ∈ sb → sb.length + 1 ≤ acc.length := fun j hj hn => by
        have hq := nodup_snoc hnd hsb hn hj
        have := nodup_le acc.length (sb ++ [j]) hq.1 hq.2
        simpa using this
      have hpl : (pickV acc sb).length ≤ sb.length := List.length_filterMap_le ..
      repeat' (first | (with_reducible (first | refine k_seq ?_ | refine k_block ?_ | refine k_skip ?_ | refine k_exit ?_ | refine k_ret ?_ | refine n_seq ?_ | refine n_block ?_ | refine e_seq ?_ | refine e_here ?_ | refine o_exit ?_)) | refine s_reg ?_ | refine s_ifT ?_ | refine s_ifF ?_ | refine r_end ?_ | refine s_move ?_ | refine s_assign ?_ | refine s_int ?_ | refine s_mkMap ?_ | refine s_range ?_ | refine s_loadB1 ?_ | refine s_loadFA ?_ | refine s_loadBA ?_ | refine s_indexD ?_ (hel := (by first | exact rfl)) | refine s_fieldB ?_ | refine s_lenD ?_ | refine s_appA ?_ | refine s_storeB ?_ | refine s_bslice ?_ | refine s_extract ?_ | refine s_alloc ?_ | refine s_funcC ?_ | refine s_defer ?_ | refine s_next (fun hfin => ?_) (fun j bb kv p hj1 hj2 hj3 => ?_) | refine f_ret1 (by repeat (first | exact def_nil | refine def_cons touched1_d ?_)) ?_ | refine t_cell (P := Try.prog) ?_ | refine cf_arr rfl ?_ ?_)
      · have hperm := pickV_all hnd hsb hfin
        generalize pickV acc sb = out at hperm hpl
        have hol := hperm.length_eq
        have hS := sortF69_h Val.d (fun _ => rfl) Val.cmp cmp_ok.swo 52 out (by omega) (fun x _ y _ => compare_c x y)
        have hsl := (sortF_perm cmp_ok.swo out).length_eq
        have hse : sortF Val.cmp out = sortF Val.cmp acc := by
          refine sorted_unique vR_irr vR_tr (sortV_strict (hperm.nodup_iff.2 n1) fun v hv => hac v (hperm.mem_iff.1 hv)) (sortV_strict n1 hac) fun v => ?_
          rw [(sortF_perm cmp_ok.swo out).mem_iff, (sortF_perm cmp_ok.swo acc).mem_iff, hperm.mem_iff]
        rw [hse] at hS hsl
        repeat' (first | (with_reducible (first | refine k_seq ?_ | refine k_block ?_ | refine k_skip ?_ | refine k_exit ?_ | refine k_ret ?_ | refine n_seq ?_ | refine n_block ?_ | refine e_seq ?_ | refine e_here ?_ | refine o_exit ?_)) | refine s_reg ?_ | refine s_ifT ?_ | refine s_ifF ?_ | refine r_end ?_ | refine s_move ?_ | refine s_assign ?_ | refine s_int ?_ | refine s_mkMap ?_ | refine s_range ?_ | refine s_loadB1 ?_ | refine s_loadFA ?_ | refine s_loadBA ?_ | refine s_indexD ?_ (hel := (by first | exact rfl)) | refine s_fieldB ?_ | refine s_callH [3] (hS) ?_ | refine s_lenD ?_ | refine s_appA ?_ | refine s_storeB ?_ | refine s_bslice ?_ | refine s_extract ?_ | refine s_alloc ?_ | refine s_funcC ?_ | refine s_defer ?_ | refine f_ret1 (by repeat (first | exact def_nil | refine def_cons touched1_d ?_)) ?_ | refine t_cell (P := Try.prog) ?_ | refine cf_arr rfl ?_ ?_)
        · simp; omega
        · rw [take_ge (by simp; omega)]; rfl
      · have hjl : j < acc.length := by simpa using lt_of_getElem? hj1
        obtain rfl : j = bb := by
          rw [List.getElem?_range hjl] at hj1; injection hj1
        have hg : acc[j]? = some acc[j] := List.getElem?_eq_getElem hjl
        generalize acc[j] = e at hg
        rw [List.getElem?_map, hg] at hj3
        injection hj3 with hj3
        injection hj3 with h1 h2
        subst h1; subst h2
        have hj3 : (acc.map kvV)[j]? = some (kvV e) := by rw [List.getElem?_map, hg]; rfl
        have hsn := pickV_snoc (sb := sb) hg
        have hlt' := hle j hjl hj2
        have hn2 : (sb ++ [j]).Nodup ∧ ∀ b ∈ sb ++ [j], b < acc.length := nodup_snoc hnd hsb hj2 hjl
        simp only [List.set_cons_succ, List.set_cons_zero]
        repeat' (first | (with_reducible (first | refine k_seq ?_ | refine k_block ?_ | refine k_skip ?_ | refine k_exit ?_ | refine k_ret ?_ | refine n_seq ?_ | refine n_block ?_ | refine e_seq ?_ | refine e_here ?_ | refine o_exit ?_)) | refine s_reg ?_ | refine s_ifT ?_ | refine s_ifF ?_ | refine r_end ?_ | refine s_move ?_ | refine s_assign ?_ | refine s_int ?_ | refine s_mkMap ?_ | refine s_range ?_ | refine s_loadB1 ?_ | refine s_loadFA ?_ | refine s_loadBA ?_ | refine s_indexD ?_ (hel := (by first | exact rfl)) | refine s_fieldB ?_ | refine s_lenD ?_ | refine s_appA ?_ | refine s_storeB ?_ | refine s_bslice ?_ | refine s_extract ?_ | refine s_alloc ?_ | refine s_funcC ?_ | refine s_defer ?_ | refine s_entry hj1 hj3 (valK_rep e) ?_ | refine f_ret1 (by repeat (first | exact def_nil | refine def_cons touched1_d ?_)) ?_ | refine t_cell (P := Try.prog) ?_ | refine cf_arr rfl ?_ ?_)
        (apply s_round ((sb ++ [j], _)); all_goals (try dsimp only); all_goals (try (repeat' (first | exact slots_nil | refine w1 ?_ | exact memIn_nil | refine memIn_same ?_ | refine m1 ?_ ?_ | refine m2 ?_ ?_ | refine m3 ?_ ?_ ?_ ?_ | omega))))
        all_goals first
          | (rw [hsn]; simp; done)
          | (rw [hsn, List.map_append]; rfl)
          | exact hn2
          | (rw [List.length_append, List.length_singleton]; omega)
end Go.Proofs.Ytmejclckkmpggaa
