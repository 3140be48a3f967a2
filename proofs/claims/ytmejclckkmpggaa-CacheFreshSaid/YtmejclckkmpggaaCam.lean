/-
  The cache: Purge, the program's and the document's.
-/
import Derived.Test.YtmejclckkmpggaaCal
namespace Go.Proofs.Ytmejclckkmpggaa
open Go.Abs Go.RowKit
attribute [local irreducible] ARun kont MCall PCall HCall resVal SF CF CFs defersOk slotsIn memIn fin finM VLe
set_option linter.unusedSimpArgs false
set_option maxRecDepth 100000
set_option maxHeartbeats 4000000

theorem purge1_d : DeferOk Try.prog 59 1 := by
  refine ⟨⟨_, Try.func59, by kernel_rfl, by kernel_rfl⟩, fun vs w hl => ?_⟩
  match vs, hl with
  | [p0], _ =>
    refine callsD_of_wpS Try.func59 rfl fun c₀ cs hu => ?_
    apply wpS_seq
    apply wpS_region
    simp [wpOpsS, go_sem, recoverD, hu, Try.ntmps59, Exit.thenS]
    refine wpS_cond (t := false) (by simp [Act.eval, Array.replicate]) ?_
    simp only [Bool.false_eq_true, if_false]
    refine wpS_of_wp (wp_skip ?_)
    cases c₀
    simp_all [bodyPostS, results, Try.results59]

def goneE (acc : List Val) (x : Cach) : Bool := !acc.any (sameVal · x.val)
def purE (s : List Cach) (vs : List Val) : List Cach := if validC s then s.filter (goneE (vs.map Val.clean)) else []

theorem any_mlk (acc : List Val) (u : Val) : MLk (acc.map kvV) (valK u) (.one (.lit (.bool false))) (.one (.lit (.bool (acc.any (sameVal · u))))) := by
  by_cases h : u ∈ acc
  · obtain ⟨j, hj⟩ := List.mem_iff_getElem?.1 h
    exact .inl ⟨j, by rw [List.getElem?_map, hj, any_iff.2 h]; rfl⟩
  · refine .inr ⟨fun e he q => ?_, ?_⟩
    · obtain ⟨a, ha, rfl⟩ := List.mem_map.1 he
      exact h (valK_inj q ▸ ha)
    · rw [← any_iff, Bool.not_eq_true] at h; rw [h]
theorem any_set (L : List Val) (u : Val) : (setV L).any (sameVal · u) = L.any (sameVal · u) := by
  rw [Bool.eq_iff_iff, any_iff, any_iff, (setV_says L).2.1]
theorem gone_set (L : List Val) : goneE (setV L) = goneE L := by
  funext x; unfold goneE; rw [any_set]

theorem gone_h (x : Cach) (acc : List Val) : HCall Try.prog 61 [.agg (x.d.map .d), .c (.bp 0 0 0)] [.box 0 [.mp 1 0], .map 0 24 4 (acc.map kvV) (List.range acc.length) acc.length] (.c (.d (.lit (.bool (goneE acc x))))) [.box 0 [.mp 1 0], .map 0 24 4 (acc.map kvV) (List.range acc.length) acc.length] := by
  have hL := any_mlk acc x.val
  unfold goneE
  refine hcallN hT Try.func61 Try.ntmps61 [.tmp 3] fun B => ?_
  repeat' (first | (with_reducible (first | refine k_seq ?_ | refine k_ret ?_ | refine n_seq ?_)) | refine s_reg ?_ | refine r_end ?_ | refine s_assign ?_ | refine s_loadB1 ?_ | refine s_loadBA ?_ | refine s_fieldB ?_ | refine s_not ?_ | refine s_box ?_ | refine s_look hL (valK_good _) (kvV_good _) ?_ | refine fh_ret1 def_nil ?_ ?_ | exact memIn_nil | refine memIn_same ?_ | exact am_same)

theorem keepP_h (s : List Cach) (acc : List Val) (hs : validC s = true) : HCall Try.prog 60 [.c (.d (cachD s)), .c (.clo 61 [.bp 0 0 0])] [.box 0 [.mp 1 0], .map 0 24 4 (acc.map kvV) (List.range acc.length) acc.length] (.c (.arr 2 1 (s.filter (goneE acc)).length)) [.box 0 [.mp 1 0], .map 0 24 4 (acc.map kvV) (List.range acc.length) acc.length, .arr 1 46 5 ((s.filter (goneE acc)).map Cach.d)] := by
  obtain ⟨hl, hm⟩ := validC_mem hs
  refine hcallN hT Try.func60 Try.ntmps60 [.tmp 4] fun B => ?_
  repeat' (first | (with_reducible (first | refine k_seq ?_ | refine k_block ?_ | refine k_skip ?_ | refine k_exit ?_ | refine k_ret ?_ | refine n_seq ?_ | refine n_block ?_ | refine e_seq ?_ | refine e_here ?_ | refine o_exit ?_)) | refine s_reg ?_ | refine s_ifT ?_ | refine s_ifF ?_ | refine s_if rfl (fun hb => ?_) (fun hb => ?_) | refine r_end ?_ | refine s_endD ?_ | refine s_move ?_ | refine s_assign ?_ | refine s_int ?_ | refine s_loadB1 ?_ | refine s_loadFA ?_ | refine s_loadBA ?_ | refine s_indexD ?_ (hel := (by first | exact rfl)) | refine s_fieldB ?_ | refine s_lenD ?_ | refine s_appA ?_ | refine s_storeB ?_ | refine s_bslice ?_ | refine s_alloc ?_ | refine s_build ?_ | refine fh_ret1 def_nil ?_ ?_ | exact memIn_nil | refine memIn_same ?_ | refine m1 ?_ ?_ | exact am_same)
  refine s_own 5 46 5 ?_
  refine s_lp (X := Nat × Nat) [5, 7, 10, 11, 12, 13, 14, 15, 16, 17, 18, 19, 20, 21, 22, 23, 24, 25, 26, 27, 28] (fun x => x.1 ≤ s.length) (fun x lz => (10, (.c (.d (.lit (.int .i64 x.1))))) :: (5, .c (.arr 2 x.2 ((s.take x.1).filter (goneE acc)).length)) :: lz) (fun x => [.box 0 [.mp 1 0], .map 0 24 4 (acc.map kvV) (List.range acc.length) acc.length, .arr x.2 46 5 (((s.take x.1).filter (goneE acc)).map Cach.d)]) (fun x => s.length - x.1) ((0, 1)) ?_ ?_ ?_ ?_
  repeat' (first | exact slots_nil | refine w1 ?_ | refine w5 ?_ ?_ | exact memIn_nil | refine memIn_same ?_ | refine m1 ?_ ?_ | omega)
  rintro ⟨i, k⟩ ck hi
  dsimp only at hi ⊢
  have hsl := filter_take_len (goneE acc) s i
  by_cases hlt : i < s.length
  · have hv : s[i]? = some s[i] := List.getElem?_eq_getElem hlt
    obtain ⟨hx1, hx2, hx3⟩ := hm _ (List.getElem_mem hlt)
    generalize s[i] = e at hv hx1 hx2 hx3
    obtain ⟨r1, r2⟩ := rows_bd hx2
    have hcl := cloneRows_c e.rows r1 r2
    have hsn := filter_snoc (goneE acc) hv
    have hlv := gone_h e acc
    repeat' (first | (with_reducible (first | refine k_seq ?_ | refine k_block ?_ | refine k_skip ?_ | refine k_exit ?_ | refine k_ret ?_ | refine n_seq ?_ | refine n_block ?_ | refine e_seq ?_ | refine e_here ?_ | refine o_exit ?_)) | refine s_reg ?_ | refine s_ifT ?_ | refine s_ifF ?_ | refine s_if rfl (fun hb => ?_) (fun hb => ?_) | refine r_end ?_ | refine s_endD ?_ | refine s_move ?_ | refine s_assign ?_ | refine s_int ?_ | refine s_loadB1 ?_ | refine s_loadFA ?_ | refine s_loadBA ?_ | refine s_indexD ?_ (hel := (by first | exact idx_map hv (by omega) | exact hv | exact rfl)) | refine s_fieldB ?_ | refine s_call (hcl) ?_ | refine s_callH [0, 1] (hlv) ?_ | refine s_lenD ?_ | refine s_appA ?_ | refine s_storeB ?_ | refine s_bslice ?_ | refine s_alloc ?_ | refine s_build ?_ | refine fh_ret1 def_nil ?_ ?_ | exact memIn_nil | refine memIn_same ?_ | refine m1 ?_ ?_ | exact am_same)
    · rw [if_pos hb] at hsn
      (apply s_round ((i + 1, _)); all_goals (try dsimp only); all_goals (try (repeat' (first | exact slots_nil | refine w1 ?_ | refine w5 ?_ ?_ | exact memIn_nil | refine memIn_same ?_ | refine m1 ?_ ?_ | omega))))
      all_goals first
        | (rw [hsn]; simp; done)
        | (rw [hsn, List.map_append]; rfl)
    · rw [if_neg (by simp [hb]), List.append_nil] at hsn
      (apply s_round ((i + 1, _)); all_goals (try dsimp only); all_goals (try (repeat' (first | exact slots_nil | refine w1 ?_ | refine w5 ?_ ?_ | exact memIn_nil | refine memIn_same ?_ | refine m1 ?_ ?_ | omega))))
      all_goals (rw [hsn])
  · rw [take_ge (by omega)]
    repeat' (first | (with_reducible (first | refine k_seq ?_ | refine k_block ?_ | refine k_skip ?_ | refine k_exit ?_ | refine k_ret ?_ | refine n_seq ?_ | refine n_block ?_ | refine e_seq ?_ | refine e_here ?_ | refine o_exit ?_)) | refine s_reg ?_ | refine s_ifT ?_ | refine s_ifF ?_ | refine s_if rfl (fun hb => ?_) (fun hb => ?_) | refine r_end ?_ | refine s_endD ?_ | refine s_move ?_ | refine s_assign ?_ | refine s_int ?_ | refine s_loadB1 ?_ | refine s_loadFA ?_ | refine s_loadBA ?_ | refine s_indexD ?_ (hel := (by first | exact rfl)) | refine s_fieldB ?_ | refine s_lenD ?_ | refine s_appA ?_ | refine s_storeB ?_ | refine s_bslice ?_ | refine s_alloc ?_ | refine s_build ?_ | refine fh_ret1 def_nil ?_ ?_ | exact memIn_nil | refine memIn_same ?_ | refine m1 ?_ ?_ | exact am_same)

theorem purge_c (s : List Cach) (vs : List Val) (hvl : vs.length ≤ 10000) : PCall Try.prog 24 [.one (cachD s), .one (rowD vs)] (.v (.one (cachD (purE s vs)))) := by
  have h1 := cvalid_c s
  by_cases h : validC s = true
  · have he : purE s vs = s.filter (goneE (vs.map Val.clean)) := by unfold purE; rw [if_pos h]
    rw [he]
    have hkp := keepP_h s (setV (vs.map Val.clean)) h
    rw [gone_set] at hkp
    rw [h] at h1
    have hsl := (validC_mem h).1
    have hLi : ∀ (i : Nat) u, vs[i]? = some u → (vs.map Val.clean)[i]? = some u.clean := fun i u hu => by rw [List.getElem?_map, hu]; rfl
    have hLl : (vs.map Val.clean).length = vs.length := by simp
    generalize vs.map Val.clean = L at hkp hLi hLl ⊢
    have hfl : (s.filter (goneE L)).length ≤ s.length := List.length_filter_le ..
    refine pcallN hT Try.func24 Try.ntmps24 [.cell 4 37] fun B => ?_
    repeat' (first | (with_reducible (first | refine k_seq ?_ | refine k_block ?_ | refine k_skip ?_ | refine k_exit ?_ | refine k_ret ?_ | refine n_seq ?_ | refine n_block ?_ | refine e_seq ?_ | refine e_here ?_ | refine r_seq ?_ | refine o_exit ?_)) | refine s_reg ?_ | refine s_ifT ?_ | refine s_ifF ?_ | refine r_end ?_ | refine s_endD ?_ | refine s_move ?_ | refine s_int ?_ | refine s_mkMap ?_ | refine s_loadB1 ?_ | refine s_loadFA ?_ | refine s_loadBA ?_ | refine s_indexD ?_ (hel := (by first | exact rfl)) | refine s_call (h1) ?_ | refine s_lenD ?_ | refine s_storeB ?_ | refine s_alloc ?_ | refine s_not ?_ | refine s_funcC ?_ | refine s_defer ?_ | refine f_ret1 (by repeat (first | exact def_nil | refine def_cons purge1_d ?_)) ?_ | refine t_cell (P := Try.prog) ?_ | refine cf_emp ?_ | refine cf_arr rfl ?_ ?_)
    refine s_lp (X := Nat) [7, 17, 18, 19, 20, 21, 22, 23, 24] (fun x => x ≤ vs.length) (fun x lz => (17, (.c (.d (.lit (.int .i64 x))))) :: lz) (fun x => [.box 1 [.emp], .map 2 24 4 ((setV (L.take x)).map kvV) (List.range (setV (L.take x)).length) (setV (L.take x)).length, .box 3 [.mp 1 2]]) (fun x => vs.length - x) (0) ?_ ?_ ?_ ?_
    repeat' (first | exact slots_nil | refine w1 ?_ | exact memIn_nil | refine memIn_same ?_ | refine m3 ?_ ?_ ?_ ?_ | omega)
    rintro i c hi
    by_cases hlt : i < vs.length
    · have hv : vs[i]? = some vs[i] := List.getElem?_eq_getElem hlt
      generalize vs[i] = w at hv
      have hsn := setV_snoc (hLi i w hv)
      have hcc := clean_c w
      generalize w.clean = u at hsn hcc
      generalize setV (L.take i) = acc at hsn
      by_cases hex : u ∈ acc
      · obtain ⟨j, hj⟩ := List.mem_iff_getElem?.1 hex
        have hj' : (acc.map kvV)[j]? = some (valK u, .one (.lit (.bool true))) := by rw [List.getElem?_map, hj]; rfl
        have hset := set_same hj'
        rw [addV, if_pos (any_iff.2 hex)] at hsn
        repeat' (first | (with_reducible (first | refine k_seq ?_ | refine k_block ?_ | refine k_skip ?_ | refine k_exit ?_ | refine k_ret ?_ | refine n_seq ?_ | refine n_block ?_ | refine e_seq ?_ | refine e_here ?_ | refine r_seq ?_ | refine o_exit ?_)) | refine s_reg ?_ | refine s_ifT ?_ | refine s_ifF ?_ | refine r_end ?_ | refine s_endD ?_ | refine s_move ?_ | refine s_int ?_ | refine s_mkMap ?_ | refine s_loadB1 ?_ | refine s_loadFA ?_ | refine s_loadBA ?_ | refine s_indexD ?_ (hel := (by first | exact idx_map hv (by omega) | exact hv | exact rfl)) | refine s_call (hcc) ?_ | refine s_lenD ?_ | refine s_storeB ?_ | refine s_alloc ?_ | refine s_not ?_ | refine s_funcC ?_ | refine s_defer ?_ | refine s_mapOld hj' (valK_good u) (kvV_good _) ?_ (hes := hset) | refine f_ret1 (by repeat (first | exact def_nil | refine def_cons purge1_d ?_)) ?_ | refine t_cell (P := Try.prog) ?_ | refine cf_emp ?_ | refine cf_arr rfl ?_ ?_)
        (apply s_round (i + 1); all_goals (try dsimp only); all_goals (try (repeat' (first | exact slots_nil | refine w1 ?_ | exact memIn_nil | refine memIn_same ?_ | refine m3 ?_ ?_ ?_ ?_ | omega))))
        all_goals (rw [hsn])
      · have hno : ∀ x ∈ acc.map kvV, x.1 ≠ valK u := fun x hx h => by
          obtain ⟨a, ha, rfl⟩ := List.mem_map.1 hx
          exact hex (valK_inj h ▸ ha)
        rw [addV, if_neg (by rw [any_iff]; exact hex)] at hsn
        repeat' (first | (with_reducible (first | refine k_seq ?_ | refine k_block ?_ | refine k_skip ?_ | refine k_exit ?_ | refine k_ret ?_ | refine n_seq ?_ | refine n_block ?_ | refine e_seq ?_ | refine e_here ?_ | refine r_seq ?_ | refine o_exit ?_)) | refine s_reg ?_ | refine s_ifT ?_ | refine s_ifF ?_ | refine r_end ?_ | refine s_endD ?_ | refine s_move ?_ | refine s_int ?_ | refine s_mkMap ?_ | refine s_loadB1 ?_ | refine s_loadFA ?_ | refine s_loadBA ?_ | refine s_indexD ?_ (hel := (by first | exact idx_map hv (by omega) | exact hv | exact rfl)) | refine s_call (hcc) ?_ | refine s_lenD ?_ | refine s_storeB ?_ | refine s_alloc ?_ | refine s_not ?_ | refine s_funcC ?_ | refine s_defer ?_ | refine s_mapNew hno (valK_good u) (kvV_good _) ?_ | refine f_ret1 (by repeat (first | exact def_nil | refine def_cons purge1_d ?_)) ?_ | refine t_cell (P := Try.prog) ?_ | refine cf_emp ?_ | refine cf_arr rfl ?_ ?_)
        (apply s_round (i + 1); all_goals (try dsimp only); all_goals (try (repeat' (first | exact slots_nil | refine w1 ?_ | exact memIn_nil | refine memIn_same ?_ | refine m3 ?_ ?_ ?_ ?_ | omega))))
        · rw [hsn, List.map_append]; rfl
        · rw [hsn, List.length_append, List.length_singleton, List.range_succ]
        · rw [hsn]; simp
    · rw [take_ge (show L.length ≤ i by omega)]
      repeat' (first | (with_reducible (first | refine k_seq ?_ | refine k_block ?_ | refine k_skip ?_ | refine k_exit ?_ | refine k_ret ?_ | refine n_seq ?_ | refine n_block ?_ | refine e_seq ?_ | refine e_here ?_ | refine r_seq ?_ | refine o_exit ?_)) | refine s_reg ?_ | refine s_ifT ?_ | refine s_ifF ?_ | refine r_end ?_ | refine s_endD ?_ | refine s_move ?_ | refine s_int ?_ | refine s_mkMap ?_ | refine s_loadB1 ?_ | refine s_loadFA ?_ | refine s_loadBA ?_ | refine s_indexD ?_ (hel := (by first | exact rfl)) | refine s_callH [2, 1] (hkp) ?_ | refine s_lenD ?_ | refine s_storeB ?_ | refine s_alloc ?_ | refine s_not ?_ | refine s_funcC ?_ | refine s_defer ?_ | refine f_ret1 (by repeat (first | exact def_nil | refine def_cons purge1_d ?_)) ?_ | refine t_cell (P := Try.prog) ?_ | refine cf_emp ?_ | refine cf_arr rfl ?_ ?_)
      all_goals first
        | (simp; done)
        | (rw [take_ge (by simp)]; rfl)
        | rfl
  · have he : purE s vs = [] := by unfold purE; rw [if_neg h]
    rw [he]
    rw [Bool.not_eq_true] at h
    rw [h] at h1
    refine pcallN hT Try.func24 Try.ntmps24 [.cell 4 37] fun B => ?_
    repeat' (first | (with_reducible (first | refine k_seq ?_ | refine k_block ?_ | refine k_skip ?_ | refine k_exit ?_ | refine k_ret ?_ | refine n_seq ?_ | refine n_block ?_ | refine e_seq ?_ | refine e_here ?_ | refine r_seq ?_ | refine o_exit ?_)) | refine s_reg ?_ | refine s_ifT ?_ | refine s_ifF ?_ | refine r_end ?_ | refine s_endD ?_ | refine s_move ?_ | refine s_int ?_ | refine s_mkMap ?_ | refine s_loadB1 ?_ | refine s_loadFA ?_ | refine s_loadBA ?_ | refine s_indexD ?_ (hel := (by first | exact rfl)) | refine s_call (h1) ?_ | refine s_lenD ?_ | refine s_storeB ?_ | refine s_alloc ?_ | refine s_not ?_ | refine s_funcC ?_ | refine s_defer ?_ | refine f_ret1 (by repeat (first | exact def_nil | refine def_cons purge1_d ?_)) ?_ | refine t_cell (P := Try.prog) ?_ | refine cf_emp ?_ | refine cf_arr rfl ?_ ?_)
    all_goals rfl

end Go.Proofs.Ytmejclckkmpggaa
