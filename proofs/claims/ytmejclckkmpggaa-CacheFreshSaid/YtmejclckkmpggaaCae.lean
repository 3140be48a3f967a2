/-
  The cache: Lookup, where the value is found or nothing is kept.
-/
import Derived.Test.YtmejclckkmpggaaCad
namespace Go.Proofs.Ytmejclckkmpggaa
open Go.Abs Go.RowKit
attribute [local irreducible] ARun kont MCall PCall HCall resVal SF CF CFs defersOk slotsIn memIn fin finM VLe
set_option linter.unusedSimpArgs false
set_option maxRecDepth 100000
set_option maxHeartbeats 4000000

theorem lookup1_d : DeferOk Try.prog 46 3 := by
  refine ⟨⟨_, Try.func46, by kernel_rfl, by kernel_rfl⟩, fun vs w hl => ?_⟩
  match vs, hl with
  | [p0, p1, p2], _ =>
    refine callsD_of_wpS Try.func46 rfl fun c₀ cs hu => ?_
    apply wpS_seq
    apply wpS_region
    simp [wpOpsS, go_sem, recoverD, hu, Try.ntmps46, Exit.thenS]
    refine wpS_cond (t := false) (by simp [Act.eval, Array.replicate]) ?_
    simp only [Bool.false_eq_true, if_false]
    refine wpS_of_wp (wp_skip ?_)
    cases c₀
    simp_all [bodyPostS, results, Try.results46]

theorem ins0_h (x : Cach) : HCall Try.prog 53 [.c (.arr 0 0 0), (.c (.d (.lit (.int .i64 0)))), .c (.d (.sl [x.d]))] [.arr 0 46 5 []] (.c (.arr 0 1 1)) [.arr 1 46 5 [x.d]] := by
  refine hcallN hT Try.func53 Try.ntmps53 [.tmp 6] fun B => ?_
  repeat' (first | (with_reducible (first | refine k_seq ?_ | refine k_skip ?_ | refine k_ret ?_ | refine n_seq ?_ | refine r_seq ?_)) | refine s_reg ?_ | refine s_ifT ?_ | refine s_ifF ?_ | refine r_end ?_ | refine s_move ?_ | refine s_assign ?_ | refine s_int ?_ | refine s_lenD ?_ | refine s_lenA ?_ | refine s_appA ?_ | refine s_sliceA ?_ | refine fh_ret1 def_nil ?_ ?_ | exact memIn_nil | refine memIn_same ?_ | exact am_same)

theorem lookFound_c (c : Conf) (s : List Cach) (rows : List Entry) (v : Val) (day : Int) (hs : validC s = true) (hr : bagValid rows = true) (hc : dayOK c.ttl = true) (hd : dayOK day = true) (i : Nat) (e : Cach) (hi : (s.filter (liveE c.ttl day))[i]? = some e) (he : e.val = v.clean) (hbef : ∀ (j : Nat) x, j < i → (s.filter (liveE c.ttl day))[j]? = some x → x.val ≠ v.clean) :
    PCall Try.prog 18 [.agg c.d, .one (cachD s), .one (bagD rows), .agg v.d, .one (.lit (.int .i64 day))] (.tup [.one (cachD (s.filter (liveE c.ttl day))), .one (bagD e.rows), .one (.lit (.int .i64 0))]) := by
  have h1 := cvalid_c s
  have h2 := inDays_c c.ttl
  have h3 := inDays_c day
  have h4 := bagValid_c rows
  have h5 := expire_h c s day hs hc hd
  obtain ⟨hsl, hm⟩ := validC_mem hs
  rw [hs] at h1
  rw [hc] at h2
  rw [hd] at h3
  rw [hr] at h4
  have hle : (s.filter (liveE c.ttl day)).length ≤ s.length := List.length_filter_le ..
  have hme : ∀ x ∈ s.filter (liveE c.ttl day), x ∈ s := fun x hx => (List.mem_filter.1 hx).1
  generalize s.filter (liveE c.ttl day) = l at h5 hi hbef hle hme
  have hle : l.length ≤ 16 := by omega
  refine pcallN hT Try.func18 Try.ntmps18 [.cell 10 37, .cell 11 22, .cell 12 38] fun B => ?_
  repeat' (first | (with_reducible (first | refine k_seq ?_ | refine k_block ?_ | refine k_skip ?_ | refine k_ret ?_ | refine n_seq ?_ | refine n_block ?_ | refine r_seq ?_ | refine r_block ?_ | refine o_ret ?_)) | refine s_reg ?_ | refine s_ifT ?_ | refine s_ifF ?_ | refine r_end ?_ | refine s_endD ?_ | refine s_move ?_ | refine s_int ?_ | refine s_eqA ?_ | refine s_loadB1 ?_ | refine s_loadBA ?_ | refine s_indexA ?_ | refine s_fieldB ?_ | refine s_call (h1) ?_ | refine s_call (h2) ?_ | refine s_call (h3) ?_ | refine s_call (h4) ?_ | refine s_call (clean_c v) ?_ | refine s_callH [] (h5) ?_ | refine s_pick ?_ | refine s_lenA ?_ | refine s_storeB ?_ | refine s_alloc ?_ | refine s_not ?_ | refine s_box ?_ | refine s_funcC ?_ | refine s_defer ?_ | refine f_ret3 (by repeat (first | exact def_nil | refine def_cons lookup1_d ?_)) ?_ ?_ ?_ | refine t_cell (P := Try.prog) ?_ | refine cf_d ?_ | refine cf_arr rfl ?_ ?_)
  refine s_lp (X := Nat) [14, 45, 46, 47, 48, 49, 50, 51, 52, 53, 54, 55, 56, 57] (fun x => x ≤ i) (fun x lz => (45, (.c (.d (.lit (.int .i64 x))))) :: lz) (fun x => [.box 1 (c.d.map .d), .box 2 (v.clean.d.map .d), .box 3 [.arr 8 6 l.length], .box 4 [.emp], .box 5 [.d (.lit (.int .i64 0))], .dead, .dead, .dead, .arr 6 46 5 (l.map Cach.d)]) (fun x => i - x) (0) ?_ ?_ ?_ ?_
  repeat' (first | exact slots_nil | refine w1 ?_ | exact memIn_nil | refine memIn_same ?_ | omega)
  rintro j ck hj
  have hil := lt_of_getElem? hi
  by_cases hji : j < i
  · have hv : l[j]? = some l[j] := List.getElem?_eq_getElem (by omega)
    have hne := hbef j _ hji hv
    generalize l[j] = x at hv hne
    have hv2 : (l.map Cach.d)[j]? = some x.d := by rw [List.getElem?_map, hv]; rfl
    have hls := lits_same x.val v.clean
    have hnf : sameVal x.val v.clean = false := by
      cases h : sameVal x.val v.clean with
      | false => rfl
      | true => exact absurd (sameVal_iff.1 h) hne
    rw [hnf] at hls
    repeat' (first | (with_reducible (first | refine k_seq ?_ | refine k_block ?_ | refine k_skip ?_ | refine k_ret ?_ | refine n_seq ?_ | refine n_block ?_ | refine r_seq ?_ | refine r_block ?_ | refine o_ret ?_)) | refine s_reg ?_ | refine s_ifT ?_ | refine s_ifF ?_ | refine r_end ?_ | refine s_endD ?_ | refine s_move ?_ | refine s_int ?_ | refine s_eqA ?_ | refine s_loadB1 ?_ | refine s_loadBA ?_ | refine s_loadAA ?_ (he' := (by first | exact hv2 | exact rfl)) | refine s_indexA ?_ | refine s_fieldB ?_ | refine s_pick ?_ | refine s_lenA ?_ | refine s_storeB ?_ | refine s_alloc ?_ | refine s_not ?_ | refine s_box ?_ | refine s_funcC ?_ | refine s_defer ?_ | refine f_ret3 (by repeat (first | exact def_nil | refine def_cons lookup1_d ?_)) ?_ ?_ ?_ | refine t_cell (P := Try.prog) ?_ | refine cf_d ?_ | refine cf_arr rfl ?_ ?_)
    all_goals first
      | (exfalso; rw [hls] at hb; cases hb)
      | ((apply s_round (j + 1); all_goals (try dsimp only); all_goals (try (repeat' (first | exact slots_nil | refine w1 ?_ | exact memIn_nil | refine memIn_same ?_ | omega)))))
  · obtain rfl : j = i := by omega
    have hv2 : (l.map Cach.d)[j]? = some e.d := by rw [List.getElem?_map, hi]; rfl
    obtain ⟨hx1, hx2, hx3⟩ := hm _ (hme e (List.mem_of_getElem? hi))
    obtain ⟨r1, r2⟩ := rows_bd hx2
    have hcl := cloneRows_c e.rows r1 r2
    have hls := lits_same e.val v.clean
    have hst : sameVal e.val v.clean = true := sameVal_iff.2 he
    rw [hst] at hls
    repeat' (first | (with_reducible (first | refine k_seq ?_ | refine k_block ?_ | refine k_skip ?_ | refine k_ret ?_ | refine n_seq ?_ | refine n_block ?_ | refine r_seq ?_ | refine r_block ?_ | refine o_ret ?_)) | refine s_reg ?_ | refine s_ifT ?_ | refine s_ifF ?_ | refine r_end ?_ | refine s_endD ?_ | refine s_move ?_ | refine s_int ?_ | refine s_eqA ?_ | refine s_loadB1 ?_ | refine s_loadBA ?_ | refine s_loadAA ?_ (he' := (by first | exact hv2 | exact rfl)) | refine s_indexA ?_ | refine s_fieldB ?_ | refine s_call (hcl) ?_ | refine s_pick ?_ | refine s_lenA ?_ | refine s_storeB ?_ | refine s_alloc ?_ | refine s_not ?_ | refine s_box ?_ | refine s_funcC ?_ | refine s_defer ?_ | refine f_ret3 (by repeat (first | exact def_nil | refine def_cons lookup1_d ?_)) ?_ ?_ ?_ | refine t_cell (P := Try.prog) ?_ | refine cf_d ?_ | refine cf_arr rfl ?_ ?_)
    all_goals first
      | (exfalso; rw [hls] at hb; cases hb)
      | (simp; done)
      | rfl
      | (rw [take_ge (by simp)]; rfl)

theorem lookNew0_c (c : Conf) (s : List Cach) (rows : List Entry) (v : Val) (day : Int) (hs : validC s = true) (hr : bagValid rows = true) (hc : dayOK c.ttl = true) (hd : dayOK day = true) (hf : s.filter (liveE c.ttl day) = []) :
    PCall Try.prog 18 [.agg c.d, .one (cachD s), .one (bagD rows), .agg v.d, .one (.lit (.int .i64 day))] (.tup [.one (cachD [⟨v.clean, selE rows c.col v.clean, day⟩]), .one (bagD (selE rows c.col v.clean)), .one (.lit (.int .i64 0))]) := by
  have h1 := cvalid_c s
  have h2 := inDays_c c.ttl
  have h3 := inDays_c day
  have h4 := bagValid_c rows
  have h5 := expire_h c s day hs hc hd
  rw [hf, List.length_nil, List.map_nil] at h5
  obtain ⟨hsl, hm⟩ := validC_mem hs
  rw [hs] at h1
  rw [hc] at h2
  rw [hd] at h3
  rw [hr] at h4
  obtain ⟨r1, r2⟩ := rows_bd hr
  have h6 := select_c rows c.col v.clean r1 r2
  have hq := sel_len rows c.col v.clean
  have hq2 : ∀ e ∈ selE rows c.col v.clean, e.row.length ≤ 100000 := fun e he => r2 e (List.mem_filter.1 he).1
  have h7 := cloneRows_c (selE rows c.col v.clean) (by omega) hq2
  generalize selE rows c.col v.clean = q at h6 h7 hq hq2
  have h8 := ins0_h ⟨v.clean, q, day⟩
  refine pcallN hT Try.func18 Try.ntmps18 [.cell 10 37, .cell 11 22, .cell 12 38] fun B => ?_
  repeat' (first | (with_reducible (first | refine k_seq ?_ | refine k_block ?_ | refine k_skip ?_ | refine k_exit ?_ | refine k_ret ?_ | refine n_seq ?_ | refine e_seq ?_ | refine e_here ?_ | refine o_exit ?_)) | refine s_reg ?_ | refine s_ifF ?_ | refine r_end ?_ | refine s_endD ?_ | refine s_skipS ?_ | refine s_move ?_ | refine s_assign ?_ | refine s_int ?_ | refine s_loadB1 ?_ | refine s_loadBA ?_ | refine s_fieldB ?_ | refine s_call (h1) ?_ | refine s_call (h2) ?_ | refine s_call (h3) ?_ | refine s_call (h4) ?_ | refine s_call (clean_c v) ?_ | refine s_callH [] (h5) ?_ | refine s_pick ?_ | refine s_lenA ?_ | refine s_storeB ?_ | refine s_bslice ?_ | refine s_alloc ?_ | refine s_not ?_ | refine s_box ?_ | refine s_build ?_ | refine s_funcC ?_ | refine s_defer ?_ | refine f_ret3 (by repeat (first | exact def_nil | refine def_cons lookup1_d ?_)) ?_ ?_ ?_ | refine t_cell (P := Try.prog) ?_ | refine cf_d ?_ | refine cf_arr rfl ?_ ?_)
  refine s_lp (X := Nat) [14, 45, 46, 47, 48, 49, 50, 51, 52, 53, 54, 55, 56, 57] (fun x => x = 0) (fun x lz => (45, (.c (.d (.lit (.int .i64 x))))) :: lz) (fun x => [.box 1 (c.d.map .d), .box 2 (v.clean.d.map .d), .box 3 [.arr 8 6 0], .box 4 [.emp], .box 5 [.d (.lit (.int .i64 0))], .dead, .dead, .dead, .arr 6 46 5 []]) (fun x => 0) (0) ?_ ?_ ?_ ?_
  repeat' (first | exact slots_nil | refine w1 ?_ | exact memIn_nil | refine memIn_same ?_ | omega)
  rintro j ck rfl
  repeat' (first | (with_reducible (first | refine k_seq ?_ | refine k_block ?_ | refine k_skip ?_ | refine k_exit ?_ | refine k_ret ?_ | refine n_seq ?_ | refine e_seq ?_ | refine e_here ?_ | refine o_exit ?_)) | refine s_reg ?_ | refine s_ifF ?_ | refine r_end ?_ | refine s_endD ?_ | refine s_skipS ?_ | refine s_move ?_ | refine s_assign ?_ | refine s_int ?_ | refine s_loadB1 ?_ | refine s_loadBA ?_ | refine s_fieldB ?_ | refine s_pick ?_ | refine s_lenA ?_ | refine s_storeB ?_ | refine s_bslice ?_ | refine s_alloc ?_ | refine s_not ?_ | refine s_box ?_ | refine s_build ?_ | refine s_funcC ?_ | refine s_defer ?_ | refine f_ret3 (by repeat (first | exact def_nil | refine def_cons lookup1_d ?_)) ?_ ?_ ?_ | refine t_cell (P := Try.prog) ?_ | refine cf_d ?_ | refine cf_arr rfl ?_ ?_)
  refine s_lp (X := Nat) [16, 68, 69, 70, 71, 72, 73, 74, 75, 76, 77, 78, 79, 80, 81, 82, 83] (fun x => x = 0) (fun x lz => (16, (.c (.d (.lit (.int .i64 x))))) :: lz) (fun x => [.box 1 (c.d.map .d), .box 2 (v.clean.d.map .d), .box 3 [.arr 8 6 0], .box 4 [.emp], .box 5 [.d (.lit (.int .i64 0))], .dead, .dead, .dead, .arr 6 46 5 []]) (fun x => 0) (0) ?_ ?_ ?_ ?_
  repeat' (first | exact slots_nil | refine w1 ?_ | exact memIn_nil | refine memIn_same ?_ | omega)
  rintro j ck2 rfl
  repeat' (first | refine s_storeSame ?_ | (with_reducible (first | refine k_seq ?_ | refine k_block ?_ | refine k_skip ?_ | refine k_exit ?_ | refine k_ret ?_ | refine n_seq ?_ | refine e_seq ?_ | refine e_here ?_ | refine o_exit ?_)) | refine s_reg ?_ | refine s_ifF ?_ | refine r_end ?_ | refine s_endD ?_ | refine s_skipS ?_ | refine s_move ?_ | refine s_assign ?_ | refine s_int ?_ | refine s_loadB1 ?_ | refine s_loadBA ?_ | refine s_fieldB ?_ | refine s_call (h6) ?_ | refine s_call (h7) ?_ | refine s_callH [8] (h8) ?_ | refine s_pick ?_ | refine s_lenA ?_ | refine s_storeB ?_ | refine s_bslice ?_ | refine s_alloc ?_ | refine s_not ?_ | refine s_box ?_ | refine s_build ?_ | refine s_funcC ?_ | refine s_defer ?_ | refine f_ret3 (by repeat (first | exact def_nil | refine def_cons lookup1_d ?_)) ?_ ?_ ?_ | refine t_cell (P := Try.prog) ?_ | refine cf_d ?_ | refine cf_arr rfl ?_ ?_)
  all_goals first
    | (simp; done)
    | rfl
end Go.Proofs.Ytmejclckkmpggaa
