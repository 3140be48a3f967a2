/-
  The cache: the oldest entry; Lookup, where the value is not found.
-/
import Derived.Test.YtmejclckkmpggaaCah
import Derived.Test.YtmejclckkmpggaaCai
namespace Go.Proofs.Ytmejclckkmpggaa
open Go.Abs Go.RowKit
attribute [local irreducible] ARun kont MCall PCall HCall resVal SF CF CFs defersOk slotsIn memIn fin finM VLe
set_option linter.unusedSimpArgs false
set_option maxRecDepth 100000
set_option maxHeartbeats 4000000

theorem oldest_c (s : List Cach) (hs : s.length ≤ 1000) : PCall Try.prog 50 [.one (cachD s)] (.v (.one (.lit (.int .i64 (oldE s))))) := by
  unfold oldE
  refine pcallN hT Try.func50 Try.ntmps50 [.tmp 2] fun B => ?_
  repeat' (first | (with_reducible (first | refine k_seq ?_ | refine k_block ?_ | refine k_skip ?_ | refine k_exit ?_ | refine k_ret ?_ | refine n_seq ?_ | refine n_block ?_ | refine e_seq ?_ | refine e_here ?_ | refine o_exit ?_)) | refine s_reg ?_ | refine s_ifT ?_ | refine s_ifF ?_ | refine s_if rfl (fun hb => ?_) (fun hb => ?_) | refine r_end ?_ | refine s_endD ?_ | refine s_move ?_ | refine s_assign ?_ | refine s_int ?_ | refine s_loadF1 ?_ | refine s_loadB1 ?_ | refine s_loadFA ?_ | refine s_indexD ?_ (hel := (by first | exact rfl)) | refine s_fieldF ?_ | refine s_fieldB ?_ | refine s_lenD ?_ | refine s_storeB ?_ | refine s_alloc ?_ | refine f_ret1 def_nil ?_ | refine t_tmp ?_)
  refine s_lp (X := Nat × Nat) [3, 4, 5, 8, 9, 10, 11, 12, 13, 14, 15, 16, 17, 18, 19, 20, 21, 22] (fun x => x.1 ≤ s.length ∧ x.2 = oldK s x.1) (fun x lz => (8, (.c (.d (.lit (.int .i64 x.1))))) :: (3, (.c (.d (.lit (.int .i64 x.2))))) :: lz) (fun x => []) (fun x => s.length - x.1) ((0, 0)) ?_ ?_ ?_ ?_
  repeat' (first | exact slots_nil | refine w1 ?_ | exact memIn_nil | omega)
  · exact ⟨by simp, rfl⟩
  rintro ⟨j, o⟩ ck ⟨hj, ho⟩
  dsimp only at hj ho ⊢
  by_cases hjl : j < s.length
  · have hv : s[j]? = some s[j] := List.getElem?_eq_getElem hjl
    have hol : o < s.length := by rw [ho]; exact oldK_lt s j (by omega)
    have hw : s[o]? = some s[o] := List.getElem?_eq_getElem hol
    generalize s[j] = x at hv
    generalize s[o] = y at hw
    have hv2 : (s.map Cach.d)[j]? = some x.d := by rw [List.getElem?_map, hv]; rfl
    have hw2 : (s.map Cach.d)[o]? = some y.d := by rw [List.getElem?_map, hw]; rfl
    have hst := oldK_step hv (ho ▸ hw)
    rw [← ho] at hst
    repeat' (first | (with_reducible (first | refine k_seq ?_ | refine k_block ?_ | refine k_skip ?_ | refine k_exit ?_ | refine k_ret ?_ | refine n_seq ?_ | refine n_block ?_ | refine e_seq ?_ | refine e_here ?_ | refine o_exit ?_)) | refine s_reg ?_ | refine s_ifT ?_ | refine s_ifF ?_ | refine s_if rfl (fun hb => ?_) (fun hb => ?_) | refine r_end ?_ | refine s_endD ?_ | refine s_move ?_ | refine s_assign ?_ | refine s_int ?_ | refine s_loadF1 ?_ | refine s_loadB1 ?_ | refine s_loadFA ?_ | refine s_indexD ?_ (hel := (by first | exact idx_map hv2 (by omega) | exact idx_map hw2 (by omega) | exact hv2 | exact hw2 | exact rfl)) | refine s_fieldF ?_ | refine s_fieldB ?_ | refine s_lenD ?_ | refine s_storeB ?_ | refine s_alloc ?_ | refine f_ret1 def_nil ?_ | refine t_tmp ?_)
    · rw [if_pos (by simpa using hb)] at hst
      (apply s_round ((j + 1, j)); all_goals (try dsimp only); all_goals (try (repeat' (first | exact slots_nil | refine w1 ?_ | exact memIn_nil | omega))))
    · rw [if_neg (by simpa using hb)] at hst
      (apply s_round ((j + 1, o)); all_goals (try dsimp only); all_goals (try (repeat' (first | exact slots_nil | refine w1 ?_ | exact memIn_nil | omega))))
  · obtain rfl : j = s.length := by omega
    rw [← ho]
    repeat' (first | (with_reducible (first | refine k_seq ?_ | refine k_block ?_ | refine k_skip ?_ | refine k_exit ?_ | refine k_ret ?_ | refine n_seq ?_ | refine n_block ?_ | refine e_seq ?_ | refine e_here ?_ | refine o_exit ?_)) | refine s_reg ?_ | refine s_ifT ?_ | refine s_ifF ?_ | refine s_if rfl (fun hb => ?_) (fun hb => ?_) | refine r_end ?_ | refine s_endD ?_ | refine s_move ?_ | refine s_assign ?_ | refine s_int ?_ | refine s_loadF1 ?_ | refine s_loadB1 ?_ | refine s_loadFA ?_ | refine s_indexD ?_ (hel := (by first | exact rfl)) | refine s_fieldF ?_ | refine s_fieldB ?_ | refine s_lenD ?_ | refine s_storeB ?_ | refine s_alloc ?_ | refine f_ret1 def_nil ?_ | refine t_tmp ?_)
    all_goals rfl

theorem lookRoom_c (c : Conf) (s : List Cach) (rows : List Entry) (v : Val) (day : Int) (hs : validC s = true) (hr : bagValid rows = true) (hc : dayOK c.ttl = true) (hd : dayOK day = true) (hf : ∀ x ∈ s.filter (liveE c.ttl day), x.val ≠ v.clean) (hfl : (s.filter (liveE c.ttl day)).length < 16) :
    PCall Try.prog 18 [.agg c.d, .one (cachD s), .one (bagD rows), .agg v.d, .one (.lit (.int .i64 day))] (.tup [.one (cachD (insE (roomE (s.filter (liveE c.ttl day))) ⟨v.clean, selE rows c.col v.clean, day⟩)), .one (bagD (selE rows c.col v.clean)), .one (.lit (.int .i64 0))]) := by
  have h1 := cvalid_c s
  have h2 := inDays_c c.ttl
  have h3 := inDays_c day
  have h4 := bagValid_c rows
  have h5 := expire_h c s day hs hc hd
  obtain ⟨hsl, hm⟩ := validC_mem hs
  rw [hs] at h1
  rw [hc] at h2
  rw [hd] at h3
  rw [hr] at h4
  obtain ⟨r1, r2⟩ := rows_bd hr
  have h6 := select_c rows c.col v.clean r1 r2
  have hq := sel_len rows c.col v.clean
  have hq2 : ∀ e ∈ selE rows c.col v.clean, e.row.length ≤ 100000 := fun e he => r2 e (List.mem_filter.1 he).1
  have h7 := cloneRows_c (selE rows c.col v.clean) (by omega) hq2
  generalize selE rows c.col v.clean = q at h6 h7 hq hq2 ⊢
  have hle : (s.filter (liveE c.ttl day)).length ≤ s.length := List.length_filter_le ..
  generalize s.filter (liveE c.ttl day) = l at h5 hf hfl hle ⊢
  have hle : l.length ≤ 16 := by omega
  rw [roomE, if_neg (by omega)]
  have h8 := ins_h l (placeE l v.clean) (place_le _ _) (by omega) ⟨v.clean, q, day⟩
  have hpb : ∀ j, j < placeE l v.clean → ∀ x, l[j]? = some x → x.val.cmp v.clean < 0 := fun j hj x hx => place_before hj hx
  have hpa : ∀ x, l[placeE l v.clean]? = some x → ¬ x.val.cmp v.clean < 0 := fun x hx => place_at hx
  have hpl := place_le l v.clean
  unfold insE
  dsimp only
  generalize placeE l v.clean = p at h8 hpb hpa hpl ⊢

  refine pcallN hT Try.func18 Try.ntmps18 [.cell 10 37, .cell 11 22, .cell 12 38] fun B => ?_
  repeat' (first | (with_reducible (first | refine k_seq ?_ | refine k_block ?_ | refine k_skip ?_ | refine k_exit ?_ | refine k_ret ?_ | refine n_seq ?_ | refine n_block ?_ | refine e_seq ?_ | refine e_here ?_ | refine o_exit ?_)) | refine s_reg ?_ | refine s_ifT ?_ | refine s_ifF ?_ | refine r_end ?_ | refine s_endD ?_ | refine s_skipS ?_ | refine s_move ?_ | refine s_assign ?_ | refine s_int ?_ | refine s_eqA ?_ | refine s_loadB1 ?_ | refine s_loadBA ?_ | refine s_indexA ?_ | refine s_fieldB ?_ | refine s_fieldA ?_ | refine s_call (h1) ?_ | refine s_call (h2) ?_ | refine s_call (h3) ?_ | refine s_call (h4) ?_ | refine s_call (clean_c v) ?_ | refine s_callH [] (h5) ?_ | refine s_pick ?_ | refine s_lenA ?_ | refine s_storeB ?_ | refine s_bslice ?_ | refine s_alloc ?_ | refine s_not ?_ | refine s_box ?_ | refine s_build ?_ | refine s_funcC ?_ | refine s_defer ?_ | refine s_kT ?_ | refine s_kF ?_ | refine f_ret3 (by repeat (first | exact def_nil | refine def_cons lookup1_d ?_)) ?_ ?_ ?_ | refine t_cell (P := Try.prog) ?_ | refine cf_d ?_ | refine cf_arr rfl ?_ ?_)
  refine s_lp (X := Nat) [14, 45, 46, 47, 48, 49, 50, 51, 52, 53, 54, 55, 56, 57] (fun x => x ≤ l.length) (fun x lz => (45, (.c (.d (.lit (.int .i64 x))))) :: lz) (fun x => [.box 1 (c.d.map .d), .box 2 (v.clean.d.map .d), .box 3 [.arr 8 6 l.length], .box 4 [.emp], .box 5 [.d (.lit (.int .i64 0))], .dead, .dead, .dead, .arr 6 46 5 (l.map Cach.d)]) (fun x => l.length - x) (0) ?_ ?_ ?_ ?_
  repeat' (first | exact slots_nil | refine w1 ?_ | exact memIn_nil | refine memIn_same ?_ | omega)
  rintro j ck hj
  by_cases hji : j < l.length
  · have hv : l[j]? = some l[j] := List.getElem?_eq_getElem hji
    have hne := hf _ (List.getElem_mem hji)
    generalize l[j] = x at hv hne
    have hv2 : (l.map Cach.d)[j]? = some x.d := by rw [List.getElem?_map, hv]; rfl
    have hls := lits_same x.val v.clean
    have hnf : sameVal x.val v.clean = false := by
      cases h : sameVal x.val v.clean with
      | false => rfl
      | true => exact absurd (sameVal_iff.1 h) hne
    rw [hnf] at hls
    repeat' (first | (with_reducible (first | refine k_seq ?_ | refine k_block ?_ | refine k_skip ?_ | refine k_exit ?_ | refine k_ret ?_ | refine n_seq ?_ | refine n_block ?_ | refine e_seq ?_ | refine e_here ?_ | refine o_exit ?_)) | refine s_reg ?_ | refine s_ifT ?_ | refine s_ifF ?_ | refine r_end ?_ | refine s_endD ?_ | refine s_skipS ?_ | refine s_move ?_ | refine s_assign ?_ | refine s_int ?_ | refine s_eqA ?_ | refine s_loadB1 ?_ | refine s_loadBA ?_ | refine s_loadAA ?_ (he' := (by first | exact hv2 | exact rfl)) | refine s_indexA ?_ | refine s_fieldB ?_ | refine s_fieldA ?_ | refine s_pick ?_ | refine s_lenA ?_ | refine s_storeB ?_ | refine s_bslice ?_ | refine s_alloc ?_ | refine s_not ?_ | refine s_box ?_ | refine s_build ?_ | refine s_funcC ?_ | refine s_defer ?_ | refine s_kT ?_ | refine s_kF ?_ | refine f_ret3 (by repeat (first | exact def_nil | refine def_cons lookup1_d ?_)) ?_ ?_ ?_ | refine t_cell (P := Try.prog) ?_ | refine cf_d ?_ | refine cf_arr rfl ?_ ?_)
    all_goals first
      | (exfalso; rw [hls] at hb; cases hb)
      | ((apply s_round (j + 1); all_goals (try dsimp only); all_goals (try (repeat' (first | exact slots_nil | refine w1 ?_ | exact memIn_nil | refine memIn_same ?_ | omega)))))
  · repeat' (first | (with_reducible (first | refine k_seq ?_ | refine k_block ?_ | refine k_skip ?_ | refine k_exit ?_ | refine k_ret ?_ | refine n_seq ?_ | refine n_block ?_ | refine e_seq ?_ | refine e_here ?_ | refine o_exit ?_)) | refine s_reg ?_ | refine s_ifT ?_ | refine s_ifF ?_ | refine r_end ?_ | refine s_endD ?_ | refine s_skipS ?_ | refine s_move ?_ | refine s_assign ?_ | refine s_int ?_ | refine s_eqA ?_ | refine s_loadB1 ?_ | refine s_loadBA ?_ | refine s_indexA ?_ | refine s_fieldB ?_ | refine s_fieldA ?_ | refine s_pick ?_ | refine s_lenA ?_ | refine s_storeB ?_ | refine s_bslice ?_ | refine s_alloc ?_ | refine s_not ?_ | refine s_box ?_ | refine s_build ?_ | refine s_funcC ?_ | refine s_defer ?_ | refine s_kT ?_ | refine s_kF ?_ | refine f_ret3 (by repeat (first | exact def_nil | refine def_cons lookup1_d ?_)) ?_ ?_ ?_ | refine t_cell (P := Try.prog) ?_ | refine cf_d ?_ | refine cf_arr rfl ?_ ?_)
    refine s_lp (X := Nat) [16, 68, 69, 70, 71, 72, 73, 74, 75, 76, 77, 78, 79, 80, 81, 82, 83] (fun x => x ≤ p) (fun x lz => (16, (.c (.d (.lit (.int .i64 x))))) :: lz) (fun x => [.box 1 (c.d.map .d), .box 2 (v.clean.d.map .d), .box 3 [.arr 8 6 l.length], .box 4 [.emp], .box 5 [.d (.lit (.int .i64 0))], .dead, .dead, .dead, .arr 6 46 5 (l.map Cach.d)]) (fun x => p - x) (0) ?_ ?_ ?_ ?_
    repeat' (first | exact slots_nil | refine w1 ?_ | exact memIn_nil | refine memIn_same ?_ | omega)
    rintro j ck2 hj
    by_cases hjp : j < p
    · have hv : l[j]? = some l[j] := List.getElem?_eq_getElem (by omega)
      have hlt := hpb j hjp _ hv
      generalize l[j] = x at hv hlt
      have hv2 : (l.map Cach.d)[j]? = some x.d := by rw [List.getElem?_map, hv]; rfl
      repeat' (first | (with_reducible (first | refine k_seq ?_ | refine k_block ?_ | refine k_skip ?_ | refine k_exit ?_ | refine k_ret ?_ | refine n_seq ?_ | refine n_block ?_ | refine e_seq ?_ | refine e_here ?_ | refine o_exit ?_)) | refine s_reg ?_ | refine s_ifT ?_ | refine s_ifF ?_ | refine r_end ?_ | refine s_endD ?_ | refine s_skipS ?_ | refine s_move ?_ | refine s_assign ?_ | refine s_int ?_ | refine s_eqA ?_ | refine s_loadB1 ?_ | refine s_loadBA ?_ | refine s_loadAA ?_ (he' := (by first | exact hv2 | exact rfl)) | refine s_indexA ?_ | refine s_fieldB ?_ | refine s_fieldA ?_ | refine s_call (compare_c _ _) ?_ | refine s_pick ?_ | refine s_lenA ?_ | refine s_storeB ?_ | refine s_bslice ?_ | refine s_alloc ?_ | refine s_not ?_ | refine s_box ?_ | refine s_build ?_ | refine s_funcC ?_ | refine s_defer ?_ | refine s_kT ?_ | refine s_kF ?_ | refine f_ret3 (by repeat (first | exact def_nil | refine def_cons lookup1_d ?_)) ?_ ?_ ?_ | refine t_cell (P := Try.prog) ?_ | refine cf_d ?_ | refine cf_arr rfl ?_ ?_)
      all_goals first
        | (exfalso; simp at hb; omega)
        | ((apply s_round (j + 1); all_goals (try dsimp only); all_goals (try (repeat' (first | exact slots_nil | refine w1 ?_ | exact memIn_nil | refine memIn_same ?_ | omega)))))
    · obtain rfl : j = p := by omega
      by_cases hjm : j < l.length
      · have hv : l[j]? = some l[j] := List.getElem?_eq_getElem (by omega)
        have hlt := hpa _ hv
        generalize l[j] = x at hv hlt
        have hv2 : (l.map Cach.d)[j]? = some x.d := by rw [List.getElem?_map, hv]; rfl
        repeat' (first | refine s_storeSame ?_ | (with_reducible (first | refine k_seq ?_ | refine k_block ?_ | refine k_skip ?_ | refine k_exit ?_ | refine k_ret ?_ | refine n_seq ?_ | refine n_block ?_ | refine e_seq ?_ | refine e_here ?_ | refine o_exit ?_)) | refine s_reg ?_ | refine s_ifT ?_ | refine s_ifF ?_ | refine r_end ?_ | refine s_endD ?_ | refine s_skipS ?_ | refine s_move ?_ | refine s_assign ?_ | refine s_int ?_ | refine s_eqA ?_ | refine s_loadB1 ?_ | refine s_loadBA ?_ | refine s_loadAA ?_ (he' := (by first | exact hv2 | exact rfl)) | refine s_indexA ?_ | refine s_fieldB ?_ | refine s_fieldA ?_ | refine s_call (compare_c _ _) ?_ | refine s_call (h6) ?_ | refine s_call (h7) ?_ | refine s_callH [8] (h8) ?_ | refine s_pick ?_ | refine s_lenA ?_ | refine s_storeB ?_ | refine s_bslice ?_ | refine s_alloc ?_ | refine s_not ?_ | refine s_box ?_ | refine s_build ?_ | refine s_funcC ?_ | refine s_defer ?_ | refine s_kT ?_ | refine s_kF ?_ | refine f_ret3 (by repeat (first | exact def_nil | refine def_cons lookup1_d ?_)) ?_ ?_ ?_ | refine t_cell (P := Try.prog) ?_ | refine cf_d ?_ | refine cf_arr rfl ?_ ?_)
        all_goals first
          | (exfalso; simp at hb; omega)
          | (simp; done)
          | (simp; omega)
          | (rw [take_ge (by simp; omega)]; rfl)
          | rfl
      · repeat' (first | refine s_storeSame ?_ | (with_reducible (first | refine k_seq ?_ | refine k_block ?_ | refine k_skip ?_ | refine k_exit ?_ | refine k_ret ?_ | refine n_seq ?_ | refine n_block ?_ | refine e_seq ?_ | refine e_here ?_ | refine o_exit ?_)) | refine s_reg ?_ | refine s_ifT ?_ | refine s_ifF ?_ | refine r_end ?_ | refine s_endD ?_ | refine s_skipS ?_ | refine s_move ?_ | refine s_assign ?_ | refine s_int ?_ | refine s_eqA ?_ | refine s_loadB1 ?_ | refine s_loadBA ?_ | refine s_indexA ?_ | refine s_fieldB ?_ | refine s_fieldA ?_ | refine s_call (h6) ?_ | refine s_call (h7) ?_ | refine s_callH [8] (h8) ?_ | refine s_pick ?_ | refine s_lenA ?_ | refine s_storeB ?_ | refine s_bslice ?_ | refine s_alloc ?_ | refine s_not ?_ | refine s_box ?_ | refine s_build ?_ | refine s_funcC ?_ | refine s_defer ?_ | refine s_kT ?_ | refine s_kF ?_ | refine f_ret3 (by repeat (first | exact def_nil | refine def_cons lookup1_d ?_)) ?_ ?_ ?_ | refine t_cell (P := Try.prog) ?_ | refine cf_d ?_ | refine cf_arr rfl ?_ ?_)
        all_goals first
          | (simp; done)
          | (simp; omega)
          | (rw [take_ge (by simp; omega)]; rfl)
          | rfl

theorem lookFull_c (c : Conf) (s : List Cach) (rows : List Entry) (v : Val) (day : Int) (hs : validC s = true) (hr : bagValid rows = true) (hc : dayOK c.ttl = true) (hd : dayOK day = true) (hf : ∀ x ∈ s.filter (liveE c.ttl day), x.val ≠ v.clean) (hfl : 16 ≤ (s.filter (liveE c.ttl day)).length) :
    PCall Try.prog 18 [.agg c.d, .one (cachD s), .one (bagD rows), .agg v.d, .one (.lit (.int .i64 day))] (.tup [.one (cachD (insE (roomE (s.filter (liveE c.ttl day))) ⟨v.clean, selE rows c.col v.clean, day⟩)), .one (bagD (selE rows c.col v.clean)), .one (.lit (.int .i64 0))]) := by
  have h1 := cvalid_c s
  have h2 := inDays_c c.ttl
  have h3 := inDays_c day
  have h4 := bagValid_c rows
  have h5 := expire_h c s day hs hc hd
  obtain ⟨hsl, hm⟩ := validC_mem hs
  rw [hs] at h1
  rw [hc] at h2
  rw [hd] at h3
  rw [hr] at h4
  obtain ⟨r1, r2⟩ := rows_bd hr
  have h6 := select_c rows c.col v.clean r1 r2
  have hq := sel_len rows c.col v.clean
  have hq2 : ∀ e ∈ selE rows c.col v.clean, e.row.length ≤ 100000 := fun e he => r2 e (List.mem_filter.1 he).1
  have h7 := cloneRows_c (selE rows c.col v.clean) (by omega) hq2
  generalize selE rows c.col v.clean = q at h6 h7 hq hq2 ⊢
  have hle : (s.filter (liveE c.ttl day)).length ≤ s.length := List.length_filter_le ..
  generalize s.filter (liveE c.ttl day) = l at h5 hf hfl hle ⊢
  have hle : l.length ≤ 16 := by omega
  obtain ⟨m, hme⟩ : ∃ m, m = roomE l := ⟨_, rfl⟩
  rw [← hme]
  rw [roomE, if_pos hfl] at hme
  have ho : oldE l < l.length := oldK_lt l l.length (by omega)
  have h9 := del_h l (oldE l) ho (by omega)
  have h10 := oldest_c l (by omega)
  have hmn : m.length = l.length - 1 := by rw [hme]; simp; omega
  rw [← hme, ← hmn] at h9
  have hsf : ∀ mem : List Blk, mem[8]? = some (.arr 6 46 5 (l.map Cach.d)) → SFs mem [.c (.arr 8 6 l.length)] [.one (cachD l)] := fun mem hm => sfs_arr hm (by simp) (take_ge (by simp))
  have h8 := ins_h m (placeE m v.clean) (place_le _ _) (by omega) ⟨v.clean, q, day⟩
  have hpb : ∀ j, j < placeE m v.clean → ∀ x, m[j]? = some x → x.val.cmp v.clean < 0 := fun j hj x hx => place_before hj hx
  have hpa : ∀ x, m[placeE m v.clean]? = some x → ¬ x.val.cmp v.clean < 0 := fun x hx => place_at hx
  have hpl := place_le m v.clean
  unfold insE
  dsimp only
  generalize placeE m v.clean = p at h8 hpb hpa hpl ⊢

  refine pcallN hT Try.func18 Try.ntmps18 [.cell 10 37, .cell 11 22, .cell 12 38] fun B => ?_
  repeat' (first | (with_reducible (first | refine k_seq ?_ | refine k_block ?_ | refine k_skip ?_ | refine k_exit ?_ | refine k_ret ?_ | refine n_seq ?_ | refine n_block ?_ | refine e_seq ?_ | refine e_here ?_ | refine o_exit ?_)) | refine s_reg ?_ | refine s_ifT ?_ | refine s_ifF ?_ | refine r_end ?_ | refine s_endD ?_ | refine s_skipS ?_ | refine s_move ?_ | refine s_assign ?_ | refine s_int ?_ | refine s_eqA ?_ | refine s_loadB1 ?_ | refine s_loadBA ?_ | refine s_indexA ?_ | refine s_fieldB ?_ | refine s_fieldA ?_ | refine s_call (h1) ?_ | refine s_call (h2) ?_ | refine s_call (h3) ?_ | refine s_call (h4) ?_ | refine s_call (clean_c v) ?_ | refine s_callH [] (h5) ?_ | refine s_pick ?_ | refine s_lenA ?_ | refine s_storeB ?_ | refine s_bslice ?_ | refine s_alloc ?_ | refine s_not ?_ | refine s_box ?_ | refine s_build ?_ | refine s_funcC ?_ | refine s_defer ?_ | refine s_kT ?_ | refine s_kF ?_ | refine f_ret3 (by repeat (first | exact def_nil | refine def_cons lookup1_d ?_)) ?_ ?_ ?_ | refine t_cell (P := Try.prog) ?_ | refine cf_d ?_ | refine cf_arr rfl ?_ ?_)
  refine s_lp (X := Nat) [14, 45, 46, 47, 48, 49, 50, 51, 52, 53, 54, 55, 56, 57] (fun x => x ≤ l.length) (fun x lz => (45, (.c (.d (.lit (.int .i64 x))))) :: lz) (fun x => [.box 1 (c.d.map .d), .box 2 (v.clean.d.map .d), .box 3 [.arr 8 6 l.length], .box 4 [.emp], .box 5 [.d (.lit (.int .i64 0))], .dead, .dead, .dead, .arr 6 46 5 (l.map Cach.d)]) (fun x => l.length - x) (0) ?_ ?_ ?_ ?_
  repeat' (first | exact slots_nil | refine w1 ?_ | exact memIn_nil | refine memIn_same ?_ | omega)
  rintro j ck hj
  by_cases hji : j < l.length
  · have hv : l[j]? = some l[j] := List.getElem?_eq_getElem hji
    have hne := hf _ (List.getElem_mem hji)
    generalize l[j] = x at hv hne
    have hv2 : (l.map Cach.d)[j]? = some x.d := by rw [List.getElem?_map, hv]; rfl
    have hls := lits_same x.val v.clean
    have hnf : sameVal x.val v.clean = false := by
      cases h : sameVal x.val v.clean with
      | false => rfl
      | true => exact absurd (sameVal_iff.1 h) hne
    rw [hnf] at hls
    repeat' (first | (with_reducible (first | refine k_seq ?_ | refine k_block ?_ | refine k_skip ?_ | refine k_exit ?_ | refine k_ret ?_ | refine n_seq ?_ | refine n_block ?_ | refine e_seq ?_ | refine e_here ?_ | refine o_exit ?_)) | refine s_reg ?_ | refine s_ifT ?_ | refine s_ifF ?_ | refine r_end ?_ | refine s_endD ?_ | refine s_skipS ?_ | refine s_move ?_ | refine s_assign ?_ | refine s_int ?_ | refine s_eqA ?_ | refine s_loadB1 ?_ | refine s_loadBA ?_ | refine s_loadAA ?_ (he' := (by first | exact hv2 | exact rfl)) | refine s_indexA ?_ | refine s_fieldB ?_ | refine s_fieldA ?_ | refine s_pick ?_ | refine s_lenA ?_ | refine s_storeB ?_ | refine s_bslice ?_ | refine s_alloc ?_ | refine s_not ?_ | refine s_box ?_ | refine s_build ?_ | refine s_funcC ?_ | refine s_defer ?_ | refine s_kT ?_ | refine s_kF ?_ | refine f_ret3 (by repeat (first | exact def_nil | refine def_cons lookup1_d ?_)) ?_ ?_ ?_ | refine t_cell (P := Try.prog) ?_ | refine cf_d ?_ | refine cf_arr rfl ?_ ?_)
    all_goals first
      | (exfalso; rw [hls] at hb; cases hb)
      | ((apply s_round (j + 1); all_goals (try dsimp only); all_goals (try (repeat' (first | exact slots_nil | refine w1 ?_ | exact memIn_nil | refine memIn_same ?_ | omega)))))
  · repeat' (first | (with_reducible (first | refine k_seq ?_ | refine k_block ?_ | refine k_skip ?_ | refine k_exit ?_ | refine k_ret ?_ | refine n_seq ?_ | refine n_block ?_ | refine e_seq ?_ | refine e_here ?_ | refine o_exit ?_)) | refine s_reg ?_ | refine s_ifT ?_ | refine s_ifF ?_ | refine r_end ?_ | refine s_endD ?_ | refine s_skipS ?_ | refine s_move ?_ | refine s_assign ?_ | refine s_int ?_ | refine s_eqA ?_ | refine s_loadB1 ?_ | refine s_loadBA ?_ | refine s_indexA ?_ | refine s_fieldB ?_ | refine s_fieldA ?_ | refine s_callH [8] (h9) ?_ | refine s_pick ?_ | refine s_lenA ?_ | refine s_storeB ?_ | refine s_bslice ?_ | refine s_alloc ?_ | refine s_not ?_ | refine s_box ?_ | refine s_build ?_ | refine s_funcC ?_ | refine s_defer ?_ | refine s_callB h10 (hsf _ rfl) ?_ | refine s_kT ?_ | refine s_kF ?_ | refine f_ret3 (by repeat (first | exact def_nil | refine def_cons lookup1_d ?_)) ?_ ?_ ?_ | refine t_cell (P := Try.prog) ?_ | refine cf_d ?_ | refine cf_arr rfl ?_ ?_)
    refine s_lp (X := Nat) [16, 68, 69, 70, 71, 72, 73, 74, 75, 76, 77, 78, 79, 80, 81, 82, 83] (fun x => x ≤ p) (fun x lz => (16, (.c (.d (.lit (.int .i64 x))))) :: lz) (fun x => [.box 1 (c.d.map .d), .box 2 (v.clean.d.map .d), .box 3 [.arr 8 (ck + 1) m.length], .box 4 [.emp], .box 5 [.d (.lit (.int .i64 0))], .dead, .dead, .dead, .arr (ck + 1) 46 5 (m.map Cach.d)]) (fun x => p - x) (0) ?_ ?_ ?_ ?_
    repeat' (first | exact slots_nil | refine w1 ?_ | exact memIn_nil | refine memIn_same ?_ | omega)
    rintro j ck2 hj
    by_cases hjp : j < p
    · have hv : m[j]? = some m[j] := List.getElem?_eq_getElem (by omega)
      have hlt := hpb j hjp _ hv
      generalize m[j] = x at hv hlt
      have hv2 : (m.map Cach.d)[j]? = some x.d := by rw [List.getElem?_map, hv]; rfl
      repeat' (first | (with_reducible (first | refine k_seq ?_ | refine k_block ?_ | refine k_skip ?_ | refine k_exit ?_ | refine k_ret ?_ | refine n_seq ?_ | refine n_block ?_ | refine e_seq ?_ | refine e_here ?_ | refine o_exit ?_)) | refine s_reg ?_ | refine s_ifT ?_ | refine s_ifF ?_ | refine r_end ?_ | refine s_endD ?_ | refine s_skipS ?_ | refine s_move ?_ | refine s_assign ?_ | refine s_int ?_ | refine s_eqA ?_ | refine s_loadB1 ?_ | refine s_loadBA ?_ | refine s_loadAA ?_ (he' := (by first | exact hv2 | exact rfl)) | refine s_indexA ?_ | refine s_fieldB ?_ | refine s_fieldA ?_ | refine s_call (compare_c _ _) ?_ | refine s_pick ?_ | refine s_lenA ?_ | refine s_storeB ?_ | refine s_bslice ?_ | refine s_alloc ?_ | refine s_not ?_ | refine s_box ?_ | refine s_build ?_ | refine s_funcC ?_ | refine s_defer ?_ | refine s_kT ?_ | refine s_kF ?_ | refine f_ret3 (by repeat (first | exact def_nil | refine def_cons lookup1_d ?_)) ?_ ?_ ?_ | refine t_cell (P := Try.prog) ?_ | refine cf_d ?_ | refine cf_arr rfl ?_ ?_)
      all_goals first
        | (exfalso; simp at hb; omega)
        | ((apply s_round (j + 1); all_goals (try dsimp only); all_goals (try (repeat' (first | exact slots_nil | refine w1 ?_ | exact memIn_nil | refine memIn_same ?_ | omega)))))
    · obtain rfl : j = p := by omega
      by_cases hjm : j < m.length
      · have hv : m[j]? = some m[j] := List.getElem?_eq_getElem (by omega)
        have hlt := hpa _ hv
        generalize m[j] = x at hv hlt
        have hv2 : (m.map Cach.d)[j]? = some x.d := by rw [List.getElem?_map, hv]; rfl
        repeat' (first | refine s_storeSame ?_ | (with_reducible (first | refine k_seq ?_ | refine k_block ?_ | refine k_skip ?_ | refine k_exit ?_ | refine k_ret ?_ | refine n_seq ?_ | refine n_block ?_ | refine e_seq ?_ | refine e_here ?_ | refine o_exit ?_)) | refine s_reg ?_ | refine s_ifT ?_ | refine s_ifF ?_ | refine r_end ?_ | refine s_endD ?_ | refine s_skipS ?_ | refine s_move ?_ | refine s_assign ?_ | refine s_int ?_ | refine s_eqA ?_ | refine s_loadB1 ?_ | refine s_loadBA ?_ | refine s_loadAA ?_ (he' := (by first | exact hv2 | exact rfl)) | refine s_indexA ?_ | refine s_fieldB ?_ | refine s_fieldA ?_ | refine s_call (compare_c _ _) ?_ | refine s_call (h6) ?_ | refine s_call (h7) ?_ | refine s_callH [8] (h8) ?_ | refine s_pick ?_ | refine s_lenA ?_ | refine s_storeB ?_ | refine s_bslice ?_ | refine s_alloc ?_ | refine s_not ?_ | refine s_box ?_ | refine s_build ?_ | refine s_funcC ?_ | refine s_defer ?_ | refine s_kT ?_ | refine s_kF ?_ | refine f_ret3 (by repeat (first | exact def_nil | refine def_cons lookup1_d ?_)) ?_ ?_ ?_ | refine t_cell (P := Try.prog) ?_ | refine cf_d ?_ | refine cf_arr rfl ?_ ?_)
        all_goals first
          | (exfalso; simp at hb; omega)
          | (simp; done)
          | (simp; omega)
          | (rw [take_ge (by simp; omega)]; rfl)
          | rfl
      · repeat' (first | refine s_storeSame ?_ | (with_reducible (first | refine k_seq ?_ | refine k_block ?_ | refine k_skip ?_ | refine k_exit ?_ | refine k_ret ?_ | refine n_seq ?_ | refine n_block ?_ | refine e_seq ?_ | refine e_here ?_ | refine o_exit ?_)) | refine s_reg ?_ | refine s_ifT ?_ | refine s_ifF ?_ | refine r_end ?_ | refine s_endD ?_ | refine s_skipS ?_ | refine s_move ?_ | refine s_assign ?_ | refine s_int ?_ | refine s_eqA ?_ | refine s_loadB1 ?_ | refine s_loadBA ?_ | refine s_indexA ?_ | refine s_fieldB ?_ | refine s_fieldA ?_ | refine s_call (h6) ?_ | refine s_call (h7) ?_ | refine s_callH [8] (h8) ?_ | refine s_pick ?_ | refine s_lenA ?_ | refine s_storeB ?_ | refine s_bslice ?_ | refine s_alloc ?_ | refine s_not ?_ | refine s_box ?_ | refine s_build ?_ | refine s_funcC ?_ | refine s_defer ?_ | refine s_kT ?_ | refine s_kF ?_ | refine f_ret3 (by repeat (first | exact def_nil | refine def_cons lookup1_d ?_)) ?_ ?_ ?_ | refine t_cell (P := Try.prog) ?_ | refine cf_d ?_ | refine cf_arr rfl ?_ ?_)
        all_goals first
          | (simp; done)
          | (simp; omega)
          | (rw [take_ge (by simp; omega)]; rfl)
          | rfl
end Go.Proofs.Ytmejclckkmpggaa
