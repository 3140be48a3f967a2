/-
  The cache: the document's Lookup.
-/
import Derived.Test.YtmejclckkmpggaaCaj
import Derived.Test.YtmejclckkmpggaaHoa
namespace Go.Proofs.Ytmejclckkmpggaa
open Go.Abs Go.RowKit
attribute [local irreducible] ARun kont MCall PCall HCall resVal SF CF CFs defersOk slotsIn memIn fin finM VLe
set_option linter.unusedSimpArgs false
set_option maxRecDepth 100000
set_option maxHeartbeats 4000000

theorem without_c (s : List Cach) (v : Val) (hsl : s.length ≤ 100000) : PCall Try.prog 56 [.one (cachD s), .agg v.d] (.v (.one (cachD (withoutE s v)))) := by
  unfold withoutE
  refine pcallN hT Try.func56 Try.ntmps56 [.tmp 4] fun B => ?_
  repeat' (first | (with_reducible (first | refine k_seq ?_ | refine k_block ?_ | refine k_skip ?_ | refine k_exit ?_ | refine k_ret ?_ | refine n_seq ?_ | refine n_block ?_ | refine e_seq ?_ | refine e_here ?_ | refine o_exit ?_)) | refine s_reg ?_ | refine s_ifT ?_ | refine s_ifF ?_ | refine r_end ?_ | refine s_endD ?_ | refine s_move ?_ | refine s_assign ?_ | refine s_int ?_ | refine s_neA ?_ | refine s_loadFA ?_ | refine s_loadBA ?_ | refine s_indexD ?_ (hel := (by first | exact rfl)) | refine s_fieldF ?_ | refine s_lenD ?_ | refine s_appA ?_ | refine s_bslice ?_ | refine s_box ?_ | refine f_ret1 def_nil ?_ | refine t_tmpA rfl rfl ?_ ?_)
  refine s_own 5 46 5 ?_
  refine s_lp (X := Nat × Nat) [5, 6, 7, 8, 9, 10, 11, 12, 13, 14, 15, 16, 17, 18, 19, 20, 21, 22, 23, 24, 25, 26] (fun x => x.1 ≤ s.length) (fun x lz => (6, (.c (.d (.lit (.int .i64 x.1))))) :: (5, .c (.arr 1 x.2 ((s.take x.1).filter fun y => !sameVal y.val v).length)) :: lz) (fun x => [.box 1 (v.d.map .d), .arr x.2 46 5 (((s.take x.1).filter fun y => !sameVal y.val v).map Cach.d)]) (fun x => s.length - x.1) ((0, 2)) ?_ ?_ ?_ ?_
  repeat' (first | exact slots_nil | refine w1 ?_ | refine w5 ?_ ?_ | exact memIn_nil | refine memIn_same ?_ | refine m1 ?_ ?_ | omega)
  rintro ⟨i, k⟩ ck hi
  dsimp only at hi ⊢
  have hsl := filter_take_len (fun y => !sameVal y.val v) s i
  by_cases hlt : i < s.length
  · have hv : s[i]? = some s[i] := List.getElem?_eq_getElem hlt
    generalize s[i] = e at hv
    have hsn := filter_snoc (fun y => !sameVal y.val v) hv
    have hls := lits_same e.val v
    by_cases hlv : sameVal e.val v = true
    · rw [if_neg (by simp [hlv]), List.append_nil] at hsn
      rw [hlv] at hls
      repeat' (first | (with_reducible (first | refine k_seq ?_ | refine k_block ?_ | refine k_skip ?_ | refine k_exit ?_ | refine k_ret ?_ | refine n_seq ?_ | refine n_block ?_ | refine e_seq ?_ | refine e_here ?_ | refine o_exit ?_)) | refine s_reg ?_ | refine s_ifT ?_ | refine s_ifF ?_ | refine r_end ?_ | refine s_endD ?_ | refine s_move ?_ | refine s_assign ?_ | refine s_int ?_ | refine s_neA ?_ | refine s_loadFA ?_ | refine s_loadBA ?_ | refine s_indexD ?_ (hel := (by first | exact idx_map hv (by omega) | exact hv | exact rfl)) | refine s_fieldF ?_ | refine s_lenD ?_ | refine s_appA ?_ | refine s_bslice ?_ | refine s_box ?_ | refine f_ret1 def_nil ?_ | refine t_tmpA rfl rfl ?_ ?_)
      all_goals first
        | (exfalso; rw [hls] at hb; cases hb)
        | ((apply s_round ((i + 1, _)); all_goals (try dsimp only); all_goals (try (repeat' (first | exact slots_nil | refine w1 ?_ | refine w5 ?_ ?_ | exact memIn_nil | refine memIn_same ?_ | refine m1 ?_ ?_ | omega)))); rw [hsn]; rw [hsn])
    · rw [if_pos (by simp [hlv])] at hsn
      rw [Bool.not_eq_true] at hlv
      rw [hlv] at hls
      repeat' (first | (with_reducible (first | refine k_seq ?_ | refine k_block ?_ | refine k_skip ?_ | refine k_exit ?_ | refine k_ret ?_ | refine n_seq ?_ | refine n_block ?_ | refine e_seq ?_ | refine e_here ?_ | refine o_exit ?_)) | refine s_reg ?_ | refine s_ifT ?_ | refine s_ifF ?_ | refine r_end ?_ | refine s_endD ?_ | refine s_move ?_ | refine s_assign ?_ | refine s_int ?_ | refine s_neA ?_ | refine s_loadFA ?_ | refine s_loadBA ?_ | refine s_indexD ?_ (hel := (by first | exact idx_map hv (by omega) | exact hv | exact rfl)) | refine s_fieldF ?_ | refine s_lenD ?_ | refine s_appA ?_ | refine s_bslice ?_ | refine s_box ?_ | refine f_ret1 def_nil ?_ | refine t_tmpA rfl rfl ?_ ?_)
      all_goals first
        | (exfalso; rw [hls] at hb; cases hb)
        | ((apply s_round ((i + 1, _)); all_goals (try dsimp only); all_goals (try (repeat' (first | exact slots_nil | refine w1 ?_ | refine w5 ?_ ?_ | exact memIn_nil | refine memIn_same ?_ | refine m1 ?_ ?_ | omega))))
           all_goals first
             | (rw [hsn]; simp; done)
             | (rw [hsn, List.map_append]; rfl))
  · rw [take_ge (by omega)]
    repeat' (first | (with_reducible (first | refine k_seq ?_ | refine k_block ?_ | refine k_skip ?_ | refine k_exit ?_ | refine k_ret ?_ | refine n_seq ?_ | refine n_block ?_ | refine e_seq ?_ | refine e_here ?_ | refine o_exit ?_)) | refine s_reg ?_ | refine s_ifT ?_ | refine s_ifF ?_ | refine r_end ?_ | refine s_endD ?_ | refine s_move ?_ | refine s_assign ?_ | refine s_int ?_ | refine s_neA ?_ | refine s_loadFA ?_ | refine s_loadBA ?_ | refine s_indexD ?_ (hel := (by first | exact rfl)) | refine s_fieldF ?_ | refine s_lenD ?_ | refine s_appA ?_ | refine s_bslice ?_ | refine s_box ?_ | refine f_ret1 def_nil ?_ | refine t_tmpA rfl rfl ?_ ?_)
    · simp
    · rw [take_ge (by simp)]; rfl

theorem refFound_c (c : Conf) (s : List Cach) (rows : List Entry) (v : Val) (day : Int) (hsl : s.length ≤ 100000) (hs : validC s = true) (hr : bagValid rows = true) (hc : dayOK c.ttl = true) (hd : dayOK day = true) (i : Nat) (e : Cach) (hi : (s.filter (liveE c.ttl day))[i]? = some e) (he : e.val = v.clean) (hbef : ∀ (j : Nat) x, j < i → (s.filter (liveE c.ttl day))[j]? = some x → x.val ≠ v.clean) :
    PCall Try.prog 20 [.agg c.d, .one (cachD s), .one (bagD rows), .agg v.d, .one (.lit (.int .i64 day))] (.tup [.one (cachD (s.filter (liveE c.ttl day))), .one (bagD e.rows), .one (.lit (.int .i64 0))]) := by
  have h1 := refCValid_c s hsl
  have h2 := ranged_c c day
  have h4 := refBagValid_c rows
  have h5 := refExpire_c c s day hsl
  have hef : expE c s day = s.filter (liveE c.ttl day) := by unfold expE; rw [if_pos (by rw [hs, hc, hd]; rfl)]
  rw [hef] at h5
  obtain ⟨hsl, hm⟩ := validC_mem hs
  rw [hs] at h1
  rw [hc, hd, Bool.and_self] at h2
  rw [hr] at h4
  obtain ⟨r1, r2⟩ := rows_bd hr
  have hle : (s.filter (liveE c.ttl day)).length ≤ s.length := List.length_filter_le ..
  generalize s.filter (liveE c.ttl day) = l at h5 hi hbef hle ⊢
  have hle : l.length ≤ 16 := by omega
  refine pcallN hT Try.func20 Try.ntmps20 [.tmp 10, .tmp 11, .tmp 12] fun B => ?_
  repeat' (first | (with_reducible (first | refine k_seq ?_ | refine k_block ?_ | refine k_skip ?_ | refine k_ret ?_ | refine n_seq ?_ | refine n_block ?_ | refine r_seq ?_ | refine r_block ?_ | refine o_ret ?_)) | refine s_reg ?_ | refine s_ifT ?_ | refine s_ifF ?_ | refine r_end ?_ | refine s_endD ?_ | refine s_move ?_ | refine s_assign ?_ | refine s_int ?_ | refine s_eqA ?_ | refine s_loadF1 ?_ | refine s_loadFA ?_ | refine s_loadBA ?_ | refine s_indexD ?_ (hel := (by first | exact rfl)) | refine s_fieldF ?_ | refine s_call (h1) ?_ | refine s_call (h2) ?_ | refine s_call (h4) ?_ | refine s_call (h5) ?_ | refine s_call (refClean_c v) ?_ | refine s_pick ?_ | refine s_lenD ?_ | refine s_storeB ?_ | refine s_not ?_ | refine s_box ?_ | refine f_ret3 def_nil ?_ ?_ ?_ | refine t_tmp ?_)
  refine s_lp (X := Nat) [10, 11, 12, 14, 39, 40, 41, 42, 43, 44, 45, 46, 47, 48, 49, 50, 51, 52, 53, 54, 55, 56, 57] (fun x => x ≤ i) (fun x lz => (14, (.c (.d (.lit (.int .i64 x))))) :: lz) (fun x => [.box 1 (c.d.map .d), .box 2 (v.clean.d.map .d)]) (fun x => i - x) (0) ?_ ?_ ?_ ?_
  repeat' (first | exact slots_nil | refine w1 ?_ | exact memIn_nil | refine memIn_same ?_ | omega)
  rintro j ck hj
  have hil := lt_of_getElem? hi
  by_cases hji : j < i
  · have hv : l[j]? = some l[j] := List.getElem?_eq_getElem (by omega)
    have hne := hbef j _ hji hv
    generalize l[j] = x at hv hne
    have hls := lits_same x.val v.clean
    have hnf : sameVal x.val v.clean = false := by
      cases h : sameVal x.val v.clean with
      | false => rfl
      | true => exact absurd (sameVal_iff.1 h) hne
    rw [hnf] at hls
    repeat' (first | (with_reducible (first | refine k_seq ?_ | refine k_block ?_ | refine k_skip ?_ | refine k_ret ?_ | refine n_seq ?_ | refine n_block ?_ | refine r_seq ?_ | refine r_block ?_ | refine o_ret ?_)) | refine s_reg ?_ | refine s_ifT ?_ | refine s_ifF ?_ | refine r_end ?_ | refine s_endD ?_ | refine s_move ?_ | refine s_assign ?_ | refine s_int ?_ | refine s_eqA ?_ | refine s_loadF1 ?_ | refine s_loadFA ?_ | refine s_loadBA ?_ | refine s_indexD ?_ (hel := (by first | exact idx_map hv (by omega) | exact hv | exact rfl)) | refine s_fieldF ?_ | refine s_pick ?_ | refine s_lenD ?_ | refine s_storeB ?_ | refine s_not ?_ | refine s_box ?_ | refine f_ret3 def_nil ?_ ?_ ?_ | refine t_tmp ?_)
    all_goals first
      | (exfalso; rw [hls] at hb; cases hb)
      | ((apply s_round (j + 1); all_goals (try dsimp only); all_goals (try (repeat' (first | exact slots_nil | refine w1 ?_ | exact memIn_nil | refine memIn_same ?_ | omega)))))
  · obtain rfl : j = i := by omega
    have hls := lits_same e.val v.clean
    have hst : sameVal e.val v.clean = true := sameVal_iff.2 he
    rw [hst] at hls
    repeat' (first | (with_reducible (first | refine k_seq ?_ | refine k_block ?_ | refine k_skip ?_ | refine k_ret ?_ | refine n_seq ?_ | refine n_block ?_ | refine r_seq ?_ | refine r_block ?_ | refine o_ret ?_)) | refine s_reg ?_ | refine s_ifT ?_ | refine s_ifF ?_ | refine r_end ?_ | refine s_endD ?_ | refine s_move ?_ | refine s_assign ?_ | refine s_int ?_ | refine s_eqA ?_ | refine s_loadF1 ?_ | refine s_loadFA ?_ | refine s_loadBA ?_ | refine s_indexD ?_ (hel := (by first | exact idx_map hi (by omega) | exact hi | exact rfl)) | refine s_fieldF ?_ | refine s_pick ?_ | refine s_lenD ?_ | refine s_storeB ?_ | refine s_not ?_ | refine s_box ?_ | refine f_ret3 def_nil ?_ ?_ ?_ | refine t_tmp ?_)
    all_goals first
      | (exfalso; rw [hls] at hb; cases hb)
      | (simp; done)
      | rfl

theorem refRooms_c (c : Conf) (s : List Cach) (rows : List Entry) (v : Val) (day : Int) (hsl : s.length ≤ 100000) (hs : validC s = true) (hr : bagValid rows = true) (hc : dayOK c.ttl = true) (hd : dayOK day = true) (hf : ∀ x ∈ s.filter (liveE c.ttl day), x.val ≠ v.clean) (hfl : (s.filter (liveE c.ttl day)).length < 16) :
    PCall Try.prog 20 [.agg c.d, .one (cachD s), .one (bagD rows), .agg v.d, .one (.lit (.int .i64 day))] (.tup [.one (cachD (insE (roomE (s.filter (liveE c.ttl day))) ⟨v.clean, selE rows c.col v.clean, day⟩)), .one (bagD (selE rows c.col v.clean)), .one (.lit (.int .i64 0))]) := by
  have h1 := refCValid_c s hsl
  have h2 := ranged_c c day
  have h4 := refBagValid_c rows
  have h5 := refExpire_c c s day hsl
  have he : expE c s day = s.filter (liveE c.ttl day) := by unfold expE; rw [if_pos (by rw [hs, hc, hd]; rfl)]
  rw [he] at h5
  obtain ⟨hsl, hm⟩ := validC_mem hs
  rw [hs] at h1
  rw [hc, hd, Bool.and_self] at h2
  rw [hr] at h4
  obtain ⟨r1, r2⟩ := rows_bd hr
  have h6 := refSelect_c rows c.col v.clean r1
  generalize selE rows c.col v.clean = q at h6 ⊢
  have hlv : validC (s.filter (liveE c.ttl day)) = true := validC_sub hs List.filter_sublist
  generalize s.filter (liveE c.ttl day) = l at h5 hf hfl hlv ⊢
  have hle : l.length ≤ 16 := (validC_iff.1 hlv).1
  have hbu : insE (roomE l) ⟨v.clean, q, day⟩ = bub cLt ⟨v.clean, q, day⟩ (roomE l) :=
    (bub_ins ((validC_iff.1 hlv).2.2.sublist (roomE_sub l)) (cmp_ne (validC_sub hlv (roomE_sub l)) fun x hx => hf x ((roomE_sub l).subset hx))).symm
  rw [hbu]
  clear hbu
  rw [roomE, if_neg (by omega)]
  obtain ⟨u, hu⟩ : ∃ u, u = Cach.mk v.clean q day := ⟨_, rfl⟩
  have hud : u.d = v.clean.d ++ [bagD q, .lit (.int .i64 day)] := by rw [hu]; rfl
  rw [← hu]
  refine pcallN hT Try.func20 Try.ntmps20 [.tmp 10, .tmp 11, .tmp 12] fun B => ?_
  repeat' (first | (with_reducible (first | refine k_seq ?_ | refine k_block ?_ | refine k_skip ?_ | refine k_exit ?_ | refine k_ret ?_ | refine n_seq ?_ | refine n_block ?_ | refine e_seq ?_ | refine e_here ?_ | refine o_exit ?_)) | refine s_reg ?_ | refine s_ifT ?_ | refine s_ifF ?_ | refine r_end ?_ | refine s_endD ?_ | refine s_skipS ?_ | refine s_move ?_ | refine s_assign ?_ | refine s_int ?_ | refine s_eqA ?_ | refine s_loadB1 ?_ | refine s_loadFA ?_ | refine s_loadBA ?_ | refine s_indexD ?_ (hel := (by first | exact rfl)) | refine s_indexA ?_ | refine s_fieldF ?_ | refine s_fieldB ?_ | refine s_fieldA ?_ | refine s_call (h1) ?_ | refine s_call (h2) ?_ | refine s_call (h4) ?_ | refine s_call (h5) ?_ | refine s_call (refClean_c v) ?_ | refine s_pick ?_ | refine s_lenD ?_ | refine s_lenA ?_ | refine s_appA ?_ | refine s_storeB ?_ | refine s_bslice0 ?_ | refine s_bslice ?_ | refine s_not ?_ | refine s_box ?_ | refine s_build ?_ | refine s_kT ?_ | refine f_ret3 def_nil ?_ ?_ ?_ | refine t_tmp ?_ | refine t_tmpA rfl rfl ?_ ?_)
  refine s_lp (X := Nat) [10, 11, 12, 14, 39, 40, 41, 42, 43, 44, 45, 46, 47, 48, 49, 50, 51, 52, 53, 54, 55, 56, 57] (fun x => x ≤ l.length) (fun x lz => (14, (.c (.d (.lit (.int .i64 x))))) :: lz) (fun x => [.box 1 (c.d.map .d), .box 2 (v.clean.d.map .d)]) (fun x => l.length - x) (0) ?_ ?_ ?_ ?_
  repeat' (first | exact slots_nil | refine w1 ?_ | refine w2 ?_ ?_ | exact memIn_nil | refine memIn_same ?_ | refine m1 ?_ ?_ | omega)
  rintro j ck hj
  by_cases hji : j < l.length
  · have hv : l[j]? = some l[j] := List.getElem?_eq_getElem (by omega)
    have hne := hf _ (List.getElem_mem hji)
    generalize l[j] = x at hv hne
    have hls := lits_same x.val v.clean
    have hnf : sameVal x.val v.clean = false := by
      cases h : sameVal x.val v.clean with
      | false => rfl
      | true => exact absurd (sameVal_iff.1 h) hne
    rw [hnf] at hls
    repeat' (first | (with_reducible (first | refine k_seq ?_ | refine k_block ?_ | refine k_skip ?_ | refine k_exit ?_ | refine k_ret ?_ | refine n_seq ?_ | refine n_block ?_ | refine e_seq ?_ | refine e_here ?_ | refine o_exit ?_)) | refine s_reg ?_ | refine s_ifT ?_ | refine s_ifF ?_ | refine r_end ?_ | refine s_endD ?_ | refine s_skipS ?_ | refine s_move ?_ | refine s_assign ?_ | refine s_int ?_ | refine s_eqA ?_ | refine s_loadB1 ?_ | refine s_loadFA ?_ | refine s_loadBA ?_ | refine s_loadAA ?_ (he' := (by first | exact hv | exact rfl)) | refine s_indexD ?_ (hel := (by first | exact idx_map hv (by omega) | exact hv | exact rfl)) | refine s_indexA ?_ | refine s_fieldF ?_ | refine s_fieldB ?_ | refine s_fieldA ?_ | refine s_pick ?_ | refine s_lenD ?_ | refine s_lenA ?_ | refine s_appA ?_ | refine s_storeB ?_ | refine s_storeA ?_ (hj := (by first | exact hv | exact rfl)) | refine s_bslice0 ?_ | refine s_bslice ?_ | refine s_not ?_ | refine s_box ?_ | refine s_build ?_ | refine s_kT ?_ | refine f_ret3 def_nil ?_ ?_ ?_ | refine t_tmp ?_ | refine t_tmpA rfl rfl ?_ ?_)
    all_goals first
      | (exfalso; rw [hls] at hb; cases hb)
      | ((apply s_round (j + 1); all_goals (try dsimp only); all_goals (try (repeat' (first | exact slots_nil | refine w1 ?_ | refine w2 ?_ ?_ | exact memIn_nil | refine memIn_same ?_ | refine m1 ?_ ?_ | omega)))))
  · repeat' (first | refine k_hole 2 ?_ | (refine h_appE (dr := true) (ys := l.map Cach.d) (ei := ti46) 2 ?_ (by intro z hz; obtain ⟨y, _, rfl⟩ := List.mem_map.1 hz; rfl) (by simp only [maxLen, List.length_map]; omega) (by simp only [List.length_map, ti46]; omega)) | refine h_loadBA (dr := true) ?_ | refine h_fieldB (dr := true) ?_ | refine h_loadB1 (dr := true) ?_ | (with_reducible (first | refine k_seq ?_ | refine k_block ?_ | refine k_skip ?_ | refine k_exit ?_ | refine k_ret ?_ | refine n_seq ?_ | refine n_block ?_ | refine e_seq ?_ | refine e_here ?_ | refine o_exit ?_)) | refine s_reg ?_ | refine s_ifT ?_ | refine s_ifF ?_ | refine r_end ?_ | refine s_endD ?_ | refine s_skipS ?_ | refine s_move ?_ | refine s_assign ?_ | refine s_int ?_ | refine s_eqA ?_ | refine s_loadB1 ?_ | refine s_loadFA ?_ | refine s_loadBA ?_ | refine s_indexD ?_ (hel := (by first | exact rfl)) | refine s_indexA ?_ | refine s_fieldF ?_ | refine s_fieldB ?_ | refine s_fieldA ?_ | refine s_call (h6) ?_ | refine s_pick ?_ | refine s_lenD ?_ | refine s_lenA ?_ | refine s_appA ?_ | refine s_storeB ?_ | refine s_bslice0 ?_ | refine s_bslice ?_ | refine s_not ?_ | refine s_box ?_ | refine s_build ?_ | refine s_kT ?_ | refine f_ret3 def_nil ?_ ?_ ?_ | refine t_tmp ?_ | refine t_tmpA rfl rfl ?_ ?_)
    refine s_lp (X := Nat) [17, 18, 102, 103, 104, 105, 106, 107, 108, 109, 110, 111, 112, 113, 114, 115, 116, 117, 118, 119, 120, 121, 122, 123, 124, 125, 126, 127, 128, 129, 130, 131, 132, 133, 134, 135, 136] (fun x => x ≤ l.length ∧ bubR cLt u (l.take x).reverse (l.drop x) = bub cLt u l) (fun x lz => (18, (.c (.d (.lit (.int .i64 x))))) :: (17, .c (.arr 2 (ck + 2) (l.length + 1))) :: lz) (fun x => [.box 1 (c.d.map .d), .box 2 (v.clean.d.map .d), .arr (ck + 2) 46 5 ((l.take x ++ u :: l.drop x).map Cach.d)]) (fun x => x) (l.length) ?_ ?_ ?_ ?_
    repeat' (first | exact slots_nil | refine w1 ?_ | refine w2 ?_ ?_ | exact memIn_nil | refine memIn_same ?_ | refine m1 ?_ ?_ | omega)
    all_goals try (rw [wrap_i64 (by simp) (by simp; omega)]; simp; done)
    · rw [take_ge (Nat.le_refl _), List.drop_length, List.map_append, hu]; rfl
    · exact ⟨Nat.le_refl _, by rw [take_ge (Nat.le_refl _), List.drop_length]; rfl⟩
    rintro p c2 ⟨hp, hinv⟩
    have hv1 : ((l.take p ++ u :: l.drop p).map Cach.d)[p]? = some u.d := by rw [List.getElem?_map, mid_get hp]; rfl
    by_cases hp0 : p = 0
    · subst hp0
      have hfin : l.take 0 ++ u :: l.drop 0 = bub cLt u l := by rw [← hinv]; rfl
      repeat' (first | (with_reducible (first | refine k_seq ?_ | refine k_block ?_ | refine k_skip ?_ | refine k_exit ?_ | refine k_ret ?_ | refine n_seq ?_ | refine n_block ?_ | refine e_seq ?_ | refine e_here ?_ | refine o_exit ?_)) | refine s_reg ?_ | refine s_ifT ?_ | refine s_ifF ?_ | refine r_end ?_ | refine s_endD ?_ | refine s_skipS ?_ | refine s_move ?_ | refine s_assign ?_ | refine s_int ?_ | refine s_eqA ?_ | refine s_loadB1 ?_ | refine s_loadFA ?_ | refine s_loadBA ?_ | refine s_loadAA ?_ (he' := (by first | exact hv1 | exact rfl)) | refine s_indexD ?_ (hel := (by first | exact idx_map hv1 (by omega) | exact hv1 | exact rfl)) | refine s_indexA ?_ | refine s_fieldF ?_ | refine s_fieldB ?_ | refine s_fieldA ?_ | refine s_call (refCompare_c _ _) ?_ | refine s_call (h6) ?_ | refine s_pick ?_ | refine s_lenD ?_ | refine s_lenA ?_ | refine s_appA ?_ | refine s_storeB ?_ | refine s_storeA ?_ (hj := (by first | exact hv1 | exact rfl)) | refine s_bslice0 ?_ | refine s_bslice ?_ | refine s_not ?_ | refine s_box ?_ | refine s_build ?_ | refine s_kT ?_ | refine f_ret3 def_nil ?_ ?_ ?_ | refine t_tmp ?_ | refine t_tmpA rfl rfl ?_ ?_)
      all_goals first
        | (simp; done)
        | (rw [take_ge (by simp), hfin]; rfl)
        | rfl
    · obtain ⟨p, rfl⟩ : ∃ q, p = q + 1 := ⟨p - 1, by omega⟩
      have hq : l[p]? = some l[p] := List.getElem?_eq_getElem (by omega)
      generalize l[p] = y at hq
      have hv2 : ((l.take (p + 1) ++ u :: l.drop (p + 1)).map Cach.d)[(((p + 1 : Nat) : Int) - 1).toNat]? = some y.d := by
        rw [show (((p + 1 : Nat) : Int) - 1).toNat = p by omega, List.getElem?_map, mid_left hq]; rfl
      have hv3 : (((l.take (p + 1) ++ u :: l.drop (p + 1)).map Cach.d).set (((p + 1 : Nat) : Int) - 1).toNat u.d)[p + 1]? = some u.d := by
        rw [show (((p + 1 : Nat) : Int) - 1).toNat = p by omega, List.getElem?_set_ne (by omega)]; exact hv1
      have hrv : (l.take (p + 1)).reverse = y :: (l.take p).reverse := by
        rw [List.take_add_one, hq]; simp
      rw [hrv] at hinv
      have hcm := refCompare_c u.val y.val
      by_cases hlt : u.val.cmp y.val < 0
      · have hinv' : bubR cLt u (l.take p).reverse (l.drop p) = bub cLt u l := by
          rw [← hinv, bubR, if_pos (by simpa [cLt] using hlt), drop_cons hq]
        have hsw : (((l.take (p + 1) ++ u :: l.drop (p + 1)).map Cach.d).set (((p + 1 : Nat) : Int) - 1).toNat u.d).set (p + 1) y.d = (l.take p ++ u :: l.drop p).map Cach.d := by
          rw [show (((p + 1 : Nat) : Int) - 1).toNat = p by omega, ← List.map_set, ← List.map_set, mid_swap hq]
        repeat' (first | (with_reducible (first | refine k_seq ?_ | refine k_block ?_ | refine k_skip ?_ | refine k_exit ?_ | refine k_ret ?_ | refine n_seq ?_ | refine n_block ?_ | refine e_seq ?_ | refine e_here ?_ | refine o_exit ?_)) | refine s_reg ?_ | refine s_ifT ?_ | refine s_ifF ?_ | refine r_end ?_ | refine s_endD ?_ | refine s_skipS ?_ | refine s_move ?_ | refine s_assign ?_ | refine s_int ?_ | refine s_eqA ?_ | refine s_loadB1 ?_ | refine s_loadFA ?_ | refine s_loadBA ?_ | refine s_loadAA ?_ (he' := (by first | exact hv1 | exact hv2 | exact hv3 | exact rfl)) | refine s_indexD ?_ (hel := (by first | exact idx_map hv1 (by omega) | exact idx_map hv2 (by omega) | exact idx_map hv3 (by omega) | exact hv1 | exact hv2 | exact hv3 | exact rfl)) | refine s_indexA ?_ | refine s_fieldF ?_ | refine s_fieldB ?_ | refine s_fieldA ?_ | refine s_call (hcm) ?_ | refine s_pick ?_ | refine s_lenD ?_ | refine s_lenA ?_ | refine s_appA ?_ | refine s_storeB ?_ | refine s_storeA ?_ (hj := (by first | exact hv1 | exact hv2 | exact hv3 | exact rfl)) | refine s_bslice0 ?_ | refine s_bslice ?_ | refine s_not ?_ | refine s_box ?_ | refine s_build ?_ | refine s_kT ?_ | refine f_ret3 def_nil ?_ ?_ ?_ | refine t_tmp ?_ | refine t_tmpA rfl rfl ?_ ?_)
        apply s_round p
        · repeat' (first | exact slots_nil | refine w1 ?_ | refine w2 ?_ ?_ | exact memIn_nil | refine memIn_same ?_ | refine m1 ?_ ?_ | omega)
        · refine memIn_same (memIn_same ?_)
          exact memIn_arr rfl hsw memIn_nil
        · exact ⟨by omega, hinv'⟩
        · omega
      · have hfin : l.take (p + 1) ++ u :: l.drop (p + 1) = bub cLt u l := by
          rw [← hinv, bubR, if_neg (by simp [cLt]; omega), List.reverse_reverse, List.take_add_one, hq]; simp
        repeat' (first | (with_reducible (first | refine k_seq ?_ | refine k_block ?_ | refine k_skip ?_ | refine k_exit ?_ | refine k_ret ?_ | refine n_seq ?_ | refine n_block ?_ | refine e_seq ?_ | refine e_here ?_ | refine o_exit ?_)) | refine s_reg ?_ | refine s_ifT ?_ | refine s_ifF ?_ | refine r_end ?_ | refine s_endD ?_ | refine s_skipS ?_ | refine s_move ?_ | refine s_assign ?_ | refine s_int ?_ | refine s_eqA ?_ | refine s_loadB1 ?_ | refine s_loadFA ?_ | refine s_loadBA ?_ | refine s_loadAA ?_ (he' := (by first | exact hv1 | exact hv2 | exact hv3 | exact rfl)) | refine s_indexD ?_ (hel := (by first | exact idx_map hv1 (by omega) | exact idx_map hv2 (by omega) | exact idx_map hv3 (by omega) | exact hv1 | exact hv2 | exact hv3 | exact rfl)) | refine s_indexA ?_ | refine s_fieldF ?_ | refine s_fieldB ?_ | refine s_fieldA ?_ | refine s_call (hcm) ?_ | refine s_call (h6) ?_ | refine s_pick ?_ | refine s_lenD ?_ | refine s_lenA ?_ | refine s_appA ?_ | refine s_storeB ?_ | refine s_storeA ?_ (hj := (by first | exact hv1 | exact hv2 | exact hv3 | exact rfl)) | refine s_bslice0 ?_ | refine s_bslice ?_ | refine s_not ?_ | refine s_box ?_ | refine s_build ?_ | refine s_kT ?_ | refine f_ret3 def_nil ?_ ?_ ?_ | refine t_tmp ?_ | refine t_tmpA rfl rfl ?_ ?_)
        all_goals first
          | (simp; done)
          | (simp; omega)
          | (rw [take_ge (by simp; omega), hfin]; rfl)
          | rfl

theorem old_one (l : List Cach) : oldK l 1 = 0 := by
  unfold oldK
  split
  · split <;> rfl
  · rfl

theorem refFulls_c (c : Conf) (s : List Cach) (rows : List Entry) (v : Val) (day : Int) (hsl : s.length ≤ 100000) (hs : validC s = true) (hr : bagValid rows = true) (hc : dayOK c.ttl = true) (hd : dayOK day = true) (hf : ∀ x ∈ s.filter (liveE c.ttl day), x.val ≠ v.clean) (hfl : 16 ≤ (s.filter (liveE c.ttl day)).length) :
    PCall Try.prog 20 [.agg c.d, .one (cachD s), .one (bagD rows), .agg v.d, .one (.lit (.int .i64 day))] (.tup [.one (cachD (insE (roomE (s.filter (liveE c.ttl day))) ⟨v.clean, selE rows c.col v.clean, day⟩)), .one (bagD (selE rows c.col v.clean)), .one (.lit (.int .i64 0))]) := by
  have h1 := refCValid_c s hsl
  have h2 := ranged_c c day
  have h4 := refBagValid_c rows
  have h5 := refExpire_c c s day hsl
  have he : expE c s day = s.filter (liveE c.ttl day) := by unfold expE; rw [if_pos (by rw [hs, hc, hd]; rfl)]
  rw [he] at h5
  obtain ⟨hsl, hm⟩ := validC_mem hs
  rw [hs] at h1
  rw [hc, hd, Bool.and_self] at h2
  rw [hr] at h4
  obtain ⟨r1, r2⟩ := rows_bd hr
  have h6 := refSelect_c rows c.col v.clean r1
  generalize selE rows c.col v.clean = q at h6 ⊢
  have hlv : validC (s.filter (liveE c.ttl day)) = true := validC_sub hs List.filter_sublist
  generalize s.filter (liveE c.ttl day) = l at h5 hf hfl hlv ⊢
  have hle : l.length ≤ 16 := (validC_iff.1 hlv).1
  have hbu : insE (roomE l) ⟨v.clean, q, day⟩ = bub cLt ⟨v.clean, q, day⟩ (roomE l) :=
    (bub_ins ((validC_iff.1 hlv).2.2.sublist (roomE_sub l)) (cmp_ne (validC_sub hlv (roomE_sub l)) fun x hx => hf x ((roomE_sub l).subset hx))).symm
  rw [hbu]
  clear hbu
  obtain ⟨m, hme⟩ : ∃ m, m = roomE l := ⟨_, rfl⟩
  rw [← hme]
  rw [roomE, if_pos hfl] at hme
  have ho : oldE l < l.length := oldK_lt l l.length (by omega)
  have hmn : m.length = l.length - 1 := by rw [hme]; simp; omega
  obtain ⟨u, hu⟩ : ∃ u, u = Cach.mk v.clean q day := ⟨_, rfl⟩
  have hud : u.d = v.clean.d ++ [bagD q, .lit (.int .i64 day)] := by rw [hu]; rfl
  rw [← hu]
  refine pcallN hT Try.func20 Try.ntmps20 [.tmp 10, .tmp 11, .tmp 12] fun B => ?_
  repeat' (first | (with_reducible (first | refine k_seq ?_ | refine k_block ?_ | refine k_skip ?_ | refine k_exit ?_ | refine k_ret ?_ | refine n_seq ?_ | refine n_block ?_ | refine e_seq ?_ | refine e_here ?_ | refine o_exit ?_)) | refine s_reg ?_ | refine s_ifT ?_ | refine s_ifF ?_ | refine s_if rfl (fun hb => ?_) (fun hb => ?_) | refine r_end ?_ | refine s_endD ?_ | refine s_skipS ?_ | refine s_move ?_ | refine s_assign ?_ | refine s_int ?_ | refine s_eqA ?_ | refine s_loadF1 ?_ | refine s_loadB1 ?_ | refine s_loadFA ?_ | refine s_loadBA ?_ | refine s_indexD ?_ (hel := (by first | exact rfl)) | refine s_indexA ?_ | refine s_fieldF ?_ | refine s_fieldB ?_ | refine s_fieldA ?_ | refine s_call (h1) ?_ | refine s_call (h2) ?_ | refine s_call (h4) ?_ | refine s_call (h5) ?_ | refine s_call (refClean_c v) ?_ | refine s_pick ?_ | refine s_lenD ?_ | refine s_lenA ?_ | refine s_appA ?_ | refine s_storeB ?_ | refine s_bslice0 ?_ | refine s_bslice ?_ | refine s_not ?_ | refine s_box ?_ | refine s_build ?_ | refine s_kT ?_ | refine f_ret3 def_nil ?_ ?_ ?_ | refine t_tmp ?_ | refine t_tmpA rfl rfl ?_ ?_)
  refine s_lp (X := Nat) [10, 11, 12, 14, 39, 40, 41, 42, 43, 44, 45, 46, 47, 48, 49, 50, 51, 52, 53, 54, 55, 56, 57] (fun x => x ≤ l.length) (fun x lz => (14, (.c (.d (.lit (.int .i64 x))))) :: lz) (fun x => [.box 1 (c.d.map .d), .box 2 (v.clean.d.map .d)]) (fun x => l.length - x) (0) ?_ ?_ ?_ ?_
  repeat' (first | exact slots_nil | refine w1 ?_ | refine w2 ?_ ?_ | exact memIn_nil | refine memIn_same ?_ | refine m1 ?_ ?_ | omega)
  rintro j ck hj
  by_cases hji : j < l.length
  · have hv : l[j]? = some l[j] := List.getElem?_eq_getElem (by omega)
    have hne := hf _ (List.getElem_mem hji)
    generalize l[j] = x at hv hne
    have hls := lits_same x.val v.clean
    have hnf : sameVal x.val v.clean = false := by
      cases h : sameVal x.val v.clean with
      | false => rfl
      | true => exact absurd (sameVal_iff.1 h) hne
    rw [hnf] at hls
    repeat' (first | (with_reducible (first | refine k_seq ?_ | refine k_block ?_ | refine k_skip ?_ | refine k_exit ?_ | refine k_ret ?_ | refine n_seq ?_ | refine n_block ?_ | refine e_seq ?_ | refine e_here ?_ | refine o_exit ?_)) | refine s_reg ?_ | refine s_ifT ?_ | refine s_ifF ?_ | refine s_if rfl (fun hb => ?_) (fun hb => ?_) | refine r_end ?_ | refine s_endD ?_ | refine s_skipS ?_ | refine s_move ?_ | refine s_assign ?_ | refine s_int ?_ | refine s_eqA ?_ | refine s_loadF1 ?_ | refine s_loadB1 ?_ | refine s_loadFA ?_ | refine s_loadBA ?_ | refine s_loadAA ?_ (he' := (by first | exact hv | exact rfl)) | refine s_indexD ?_ (hel := (by first | exact idx_map hv (by omega) | exact hv | exact rfl)) | refine s_indexA ?_ | refine s_fieldF ?_ | refine s_fieldB ?_ | refine s_fieldA ?_ | refine s_pick ?_ | refine s_lenD ?_ | refine s_lenA ?_ | refine s_appA ?_ | refine s_storeB ?_ | refine s_storeA ?_ (hj := (by first | exact hv | exact rfl)) | refine s_bslice0 ?_ | refine s_bslice ?_ | refine s_not ?_ | refine s_box ?_ | refine s_build ?_ | refine s_kT ?_ | refine f_ret3 def_nil ?_ ?_ ?_ | refine t_tmp ?_ | refine t_tmpA rfl rfl ?_ ?_)
    all_goals first
      | (exfalso; rw [hls] at hb; cases hb)
      | ((apply s_round (j + 1); all_goals (try dsimp only); all_goals (try (repeat' (first | exact slots_nil | refine w1 ?_ | refine w2 ?_ ?_ | exact memIn_nil | refine memIn_same ?_ | refine m1 ?_ ?_ | omega)))))
  · have hl16 : l.length = 16 := by omega
    repeat' (first | (with_reducible (first | refine k_seq ?_ | refine k_block ?_ | refine k_skip ?_ | refine k_exit ?_ | refine k_ret ?_ | refine n_seq ?_ | refine n_block ?_ | refine e_seq ?_ | refine e_here ?_ | refine o_exit ?_)) | refine s_reg ?_ | refine s_ifT ?_ | refine s_ifF ?_ | refine s_if rfl (fun hb => ?_) (fun hb => ?_) | refine r_end ?_ | refine s_endD ?_ | refine s_skipS ?_ | refine s_move ?_ | refine s_assign ?_ | refine s_int ?_ | refine s_eqA ?_ | refine s_loadF1 ?_ | refine s_loadB1 ?_ | refine s_loadFA ?_ | refine s_loadBA ?_ | refine s_indexD ?_ (hel := (by first | exact rfl)) | refine s_indexA ?_ | refine s_fieldF ?_ | refine s_fieldB ?_ | refine s_fieldA ?_ | refine s_pick ?_ | refine s_lenD ?_ | refine s_lenA ?_ | refine s_appA ?_ | refine s_storeB ?_ | refine s_bslice0 ?_ | refine s_bslice ?_ | refine s_not ?_ | refine s_box ?_ | refine s_build ?_ | refine s_kT ?_ | refine f_ret3 def_nil ?_ ?_ ?_ | refine t_tmp ?_ | refine t_tmpA rfl rfl ?_ ?_)
    refine s_lp (X := Nat × Nat) [15, 16, 61, 62, 63, 64, 65, 66, 67, 68, 69, 70, 71, 72, 73, 74, 75, 76, 77, 78] (fun x => 1 ≤ x.1 ∧ x.1 ≤ l.length ∧ x.2 = oldK l x.1) (fun x lz => (16, (.c (.d (.lit (.int .i64 x.1))))) :: (15, (.c (.d (.lit (.int .i64 x.2))))) :: lz) (fun x => [.box 1 (c.d.map .d), .box 2 (v.clean.d.map .d)]) (fun x => l.length - x.1) ((1, 0)) ?_ ?_ ?_ ?_
    repeat' (first | exact slots_nil | refine w1 ?_ | refine w2 ?_ ?_ | exact memIn_nil | refine memIn_same ?_ | refine m1 ?_ ?_ | omega)
    · exact ⟨Nat.le_refl _, by omega, (old_one l).symm⟩
    rintro ⟨i, o⟩ ck1 ⟨hi1, hi, ho⟩
    dsimp only at hi1 hi ho ⊢
    have hol : o < l.length := by rw [ho]; exact oldK_lt l i (by omega)
    have hw : l[o]? = some l[o] := List.getElem?_eq_getElem hol
    generalize l[o] = y at hw
    by_cases hil : i < l.length
    · have hv : l[i]? = some l[i] := List.getElem?_eq_getElem hil
      generalize l[i] = x at hv
      have hst := oldK_step hv (ho ▸ hw)
      rw [← ho] at hst
      repeat' (first | (with_reducible (first | refine k_seq ?_ | refine k_block ?_ | refine k_skip ?_ | refine k_exit ?_ | refine k_ret ?_ | refine n_seq ?_ | refine n_block ?_ | refine e_seq ?_ | refine e_here ?_ | refine o_exit ?_)) | refine s_reg ?_ | refine s_ifT ?_ | refine s_ifF ?_ | refine s_if rfl (fun hb => ?_) (fun hb => ?_) | refine r_end ?_ | refine s_endD ?_ | refine s_skipS ?_ | refine s_move ?_ | refine s_assign ?_ | refine s_int ?_ | refine s_eqA ?_ | refine s_loadF1 ?_ | refine s_loadB1 ?_ | refine s_loadFA ?_ | refine s_loadBA ?_ | refine s_loadAA ?_ (he' := (by first | exact hv | exact hw | exact rfl)) | refine s_indexD ?_ (hel := (by first | exact idx_map hv (by omega) | exact idx_map hw (by omega) | exact hv | exact hw | exact rfl)) | refine s_indexA ?_ | refine s_fieldF ?_ | refine s_fieldB ?_ | refine s_fieldA ?_ | refine s_pick ?_ | refine s_lenD ?_ | refine s_lenA ?_ | refine s_appA ?_ | refine s_storeB ?_ | refine s_storeA ?_ (hj := (by first | exact hv | exact hw | exact rfl)) | refine s_bslice0 ?_ | refine s_bslice ?_ | refine s_not ?_ | refine s_box ?_ | refine s_build ?_ | refine s_kT ?_ | refine f_ret3 def_nil ?_ ?_ ?_ | refine t_tmp ?_ | refine t_tmpA rfl rfl ?_ ?_)
      · rw [if_pos (by simpa using hb)] at hst
        (apply s_round ((i + 1, i)); all_goals (try dsimp only); all_goals (try (repeat' (first | exact slots_nil | refine w1 ?_ | refine w2 ?_ ?_ | exact memIn_nil | refine memIn_same ?_ | refine m1 ?_ ?_ | omega))))
        all_goals exact ⟨by omega, by omega, hst.symm⟩
      · rw [if_neg (by simpa using hb)] at hst
        (apply s_round ((i + 1, o)); all_goals (try dsimp only); all_goals (try (repeat' (first | exact slots_nil | refine w1 ?_ | refine w2 ?_ ?_ | exact memIn_nil | refine memIn_same ?_ | refine m1 ?_ ?_ | omega))))
        all_goals exact ⟨by omega, by omega, hst.symm⟩
    obtain rfl : i = l.length := by omega
    have hwo := without_c l y.val (by omega)
    rw [erase_without (validC_iff.1 hlv).2.2 hw, ho] at hwo
    have hme2 : m = l.take (oldK l l.length) ++ l.drop (oldK l l.length + 1) := hme
    rw [← hme2] at hwo
    repeat' (first | refine k_hole 2 ?_ | (refine h_appE (dr := true) (ys := m.map Cach.d) (ei := ti46) 2 ?_ (by intro z hz; obtain ⟨y, _, rfl⟩ := List.mem_map.1 hz; rfl) (by simp only [maxLen, List.length_map]; omega) (by simp only [List.length_map, ti46]; omega)) | refine h_loadBA (dr := true) ?_ | refine h_fieldB (dr := true) ?_ | refine h_loadB1 (dr := true) ?_ | (with_reducible (first | refine k_seq ?_ | refine k_block ?_ | refine k_skip ?_ | refine k_exit ?_ | refine k_ret ?_ | refine n_seq ?_ | refine n_block ?_ | refine e_seq ?_ | refine e_here ?_ | refine o_exit ?_)) | refine s_reg ?_ | refine s_ifT ?_ | refine s_ifF ?_ | refine s_if rfl (fun hb => ?_) (fun hb => ?_) | refine r_end ?_ | refine s_endD ?_ | refine s_skipS ?_ | refine s_move ?_ | refine s_assign ?_ | refine s_int ?_ | refine s_eqA ?_ | refine s_loadF1 ?_ | refine s_loadB1 ?_ | refine s_loadFA ?_ | refine s_loadBA ?_ | refine s_loadAA ?_ (he' := (by first | exact hw | exact rfl)) | refine s_indexD ?_ (hel := (by first | exact idx_map hw (by omega) | exact hw | exact rfl)) | refine s_indexA ?_ | refine s_fieldF ?_ | refine s_fieldB ?_ | refine s_fieldA ?_ | refine s_call (h6) ?_ | refine s_call (hwo) ?_ | refine s_pick ?_ | refine s_lenD ?_ | refine s_lenA ?_ | refine s_appA ?_ | refine s_storeB ?_ | refine s_storeA ?_ (hj := (by first | exact hw | exact rfl)) | refine s_bslice0 ?_ | refine s_bslice ?_ | refine s_not ?_ | refine s_box ?_ | refine s_build ?_ | refine s_kT ?_ | refine f_ret3 def_nil ?_ ?_ ?_ | refine t_tmp ?_ | refine t_tmpA rfl rfl ?_ ?_)
    refine s_lp (X := Nat) [17, 18, 102, 103, 104, 105, 106, 107, 108, 109, 110, 111, 112, 113, 114, 115, 116, 117, 118, 119, 120, 121, 122, 123, 124, 125, 126, 127, 128, 129, 130, 131, 132, 133, 134, 135, 136] (fun x => x ≤ m.length ∧ bubR cLt u (m.take x).reverse (m.drop x) = bub cLt u m) (fun x lz => (18, (.c (.d (.lit (.int .i64 x))))) :: (17, .c (.arr 2 (ck1 + 2) (m.length + 1))) :: lz) (fun x => [.box 1 (c.d.map .d), .box 2 (v.clean.d.map .d), .arr (ck1 + 2) 46 5 ((m.take x ++ u :: m.drop x).map Cach.d)]) (fun x => x) (m.length) ?_ ?_ ?_ ?_
    repeat' (first | exact slots_nil | refine w1 ?_ | refine w2 ?_ ?_ | exact memIn_nil | refine memIn_same ?_ | refine m1 ?_ ?_ | omega)
    all_goals try (rw [wrap_i64 (by simp) (by simp; omega)]; simp; done)
    · rw [take_ge (Nat.le_refl _), List.drop_length, List.map_append, hu]; rfl
    · exact ⟨Nat.le_refl _, by rw [take_ge (Nat.le_refl _), List.drop_length]; rfl⟩
    rintro p c2 ⟨hp, hinv⟩
    have hv1 : ((m.take p ++ u :: m.drop p).map Cach.d)[p]? = some u.d := by rw [List.getElem?_map, mid_get hp]; rfl
    by_cases hp0 : p = 0
    · subst hp0
      have hfin : m.take 0 ++ u :: m.drop 0 = bub cLt u m := by rw [← hinv]; rfl
      repeat' (first | (with_reducible (first | refine k_seq ?_ | refine k_block ?_ | refine k_skip ?_ | refine k_exit ?_ | refine k_ret ?_ | refine n_seq ?_ | refine n_block ?_ | refine e_seq ?_ | refine e_here ?_ | refine o_exit ?_)) | refine s_reg ?_ | refine s_ifT ?_ | refine s_ifF ?_ | refine s_if rfl (fun hb => ?_) (fun hb => ?_) | refine r_end ?_ | refine s_endD ?_ | refine s_skipS ?_ | refine s_move ?_ | refine s_assign ?_ | refine s_int ?_ | refine s_eqA ?_ | refine s_loadF1 ?_ | refine s_loadB1 ?_ | refine s_loadFA ?_ | refine s_loadBA ?_ | refine s_loadAA ?_ (he' := (by first | exact hv1 | exact rfl)) | refine s_indexD ?_ (hel := (by first | exact idx_map hv1 (by omega) | exact hv1 | exact rfl)) | refine s_indexA ?_ | refine s_fieldF ?_ | refine s_fieldB ?_ | refine s_fieldA ?_ | refine s_call (refCompare_c _ _) ?_ | refine s_call (h6) ?_ | refine s_pick ?_ | refine s_lenD ?_ | refine s_lenA ?_ | refine s_appA ?_ | refine s_storeB ?_ | refine s_storeA ?_ (hj := (by first | exact hv1 | exact rfl)) | refine s_bslice0 ?_ | refine s_bslice ?_ | refine s_not ?_ | refine s_box ?_ | refine s_build ?_ | refine s_kT ?_ | refine f_ret3 def_nil ?_ ?_ ?_ | refine t_tmp ?_ | refine t_tmpA rfl rfl ?_ ?_)
      all_goals first
        | (simp; done)
        | (rw [take_ge (by simp), hfin]; rfl)
        | rfl
    · obtain ⟨p, rfl⟩ : ∃ q, p = q + 1 := ⟨p - 1, by omega⟩
      have hq : m[p]? = some m[p] := List.getElem?_eq_getElem (by omega)
      generalize m[p] = y at hq
      have hv2 : ((m.take (p + 1) ++ u :: m.drop (p + 1)).map Cach.d)[(((p + 1 : Nat) : Int) - 1).toNat]? = some y.d := by
        rw [show (((p + 1 : Nat) : Int) - 1).toNat = p by omega, List.getElem?_map, mid_left hq]; rfl
      have hv3 : (((m.take (p + 1) ++ u :: m.drop (p + 1)).map Cach.d).set (((p + 1 : Nat) : Int) - 1).toNat u.d)[p + 1]? = some u.d := by
        rw [show (((p + 1 : Nat) : Int) - 1).toNat = p by omega, List.getElem?_set_ne (by omega)]; exact hv1
      have hrv : (m.take (p + 1)).reverse = y :: (m.take p).reverse := by
        rw [List.take_add_one, hq]; simp
      rw [hrv] at hinv
      have hcm := refCompare_c u.val y.val
      by_cases hlt : u.val.cmp y.val < 0
      · have hinv' : bubR cLt u (m.take p).reverse (m.drop p) = bub cLt u m := by
          rw [← hinv, bubR, if_pos (by simpa [cLt] using hlt), drop_cons hq]
        have hsw : (((m.take (p + 1) ++ u :: m.drop (p + 1)).map Cach.d).set (((p + 1 : Nat) : Int) - 1).toNat u.d).set (p + 1) y.d = (m.take p ++ u :: m.drop p).map Cach.d := by
          rw [show (((p + 1 : Nat) : Int) - 1).toNat = p by omega, ← List.map_set, ← List.map_set, mid_swap hq]
        repeat' (first | (with_reducible (first | refine k_seq ?_ | refine k_block ?_ | refine k_skip ?_ | refine k_exit ?_ | refine k_ret ?_ | refine n_seq ?_ | refine n_block ?_ | refine e_seq ?_ | refine e_here ?_ | refine o_exit ?_)) | refine s_reg ?_ | refine s_ifT ?_ | refine s_ifF ?_ | refine s_if rfl (fun hb => ?_) (fun hb => ?_) | refine r_end ?_ | refine s_endD ?_ | refine s_skipS ?_ | refine s_move ?_ | refine s_assign ?_ | refine s_int ?_ | refine s_eqA ?_ | refine s_loadF1 ?_ | refine s_loadB1 ?_ | refine s_loadFA ?_ | refine s_loadBA ?_ | refine s_loadAA ?_ (he' := (by first | exact hv1 | exact hv2 | exact hv3 | exact rfl)) | refine s_indexD ?_ (hel := (by first | exact idx_map hv1 (by omega) | exact idx_map hv2 (by omega) | exact idx_map hv3 (by omega) | exact hv1 | exact hv2 | exact hv3 | exact rfl)) | refine s_indexA ?_ | refine s_fieldF ?_ | refine s_fieldB ?_ | refine s_fieldA ?_ | refine s_call (hcm) ?_ | refine s_pick ?_ | refine s_lenD ?_ | refine s_lenA ?_ | refine s_appA ?_ | refine s_storeB ?_ | refine s_storeA ?_ (hj := (by first | exact hv1 | exact hv2 | exact hv3 | exact rfl)) | refine s_bslice0 ?_ | refine s_bslice ?_ | refine s_not ?_ | refine s_box ?_ | refine s_build ?_ | refine s_kT ?_ | refine f_ret3 def_nil ?_ ?_ ?_ | refine t_tmp ?_ | refine t_tmpA rfl rfl ?_ ?_)
        apply s_round p
        · repeat' (first | exact slots_nil | refine w1 ?_ | refine w2 ?_ ?_ | exact memIn_nil | refine memIn_same ?_ | refine m1 ?_ ?_ | omega)
        · refine memIn_same (memIn_same ?_)
          exact memIn_arr rfl hsw memIn_nil
        · exact ⟨by omega, hinv'⟩
        · omega
      · have hfin : m.take (p + 1) ++ u :: m.drop (p + 1) = bub cLt u m := by
          rw [← hinv, bubR, if_neg (by simp [cLt]; omega), List.reverse_reverse, List.take_add_one, hq]; simp
        repeat' (first | (with_reducible (first | refine k_seq ?_ | refine k_block ?_ | refine k_skip ?_ | refine k_exit ?_ | refine k_ret ?_ | refine n_seq ?_ | refine n_block ?_ | refine e_seq ?_ | refine e_here ?_ | refine o_exit ?_)) | refine s_reg ?_ | refine s_ifT ?_ | refine s_ifF ?_ | refine s_if rfl (fun hb => ?_) (fun hb => ?_) | refine r_end ?_ | refine s_endD ?_ | refine s_skipS ?_ | refine s_move ?_ | refine s_assign ?_ | refine s_int ?_ | refine s_eqA ?_ | refine s_loadF1 ?_ | refine s_loadB1 ?_ | refine s_loadFA ?_ | refine s_loadBA ?_ | refine s_loadAA ?_ (he' := (by first | exact hv1 | exact hv2 | exact hv3 | exact rfl)) | refine s_indexD ?_ (hel := (by first | exact idx_map hv1 (by omega) | exact idx_map hv2 (by omega) | exact idx_map hv3 (by omega) | exact hv1 | exact hv2 | exact hv3 | exact rfl)) | refine s_indexA ?_ | refine s_fieldF ?_ | refine s_fieldB ?_ | refine s_fieldA ?_ | refine s_call (hcm) ?_ | refine s_call (h6) ?_ | refine s_pick ?_ | refine s_lenD ?_ | refine s_lenA ?_ | refine s_appA ?_ | refine s_storeB ?_ | refine s_storeA ?_ (hj := (by first | exact hv1 | exact hv2 | exact hv3 | exact rfl)) | refine s_bslice0 ?_ | refine s_bslice ?_ | refine s_not ?_ | refine s_box ?_ | refine s_build ?_ | refine s_kT ?_ | refine f_ret3 def_nil ?_ ?_ ?_ | refine t_tmp ?_ | refine t_tmpA rfl rfl ?_ ?_)
        all_goals first
          | (simp; done)
          | (simp; omega)
          | (rw [take_ge (by simp; omega), hfin]; rfl)
          | rfl

end Go.Proofs.Ytmejclckkmpggaa
