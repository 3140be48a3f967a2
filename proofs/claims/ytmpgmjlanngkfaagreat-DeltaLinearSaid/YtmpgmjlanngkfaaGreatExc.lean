/-
  Expressions: which lists of terms are valid.
-/
import Derived.Test.YtmpgmjlanngkfaaGreatExb
namespace Go.Proofs.YtmpgmjlanngkfaaGreat
open Go.Abs Go.RowKit
attribute [local irreducible] ARun kont MCall PCall HCall resVal SF CF CFs defersOk slotsIn memIn fin finM VLe
set_option linter.unusedSimpArgs false
set_option maxRecDepth 100000
set_option maxHeartbeats 4000000

theorem exprValid1_d : DeferOk Tryz.prog 154 0 := by
  refine ⟨⟨_, Tryz.func154, by kernel_rfl, by kernel_rfl⟩, fun vs w hl => ?_⟩
  match vs, hl with
  | [], _ =>
    refine callsD_of_wpS Tryz.func154 rfl fun c₀ cs hu => ?_
    apply wpS_region
    simp [wpOpsS, go_sem, recoverD, hu, Tryz.ntmps154, Exit.thenS]
    cases c₀
    simp_all [bodyPostS, results, Tryz.results154]

def measR (e : List Trm) (pos n : Nat) : Nat × Nat := match parse [] n (e.drop pos) with
  | none => (0, pos)
  | some (x, r) => (x.1, e.length - r.length)

theorem measure_c (e : List Trm) (hl : e.length ≤ 100000) : ∀ (n pos : Nat), n ≤ 200000 → pos ≤ e.length → e.length - pos < n → PCall Tryz.prog 155 [.one (exprD e), .one (.lit (.int .i64 pos))] (.tup [.one (.lit (.int .i64 (measR e pos n).1)), .one (.lit (.int .i64 (measR e pos n).2))]) := by
  intro n
  induction n with
  | zero => intro pos _ _ h; omega
  | succ n ih =>
    intro pos hn2 hp hn
    by_cases hlt : pos < e.length
    · have hv : e[pos]? = some e[pos] := List.getElem?_eq_getElem hlt
      generalize e[pos] = t at hv
      have hd : e.drop pos = t :: e.drop (pos + 1) := drop_cons hv
      have h1 := validTerm_c t
      cases ht : termOK t with
      | false =>
        rw [ht] at h1
        have hm : measR e pos (n + 1) = (0, pos) := by rw [measR, hd, parse_bad ht]
        rw [hm]
        dsimp only
        clear ih
        refine pcallN hT Tryz.func155 Tryz.ntmps155 [.tmp 4, .tmp 5] fun B => ?_
        repeat' (first | (with_reducible (first | refine k_seq ?_ | refine k_block ?_ | refine k_skip ?_ | refine k_exit ?_ | refine k_ret ?_ | refine n_seq ?_ | refine n_block ?_ | refine e_seq ?_ | refine e_here ?_ | refine r_seq ?_ | refine r_block ?_ | refine o_exit ?_ | refine o_ret ?_)) | refine s_reg ?_ | refine s_ifT ?_ | refine s_ifF ?_ | refine r_end ?_ | refine s_skipS ?_ | refine s_move ?_ | refine s_assign ?_ | refine s_int ?_ | refine s_loadF1 ?_ | refine s_loadFA ?_ | refine s_indexD ?_ (hel := (by first | exact idx_map hv (by omega) | exact hv | exact rfl)) | refine s_fieldF ?_ | refine s_call (h1) ?_ | refine s_pick ?_ | refine s_lenD ?_ | refine s_max ?_ | refine s_extract ?_ | refine s_not ?_ | refine s_kT ?_ | refine s_kF ?_ | refine f_ret2 def_nil ?_ ?_ | refine t_tmp ?_)
        all_goals rfl
      | true =>
        rw [ht] at h1
        have h0 : 0 ≤ aryE t.op := by
          simp only [termOK, Bool.and_eq_true, decide_eq_true_eq] at ht
          exact ht.1
        have h3 := (aryE_bd t.op).2
        obtain ⟨k, hk⟩ := Int.eq_ofNat_of_zero_le h0
        have h2 := arity_c t.op
        have hmk : ∀ {xs r}, seqP (parse [] n) k (e.drop (pos + 1)) = some (xs, r) → measR e pos (n + 1) = (1 + maxL (xs.map Prod.fst), e.length - r.length) := fun {xs r} hs => by
          rw [measR, hd, parse_mk ht (by rw [hk]; exact hs)]
        have hno : seqP (parse [] n) k (e.drop (pos + 1)) = none → measR e pos (n + 1) = (0, pos) := fun hs => by
          rw [measR, hd, parse_no (by rw [hk]; exact hs)]
        rw [hk] at h2
        clear hd ht h0
        refine pcallN hT Tryz.func155 Tryz.ntmps155 [.tmp 4, .tmp 5] fun B => ?_
        repeat' (first | (with_reducible (first | refine k_seq ?_ | refine k_block ?_ | refine k_skip ?_ | refine k_exit ?_ | refine k_ret ?_ | refine n_seq ?_ | refine n_block ?_ | refine e_seq ?_ | refine e_here ?_ | refine r_seq ?_ | refine r_block ?_ | refine o_exit ?_ | refine o_ret ?_)) | refine s_reg ?_ | refine s_ifT ?_ | refine s_ifF ?_ | refine r_end ?_ | refine s_skipS ?_ | refine s_move ?_ | refine s_assign ?_ | refine s_int ?_ | refine s_loadF1 ?_ | refine s_loadFA ?_ | refine s_indexD ?_ (hel := (by first | exact idx_map hv (by omega) | exact hv | exact rfl)) | refine s_fieldF ?_ | refine s_call (h1) ?_ | refine s_call (h2) ?_ | refine s_pick ?_ | refine s_lenD ?_ | refine s_max ?_ | refine s_extract ?_ | refine s_not ?_ | refine s_kT ?_ | refine s_kF ?_ | refine f_ret2 def_nil ?_ ?_ | refine t_tmp ?_)
        refine s_lp (X := Nat × Nat × Nat) [4, 5, 6, 7, 8, 9, 31, 32, 33, 34, 35, 36, 37, 38, 39, 40, 41, 42, 43, 44, 45, 46] (fun x => x.1 ≤ k ∧ pos + 1 ≤ x.2.2 ∧ x.2.2 ≤ e.length ∧ ∃ xs, seqP (parse [] n) x.1 (e.drop (pos + 1)) = some (xs, e.drop x.2.2) ∧ x.2.1 = maxL (xs.map Prod.fst) ∧ x.2.1 ≤ n) (fun x lz => (6, (.c (.d (.lit (.int .i64 x.2.1))))) :: (7, (.c (.d (.lit (.int .i64 x.2.2))))) :: (31, (.c (.d (.lit (.int .i64 x.1))))) :: lz) (fun x => []) (fun x => k - x.1) ((0, 0, pos + 1)) ?_ ?_ ?_ ?_
        repeat' (first | exact slots_nil | refine w1 ?_ | exact memIn_nil | omega)
        · dsimp only; exact ⟨by omega, by omega, by omega, [], rfl, rfl, by omega⟩
        rintro ⟨i, dp, en⟩ c ⟨hi, he1, he2, xs, hs, hdp, hdn⟩
        dsimp only at hi he1 he2 hs hdp hdn ⊢
        by_cases hik : i < k
        · have hc := ih en (by omega) he2 (by omega)
          cases hq : parse [] n (e.drop en) with
          | none =>
            have hm : measR e en n = (0, en) := by rw [measR, hq]
            rw [hm] at hc
            rw [hno (seqP_fail hs hq k hik)]
            dsimp only at hc ⊢
            clear ih hmk hno
            repeat' (first | (with_reducible (first | refine k_seq ?_ | refine k_block ?_ | refine k_skip ?_ | refine k_exit ?_ | refine k_ret ?_ | refine n_seq ?_ | refine n_block ?_ | refine e_seq ?_ | refine e_here ?_ | refine r_seq ?_ | refine r_block ?_ | refine o_exit ?_ | refine o_ret ?_)) | refine s_reg ?_ | refine s_ifT ?_ | refine s_ifF ?_ | refine r_end ?_ | refine s_skipS ?_ | refine s_move ?_ | refine s_assign ?_ | refine s_int ?_ | refine s_loadF1 ?_ | refine s_loadFA ?_ | refine s_indexD ?_ (hel := (by first | exact idx_map hv (by omega) | exact hv | exact rfl)) | refine s_fieldF ?_ | refine s_call (hc) ?_ | refine s_pick ?_ | refine s_lenD ?_ | refine s_max ?_ | refine s_extract ?_ | refine s_not ?_ | refine s_kT ?_ | refine s_kF ?_ | refine f_ret2 def_nil ?_ ?_ | refine t_tmp ?_)
            all_goals rfl
          | some q =>
            obtain ⟨y, r⟩ := q
            obtain ⟨j, hj1, hj2, hj3⟩ := parse_len hq
            rw [List.length_drop] at hj2
            rw [List.drop_drop] at hj3
            obtain ⟨-, hy1, hy2⟩ := parse_valid [] n _ y r hq
            have hm : measR e en n = (y.1, en + j) := by
              rw [measR, hq]
              simp only [hj3, List.length_drop]
              congr 1
              omega
            rw [hm] at hc
            rw [hj3] at hq
            have hs' := seqP_step hs hq
            have hd' : max dp y.1 = maxL ((xs ++ [y]).map Prod.fst) := by rw [List.map_append, List.map_cons, List.map_nil, maxL_snoc, hdp]
            dsimp only at hc
            clear ih hmk hno hm hq hs hdp
            generalize xs ++ [y] = xs' at hs' hd'
            generalize y.1 = dy at hc hy1 hy2 hd'
            repeat' (first | (with_reducible (first | refine k_seq ?_ | refine k_block ?_ | refine k_skip ?_ | refine k_exit ?_ | refine k_ret ?_ | refine n_seq ?_ | refine n_block ?_ | refine e_seq ?_ | refine e_here ?_ | refine r_seq ?_ | refine r_block ?_ | refine o_exit ?_ | refine o_ret ?_)) | refine s_reg ?_ | refine s_ifT ?_ | refine s_ifF ?_ | refine r_end ?_ | refine s_skipS ?_ | refine s_move ?_ | refine s_assign ?_ | refine s_int ?_ | refine s_loadF1 ?_ | refine s_loadFA ?_ | refine s_indexD ?_ (hel := (by first | exact idx_map hv (by omega) | exact hv | exact rfl)) | refine s_fieldF ?_ | refine s_call (hc) ?_ | refine s_pick ?_ | refine s_lenD ?_ | refine s_max ?_ | refine s_extract ?_ | refine s_not ?_ | refine s_kT ?_ | refine s_kF ?_ | refine f_ret2 def_nil ?_ ?_ | refine t_tmp ?_)
            (apply s_round ((i + 1, max dp dy, en + j)); all_goals (try dsimp only); all_goals (try (repeat' (first | exact slots_nil | refine w1 ?_ | exact memIn_nil | omega))))
            · exact ⟨by omega, by omega, by omega, xs', hs', hd', by omega⟩
        · obtain rfl : i = k := by omega
          rw [hmk hs, List.length_drop, ← hdp]
          dsimp only
          clear ih hmk hno
          repeat' (first | (with_reducible (first | refine k_seq ?_ | refine k_block ?_ | refine k_skip ?_ | refine k_exit ?_ | refine k_ret ?_ | refine n_seq ?_ | refine n_block ?_ | refine e_seq ?_ | refine e_here ?_ | refine r_seq ?_ | refine r_block ?_ | refine o_exit ?_ | refine o_ret ?_)) | refine s_reg ?_ | refine s_ifT ?_ | refine s_ifF ?_ | refine r_end ?_ | refine s_skipS ?_ | refine s_move ?_ | refine s_assign ?_ | refine s_int ?_ | refine s_loadF1 ?_ | refine s_loadFA ?_ | refine s_indexD ?_ (hel := (by first | exact idx_map hv (by omega) | exact hv | exact rfl)) | refine s_fieldF ?_ | refine s_pick ?_ | refine s_lenD ?_ | refine s_max ?_ | refine s_extract ?_ | refine s_not ?_ | refine s_kT ?_ | refine s_kF ?_ | refine f_ret2 def_nil ?_ ?_ | refine t_tmp ?_)
          all_goals (refine congrArg Dat.lit (congrArg (Value.int _) ?_); omega)
    · have hm : measR e pos (n + 1) = (0, pos) := by rw [measR, List.drop_eq_nil_of_le (by omega)]; rfl
      rw [hm]
      dsimp only
      clear ih
      refine pcallN hT Tryz.func155 Tryz.ntmps155 [.tmp 4, .tmp 5] fun B => ?_
      repeat' (first | (with_reducible (first | refine k_seq ?_ | refine k_block ?_ | refine k_skip ?_ | refine k_exit ?_ | refine k_ret ?_ | refine n_seq ?_ | refine n_block ?_ | refine e_seq ?_ | refine e_here ?_ | refine r_seq ?_ | refine r_block ?_ | refine o_exit ?_ | refine o_ret ?_)) | refine s_reg ?_ | refine s_ifT ?_ | refine s_ifF ?_ | refine r_end ?_ | refine s_skipS ?_ | refine s_move ?_ | refine s_assign ?_ | refine s_int ?_ | refine s_loadF1 ?_ | refine s_loadFA ?_ | refine s_indexD ?_ (hel := (by first | exact rfl)) | refine s_fieldF ?_ | refine s_pick ?_ | refine s_lenD ?_ | refine s_max ?_ | refine s_extract ?_ | refine s_not ?_ | refine s_kT ?_ | refine s_kF ?_ | refine f_ret2 def_nil ?_ ?_ | refine t_tmp ?_)
      all_goals rfl

theorem exprValid_c (e : List Trm) : PCall Tryz.prog 107 [.one (exprD e)] (.v (.one (.lit (.bool (exprOK e))))) := by
  by_cases hl : 64 < e.length
  · have h0 : exprOK e = false := by rw [exprOK, decide_eq_false (by omega), Bool.false_and]
    rw [h0]
    refine pcallN hT Tryz.func107 Tryz.ntmps107 [.tmp 2] fun B => ?_
    repeat' (first | (with_reducible (first | refine k_seq ?_ | refine k_skip ?_ | refine k_ret ?_ | refine n_seq ?_ | refine r_seq ?_)) | refine s_reg ?_ | refine s_ifT ?_ | refine s_ifF ?_ | refine r_end ?_ | refine s_skipS ?_ | refine s_move ?_ | refine s_assign ?_ | refine s_int ?_ | refine s_pick ?_ | refine s_lenD ?_ | refine s_extract ?_ | refine s_defer ?_ | refine s_kT ?_ | refine s_split rfl rfl (fun hb => ?_) (fun hb => ?_) | refine f_ret1 (by repeat (first | exact def_nil | refine def_cons exprValid1_d ?_)) ?_ | refine t_tmp ?_)
    all_goals rfl
  have hc : PCall Tryz.prog 155 [.one (exprD e), .one (.lit (.int .i64 0))] (.tup [.one (.lit (.int .i64 (measR e 0 (e.length + 1)).1)), .one (.lit (.int .i64 (measR e 0 (e.length + 1)).2))]) := measure_c e (by omega) (e.length + 1) 0 (by omega) (by omega) (by omega)
  rw [measR, List.drop_zero] at hc
  cases hq : parse [] (e.length + 1) e with
  | none =>
    have h0 : exprOK e = false := by
      rw [Bool.eq_false_iff]
      intro hh
      obtain ⟨_, x, hx⟩ := (exprOK_iff e []).1 hh
      have hd := depth_len [] 16 e x [] hx
      rw [List.length_nil] at hd
      rw [parse_fuel [] 16 e x [] hx (e.length + 1) (by omega)] at hq
      cases hq
    rw [hq] at hc
    rw [h0]
    dsimp only at hc
    refine pcallN hT Tryz.func107 Tryz.ntmps107 [.tmp 2] fun B => ?_
    repeat' (first | (with_reducible (first | refine k_seq ?_ | refine k_skip ?_ | refine k_ret ?_ | refine n_seq ?_ | refine r_seq ?_)) | refine s_reg ?_ | refine s_ifT ?_ | refine s_ifF ?_ | refine r_end ?_ | refine s_skipS ?_ | refine s_move ?_ | refine s_assign ?_ | refine s_int ?_ | refine s_call (hc) ?_ | refine s_pick ?_ | refine s_lenD ?_ | refine s_extract ?_ | refine s_defer ?_ | refine s_kT ?_ | refine s_split rfl rfl (fun hb => ?_) (fun hb => ?_) | refine f_ret1 (by repeat (first | exact def_nil | refine def_cons exprValid1_d ?_)) ?_ | refine t_tmp ?_)
    all_goals rfl
  | some q =>
    obtain ⟨y, r⟩ := q
    obtain ⟨-, hy1, -⟩ := parse_valid [] _ _ y r hq
    obtain ⟨j, hj1, hj2, hj3⟩ := parse_len hq
    rw [hq] at hc
    dsimp only at hc
    have hrl : r.length ≤ e.length := by rw [hj3, List.length_drop]; omega
    have h0 : exprOK e = (decide (y.1 ≤ 16) && decide (r.length = 0)) := by
      rw [Bool.eq_iff_iff, exprOK_iff e [], Bool.and_eq_true, decide_eq_true_eq, decide_eq_true_eq]
      constructor
      · rintro ⟨_, x, hx⟩
        have hd := depth_len [] 16 e x [] hx
        rw [List.length_nil] at hd
        rw [parse_fuel [] 16 e x [] hx (e.length + 1) (by omega)] at hq
        simp only [Option.some.injEq, Prod.mk.injEq] at hq
        obtain ⟨rfl, rfl⟩ := hq
        exact ⟨(parse_valid [] 16 e x [] hx).2.2, rfl⟩
      · rintro ⟨h1, h2⟩
        obtain rfl := List.length_eq_zero_iff.1 h2
        exact ⟨by omega, y, parse_fuel [] _ e y [] hq 16 h1⟩
    rw [h0]
    have hyl : y.1 ≤ e.length + 1 := (parse_valid [] _ _ y r hq).2.2
    clear h0 hj3 hq
    generalize y.1 = dy at *
    generalize r.length = rl at *
    refine pcallN hT Tryz.func107 Tryz.ntmps107 [.tmp 2] fun B => ?_
    repeat' (first | (with_reducible (first | refine k_seq ?_ | refine k_skip ?_ | refine k_ret ?_ | refine n_seq ?_ | refine r_seq ?_)) | refine s_reg ?_ | refine s_ifT ?_ | refine s_ifF ?_ | refine r_end ?_ | refine s_skipS ?_ | refine s_move ?_ | refine s_assign ?_ | refine s_int ?_ | refine s_call (hc) ?_ | refine s_pick ?_ | refine s_lenD ?_ | refine s_extract ?_ | refine s_defer ?_ | refine s_kT ?_ | refine s_split rfl rfl (fun hb => ?_) (fun hb => ?_) | refine f_ret1 (by repeat (first | exact def_nil | refine def_cons exprValid1_d ?_)) ?_ | refine t_tmp ?_)
    all_goals (refine congrArg Dat.lit (congrArg Value.bool ?_); rw [Bool.eq_iff_iff]; simp; omega)
end Go.Proofs.YtmpgmjlanngkfaaGreat
