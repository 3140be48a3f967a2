/-
  bag.Count and the document's Count.
-/
import Derived.Test.YtgfachlcocjdbaaBao
namespace Go.Proofs.Ytgfachlcocjdbaa
open Go.Abs Go.RowKit
attribute [local irreducible] ARun kont MCall PCall HCall resVal SF CF CFs defersOk slotsIn memIn fin finM VLe
set_option linter.unusedSimpArgs false
set_option maxRecDepth 100000
set_option maxHeartbeats 4000000

theorem count1_d : DeferOk Try.prog 59 0 := by
  refine ⟨⟨_, Try.func59, by kernel_rfl, by kernel_rfl⟩, fun vs w hl => ?_⟩
  match vs, hl with
  | [], _ =>
    refine callsD_of_wpS Try.func59 rfl fun c₀ cs hu => ?_
    apply wpS_region
    simp [wpOpsS, go_sem, recoverD, hu, Try.ntmps59, Exit.thenS]
    cases c₀
    simp_all [bodyPostS, results, Try.results59]

theorem countF_h (b : List Entry) (r : List Val) (i : Nat) (e : Entry) (hv : b[i]? = some e) : HCall Try.prog 61 [(.c (.d (.lit (.int .i64 (i : Int))))), .c (.bp 0 0 0), .c (.bp 1 0 0)] [.box 0 [.d (rowD r)], .box 0 [.d (bagD b)]] (.c (.d (.lit (.int .i64 (rowCmp r e.row))))) [.box 0 [.d (rowD r)], .box 0 [.d (bagD b)]] := by
  have hl := lt_of_getElem? hv
  refine hcallN hT Try.func61 Try.ntmps61 [.tmp 4] fun B => ?_
  repeat' (first | (with_reducible (first | refine k_seq ?_ | refine k_ret ?_ | refine n_seq ?_)) | refine s_reg ?_ | refine r_end ?_ | refine s_endD ?_ | refine s_move ?_ | refine s_assign ?_ | refine s_loadF1 ?_ | refine s_loadB1 ?_ | refine s_indexD ?_ (hel := (by first | exact idx_map hv (by omega) | exact hv | exact rfl)) | refine s_fieldF ?_ | refine s_call (compareRows_c _ _) ?_ | refine fh_ret1 def_nil ?_ ?_ | exact memIn_nil | refine memIn_same ?_ | exact am_same)

theorem mono {r s t : List Val} (h1 : rowCmp r s ≤ 0) (h2 : rowCmp s t < 0) : rowCmp r t ≤ 0 := by
  by_cases h : rowCmp r s = 0
  · by_cases h3 : rowCmp t r < 0
    · have h4 := rowCmp_ok.trans _ _ _ h2 h3
      have := cmp0_symm h
      omega
    · have := rowCmp_ok.anti r t
      by_cases h5 : rowCmp t r = 0
      · have := cmp0_symm (cmp0_trans h5 h)
        omega
      · omega
  · have := rowCmp_ok.trans r s t (by omega) h2
    omega

def posE (b : List Entry) (r : List Val) : Nat := b.findIdx (fun e => decide (rowCmp r e.row ≤ 0))
theorem posE_le (b : List Entry) (r : List Val) : posE b r ≤ b.length := List.findIdx_le_length
theorem posE_lt {b : List Entry} {r : List Val} {j : Nat} {e : Entry} (hv : b[j]? = some e) (h : j < posE b r) : 0 < rowCmp r e.row := by
  have hl := lt_of_getElem? hv
  have h1 := List.not_of_lt_findIdx h
  rw [List.getElem?_eq_getElem hl] at hv
  injection hv with hv
  rw [hv] at h1
  simp only [decide_eq_false_iff_not, Bool.not_eq_true, decide_eq_true_eq] at h1
  omega
theorem posE_ge {b : List Entry} {r : List Val} (hs : b.Pairwise eR) {j : Nat} {e : Entry} (hv : b[j]? = some e) (h : posE b r ≤ j) : rowCmp r e.row ≤ 0 := by
  have hl := lt_of_getElem? hv
  have hp : posE b r < b.length := by omega
  have h1 : rowCmp r (b[posE b r]).row ≤ 0 := by
    have := List.findIdx_getElem (xs := b) (p := fun e : Entry => decide (rowCmp r e.row ≤ 0)) (w := hp)
    exact of_decide_eq_true this
  rw [List.getElem?_eq_getElem hl] at hv
  injection hv with hv
  by_cases hq : posE b r = j
  · subst hq; rw [← hv]; exact h1
  · have := (List.pairwise_iff_getElem.1 hs) (posE b r) j hp hl (by omega)
    rw [← hv]
    exact mono h1 this

theorem conv_mid {a : Nat} (h : a ≤ 1000000000) : IntKind.i64.wrap (shrInt .u64 (IntKind.u64.wrap (a : Int)) 1) = ((a / 2 : Nat) : Int) := by
  have h1 : IntKind.u64.wrap (a : Int) = (a : Int) := by
    simp only [IntKind.wrap, IntKind.signed, IntKind.bits, Bool.false_and, Bool.false_eq_true, if_false]
    omega
  have h2 : shrInt .u64 (a : Int) 1 = ((a / 2 : Nat) : Int) := by
    show (a : Int).fdiv 2 = _
    rw [Int.fdiv_eq_ediv_of_nonneg _ (by omega)]; omega
  rw [h1, h2]
  exact wrap_i64 (by omega) (by omega)

theorem find_h (b : List Entry) (r : List Val) (hb : bagValid b = true) (fo : Bool) (hfo : fo = match b[posE b r]? with | some e => decide (rowCmp r e.row = 0) | none => false) : HCall Try.prog 60 [(.c (.d (.lit (.int .i64 (b.length : Int))))), .c (.clo 61 [.bp 0 0 0, .bp 1 0 0])] [.box 0 [.d (rowD r)], .box 0 [.d (bagD b)]] (.tup [(.c (.d (.lit (.int .i64 (posE b r : Int))))), .c (.d (.lit (.bool fo)))]) [.box 0 [.d (rowD r)], .box 0 [.d (bagD b)]] := by
  have hpl := posE_le b r
  have hsrt := (sorted_of_valid hb).up
  have hbl := (valid_mem hb).1
  have hlt := fun j e (hv : b[j]? = some e) => posE_lt (r := r) hv
  have hge := fun j e (hv : b[j]? = some e) => posE_ge (r := r) hsrt hv
  generalize posE b r = p at hpl hlt hge hfo
  refine hcallN hT Try.func60 Try.ntmps60 [.tmp 4, .tmp 5] fun B => ?_
  repeat' (first | (with_reducible (first | refine k_seq ?_ | refine k_block ?_ | refine k_skip ?_ | refine k_exit ?_ | refine k_ret ?_ | refine n_seq ?_ | refine n_block ?_ | refine e_seq ?_ | refine e_here ?_ | refine o_exit ?_)) | refine s_reg ?_ | refine s_ifT ?_ | refine s_ifF ?_ | refine r_end ?_ | refine s_skipS ?_ | refine s_move ?_ | refine s_assign ?_ | refine s_int ?_ | refine s_shr ?_ | refine s_pick ?_ | refine s_conv ?_ | refine s_kT ?_ | refine s_kF ?_ | refine fh_ret2 def_nil ?_ ?_ | exact memIn_nil | refine memIn_same ?_ | exact am_same)
  refine s_lp (X := Nat × Nat) [4, 6, 7, 9, 10, 11, 12, 13, 14, 15, 16, 17, 18, 19, 20, 21, 22, 23, 24] (fun x => x.1 ≤ p ∧ p ≤ x.2 ∧ x.2 ≤ b.length) (fun x lz => (4, (.c (.d (.lit (.int .i64 x.1))))) :: (6, (.c (.d (.lit (.int .i64 x.2))))) :: lz) (fun x => [.box 0 [.d (rowD r)], .box 0 [.d (bagD b)]]) (fun x => x.2 - x.1) ((0, b.length)) ?_ ?_ ?_ ?_
  repeat' (first | exact slots_nil | refine w1 ?_ | exact memIn_nil | refine memIn_same ?_ | omega)
  rintro ⟨lo, hi⟩ c ⟨h1, h2, h3⟩
  dsimp only at h1 h2 h3 ⊢
  by_cases hlh : lo < hi
  · have hmid := conv_mid (a := lo + hi) (by omega)
    rw [Int.natCast_add] at hmid
    obtain ⟨m, hm⟩ : ∃ m, m = (lo + hi) / 2 := ⟨_, rfl⟩
    rw [← hm] at hmid
    have hv : b[m]? = some b[m] := List.getElem?_eq_getElem (by omega)
    generalize b[m] = e at hv
    have hcl := countF_h b r m e hv
    have q1 := hlt m e hv
    have q2 := hge m e hv
    generalize rowCmp r e.row = z at hcl q1 q2
    repeat' (first | (with_reducible (first | refine k_seq ?_ | refine k_block ?_ | refine k_skip ?_ | refine k_exit ?_ | refine k_ret ?_ | refine n_seq ?_ | refine n_block ?_ | refine e_seq ?_ | refine e_here ?_ | refine o_exit ?_)) | refine s_reg ?_ | refine s_ifT ?_ | refine s_ifF ?_ | refine r_end ?_ | refine s_skipS ?_ | refine s_move ?_ | refine s_assign ?_ | refine s_int ?_ | refine s_shr ?_ | refine s_callH [0, 1] (hcl) ?_ | refine s_pick ?_ | refine s_conv ?_ | refine s_kT ?_ | refine s_kF ?_ | refine fh_ret2 def_nil ?_ ?_ | exact memIn_nil | refine memIn_same ?_ | exact am_same)
    rw [hmid]
    by_cases hmp : m < p
    · have q3 := q1 hmp
      repeat' (first | (with_reducible (first | refine k_seq ?_ | refine k_block ?_ | refine k_skip ?_ | refine k_exit ?_ | refine k_ret ?_ | refine n_seq ?_ | refine n_block ?_ | refine e_seq ?_ | refine e_here ?_ | refine o_exit ?_)) | refine s_reg ?_ | refine s_ifT ?_ | refine s_ifF ?_ | refine r_end ?_ | refine s_skipS ?_ | refine s_move ?_ | refine s_assign ?_ | refine s_int ?_ | refine s_shr ?_ | refine s_callH [0, 1] (hcl) ?_ | refine s_pick ?_ | refine s_conv ?_ | refine s_kT ?_ | refine s_kF ?_ | refine fh_ret2 def_nil ?_ ?_ | exact memIn_nil | refine memIn_same ?_ | exact am_same)
      (apply s_round ((m + 1, hi)); all_goals (try dsimp only); all_goals (try (repeat' (first | exact slots_nil | refine w1 ?_ | exact memIn_nil | refine memIn_same ?_ | omega))))
    · have q3 := q2 (by omega)
      repeat' (first | (with_reducible (first | refine k_seq ?_ | refine k_block ?_ | refine k_skip ?_ | refine k_exit ?_ | refine k_ret ?_ | refine n_seq ?_ | refine n_block ?_ | refine e_seq ?_ | refine e_here ?_ | refine o_exit ?_)) | refine s_reg ?_ | refine s_ifT ?_ | refine s_ifF ?_ | refine r_end ?_ | refine s_skipS ?_ | refine s_move ?_ | refine s_assign ?_ | refine s_int ?_ | refine s_shr ?_ | refine s_callH [0, 1] (hcl) ?_ | refine s_pick ?_ | refine s_conv ?_ | refine s_kT ?_ | refine s_kF ?_ | refine fh_ret2 def_nil ?_ ?_ | exact memIn_nil | refine memIn_same ?_ | exact am_same)
      (apply s_round ((lo, m)); all_goals (try dsimp only); all_goals (try (repeat' (first | exact slots_nil | refine w1 ?_ | exact memIn_nil | refine memIn_same ?_ | omega))))
  · obtain rfl : lo = p := by omega
    by_cases hpe : lo < b.length
    · have hv : b[lo]? = some b[lo] := List.getElem?_eq_getElem hpe
      generalize b[lo] = e at hv
      have hcl := countF_h b r lo e hv
      rw [hv] at hfo
      dsimp only at hfo
      generalize rowCmp r e.row = z at hcl hfo
      subst hfo
      repeat' (first | (with_reducible (first | refine k_seq ?_ | refine k_block ?_ | refine k_skip ?_ | refine k_exit ?_ | refine k_ret ?_ | refine n_seq ?_ | refine n_block ?_ | refine e_seq ?_ | refine e_here ?_ | refine o_exit ?_)) | refine s_reg ?_ | refine s_ifT ?_ | refine s_ifF ?_ | refine r_end ?_ | refine s_skipS ?_ | refine s_move ?_ | refine s_assign ?_ | refine s_int ?_ | refine s_shr ?_ | refine s_callH [0, 1] (hcl) ?_ | refine s_pick ?_ | refine s_conv ?_ | refine s_kT ?_ | refine s_kF ?_ | refine fh_ret2 def_nil ?_ ?_ | exact memIn_nil | refine memIn_same ?_ | exact am_same)
      all_goals trace_state
    · rw [List.getElem?_eq_none (by omega)] at hfo
      dsimp only at hfo
      subst hfo
      repeat' (first | (with_reducible (first | refine k_seq ?_ | refine k_block ?_ | refine k_skip ?_ | refine k_exit ?_ | refine k_ret ?_ | refine n_seq ?_ | refine n_block ?_ | refine e_seq ?_ | refine e_here ?_ | refine o_exit ?_)) | refine s_reg ?_ | refine s_ifT ?_ | refine s_ifF ?_ | refine r_end ?_ | refine s_skipS ?_ | refine s_move ?_ | refine s_assign ?_ | refine s_int ?_ | refine s_shr ?_ | refine s_pick ?_ | refine s_conv ?_ | refine s_kT ?_ | refine s_kF ?_ | refine fh_ret2 def_nil ?_ ?_ | exact memIn_nil | refine memIn_same ?_ | exact am_same)
      all_goals trace_state

def cntE (b : List Entry) (r : List Val) : Int := if bagValid b then sumK b r else 0

theorem count_c (b : List Entry) (r : List Val) : PCall Try.prog 29 [.one (bagD b), .one (rowD r)] (.v (.one (.lit (.int .i64 (cntE b r))))) := by
  have hvc := bagValid_c b
  cases hb : bagValid b with
  | false =>
    rw [hb] at hvc
    have he : cntE b r = 0 := by simp [cntE, hb]
    rw [he]
    refine pcallN hT Try.func29 Try.ntmps29 [.tmp 4] fun B => ?_
    repeat' (first | (with_reducible (first | refine k_seq ?_ | refine k_skip ?_ | refine k_ret ?_ | refine n_seq ?_ | refine r_seq ?_)) | refine s_reg ?_ | refine s_ifT ?_ | refine s_ifF ?_ | refine r_end ?_ | refine s_move ?_ | refine s_assign ?_ | refine s_loadF1 ?_ | refine s_loadB1 ?_ | refine s_indexD ?_ (hel := (by first | exact rfl)) | refine s_fieldF ?_ | refine s_call (hvc) ?_ | refine s_lenD ?_ | refine s_extract ?_ | refine s_not ?_ | refine s_box ?_ | refine s_funcC ?_ | refine s_defer ?_ | refine f_ret1 (by repeat (first | exact def_nil | refine def_cons count1_d ?_)) ?_ | refine t_tmp ?_)
    all_goals rfl
  | true =>
    rw [hb] at hvc
    have he : cntE b r = sumK b r := by simp [cntE, hb]
    have hf := find_h b r hb _ rfl
    have hs := (sorted_of_valid hb).up
    have hbl := (valid_mem hb).1
    by_cases hpe : ∃ e, b[posE b r]? = some e ∧ rowCmp r e.row = 0
    · obtain ⟨e, hv, h0⟩ := hpe
      have hpl := lt_of_getElem? hv
      rw [he, sumK_mem (apart_of_sorted hs) (List.mem_of_getElem? hv) (cmp0_symm h0)]
      rw [hv] at hf
      dsimp only at hf
      rw [decide_eq_true h0] at hf
      generalize posE b r = p at hv hf hpl
      refine pcallN hT Try.func29 Try.ntmps29 [.tmp 4] fun B => ?_
      repeat' (first | (with_reducible (first | refine k_seq ?_ | refine k_skip ?_ | refine k_ret ?_ | refine n_seq ?_ | refine r_seq ?_)) | refine s_reg ?_ | refine s_ifT ?_ | refine s_ifF ?_ | refine r_end ?_ | refine s_move ?_ | refine s_assign ?_ | refine s_loadF1 ?_ | refine s_loadB1 ?_ | refine s_indexD ?_ (hel := (by first | exact idx_map hv (by omega) | exact hv | exact rfl)) | refine s_fieldF ?_ | refine s_call (hvc) ?_ | refine s_callH [1, 0] (hf) ?_ | refine s_lenD ?_ | refine s_extract ?_ | refine s_not ?_ | refine s_box ?_ | refine s_funcC ?_ | refine s_defer ?_ | refine f_ret1 (by repeat (first | exact def_nil | refine def_cons count1_d ?_)) ?_ | refine t_tmp ?_)
      all_goals first | rfl | trace_state
    · have h0 : sumK b r = 0 := sumK_none fun e he h => by
        obtain ⟨j, hj⟩ := List.mem_iff_getElem?.1 he
        have h' := cmp0_symm h
        have hp : posE b r ≤ j := by
          by_cases hq : j < posE b r
          · have := posE_lt hj hq; omega
          · omega
        have hjl := lt_of_getElem? hj
        have hv : b[posE b r]? = some b[posE b r] := List.getElem?_eq_getElem (by omega)
        generalize b[posE b r] = e0 at hv
        have h1 := posE_ge hs hv (Nat.le_refl _)
        by_cases hq : posE b r = j
        · rw [hq] at hv hpe; exact hpe ⟨e, hj, h'⟩
        · have h2 : rowCmp e0.row e.row < 0 := by
            have := (List.pairwise_iff_getElem.1 hs) (posE b r) j (by omega) hjl (by omega)
            rw [List.getElem?_eq_getElem hjl] at hj
            rw [List.getElem?_eq_getElem (by omega)] at hv
            injection hj with hj
            injection hv with hv
            rw [hj, hv] at this
            exact this
          have h3 : rowCmp r e0.row ≠ 0 := fun h => hpe ⟨e0, hv, h⟩
          have := rowCmp_ok.trans _ _ _ (show rowCmp r e0.row < 0 by omega) h2
          omega
      have hfb : (match b[posE b r]? with | some e => decide (rowCmp r e.row = 0) | none => false) = false := by
        cases hq : b[posE b r]? with
        | none => rfl
        | some e => exact decide_eq_false fun h => hpe ⟨e, hq, h⟩
      rw [hfb] at hf
      rw [he, h0]
      generalize posE b r = p at hf
      refine pcallN hT Try.func29 Try.ntmps29 [.tmp 4] fun B => ?_
      repeat' (first | (with_reducible (first | refine k_seq ?_ | refine k_skip ?_ | refine k_ret ?_ | refine n_seq ?_ | refine r_seq ?_)) | refine s_reg ?_ | refine s_ifT ?_ | refine s_ifF ?_ | refine r_end ?_ | refine s_move ?_ | refine s_assign ?_ | refine s_loadF1 ?_ | refine s_loadB1 ?_ | refine s_indexD ?_ (hel := (by first | exact rfl)) | refine s_fieldF ?_ | refine s_call (hvc) ?_ | refine s_callH [1, 0] (hf) ?_ | refine s_lenD ?_ | refine s_extract ?_ | refine s_not ?_ | refine s_box ?_ | refine s_funcC ?_ | refine s_defer ?_ | refine f_ret1 (by repeat (first | exact def_nil | refine def_cons count1_d ?_)) ?_ | refine t_tmp ?_)
      all_goals first | rfl | trace_state

theorem refCount_c (b : List Entry) (r : List Val) : PCall Try.prog 30 [.one (bagD b), .one (rowD r)] (.v (.one (.lit (.int .i64 (cntE b r))))) := by
  have hvc := refBagValid_c b
  cases hb : bagValid b with
  | false =>
    rw [hb] at hvc
    have he : cntE b r = 0 := by simp [cntE, hb]
    rw [he]
    refine pcallN hT Try.func30 Try.ntmps30 [.tmp 4] fun B => ?_
    repeat' (first | (with_reducible (first | refine k_seq ?_ | refine k_block ?_ | refine k_skip ?_ | refine k_exit ?_ | refine k_ret ?_ | refine n_seq ?_ | refine n_block ?_ | refine e_seq ?_ | refine e_here ?_ | refine r_seq ?_ | refine r_block ?_ | refine o_exit ?_ | refine o_ret ?_)) | refine s_reg ?_ | refine s_ifT ?_ | refine s_ifF ?_ | refine r_end ?_ | refine s_move ?_ | refine s_assign ?_ | refine s_int ?_ | refine s_loadF1 ?_ | refine s_indexD ?_ (hel := (by first | exact rfl)) | refine s_fieldF ?_ | refine s_call (hvc) ?_ | refine s_lenD ?_ | refine s_not ?_ | refine f_ret1 def_nil ?_ | refine t_tmp ?_)
    all_goals rfl
  | true =>
    rw [hb] at hvc
    have he : cntE b r = sumK b r := by simp [cntE, hb]
    have hs := (sorted_of_valid hb).up
    have hbl := (valid_mem hb).1
    rw [he]
    refine pcallN hT Try.func30 Try.ntmps30 [.tmp 4] fun B => ?_
    repeat' (first | (with_reducible (first | refine k_seq ?_ | refine k_block ?_ | refine k_skip ?_ | refine k_exit ?_ | refine k_ret ?_ | refine n_seq ?_ | refine n_block ?_ | refine e_seq ?_ | refine e_here ?_ | refine r_seq ?_ | refine r_block ?_ | refine o_exit ?_ | refine o_ret ?_)) | refine s_reg ?_ | refine s_ifT ?_ | refine s_ifF ?_ | refine r_end ?_ | refine s_move ?_ | refine s_assign ?_ | refine s_int ?_ | refine s_loadF1 ?_ | refine s_indexD ?_ (hel := (by first | exact rfl)) | refine s_fieldF ?_ | refine s_call (hvc) ?_ | refine s_lenD ?_ | refine s_not ?_ | refine f_ret1 def_nil ?_ | refine t_tmp ?_)
    refine s_lp (X := Nat) [4, 5, 9, 10, 11, 12, 13, 14, 15, 16, 17, 18, 19, 20, 21, 22, 23, 24, 25, 26, 27] (fun x => x ≤ b.length ∧ (∀ j e, b[j]? = some e → j < x → rowCmp e.row r ≠ 0)) (fun x lz => (5, (.c (.d (.lit (.int .i64 x))))) :: lz) (fun x => []) (fun x => b.length - x) (0) ?_ ?_ ?_ ?_
    repeat' (first | exact slots_nil | refine w1 ?_ | exact memIn_nil | omega)
    · exact ⟨by omega, fun j e _ h => by omega⟩
    rintro i c ⟨hi, hinv⟩
    by_cases hlt : i < b.length
    · have hv : b[i]? = some b[i] := List.getElem?_eq_getElem hlt
      have hmem := List.getElem_mem hlt
      generalize b[i] = e at hv hmem
      have hcc := refCompareRows_c e.row r
      by_cases h0 : rowCmp e.row r = 0
      · rw [sumK_mem (apart_of_sorted hs) hmem h0]
        rw [h0] at hcc
        repeat' (first | (with_reducible (first | refine k_seq ?_ | refine k_block ?_ | refine k_skip ?_ | refine k_exit ?_ | refine k_ret ?_ | refine n_seq ?_ | refine n_block ?_ | refine e_seq ?_ | refine e_here ?_ | refine r_seq ?_ | refine r_block ?_ | refine o_exit ?_ | refine o_ret ?_)) | refine s_reg ?_ | refine s_ifT ?_ | refine s_ifF ?_ | refine r_end ?_ | refine s_move ?_ | refine s_assign ?_ | refine s_int ?_ | refine s_loadF1 ?_ | refine s_indexD ?_ (hel := (by first | exact idx_map hv (by omega) | exact hv | exact rfl)) | refine s_fieldF ?_ | refine s_call (hcc) ?_ | refine s_lenD ?_ | refine s_not ?_ | refine f_ret1 def_nil ?_ | refine t_tmp ?_)
        all_goals rfl
      · have hn : ∀ j e, b[j]? = some e → j < i + 1 → rowCmp e.row r ≠ 0 := fun j e' hj hji => by
          by_cases hq : j = i
          · subst hq; rw [hv] at hj; injection hj with hj; rw [← hj]; exact h0
          · exact hinv j e' hj (by omega)
        generalize rowCmp e.row r = z at hcc h0
        repeat' (first | (with_reducible (first | refine k_seq ?_ | refine k_block ?_ | refine k_skip ?_ | refine k_exit ?_ | refine k_ret ?_ | refine n_seq ?_ | refine n_block ?_ | refine e_seq ?_ | refine e_here ?_ | refine r_seq ?_ | refine r_block ?_ | refine o_exit ?_ | refine o_ret ?_)) | refine s_reg ?_ | refine s_ifT ?_ | refine s_ifF ?_ | refine r_end ?_ | refine s_move ?_ | refine s_assign ?_ | refine s_int ?_ | refine s_loadF1 ?_ | refine s_indexD ?_ (hel := (by first | exact idx_map hv (by omega) | exact hv | exact rfl)) | refine s_fieldF ?_ | refine s_call (hcc) ?_ | refine s_lenD ?_ | refine s_not ?_ | refine f_ret1 def_nil ?_ | refine t_tmp ?_)
        (apply s_round (i + 1); all_goals (try dsimp only); all_goals (try (repeat' (first | exact slots_nil | refine w1 ?_ | exact memIn_nil | omega))))
        exact ⟨by omega, hn⟩
    · have hz : sumK b r = 0 := sumK_none fun e he => by
        obtain ⟨j, hj⟩ := List.mem_iff_getElem?.1 he
        have := lt_of_getElem? hj
        exact hinv j e hj (by omega)
      rw [hz]
      repeat' (first | (with_reducible (first | refine k_seq ?_ | refine k_block ?_ | refine k_skip ?_ | refine k_exit ?_ | refine k_ret ?_ | refine n_seq ?_ | refine n_block ?_ | refine e_seq ?_ | refine e_here ?_ | refine r_seq ?_ | refine r_block ?_ | refine o_exit ?_ | refine o_ret ?_)) | refine s_reg ?_ | refine s_ifT ?_ | refine s_ifF ?_ | refine r_end ?_ | refine s_move ?_ | refine s_assign ?_ | refine s_int ?_ | refine s_loadF1 ?_ | refine s_indexD ?_ (hel := (by first | exact rfl)) | refine s_fieldF ?_ | refine s_lenD ?_ | refine s_not ?_ | refine f_ret1 def_nil ?_ | refine t_tmp ?_)
      all_goals rfl
end Go.Proofs.Ytgfachlcocjdbaa
