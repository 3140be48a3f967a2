/-
  CacheBounds.
-/
import Derived.Test.YtmejclckkmpggaaCan
import Derived.Test.YtmejclckkmpggaaCaf
import Derived.Test.YtmejclckkmpggaaEqs
namespace Go.Proofs.Ytmejclckkmpggaa
open Go.Abs Go.RowKit
attribute [local irreducible] ARun kont MCall PCall HCall resVal SF CF CFs defersOk slotsIn memIn fin finM VLe
set_option linter.unusedSimpArgs false
set_option maxRecDepth 100000
set_option maxHeartbeats 4000000

def intsD (l : List Int) : Dat := .sl (l.map fun n => [.lit (.int .i64 n)])
def bcC : Conf := ⟨⟨#[]⟩, ⟨#[]⟩, 0, 1000⟩

theorem u64_eq (z : Int) : IntKind.u64.wrap z = z % 18446744073709551616 := by
  simp only [IntKind.wrap, IntKind.signed, IntKind.bits]
  simp
theorem u64_nn (z : Int) : 0 ≤ IntKind.u64.wrap z := by rw [u64_eq]; omega
theorem u64_small {z : Int} (h1 : 0 ≤ z) (h2 : z < 18446744073709551616) : IntKind.u64.wrap z = z := by rw [u64_eq]; omega
theorem u64_rem (z : Int) {m : Int} (h0 : 0 < m) (hm : m ≤ 1000000) : 0 ≤ IntKind.i64.wrap ((IntKind.u64.wrap z).tmod m) ∧ IntKind.i64.wrap ((IntKind.u64.wrap z).tmod m) < m := by
  rw [Int.tmod_eq_emod_of_nonneg (u64_nn z)]
  have h1 := Int.emod_nonneg (IntKind.u64.wrap z) (show m ≠ 0 by omega)
  have h2 := Int.emod_lt_of_pos (IntKind.u64.wrap z) h0
  rw [wrap_i64 (by omega) (by omega)]
  exact ⟨h1, h2⟩
theorem and_mask (n : Int) (m : Nat) (hm : m < 4611686018427387904) : 0 ≤ andInt .i64 n m ∧ andInt .i64 n m ≤ m := by
  have h1 : (BitVec.ofInt 64 n &&& BitVec.ofInt 64 (m : Int)).toNat ≤ m := by
    rw [BitVec.toNat_and]
    refine Nat.le_trans Nat.and_le_right ?_
    rw [BitVec.toNat_ofInt]
    omega
  have h2 : andInt .i64 n m = (((BitVec.ofInt 64 n &&& BitVec.ofInt 64 (m : Int)).toNat : Nat) : Int) := by
    show IntKind.i64.wrap (((BitVec.ofInt 64 n &&& BitVec.ofInt 64 (m : Int)).toNat : Nat) : Int) = _
    exact wrap_i64 (by omega) (by omega)
  rw [h2]
  omega
theorem ofInt_valid (n : Int) : (Val.ofInt n).valid = true := clean_valid _
theorem ofInt_clean (n : Int) : (Val.ofInt n).clean = Val.ofInt n := by rw [Val.clean, if_pos (ofInt_valid _)]
theorem ofInt_inj {i j : Int} (hi : 0 ≤ i ∧ i < 4000) (hj : 0 ≤ j ∧ j < 4000) (h : Val.ofInt i = Val.ofInt j) : i = j := by
  have he : ∀ n : Int, 0 ≤ n ∧ n < 4000 → Val.ofInt n = ⟨1, n, ⟨#[]⟩⟩ := fun n hn => by
    have : (⟨1, n, ⟨#[]⟩⟩ : Val).valid = true := by simp [Val.valid, ByteArray.toList_eq]; omega
    rw [Val.ofInt, Val.clean, if_pos this]
  rw [he i hi, he j hj] at h
  injection h

/-- What the law's first loop has kept. -/
def Bnd (s : List Cach) (i : Nat) (last : Int) : Prop := s.length = i ∧ validC s = true ∧ ∀ e ∈ s, (∃ k : Int, (0 ≤ k ∧ k < i) ∧ e.val = Val.ofInt k) ∧ 0 ≤ e.day ∧ e.day ≤ last

theorem bnd_look {s : List Cach} {i : Nat} {last D z : Int} (h : Bnd s i last) (hd : last ≤ D) (hD : D ≤ 41) (h0 : 0 ≤ D) (hi : i ≤ 16) (hz : (i : Int) ≤ z ∧ z < 4000) :
    lookE bcC s [] (Val.ofInt z) D = (insE (roomE s) ⟨Val.ofInt z, [], D⟩, [], 0) ∧ ∀ x ∈ s, x.val ≠ Val.ofInt z := by
  obtain ⟨h1, h2, h3⟩ := h
  have hne : ∀ x ∈ s, x.val ≠ Val.ofInt z := fun x hx q => by
    obtain ⟨⟨k, hk, hv⟩, _⟩ := h3 x hx
    rw [hv] at q
    have := ofInt_inj (by omega) (by omega) q
    omega
  refine ⟨?_, hne⟩
  have hfi : s.filter (liveE bcC.ttl D) = s := List.filter_eq_self.2 fun e he => by
    obtain ⟨_, g1, g2⟩ := h3 e he
    simp only [liveE, Bool.and_eq_true, decide_eq_true_eq]
    exact ⟨by omega, by show D < e.day + 1000; omega⟩
  have hfn : s.find? (fun x => sameVal x.val (Val.ofInt z)) = none := by
    rw [List.find?_eq_none]
    intro x hx q
    exact hne x hx (sameVal_iff.1 q)
  unfold lookE
  rw [if_pos (by rw [h2, show bagValid [] = true by decide +kernel, show dayOK bcC.ttl = true by decide +kernel]; simp [dayOK]; omega), hfi, ofInt_clean, hfn]
  rfl

theorem bnd_step {s : List Cach} {i : Nat} {last D : Int} (h : Bnd s i last) (hd : last ≤ D) (hD : D ≤ 41) (h0 : 0 ≤ D) (hi : i < 16) :
    lookE bcC s [] (Val.ofInt i) D = (insE s ⟨Val.ofInt i, [], D⟩, [], 0) ∧ Bnd (insE s ⟨Val.ofInt i, [], D⟩) (i + 1) D := by
  have hl := (bnd_look h hd hD h0 (by omega) (z := i) (by omega)).1
  have hr : roomE s = s := by rw [roomE, if_neg (by have := h.1; omega)]
  rw [hr] at hl
  refine ⟨hl, by rw [insE_len, h.1], ?_, fun e he => ?_⟩
  · have := look_valid bcC s [] (Val.ofInt i) D
    rw [hl] at this; exact this
  · rcases List.mem_cons.1 ((insE_perm _ _).mem_iff.1 he) with rfl | he
    · exact ⟨⟨i, by omega, rfl⟩, h0, Int.le_refl _⟩
    · obtain ⟨⟨k, hk, hv⟩, g1, g2⟩ := h.2.2 e he
      exact ⟨⟨k, by omega, hv⟩, g1, by omega⟩

theorem bnd_last {s : List Cach} {last z : Int} (h : Bnd s 16 last) (hd : last ≤ 41) (hz : 100 ≤ z ∧ z < 4000) {y : Cach} (hy : s[oldE s]? = some y) :
    ∃ t, lookE bcC s [] (Val.ofInt z) 41 = (t, [], 0) ∧ t.length = 16 ∧ ∀ x ∈ t, sameVal x.val y.val = false := by
  obtain ⟨h1, h2⟩ := bnd_look h hd (by omega) (by omega) (by omega) (z := z) (by omega)
  have hsl := h.1
  have hr : roomE s = withoutE s y.val := by
    rw [erase_without (validC_iff.1 h.2.1).2.2 hy, roomE, if_pos (by omega)]
  have hrl : (roomE s).length = 15 := by
    have := oldK_lt s s.length (by omega)
    rw [roomE, if_pos (by omega)]; simp [oldE]; omega
  refine ⟨_, h1, by rw [insE_len, hrl], fun x hx => ?_⟩
  rcases List.mem_cons.1 ((insE_perm _ _).mem_iff.1 hx) with rfl | hx
  · have := h2 y (List.mem_of_getElem? hy)
    cases hq : sameVal (Val.ofInt z) y.val with
    | false => rfl
    | true => exact absurd (sameVal_iff.1 hq).symm this
  · rw [hr] at hx
    have := (List.mem_filter.1 hx).2
    simpa using this

theorem lawBounds_c (n : Int) (order : List Int) (_ : order.length ≤ 17592186044416) : PCall Try.prog 5 [.one (.lit (.int .i64 n)), .one (intsD order)] (.v (.one (.lit (.bool true)))) := by
  have hbc : bcC.d = [.lit (.string ⟨#[]⟩), .lit (.string ⟨#[]⟩), .lit (.int .i64 0), .lit (.int .i64 1000)] := rfl
  refine pcallN hT Try.func5 Try.ntmps5 [.tmp 4] fun B => ?_
  repeat' (first | (with_reducible (first | refine k_seq ?_ | refine k_block ?_ | refine k_skip ?_ | refine k_exit ?_ | refine k_ret ?_ | refine n_seq ?_ | refine n_block ?_ | refine e_seq ?_ | refine e_here ?_ | refine o_exit ?_)) | refine s_reg ?_ | refine s_ifT ?_ | refine s_ifF ?_ | refine s_if rfl (fun hb => ?_) (fun hb => ?_) | refine r_end ?_ | refine s_endD ?_ | refine s_move ?_ | refine s_assign ?_ | refine s_int ?_ | refine s_eqA ?_ | refine s_loadF1 ?_ | refine s_loadFA ?_ | refine s_loadBA ?_ | refine s_indexD ?_ (hel := (by first | exact rfl)) | refine s_fieldF ?_ | refine s_pick ?_ | refine s_lenD ?_ | refine s_max ?_ | refine s_storeB ?_ | refine s_extract ?_ | refine s_alloc ?_ | refine s_conv ?_ | refine s_build ?_ | refine f_ret1 def_nil ?_ | refine t_tmp ?_)
  refine s_lp (X := Nat × Int × List Cach) [4, 6, 7, 8, 9, 10, 11, 12, 20, 21, 22, 23, 24, 25, 26, 27, 28, 29, 30, 31, 32, 33, 34, 35, 36, 37, 38, 39, 40, 41, 42, 43, 44, 45, 46, 47, 48, 49, 50, 51, 52] (fun x => x.1 ≤ 16 ∧ 0 ≤ x.2.1 ∧ x.2.1 ≤ 39 ∧ Bnd x.2.2 x.1 x.2.1) (fun x lz => (8, (.c (.d (.lit (.int .i64 x.1))))) :: (7, .c (.d (.lit (.int .i64 x.2.1)))) :: (6, .c (.d (cachD x.2.2))) :: lz) (fun x => [.box 1 (bcC.d.map .d)]) (fun x => 16 - x.1) ((0, 0, [])) ?_ ?_ ?_ ?_
  repeat' (first | exact slots_nil | refine w1 ?_ | exact memIn_nil | refine memIn_same ?_ | omega)
  · exact ⟨by omega, by simp, by simp, rfl, by decide +kernel, fun e he => by cases he⟩
  rintro ⟨i, last, s⟩ ck ⟨hi, hl0, hl1, hb⟩
  dsimp only at hi hl0 hl1 hb ⊢
  by_cases hlt : i < 16
  · have hint := refInt_c (i : Int)
    by_cases hio : i < order.length
    · have hv : order[i]? = some order[i] := List.getElem?_eq_getElem hio
      generalize order[i] = z at hv
      obtain ⟨g1, g2⟩ := u64_rem z (m := 40) (by omega) (by omega)
      obtain ⟨D, hD⟩ : ∃ D, D = (if IntKind.i64.wrap ((IntKind.u64.wrap z).tmod 40) < last then last else IntKind.i64.wrap ((IntKind.u64.wrap z).tmod 40)) := ⟨_, rfl⟩
      have hDb : last ≤ D ∧ D ≤ 39 := by rw [hD]; split <;> omega
      obtain ⟨e1, e2⟩ := bnd_step hb hDb.1 (by omega) (by omega) hlt
      have hlk := lookup_c bcC s [] (Val.ofInt i) D
      rw [e1] at hlk
      unfold lookR at hlk
      generalize insE s ⟨Val.ofInt i, [], D⟩ = t at hlk e2
      rw [hD] at hlk
      repeat' (first | (with_reducible (first | refine k_seq ?_ | refine k_block ?_ | refine k_skip ?_ | refine k_exit ?_ | refine k_ret ?_ | refine n_seq ?_ | refine n_block ?_ | refine e_seq ?_ | refine e_here ?_ | refine o_exit ?_)) | refine s_reg ?_ | refine s_ifT ?_ | refine s_ifF ?_ | refine s_if rfl (fun hb => ?_) (fun hb => ?_) | refine r_end ?_ | refine s_endD ?_ | refine s_move ?_ | refine s_assign ?_ | refine s_int ?_ | refine s_eqA ?_ | refine s_loadF1 ?_ | refine s_loadFA ?_ | refine s_loadBA ?_ | refine s_indexD ?_ (hel := (by first | exact idx_map hv (by omega) | exact hv | exact rfl)) | refine s_fieldF ?_ | refine s_call (hint) ?_ | refine s_call (hlk) ?_ | refine s_pick ?_ | refine s_lenD ?_ | refine s_max ?_ | refine s_storeB ?_ | refine s_extract ?_ | refine s_alloc ?_ | refine s_conv ?_ | refine s_build ?_ | refine f_ret1 def_nil ?_ | refine t_tmp ?_)
      (apply s_round ((i + 1, D, t)); all_goals (try dsimp only); all_goals (try (repeat' (first | exact slots_nil | refine w1 ?_ | exact memIn_nil | refine memIn_same ?_ | omega))))
      all_goals first
        | exact ⟨by omega, by omega, by omega, e2⟩
        | (rw [hD])
    · obtain ⟨D, hD⟩ : ∃ D : Int, D = (if (i : Int) < last then last else (i : Int)) := ⟨_, rfl⟩
      have hDb : last ≤ D ∧ D ≤ 39 := by rw [hD]; split <;> omega
      obtain ⟨e1, e2⟩ := bnd_step hb hDb.1 (by omega) (by omega) hlt
      have hlk := lookup_c bcC s [] (Val.ofInt i) D
      rw [e1] at hlk
      unfold lookR at hlk
      generalize insE s ⟨Val.ofInt i, [], D⟩ = t at hlk e2
      rw [hD] at hlk
      repeat' (first | (with_reducible (first | refine k_seq ?_ | refine k_block ?_ | refine k_skip ?_ | refine k_exit ?_ | refine k_ret ?_ | refine n_seq ?_ | refine n_block ?_ | refine e_seq ?_ | refine e_here ?_ | refine o_exit ?_)) | refine s_reg ?_ | refine s_ifT ?_ | refine s_ifF ?_ | refine s_if rfl (fun hb => ?_) (fun hb => ?_) | refine r_end ?_ | refine s_endD ?_ | refine s_move ?_ | refine s_assign ?_ | refine s_int ?_ | refine s_eqA ?_ | refine s_loadF1 ?_ | refine s_loadFA ?_ | refine s_loadBA ?_ | refine s_indexD ?_ (hel := (by first | exact rfl)) | refine s_fieldF ?_ | refine s_call (hint) ?_ | refine s_call (hlk) ?_ | refine s_pick ?_ | refine s_lenD ?_ | refine s_max ?_ | refine s_storeB ?_ | refine s_extract ?_ | refine s_alloc ?_ | refine s_conv ?_ | refine s_build ?_ | refine f_ret1 def_nil ?_ | refine t_tmp ?_)
      (apply s_round ((i + 1, D, t)); all_goals (try dsimp only); all_goals (try (repeat' (first | exact slots_nil | refine w1 ?_ | exact memIn_nil | refine memIn_same ?_ | omega))))
      all_goals first
        | exact ⟨by omega, by omega, by omega, e2⟩
        | (rw [hD])
  · obtain rfl : i = 16 := by omega
    have hsl := hb.1
    have hol2 : oldE s < s.length := oldK_lt s s.length (by omega)
    have hy : s[oldE s]? = some s[oldE s] := List.getElem?_eq_getElem hol2
    generalize s[oldE s] = y at hy
    have m12 : 0 ≤ andInt .i64 n 7 ∧ andInt .i64 n 7 ≤ 7 := and_mask n 7 (by omega)
    obtain ⟨m1, m2⟩ := m12
    have hint := refInt_c (100 + andInt .i64 n 7)
    obtain ⟨t, t1, t2, t3⟩ := bnd_last hb (by omega) (z := 100 + andInt .i64 n 7) (by omega) hy
    have hlk := lookup_c bcC s [] (Val.ofInt (100 + andInt .i64 n 7)) 41
    rw [t1] at hlk
    unfold lookR at hlk
    repeat' (first | (with_reducible (first | refine k_seq ?_ | refine k_block ?_ | refine k_skip ?_ | refine k_exit ?_ | refine k_ret ?_ | refine n_seq ?_ | refine n_block ?_ | refine e_seq ?_ | refine e_here ?_ | refine o_exit ?_)) | refine s_reg ?_ | refine s_ifT ?_ | refine s_ifF ?_ | refine s_if rfl (fun hb => ?_) (fun hb => ?_) | refine r_end ?_ | refine s_endD ?_ | refine s_move ?_ | refine s_assign ?_ | refine s_int ?_ | refine s_eqA ?_ | refine s_loadF1 ?_ | refine s_loadFA ?_ | refine s_loadBA ?_ | refine s_indexD ?_ (hel := (by first | exact rfl)) | refine s_fieldF ?_ | refine s_pick ?_ | refine s_lenD ?_ | refine s_max ?_ | refine s_storeB ?_ | refine s_extract ?_ | refine s_alloc ?_ | refine s_conv ?_ | refine s_build ?_ | refine f_ret1 def_nil ?_ | refine t_tmp ?_)
    refine s_lp (X := Nat × Nat) [13, 14, 56, 57, 58, 59, 60, 61, 62, 63, 64, 65, 66, 67, 68, 69, 70, 71, 72, 73] (fun x => 1 ≤ x.1 ∧ x.1 ≤ s.length ∧ x.2 = oldK s x.1) (fun x lz => (14, (.c (.d (.lit (.int .i64 x.1))))) :: (13, (.c (.d (.lit (.int .i64 x.2))))) :: lz) (fun x => [.box 1 (bcC.d.map .d)]) (fun x => s.length - x.1) ((1, 0)) ?_ ?_ ?_ ?_
    repeat' (first | exact slots_nil | refine w1 ?_ | exact memIn_nil | refine memIn_same ?_ | omega)
    · exact ⟨Nat.le_refl _, by omega, (old_one s).symm⟩
    rintro ⟨i, o⟩ ck1 ⟨hi1, hi2, ho⟩
    dsimp only at hi1 hi2 ho ⊢
    by_cases hil : i < s.length
    · have hol : o < s.length := by rw [ho]; exact oldK_lt s i (by omega)
      have hw : s[o]? = some s[o] := List.getElem?_eq_getElem hol
      generalize s[o] = w at hw
      have hv : s[i]? = some s[i] := List.getElem?_eq_getElem hil
      generalize s[i] = x at hv
      have hst := oldK_step hv (ho ▸ hw)
      rw [← ho] at hst
      repeat' (first | (with_reducible (first | refine k_seq ?_ | refine k_block ?_ | refine k_skip ?_ | refine k_exit ?_ | refine k_ret ?_ | refine n_seq ?_ | refine n_block ?_ | refine e_seq ?_ | refine e_here ?_ | refine o_exit ?_)) | refine s_reg ?_ | refine s_ifT ?_ | refine s_ifF ?_ | refine s_if rfl (fun hb => ?_) (fun hb => ?_) | refine r_end ?_ | refine s_endD ?_ | refine s_move ?_ | refine s_assign ?_ | refine s_int ?_ | refine s_eqA ?_ | refine s_loadF1 ?_ | refine s_loadFA ?_ | refine s_loadBA ?_ | refine s_indexD ?_ (hel := (by first | exact idx_map hv (by omega) | exact idx_map hw (by omega) | exact hv | exact hw | exact rfl)) | refine s_fieldF ?_ | refine s_pick ?_ | refine s_lenD ?_ | refine s_max ?_ | refine s_storeB ?_ | refine s_extract ?_ | refine s_alloc ?_ | refine s_conv ?_ | refine s_build ?_ | refine f_ret1 def_nil ?_ | refine t_tmp ?_)
      · rw [if_pos (by simpa using hb)] at hst
        (apply s_round ((i + 1, i)); all_goals (try dsimp only); all_goals (try (repeat' (first | exact slots_nil | refine w1 ?_ | exact memIn_nil | refine memIn_same ?_ | omega))))
        all_goals exact ⟨by omega, by omega, hst.symm⟩
      · rw [if_neg (by simpa using hb)] at hst
        (apply s_round ((i + 1, o)); all_goals (try dsimp only); all_goals (try (repeat' (first | exact slots_nil | refine w1 ?_ | exact memIn_nil | refine memIn_same ?_ | omega))))
        all_goals exact ⟨by omega, by omega, hst.symm⟩
    obtain rfl : i = s.length := by omega
    have ho2 : oldE s = o := ho.symm
    rw [ho2] at hy
    repeat' (first | (with_reducible (first | refine k_seq ?_ | refine k_block ?_ | refine k_skip ?_ | refine k_exit ?_ | refine k_ret ?_ | refine n_seq ?_ | refine n_block ?_ | refine e_seq ?_ | refine e_here ?_ | refine o_exit ?_)) | refine s_reg ?_ | refine s_ifT ?_ | refine s_ifF ?_ | refine s_if rfl (fun hb => ?_) (fun hb => ?_) | refine r_end ?_ | refine s_endD ?_ | refine s_move ?_ | refine s_assign ?_ | refine s_int ?_ | refine s_eqA ?_ | refine s_loadF1 ?_ | refine s_loadFA ?_ | refine s_loadBA ?_ | refine s_indexD ?_ (hel := (by first | exact rfl)) | refine s_fieldF ?_ | refine s_call (hint) ?_ | refine s_call (hlk) ?_ | refine s_pick ?_ | refine s_lenD ?_ | refine s_max ?_ | refine s_storeB ?_ | refine s_extract ?_ | refine s_alloc ?_ | refine s_conv ?_ | refine s_build ?_ | refine f_ret1 def_nil ?_ | refine t_tmp ?_)
    refine s_lp (X := Nat) [4, 18, 92, 93, 94, 95, 96, 97, 98, 99, 100, 101, 102, 103, 104, 105, 106, 107, 108] (fun x => x ≤ t.length) (fun x lz => (18, (.c (.d (.lit (.int .i64 x))))) :: lz) (fun x => [.box 1 (bcC.d.map .d)]) (fun x => t.length - x) (0) ?_ ?_ ?_ ?_
    repeat' (first | exact slots_nil | refine w1 ?_ | exact memIn_nil | refine memIn_same ?_ | omega)
    rintro p ck2 hp
    by_cases hpl : p < t.length
    · have hv : t[p]? = some t[p] := List.getElem?_eq_getElem hpl
      have hne := t3 _ (List.getElem_mem hpl)
      generalize t[p] = x at hv hne
      have hls := lits_same x.val y.val
      rw [hne] at hls
      repeat' (first | (with_reducible (first | refine k_seq ?_ | refine k_block ?_ | refine k_skip ?_ | refine k_exit ?_ | refine k_ret ?_ | refine n_seq ?_ | refine n_block ?_ | refine e_seq ?_ | refine e_here ?_ | refine o_exit ?_)) | refine s_reg ?_ | refine s_ifT ?_ | refine s_ifF ?_ | refine s_if rfl (fun hb => ?_) (fun hb => ?_) | refine r_end ?_ | refine s_endD ?_ | refine s_move ?_ | refine s_assign ?_ | refine s_int ?_ | refine s_eqA ?_ | refine s_loadF1 ?_ | refine s_loadFA ?_ | refine s_loadBA ?_ | refine s_indexD ?_ (hel := (by first | exact idx_map hv (by omega) | exact idx_map hy (by omega) | exact hv | exact hy | exact rfl)) | refine s_fieldF ?_ | refine s_pick ?_ | refine s_lenD ?_ | refine s_max ?_ | refine s_storeB ?_ | refine s_extract ?_ | refine s_alloc ?_ | refine s_conv ?_ | refine s_build ?_ | refine f_ret1 def_nil ?_ | refine t_tmp ?_)
      all_goals first
        | (exfalso; rw [hls] at hb; cases hb)
        | ((apply s_round (p + 1); all_goals (try dsimp only); all_goals (try (repeat' (first | exact slots_nil | refine w1 ?_ | exact memIn_nil | refine memIn_same ?_ | omega)))))
    · repeat' (first | (with_reducible (first | refine k_seq ?_ | refine k_block ?_ | refine k_skip ?_ | refine k_exit ?_ | refine k_ret ?_ | refine n_seq ?_ | refine n_block ?_ | refine e_seq ?_ | refine e_here ?_ | refine o_exit ?_)) | refine s_reg ?_ | refine s_ifT ?_ | refine s_ifF ?_ | refine s_if rfl (fun hb => ?_) (fun hb => ?_) | refine r_end ?_ | refine s_endD ?_ | refine s_move ?_ | refine s_assign ?_ | refine s_int ?_ | refine s_eqA ?_ | refine s_loadF1 ?_ | refine s_loadFA ?_ | refine s_loadBA ?_ | refine s_indexD ?_ (hel := (by first | exact rfl)) | refine s_fieldF ?_ | refine s_call (awake30_c) ?_ | refine s_pick ?_ | refine s_lenD ?_ | refine s_max ?_ | refine s_storeB ?_ | refine s_extract ?_ | refine s_alloc ?_ | refine s_conv ?_ | refine s_build ?_ | refine f_ret1 def_nil ?_ | refine t_tmp ?_)
      all_goals rfl
end Go.Proofs.Ytmejclckkmpggaa
