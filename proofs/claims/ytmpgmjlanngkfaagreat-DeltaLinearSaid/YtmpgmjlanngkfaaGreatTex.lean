/-
  The tape: expressions.
-/
import Derived.Test.YtmpgmjlanngkfaaGreatExn
import Derived.Test.YtmpgmjlanngkfaaGreatTpo
import Derived.Test.YtmpgmjlanngkfaaGreatBso
namespace Go.Proofs.YtmpgmjlanngkfaaGreat
open Go.Abs Go.RowKit
attribute [local irreducible] ARun kont MCall PCall HCall resVal SF CF CFs defersOk slotsIn memIn fin finM VLe
set_option linter.unusedSimpArgs false
set_option maxRecDepth 100000
set_option maxHeartbeats 4000000

theorem nextE_h (t : Tape) (n : Nat) (ht : t.ok) (h1 : 1 ≤ n) (h2 : n ≤ 1000000) : ∃ (v : Nat) (t' : Tape), t'.ok ∧ v < n ∧ HCall Tryz.prog 30 [.c (.bp 0 0 0), .c (.d (.lit (.int .i64 n)))] [(.box 0 [.d (numD (t).l), .d (.lit (.int .i64 (t).at_))])] (.c (.d (.lit (.int .i64 v)))) [(.box 0 [.d (numD (t').l), .d (.lit (.int .i64 (t').at_))])] := by
  have h := next_h t n ht (by omega) (by omega)
  obtain ⟨b1, b2⟩ := t.nx_bd n
  have e : t.nx n = ((t.nx n).toNat : Int) := by omega
  rw [e] at h
  exact ⟨_, _, ht.go n, by omega, h⟩

/-- Columns of terms lie below a bound. -/
def ColB (n : Nat) (x : Trm) : Prop := x.op = 2 → 0 ≤ x.col ∧ x.col < n

theorem leaf_h (t : Tape) (n : Nat) (ht : t.ok) (h1 : 1 ≤ n) (hn : n ≤ 1000) : ∃ (x : Trm) (t' : Tape), t'.ok ∧ ColB n x ∧ HCall Tryz.prog 71 [.c (.bp 0 0 0), (.c (.d (.lit (.int .i64 (n : Int)))))] [(.box 0 [.d (numD (t).l), .d (.lit (.int .i64 (t).at_))])] (.c (.d (exprD [x]))) [(.box 0 [.d (numD (t').l), .d (.lit (.int .i64 (t').at_))])] := by
  obtain ⟨v1, t1, ok1, l1, n1⟩ := nextE_h t 3 ht (by omega) (by omega)
  by_cases h0 : v1 = 0
  · subst h0
    obtain ⟨v2, t2, ok2, l2, n2⟩ := nextE_h t1 2 ok1 (by omega) (by omega)
    by_cases h3 : v2 = 0
    · subst h3
      have hc := text_h t2 ok2
      refine ⟨⟨1, t2.text, 0⟩, t2.go 10, ok2.go 10, fun h => absurd (show (1 : Int) = 2 from h) (by decide), ?_⟩
      generalize t2.go 10 = t3 at hc
      generalize t2.text = v at hc
      refine hcallN hT Tryz.func71 Tryz.ntmps71 [.tmp 4] fun B => ?_
      repeat' (first | (with_reducible (first | refine k_seq ?_ | refine k_skip ?_ | refine k_ret ?_ | refine n_seq ?_ | refine r_seq ?_)) | refine s_reg ?_ | refine s_ifT ?_ | refine s_ifF ?_ | refine r_end ?_ | refine s_move ?_ | refine s_assign ?_ | refine s_int ?_ | refine s_callH [0] (n1) ?_ | refine s_callH [0] (n2) ?_ | refine s_callH [0] (hc) ?_ | refine s_bslice ?_ | refine s_build ?_ | refine fh_ret1 def_nil ?_ ?_ | exact memIn_nil | refine memIn_same ?_ | exact am_same)
    · have hc := int_h t2 ok2
      refine ⟨⟨1, t2.int, 0⟩, t2.go 12, ok2.go 12, fun h => absurd (show (1 : Int) = 2 from h) (by decide), ?_⟩
      generalize t2.go 12 = t3 at hc
      generalize t2.int = v at hc
      refine hcallN hT Tryz.func71 Tryz.ntmps71 [.tmp 4] fun B => ?_
      repeat' (first | (with_reducible (first | refine k_seq ?_ | refine k_skip ?_ | refine k_ret ?_ | refine n_seq ?_ | refine r_seq ?_)) | refine s_reg ?_ | refine s_ifT ?_ | refine s_ifF ?_ | refine r_end ?_ | refine s_move ?_ | refine s_assign ?_ | refine s_int ?_ | refine s_callH [0] (n1) ?_ | refine s_callH [0] (n2) ?_ | refine s_callH [0] (hc) ?_ | refine s_bslice ?_ | refine s_build ?_ | refine fh_ret1 def_nil ?_ ?_ | exact memIn_nil | refine memIn_same ?_ | exact am_same)
  · obtain ⟨v2, t2, ok2, l2, n2⟩ := nextE_h t1 n ok1 h1 (by omega)
    refine ⟨⟨2, Val.null, v2⟩, t2, ok2, fun _ => ⟨Int.natCast_nonneg _, by show (v2 : Int) < n; omega⟩, ?_⟩
    refine hcallN hT Tryz.func71 Tryz.ntmps71 [.tmp 4] fun B => ?_
    repeat' (first | (with_reducible (first | refine k_seq ?_ | refine k_skip ?_ | refine k_ret ?_ | refine n_seq ?_ | refine r_seq ?_)) | refine s_reg ?_ | refine s_ifT ?_ | refine s_ifF ?_ | refine r_end ?_ | refine s_move ?_ | refine s_assign ?_ | refine s_int ?_ | refine s_callH [0] (n1) ?_ | refine s_callH [0] (n2) ?_ | refine s_bslice ?_ | refine s_build ?_ | refine fh_ret1 def_nil ?_ ?_ | exact memIn_nil | refine memIn_same ?_ | exact am_same)

theorem exprC_h (n : Nat) (h1 : 1 ≤ n) (hn : n ≤ 1000) : ∀ (dp : Nat) (t : Tape), t.ok → dp ≤ 8 → ∃ (e : List Trm) (t' : Tape), t'.ok ∧ e.length ≤ 4 ^ dp ∧ (∀ x ∈ e, ColB n x) ∧ HCall Tryz.prog 31 [.c (.bp 0 0 0), (.c (.d (.lit (.int .i64 (dp : Int))))), (.c (.d (.lit (.int .i64 (n : Int)))))] [(.box 0 [.d (numD (t).l), .d (.lit (.int .i64 (t).at_))])] (.c (.d (exprD e))) [(.box 0 [.d (numD (t').l), .d (.lit (.int .i64 (t').at_))])] := by
  intro dp
  induction dp with
  | zero =>
    intro t ht _
    obtain ⟨x, t', ok', hx, hc⟩ := leaf_h t n ht h1 hn
    refine ⟨[x], t', ok', by simp, by simpa using hx, ?_⟩
    refine hcallN hT Tryz.func31 Tryz.ntmps31 [.tmp 6] fun B => ?_
    repeat' (first | (with_reducible (first | refine k_seq ?_ | refine k_block ?_ | refine k_skip ?_ | refine k_exit ?_ | refine k_ret ?_ | refine n_seq ?_ | refine n_block ?_ | refine e_seq ?_ | refine e_here ?_ | refine r_seq ?_ | refine o_exit ?_)) | refine s_reg ?_ | refine s_ifT ?_ | refine s_ifF ?_ | refine r_end ?_ | refine s_skipS ?_ | refine s_move ?_ | refine s_assign ?_ | refine s_int ?_ | refine s_callH [0] (hc) ?_ | refine s_pick ?_ | refine s_appA ?_ | refine s_build ?_ | refine s_kF ?_ | refine fh_ret1 def_nil ?_ ?_ | exact memIn_nil | refine memIn_same ?_ | refine m1 ?_ ?_ | exact am_same)
  | succ dp ih =>
    intro t ht hdp
    have hpow : 1 ≤ 4 ^ dp := Nat.pos_of_ne_zero (by simp)
    have hpow2 : 4 ^ dp ≤ 4 ^ 7 := Nat.pow_le_pow_right (by omega) (by omega)
    have hpow3 : 4 ^ (dp + 1) = 4 * 4 ^ dp := by rw [Nat.pow_succ, Nat.mul_comm]
    by_cases hd0 : dp = 0
    · subst hd0
      obtain ⟨x, t', ok', hx, hc⟩ := leaf_h t n ht h1 hn
      refine ⟨[x], t', ok', by simp, by simpa using hx, ?_⟩
      clear ih
      refine hcallN hT Tryz.func31 Tryz.ntmps31 [.tmp 6] fun B => ?_
      repeat' (first | (with_reducible (first | refine k_seq ?_ | refine k_block ?_ | refine k_skip ?_ | refine k_exit ?_ | refine k_ret ?_ | refine n_seq ?_ | refine n_block ?_ | refine e_seq ?_ | refine e_here ?_ | refine r_seq ?_ | refine o_exit ?_)) | refine s_reg ?_ | refine s_ifT ?_ | refine s_ifF ?_ | refine r_end ?_ | refine s_skipS ?_ | refine s_move ?_ | refine s_assign ?_ | refine s_int ?_ | refine s_callH [0] (hc) ?_ | refine s_pick ?_ | refine s_appA ?_ | refine s_build ?_ | refine s_kF ?_ | refine fh_ret1 def_nil ?_ ?_ | exact memIn_nil | refine memIn_same ?_ | refine m1 ?_ ?_ | exact am_same)
    obtain ⟨v1, t1, ok1, l1, n1⟩ := nextE_h t 4 ht (by omega) (by omega)
    by_cases h0 : v1 = 0
    · subst h0
      obtain ⟨x, t', ok', hx, hc⟩ := leaf_h t1 n ok1 h1 hn
      refine ⟨[x], t', ok', by simp; omega, by simpa using hx, ?_⟩
      clear ih
      refine hcallN hT Tryz.func31 Tryz.ntmps31 [.tmp 6] fun B => ?_
      repeat' (first | (with_reducible (first | refine k_seq ?_ | refine k_block ?_ | refine k_skip ?_ | refine k_exit ?_ | refine k_ret ?_ | refine n_seq ?_ | refine n_block ?_ | refine e_seq ?_ | refine e_here ?_ | refine r_seq ?_ | refine o_exit ?_)) | refine s_reg ?_ | refine s_ifT ?_ | refine s_ifF ?_ | refine r_end ?_ | refine s_skipS ?_ | refine s_move ?_ | refine s_assign ?_ | refine s_int ?_ | refine s_callH [0] (n1) ?_ | refine s_callH [0] (hc) ?_ | refine s_pick ?_ | refine s_appA ?_ | refine s_build ?_ | refine s_kF ?_ | refine fh_ret1 def_nil ?_ ?_ | exact memIn_nil | refine memIn_same ?_ | refine m1 ?_ ?_ | exact am_same)
    obtain ⟨v2, t2, ok2, l2, n2⟩ := nextE_h t1 16 ok1 (by omega) (by omega)
    have ha := refArity_c ((3 : Int) + v2)
    obtain ⟨k, hk⟩ := Int.eq_ofNat_of_zero_le (show 0 ≤ aryE ((3 : Int) + v2) by
      unfold aryE
      split
      · omega
      split
      · omega
      split
      · omega
      split <;> omega)
    have hk3 : k ≤ 3 := by have := (aryE_bd ((3 : Int) + v2)).2; omega
    rw [hk] at ha
    -- the operands, one behind the other
    have hops : ∀ m : Nat, m ≤ 3 → ∃ (f : Nat → List Trm) (ts : Nat → Tape), ts 0 = t2 ∧ ∀ i, i < m → (ts i).ok ∧ (ts (i + 1)).ok ∧ ((f i).length ≤ 4 ^ dp ∧ ∀ x ∈ f i, ColB n x) ∧ HCall Tryz.prog 31 [.c (.bp 0 0 0), (.c (.d (.lit (.int .i64 (dp : Int))))), (.c (.d (.lit (.int .i64 (n : Int)))))] [(.box 0 [.d (numD ((ts i)).l), .d (.lit (.int .i64 ((ts i)).at_))])] (.c (.d (exprD (f i)))) [(.box 0 [.d (numD ((ts (i + 1))).l), .d (.lit (.int .i64 ((ts (i + 1))).at_))])] := by
      intro m
      induction m with
      | zero => intro _; exact ⟨fun _ => [], fun _ => t2, rfl, fun i hi => by omega⟩
      | succ m ihm =>
        intro hm
        obtain ⟨f, ts, e0, hf⟩ := ihm (by omega)
        have okm : (ts m).ok := by
          cases m with
          | zero => rw [e0]; exact ok2
          | succ m => exact (hf m (by omega)).2.1
        obtain ⟨e, t', ok', hle, hcb, hc⟩ := ih (ts m) okm (by omega)
        refine ⟨fun i => if i = m then e else f i, fun i => if i = m + 1 then t' else ts i, by simp [e0], fun i hi => ?_⟩
        by_cases him : i = m
        · subst him
          simp only [if_true, show ¬ i = i + 1 by omega, if_false]
          exact ⟨okm, ok', ⟨hle, hcb⟩, hc⟩
        · have := hf i (by omega)
          simp only [if_neg him, show ¬ i = m + 1 by omega, show ¬ i + 1 = m + 1 by omega, if_false]
          exact this
    obtain ⟨f, ts, e0, hf⟩ := hops 3 (by omega)
    clear hops ih
    have hcat : ∀ i, ∃ L : List Trm, L = ⟨(3 : Int) + v2, Val.null, 0⟩ :: ((List.range i).map f).flatten := fun i => ⟨_, rfl⟩
    obtain ⟨cat, hcat⟩ : ∃ cat : Nat → List Trm, ∀ i, cat i = ⟨(3 : Int) + v2, Val.null, 0⟩ :: ((List.range i).map f).flatten := ⟨fun i => _, fun i => rfl⟩
    have hc0 : cat 0 = [⟨(3 : Int) + v2, Val.null, 0⟩] := by rw [hcat]; rfl
    have hcs : ∀ i, cat (i + 1) = cat i ++ f i := fun i => by rw [hcat, hcat, List.range_succ]; simp
    have hcl : ∀ i, i ≤ 3 → (cat i).length ≤ 1 + i * 4 ^ dp := by
      intro i
      induction i with
      | zero => intro _; rw [hc0]; simp
      | succ i ihi =>
        intro hi
        have h1 := ihi (by omega)
        have h2 := (hf i (by omega)).2.2.1.1
        rw [hcs, List.length_append, Nat.add_mul, Nat.one_mul]; omega
    have hck : (cat k).length ≤ 4 ^ (dp + 1) := by
      have h1 := hcl k hk3
      have h2 : k * 4 ^ dp ≤ 3 * 4 ^ dp := Nat.mul_le_mul_right _ hk3
      omega
    have okk : (ts k).ok := by
      cases k with
      | zero => rw [e0]; exact ok2
      | succ k => exact (hf k (by omega)).2.1
    have hcb : ∀ i, i ≤ 3 → ∀ x ∈ cat i, ColB n x := by
      intro i
      induction i with
      | zero =>
        intro _ x hx
        rw [hc0] at hx
        obtain rfl := List.mem_singleton.1 hx
        intro h
        have h : (3 : Int) + v2 = 2 := h
        omega
      | succ i ihi =>
        intro hi x hx
        rw [hcs] at hx
        rcases List.mem_append.1 hx with hx | hx
        · exact ihi (by omega) x hx
        · exact (hf i (by omega)).2.2.1.2 x hx
    refine ⟨cat k, ts k, okk, hck, hcb k hk3, ?_⟩
    clear hcb
    have hfr : List.take (cat k).length ((cat k).map Trm.d) = (cat k).map Trm.d := take_ge (by simp)
    clear hcat
    rw [← e0] at n2
    refine hcallN hT Tryz.func31 Tryz.ntmps31 [.tmp 6] fun B => ?_
    repeat' (first | refine s_bsliceO (r := 1) ?_ | (with_reducible (first | refine k_seq ?_ | refine k_block ?_ | refine k_skip ?_ | refine k_exit ?_ | refine k_ret ?_ | refine n_seq ?_ | refine n_block ?_ | refine e_seq ?_ | refine e_here ?_ | refine r_seq ?_ | refine o_exit ?_)) | refine s_reg ?_ | refine s_ifT ?_ | refine s_ifF ?_ | refine r_end ?_ | refine s_skipS ?_ | refine s_move ?_ | refine s_assign ?_ | refine s_int ?_ | refine s_call (ha) ?_ | refine s_callH [0] (n1) ?_ | refine s_callH [0] (n2) ?_ | refine s_pick ?_ | refine s_appA ?_ | refine s_build ?_ | refine s_kF ?_ | refine fh_ret1 def_nil ?_ ?_ | exact memIn_nil | refine memIn_same ?_ | refine m1 ?_ ?_ | exact am_same)
    refine s_lp (X := Nat × Nat × Nat × List Trm × Tape) [8, 9, 28, 29, 30, 31, 32, 33, 34, 35, 36, 37, 38] (fun x => x.1 ≤ k ∧ x.2.2.1 = x.2.2.2.1.length ∧ x.2.2.2.1 = cat x.1 ∧ x.2.2.2.2 = ts x.1) (fun x lz => (8, .c (.arr 1 x.2.1 x.2.2.1)) :: (9, (.c (.d (.lit (.int .i64 ((k - x.1 : Nat) : Int)))))) :: lz) (fun x => [(.box 0 [.d (numD (x.2.2.2.2).l), .d (.lit (.int .i64 (x.2.2.2.2).at_))]), .arr x.2.1 109 5 (x.2.2.2.1.map Trm.d)]) (fun x => k - x.1) ((0, 3, 1, [⟨(3 : Int) + v2, Val.null, 0⟩], ts 0)) ?_ ?_ ?_ ?_
    repeat' (first | exact slots_nil | refine w1 ?_ | exact memIn_nil | refine memIn_same ?_ | refine m1 ?_ ?_ | omega)
    · exact ⟨by simp, rfl, hc0.symm, rfl⟩
    rintro ⟨i, kv, len, L, T'⟩ c ⟨hi, hlen, hL, hT'⟩
    dsimp only at hi hlen hL hT' ⊢
    have hLl : L.length ≤ 100000 := by
      have h1 := hcl i (by omega)
      have h2 : i * 4 ^ dp ≤ 3 * 4 ^ dp := Nat.mul_le_mul_right _ (by omega)
      rw [hL]
      have h3 : (4 : Nat) ^ 7 = 16384 := by decide
      omega
    by_cases hlt : i < k
    · obtain ⟨_, _, ⟨hfl, _⟩, hcall⟩ := hf i (by omega)
      rw [← hT'] at hcall
      rw [show (dp : Int) = ((dp + 1 : Nat) : Int) - 1 by omega] at hcall
      have hfl2 : (f i).length ≤ 100000 := by
        have h3 : (4 : Nat) ^ 7 = 16384 := by decide
        omega
      have hnext := hcs i
      rw [← hL] at hnext
      have hts : ts (i + 1) = ts (i + 1) := rfl
      clear hf hcl hcs hL hck hc0 hT'
      generalize f i = fi at *
      generalize hq : ts (i + 1) = T2 at hcall
      repeat' (first | (with_reducible (first | refine k_seq ?_ | refine k_block ?_ | refine k_skip ?_ | refine k_exit ?_ | refine k_ret ?_ | refine n_seq ?_ | refine n_block ?_ | refine e_seq ?_ | refine e_here ?_ | refine r_seq ?_ | refine o_exit ?_)) | refine s_reg ?_ | refine s_ifT ?_ | refine s_ifF ?_ | refine r_end ?_ | refine s_skipS ?_ | refine s_move ?_ | refine s_assign ?_ | refine s_int ?_ | refine s_callH [0] (hcall) ?_ | refine s_pick ?_ | refine s_appA ?_ | refine s_build ?_ | refine s_kF ?_ | refine fh_ret1 def_nil ?_ ?_ | exact memIn_nil | refine memIn_same ?_ | refine m1 ?_ ?_ | exact am_same)
      (apply s_round ((i + 1, _, len + fi.length, L ++ fi, T2)); all_goals (try dsimp only); all_goals (try (repeat' (first | exact slots_nil | refine w1 ?_ | exact memIn_nil | refine memIn_same ?_ | refine m1 ?_ ?_ | omega))))
      all_goals first | (exact ⟨by omega, by simp; omega, hnext.symm, hq.symm⟩) | exact List.map_append.symm | skip
    · obtain rfl : i = k := by omega
      rw [← hL, ← hT']
      rw [← hL] at hfr
      rw [hlen]
      clear hf hcl hcs
      repeat' (first | refine s_freeze 8 ?_ (hes := hfr) | (with_reducible (first | refine k_seq ?_ | refine k_block ?_ | refine k_skip ?_ | refine k_exit ?_ | refine k_ret ?_ | refine n_seq ?_ | refine n_block ?_ | refine e_seq ?_ | refine e_here ?_ | refine r_seq ?_ | refine o_exit ?_)) | refine s_reg ?_ | refine s_ifT ?_ | refine s_ifF ?_ | refine r_end ?_ | refine s_skipS ?_ | refine s_move ?_ | refine s_assign ?_ | refine s_int ?_ | refine s_pick ?_ | refine s_appA ?_ | refine s_build ?_ | refine s_kF ?_ | refine fh_ret1 def_nil ?_ ?_ | exact memIn_nil | refine memIn_same ?_ | refine m1 ?_ ?_ | exact am_same)
      all_goals skip

theorem expr_h (n : Nat) (h1 : 1 ≤ n) (hn : n ≤ 1000) (dp : Nat) (t : Tape) (ht : t.ok) (hd : dp ≤ 8) : ∃ (e : List Trm) (t' : Tape), t'.ok ∧ e.length ≤ 4 ^ dp ∧ HCall Tryz.prog 31 [.c (.bp 0 0 0), (.c (.d (.lit (.int .i64 (dp : Int))))), (.c (.d (.lit (.int .i64 (n : Int)))))] [(.box 0 [.d (numD (t).l), .d (.lit (.int .i64 (t).at_))])] (.c (.d (exprD e))) [(.box 0 [.d (numD (t').l), .d (.lit (.int .i64 (t').at_))])] := by
  obtain ⟨e, t', h2, h3, _, h4⟩ := exprC_h n h1 hn dp t ht hd
  exact ⟨e, t', h2, h3, h4⟩
end Go.Proofs.YtmpgmjlanngkfaaGreat
