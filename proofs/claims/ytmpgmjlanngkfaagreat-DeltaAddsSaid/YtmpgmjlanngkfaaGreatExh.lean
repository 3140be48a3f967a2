/-
  Expressions: the program's operators on numbers.
-/
import Derived.Test.YtmpgmjlanngkfaaGreatExc
import Derived.Test.YtmpgmjlanngkfaaGreatAgp
section
namespace Go.Proofs.YtmpgmjlanngkfaaGreat
open Go.Abs Go.RowKit
attribute [local irreducible] ARun kont MCall PCall HCall resVal SF CF CFs defersOk slotsIn memIn fin finM VLe
set_option linter.unusedSimpArgs false
set_option maxRecDepth 100000
set_option maxHeartbeats 4000000
theorem number_c (n : Int) : PCall Tryz.prog 207 [.one (.lit (.int .i64 n))] (.v (.agg (Val.ofInt n).d)) := by
  refine pcallN hT Tryz.func207 Tryz.ntmps207 [.cell 2 73] fun B => ?_
  repeat' (first | refine ks ?_ | refine ko ?_ | refine s_call (clean_c ⟨1, n, ⟨#[]⟩⟩) ?_ | refine kf ?_ | exact k0 | refine kg ?_ ?_ | fail)
  all_goals rfl
theorem exTruth_c (b : Bool) : PCall Tryz.prog 206 [.one (.lit (.bool b))] (.v (.agg (truthE b).d)) := by
  cases b
  · refine pcallN hT Tryz.func206 Tryz.ntmps206 [.cell 2 73] fun B => ?_
    repeat' (first | refine ks ?_ | refine ko ?_ | refine s_call (number_c _) ?_ | refine kf ?_ | exact k0 | refine kg ?_ ?_ | fail)
    all_goals rfl
  · refine pcallN hT Tryz.func206 Tryz.ntmps206 [.cell 2 73] fun B => ?_
    repeat' (first | refine ks ?_ | refine ko ?_ | refine s_call (number_c _) ?_ | refine kf ?_ | exact k0 | refine kg ?_ ?_ | fail)
    all_goals rfl
theorem isTrue_c (v : Val) : PCall Tryz.prog 153 [.agg v.d] (.v (.one (.lit (.bool (isT v))))) := by
  refine pcallN hT Tryz.func153 Tryz.ntmps153 [.tmp 2] fun B => ?_
  repeat' (first | refine ks ?_ | refine ko ?_ | refine s_split rfl rfl (fun hb => ?_) (fun hb => ?_) | refine kf ?_ | fail)
  all_goals (refine congrArg Dat.lit (congrArg Value.bool ?_); rw [Bool.eq_iff_iff]; simp_all [isT])
theorem isFalse_c (v : Val) : PCall Tryz.prog 242 [.agg v.d] (.v (.one (.lit (.bool (isF v))))) := by
  refine pcallN hT Tryz.func242 Tryz.ntmps242 [.tmp 2] fun B => ?_
  repeat' (first | refine ks ?_ | refine ko ?_ | refine s_split rfl rfl (fun hb => ?_) (fun hb => ?_) | refine kf ?_ | fail)
  all_goals (refine congrArg Dat.lit (congrArg Value.bool ?_); rw [Bool.eq_iff_iff]; simp_all [isF])
theorem exAnd_c (a b : Val) : PCall Tryz.prog 204 [.agg a.d, .agg b.d] (.v (.agg (andE a b).d)) := by
  have h1 := isFalse_c a
  have h2 := isFalse_c b
  have h3 := isTrue_c a
  have h4 := isTrue_c b
  unfold andE
  generalize isF a = p at *
  generalize isF b = q at *
  generalize isT a = r at *
  generalize isT b = s at *
  have t0 := exTruth_c false
  have t1 := exTruth_c true
  cases p <;> cases q <;> cases r <;> cases s
  all_goals
    refine pcallN hT Tryz.func204 Tryz.ntmps204 [.cell 4 73] fun B => ?_
    repeat' (first | refine ks ?_ | refine ko ?_ | refine s_call (h1) ?_ | refine s_call (h2) ?_ | refine s_call (h3) ?_ | refine s_call (h4) ?_ | refine s_call (t0) ?_ | refine s_call (t1) ?_ | refine kf ?_ | exact k0 | refine kg ?_ ?_ | fail)
    all_goals rfl
theorem exOr_c (a b : Val) : PCall Tryz.prog 205 [.agg a.d, .agg b.d] (.v (.agg (orE a b).d)) := by
  have h1 := isFalse_c a
  have h2 := isFalse_c b
  have h3 := isTrue_c a
  have h4 := isTrue_c b
  unfold orE
  generalize isF a = p at *
  generalize isF b = q at *
  generalize isT a = r at *
  generalize isT b = s at *
  have t0 := exTruth_c false
  have t1 := exTruth_c true
  cases p <;> cases q <;> cases r <;> cases s
  all_goals
    refine pcallN hT Tryz.func205 Tryz.ntmps205 [.cell 4 73] fun B => ?_
    repeat' (first | refine ks ?_ | refine ko ?_ | refine s_call (h1) ?_ | refine s_call (h2) ?_ | refine s_call (h3) ?_ | refine s_call (h4) ?_ | refine s_call (t0) ?_ | refine s_call (t1) ?_ | refine kf ?_ | exact k0 | refine kg ?_ ?_ | fail)
    all_goals rfl
theorem lenient_c (op : Int) (a b c : Val) : PCall Tryz.prog 158 [.one (.lit (.int .i64 op)), .agg a.d, .agg b.d, .agg c.d] (.v (.agg (lenE op a b c).d)) := by
  have h1 := exAnd_c a b
  have h2 := exOr_c a b
  have h3 := isTrue_c a
  have h4 := exTruth_c (decide (a.kind = 0))
  unfold lenE
  refine pcallN hT Tryz.func158 Tryz.ntmps158 [.cell 8 73] fun B => ?_
  repeat' (first | refine ks ?_ | refine ko ?_ | refine s_if rfl (fun hb => ?_) (fun hb => ?_) | refine s_call (h1) ?_ | refine s_call (h2) ?_ | refine s_call (h3) ?_ | refine s_call (h4) ?_ | refine kf ?_ | exact k0 | refine kg ?_ ?_ | fail)
  all_goals simp_all
theorem text_of {s : ByteArray} (h : s.size ≤ 32) : Val.ofText s = ⟨2, 0, s⟩ := by
  simp [Val.ofText, Val.clean, Val.valid, h]
theorem text_big {s : ByteArray} (h : 32 < s.size) : Val.ofText s = Val.null := by
  have h' : ¬ s.size ≤ 32 := by omega
  simp [Val.ofText, Val.clean, Val.valid, h']
theorem ofText_c (op : Int) (a b : Val) (ha : a.valid = true) (hb : b.valid = true) : PCall Tryz.prog 159 [.one (.lit (.int .i64 op)), .agg a.d, .agg b.d] (.v (.agg (txtE op a b).d)) := by
  have h1 := number_c (a.text.size : Int)
  have la : a.kind = 2 → a.text.size ≤ 32 := fun h => by
    rcases valid_kinds ha with h2 | h2 | h2
    · omega
    · omega
    · exact h2.2.1
  have lb : b.kind = 2 → b.text.size ≤ 32 := fun h => by
    rcases valid_kinds hb with h2 | h2 | h2
    · omega
    · omega
    · exact h2.2.1
  by_cases ka : a.kind = 2
  · have la := la ka
    by_cases o9 : op = 9
    · have e : txtE op a b = Val.ofInt a.text.size := by rw [txtE, if_neg (by omega), if_pos o9]
      rw [e]
      refine pcallN hT Tryz.func159 Tryz.ntmps159 [.cell 6 73] fun B => ?_
      repeat' (first | refine ks ?_ | refine ko ?_ | refine s_call (h1) ?_ | refine kf ?_ | refine s_split rfl rfl (fun hb => ?_) (fun hb => ?_) | exact k0 | refine kg ?_ ?_ | fail)
      all_goals rfl
    by_cases o8 : op = 8
    · by_cases kb : b.kind = 2
      · have lb := lb kb
        have e : txtE op a b = Val.ofText (a.text ++ b.text) := by rw [txtE, if_neg (by omega), if_neg o9, if_pos ⟨o8, kb⟩]
        rw [e]
        have hz : (a.text ++ b.text).size = a.text.size + b.text.size := ByteArray.size_append
        by_cases hl : a.text.size + b.text.size ≤ 32
        · rw [text_of (by omega)]
          refine pcallN hT Tryz.func159 Tryz.ntmps159 [.cell 6 73] fun B => ?_
          repeat' (first | refine ks ?_ | refine ko ?_ | refine kf ?_ | refine s_split rfl rfl (fun hb => ?_) (fun hb => ?_) | exact k0 | refine kg ?_ ?_ | fail)
          all_goals rfl
        · rw [text_big (by omega)]
          refine pcallN hT Tryz.func159 Tryz.ntmps159 [.cell 6 73] fun B => ?_
          repeat' (first | refine ks ?_ | refine ko ?_ | refine kf ?_ | refine s_split rfl rfl (fun hb => ?_) (fun hb => ?_) | exact k0 | refine kg ?_ ?_ | fail)
          all_goals rfl
      · have e : txtE op a b = Val.null := by rw [txtE, if_neg (by omega), if_neg o9, if_neg (fun q => kb q.2), if_neg (fun q => by omega)]
        rw [e]
        refine pcallN hT Tryz.func159 Tryz.ntmps159 [.cell 6 73] fun B => ?_
        repeat' (first | refine ks ?_ | refine ko ?_ | refine kf ?_ | refine s_split rfl rfl (fun hb => ?_) (fun hb => ?_) | exact k0 | refine kg ?_ ?_ | fail)
        all_goals rfl
    by_cases o10 : op = 10 ∧ b.kind = 1 ∧ 0 ≤ b.int
    · obtain ⟨p1, p2, p3⟩ := o10
      have hm : (min b.int a.text.size).toNat ≤ a.text.size := by omega
      have e : txtE op a b = Val.ofText (a.text.extract 0 (min b.int a.text.size).toNat) := by rw [txtE, if_neg (by omega), if_neg o9, if_neg (fun q => o8 q.1), if_pos ⟨p1, p2, p3⟩]
      rw [e, text_of (by rw [ByteArray.size_extract]; omega)]
      refine pcallN hT Tryz.func159 Tryz.ntmps159 [.cell 6 73] fun B => ?_
      repeat' (first | refine ks ?_ | refine ko ?_ | refine kf ?_ | refine s_split rfl rfl (fun hb => ?_) (fun hb => ?_) | exact k0 | refine kg ?_ ?_ | fail)
      all_goals first | rfl | (rw [show ∀ x y : Int, (if x < y then x else y) = min y x from fun x y => by split <;> omega]; rfl)
    · have e : txtE op a b = Val.null := by rw [txtE, if_neg (by omega), if_neg o9, if_neg (fun q => o8 q.1), if_neg o10]
      rw [e]
      refine pcallN hT Tryz.func159 Tryz.ntmps159 [.cell 6 73] fun B => ?_
      repeat' (first | refine ks ?_ | refine ko ?_ | refine kf ?_ | refine s_split rfl rfl (fun hb => ?_) (fun hb => ?_) | exact k0 | refine kg ?_ ?_ | fail)
      all_goals first | rfl | omega
  · have e : txtE op a b = Val.null := by rw [txtE, if_pos ka]
    rw [e]
    refine pcallN hT Tryz.func159 Tryz.ntmps159 [.cell 6 73] fun B => ?_
    repeat' (first | refine ks ?_ | refine ko ?_ | refine kf ?_ | refine s_split rfl rfl (fun hb => ?_) (fun hb => ?_) | exact k0 | refine kg ?_ ?_ | fail)
    all_goals rfl
theorem litsV (a b : Val) : litsEq [.int .i64 a.kind, .int .i64 a.int, .string a.text] [.int .i64 b.kind, .int .i64 b.int, .string b.text] = a.same b := by
  simp [litsEq, litEq, Val.same]
theorem exCompare_c (op : Int) (a b : Val) : PCall Tryz.prog 160 [.one (.lit (.int .i64 op)), .agg a.d, .agg b.d] (.v (.agg (cmpE op a b).d)) := by
  have h1 := compare_c a b
  by_cases k : a.kind = 0 ∨ a.kind ≠ b.kind
  · rw [show cmpE op a b = Val.null from if_pos k]
    rcases k with k | k
    · refine pcallN hT Tryz.func160 Tryz.ntmps160 [.cell 6 73] fun B => ?_
      repeat' (first | refine ks ?_ | refine ko ?_ | refine kf ?_ | refine s_split rfl rfl (fun hb => ?_) (fun hb => ?_) | exact k0 | refine kg ?_ ?_ | fail)
      all_goals rfl
    · refine pcallN hT Tryz.func160 Tryz.ntmps160 [.cell 6 73] fun B => ?_
      repeat' (first | refine ks ?_ | refine ko ?_ | refine kf ?_ | refine s_split rfl rfl (fun hb => ?_) (fun hb => ?_) | exact k0 | refine kg ?_ ?_ | fail)
      all_goals rfl
  · have k1 : ¬ a.kind = 0 := fun q => k (.inl q)
    have k2 : a.kind = b.kind := Classical.byContradiction fun q => k (.inr q)
    by_cases o : op = 11
    · rw [show cmpE op a b = truthE (a.same b) by rw [cmpE, if_neg k, if_pos o], ← litsV]
      refine pcallN hT Tryz.func160 Tryz.ntmps160 [.cell 6 73] fun B => ?_
      repeat' (first | refine ks ?_ | refine ko ?_ | refine s_call (h1) ?_ | refine s_call (exTruth_c _) ?_ | refine kf ?_ | refine s_split rfl rfl (fun hb => ?_) (fun hb => ?_) | exact k0 | refine kg ?_ ?_ | fail)
      all_goals rfl
    · rw [show cmpE op a b = truthE (decide (a.cmp b < 0)) by rw [cmpE, if_neg k, if_neg o]]
      refine pcallN hT Tryz.func160 Tryz.ntmps160 [.cell 6 73] fun B => ?_
      repeat' (first | refine ks ?_ | refine ko ?_ | refine s_call (h1) ?_ | refine s_call (exTruth_c _) ?_ | refine kf ?_ | refine s_split rfl rfl (fun hb => ?_) (fun hb => ?_) | exact k0 | refine kg ?_ ?_ | fail)
      all_goals rfl
theorem mul_bd {a b : Int} {M x y : Nat} (ha : a.natAbs ≤ x) (hb : b.natAbs ≤ y) (h : x * y ≤ M) : -(M : Int) ≤ a * b ∧ a * b ≤ M := by
  have h3 : (a * b).natAbs ≤ M := by rw [Int.natAbs_mul]; exact Nat.le_trans (Nat.mul_le_mul ha hb) h
  omega
theorem int_big {n : Int} (h : n < -4294967296 ∨ 4294967296 < n) : Val.ofInt n = Val.null := by
  have h' : (Val.mk 1 n ⟨#[]⟩).valid = false := by
    unfold Val.valid
    rw [if_neg (show ¬ (1 : Int) = 0 by omega), if_pos rfl]
    have : (decide (-4294967296 ≤ n) && decide (n ≤ 4294967296)) = false := by
      rw [Bool.and_eq_false_iff, decide_eq_false_iff_not, decide_eq_false_iff_not]; omega
    rw [show (Val.mk 1 n ⟨#[]⟩).int = n from rfl, this, Bool.false_and]
  unfold Val.ofInt Val.clean
  rw [h']; rfl
theorem absMax' (a : Int) : (if a < -a then -a else a) = (a.natAbs : Int) := by split <;> omega
theorem prod_iff {a b : Nat} (ha : 0 < a) : 4294967296 / a < b ↔ 4294967296 < a * b := by
  rw [Nat.div_lt_iff_lt_mul ha, Nat.mul_comm]
theorem product_c (a b : Int) (ha : -4294967296 ≤ a ∧ a ≤ 4294967296) (hb : -4294967296 ≤ b ∧ b ≤ 4294967296) : PCall Tryz.prog 208 [.one (.lit (.int .i64 a)), .one (.lit (.int .i64 b))] (.v (.agg (Val.ofInt (a * b)).d)) := by
  have h1 := number_c (a * b)
  obtain ⟨m1, m2⟩ := mul_bd (M := 18446744073709551616) (show a.natAbs ≤ 4294967296 by omega) (show b.natAbs ≤ 4294967296 by omega) (by decide)
  by_cases h0 : a = 0
  · subst h0
    refine pcallN hT Tryz.func208 Tryz.ntmps208 [.cell 4 73] fun B => ?_
    repeat' (first | refine ks ?_ | refine ko ?_ | refine s_call (h1) ?_ | refine kf ?_ | exact k0 | refine kg ?_ ?_ | fail)
    all_goals rfl
  · have hq := prod_iff (b := b.natAbs) (show 0 < a.natAbs by omega)
    have e1 : IntKind.i64.wrap (Int.tdiv 4294967296 (if a < -a then -a else a)) = ((4294967296 / a.natAbs : Nat) : Int) := by
      rw [absMax', show (4294967296 : Int) = ((4294967296 : Nat) : Int) from rfl, ← Int.ofNat_tdiv]
      have := Nat.div_le_self 4294967296 a.natAbs
      generalize 4294967296 / a.natAbs = d at this ⊢
      exact wrap_i64 (by omega) (by omega)
    have e2 := absMax' b
    generalize 4294967296 / a.natAbs = d at e1 hq
    by_cases hbig : 4294967296 < a.natAbs * b.natAbs
    · have hz : Val.ofInt (a * b) = Val.null := int_big (by
        rw [← Int.natAbs_mul] at hbig; omega)
      rw [hz]
      have hq := hq.2 hbig
      refine pcallN hT Tryz.func208 Tryz.ntmps208 [.cell 4 73] fun B => ?_
      repeat' (first | refine ks ?_ | refine ko ?_ | refine s_call (h1) ?_ | refine kf ?_ | exact k0 | refine kg ?_ ?_ | fail)
      all_goals first | rfl | (exfalso; rw [e1, e2] at hb; omega)
    · have hs : -4294967296 ≤ a * b ∧ a * b ≤ 4294967296 := by
        rw [← Int.natAbs_mul] at hbig; omega
      have hq : ¬ d < b.natAbs := fun q => hbig (hq.1 q)
      refine pcallN hT Tryz.func208 Tryz.ntmps208 [.cell 4 73] fun B => ?_
      repeat' (first | refine ks ?_ | refine ko ?_ | refine s_call (h1) ?_ | refine kf ?_ | exact k0 | refine kg ?_ ?_ | fail)
      all_goals first | rfl | (exfalso; rw [e1, e2] at hb; omega)
theorem tdiv_bd {a b : Int} (h : -4294967296 ≤ a ∧ a ≤ 4294967296) : -4294967296 ≤ a.tdiv b ∧ a.tdiv b ≤ 4294967296 := by
  have h1 : (a.tdiv b).natAbs = a.natAbs / b.natAbs := Int.natAbs_tdiv a b
  have h2 := Nat.div_le_self a.natAbs b.natAbs
  generalize a.natAbs / b.natAbs = d at h1 h2
  omega
theorem quotient_c (a b : Int) (ha : -4294967296 ≤ a ∧ a ≤ 4294967296) : PCall Tryz.prog 209 [.one (.lit (.int .i64 a)), .one (.lit (.int .i64 b))] (.v (.agg (quotE a b).d)) := by
  by_cases h0 : b = 0
  · subst h0
    rw [show quotE a 0 = Val.null from if_pos rfl]
    refine pcallN hT Tryz.func209 Tryz.ntmps209 [.cell 4 73] fun B => ?_
    repeat' (first | refine ks ?_ | refine ko ?_ | refine s_if rfl (fun hb => ?_) (fun hb => ?_) | refine kf ?_ | refine s_split rfl rfl (fun hb => ?_) (fun hb => ?_) | exact k0 | refine kg ?_ ?_ | fail)
    all_goals rfl
  · obtain ⟨b1, b2⟩ := tdiv_bd (b := b) ha
    have hw : IntKind.i64.wrap (a.tdiv b) = a.tdiv b := wrap_i64 (by omega) (by omega)
    rw [show quotE a b = Val.ofInt (quotZ a b) from if_neg h0]
    by_cases hc : a.tmod b ≠ 0 ∧ decide (a < 0) ≠ decide (b < 0)
    · rw [show quotZ a b = IntKind.i64.wrap (a.tdiv b) - 1 by rw [hw, quotZ, if_pos hc]]
      refine pcallN hT Tryz.func209 Tryz.ntmps209 [.cell 4 73] fun B => ?_
      repeat' (first | refine ks ?_ | refine ko ?_ | refine s_if rfl (fun hb => ?_) (fun hb => ?_) | refine s_call (number_c _) ?_ | refine kf ?_ | refine s_split rfl rfl (fun hb => ?_) (fun hb => ?_) | exact k0 | refine kg ?_ ?_ | fail)
      all_goals first | rfl | (exfalso; simp_all; done)
    · rw [show quotZ a b = IntKind.i64.wrap (a.tdiv b) by rw [hw, quotZ, if_neg hc]]
      refine pcallN hT Tryz.func209 Tryz.ntmps209 [.cell 4 73] fun B => ?_
      repeat' (first | refine ks ?_ | refine ko ?_ | refine s_if rfl (fun hb => ?_) (fun hb => ?_) | refine s_call (number_c _) ?_ | refine kf ?_ | refine s_split rfl rfl (fun hb => ?_) (fun hb => ?_) | exact k0 | refine kg ?_ ?_ | fail)
      all_goals first | rfl | (exfalso; simp_all; done)
theorem ofNumbers_c (op : Int) (a b : Val) (ha : a.valid = true) (hb : b.valid = true) : PCall Tryz.prog 161 [.one (.lit (.int .i64 op)), .agg a.d, .agg b.d] (.v (.agg (arE op a b).d)) := by
  by_cases k : a.kind ≠ 1 ∨ b.kind ≠ 1
  · rw [show arE op a b = Val.null from if_pos k]
    rcases k with k | k
    · refine pcallN hT Tryz.func161 Tryz.ntmps161 [.cell 6 73] fun B => ?_
      repeat' (first | refine ks ?_ | refine ko ?_ | refine kf ?_ | refine s_split rfl rfl (fun hb => ?_) (fun hb => ?_) | exact k0 | refine kg ?_ ?_ | fail)
      all_goals rfl
    · refine pcallN hT Tryz.func161 Tryz.ntmps161 [.cell 6 73] fun B => ?_
      repeat' (first | refine ks ?_ | refine ko ?_ | refine kf ?_ | refine s_split rfl rfl (fun hb => ?_) (fun hb => ?_) | exact k0 | refine kg ?_ ?_ | fail)
      all_goals rfl
  have ka : a.kind = 1 := Classical.byContradiction fun q => k (.inl q)
  have kb : b.kind = 1 := Classical.byContradiction fun q => k (.inr q)
  have ia : -4294967296 ≤ a.int ∧ a.int ≤ 4294967296 := by
    rcases valid_kinds ha with h | h | h
    · omega
    · exact ⟨h.2.1, h.2.2.1⟩
    · omega
  have ib : -4294967296 ≤ b.int ∧ b.int ≤ 4294967296 := by
    rcases valid_kinds hb with h | h | h
    · omega
    · exact ⟨h.2.1, h.2.2.1⟩
    · omega
  have h1 := product_c a.int b.int ia ib
  have h2 := quotient_c a.int b.int ia
  have h3 := exTruth_c (a.int == 0)
  have e : arE op a b = if op = 3 then Val.ofInt (-a.int) else if op = 13 then truthE (a.int == 0) else if op = 4 then Val.ofInt (a.int + b.int) else if op = 5 then Val.ofInt (a.int - b.int) else if op = 6 then Val.ofInt (a.int * b.int) else quotE a.int b.int := by
    rw [arE, if_neg k, beq_dec]
  rw [e]
  clear e k ha hb
  by_cases o3 : op = 3
  · rw [if_pos o3]
    refine pcallN hT Tryz.func161 Tryz.ntmps161 [.cell 6 73] fun B => ?_
    repeat' (first | refine ks ?_ | refine ko ?_ | refine s_call (number_c _) ?_ | refine kf ?_ | refine s_split rfl rfl (fun hb => ?_) (fun hb => ?_) | exact k0 | refine kg ?_ ?_ | fail)
    all_goals rfl
  rw [if_neg o3]
  by_cases o13 : op = 13
  · rw [if_pos o13]
    refine pcallN hT Tryz.func161 Tryz.ntmps161 [.cell 6 73] fun B => ?_
    repeat' (first | refine ks ?_ | refine ko ?_ | refine s_call (h3) ?_ | refine kf ?_ | refine s_split rfl rfl (fun hb => ?_) (fun hb => ?_) | exact k0 | refine kg ?_ ?_ | fail)
    all_goals rfl
  rw [if_neg o13]
  by_cases o4 : op = 4
  · rw [if_pos o4]
    refine pcallN hT Tryz.func161 Tryz.ntmps161 [.cell 6 73] fun B => ?_
    repeat' (first | refine ks ?_ | refine ko ?_ | refine s_call (number_c _) ?_ | refine kf ?_ | refine s_split rfl rfl (fun hb => ?_) (fun hb => ?_) | exact k0 | refine kg ?_ ?_ | fail)
    all_goals rfl
  rw [if_neg o4]
  by_cases o5 : op = 5
  · rw [if_pos o5]
    refine pcallN hT Tryz.func161 Tryz.ntmps161 [.cell 6 73] fun B => ?_
    repeat' (first | refine ks ?_ | refine ko ?_ | refine s_call (number_c _) ?_ | refine kf ?_ | refine s_split rfl rfl (fun hb => ?_) (fun hb => ?_) | exact k0 | refine kg ?_ ?_ | fail)
    all_goals rfl
  rw [if_neg o5]
  by_cases o6 : op = 6
  · rw [if_pos o6]
    refine pcallN hT Tryz.func161 Tryz.ntmps161 [.cell 6 73] fun B => ?_
    repeat' (first | refine ks ?_ | refine ko ?_ | refine s_call (h1) ?_ | refine kf ?_ | refine s_split rfl rfl (fun hb => ?_) (fun hb => ?_) | exact k0 | refine kg ?_ ?_ | fail)
    all_goals rfl
  rw [if_neg o6]
  refine pcallN hT Tryz.func161 Tryz.ntmps161 [.cell 6 73] fun B => ?_
  repeat' (first | refine ks ?_ | refine ko ?_ | refine s_call (h2) ?_ | refine kf ?_ | refine s_split rfl rfl (fun hb => ?_) (fun hb => ?_) | exact k0 | refine kg ?_ ?_ | fail)
  all_goals rfl
end Go.Proofs.YtmpgmjlanngkfaaGreat
end
