/-
  Expressions: the document's operators.
-/
import Derived.Test.YtmpgmjlanngkfaaGreatExc
import Derived.Test.YtmpgmjlanngkfaaGreatAlc
section
namespace Go.Proofs.YtmpgmjlanngkfaaGreat
open Go.Abs Go.RowKit
attribute [local irreducible] ARun At MCall PCall HCall Am SF CF CFs Ah Aj Ar fin AW VLe
set_option linter.unusedSimpArgs false
set_option maxRecDepth 100000
set_option maxHeartbeats 4000000
theorem CT (n : Int) : PCall Tryz.prog 207 [.one (.lit (.int .i64 n))] (.v (.agg (Val.ofInt n).d)) := by
 refine Ac hT Tryz.func207 Tryz.ntmps207 [.cell 2 73] fun B => ?_
 repeat' (first | refine kz ?_ | refine Aa (HO ⟨1, n, ⟨#[]⟩⟩) ?_ | refine kf ?_ | exact k0 | refine kg ?_ ?_ | fail)
 all_goals rfl
theorem CL (b : Bool) : PCall Tryz.prog 206 [.one (.lit (.bool b))] (.v (.agg (Br b).d)) := by
 cases b
 ·refine Ac hT Tryz.func206 Tryz.ntmps206 [.cell 2 73] fun B => ?_
  repeat' (first | refine kz ?_ | refine Aa (CT _) ?_ | refine kf ?_ | exact k0 | refine kg ?_ ?_ | fail)
  all_goals rfl
 ·refine Ac hT Tryz.func206 Tryz.ntmps206 [.cell 2 73] fun B => ?_
  repeat' (first | refine kz ?_ | refine Aa (CT _) ?_ | refine kf ?_ | exact k0 | refine kg ?_ ?_ | fail)
  all_goals rfl
theorem EP (v : Val) : PCall Tryz.prog 153 [.agg v.d] (.v (.one (.lit (.bool (OE v))))) := by
 refine Ac hT Tryz.func153 Tryz.ntmps153 [.tmp 2] fun B => ?_
 repeat' (first | refine kz ?_ | refine Ai rfl rfl (fun hb => ?_) (fun hb => ?_) | refine kf ?_ | fail)
 all_goals (refine congrArg Dat.lit (congrArg Value.bool ?_); rw [Bool.eq_iff_iff]; simp_all [OE])
theorem Gl (v : Val) : PCall Tryz.prog 242 [.agg v.d] (.v (.one (.lit (.bool (RZ v))))) := by
 refine Ac hT Tryz.func242 Tryz.ntmps242 [.tmp 2] fun B => ?_
 repeat' (first | refine kz ?_ | refine Ai rfl rfl (fun hb => ?_) (fun hb => ?_) | refine kf ?_ | fail)
 all_goals (refine congrArg Dat.lit (congrArg Value.bool ?_); rw [Bool.eq_iff_iff]; simp_all [RZ])
theorem Vp (a b : Val) : PCall Tryz.prog 204 [.agg a.d, .agg b.d] (.v (.agg (Nv a b).d)) := by
 have h1 := Gl a
 have h2 := Gl b
 have h3 := EP a
 have h4 := EP b
 unfold Nv
 generalize RZ a = p at *
 generalize RZ b = q at *
 generalize OE a = r at *
 generalize OE b = s at *
 have t0 := CL false
 have t1 := CL true
 cases p <;> cases q <;> cases r <;> cases s
 all_goals
  refine Ac hT Tryz.func204 Tryz.ntmps204 [.cell 4 73] fun B => ?_
  repeat' (first | refine kz ?_ | refine Aa (h1) ?_ | refine Aa (h2) ?_ | refine Aa (h3) ?_ | refine Aa (h4) ?_ | refine Aa (t0) ?_ | refine Aa (t1) ?_ | refine kf ?_ | exact k0 | refine kg ?_ ?_ | fail)
  all_goals rfl
theorem XA (a b : Val) : PCall Tryz.prog 205 [.agg a.d, .agg b.d] (.v (.agg (Wr a b).d)) := by
 have h1 := Gl a
 have h2 := Gl b
 have h3 := EP a
 have h4 := EP b
 unfold Wr
 generalize RZ a = p at *
 generalize RZ b = q at *
 generalize OE a = r at *
 generalize OE b = s at *
 have t0 := CL false
 have t1 := CL true
 cases p <;> cases q <;> cases r <;> cases s
 all_goals
  refine Ac hT Tryz.func205 Tryz.ntmps205 [.cell 4 73] fun B => ?_
  repeat' (first | refine kz ?_ | refine Aa (h1) ?_ | refine Aa (h2) ?_ | refine Aa (h3) ?_ | refine Aa (h4) ?_ | refine Aa (t0) ?_ | refine Aa (t1) ?_ | refine kf ?_ | exact k0 | refine kg ?_ ?_ | fail)
  all_goals rfl
theorem Q3 (op : Int) (a b c : Val) : PCall Tryz.prog 158 [.one (.lit (.int .i64 op)), .agg a.d, .agg b.d, .agg c.d] (.v (.agg (IY op a b c).d)) := by
 have h1 := Vp a b
 have h2 := XA a b
 have h3 := EP a
 have h4 := CL (decide (a.kind = 0))
 unfold IY
 refine Ac hT Tryz.func158 Tryz.ntmps158 [.cell 8 73] fun B => ?_
 repeat' (first | refine kz ?_ | refine Au rfl (fun hb => ?_) (fun hb => ?_) | refine Aa (h1) ?_ | refine Aa (h2) ?_ | refine Aa (h3) ?_ | refine Aa (h4) ?_ | refine kf ?_ | exact k0 | refine kg ?_ ?_ | fail)
 all_goals simp_all
theorem P9 {s : ByteArray} (h : s.size ≤ 32) : Val.ofText s = ⟨2, 0, s⟩ := by
 simp [Val.ofText, Val.clean, Val.valid, h]
theorem Ti {s : ByteArray} (h : 32 < s.size) : Val.ofText s = Val.null := by
 have h' : ¬ s.size ≤ 32 := by omega
 simp [Val.ofText, Val.clean, Val.valid, h']
theorem Tj (op : Int) (a b : Val) (ha : a.valid = true) (hb : b.valid = true) : PCall Tryz.prog 159 [.one (.lit (.int .i64 op)), .agg a.d, .agg b.d] (.v (.agg (B5 op a b).d)) := by
 have h1 := CT (a.text.size : Int)
 have la : a.kind = 2 → a.text.size ≤ 32 := fun h => by
  rcases BB ha with h2 | h2 | h2
  ·omega
  ·omega
  ·exact h2.2.1
 have lb : b.kind = 2 → b.text.size ≤ 32 := fun h => by
  rcases BB hb with h2 | h2 | h2
  ·omega
  ·omega
  ·exact h2.2.1
 by_cases ka : a.kind = 2
 ·have la := la ka
  by_cases o9 : op = 9
  ·have e : B5 op a b = Val.ofInt a.text.size := by rw [B5, if_neg (by omega), if_pos o9]
   rw [e]
   refine Ac hT Tryz.func159 Tryz.ntmps159 [.cell 6 73] fun B => ?_
   repeat' (first | refine kz ?_ | refine Aa (h1) ?_ | refine kf ?_ | refine Ai rfl rfl (fun hb => ?_) (fun hb => ?_) | exact k0 | refine kg ?_ ?_ | fail)
   all_goals rfl
  by_cases o8 : op = 8
  ·by_cases kb : b.kind = 2
   ·have lb := lb kb
    have e : B5 op a b = Val.ofText (a.text ++ b.text) := by rw [B5, if_neg (by omega), if_neg o9, if_pos ⟨o8, kb⟩]
    rw [e]
    have hz : (a.text ++ b.text).size = a.text.size + b.text.size := ByteArray.size_append
    by_cases hl : a.text.size + b.text.size ≤ 32
    ·rw [P9 (by omega)]
     refine Ac hT Tryz.func159 Tryz.ntmps159 [.cell 6 73] fun B => ?_
     repeat' (first | refine kz ?_ | refine kf ?_ | refine Ai rfl rfl (fun hb => ?_) (fun hb => ?_) | exact k0 | refine kg ?_ ?_ | fail)
     all_goals rfl
    ·rw [Ti (by omega)]
     refine Ac hT Tryz.func159 Tryz.ntmps159 [.cell 6 73] fun B => ?_
     repeat' (first | refine kz ?_ | refine kf ?_ | refine Ai rfl rfl (fun hb => ?_) (fun hb => ?_) | exact k0 | refine kg ?_ ?_ | fail)
     all_goals rfl
   ·have e : B5 op a b = Val.null := by rw [B5, if_neg (by omega), if_neg o9, if_neg (fun q => kb q.2), if_neg (fun q => by omega)]
    rw [e]
    refine Ac hT Tryz.func159 Tryz.ntmps159 [.cell 6 73] fun B => ?_
    repeat' (first | refine kz ?_ | refine kf ?_ | refine Ai rfl rfl (fun hb => ?_) (fun hb => ?_) | exact k0 | refine kg ?_ ?_ | fail)
    all_goals rfl
  by_cases o10 : op = 10 ∧ b.kind = 1 ∧ 0 ≤ b.int
  ·obtain ⟨p1, p2, p3⟩ := o10
   have hm : (min b.int a.text.size).toNat ≤ a.text.size := by omega
   have e : B5 op a b = Val.ofText (a.text.extract 0 (min b.int a.text.size).toNat) := by rw [B5, if_neg (by omega), if_neg o9, if_neg (fun q => o8 q.1), if_pos ⟨p1, p2, p3⟩]
   rw [e, P9 (by rw [ByteArray.size_extract]; omega)]
   refine Ac hT Tryz.func159 Tryz.ntmps159 [.cell 6 73] fun B => ?_
   repeat' (first | refine kz ?_ | refine kf ?_ | refine Ai rfl rfl (fun hb => ?_) (fun hb => ?_) | exact k0 | refine kg ?_ ?_ | fail)
   all_goals first | rfl | (rw [show ∀ x y : Int, (if x < y then x else y) = min y x from fun x y => by split <;> omega]; rfl)
  ·have e : B5 op a b = Val.null := by rw [B5, if_neg (by omega), if_neg o9, if_neg (fun q => o8 q.1), if_neg o10]
   rw [e]
   refine Ac hT Tryz.func159 Tryz.ntmps159 [.cell 6 73] fun B => ?_
   repeat' (first | refine kz ?_ | refine kf ?_ | refine Ai rfl rfl (fun hb => ?_) (fun hb => ?_) | exact k0 | refine kg ?_ ?_ | fail)
   all_goals first | rfl | omega
 ·have e : B5 op a b = Val.null := by rw [B5, if_pos ka]
  rw [e]
  refine Ac hT Tryz.func159 Tryz.ntmps159 [.cell 6 73] fun B => ?_
  repeat' (first | refine kz ?_ | refine kf ?_ | refine Ai rfl rfl (fun hb => ?_) (fun hb => ?_) | exact k0 | refine kg ?_ ?_ | fail)
  all_goals rfl
theorem Nz (a b : Val) : Cb [.int .i64 a.kind, .int .i64 a.int, .string a.text] [.int .i64 b.kind, .int .i64 b.int, .string b.text] = a.same b := by
 simp [Cb, Iv, Val.same]
theorem NA (op : Int) (a b : Val) : PCall Tryz.prog 160 [.one (.lit (.int .i64 op)), .agg a.d, .agg b.d] (.v (.agg (EM op a b).d)) := by
 have h1 := H2 a b
 by_cases k : a.kind = 0 ∨ a.kind ≠ b.kind
 ·rw [show EM op a b = Val.null from if_pos k]
  rcases k with k | k
  ·refine Ac hT Tryz.func160 Tryz.ntmps160 [.cell 6 73] fun B => ?_
   repeat' (first | refine kz ?_ | refine kf ?_ | refine Ai rfl rfl (fun hb => ?_) (fun hb => ?_) | exact k0 | refine kg ?_ ?_ | fail)
   all_goals rfl
  ·refine Ac hT Tryz.func160 Tryz.ntmps160 [.cell 6 73] fun B => ?_
   repeat' (first | refine kz ?_ | refine kf ?_ | refine Ai rfl rfl (fun hb => ?_) (fun hb => ?_) | exact k0 | refine kg ?_ ?_ | fail)
   all_goals rfl
 ·have k1 : ¬ a.kind = 0 := fun q => k (.inl q)
  have k2 : a.kind = b.kind := Classical.byContradiction fun q => k (.inr q)
  by_cases o : op = 11
  ·rw [show EM op a b = Br (a.same b) by rw [EM, if_neg k, if_pos o], ← Nz]
   refine Ac hT Tryz.func160 Tryz.ntmps160 [.cell 6 73] fun B => ?_
   repeat' (first | refine kz ?_ | refine Aa (h1) ?_ | refine Aa (CL _) ?_ | refine kf ?_ | refine Ai rfl rfl (fun hb => ?_) (fun hb => ?_) | exact k0 | refine kg ?_ ?_ | fail)
   all_goals rfl
  ·rw [show EM op a b = Br (decide (a.cmp b < 0)) by rw [EM, if_neg k, if_neg o]]
   refine Ac hT Tryz.func160 Tryz.ntmps160 [.cell 6 73] fun B => ?_
   repeat' (first | refine kz ?_ | refine Aa (h1) ?_ | refine Aa (CL _) ?_ | refine kf ?_ | refine Ai rfl rfl (fun hb => ?_) (fun hb => ?_) | exact k0 | refine kg ?_ ?_ | fail)
   all_goals rfl
theorem Tn {a b : Int} {M x y : Nat} (ha : a.natAbs ≤ x) (hb : b.natAbs ≤ y) (h : x * y ≤ M) : -(M : Int) ≤ a * b ∧ a * b ≤ M := by
 have h3 : (a * b).natAbs ≤ M := by rw [Int.natAbs_mul]; exact Nat.le_trans (Nat.mul_le_mul ha hb) h
 omega
theorem Qa {n : Int} (h : n < -4294967296 ∨ 4294967296 < n) : Val.ofInt n = Val.null := by
 have h' : (Val.mk 1 n ⟨#[]⟩).valid = false := by
  unfold Val.valid
  rw [if_neg (show ¬ (1 : Int) = 0 by omega), if_pos rfl]
  have : (decide (-4294967296 ≤ n) && decide (n ≤ 4294967296)) = false := by
   rw [Bool.and_eq_false_iff, decide_eq_false_iff_not, decide_eq_false_iff_not]; omega
  rw [show (Val.mk 1 n ⟨#[]⟩).int = n from rfl, this, Bool.false_and]
 unfold Val.ofInt Val.clean
 rw [h']; rfl
theorem I6 (a : Int) : (if a < -a then -a else a) = (a.natAbs : Int) := by split <;> omega
theorem NB {a b : Nat} (ha : 0 < a) : 4294967296 / a < b ↔ 4294967296 < a * b := by
 rw [Nat.div_lt_iff_lt_mul ha, Nat.mul_comm]
theorem Q5 (a b : Int) (ha : -4294967296 ≤ a ∧ a ≤ 4294967296) (hb : -4294967296 ≤ b ∧ b ≤ 4294967296) : PCall Tryz.prog 208 [.one (.lit (.int .i64 a)), .one (.lit (.int .i64 b))] (.v (.agg (Val.ofInt (a * b)).d)) := by
 have h1 := CT (a * b)
 obtain ⟨m1, m2⟩ := Tn (M := 18446744073709551616) (show a.natAbs ≤ 4294967296 by omega) (show b.natAbs ≤ 4294967296 by omega) (by decide)
 by_cases h0 : a = 0
 ·subst h0
  refine Ac hT Tryz.func208 Tryz.ntmps208 [.cell 4 73] fun B => ?_
  repeat' (first | refine kz ?_ | refine Aa (h1) ?_ | refine kf ?_ | exact k0 | refine kg ?_ ?_ | fail)
  all_goals rfl
 ·have hq := NB (b := b.natAbs) (show 0 < a.natAbs by omega)
  have e1 : IntKind.i64.wrap (Int.tdiv 4294967296 (if a < -a then -a else a)) = ((4294967296 / a.natAbs : Nat) : Int) := by
   rw [I6, show (4294967296 : Int) = ((4294967296 : Nat) : Int) from rfl, ← Int.ofNat_tdiv]
   have := Nat.div_le_self 4294967296 a.natAbs
   generalize 4294967296 / a.natAbs = d at this ⊢
   exact BE (by omega) (by omega)
  have e2 := I6 b
  generalize 4294967296 / a.natAbs = d at e1 hq
  by_cases hbig : 4294967296 < a.natAbs * b.natAbs
  ·have hz : Val.ofInt (a * b) = Val.null := Qa (by
    rw [← Int.natAbs_mul] at hbig; omega)
   rw [hz]
   have hq := hq.2 hbig
   refine Ac hT Tryz.func208 Tryz.ntmps208 [.cell 4 73] fun B => ?_
   repeat' (first | refine kz ?_ | refine Aa (h1) ?_ | refine kf ?_ | exact k0 | refine kg ?_ ?_ | fail)
   all_goals first | rfl | (exfalso; rw [e1, e2] at hb; omega)
  ·have hs : -4294967296 ≤ a * b ∧ a * b ≤ 4294967296 := by
    rw [← Int.natAbs_mul] at hbig; omega
   have hq : ¬ d < b.natAbs := fun q => hbig (hq.1 q)
   refine Ac hT Tryz.func208 Tryz.ntmps208 [.cell 4 73] fun B => ?_
   repeat' (first | refine kz ?_ | refine Aa (h1) ?_ | refine kf ?_ | exact k0 | refine kg ?_ ?_ | fail)
   all_goals first | rfl | (exfalso; rw [e1, e2] at hb; omega)
theorem Qb {a b : Int} (h : -4294967296 ≤ a ∧ a ≤ 4294967296) : -4294967296 ≤ a.tdiv b ∧ a.tdiv b ≤ 4294967296 := by
 have h1 : (a.tdiv b).natAbs = a.natAbs / b.natAbs := Int.natAbs_tdiv a b
 have h2 := Nat.div_le_self a.natAbs b.natAbs
 generalize a.natAbs / b.natAbs = d at h1 h2
 omega
theorem O4 (a b : Int) (ha : -4294967296 ≤ a ∧ a ≤ 4294967296) : PCall Tryz.prog 209 [.one (.lit (.int .i64 a)), .one (.lit (.int .i64 b))] (.v (.agg (GB a b).d)) := by
 by_cases h0 : b = 0
 ·subst h0
  rw [show GB a 0 = Val.null from if_pos rfl]
  refine Ac hT Tryz.func209 Tryz.ntmps209 [.cell 4 73] fun B => ?_
  repeat' (first | refine kz ?_ | refine Au rfl (fun hb => ?_) (fun hb => ?_) | refine kf ?_ | refine Ai rfl rfl (fun hb => ?_) (fun hb => ?_) | exact k0 | refine kg ?_ ?_ | fail)
  all_goals rfl
 ·obtain ⟨b1, b2⟩ := Qb (b := b) ha
  have hw : IntKind.i64.wrap (a.tdiv b) = a.tdiv b := BE (by omega) (by omega)
  rw [show GB a b = Val.ofInt (FU a b) from if_neg h0]
  by_cases hc : a.tmod b ≠ 0 ∧ decide (a < 0) ≠ decide (b < 0)
  ·rw [show FU a b = IntKind.i64.wrap (a.tdiv b) - 1 by rw [hw, FU, if_pos hc]]
   refine Ac hT Tryz.func209 Tryz.ntmps209 [.cell 4 73] fun B => ?_
   repeat' (first | refine kz ?_ | refine Au rfl (fun hb => ?_) (fun hb => ?_) | refine Aa (CT _) ?_ | refine kf ?_ | refine Ai rfl rfl (fun hb => ?_) (fun hb => ?_) | exact k0 | refine kg ?_ ?_ | fail)
   all_goals first | rfl | (exfalso; simp_all; done)
  ·rw [show FU a b = IntKind.i64.wrap (a.tdiv b) by rw [hw, FU, if_neg hc]]
   refine Ac hT Tryz.func209 Tryz.ntmps209 [.cell 4 73] fun B => ?_
   repeat' (first | refine kz ?_ | refine Au rfl (fun hb => ?_) (fun hb => ?_) | refine Aa (CT _) ?_ | refine kf ?_ | refine Ai rfl rfl (fun hb => ?_) (fun hb => ?_) | exact k0 | refine kg ?_ ?_ | fail)
   all_goals first | rfl | (exfalso; simp_all; done)
theorem IF (op : Int) (a b : Val) (ha : a.valid = true) (hb : b.valid = true) : PCall Tryz.prog 161 [.one (.lit (.int .i64 op)), .agg a.d, .agg b.d] (.v (.agg (GX op a b).d)) := by
 by_cases k : a.kind ≠ 1 ∨ b.kind ≠ 1
 ·rw [show GX op a b = Val.null from if_pos k]
  rcases k with k | k
  ·refine Ac hT Tryz.func161 Tryz.ntmps161 [.cell 6 73] fun B => ?_
   repeat' (first | refine kz ?_ | refine kf ?_ | refine Ai rfl rfl (fun hb => ?_) (fun hb => ?_) | exact k0 | refine kg ?_ ?_ | fail)
   all_goals rfl
  ·refine Ac hT Tryz.func161 Tryz.ntmps161 [.cell 6 73] fun B => ?_
   repeat' (first | refine kz ?_ | refine kf ?_ | refine Ai rfl rfl (fun hb => ?_) (fun hb => ?_) | exact k0 | refine kg ?_ ?_ | fail)
   all_goals rfl
 have ka : a.kind = 1 := Classical.byContradiction fun q => k (.inl q)
 have kb : b.kind = 1 := Classical.byContradiction fun q => k (.inr q)
 have ia : -4294967296 ≤ a.int ∧ a.int ≤ 4294967296 := by
  rcases BB ha with h | h | h
  ·omega
  ·exact ⟨h.2.1, h.2.2.1⟩
  ·omega
 have ib : -4294967296 ≤ b.int ∧ b.int ≤ 4294967296 := by
  rcases BB hb with h | h | h
  ·omega
  ·exact ⟨h.2.1, h.2.2.1⟩
  ·omega
 have h1 := Q5 a.int b.int ia ib
 have h2 := O4 a.int b.int ia
 have h3 := CL (a.int == 0)
 have e : GX op a b = if op = 3 then Val.ofInt (-a.int) else if op = 13 then Br (a.int == 0) else if op = 4 then Val.ofInt (a.int + b.int) else if op = 5 then Val.ofInt (a.int - b.int) else if op = 6 then Val.ofInt (a.int * b.int) else GB a.int b.int := by
  rw [GX, if_neg k, I5]
 rw [e]
 clear e k ha hb
 by_cases o3 : op = 3
 ·rw [if_pos o3]
  refine Ac hT Tryz.func161 Tryz.ntmps161 [.cell 6 73] fun B => ?_
  repeat' (first | refine kz ?_ | refine Aa (CT _) ?_ | refine kf ?_ | refine Ai rfl rfl (fun hb => ?_) (fun hb => ?_) | exact k0 | refine kg ?_ ?_ | fail)
  all_goals rfl
 rw [if_neg o3]
 by_cases o13 : op = 13
 ·rw [if_pos o13]
  refine Ac hT Tryz.func161 Tryz.ntmps161 [.cell 6 73] fun B => ?_
  repeat' (first | refine kz ?_ | refine Aa (h3) ?_ | refine kf ?_ | refine Ai rfl rfl (fun hb => ?_) (fun hb => ?_) | exact k0 | refine kg ?_ ?_ | fail)
  all_goals rfl
 rw [if_neg o13]
 by_cases o4 : op = 4
 ·rw [if_pos o4]
  refine Ac hT Tryz.func161 Tryz.ntmps161 [.cell 6 73] fun B => ?_
  repeat' (first | refine kz ?_ | refine Aa (CT _) ?_ | refine kf ?_ | refine Ai rfl rfl (fun hb => ?_) (fun hb => ?_) | exact k0 | refine kg ?_ ?_ | fail)
  all_goals rfl
 rw [if_neg o4]
 by_cases o5 : op = 5
 ·rw [if_pos o5]
  refine Ac hT Tryz.func161 Tryz.ntmps161 [.cell 6 73] fun B => ?_
  repeat' (first | refine kz ?_ | refine Aa (CT _) ?_ | refine kf ?_ | refine Ai rfl rfl (fun hb => ?_) (fun hb => ?_) | exact k0 | refine kg ?_ ?_ | fail)
  all_goals rfl
 rw [if_neg o5]
 by_cases o6 : op = 6
 ·rw [if_pos o6]
  refine Ac hT Tryz.func161 Tryz.ntmps161 [.cell 6 73] fun B => ?_
  repeat' (first | refine kz ?_ | refine Aa (h1) ?_ | refine kf ?_ | refine Ai rfl rfl (fun hb => ?_) (fun hb => ?_) | exact k0 | refine kg ?_ ?_ | fail)
  all_goals rfl
 rw [if_neg o6]
 refine Ac hT Tryz.func161 Tryz.ntmps161 [.cell 6 73] fun B => ?_
 repeat' (first | refine kz ?_ | refine Aa (h2) ?_ | refine kf ?_ | refine Ai rfl rfl (fun hb => ?_) (fun hb => ?_) | exact k0 | refine kg ?_ ?_ | fail)
 all_goals rfl
def Bh (v : Val) : Int := if v.kind ≠ 1 then -1 else if v.int = 0 then 0 else 1
theorem C9 (v : Val) : PCall Tryz.prog 227 [.agg v.d] (.v (.one (.lit (.int .i64 (Bh v))))) := by
 by_cases k : v.kind = 1
 ·by_cases z : v.int = 0
  ·rw [show Bh v = 0 by rw [Bh, if_neg (by omega), if_pos z]]
   refine Ac hT Tryz.func227 Tryz.ntmps227 [.tmp 2] fun B => ?_
   repeat' (first | refine kz ?_ | refine kf ?_ | fail)
   all_goals rfl
  ·rw [show Bh v = 1 by rw [Bh, if_neg (by omega), if_neg z]]
   refine Ac hT Tryz.func227 Tryz.ntmps227 [.tmp 2] fun B => ?_
   repeat' (first | refine kz ?_ | refine kf ?_ | fail)
   all_goals rfl
 ·rw [show Bh v = -1 from if_pos k]
  refine Ac hT Tryz.func227 Tryz.ntmps227 [.tmp 2] fun B => ?_
  repeat' (first | refine kz ?_ | refine kf ?_ | fail)
  all_goals rfl
theorem Do (b : Bool) : PCall Tryz.prog 267 [.one (.lit (.bool b))] (.v (.agg (Br b).d)) := by
 cases b
 ·refine Ac hT Tryz.func267 Tryz.ntmps267 [.cell 2 73] fun B => ?_
  repeat' (first | refine kz ?_ | refine Aa (Ba _) ?_ | refine kf ?_ | exact k0 | refine kg ?_ ?_ | fail)
  all_goals rfl
 ·refine Ac hT Tryz.func267 Tryz.ntmps267 [.cell 2 73] fun B => ?_
  repeat' (first | refine kz ?_ | refine Aa (Ba _) ?_ | refine kf ?_ | exact k0 | refine kg ?_ ?_ | fail)
  all_goals rfl
def Qc (a b : Int) : Val := if a = 0 ∨ b = 0 then Br false else if a < 0 ∨ b < 0 then Val.null else Br true
def Qd (a b : Int) : Val := if a = 1 ∨ b = 1 then Br true else if a < 0 ∨ b < 0 then Val.null else Br false
theorem Qe (v : Val) : RZ v = true ↔ Bh v = 0 := by
 unfold RZ Bh
 simp only [Bool.and_eq_true, decide_eq_true_eq]
 split
 ·omega
 ·split <;> omega
theorem Hy (v : Val) : OE v = true ↔ Bh v = 1 := by
 unfold OE Bh
 simp only [Bool.and_eq_true, decide_eq_true_eq]
 split
 ·omega
 ·split <;> omega
theorem CM (v : Val) : Bh v = -1 ∨ Bh v = 0 ∨ Bh v = 1 := by
 unfold Bh
 split
 ·omega
 ·split <;> omega
theorem Q6 (a b : Val) : Qc (Bh a) (Bh b) = Nv a b := by
 unfold Qc Nv
 simp only [Bool.or_eq_true, Bool.and_eq_true, Qe, Hy]
 rcases CM a with h | h | h <;> rcases CM b with g | g | g <;> simp [h, g]
theorem To (a b : Val) : Qd (Bh a) (Bh b) = Wr a b := by
 unfold Qd Wr
 simp only [Bool.or_eq_true, Bool.and_eq_true, Qe, Hy]
 rcases CM a with h | h | h <;> rcases CM b with g | g | g <;> simp [h, g]
theorem LU (a b : Val) : PCall Tryz.prog 266 [.one (.lit (.int .i64 14)), .one (.lit (.int .i64 (Bh a))), .one (.lit (.int .i64 (Bh b)))] (.v (.agg (Nv a b).d)) := by
 rw [← Q6]
 have t0 := Do false
 have t1 := Do true
 rcases CM a with h | h | h <;> rcases CM b with g | g | g <;> rw [h, g]
 all_goals
  refine Ac hT Tryz.func266 Tryz.ntmps266 [.cell 6 73] fun B => ?_
  repeat' (first | refine kz ?_ | refine Aa (t0) ?_ | refine Aa (t1) ?_ | refine kf ?_ | exact k0 | refine kg ?_ ?_ | fail)
  all_goals rfl
theorem LV (a b : Val) : PCall Tryz.prog 266 [.one (.lit (.int .i64 15)), .one (.lit (.int .i64 (Bh a))), .one (.lit (.int .i64 (Bh b)))] (.v (.agg (Wr a b).d)) := by
 rw [← To]
 have t0 := Do false
 have t1 := Do true
 rcases CM a with h | h | h <;> rcases CM b with g | g | g <;> rw [h, g]
 all_goals
  refine Ac hT Tryz.func266 Tryz.ntmps266 [.cell 6 73] fun B => ?_
  repeat' (first | refine kz ?_ | refine Aa (t0) ?_ | refine Aa (t1) ?_ | refine kf ?_ | exact k0 | refine kg ?_ ?_ | fail)
  all_goals rfl
theorem LW (a b : Int) (ha : -4294967296 ≤ a ∧ a ≤ 4294967296) (hb : -4294967296 ≤ b ∧ b ≤ 4294967296) : PCall Tryz.prog 285 [.one (.lit (.int .i64 a)), .one (.lit (.int .i64 b))] (.v (.agg (Val.ofInt (a * b)).d)) := by
 have h1 := Ba (a * b)
 obtain ⟨m1, m2⟩ := Tn (M := 18446744073709551616) (show a.natAbs ≤ 4294967296 by omega) (show b.natAbs ≤ 4294967296 by omega) (by decide)
 by_cases h0 : a = 0
 ·subst h0
  refine Ac hT Tryz.func285 Tryz.ntmps285 [.cell 4 73] fun B => ?_
  repeat' (first | refine kz ?_ | refine Aa (h1) ?_ | refine kf ?_ | exact k0 | refine kg ?_ ?_ | fail)
  all_goals rfl
 by_cases h0' : b = 0
 ·subst h0'
  refine Ac hT Tryz.func285 Tryz.ntmps285 [.cell 4 73] fun B => ?_
  repeat' (first | refine kz ?_ | refine Aa (h1) ?_ | refine kf ?_ | exact k0 | refine kg ?_ ?_ | fail)
  all_goals rfl
 ·have hq := NB (a := b.natAbs) (b := a.natAbs) (by omega)
  have e1 : IntKind.i64.wrap (Int.tdiv 4294967296 (if b < -b then -b else b)) = ((4294967296 / b.natAbs : Nat) : Int) := by
   rw [I6, show (4294967296 : Int) = ((4294967296 : Nat) : Int) from rfl, ← Int.ofNat_tdiv]
   have := Nat.div_le_self 4294967296 b.natAbs
   generalize 4294967296 / b.natAbs = d at this ⊢
   exact BE (by omega) (by omega)
  have e2 := I6 a
  rw [Nat.mul_comm] at hq
  generalize 4294967296 / b.natAbs = d at e1 hq
  by_cases hbig : 4294967296 < a.natAbs * b.natAbs
  ·have hz : Val.ofInt (a * b) = Val.null := Qa (by
    rw [← Int.natAbs_mul] at hbig; omega)
   rw [hz]
   have hq := hq.2 hbig
   refine Ac hT Tryz.func285 Tryz.ntmps285 [.cell 4 73] fun B => ?_
   repeat' (first | refine kz ?_ | refine Aa (h1) ?_ | refine kf ?_ | exact k0 | refine kg ?_ ?_ | fail)
   all_goals first | rfl | (exfalso; rw [e1, e2] at hb; omega)
  ·have hs : -4294967296 ≤ a * b ∧ a * b ≤ 4294967296 := by
    rw [← Int.natAbs_mul] at hbig; omega
   have hq : ¬ d < a.natAbs := fun q => hbig (hq.1 q)
   refine Ac hT Tryz.func285 Tryz.ntmps285 [.cell 4 73] fun B => ?_
   repeat' (first | refine kz ?_ | refine Aa (h1) ?_ | refine kf ?_ | exact k0 | refine kg ?_ ?_ | fail)
   all_goals first | rfl | (exfalso; rw [e1, e2] at hb; omega)
theorem Q7 (a b : Int) : a.tdiv b * b = a ↔ a.tmod b = 0 := by
 have := Int.tmod_add_tdiv_mul a b
 omega
theorem Kj (a b : Int) (ha : -4294967296 ≤ a ∧ a ≤ 4294967296) : PCall Tryz.prog 286 [.one (.lit (.int .i64 a)), .one (.lit (.int .i64 b))] (.v (.agg (GB a b).d)) := by
 by_cases h0 : b = 0
 ·subst h0
  rw [show GB a 0 = Val.null from if_pos rfl]
  refine Ac hT Tryz.func286 Tryz.ntmps286 [.cell 4 73] fun B => ?_
  repeat' (first | refine kz ?_ | refine Au rfl (fun hb => ?_) (fun hb => ?_) | refine kf ?_ | refine Ai rfl rfl (fun hb => ?_) (fun hb => ?_) | exact k0 | refine kg ?_ ?_ | fail)
  all_goals rfl
 ·obtain ⟨b1, b2⟩ := Qb (b := b) ha
  have hw : IntKind.i64.wrap (a.tdiv b) = a.tdiv b := BE (by omega) (by omega)
  have hm : IntKind.i64.wrap (a.tdiv b) * b = a ↔ a.tmod b = 0 := by rw [hw]; exact Q7 a b
  have hpb : -9223372036854775808 ≤ IntKind.i64.wrap (a.tdiv b) * b ∧ IntKind.i64.wrap (a.tdiv b) * b ≤ 9223372036854775807 := by
   rw [hw]
   have h1 : (a.tdiv b * b).natAbs ≤ 4294967296 := by
    rw [Int.natAbs_mul, show (a.tdiv b).natAbs = a.natAbs / b.natAbs from Int.natAbs_tdiv a b]
    exact Nat.le_trans (Nat.div_mul_le_self _ _) (by omega)
   omega
  rw [show GB a b = Val.ofInt (FU a b) from if_neg h0]
  by_cases hc : a.tmod b ≠ 0 ∧ decide (a < 0) ≠ decide (b < 0)
  ·rw [show FU a b = IntKind.i64.wrap (a.tdiv b) - 1 by rw [hw, FU, if_pos hc]]
   refine Ac hT Tryz.func286 Tryz.ntmps286 [.cell 4 73] fun B => ?_
   repeat' (first | refine kz ?_ | refine Au rfl (fun hb => ?_) (fun hb => ?_) | refine Aa (Ba _) ?_ | refine kf ?_ | refine Ai rfl rfl (fun hb => ?_) (fun hb => ?_) | exact k0 | refine kg ?_ ?_ | fail)
   all_goals first | rfl | (exfalso; simp_all; done)
  ·rw [show FU a b = IntKind.i64.wrap (a.tdiv b) by rw [hw, FU, if_neg hc]]
   refine Ac hT Tryz.func286 Tryz.ntmps286 [.cell 4 73] fun B => ?_
   repeat' (first | refine kz ?_ | refine Au rfl (fun hb => ?_) (fun hb => ?_) | refine Aa (Ba _) ?_ | refine kf ?_ | refine Ai rfl rfl (fun hb => ?_) (fun hb => ?_) | exact k0 | refine kg ?_ ?_ | fail)
   all_goals first | rfl | (exfalso; simp_all; done)
end Go.Proofs.YtmpgmjlanngkfaaGreat
end
