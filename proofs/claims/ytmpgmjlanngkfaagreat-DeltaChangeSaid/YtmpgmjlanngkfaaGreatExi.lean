/-
  Expressions: the document's operators.
-/
import Derived.Test.YtmpgmjlanngkfaaGreatAgp
section
namespace Go.Proofs.YtmpgmjlanngkfaaGreat
open Go.Abs Go.RowKit
attribute [local irreducible] ARun Av MCall PCall HCall Ap SF CF CFs Ag Ai As fin AY VLe
set_option linter.unusedSimpArgs false
set_option maxRecDepth 100000
set_option maxHeartbeats 4000000
theorem Wz {a b : Int} {M x y : Nat} (ha : a.natAbs ≤ x) (hb : b.natAbs ≤ y) (h : x * y ≤ M) : -(M : Int) ≤ a * b ∧ a * b ≤ M := by
 have h3 : (a * b).natAbs ≤ M := by rw [XW]; exact LX (ZF ha hb) h
 omega
theorem SO {n : Int} (h : n < -4294967296 ∨ 4294967296 < n) : Val.ofInt n = Val.null := by
 have h' : (Val.mk 1 n ⟨#[]⟩).valid = false := by
  unfold Val.valid
  rw [if_neg (show ¬ (1 : Int) = 0 by omega), if_pos rfl]
  have : (decide (-4294967296 ≤ n) && decide (n ≤ 4294967296)) = false := by
   rw [Bool.and_eq_false_iff, decide_eq_false_iff_not, decide_eq_false_iff_not]; omega
  rw [show (Val.mk 1 n ⟨#[]⟩).int = n from rfl, this, Bool.false_and]
 unfold Val.ofInt Val.clean
 rw [h']; rfl
theorem Ko (a : Int) : (if a < -a then -a else a) = (a.natAbs : Int) := by split <;> omega
theorem PZ {a b : Nat} (ha : 0 < a) : 4294967296 / a < b ↔ 4294967296 < a * b := by
 rw [Nat.div_lt_iff_lt_mul ha, OB]
theorem T9 (a b : Int) (ha : -4294967296 ≤ a ∧ a ≤ 4294967296) (hb : -4294967296 ≤ b ∧ b ≤ 4294967296) : PC 208 [.one (.lit (.int .i64 a)), .one (.lit (.int .i64 b))] (.v (.agg (Val.ofInt (a * b)).d)) := by
 have h1 := Dj (a * b)
 obtain ⟨m1, m2⟩ := Wz (M := 18446744073709551616) (show a.natAbs ≤ 4294967296 by omega) (show b.natAbs ≤ 4294967296 by omega) (by decide)
 by_cases h0 : a = 0
 ·subst h0
  refine Ac hT Tryz.func208 Tryz.ntmps208 [.cell 4 73] fun B => ?_
  repeat' first | refine kz ?_ | refine Aa (h1) ?_ | refine kh ?_ ?_ | exact ⟨⟩ | fail
  all_goals rfl
 ·have hq := PZ (b := b.natAbs) (show 0 < a.natAbs by omega)
  have e1 : IntKind.i64.wrap (Int.tdiv 4294967296 (if a < -a then -a else a)) = ((4294967296 / a.natAbs : Nat) : Int) := by
   rw [Ko, show (4294967296 : Int) = ((4294967296 : Nat) : Int) from rfl, ← Int.ofNat_tdiv]
   have := Nat.div_le_self 4294967296 a.natAbs
   generalize 4294967296 / a.natAbs = d at this ⊢
   exact BW (by omega) (by omega)
  have e2 := Ko b
  generalize 4294967296 / a.natAbs = d at e1 hq
  by_cases kX : 4294967296 < a.natAbs * b.natAbs
  ·have hz : Val.ofInt (a * b) = Val.null := SO (by
    rw [← XW] at kX; omega)
   rw [hz]
   have hq := hq.2 kX
   refine Ac hT Tryz.func208 Tryz.ntmps208 [.cell 4 73] fun B => ?_
   repeat' first | refine kz ?_ | refine Aa (h1) ?_ | refine kh ?_ ?_ | exact ⟨⟩ | fail
   all_goals first | rfl | (exfalso; rw [e1, e2] at hb; omega)
  ·have hs : -4294967296 ≤ a * b ∧ a * b ≤ 4294967296 := by
    rw [← XW] at kX; omega
   have hq : ¬ d < b.natAbs := fun q => kX (hq.1 q)
   refine Ac hT Tryz.func208 Tryz.ntmps208 [.cell 4 73] fun B => ?_
   repeat' first | refine kz ?_ | refine Aa (h1) ?_ | refine kh ?_ ?_ | exact ⟨⟩ | fail
   all_goals first | rfl | (exfalso; rw [e1, e2] at hb; omega)
theorem SP {a b : Int} (h : -4294967296 ≤ a ∧ a ≤ 4294967296) : -4294967296 ≤ a.tdiv b ∧ a.tdiv b ≤ 4294967296 := by
 have h1 : (a.tdiv b).natAbs = a.natAbs / b.natAbs := Int.natAbs_tdiv a b
 have h2 := Nat.div_le_self a.natAbs b.natAbs
 generalize a.natAbs / b.natAbs = d at h1 h2
 omega
theorem Ru (a b : Int) (ha : -4294967296 ≤ a ∧ a ≤ 4294967296) : PC 209 [.one (.lit (.int .i64 a)), .one (.lit (.int .i64 b))] (.v (.agg (HN a b).d)) := by
 by_cases h0 : b = 0
 ·subst h0
  rw [show HN a 0 = Val.null from if_pos rfl]
  refine Ac hT Tryz.func209 Tryz.ntmps209 [.cell 4 73] fun B => ?_
  repeat' first | refine kz ?_ | refine Az rfl (fun hb => ?_) (fun hb => ?_) | refine kf ?_ | refine Al rfl rfl (fun hb => ?_) (fun hb => ?_) | exact k0 | refine kg ?_ ?_ | fail
  all_goals rfl
 ·obtain ⟨b1, b2⟩ := SP (b := b) ha
  have hw : IntKind.i64.wrap (a.tdiv b) = a.tdiv b := BW (by omega) (by omega)
  rw [show HN a b = Val.ofInt (GO a b) from if_neg h0]
  by_cases hc : a.tmod b ≠ 0 ∧ decide (a < 0) ≠ decide (b < 0)
  ·rw [show GO a b = IntKind.i64.wrap (a.tdiv b) - 1 by rw [hw, GO, if_pos hc]]
   refine Ac hT Tryz.func209 Tryz.ntmps209 [.cell 4 73] fun B => ?_
   repeat' first | refine kz ?_ | refine Az rfl (fun hb => ?_) (fun hb => ?_) | refine Aa (Dj _) ?_ | refine kf ?_ | refine Al rfl rfl (fun hb => ?_) (fun hb => ?_) | exact k0 | refine kg ?_ ?_ | fail
   all_goals first | rfl | (exfalso; simp_all; done)
  ·rw [show GO a b = IntKind.i64.wrap (a.tdiv b) by rw [hw, GO, if_neg hc]]
   refine Ac hT Tryz.func209 Tryz.ntmps209 [.cell 4 73] fun B => ?_
   repeat' first | refine kz ?_ | refine Az rfl (fun hb => ?_) (fun hb => ?_) | refine Aa (Dj _) ?_ | refine kf ?_ | refine Al rfl rfl (fun hb => ?_) (fun hb => ?_) | exact k0 | refine kg ?_ ?_ | fail
   all_goals first | rfl | (exfalso; simp_all; done)
theorem JR (op : Int) (a b : Val) (ha : a.valid = true) (hb : b.valid = true) : PC 161 [.one (.lit (.int .i64 op)), .agg a.d, .agg b.d] (.v (.agg (H8 op a b).d)) := by
 by_cases k : a.kind ≠ 1 ∨ b.kind ≠ 1
 ·rw [show H8 op a b = Val.null from if_pos k]
  rcases k with k | k
  ·refine Ac hT Tryz.func161 Tryz.ntmps161 [.cell 6 73] fun B => ?_
   repeat' first | refine kz ?_ | refine kf ?_ | refine Al rfl rfl (fun hb => ?_) (fun hb => ?_) | exact k0 | refine kg ?_ ?_ | fail
   all_goals rfl
  ·refine Ac hT Tryz.func161 Tryz.ntmps161 [.cell 6 73] fun B => ?_
   repeat' first | refine kz ?_ | refine kf ?_ | refine Al rfl rfl (fun hb => ?_) (fun hb => ?_) | exact k0 | refine kg ?_ ?_ | fail
   all_goals rfl
 have ka : a.kind = 1 := Zz fun q => k (.inl q)
 have kb : b.kind = 1 := Zz fun q => k (.inr q)
 have ia : -4294967296 ≤ a.int ∧ a.int ≤ 4294967296 := by
  rcases BT ha with h | h | h
  ·omega
  ·exact ⟨h.2.1, h.2.2.1⟩
  ·omega
 have ib : -4294967296 ≤ b.int ∧ b.int ≤ 4294967296 := by
  rcases BT hb with h | h | h
  ·omega
  ·exact ⟨h.2.1, h.2.2.1⟩
  ·omega
 have h1 := T9 a.int b.int ia ib
 have h2 := Ru a.int b.int ia
 have h3 := C9 (a.int == 0)
 have e : H8 op a b = if op = 3 then Val.ofInt (-a.int) else if op = 13 then BO (a.int == 0) else if op = 4 then Val.ofInt (a.int + b.int) else if op = 5 then Val.ofInt (a.int - b.int) else if op = 6 then Val.ofInt (a.int * b.int) else HN a.int b.int := by
  rw [H8, if_neg k, Kn]
 rw [e]
 clear e k ha hb
 by_cases o3 : op = 3
 ·rw [if_pos o3]
  refine Ac hT Tryz.func161 Tryz.ntmps161 [.cell 6 73] fun B => ?_
  repeat' first | refine kz ?_ | refine Aa (Dj _) ?_ | refine kf ?_ | refine Al rfl rfl (fun hb => ?_) (fun hb => ?_) | exact k0 | refine kg ?_ ?_ | fail
  all_goals rfl
 rw [if_neg o3]
 by_cases xq : op = 13
 ·rw [if_pos xq]
  refine Ac hT Tryz.func161 Tryz.ntmps161 [.cell 6 73] fun B => ?_
  repeat' first | refine kz ?_ | refine Aa (h3) ?_ | refine kf ?_ | refine Al rfl rfl (fun hb => ?_) (fun hb => ?_) | exact k0 | refine kg ?_ ?_ | fail
  all_goals rfl
 rw [if_neg xq]
 by_cases o4 : op = 4
 ·rw [if_pos o4]
  refine Ac hT Tryz.func161 Tryz.ntmps161 [.cell 6 73] fun B => ?_
  repeat' first | refine kz ?_ | refine Aa (Dj _) ?_ | refine kf ?_ | refine Al rfl rfl (fun hb => ?_) (fun hb => ?_) | exact k0 | refine kg ?_ ?_ | fail
  all_goals rfl
 rw [if_neg o4]
 by_cases o5 : op = 5
 ·rw [if_pos o5]
  refine Ac hT Tryz.func161 Tryz.ntmps161 [.cell 6 73] fun B => ?_
  repeat' first | refine kz ?_ | refine Aa (Dj _) ?_ | refine kf ?_ | refine Al rfl rfl (fun hb => ?_) (fun hb => ?_) | exact k0 | refine kg ?_ ?_ | fail
  all_goals rfl
 rw [if_neg o5]
 by_cases o6 : op = 6
 ·rw [if_pos o6]
  refine Ac hT Tryz.func161 Tryz.ntmps161 [.cell 6 73] fun B => ?_
  repeat' first | refine kz ?_ | refine Aa (h1) ?_ | refine kf ?_ | refine Al rfl rfl (fun hb => ?_) (fun hb => ?_) | exact k0 | refine kg ?_ ?_ | fail
  all_goals rfl
 rw [if_neg o6]
 refine Ac hT Tryz.func161 Tryz.ntmps161 [.cell 6 73] fun B => ?_
 repeat' first | refine kz ?_ | refine Aa (h2) ?_ | refine kf ?_ | refine Al rfl rfl (fun hb => ?_) (fun hb => ?_) | exact k0 | refine kg ?_ ?_ | fail
 all_goals rfl
def BD (v : Val) : Int := if v.kind ≠ 1 then -1 else if v.int = 0 then 0 else 1
theorem DC (v : Val) : PC 227 [.agg v.d] (.v (.one (.lit (.int .i64 (BD v))))) := by
 by_cases k : v.kind = 1
 ·by_cases z : v.int = 0
  ·rw [show BD v = 0 by rw [BD, if_neg (by omega), if_pos z]]
   refine Ac hT Tryz.func227 Tryz.ntmps227 [.tmp 2] fun B => ?_
   repeat' first | refine kz ?_ | refine kf ?_ | fail
   all_goals rfl
  ·rw [show BD v = 1 by rw [BD, if_neg (by omega), if_neg z]]
   refine Ac hT Tryz.func227 Tryz.ntmps227 [.tmp 2] fun B => ?_
   repeat' first | refine kz ?_ | refine kf ?_ | fail
   all_goals rfl
 ·rw [show BD v = -1 from if_pos k]
  refine Ac hT Tryz.func227 Tryz.ntmps227 [.tmp 2] fun B => ?_
  repeat' first | refine kz ?_ | refine kf ?_ | fail
  all_goals rfl
theorem DY (b : Bool) : PC 267 [.one (.lit (.bool b))] (.v (.agg (BO b).d)) := by
 cases b
 ·refine Ac hT Tryz.func267 Tryz.ntmps267 [.cell 2 73] fun B => ?_
  repeat' first | refine kz ?_ | refine Aa (Bw _) ?_ | refine kh ?_ ?_ | exact ⟨⟩ | fail
  all_goals rfl
 ·refine Ac hT Tryz.func267 Tryz.ntmps267 [.cell 2 73] fun B => ?_
  repeat' first | refine kz ?_ | refine Aa (Bw _) ?_ | refine kh ?_ ?_ | exact ⟨⟩ | fail
  all_goals rfl
def SQ (a b : Int) : Val := if a = 0 ∨ b = 0 then BO false else if a < 0 ∨ b < 0 then Val.null else BO true
def SS (a b : Int) : Val := if a = 1 ∨ b = 1 then BO true else if a < 0 ∨ b < 0 then Val.null else BO false
theorem SU (v : Val) : U7 v = true ↔ BD v = 0 := by
 unfold U7 BD
 simp only [BM, decide_eq_true_eq]
 split
 ·omega
 ·split <;> omega
theorem IL (v : Val) : QZ v = true ↔ BD v = 1 := by
 unfold QZ BD
 simp only [BM, decide_eq_true_eq]
 split
 ·omega
 ·split <;> omega
theorem Da (v : Val) : BD v = -1 ∨ BD v = 0 ∨ BD v = 1 := by
 unfold BD
 split
 ·omega
 ·split <;> omega
theorem Ua (a b : Val) : SQ (BD a) (BD b) = PS a b := by
 unfold SQ PS
 simp only [Va, BM, SU, IL]
 rcases Da a with h | h | h <;> rcases Da b with g | g | g <;> simp [h, g]
theorem WA (a b : Val) : SS (BD a) (BD b) = Z7 a b := by
 unfold SS Z7
 simp only [Va, BM, SU, IL]
 rcases Da a with h | h | h <;> rcases Da b with g | g | g <;> simp [h, g]
theorem N2 (a b : Val) : PC 266 [.one (.lit (.int .i64 14)), .one (.lit (.int .i64 (BD a))), .one (.lit (.int .i64 (BD b)))] (.v (.agg (PS a b).d)) := by
 rw [← Ua]
 have t0 := DY false
 have t1 := DY true
 rcases Da a with h | h | h <;> rcases Da b with g | g | g <;> rw [h, g]
 all_goals
  refine Ac hT Tryz.func266 Tryz.ntmps266 [.cell 6 73] fun B => ?_
  repeat' first | refine kz ?_ | refine Aa (t0) ?_ | refine Aa (t1) ?_ | refine kh ?_ ?_ | exact ⟨⟩ | fail
  all_goals rfl
theorem N3 (a b : Val) : PC 266 [.one (.lit (.int .i64 15)), .one (.lit (.int .i64 (BD a))), .one (.lit (.int .i64 (BD b)))] (.v (.agg (Z7 a b).d)) := by
 rw [← WA]
 have t0 := DY false
 have t1 := DY true
 rcases Da a with h | h | h <;> rcases Da b with g | g | g <;> rw [h, g]
 all_goals
  refine Ac hT Tryz.func266 Tryz.ntmps266 [.cell 6 73] fun B => ?_
  repeat' first | refine kz ?_ | refine Aa (t0) ?_ | refine Aa (t1) ?_ | refine kh ?_ ?_ | exact ⟨⟩ | fail
  all_goals rfl
theorem N4 (a b : Int) (ha : -4294967296 ≤ a ∧ a ≤ 4294967296) (hb : -4294967296 ≤ b ∧ b ≤ 4294967296) : PC 285 [.one (.lit (.int .i64 a)), .one (.lit (.int .i64 b))] (.v (.agg (Val.ofInt (a * b)).d)) := by
 have h1 := Bw (a * b)
 obtain ⟨m1, m2⟩ := Wz (M := 18446744073709551616) (show a.natAbs ≤ 4294967296 by omega) (show b.natAbs ≤ 4294967296 by omega) (by decide)
 by_cases h0 : a = 0
 ·subst h0
  refine Ac hT Tryz.func285 Tryz.ntmps285 [.cell 4 73] fun B => ?_
  repeat' first | refine kz ?_ | refine Aa (h1) ?_ | refine kh ?_ ?_ | exact ⟨⟩ | fail
  all_goals rfl
 by_cases yW : b = 0
 ·subst yW
  refine Ac hT Tryz.func285 Tryz.ntmps285 [.cell 4 73] fun B => ?_
  repeat' first | refine kz ?_ | refine Aa (h1) ?_ | refine kh ?_ ?_ | exact ⟨⟩ | fail
  all_goals rfl
 ·have hq := PZ (a := b.natAbs) (b := a.natAbs) (by omega)
  have e1 : IntKind.i64.wrap (Int.tdiv 4294967296 (if b < -b then -b else b)) = ((4294967296 / b.natAbs : Nat) : Int) := by
   rw [Ko, show (4294967296 : Int) = ((4294967296 : Nat) : Int) from rfl, ← Int.ofNat_tdiv]
   have := Nat.div_le_self 4294967296 b.natAbs
   generalize 4294967296 / b.natAbs = d at this ⊢
   exact BW (by omega) (by omega)
  have e2 := Ko a
  rw [OB] at hq
  generalize 4294967296 / b.natAbs = d at e1 hq
  by_cases kX : 4294967296 < a.natAbs * b.natAbs
  ·have hz : Val.ofInt (a * b) = Val.null := SO (by
    rw [← XW] at kX; omega)
   rw [hz]
   have hq := hq.2 kX
   refine Ac hT Tryz.func285 Tryz.ntmps285 [.cell 4 73] fun B => ?_
   repeat' first | refine kz ?_ | refine Aa (h1) ?_ | refine kh ?_ ?_ | exact ⟨⟩ | fail
   all_goals first | rfl | (exfalso; rw [e1, e2] at hb; omega)
  ·have hs : -4294967296 ≤ a * b ∧ a * b ≤ 4294967296 := by
    rw [← XW] at kX; omega
   have hq : ¬ d < a.natAbs := fun q => kX (hq.1 q)
   refine Ac hT Tryz.func285 Tryz.ntmps285 [.cell 4 73] fun B => ?_
   repeat' first | refine kz ?_ | refine Aa (h1) ?_ | refine kh ?_ ?_ | exact ⟨⟩ | fail
   all_goals first | rfl | (exfalso; rw [e1, e2] at hb; omega)
theorem Ub (a b : Int) : a.tdiv b * b = a ↔ a.tmod b = 0 := by
 have := Int.tmod_add_tdiv_mul a b
 omega
theorem L6 (a b : Int) (ha : -4294967296 ≤ a ∧ a ≤ 4294967296) : PC 286 [.one (.lit (.int .i64 a)), .one (.lit (.int .i64 b))] (.v (.agg (HN a b).d)) := by
 by_cases h0 : b = 0
 ·subst h0
  rw [show HN a 0 = Val.null from if_pos rfl]
  refine Ac hT Tryz.func286 Tryz.ntmps286 [.cell 4 73] fun B => ?_
  repeat' first | refine kz ?_ | refine Az rfl (fun hb => ?_) (fun hb => ?_) | refine kf ?_ | refine Al rfl rfl (fun hb => ?_) (fun hb => ?_) | exact k0 | refine kg ?_ ?_ | fail
  all_goals rfl
 ·obtain ⟨b1, b2⟩ := SP (b := b) ha
  have hw : IntKind.i64.wrap (a.tdiv b) = a.tdiv b := BW (by omega) (by omega)
  have hm : IntKind.i64.wrap (a.tdiv b) * b = a ↔ a.tmod b = 0 := by rw [hw]; exact Ub a b
  have hpb : -9223372036854775808 ≤ IntKind.i64.wrap (a.tdiv b) * b ∧ IntKind.i64.wrap (a.tdiv b) * b ≤ 9223372036854775807 := by
   rw [hw]
   have h1 : (a.tdiv b * b).natAbs ≤ 4294967296 := by
    rw [XW, show (a.tdiv b).natAbs = a.natAbs / b.natAbs from Int.natAbs_tdiv a b]
    exact LX (Nat.div_mul_le_self _ _) (by omega)
   omega
  rw [show HN a b = Val.ofInt (GO a b) from if_neg h0]
  by_cases hc : a.tmod b ≠ 0 ∧ decide (a < 0) ≠ decide (b < 0)
  ·rw [show GO a b = IntKind.i64.wrap (a.tdiv b) - 1 by rw [hw, GO, if_pos hc]]
   refine Ac hT Tryz.func286 Tryz.ntmps286 [.cell 4 73] fun B => ?_
   repeat' first | refine kz ?_ | refine Az rfl (fun hb => ?_) (fun hb => ?_) | refine Aa (Bw _) ?_ | refine kf ?_ | refine Al rfl rfl (fun hb => ?_) (fun hb => ?_) | exact k0 | refine kg ?_ ?_ | fail
   all_goals first | rfl | (exfalso; simp_all; done)
  ·rw [show GO a b = IntKind.i64.wrap (a.tdiv b) by rw [hw, GO, if_neg hc]]
   refine Ac hT Tryz.func286 Tryz.ntmps286 [.cell 4 73] fun B => ?_
   repeat' first | refine kz ?_ | refine Az rfl (fun hb => ?_) (fun hb => ?_) | refine Aa (Bw _) ?_ | refine kf ?_ | refine Al rfl rfl (fun hb => ?_) (fun hb => ?_) | exact k0 | refine kg ?_ ?_ | fail
   all_goals first | rfl | (exfalso; simp_all; done)
end Go.Proofs.YtmpgmjlanngkfaaGreat
end
