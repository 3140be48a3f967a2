/-
  Expressions: the program's operators.
-/
import Derived.Test.YtmpgmjlanngkfaaGreatExb
import Derived.Test.YtmpgmjlanngkfaaGreatSum
section
namespace Go.Proofs.YtmpgmjlanngkfaaGreat
open Go.Abs Go.RowKit
attribute [local irreducible] ARun Au MCall PCall HCall Ak SF CF CFs Af Ag Ar fin AP VLe
set_option linter.unusedSimpArgs false
set_option maxRecDepth 100000
set_option maxHeartbeats 4000000
theorem CH (n : Int) : PC 207 [.one (.lit (.int .i64 n))] (.v (.agg (Val.ofInt n).d)) := by
 refine Ac hT Tryz.func207 Tryz.ntmps207 [.cell 2 73] fun B => ?_
 repeat' first | refine kz ?_ | refine Aa (Hu ⟨1, n, ⟨#[]⟩⟩) ?_ | refine kh ?_ ?_ | exact ⟨⟩ | fail
 all_goals rfl
theorem Cx (b : Bool) : PC 206 [.one (.lit (.bool b))] (.v (.agg (BV b).d)) := by
 cases b
 ·refine Ac hT Tryz.func206 Tryz.ntmps206 [.cell 2 73] fun B => ?_
  repeat' first | refine kz ?_ | refine Aa (CH _) ?_ | refine kh ?_ ?_ | exact ⟨⟩ | fail
  all_goals rfl
 ·refine Ac hT Tryz.func206 Tryz.ntmps206 [.cell 2 73] fun B => ?_
  repeat' first | refine kz ?_ | refine Aa (CH _) ?_ | refine kh ?_ ?_ | exact ⟨⟩ | fail
  all_goals rfl
theorem EE (v : Val) : PC 153 [.agg v.d] (.v (.one (.lit (.bool (Sk v))))) := by
 refine Ac hT Tryz.func153 Tryz.ntmps153 [.tmp 2] fun B => ?_
 repeat' first | refine kz ?_ | refine Aq rfl rfl (fun hb => ?_) (fun hb => ?_) | refine kf ?_ | fail
 all_goals (refine congrArg Dat.lit (congrArg Value.bool ?_); rw [U3]; simp_all [Sk])
theorem F2 (v : Val) : PC 242 [.agg v.d] (.v (.one (.lit (.bool (U9 v))))) := by
 refine Ac hT Tryz.func242 Tryz.ntmps242 [.tmp 2] fun B => ?_
 repeat' first | refine kz ?_ | refine Aq rfl rfl (fun hb => ?_) (fun hb => ?_) | refine kf ?_ | fail
 all_goals (refine congrArg Dat.lit (congrArg Value.bool ?_); rw [U3]; simp_all [U9])
theorem V6 (a b : Val) : PC 204 [.agg a.d, .agg b.d] (.v (.agg (V4 a b).d)) := by
 have h1 := F2 a
 have h2 := F2 b
 have h3 := EE a
 have h4 := EE b
 unfold V4
 generalize U9 a = p at *
 generalize U9 b = q at *
 generalize Sk a = r at *
 generalize Sk b = s at *
 have t0 := Cx false
 have t1 := Cx true
 cases p <;> cases q <;> cases r <;> cases s
 all_goals
  refine Ac hT Tryz.func204 Tryz.ntmps204 [.cell 4 73] fun B => ?_
  repeat' first | refine kz ?_ | refine Aa (h1) ?_ | refine Aa (h2) ?_ | refine Aa (h3) ?_ | refine Aa (h4) ?_ | refine Aa (t0) ?_ | refine Aa (t1) ?_ | refine kh ?_ ?_ | exact ⟨⟩ | fail
  all_goals rfl
theorem YE (a b : Val) : PC 205 [.agg a.d, .agg b.d] (.v (.agg (bV a b).d)) := by
 have h1 := F2 a
 have h2 := F2 b
 have h3 := EE a
 have h4 := EE b
 unfold bV
 generalize U9 a = p at *
 generalize U9 b = q at *
 generalize Sk a = r at *
 generalize Sk b = s at *
 have t0 := Cx false
 have t1 := Cx true
 cases p <;> cases q <;> cases r <;> cases s
 all_goals
  refine Ac hT Tryz.func205 Tryz.ntmps205 [.cell 4 73] fun B => ?_
  repeat' first | refine kz ?_ | refine Aa (h1) ?_ | refine Aa (h2) ?_ | refine Aa (h3) ?_ | refine Aa (h4) ?_ | refine Aa (t0) ?_ | refine Aa (t1) ?_ | refine kh ?_ ?_ | exact ⟨⟩ | fail
  all_goals rfl
theorem Rq (op : Int) (a b c : Val) : PC 158 [.one (.lit (.int .i64 op)), .agg a.d, .agg b.d, .agg c.d] (.v (.agg (Rk op a b c).d)) := by
 have h1 := V6 a b
 have h2 := YE a b
 have h3 := EE a
 have h4 := Cx (decide (a.kind = 0))
 unfold Rk
 refine Ac hT Tryz.func158 Tryz.ntmps158 [.cell 8 73] fun B => ?_
 repeat' first | refine kz ?_ | refine AN rfl (fun hb => ?_) (fun hb => ?_) | refine Aa (h1) ?_ | refine Aa (h2) ?_ | refine Aa (h3) ?_ | refine Aa (h4) ?_ | refine kh ?_ ?_ | exact ⟨⟩ | fail
 all_goals simp_all
theorem Qo {s : ByteArray} (h : s.size ≤ 32) : Val.ofText s = ⟨2, 0, s⟩ := by
 simp [Val.ofText, Val.clean, Val.valid, h]
theorem TU {s : ByteArray} (h : 32 < s.size) : Val.ofText s = Val.null := by
 have h' : ¬ s.size ≤ 32 := by omega
 simp [Val.ofText, Val.clean, Val.valid, h']
theorem TV (op : Int) (a b : Val) (ha : a.valid = true) (hb : b.valid = true) : PC 159 [.one (.lit (.int .i64 op)), .agg a.d, .agg b.d] (.v (.agg (FF op a b).d)) := by
 have h1 := CH (a.text.size : Int)
 have la : a.kind = 2 → a.text.size ≤ 32 := fun h => by
  rcases Ch ha with h2 | h2 | h2
  ·omega
  ·omega
  ·exact h2.2.1
 have lb : b.kind = 2 → b.text.size ≤ 32 := fun h => by
  rcases Ch hb with h2 | h2 | h2
  ·omega
  ·omega
  ·exact h2.2.1
 by_cases ka : a.kind = 2
 ·have la := la ka
  by_cases o9 : op = 9
  ·have e : FF op a b = Val.ofInt a.text.size := by rw [FF, if_neg (by omega), if_pos o9]
   rw [e]
   refine Ac hT Tryz.func159 Tryz.ntmps159 [.cell 6 73] fun B => ?_
   repeat' first | refine kz ?_ | refine Aa (h1) ?_ | refine kf ?_ | refine Aq rfl rfl (fun hb => ?_) (fun hb => ?_) | exact k0 | refine kg ?_ ?_ | fail
   all_goals rfl
  by_cases o8 : op = 8
  ·by_cases kb : b.kind = 2
   ·have lb := lb kb
    have e : FF op a b = Val.ofText (a.text ++ b.text) := by rw [FF, if_neg (by omega), if_neg o9, if_pos ⟨o8, kb⟩]
    rw [e]
    have hz : (a.text ++ b.text).size = a.text.size + b.text.size := ByteArray.size_append
    by_cases hl : a.text.size + b.text.size ≤ 32
    ·rw [Qo (by omega)]
     refine Ac hT Tryz.func159 Tryz.ntmps159 [.cell 6 73] fun B => ?_
     repeat' first | refine kz ?_ | refine kf ?_ | refine Aq rfl rfl (fun hb => ?_) (fun hb => ?_) | exact k0 | refine kg ?_ ?_ | fail
     all_goals rfl
    ·rw [TU (by omega)]
     refine Ac hT Tryz.func159 Tryz.ntmps159 [.cell 6 73] fun B => ?_
     repeat' first | refine kz ?_ | refine kf ?_ | refine Aq rfl rfl (fun hb => ?_) (fun hb => ?_) | exact k0 | refine kg ?_ ?_ | fail
     all_goals rfl
   ·have e : FF op a b = Val.null := by rw [FF, if_neg (by omega), if_neg o9, if_neg (fun q => kb q.2), if_neg (fun q => by omega)]
    rw [e]
    refine Ac hT Tryz.func159 Tryz.ntmps159 [.cell 6 73] fun B => ?_
    repeat' first | refine kz ?_ | refine kf ?_ | refine Aq rfl rfl (fun hb => ?_) (fun hb => ?_) | exact k0 | refine kg ?_ ?_ | fail
    all_goals rfl
  by_cases o10 : op = 10 ∧ b.kind = 1 ∧ 0 ≤ b.int
  ·obtain ⟨p1, p2, p3⟩ := o10
   have hm : (min b.int a.text.size).toNat ≤ a.text.size := by omega
   have e : FF op a b = Val.ofText (a.text.extract 0 (min b.int a.text.size).toNat) := by rw [FF, if_neg (by omega), if_neg o9, if_neg (fun q => o8 q.1), if_pos ⟨p1, p2, p3⟩]
   rw [e, Qo (by rw [ByteArray.size_extract]; omega)]
   refine Ac hT Tryz.func159 Tryz.ntmps159 [.cell 6 73] fun B => ?_
   repeat' first | refine kz ?_ | refine kf ?_ | refine Aq rfl rfl (fun hb => ?_) (fun hb => ?_) | exact k0 | refine kg ?_ ?_ | fail
   all_goals first | rfl | (rw [show ∀ x y : Int, (if x < y then x else y) = min y x from fun x y => by split <;> omega]; rfl)
  ·have e : FF op a b = Val.null := by rw [FF, if_neg (by omega), if_neg o9, if_neg (fun q => o8 q.1), if_neg o10]
   rw [e]
   refine Ac hT Tryz.func159 Tryz.ntmps159 [.cell 6 73] fun B => ?_
   repeat' first | refine kz ?_ | refine kf ?_ | refine Aq rfl rfl (fun hb => ?_) (fun hb => ?_) | exact k0 | refine kg ?_ ?_ | fail
   all_goals first | rfl | omega
 ·have e : FF op a b = Val.null := by rw [FF, if_pos ka]
  rw [e]
  refine Ac hT Tryz.func159 Tryz.ntmps159 [.cell 6 73] fun B => ?_
  repeat' first | refine kz ?_ | refine kf ?_ | refine Aq rfl rfl (fun hb => ?_) (fun hb => ?_) | exact k0 | refine kg ?_ ?_ | fail
  all_goals rfl
theorem ar (a b : Val) : Cb [.int .i64 a.kind, .int .i64 a.int, .string a.text] [.int .i64 b.kind, .int .i64 b.int, .string b.text] = a.same b := by
 simp [Cb, Ja, Val.same]
theorem NW (op : Int) (a b : Val) : PC 160 [.one (.lit (.int .i64 op)), .agg a.d, .agg b.d] (.v (.agg (KA op a b).d)) := by
 have h1 := HJ a b
 by_cases k : a.kind = 0 ∨ a.kind ≠ b.kind
 ·rw [show KA op a b = Val.null from if_pos k]
  rcases k with k | k
  ·refine Ac hT Tryz.func160 Tryz.ntmps160 [.cell 6 73] fun B => ?_
   repeat' first | refine kz ?_ | refine kf ?_ | refine Aq rfl rfl (fun hb => ?_) (fun hb => ?_) | exact k0 | refine kg ?_ ?_ | fail
   all_goals rfl
  ·refine Ac hT Tryz.func160 Tryz.ntmps160 [.cell 6 73] fun B => ?_
   repeat' first | refine kz ?_ | refine kf ?_ | refine Aq rfl rfl (fun hb => ?_) (fun hb => ?_) | exact k0 | refine kg ?_ ?_ | fail
   all_goals rfl
 ·have k1 : ¬ a.kind = 0 := fun q => k (.inl q)
  have k2 : a.kind = b.kind := WM fun q => k (.inr q)
  by_cases o : op = 11
  ·rw [show KA op a b = BV (a.same b) by rw [KA, if_neg k, if_pos o], ← ar]
   refine Ac hT Tryz.func160 Tryz.ntmps160 [.cell 6 73] fun B => ?_
   repeat' first | refine kz ?_ | refine Aa (h1) ?_ | refine Aa (Cx _) ?_ | refine kf ?_ | refine Aq rfl rfl (fun hb => ?_) (fun hb => ?_) | exact k0 | refine kg ?_ ?_ | fail
   all_goals rfl
  ·rw [show KA op a b = BV (decide (a.cmp b < 0)) by rw [KA, if_neg k, if_neg o]]
   refine Ac hT Tryz.func160 Tryz.ntmps160 [.cell 6 73] fun B => ?_
   repeat' first | refine kz ?_ | refine Aa (h1) ?_ | refine Aa (Cx _) ?_ | refine kf ?_ | refine Aq rfl rfl (fun hb => ?_) (fun hb => ?_) | exact k0 | refine kg ?_ ?_ | fail
   all_goals rfl
end Go.Proofs.YtmpgmjlanngkfaaGreat
end
