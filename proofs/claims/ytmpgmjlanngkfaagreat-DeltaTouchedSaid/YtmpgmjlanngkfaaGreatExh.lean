/-
  Expressions: the program's operators on numbers.
-/
import Derived.Test.YtmpgmjlanngkfaaGreatExb
import Derived.Test.YtmpgmjlanngkfaaGreatExf
section
namespace Go.Proofs.YtmpgmjlanngkfaaGreat
open Go.Abs Go.RowKit
attribute [local irreducible] ARun Aq MCall PCall HCall Am SF CF CFs Af Al Ap B5 AW VLe
set_option linter.unusedSimpArgs false
set_option maxRecDepth 100000
set_option maxHeartbeats 4000000
theorem Fu : DeferOk Tryz.prog 154 0 := by
 refine ⟨⟨_, Tryz.func154, by kernel_rfl, by kernel_rfl⟩, fun vs w hl => ?_⟩
 match vs, hl with
 | [], _ =>
   refine callsD_of_wpS Tryz.func154 rfl fun c₀ cs hu => ?_
   apply wpS_region
   simp [wpOpsS, go_sem, recoverD, hu, Tryz.ntmps154, Exit.thenS]
   cases c₀
   simp_all [bodyPostS, results, Tryz.results154]
def DJ (e : List Trm) (pos n : Nat) : Nat × Nat := match AS [] n (e.drop pos) with
 | none => (0, pos)
 | some (x, r) => (x.1, e.length - r.length)
theorem Ri (e : List Trm) (hl : e.length ≤ 100000) : ∀ (n pos : Nat), n ≤ 200000 → pos ≤ e.length → e.length - pos < n → PC 155 [.one (BR e), .one (.lit (.int .i64 pos))] (.tup [.one (.lit (.int .i64 (DJ e pos n).1)), .one (.lit (.int .i64 (DJ e pos n).2))]) := by
 intro n
 induction n with
 | zero => intro pos _ _ h; omega
 | succ n ih =>
   intro pos hn2 hp hn
   by_cases hlt : pos < e.length
   ·obtain ⟨t, hv⟩ := gx hlt
    have hd : e.drop pos = t :: e.drop (pos + 1) := Az hv
    have h1 := N4 t
    cases ht : Ep t with
    | false =>
      rw [ht] at h1
      have hm : DJ e pos (n + 1) = (0, pos) := by rw [DJ, hd, Rh ht]
      rw [hm]
      dsimp only
      clear ih
      refine Ad hT Tryz.func155 Tryz.ntmps155 [.tmp 4, .tmp 5] fun B => ?_
      repeat' first | refine kz ?_ | refine AT hv ?_ | refine As ?_ | refine Aa (h1) ?_ | refine kh ?_ ?_ | exact ⟨⟩ | fail
      all_goals rfl
    | true =>
      rw [ht] at h1
      have h0 : 0 ≤ FK t.op := by
       simp only [Ep, BO, decide_eq_true_eq] at ht
       exact ht.1
      have h3 := (Mb t.op).2
      obtain ⟨k, hk⟩ := T9 h0
      have h2 := Mc t.op
      have hmk : ∀ {xs r}, Bx (AS [] n) k (e.drop (pos + 1)) = some (xs, r) → DJ e pos (n + 1) = (1 + FL (xs.map Prod.fst), e.length - r.length) := fun {xs r} hs => by
       rw [DJ, hd, HE ht (by rw [hk]; exact hs)]
      have hno : Bx (AS [] n) k (e.drop (pos + 1)) = none → DJ e pos (n + 1) = (0, pos) := fun hs => by
       rw [DJ, hd, S7 (by rw [hk]; exact hs)]
      rw [hk] at h2
      clear hd ht h0
      refine Ad hT Tryz.func155 Tryz.ntmps155 [.tmp 4, .tmp 5] fun B => ?_
      repeat' first | refine kz ?_ | refine AT hv ?_ | refine As ?_ | refine Aa (h1) ?_ | refine Aa (h2) ?_ | refine kh ?_ ?_ | exact ⟨⟩ | fail
      refine AY (X := Nat × Nat × Nat) (List.range' 4 6 ++ List.range' 31 16) (fun x => x.1 ≤ k ∧ pos + 1 ≤ x.2.2 ∧ x.2.2 ≤ e.length ∧ ∃ xs, Bx (AS [] n) x.1 (e.drop (pos + 1)) = some (xs, e.drop x.2.2) ∧ x.2.1 = FL (xs.map Prod.fst) ∧ x.2.1 ≤ n) (fun x lz => (6, (iC x.2.1)) :: (7, (iC x.2.2)) :: (31, (iC x.1)) :: lz) (fun x => []) (fun x => k - x.1) ((0, 0, pos + 1)) ?_ ?_ ?_ ?_
      repeat' first | exact k0 | refine kw ?_ | omega
      ·dsimp only; exact ⟨by omega, by omega, by omega, [], rfl, rfl, by omega⟩
      rintro ⟨i, dp, en⟩ c ⟨hi, he1, he2, xs, hs, hdp, hdn⟩
      dsimp only at hi he1 he2 hs hdp hdn ⊢
      by_cases hik : i < k
      ·have hc := ih en (by omega) he2 (by omega)
       cases hq : AS [] n (e.drop en) with
       | none =>
         have hm : DJ e en n = (0, en) := by rw [DJ, hq]
         rw [hm] at hc
         rw [hno (Ii hs hq k hik)]
         dsimp only at hc ⊢
         clear ih hmk hno
         repeat' first | refine kz ?_ | refine AT hv ?_ | refine As ?_ | refine Aa (hc) ?_ | refine kh ?_ ?_ | exact ⟨⟩ | fail
         all_goals rfl
       | some q =>
         obtain ⟨y, r⟩ := q
         obtain ⟨j, hj1, hj2, hj3⟩ := Ij hq
         rw [Gm] at hj2
         rw [PR] at hj3
         obtain ⟨-, hy1, hy2⟩ := CB [] n _ y r hq
         have hm : DJ e en n = (y.1, en + j) := by
          rw [DJ, hq]
          simp only [hj3, Gm]
          congr 1
          omega
         rw [hm] at hc
         rw [hj3] at hq
         have hs' := Lm hs hq
         have hd' : max dp y.1 = FL ((xs ++ [y]).map Prod.fst) := by rw [As', List.map_cons, List.map_nil, Rg, hdp]
         dsimp only at hc
         clear ih hmk hno hm hq hs hdp
         generalize xs ++ [y] = xs' at hs' hd'
         generalize y.1 = dy at hc hy1 hy2 hd'
         repeat' first | refine kz ?_ | refine AT hv ?_ | refine As ?_ | refine Aa (hc) ?_ | refine kh ?_ ?_ | exact ⟨⟩ | fail
         apply Ae ((i + 1, max dp dy, en + j)) <;> (try dsimp only) <;> try repeat' first | exact k0 | refine kw ?_ | omega
         ·exact ⟨by omega, by omega, by omega, xs', hs', hd', by omega⟩
      ·obtain rfl : i = k := by omega
       rw [hmk hs, Gm, ← hdp]
       dsimp only
       clear ih hmk hno
       repeat' first | refine kz ?_ | refine AT hv ?_ | refine As ?_ | refine kh ?_ ?_ | exact ⟨⟩ | fail
       all_goals (refine congrArg Dat.lit (congrArg (Value.int _) ?_); omega)
   ·have hm : DJ e pos (n + 1) = (0, pos) := by rw [DJ, QF (by omega)]; rfl
    rw [hm]
    dsimp only
    clear ih
    refine Ad hT Tryz.func155 Tryz.ntmps155 [.tmp 4, .tmp 5] fun B => ?_
    repeat' first | refine kz ?_ | refine As ?_ | refine kh ?_ ?_ | exact ⟨⟩ | fail
    all_goals rfl
theorem N6 (e : List Trm) : PC 107 [.one (BR e)] (.v (.one (.lit (.bool (ES e))))) := by
 by_cases hl : 64 < e.length
 · have h0 : ES e = false := by rw [ES, decide_eq_false (by omega), Bool.false_and]
   rw [h0]
   refine Ad hT Tryz.func107 Tryz.ntmps107 [.tmp 2] fun B => ?_
   repeat' first | refine kz ?_ | refine kf ?_ | refine Av rfl rfl (fun hb => ?_) (fun hb => ?_) | refine Ay (by repeat (first | exact Ac | refine Ah Fu ?_)) ?_
   all_goals rfl
 have hc : PC 155 [.one (BR e), .one (.lit (.int .i64 0))] (.tup [.one (.lit (.int .i64 (DJ e 0 (e.length + 1)).1)), .one (.lit (.int .i64 (DJ e 0 (e.length + 1)).2))]) := Ri e (by omega) (e.length + 1) 0 (by omega) (by omega) (by omega)
 rw [DJ, List.drop_zero] at hc
 cases hq : AS [] (e.length + 1) e with
 | none =>
   have h0 : ES e = false := by
    rw [Bool.eq_false_iff]
    intro hh
    obtain ⟨_, x, hx⟩ := (Er e []).1 hh
    have hd := Il [] 16 e x [] hx
    rw [List.length_nil] at hd
    rw [Ft [] 16 e x [] hx (e.length + 1) (by omega)] at hq
    cases hq
   rw [hq] at hc
   rw [h0]
   dsimp only at hc
   refine Ad hT Tryz.func107 Tryz.ntmps107 [.tmp 2] fun B => ?_
   repeat' first | refine kz ?_ | refine Aa (hc) ?_ | refine kf ?_ | refine Av rfl rfl (fun hb => ?_) (fun hb => ?_) | refine Ay (by repeat (first | exact Ac | refine Ah Fu ?_)) ?_
   all_goals rfl
 | some q =>
   obtain ⟨y, r⟩ := q
   obtain ⟨-, hy1, -⟩ := CB [] _ _ y r hq
   obtain ⟨j, hj1, hj2, hj3⟩ := Ij hq
   rw [hq] at hc
   dsimp only at hc
   have hrl : r.length ≤ e.length := by rw [hj3, Gm]; omega
   have h0 : ES e = (decide (y.1 ≤ 16) && decide (r.length = 0)) := by
    rw [Wu, Er e [], BO, decide_eq_true_eq, decide_eq_true_eq]
    constructor
    ·rintro ⟨_, x, hx⟩
     have hd := Il [] 16 e x [] hx
     rw [List.length_nil] at hd
     rw [Ft [] 16 e x [] hx (e.length + 1) (by omega)] at hq
     simp only [Option.some.injEq, MA] at hq
     obtain ⟨rfl, rfl⟩ := hq
     exact ⟨(CB [] 16 e x [] hx).2.2, rfl⟩
    ·rintro ⟨h1, h2⟩
     obtain rfl := Yi.1 h2
     exact ⟨by omega, y, Ft [] _ e y [] hq 16 h1⟩
   rw [h0]
   have hyl : y.1 ≤ e.length + 1 := (CB [] _ _ y r hq).2.2
   clear h0 hj3 hq
   generalize y.1 = dy at *
   generalize r.length = rl at *
   refine Ad hT Tryz.func107 Tryz.ntmps107 [.tmp 2] fun B => ?_
   repeat' first | refine kz ?_ | refine Aa (hc) ?_ | refine kf ?_ | refine Av rfl rfl (fun hb => ?_) (fun hb => ?_) | refine Ay (by repeat (first | exact Ac | refine Ah Fu ?_)) ?_
   all_goals (refine congrArg Dat.lit (congrArg Value.bool ?_); rw [Wu]; simp; omega)
theorem Xe {a b : Int} {M x y : Nat} (ha : a.natAbs ≤ x) (hb : b.natAbs ≤ y) (h : x * y ≤ M) : -(M : Int) ≤ a * b ∧ a * b ≤ M := by
 have h3 : (a * b).natAbs ≤ M := by rw [Yr]; exact OQ (Nat.mul_le_mul ha hb) h
 omega
theorem Vc {n : Int} (h : n < -4294967296 ∨ 4294967296 < n) : Val.ofInt n = Val.null := by
 have h' : (Val.mk 1 n ⟨#[]⟩).valid = false := by
  unfold Val.valid
  rw [if_neg (show ¬ (1 : Int) = 0 by omega), if_pos rfl]
  have : (decide (-4294967296 ≤ n) && decide (n ≤ 4294967296)) = false := by
   rw [Bool.and_eq_false_iff, decide_eq_false_iff_not, decide_eq_false_iff_not]; omega
  rw [show (Val.mk 1 n ⟨#[]⟩).int = n from rfl, this, Bool.false_and]
 unfold Val.ofInt Val.clean
 rw [h']; rfl
theorem Qq (a : Int) : (if a < -a then -a else a) = (a.natAbs : Int) := by split <;> omega
theorem Td {a b : Nat} (ha : 0 < a) : 4294967296 / a < b ↔ 4294967296 < a * b := by
 rw [Nat.div_lt_iff_lt_mul ha, MB]
theorem Rl (a b : Int) (ha : -4294967296 ≤ a ∧ a ≤ 4294967296) (hb : -4294967296 ≤ b ∧ b ≤ 4294967296) : PC 208 [.one (.lit (.int .i64 a)), .one (.lit (.int .i64 b))] (.v (.agg (Val.ofInt (a * b)).d)) := by
 have h1 := Dl (a * b)
 obtain ⟨m1, m2⟩ := Xe (M := 18446744073709551616) (show a.natAbs ≤ 4294967296 by omega) (show b.natAbs ≤ 4294967296 by omega) (by decide)
 by_cases h0 : a = 0
 ·subst h0
  refine Ad hT Tryz.func208 Tryz.ntmps208 [.cell 4 73] fun B => ?_
  repeat' first | refine kz ?_ | refine Aa (h1) ?_ | refine kh ?_ ?_ | exact ⟨⟩ | fail
  all_goals rfl
 ·have hq := Td (b := b.natAbs) (show 0 < a.natAbs by omega)
  have e1 : IntKind.i64.wrap (Int.tdiv 4294967296 (if a < -a then -a else a)) = ((4294967296 / a.natAbs : Nat) : Int) := by
   rw [Qq, show (4294967296 : Int) = ((4294967296 : Nat) : Int) from rfl, ← Int.ofNat_tdiv]
   have := Nat.div_le_self 4294967296 a.natAbs
   generalize 4294967296 / a.natAbs = d at this ⊢
   exact BW (by omega) (by omega)
  have e2 := Qq b
  generalize 4294967296 / a.natAbs = d at e1 hq
  by_cases hbig : 4294967296 < a.natAbs * b.natAbs
  ·have hz : Val.ofInt (a * b) = Val.null := Vc (by
    rw [← Yr] at hbig; omega)
   rw [hz]
   have hq := hq.2 hbig
   refine Ad hT Tryz.func208 Tryz.ntmps208 [.cell 4 73] fun B => ?_
   repeat' first | refine kz ?_ | refine Aa (h1) ?_ | refine kh ?_ ?_ | exact ⟨⟩ | fail
   all_goals first | rfl | (exfalso; rw [e1, e2] at hb; omega)
  ·have hs : -4294967296 ≤ a * b ∧ a * b ≤ 4294967296 := by
    rw [← Yr] at hbig; omega
   have hq : ¬ d < b.natAbs := fun q => hbig (hq.1 q)
   refine Ad hT Tryz.func208 Tryz.ntmps208 [.cell 4 73] fun B => ?_
   repeat' first | refine kz ?_ | refine Aa (h1) ?_ | refine kh ?_ ?_ | exact ⟨⟩ | fail
   all_goals first | rfl | (exfalso; rw [e1, e2] at hb; omega)
theorem Vd {a b : Int} (h : -4294967296 ≤ a ∧ a ≤ 4294967296) : -4294967296 ≤ a.tdiv b ∧ a.tdiv b ≤ 4294967296 := by
 have h1 : (a.tdiv b).natAbs = a.natAbs / b.natAbs := Int.natAbs_tdiv a b
 have h2 := Nat.div_le_self a.natAbs b.natAbs
 generalize a.natAbs / b.natAbs = d at h1 h2
 omega
theorem Pt (a b : Int) (ha : -4294967296 ≤ a ∧ a ≤ 4294967296) : PC 209 [.one (.lit (.int .i64 a)), .one (.lit (.int .i64 b))] (.v (.agg (J2 a b).d)) := by
 by_cases h0 : b = 0
 ·subst h0
  rw [show J2 a 0 = Val.null from if_pos rfl]
  refine Ad hT Tryz.func209 Tryz.ntmps209 [.cell 4 73] fun B => ?_
  repeat' first | refine kz ?_ | refine AE rfl (fun hb => ?_) (fun hb => ?_) | refine kf ?_ | refine Av rfl rfl (fun hb => ?_) (fun hb => ?_) | exact k0 | refine kg ?_ ?_ | fail
  all_goals rfl
 ·obtain ⟨b1, b2⟩ := Vd (b := b) ha
  have hw : IntKind.i64.wrap (a.tdiv b) = a.tdiv b := BW (by omega) (by omega)
  rw [show J2 a b = Val.ofInt (Lk a b) from if_neg h0]
  by_cases hc : a.tmod b ≠ 0 ∧ decide (a < 0) ≠ decide (b < 0)
  ·rw [show Lk a b = IntKind.i64.wrap (a.tdiv b) - 1 by rw [hw, Lk, if_pos hc]]
   refine Ad hT Tryz.func209 Tryz.ntmps209 [.cell 4 73] fun B => ?_
   repeat' first | refine kz ?_ | refine AE rfl (fun hb => ?_) (fun hb => ?_) | refine Aa (Dl _) ?_ | refine kf ?_ | refine Av rfl rfl (fun hb => ?_) (fun hb => ?_) | exact k0 | refine kg ?_ ?_ | fail
   all_goals first | rfl | (exfalso; simp_all; done)
  ·rw [show Lk a b = IntKind.i64.wrap (a.tdiv b) by rw [hw, Lk, if_neg hc]]
   refine Ad hT Tryz.func209 Tryz.ntmps209 [.cell 4 73] fun B => ?_
   repeat' first | refine kz ?_ | refine AE rfl (fun hb => ?_) (fun hb => ?_) | refine Aa (Dl _) ?_ | refine kf ?_ | refine Av rfl rfl (fun hb => ?_) (fun hb => ?_) | exact k0 | refine kg ?_ ?_ | fail
   all_goals first | rfl | (exfalso; simp_all; done)
theorem IL (op : Int) (a b : Val) (ha : a.valid = true) (hb : b.valid = true) : PC 161 [.one (.lit (.int .i64 op)), .agg a.d, .agg b.d] (.v (.agg (T7 op a b).d)) := by
 by_cases k : a.kind ≠ 1 ∨ b.kind ≠ 1
 ·rw [show T7 op a b = Val.null from if_pos k]
  rcases k with k | k
  ·refine Ad hT Tryz.func161 Tryz.ntmps161 [.cell 6 73] fun B => ?_
   repeat' first | refine kz ?_ | refine kf ?_ | refine Av rfl rfl (fun hb => ?_) (fun hb => ?_) | exact k0 | refine kg ?_ ?_ | fail
   all_goals rfl
  ·refine Ad hT Tryz.func161 Tryz.ntmps161 [.cell 6 73] fun B => ?_
   repeat' first | refine kz ?_ | refine kf ?_ | refine Av rfl rfl (fun hb => ?_) (fun hb => ?_) | exact k0 | refine kg ?_ ?_ | fail
   all_goals rfl
 have ka : a.kind = 1 := T8 fun q => k (.inl q)
 have kb : b.kind = 1 := T8 fun q => k (.inr q)
 have ia : -4294967296 ≤ a.int ∧ a.int ≤ 4294967296 := by
  rcases CA ha with h | h | h
  ·omega
  ·exact ⟨h.2.1, h.2.2.1⟩
  ·omega
 have ib : -4294967296 ≤ b.int ∧ b.int ≤ 4294967296 := by
  rcases CA hb with h | h | h
  ·omega
  ·exact ⟨h.2.1, h.2.2.1⟩
  ·omega
 have h1 := Rl a.int b.int ia ib
 have h2 := Pt a.int b.int ia
 have h3 := Db (a.int == 0)
 have e : T7 op a b = if op = 3 then Val.ofInt (-a.int) else if op = 13 then Ch (a.int == 0) else if op = 4 then Val.ofInt (a.int + b.int) else if op = 5 then Val.ofInt (a.int - b.int) else if op = 6 then Val.ofInt (a.int * b.int) else J2 a.int b.int := by
  rw [T7, if_neg k, Qo]
 rw [e]
 clear e k ha hb
 by_cases o3 : op = 3
 ·rw [if_pos o3]
  refine Ad hT Tryz.func161 Tryz.ntmps161 [.cell 6 73] fun B => ?_
  repeat' first | refine kz ?_ | refine Aa (Dl _) ?_ | refine kf ?_ | refine Av rfl rfl (fun hb => ?_) (fun hb => ?_) | exact k0 | refine kg ?_ ?_ | fail
  all_goals rfl
 rw [if_neg o3]
 by_cases o13 : op = 13
 ·rw [if_pos o13]
  refine Ad hT Tryz.func161 Tryz.ntmps161 [.cell 6 73] fun B => ?_
  repeat' first | refine kz ?_ | refine Aa (h3) ?_ | refine kf ?_ | refine Av rfl rfl (fun hb => ?_) (fun hb => ?_) | exact k0 | refine kg ?_ ?_ | fail
  all_goals rfl
 rw [if_neg o13]
 by_cases o4 : op = 4
 ·rw [if_pos o4]
  refine Ad hT Tryz.func161 Tryz.ntmps161 [.cell 6 73] fun B => ?_
  repeat' first | refine kz ?_ | refine Aa (Dl _) ?_ | refine kf ?_ | refine Av rfl rfl (fun hb => ?_) (fun hb => ?_) | exact k0 | refine kg ?_ ?_ | fail
  all_goals rfl
 rw [if_neg o4]
 by_cases o5 : op = 5
 ·rw [if_pos o5]
  refine Ad hT Tryz.func161 Tryz.ntmps161 [.cell 6 73] fun B => ?_
  repeat' first | refine kz ?_ | refine Aa (Dl _) ?_ | refine kf ?_ | refine Av rfl rfl (fun hb => ?_) (fun hb => ?_) | exact k0 | refine kg ?_ ?_ | fail
  all_goals rfl
 rw [if_neg o5]
 by_cases o6 : op = 6
 ·rw [if_pos o6]
  refine Ad hT Tryz.func161 Tryz.ntmps161 [.cell 6 73] fun B => ?_
  repeat' first | refine kz ?_ | refine Aa (h1) ?_ | refine kf ?_ | refine Av rfl rfl (fun hb => ?_) (fun hb => ?_) | exact k0 | refine kg ?_ ?_ | fail
  all_goals rfl
 rw [if_neg o6]
 refine Ad hT Tryz.func161 Tryz.ntmps161 [.cell 6 73] fun B => ?_
 repeat' first | refine kz ?_ | refine Aa (h2) ?_ | refine kf ?_ | refine Av rfl rfl (fun hb => ?_) (fun hb => ?_) | exact k0 | refine kg ?_ ?_ | fail
 all_goals rfl
end Go.Proofs.YtmpgmjlanngkfaaGreat
end
