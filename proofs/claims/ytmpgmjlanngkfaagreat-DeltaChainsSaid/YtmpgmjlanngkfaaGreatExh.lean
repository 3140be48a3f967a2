/-
  Expressions: the program's operators on numbers.
-/
import Derived.Test.YtmpgmjlanngkfaaGreatExb
import Derived.Test.YtmpgmjlanngkfaaGreatExf
section
namespace Go.Proofs.YtmpgmjlanngkfaaGreat
open Go.Abs Go.RowKit
attribute [local irreducible] ARun Au MCall PCall HCall Ak SF CF CFs Af Ag Ar fin AP VLe
set_option linter.unusedSimpArgs false
set_option maxRecDepth 100000
set_option maxHeartbeats 4000000
theorem E1 : DeferOk Tryz.prog 154 0 := by
 refine ⟨⟨_, Tryz.func154, by kernel_rfl, by kernel_rfl⟩, fun vs w hl => ?_⟩
 match vs, hl with
 | [], _ =>
   refine callsD_of_wpS Tryz.func154 rfl fun c₀ cs hu => ?_
   apply wpS_region
   simp [wpOpsS, go_sem, recoverD, hu, Tryz.ntmps154, Exit.thenS]
   cases c₀
   simp_all [bodyPostS, results, Tryz.results154]
def Dc (e : List Trm) (pos n : Nat) : Nat × Nat := match AW [] n (e.drop pos) with
 | none => (0, pos)
 | some (x, r) => (x.1, e.length - r.length)
theorem Rp (e : List Trm) (hl : e.length ≤ 100000) : ∀ (n pos : Nat), n ≤ 200000 → pos ≤ e.length → e.length - pos < n → PC 155 [.one (Bw e), .one (.lit (.int .i64 pos))] (.tup [.one (.lit (.int .i64 (Dc e pos n).1)), .one (.lit (.int .i64 (Dc e pos n).2))]) := by
 intro n
 induction n with
 | zero => intro pos _ _ h; omega
 | succ n ih =>
   intro pos hn2 hp hn
   by_cases hlt : pos < e.length
   ·obtain ⟨t, hv⟩ := gx hlt
    have hd : e.drop pos = t :: e.drop (pos + 1) := Ay hv
    have h1 := NT t
    cases ht : DT t with
    | false =>
      rw [ht] at h1
      have hm : Dc e pos (n + 1) = (0, pos) := by rw [Dc, hd, Ro ht]
      rw [hm]
      dsimp only
      clear ih
      refine Ac hT Tryz.func155 Tryz.ntmps155 [.tmp 4, .tmp 5] fun B => ?_
      repeat' first | refine kz ?_ | refine AX hv ?_ | refine Aw ?_ | refine Aa (h1) ?_ | refine kh ?_ ?_ | exact ⟨⟩ | fail
      all_goals rfl
    | true =>
      rw [ht] at h1
      have h0 : 0 ≤ Fj t.op := by
       simp only [DT, Bi, decide_eq_true_eq] at ht
       exact ht.1
      have h3 := (L9 t.op).2
      obtain ⟨k, hk⟩ := UY h0
      have h2 := Ma t.op
      have hmk : ∀ {xs r}, Bn (AW [] n) k (e.drop (pos + 1)) = some (xs, r) → Dc e pos (n + 1) = (1 + Fk (xs.map Prod.fst), e.length - r.length) := fun {xs r} hs => by
       rw [Dc, hd, Hb ht (by rw [hk]; exact hs)]
      have hno : Bn (AW [] n) k (e.drop (pos + 1)) = none → Dc e pos (n + 1) = (0, pos) := fun hs => by
       rw [Dc, hd, TS (by rw [hk]; exact hs)]
      rw [hk] at h2
      clear hd ht h0
      refine Ac hT Tryz.func155 Tryz.ntmps155 [.tmp 4, .tmp 5] fun B => ?_
      repeat' first | refine kz ?_ | refine AX hv ?_ | refine Aw ?_ | refine Aa (h1) ?_ | refine Aa (h2) ?_ | refine kh ?_ ?_ | exact ⟨⟩ | fail
      refine A0 (X := Nat × Nat × Nat) (List.range' 4 6 ++ List.range' 31 16) (fun x => x.1 ≤ k ∧ pos + 1 ≤ x.2.2 ∧ x.2.2 ≤ e.length ∧ ∃ xs, Bn (AW [] n) x.1 (e.drop (pos + 1)) = some (xs, e.drop x.2.2) ∧ x.2.1 = Fk (xs.map Prod.fst) ∧ x.2.1 ≤ n) (fun x lz => (6, (iC x.2.1)) :: (7, (iC x.2.2)) :: (31, (iC x.1)) :: lz) (fun x => []) (fun x => k - x.1) ((0, 0, pos + 1)) ?_ ?_ ?_ ?_
      repeat' first | exact k0 | refine kw ?_ | omega
      ·dsimp only; exact ⟨by omega, by omega, by omega, [], rfl, rfl, by omega⟩
      rintro ⟨i, dp, en⟩ c ⟨hi, he1, he2, xs, hs, hdp, hdn⟩
      dsimp only at hi he1 he2 hs hdp hdn ⊢
      by_cases hik : i < k
      ·have hc := ih en (by omega) he2 (by omega)
       cases hq : AW [] n (e.drop en) with
       | none =>
         have hm : Dc e en n = (0, en) := by rw [Dc, hq]
         rw [hm] at hc
         rw [hno (HW hs hq k hik)]
         dsimp only at hc ⊢
         clear ih hmk hno
         repeat' first | refine kz ?_ | refine AX hv ?_ | refine Aw ?_ | refine Aa (hc) ?_ | refine kh ?_ ?_ | exact ⟨⟩ | fail
         all_goals rfl
       | some q =>
         obtain ⟨y, r⟩ := q
         obtain ⟨j, hj1, hj2, hj3⟩ := HX hq
         rw [Fo] at hj2
         rw [U5] at hj3
         obtain ⟨-, hy1, hy2⟩ := Ci [] n _ y r hq
         have hm : Dc e en n = (y.1, en + j) := by
          rw [Dc, hq]
          simp only [hj3, Fo]
          congr 1
          omega
         rw [hm] at hc
         rw [hj3] at hq
         have hs' := K8 hs hq
         have hd' : max dp y.1 = Fk ((xs ++ [y]).map Prod.fst) := by rw [Ah', List.map_cons, List.map_nil, Rn, hdp]
         dsimp only at hc
         clear ih hmk hno hm hq hs hdp
         generalize xs ++ [y] = xs' at hs' hd'
         generalize y.1 = dy at hc hy1 hy2 hd'
         repeat' first | refine kz ?_ | refine AX hv ?_ | refine Aw ?_ | refine Aa (hc) ?_ | refine kh ?_ ?_ | exact ⟨⟩ | fail
         apply Ad ((i + 1, max dp dy, en + j)) <;> (try dsimp only) <;> try repeat' first | exact k0 | refine kw ?_ | omega
         ·exact ⟨by omega, by omega, by omega, xs', hs', hd', by omega⟩
      ·obtain rfl : i = k := by omega
       rw [hmk hs, Fo, ← hdp]
       dsimp only
       clear ih hmk hno
       repeat' first | refine kz ?_ | refine AX hv ?_ | refine Aw ?_ | refine kh ?_ ?_ | exact ⟨⟩ | fail
       all_goals (refine congrArg Dat.lit (congrArg (Value.int _) ?_); omega)
   ·have hm : Dc e pos (n + 1) = (0, pos) := by rw [Dc, Sd (by omega)]; rfl
    rw [hm]
    dsimp only
    clear ih
    refine Ac hT Tryz.func155 Tryz.ntmps155 [.tmp 4, .tmp 5] fun B => ?_
    repeat' first | refine kz ?_ | refine Aw ?_ | refine kh ?_ ?_ | exact ⟨⟩ | fail
    all_goals rfl
theorem NV (e : List Trm) : PC 107 [.one (Bw e)] (.v (.one (.lit (.bool (En e))))) := by
 by_cases hl : 64 < e.length
 · have h0 : En e = false := by rw [En, decide_eq_false (by omega), Bool.false_and]
   rw [h0]
   refine Ac hT Tryz.func107 Tryz.ntmps107 [.tmp 2] fun B => ?_
   repeat' first | refine kz ?_ | refine kf ?_ | refine Aq rfl rfl (fun hb => ?_) (fun hb => ?_) | refine BA (by repeat (first | exact Ae | refine As E1 ?_)) ?_
   all_goals rfl
 have hc : PC 155 [.one (Bw e), .one (.lit (.int .i64 0))] (.tup [.one (.lit (.int .i64 (Dc e 0 (e.length + 1)).1)), .one (.lit (.int .i64 (Dc e 0 (e.length + 1)).2))]) := Rp e (by omega) (e.length + 1) 0 (by omega) (by omega) (by omega)
 rw [Dc, List.drop_zero] at hc
 cases hq : AW [] (e.length + 1) e with
 | none =>
   have h0 : En e = false := by
    rw [Bool.eq_false_iff]
    intro hh
    obtain ⟨_, x, hx⟩ := (DU e []).1 hh
    have hd := HZ [] 16 e x [] hx
    rw [List.length_nil] at hd
    rw [E0 [] 16 e x [] hx (e.length + 1) (by omega)] at hq
    cases hq
   rw [hq] at hc
   rw [h0]
   dsimp only at hc
   refine Ac hT Tryz.func107 Tryz.ntmps107 [.tmp 2] fun B => ?_
   repeat' first | refine kz ?_ | refine Aa (hc) ?_ | refine kf ?_ | refine Aq rfl rfl (fun hb => ?_) (fun hb => ?_) | refine BA (by repeat (first | exact Ae | refine As E1 ?_)) ?_
   all_goals rfl
 | some q =>
   obtain ⟨y, r⟩ := q
   obtain ⟨-, hy1, -⟩ := Ci [] _ _ y r hq
   obtain ⟨j, hj1, hj2, hj3⟩ := HX hq
   rw [hq] at hc
   dsimp only at hc
   have hrl : r.length ≤ e.length := by rw [hj3, Fo]; omega
   have h0 : En e = (decide (y.1 ≤ 16) && decide (r.length = 0)) := by
    rw [U3, DU e [], Bi, decide_eq_true_eq, decide_eq_true_eq]
    constructor
    ·rintro ⟨_, x, hx⟩
     have hd := HZ [] 16 e x [] hx
     rw [List.length_nil] at hd
     rw [E0 [] 16 e x [] hx (e.length + 1) (by omega)] at hq
     simp only [Option.some.injEq, Gk] at hq
     obtain ⟨rfl, rfl⟩ := hq
     exact ⟨(Ci [] 16 e x [] hx).2.2, rfl⟩
    ·rintro ⟨h1, h2⟩
     obtain rfl := bF.1 h2
     exact ⟨by omega, y, E0 [] _ e y [] hq 16 h1⟩
   rw [h0]
   have hyl : y.1 ≤ e.length + 1 := (Ci [] _ _ y r hq).2.2
   clear h0 hj3 hq
   generalize y.1 = dy at *
   generalize r.length = rl at *
   refine Ac hT Tryz.func107 Tryz.ntmps107 [.tmp 2] fun B => ?_
   repeat' first | refine kz ?_ | refine Aa (hc) ?_ | refine kf ?_ | refine Aq rfl rfl (fun hb => ?_) (fun hb => ?_) | refine BA (by repeat (first | exact Ae | refine As E1 ?_)) ?_
   all_goals (refine congrArg Dat.lit (congrArg Value.bool ?_); rw [U3]; simp; omega)
theorem YF {a b : Int} {M x y : Nat} (ha : a.natAbs ≤ x) (hb : b.natAbs ≤ y) (h : x * y ≤ M) : -(M : Int) ≤ a * b ∧ a * b ≤ M := by
 have h3 : (a * b).natAbs ≤ M := by rw [ZE]; exact LF (Nat.mul_le_mul ha hb) h
 omega
theorem V8 {n : Int} (h : n < -4294967296 ∨ 4294967296 < n) : Val.ofInt n = Val.null := by
 have h' : (Val.mk 1 n ⟨#[]⟩).valid = false := by
  unfold Val.valid
  rw [if_neg (show ¬ (1 : Int) = 0 by omega), if_pos rfl]
  have : (decide (-4294967296 ≤ n) && decide (n ≤ 4294967296)) = false := by
   rw [Bool.and_eq_false_iff, decide_eq_false_iff_not, decide_eq_false_iff_not]; omega
  rw [show (Val.mk 1 n ⟨#[]⟩).int = n from rfl, this, Bool.false_and]
 unfold Val.ofInt Val.clean
 rw [h']; rfl
theorem Qp (a : Int) : (if a < -a then -a else a) = (a.natAbs : Int) := by split <;> omega
theorem TZ {a b : Nat} (ha : 0 < a) : 4294967296 / a < b ↔ 4294967296 < a * b := by
 rw [Nat.div_lt_iff_lt_mul ha, OL]
theorem Rs (a b : Int) (ha : -4294967296 ≤ a ∧ a ≤ 4294967296) (hb : -4294967296 ≤ b ∧ b ≤ 4294967296) : PC 208 [.one (.lit (.int .i64 a)), .one (.lit (.int .i64 b))] (.v (.agg (Val.ofInt (a * b)).d)) := by
 have h1 := CH (a * b)
 obtain ⟨m1, m2⟩ := YF (M := 18446744073709551616) (show a.natAbs ≤ 4294967296 by omega) (show b.natAbs ≤ 4294967296 by omega) (by decide)
 by_cases h0 : a = 0
 ·subst h0
  refine Ac hT Tryz.func208 Tryz.ntmps208 [.cell 4 73] fun B => ?_
  repeat' first | refine kz ?_ | refine Aa (h1) ?_ | refine kh ?_ ?_ | exact ⟨⟩ | fail
  all_goals rfl
 ·have hq := TZ (b := b.natAbs) (show 0 < a.natAbs by omega)
  have e1 : IntKind.i64.wrap (Int.tdiv 4294967296 (if a < -a then -a else a)) = ((4294967296 / a.natAbs : Nat) : Int) := by
   rw [Qp, show (4294967296 : Int) = ((4294967296 : Nat) : Int) from rfl, ← Int.ofNat_tdiv]
   have := Nat.div_le_self 4294967296 a.natAbs
   generalize 4294967296 / a.natAbs = d at this ⊢
   exact BZ (by omega) (by omega)
  have e2 := Qp b
  generalize 4294967296 / a.natAbs = d at e1 hq
  by_cases hbig : 4294967296 < a.natAbs * b.natAbs
  ·have hz : Val.ofInt (a * b) = Val.null := V8 (by
    rw [← ZE] at hbig; omega)
   rw [hz]
   have hq := hq.2 hbig
   refine Ac hT Tryz.func208 Tryz.ntmps208 [.cell 4 73] fun B => ?_
   repeat' first | refine kz ?_ | refine Aa (h1) ?_ | refine kh ?_ ?_ | exact ⟨⟩ | fail
   all_goals first | rfl | (exfalso; rw [e1, e2] at hb; omega)
  ·have hs : -4294967296 ≤ a * b ∧ a * b ≤ 4294967296 := by
    rw [← ZE] at hbig; omega
   have hq : ¬ d < b.natAbs := fun q => hbig (hq.1 q)
   refine Ac hT Tryz.func208 Tryz.ntmps208 [.cell 4 73] fun B => ?_
   repeat' first | refine kz ?_ | refine Aa (h1) ?_ | refine kh ?_ ?_ | exact ⟨⟩ | fail
   all_goals first | rfl | (exfalso; rw [e1, e2] at hb; omega)
theorem V9 {a b : Int} (h : -4294967296 ≤ a ∧ a ≤ 4294967296) : -4294967296 ≤ a.tdiv b ∧ a.tdiv b ≤ 4294967296 := by
 have h1 : (a.tdiv b).natAbs = a.natAbs / b.natAbs := Int.natAbs_tdiv a b
 have h2 := Nat.div_le_self a.natAbs b.natAbs
 generalize a.natAbs / b.natAbs = d at h1 h2
 omega
theorem Pd (a b : Int) (ha : -4294967296 ≤ a ∧ a ≤ 4294967296) : PC 209 [.one (.lit (.int .i64 a)), .one (.lit (.int .i64 b))] (.v (.agg (JJ a b).d)) := by
 by_cases h0 : b = 0
 ·subst h0
  rw [show JJ a 0 = Val.null from if_pos rfl]
  refine Ac hT Tryz.func209 Tryz.ntmps209 [.cell 4 73] fun B => ?_
  repeat' first | refine kz ?_ | refine AN rfl (fun hb => ?_) (fun hb => ?_) | refine kf ?_ | refine Aq rfl rfl (fun hb => ?_) (fun hb => ?_) | exact k0 | refine kg ?_ ?_ | fail
  all_goals rfl
 ·obtain ⟨b1, b2⟩ := V9 (b := b) ha
  have hw : IntKind.i64.wrap (a.tdiv b) = a.tdiv b := BZ (by omega) (by omega)
  rw [show JJ a b = Val.ofInt (K6 a b) from if_neg h0]
  by_cases hc : a.tmod b ≠ 0 ∧ decide (a < 0) ≠ decide (b < 0)
  ·rw [show K6 a b = IntKind.i64.wrap (a.tdiv b) - 1 by rw [hw, K6, if_pos hc]]
   refine Ac hT Tryz.func209 Tryz.ntmps209 [.cell 4 73] fun B => ?_
   repeat' first | refine kz ?_ | refine AN rfl (fun hb => ?_) (fun hb => ?_) | refine Aa (CH _) ?_ | refine kf ?_ | refine Aq rfl rfl (fun hb => ?_) (fun hb => ?_) | exact k0 | refine kg ?_ ?_ | fail
   all_goals first | rfl | (exfalso; simp_all; done)
  ·rw [show K6 a b = IntKind.i64.wrap (a.tdiv b) by rw [hw, K6, if_neg hc]]
   refine Ac hT Tryz.func209 Tryz.ntmps209 [.cell 4 73] fun B => ?_
   repeat' first | refine kz ?_ | refine AN rfl (fun hb => ?_) (fun hb => ?_) | refine Aa (CH _) ?_ | refine kf ?_ | refine Aq rfl rfl (fun hb => ?_) (fun hb => ?_) | exact k0 | refine kg ?_ ?_ | fail
   all_goals first | rfl | (exfalso; simp_all; done)
theorem It (op : Int) (a b : Val) (ha : a.valid = true) (hb : b.valid = true) : PC 161 [.one (.lit (.int .i64 op)), .agg a.d, .agg b.d] (.v (.agg (Va op a b).d)) := by
 by_cases k : a.kind ≠ 1 ∨ b.kind ≠ 1
 ·rw [show Va op a b = Val.null from if_pos k]
  rcases k with k | k
  ·refine Ac hT Tryz.func161 Tryz.ntmps161 [.cell 6 73] fun B => ?_
   repeat' first | refine kz ?_ | refine kf ?_ | refine Aq rfl rfl (fun hb => ?_) (fun hb => ?_) | exact k0 | refine kg ?_ ?_ | fail
   all_goals rfl
  ·refine Ac hT Tryz.func161 Tryz.ntmps161 [.cell 6 73] fun B => ?_
   repeat' first | refine kz ?_ | refine kf ?_ | refine Aq rfl rfl (fun hb => ?_) (fun hb => ?_) | exact k0 | refine kg ?_ ?_ | fail
   all_goals rfl
 have ka : a.kind = 1 := WM fun q => k (.inl q)
 have kb : b.kind = 1 := WM fun q => k (.inr q)
 have ia : -4294967296 ≤ a.int ∧ a.int ≤ 4294967296 := by
  rcases Ch ha with h | h | h
  ·omega
  ·exact ⟨h.2.1, h.2.2.1⟩
  ·omega
 have ib : -4294967296 ≤ b.int ∧ b.int ≤ 4294967296 := by
  rcases Ch hb with h | h | h
  ·omega
  ·exact ⟨h.2.1, h.2.2.1⟩
  ·omega
 have h1 := Rs a.int b.int ia ib
 have h2 := Pd a.int b.int ia
 have h3 := Cx (a.int == 0)
 have e : Va op a b = if op = 3 then Val.ofInt (-a.int) else if op = 13 then BV (a.int == 0) else if op = 4 then Val.ofInt (a.int + b.int) else if op = 5 then Val.ofInt (a.int - b.int) else if op = 6 then Val.ofInt (a.int * b.int) else JJ a.int b.int := by
  rw [Va, if_neg k, Qn]
 rw [e]
 clear e k ha hb
 by_cases o3 : op = 3
 ·rw [if_pos o3]
  refine Ac hT Tryz.func161 Tryz.ntmps161 [.cell 6 73] fun B => ?_
  repeat' first | refine kz ?_ | refine Aa (CH _) ?_ | refine kf ?_ | refine Aq rfl rfl (fun hb => ?_) (fun hb => ?_) | exact k0 | refine kg ?_ ?_ | fail
  all_goals rfl
 rw [if_neg o3]
 by_cases o13 : op = 13
 ·rw [if_pos o13]
  refine Ac hT Tryz.func161 Tryz.ntmps161 [.cell 6 73] fun B => ?_
  repeat' first | refine kz ?_ | refine Aa (h3) ?_ | refine kf ?_ | refine Aq rfl rfl (fun hb => ?_) (fun hb => ?_) | exact k0 | refine kg ?_ ?_ | fail
  all_goals rfl
 rw [if_neg o13]
 by_cases o4 : op = 4
 ·rw [if_pos o4]
  refine Ac hT Tryz.func161 Tryz.ntmps161 [.cell 6 73] fun B => ?_
  repeat' first | refine kz ?_ | refine Aa (CH _) ?_ | refine kf ?_ | refine Aq rfl rfl (fun hb => ?_) (fun hb => ?_) | exact k0 | refine kg ?_ ?_ | fail
  all_goals rfl
 rw [if_neg o4]
 by_cases o5 : op = 5
 ·rw [if_pos o5]
  refine Ac hT Tryz.func161 Tryz.ntmps161 [.cell 6 73] fun B => ?_
  repeat' first | refine kz ?_ | refine Aa (CH _) ?_ | refine kf ?_ | refine Aq rfl rfl (fun hb => ?_) (fun hb => ?_) | exact k0 | refine kg ?_ ?_ | fail
  all_goals rfl
 rw [if_neg o5]
 by_cases o6 : op = 6
 ·rw [if_pos o6]
  refine Ac hT Tryz.func161 Tryz.ntmps161 [.cell 6 73] fun B => ?_
  repeat' first | refine kz ?_ | refine Aa (h1) ?_ | refine kf ?_ | refine Aq rfl rfl (fun hb => ?_) (fun hb => ?_) | exact k0 | refine kg ?_ ?_ | fail
  all_goals rfl
 rw [if_neg o6]
 refine Ac hT Tryz.func161 Tryz.ntmps161 [.cell 6 73] fun B => ?_
 repeat' first | refine kz ?_ | refine Aa (h2) ?_ | refine kf ?_ | refine Aq rfl rfl (fun hb => ?_) (fun hb => ?_) | exact k0 | refine kg ?_ ?_ | fail
 all_goals rfl
end Go.Proofs.YtmpgmjlanngkfaaGreat
end
