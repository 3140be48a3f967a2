/-
  Algebra: the document's join.
-/
import Derived.Test.YtmpgmjlanngkfaaGreatJod
import Derived.Test.YtmpgmjlanngkfaaGreatAgm
import Derived.Test.YtmpgmjlanngkfaaGreatExb
import Derived.Test.YtmpgmjlanngkfaaGreatSum
import Derived.Test.YtmpgmjlanngkfaaGreatNrm
import Derived.Test.YtmpgmjlanngkfaaGreatAgh
import Derived.Test.YtmpgmjlanngkfaaGreatTap
import Derived.Test.YtmpgmjlanngkfaaGreatRgd
import Derived.Test.YtmpgmjlanngkfaaGreatRej
section
namespace Go.Proofs.YtmpgmjlanngkfaaGreat
open Go.Abs Go.RowKit
attribute [local irreducible] ARun Av MCall PCall HCall Ap SF CF CFs Ag Ai As fin AY VLe
set_option linter.unusedSimpArgs false
set_option maxRecDepth 100000
set_option maxHeartbeats 4000000
def iB (xs ys : List Int) (i : Nat) : List Int := (List.zipWith (fun x y => gv (x + y)) xs ys).take i ++ xs.drop i
def iP (n : Nat) (s : Sta) : Prop := s.key.length ≤ 100000 ∧ s.sums.length = n ∧ s.some.length = n
def eH (g : List Sta) (change : List Entry) (keys : List Itm) (ag : List Agg) : List Sta × Int :=
 if ZP ag g = true then
  if (Kj change keys ag).2 = 0 then
   if ((Jy g (Kj change keys ag).1).filter eC).length ≤ 4096 then
    if ZP ag ((Jy g (Kj change keys ag).1).filter eC) = true then ((Jy g (Kj change keys ag).1).filter eC, 0) else ([], 9)
   else ([], 8)
  else ([], 1)
 else ([], 1)
end Go.Proofs.YtmpgmjlanngkfaaGreat
end
section
namespace Go.Proofs.YtmpgmjlanngkfaaGreat
open Go.Abs Go.RowKit
attribute [local irreducible] ARun Av MCall PCall HCall Ap SF CF CFs Ag Ai As fin AY VLe
set_option linter.unusedSimpArgs false
set_option maxRecDepth 100000
set_option maxHeartbeats 4000000
def eZ (cols : List Int) (e : Entry) : Entry := ⟨cols.map (Fs e.row), e.count⟩
def ij (b : List Entry) (cols : List Int) : List Entry × Int :=
 if Am b && (decide (cols.length ≤ 8) && cols.all fun n => decide (0 ≤ n)) then Bh (b.map (eZ cols)) else ([], 1)
def Bi (q : List Entry × Int) : PRes := .tup [.one (Ak q.1), .one (.lit (.int .i64 q.2))]
end Go.Proofs.YtmpgmjlanngkfaaGreat
end
section
namespace Go.Abs
open Go.RowKit
section
variable {P : Program} {T : TypeId → Option TI} {F0 : Nat → Prop} {w0 : World}
variable {dr : Bool} {ops rest : List Oper} {K : St → Prop} {n : Nat} {sl : List (Nat × SVal)} {mem : List Blk} {ck : Nat} {df : List (FuncId × List Cell)} {acc : List Nat}
variable {d : Tmp} {ty : TypeId} {pos : String} {iU : Array Edge} {g : Option (Nat × Bool)}
theorem Ls [tc : TC P T] {t e : TypeId} {m : Nat} {parts : Array (Nat × Operand)} {i ei : TI} {cs jq : List Cell} (h : Reg P F0 w0 dr ops K rest ⟨n, (d, .agg jq) :: sl, mem, ck, df⟩ (0 :: acc)) (hw : GW ops g sl := by first | exact trivial | exact rfl)
  (ht : T t = some i := by exact rfl) (hi : i.desc = .array m e := by exact rfl) (jg : T e = some ei := by exact rfl) (hf : Ph T sl ((List.range m).map fun q => (q * ei.size, e)) parts.toList (i.zero.map B0) = some cs := by exact rfl) (hn : cs = jq := by repeat' (first | exact A6 rfl | apply AG rfl)) :
  Reg P F0 w0 dr ops K (⟨some d, .build t parts, ty, pos, iU, g⟩ :: rest) ⟨n, sl, mem, ck, df⟩ acc := by
 subst hn
 refine Gp hw (fun mm cc => fun B σ E a w hF ow he jn je hr hB hd next Q hn => ?_) h
 subst hF; subst ow
 have r7 := tc.ok t _ ht
 obtain ⟨a1, a2, zero, a4, a5⟩ := i
 simp only at hi hf
 subst hi
 have hq := KZ (τ := σ) parts.toList _ (fun p hp => he p.2 (by simp only [Op.operands]; simp; exact ⟨p.1, by simpa using hp⟩)) cs hf
 have hu : P.underlying t = some (.array m e) := r7.desc
 obtain ⟨fi, z, k6, kr, jb, kG, kq⟩ := r7.info
 have hs := (tc.ok e ei jg).sizeOf (w := w)
 obtain ⟨j1, q1, q2, q3⟩ := HU tc.ok (ρ := a.eval) (fun x => hr.ev x) _ (fun q => some (q * ei.size, ei.size)) (fun q off ft j hf hj => by
  rw [BU] at hf
  cases hr : (List.range m)[q]? with
  | none => rw [hr] at hf; cases hf
  | some r =>
    rw [hr] at hf
    simp only [Option.map_some, Option.some.injEq, HK] at hf
    obtain ⟨rfl, rfl⟩ := hf
    have zR : r = q := by
     have i7 : q < (List.range m).length := (dA.1 hr).1
     rw [Bo i7, List.getElem_range] at hr
     simpa using hr.symm
    rw [jg] at hj
    simp only [Option.some.injEq] at hj
    subst hj
    rw [zR]) parts.toList _ cs zero.toArray hq (by simp) (EH r7)
 have hv : SRep E w (.agg j1) (.agg cs) := by
  have := SRep.agg (E := E) (w := w) cs j1.toList (by simpa using q2) (fun i v x hv hx => q3 i v x (by simpa using hv) hx)
  simpa using this
 have j7 : (Instr.build t (parts.map fun (i, x) => (i, a.eval x))).run P w = .ok (.agg j1) w := by
  have lM : (parts.map fun (i, x) => (i, a.eval x)).toList = parts.toList.map fun p => (p.1, a.eval p.2) := by simp
  simp only [Instr.build, zeroValue, typeInfo, Sem.run_bind, run_program, Result.andThen_ok, k6, Sem.run_pure, kG, run_underlying hu, hs, kq, lM]
  rw [q1]
  rfl
 unfold Oper.wp
 rw [show (execOp a.eval ⟨some d, .build t parts, ty, pos, iU, g⟩).run P w = .ok (.value (.agg j1)) w by simp at j7; simp [execOp, j7]]
 refine hn _ _ _ [] _ _ ⟨rfl, rfl, rfl, rfl⟩ ⟨E, ?_, hB⟩
 rw [FH, ← jn, ← je]
 exact hr.putOE (EnvLe.refl E w) hr.1 hd hv
end
end Go.Abs
end
section
namespace Go.Proofs.YtmpgmjlanngkfaaGreat
open Go.Abs Go.RowKit
set_option linter.unusedSimpArgs false
set_option maxRecDepth 100000
variable {b : List Entry}
def Eu (row : List Val) (cs : List Int) : Option Bs := (B9 row cs).map Ar
def Dc (b : List Entry) (l9 : List Int) (key : Bs) : List (Bs × Int) := b.filterMap fun y => if Eu y.row l9 = some key then some (Ca y) else none
theorem CL (b : List Entry) (y : Entry) (l9 : List Int) (key : Bs) : Dc (b ++ [y]) l9 key = Dc b l9 key ++ (if Eu y.row l9 = some key then [Ca y] else []) := by
 unfold Dc
 rw [List.filterMap_append]
 congr 1
 by_cases h : Eu y.row l9 = some key <;> simp [h]
theorem Jp {l9 : List Int} {key : Bs} {q : Bs × Int} (h : q ∈ Dc b l9 key) : ∃ y ∈ b, q = Ca y ∧ Eu y.row l9 = some key := by
 obtain ⟨y, hy, hq⟩ := List.mem_filterMap.1 h
 split at hq
 ·simp only [Option.some.injEq] at hq
  exact ⟨y, hy, hq.symm, by assumption⟩
 ·cases hq
theorem Jq (b : List Entry) (l9 : List Int) (key : Bs) : (Dc b l9 key).length ≤ b.length := List.length_filterMap_le ..
abbrev JS := List Lev × List (Bs × Int) × List (Bs × Int)
def Dv (b : List Entry) (on : List (Int × Int)) (q : JS) (u : Entry) : Option JS :=
 match Eu u.row (on.map Prod.fst) with
 | none => some q
 | some key =>
   if Dc b (on.map Prod.snd) key = [] then some q
   else match closeE (Ar u.row) q.1.reverse q.2.1 q.2.2 with
    | none => none
    | some (jK, s', r') => some (jK.reverse ++ [⟨Ar u.row, ((Dc b (on.map Prod.snd) key).foldl (A8 (Ca u)) ([], s')).1⟩], ((Dc b (on.map Prod.snd) key).foldl (A8 (Ca u)) ([], s')).2, r')
def G0 (b : List Entry) (on : List (Int × Int)) : List Entry → JS → Option JS
 | [], q => some q
 | u :: a, q => match Dv b on q u with
   | none => none
   | some q' => G0 b on a q'
def P8 (a b : List Entry) (on : List (Int × Int)) : Option (List (Bs × Int)) :=
 match G0 b on a ([], [], []) with
 | none => none
 | some q => match closeE [] q.1.reverse q.2.1 q.2.2 with
   | none => none
   | some (_, _, r) => some r
theorem IP : ∀ {cs : List Bs} {s r s' r' : List (Bs × Int)}, closeLev cs s r = some (s', r') → ∀ e ∈ s', e ∈ s
 | [], s, r, s', r', h, e, he => by simp [closeLev] at h; rw [h.1]; exact he
 | c :: cs, s, r, s', r', h, e, he => by
   rw [closeLev] at h
   split at h
   ·cases h
   ·have h1 := IP h e he
    rcases Cd c s with ⟨i, v, _, _, _, g4, _⟩ | ⟨_, _, _, g4, _⟩
    ·rw [g4] at h1; exact (gi ..).subset h1
    ·rw [g4] at h1; exact h1
theorem DG {code : Bs} : ∀ {st : List Lev} {s r : List (Bs × Int)} {jK : List Lev} {s' r' : List (Bs × Int)}, closeE code st s r = some (jK, s', r') → r.length ≤ 4096 → jK.length ≤ st.length ∧ (∀ l ∈ jK, l ∈ st) ∧ (∀ e ∈ s', e ∈ s) ∧ r'.length ≤ 4096
 | [], s, r, jK, s', r', h, hr => by
   simp only [closeE, Option.some.injEq, HK] at h
   obtain ⟨rfl, rfl, rfl⟩ := h
   exact ⟨Nat.le_refl _, fun _ h => h, fun _ h => h, hr⟩
 | l :: st, s, r, jK, s', r', h, hr => by
   rw [closeE] at h
   split at h
   ·simp only [Option.some.injEq, HK] at h
    obtain ⟨rfl, rfl, rfl⟩ := h
    exact ⟨Nat.le_refl _, fun _ h => h, fun _ h => h, hr⟩
   ·cases hc : closeLev l.opened s r with
    | none => rw [hc] at h; cases h
    | some q =>
      obtain ⟨s2, r2⟩ := q
      rw [hc] at h
      obtain ⟨h1, h2, h3, h4⟩ := DG h (Et hc hr)
      exact ⟨by simp; omega, fun l hl => by simp [h2 l hl], fun e he => IP hc e (h3 e he), h4⟩
structure JOk (i : Nat) (n : Nat) (q : JS) : Prop where
 st : q.1.length ≤ i
 op : ∀ l ∈ q.1, l.opened.length ≤ n
 sm : b7 (68719476736 * ((n * i : Nat) : Int)) q.2.1
 rs : q.2.2.length ≤ 4096
theorem S4 {u : Bs × Int} {K : Int} : ∀ (ps : List (Bs × Int)) (q : List Bs × List (Bs × Int)) (M : Int), (∀ y ∈ ps, -K ≤ u.2 * y.2 ∧ u.2 * y.2 ≤ K) → 0 ≤ M → 0 ≤ K → b7 M q.2 → b7 (M + K * ps.length) (ps.foldl (A8 u) q).2 ∧ (ps.foldl (A8 u) q).1.length ≤ q.1.length + ps.length
 | [], q, M, _, _, _, h => ⟨by simpa using h, by simp⟩
 | y :: ps, q, M, hk, hM, hK, h => by
   have h1 := JU h (hk y (by simp)) hM
   obtain ⟨h2, h3⟩ := S4 ps (A8 u q y) (M + K) (fun z hz => hk z (by simp [hz])) (by omega) hK h1
   have h4 := P6 u q y
   refine ⟨?_, by simp only [XU, List.length_cons]; omega⟩
   simp only [XU, List.length_cons]
   rw [show M + K * ((ps.length + 1 : Nat) : Int) = M + K + K * (ps.length : Int) by rw [Int.natCast_add, Int.mul_add]; simp; omega]
   exact h2
theorem P9 {x y : Int} (hx : -262144 ≤ x ∧ x ≤ 262144) (hy : -262144 ≤ y ∧ y ≤ 262144) : -68719476736 ≤ x * y ∧ x * y ≤ 68719476736 := by
 have h1 : (x * y).natAbs ≤ 262144 * 262144 := by
  rw [XW]
  exact ZF (by omega) (by omega)
 omega
theorem W0 {on : List (Int × Int)} {q q' : JS} {u : Entry} {i n : Nat} (h : JOk i n q) (hn : b.length ≤ n) (hb : ∀ y ∈ b, -262144 ≤ y.count ∧ y.count ≤ 262144) (hu : -262144 ≤ u.count ∧ u.count ≤ 262144) (hs : Dv b on q u = some q') : JOk (i + 1) n q' := by
 have xT : (68719476736 * ((n * i : Nat) : Int)) ≤ 68719476736 * ((n * (i + 1) : Nat) : Int) := by
  have : n * i ≤ n * (i + 1) := Nat.mul_le_mul_left _ (by omega)
  omega
 have mL : JOk (i + 1) n q := ⟨by have := h.st; omega, h.op, fun e he => by have := h.sm e he; omega, h.rs⟩
 unfold Dv at hs
 split at hs
 ·simp only [Option.some.injEq] at hs; subst hs; exact mL
 ·rename_i key _
  split at hs
  ·simp only [Option.some.injEq] at hs; subst hs; exact mL
  ·split at hs
   ·cases hs
   ·rename_i jK s' r' hc
    simp only [Option.some.injEq] at hs
    subst hs
    obtain ⟨h1, h2, h3, h4⟩ := DG hc h.rs
    simp only [List.length_reverse] at h1
    have mF := Jq b (on.map Prod.snd) key
    have hf := S4 (u := Ca u) (K := 68719476736) (Dc b (on.map Prod.snd) key) ([], s') (68719476736 * ((n * i : Nat) : Int)) (fun y hy => by
     obtain ⟨z, hz, rfl, _⟩ := Jp hy
     exact P9 hu (hb z hz)) (by omega) (by omega) (fun e he => h.sm e (h3 e he))
    refine ⟨?_, fun l hl => ?_, fun e he => ?_, h4⟩
    ·have := h.st; simp only [CR, List.length_reverse, Tm]; omega
    ·rcases EY.1 hl with hl | hl
     ·exact h.op l (ef.1 (h2 l (ef.1 hl)))
     ·obtain rfl := Ke.1 hl
      have := hf.2; simp only [List.length_nil] at this; simp only; omega
    ·have := hf.1 e he
     rw [Nat.mul_add, Nat.mul_one]
     have h5 : ((n * i + n : Nat) : Int) = ((n * i : Nat) : Int) + n := by simp
     rw [h5]
     omega
theorem Ib (b : List Entry) (on : List (Int × Int)) : ∀ (l m : List Entry) (q : JS), G0 b on (l ++ m) q = (G0 b on l q).bind fun q' => G0 b on m q'
 | [], m, q => rfl
 | u :: l, m, q => by
   rw [List.cons_append, G0, G0]
   cases Dv b on q u with
   | none => rfl
   | some q' => exact Ib b on l m q'
theorem Uo {a : List Entry} {on : List (Int × Int)} {q0 : JS} {i : Nat} {u : Entry} {q : JS} (hv : a[i]? = some u) (h : G0 b on (a.take i) q0 = some q) : G0 b on (a.take (i + 1)) q0 = Dv b on q u ∧ (Dv b on q u = none → G0 b on a q0 = none) := by
 have e1 : G0 b on (a.take (i + 1)) q0 = Dv b on q u := by
  rw [Gm, hv, Ib, h]
  simp only [Option.toList_some, Option.bind_some, G0]
  cases Dv b on q u <;> rfl
 refine ⟨e1, fun hn => ?_⟩
 rw [← aT (i + 1) a, Ib, e1, hn]
 rfl
end Go.Proofs.YtmpgmjlanngkfaaGreat
end
section
namespace Go.Proofs.YtmpgmjlanngkfaaGreat
open Go.Abs Go.RowKit
attribute [local irreducible] ARun Av MCall PCall HCall Ap SF CF CFs Ag Ai As fin AY VLe
set_option linter.unusedSimpArgs false
set_option maxRecDepth 100000
set_option maxHeartbeats 4000000
variable {a b : List Entry}
def FI (x y : Entry) : Entry := ⟨x.row ++ y.row, x.count * y.count⟩
def Cp (x : Entry) (b : List Entry) (on : List (Int × Int)) : List Entry := (b.filter fun y => Co x.row y.row on).map (FI x)
def A2 (a b : List Entry) (on : List (Int × Int)) : List Entry := a.flatMap fun x => Cp x b on
theorem Qz {x y : Entry} {k : Nat} (on : List (Int × Int)) (h : b[k]? = some y) : Cp x (b.take (k + 1)) on = Cp x (b.take k) on ++ if Co x.row y.row on then [FI x y] else [] := by
 unfold Cp
 rw [Gm, h, ZC, Ag']
 congr 1
 by_cases hq : Co x.row y.row on = true <;> simp [hq]
theorem QA {x : Entry} {i : Nat} (b : List Entry) (on : List (Int × Int)) (h : a[i]? = some x) : A2 (a.take (i + 1)) b on = A2 (a.take i) b on ++ Cp x b on := by
 unfold A2
 rw [Gm, h, gk]
 simp
theorem RW (x : Entry) (b : List Entry) (on : List (Int × Int)) : (Cp x b on).length ≤ b.length := by
 unfold Cp
 rw [BR]
 exact Q1 ..
theorem RX (a b : List Entry) (on : List (Int × Int)) : (A2 a b on).length ≤ a.length * b.length := by
 induction a with
 | nil => simp [A2]
 | cons x a ih =>
   have := RW x b on
   unfold A2 at ih ⊢
   rw [List.flatMap_cons, CR, List.length_cons, Gg]
   omega
theorem ai {x y : Int} (h : -262144 ≤ x ∧ x ≤ 262144) (g : -262144 ≤ y ∧ y ≤ 262144) : -68719476736 ≤ x * y ∧ x * y ≤ 68719476736 := by
 have h1 : x.natAbs ≤ 262144 := by omega
 have h2 : y.natAbs ≤ 262144 := by omega
 have h3 : (x * y).natAbs ≤ 262144 * 262144 := by rw [XW]; exact ZF h1 h2
 omega
theorem Jv {on : List (Int × Int)} {e : Entry} (h : e ∈ A2 a b on) : ∃ x ∈ a, ∃ y ∈ b, Co x.row y.row on = true ∧ e = FI x y := by
 obtain ⟨x, hx, he⟩ := List.mem_flatMap.1 h
 obtain ⟨y, hy, rfl⟩ := List.mem_map.1 he
 obtain ⟨h1, h2⟩ := L1.1 hy
 exact ⟨x, hx, y, h1, h2, rfl⟩
theorem L8 {on : List (Int × Int)} (ha : ∀ e ∈ a, -262144 ≤ e.count ∧ e.count ≤ 262144) (hb : ∀ e ∈ b, -262144 ≤ e.count ∧ e.count ≤ 262144) : Ba 68719476736 (A2 a b on) := fun e he => by
 obtain ⟨x, hx, y, hy, _, rfl⟩ := Jv he
 exact ai (ha x hx) (hb y hy)
theorem BJ {l : List Entry} (h : A4 l = true) : l.length ≤ 4096 ∧ ∀ e ∈ l, AR e.row = true ∧ (-262144 ≤ e.count ∧ e.count ≤ 262144) ∧ e.row.length ≤ 8 ∧ e.count ≠ 0 := by
 unfold A4 at h
 simp only [BM] at h
 obtain ⟨h1, h2⟩ := AP h.2
 refine ⟨h1, fun e he => ⟨(h2 e he).1, (h2 e he).2.1, ?_, (h2 e he).2.2⟩⟩
 have := Eg.1 h.1 e he
 simpa using this
def CA (l : List Entry) : List Entry × Nat :=
 if 4096 < l.length then ([], 8)
 else if l.all (fun e => decide (-262144 ≤ e.count ∧ e.count ≤ 262144)) then (l, 0)
 else ([], 9)
def Dl (a b : List Entry) (on : List (Int × Int)) : List Entry × Nat :=
 if A4 a && A4 b then CA (sumR (A2 a b on)) else ([], 1)
def e8 (q : List Entry × Nat) : PRes := .tup [.one (Ak q.1), .one (.lit (.int .i64 q.2))]
theorem UK (a b : List Entry) (on : List (Int × Int)) : PC 135 [.one (Ak a), .one (Ak b), .one (TG on)] (e8 (Dl a b on)) := by
 have oh := Qy a
 have pN := Qy b
 unfold Dl
 cases na : A4 a
 ·rw [na] at oh
  refine Ac hT Tryz.func135 Tryz.ntmps135 [.tmp 6, .tmp 7] fun B => ?_
  repeat' first | refine kz ?_ | refine Az rfl (fun hb => ?_) (fun hb => ?_) | refine Ao ?_ | refine Aa (oh) ?_ | refine Al rfl rfl (fun hb => ?_) (fun hb => ?_) | refine kh ?_ ?_ | exact ⟨⟩ | fail
  all_goals rfl
 cases nb : A4 b
 ·rw [na] at oh
  rw [nb] at pN
  refine Ac hT Tryz.func135 Tryz.ntmps135 [.tmp 6, .tmp 7] fun B => ?_
  repeat' first | refine kz ?_ | refine Az rfl (fun hb => ?_) (fun hb => ?_) | refine Ao ?_ | refine Aa (oh) ?_ | refine Aa (pN) ?_ | refine Al rfl rfl (fun hb => ?_) (fun hb => ?_) | refine kh ?_ ?_ | exact ⟨⟩ | fail
  all_goals rfl
 rw [na] at oh
 rw [nb] at pN
 rw [Bool.and_self, if_pos rfl]
 obtain ⟨al, am⟩ := BJ na
 obtain ⟨bl, bm⟩ := BJ nb
 refine Ac hT Tryz.func135 Tryz.ntmps135 [.tmp 6, .tmp 7] fun B => ?_
 repeat' first | refine kz ?_ | refine Az rfl (fun hb => ?_) (fun hb => ?_) | refine Ao ?_ | refine Aa (oh) ?_ | refine Aa (pN) ?_ | refine Al rfl rfl (fun hb => ?_) (fun hb => ?_) | refine kh ?_ ?_ | exact ⟨⟩ | fail
 clear oh pN
 refine Bv 8 56 2 ?_
 refine AK (X := Nat × List Entry × Nat) ([8, 9, 10] ++ List.range' 20 52) (fun x => x.1 ≤ a.length ∧ x.2.1 = A2 (a.take x.1) b on ∧ x.2.1.length ≤ x.1 * b.length) (fun x lz => (8, .c (.arr 0 x.2.2 x.2.1.length)) :: (9, (iC x.1)) :: lz) (fun x => [.arr x.2.2 56 2 (x.2.1.map Entry.d)]) (fun x => a.length - x.1) ((0, [], 1)) ?_ ?_ ?_ ?_
 repeat' first | exact k0 | refine kw ?_ | omega
 ·exact ⟨by omega, by simp [A2], by simp⟩
 rintro ⟨i, l, k⟩ c ⟨hi, hinv, mj⟩
 dsimp only at hi hinv mj ⊢
 by_cases i7 : i < a.length
 ·obtain ⟨p, hv⟩ := gx i7
  have jc := QA b on hv
  obtain ⟨p1, p2, p3⟩ := am p (Cb hv)
  have hmul : i * b.length ≤ 4095 * 4096 := ZF (by omega) bl
  have xU : (i + 1) * b.length = i * b.length + b.length := by rw [Gg]; omega
  repeat' first | refine kz ?_ | refine Az rfl (fun hb => ?_) (fun hb => ?_) | refine Ao ?_ | refine Al rfl rfl (fun hb => ?_) (fun hb => ?_) | refine kh ?_ ?_ | exact ⟨⟩ | fail
  refine AK (X := Nat × List Entry × Nat) ([8, 10] ++ List.range' 26 46) (fun x => x.1 ≤ b.length ∧ x.2.1 = l ++ Cp p (b.take x.1) on ∧ x.2.1.length ≤ l.length + x.1) (fun x lz => (8, .c (.arr 0 x.2.2 x.2.1.length)) :: (10, (iC x.1)) :: lz) (fun x => [.arr x.2.2 56 2 (x.2.1.map Entry.d)]) (fun x => b.length - x.1) ((0, l, k)) ?_ ?_ ?_ ?_
  repeat' first | exact k0 | refine kw ?_ | omega
  ·exact ⟨by omega, by simp [Cp], by simp⟩
  rintro ⟨j, m, k2⟩ c ⟨hj, nv, mK⟩
  dsimp only at hj nv mK ⊢
  by_cases jk : j < b.length
  ·obtain ⟨q, jL⟩ := gx jk
   obtain ⟨q1, q2, q3⟩ := bm q (Cb jL)
   have qv := Qz (x := p) on jL
   have hpr := ai p2 q2
   have uF := Zf p.row q.row on
   cases ny : Co p.row q.row on
   ·rw [ny] at uF
    rw [ny, if_neg (by simp), List.append_nil] at qv
    repeat' first | refine kz ?_ | refine Az rfl (fun hb => ?_) (fun hb => ?_) | refine AF hv ?_ | refine AF jL ?_ | refine Ao ?_ | refine Aa (uF) ?_ | refine Al rfl rfl (fun hb => ?_) (fun hb => ?_) | refine kh ?_ ?_ | exact ⟨⟩ | fail
    apply Af ((j + 1, m, k2)) <;> (try dsimp only) <;> try repeat' first | exact k0 | refine kw ?_ | omega
    exact ⟨by omega, by rw [qv]; exact nv, by omega⟩
   ·rw [ny] at uF
    rw [ny, if_pos rfl] at qv
    have o1 : m.length + [[A0 (p.row ++ q.row), Dat.lit (Value.int IntKind.i64 (p.count * q.count))]].length = (m ++ [FI p q]).length := by simp
    have o2 : m.map Entry.d ++ [[A0 (p.row ++ q.row), Dat.lit (Value.int IntKind.i64 (p.count * q.count))]] = (m ++ [FI p q]).map Entry.d := by rw [Ag']; rfl
    have w8 : CFrs 1 (c + 1 + 1) (p.row.map Val.d ++ q.row.map Val.d) [.arr 1 (c + 1 + 1) (p.row.length + (q.row.map Val.d).length), .d (.lit (.int .i64 (p.count * q.count)))] [A0 (p.row ++ q.row), .lit (.int .i64 (p.count * q.count))] := ⟨.inl ⟨_, rfl, by simp, by rw [JF (by simp), ← Ag']; rfl⟩, .inr rfl, trivial⟩
    repeat' first | refine kz ?_ | refine Az rfl (fun hb => ?_) (fun hb => ?_) | refine AF hv ?_ | refine AF jL ?_ | refine Ao ?_ | refine Aa (uF) ?_ | refine M3 1 ?_ w8 | refine Al rfl rfl (fun hb => ?_) (fun hb => ?_) | refine kh ?_ ?_ | exact ⟨⟩ | fail
    rw [o1, o2]
    have uG : (m ++ [FI p q]).length ≤ m.length + 1 := by simp
    have kU : m ++ [FI p q] = l ++ Cp p (b.take (j + 1)) on := by rw [qv, nv, Hc]
    generalize m ++ [FI p q] = m2 at uG kU ⊢
    apply Af ((j + 1, m2, _)) <;> (try dsimp only) <;> try repeat' first | exact k0 | refine w1 ?_ | refine Ab ?_ | omega
    exact ⟨by omega, kU, by omega⟩
  ·have vZ : j = b.length := by omega
   subst vZ
   rw [Ir] at nv
   repeat' first | refine kz ?_ | refine Az rfl (fun hb => ?_) (fun hb => ?_) | refine Ao ?_ | refine Al rfl rfl (fun hb => ?_) (fun hb => ?_) | refine kh ?_ ?_ | exact ⟨⟩ | fail
   apply Af ((i + 1, m, k2)) <;> (try dsimp only) <;> try repeat' first | exact k0 | refine kw ?_ | omega
   exact ⟨by omega, by rw [jc, nv, hinv], by omega⟩
 ·have k8 : i = a.length := by omega
  subst k8
  rw [Ir] at hinv
  have uW : l.length ≤ 16777216 := by
   have : a.length * b.length ≤ 4096 * 4096 := ZF al bl
   omega
  rw [← hinv]
  have nS := e7 l.length l (Nat.le_refl _) uW (by rw [hinv]; exact L8 (fun e he => (am e he).2.1) (fun e he => (bm e he).2.1))
  have mI := IV l
  have mI : (sumR l).length ≤ 16777216 := by omega
  generalize sumR l = r at nS mI ⊢
  repeat' first | refine Ax 8 ?_ | refine kz ?_ | refine Az rfl (fun hb => ?_) (fun hb => ?_) | refine Ao ?_ | refine Aa (nS) ?_ | refine Al rfl rfl (fun hb => ?_) (fun hb => ?_) | refine Aw Ad ?_ ?_ | refine Bq ?_ | refine BC ?_
  ·unfold CA; rw [if_pos (by omega)]; rfl
  ·unfold CA; rw [if_pos (by omega)]; rfl
  have kY : ∀ t : Nat, ∀ e, r[t]? = some e → ¬ (-262144 ≤ e.count ∧ e.count ≤ 262144) → CA r = ([], 9) := fun t e he hn => by
   unfold CA
   rw [if_neg (by omega), if_neg]
   intro hh
   have := Eg.1 hh e (Cb he)
   simp only [decide_eq_true_eq] at this
   exact hn this
  refine AK (X := Nat) ([6, 7, 11] ++ List.range' 77 20) (fun x => x ≤ r.length ∧ (r.take x).all (fun e => decide (-262144 ≤ e.count ∧ e.count ≤ 262144)) = true) (fun x lz => (11, (iC x)) :: lz) (fun x => [.dead]) (fun x => r.length - x) (0) ?_ ?_ ?_ ?_
  repeat' first | exact k0 | refine kw ?_ | omega
  ·exact ⟨by simp, by simp⟩
  rintro t c ⟨ht, hq⟩
  by_cases jk : t < r.length
  ·obtain ⟨e, hv⟩ := gx jk
   have ju : ∀ f : Entry → Bool, (r.take (t + 1)).all f = ((r.take t).all f && f e) := fun f => by rw [Gm, hv, dJ]; simp
   have qp := kY t e hv
   repeat' first | refine kz ?_ | refine Az rfl (fun hb => ?_) (fun hb => ?_) | refine AF hv ?_ | refine Ao ?_ | refine Al rfl rfl (fun hb => ?_) (fun hb => ?_) | refine kh ?_ ?_ | exact ⟨⟩ | fail
   ·rw [qp (by omega)]; rfl
   ·rw [qp (by omega)]; rfl
   ·rw [qp (by omega)]; rfl
   ·rw [qp (by omega)]; rfl
   ·apply Af (t + 1) <;> (try dsimp only) <;> try repeat' first | exact k0 | refine kw ?_ | omega
    exact ⟨by omega, by rw [ju, hq]; simp; omega⟩
  ·have zS : t = r.length := by omega
   subst zS
   rw [Ir] at hq
   have tA : CA r = (r, 0) := by unfold CA; rw [if_neg (by omega), if_pos hq]
   rw [tA]
   repeat' first | refine kz ?_ | refine Az rfl (fun hb => ?_) (fun hb => ?_) | refine Ao ?_ | refine Al rfl rfl (fun hb => ?_) (fun hb => ?_) | refine kh ?_ ?_ | exact ⟨⟩ | fail
   all_goals rfl
end Go.Proofs.YtmpgmjlanngkfaaGreat
end
