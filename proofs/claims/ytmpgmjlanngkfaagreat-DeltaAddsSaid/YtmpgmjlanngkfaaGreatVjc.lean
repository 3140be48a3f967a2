/-
  Views: the change of a join, by its bilinear form.
-/
import Derived.Test.YtmpgmjlanngkfaaGreatMrg
import Derived.Test.YtmpgmjlanngkfaaGreatExo
import Derived.Test.YtmpgmjlanngkfaaGreatJor
import Derived.Test.YtmpgmjlanngkfaaGreatOpa
import Derived.Test.YtmpgmjlanngkfaaGreatHol
import Derived.Test.YtmpgmjlanngkfaaGreatSum
import Derived.Test.YtmpgmjlanngkfaaGreatJoj
import Derived.Test.YtmpgmjlanngkfaaGreatDex
import Derived.Test.YtmpgmjlanngkfaaGreatJof
import Derived.Test.YtmpgmjlanngkfaaGreatTpo
section
namespace Go.Proofs.YtmpgmjlanngkfaaGreat
open Go.Abs Go.RowKit
set_option linter.unusedSimpArgs false
set_option maxRecDepth 100000
variable {b : List Entry} {n : Nat}
theorem S6 {f : Entry → Entry} {l : List Entry} (h : ∀ e ∈ l, (f e).count.natAbs = n * e.count.natAbs) : A9 (l.map f) = n * A9 l := by
 induction l with
 | nil => rfl
 | cons e l ih =>
   rw [List.map_cons, A9, A9, h e (by simp), ih fun x hx => h x (by simp [hx]), Nat.mul_add]
theorem M4 (x : Entry) (b : List Entry) (on : List (Int × Int)) : A9 (C1 x b on) ≤ x.count.natAbs * A9 b := by
 unfold C1
 rw [S6 (n := x.count.natAbs) fun e _ => by rw [Hm, ZE]]
 exact Nat.mul_le_mul_left _ (FQ _ _)
theorem M5 (a b : List Entry) (on : List (Int × Int)) : A9 (A3 a b on) ≤ A9 a * A9 b := by
 induction a with
 | nil => simp [A3, A9]
 | cons x a ih =>
   have h1 := M4 x b on
   have e1 : A3 (x :: a) b on = C1 x b on ++ A3 a b on := by simp [A3]
   rw [e1, CC, A9, EO]
   omega
theorem Q5 (f : List Val → Int) (x : Entry) (b : List Entry) (on : List (Int × Int)) : wS f (C1 x b on) = x.count * wS (fun t => if Dm x.row t on then f (x.row ++ t) else 0) b := by
 induction b with
 | nil => simp [C1, wS]
 | cons y b ih =>
   unfold C1 at ih ⊢
   rw [WQ, wS, Int.mul_add, ← ih]
   cases hm : Dm x.row y.row on
   ·simp [wS]
   ·simp only [if_true, List.map_cons, wS, Hm, Int.mul_assoc]
theorem Q6 (f : List Val → Int) (a b : List Entry) (on : List (Int × Int)) : wS f (A3 a b on) = wS (fun s => wS (fun t => if Dm s t on then f (s ++ t) else 0) b) a := by
 induction a with
 | nil => rfl
 | cons x a ih =>
   have e1 : A3 (x :: a) b on = C1 x b on ++ A3 a b on := by simp [A3]
   rw [e1, DF, Q5, wS, ih]
theorem Jt {a : List Entry} {on : List (Int × Int)} {w1 w2 : Nat} (ha : ∀ e ∈ a, AD e.row = true ∧ e.row.length = w1) (hb : ∀ e ∈ b, AD e.row = true ∧ e.row.length = w2) (hw : w1 + w2 ≤ 16) : ∀ e ∈ A3 a b on, AD e.row = true ∧ e.row.length = w1 + w2 := fun e he => by
 obtain ⟨x, hx, y, hy, _, rfl⟩ := Ib he
 obtain ⟨h1, h2⟩ := ha x hx
 obtain ⟨h3, h4⟩ := hb y hy
 simp only [AD, Bi, decide_eq_true_eq, Hm] at h1 h3 ⊢
 refine ⟨⟨by simp; omega, by rw [List.all_append, h1.2, h3.2]; rfl⟩, by simp; omega⟩
theorem Tiny.rows {w : Nat} (h : Tiny n w b) : ∀ e ∈ b, AD e.row = true ∧ e.row.length = w := fun e he => ⟨((AF h.v).2 e he).1, h.w e he⟩
theorem Tiny.narrow {w : Nat} (h : Tiny n w b) (hw : w ≤ 8) : Ca b = true := by
 unfold Ca
 rw [h.v, Bool.and_true, CN]
 intro e he
 have := h.w e he
 simp only [decide_eq_true_eq]; omega
theorem Z9 {a : List Entry} {A B w1 w2 : Nat} (ha : Tiny A w1 a) (hb : Tiny B w2 b) (on : List (Int × Int)) (h1 : w1 ≤ 8) (h2 : w2 ≤ 8) (hn : A * B ≤ 4096) : EJ a b on = (sortE (A3 a b on), 0) ∧ Tiny (A * B) (w1 + w2) (sortE (A3 a b on)) := by
 have hp := Jt (on := on) ha.rows hb.rows (by omega)
 have hs : A9 (A3 a b on) ≤ A * B := LF (M5 a b on) (Nat.mul_le_mul ha.s hb.s)
 obtain ⟨t1, t2⟩ := Ht (fun e he => (hp e he).1) (fun e he => (hp e he).2) hs hn
 refine ⟨?_, t1⟩
 have hz : ∀ e ∈ A3 a b on, e.count ≠ 0 := fun e he => by
  obtain ⟨x, hx, y, hy, _, rfl⟩ := Ib he
  intro q
  rcases Int.mul_eq_zero.1 q with q | q
  ·exact ((AF ha.v).2 x hx).2.2 q
  ·exact ((AF hb.v).2 y hy).2.2 q
 have hl := (AF t1.v).1
 rw [EJ, ha.narrow h1, hb.narrow h2, Bool.and_self, if_pos rfl, Ls _ hz, E7, if_neg (by omega), if_pos]
 rw [CN]
 intro e he
 have := t2 e he
 simp only [decide_eq_true_eq]; omega
end Go.Proofs.YtmpgmjlanngkfaaGreat
end
section
namespace Go.Abs
open Go.RowKit
section
variable {P : Program} {T : TypeId → Option TI} {F0 : Nat → Prop} {w0 : World}
variable {dr : Bool} {ops rest : List Oper} {K : St → Prop} {n : Nat} {sl : List (Nat × SVal)} {mem : List Blk} {ck : Nat} {df : List (FuncId × List Cell)} {acc : List Nat}
variable {d : Tmp} {ty : TypeId} {pos : String} {aft : Array Edge} {g : Option (Nat × Bool)}
theorem KR [tc : TC P T] {t e : TypeId} {len : Nat} {parts : Array (Nat × Operand)} {i ei : TI} {es es' : List (List Dat)} {r : Nat} {mem' : List Blk} (h : Reg P F0 w0 dr ops K rest ⟨n, (d, .c (.arr r (ck + 1) len)) :: sl, mem', ck + 1, df⟩ (2 :: acc)) (hw : GW ops g sl := by first | exact trivial | exact rfl) (ht : T t = some i := by exact rfl) (hi : i.desc = .slice e := by exact rfl) (hei : T e = some ei := by exact rfl)
  (hc : (Nat.blt 0 len && Nat.blt 0 ei.size && Nat.beq ei.zero.length ei.size && Nat.ble (len * ei.size) 16777216 && Nat.beq parts.size len) = true := by exact rfl) (hp : JB sl ei.size parts.toList 0 = some es := by exact rfl) (hn : es = es' := by repeat' (first | exact AT rfl | apply Az rfl)) (hr : mem.length = r := by exact rfl) (hm' : mem ++ [.arr (ck + 1) e ei.size es'] = mem' := by repeat' (first | exact AT rfl | apply Az rfl)) :
  Reg P F0 w0 dr ops K (⟨some d, .buildSlice t len parts, ty, pos, aft, g⟩ :: rest) ⟨n, sl, mem, ck, df⟩ acc := by
 subst hm'; subst hn; subst hr
 refine Sj (df' := []) hw (fun B σ E a w hF hw0 he hmm hck hr hB hd next Q hnx => ?_) h
 subst hF; subst hw0; subst hmm; subst hck
 obtain ⟨a1, a2, a3, a4, a5⟩ := i
 simp only at hi
 subst hi
 have hu : P.underlying t = some (.slice e) := (tc.ok t _ ht).desc
 simp only [Bi, QN, LG, Nat.blt, Sh] at hc
 obtain ⟨⟨⟨⟨h1, h2⟩, h3⟩, h4⟩, h5⟩ := hc
 have h5' : parts.toList.length = len := by simpa using h5
 have hq := HT (τ := σ) parts.toList _ (fun p hp => he p.2 (by simp only [Op.operands]; simp; exact ⟨p.1, by simpa using hp⟩)) es hp
 have hsz := (tc.ok e ei hei).sizeOf (w := w)
 obtain ⟨fi, z, hi1, hi2, hi3, hi4, hi5⟩ := (tc.ok e ei hei).info
 obtain ⟨cells', q1, q2, q3, q4, q5, q6⟩ := Gn (fun x => hr.ev x) ei.size parts.toList 0 es ((Array.range (len * ei.size)).map (z.cells[· % z.cells.size]!)) hq (by simp [h5'])
 have hcs : cells'.size = len * ei.size := by rw [q2]; simp
 have hrep : ∀ (i j : Nat) el v x, es[i]? = some el → el[j]? = some x → cells'[i * ei.size + j]? = some v → DRep E.F w v x := fun i j el v x b1 b2 b3 => q6 i j el v x b1 b2 (by simpa using b3)
 have hone : ∀ v ∈ cells', v.oneCell' = true := fun v hv => by
  obtain ⟨q, hq1, hq2⟩ := Array.getElem_of_mem hv
  have hqd := ZW q ei.size
  have hlt : q % ei.size < ei.size := WU _ h2
  have hdl : q / ei.size < len := by
    rw [Nat.div_lt_iff_lt_mul h2, ← hcs]; exact hq1
  have e1 : es[q / ei.size]? = some (es[q / ei.size]'(by omega)) := Bh _
  have l1 := q4 _ (Cl e1)
  have e2 : (es[q / ei.size]'(by omega))[q % ei.size]? = some ((es[q / ei.size]'(by omega))[q % ei.size]'(by omega)) := Bh _
  exact CRep.one (CRep.d (E := E) (hrep _ _ _ v _ e1 e2 (by rw [OL, hqd, ← hq2]; simp [hq1])))
 have hnz : len * ei.size ≠ 0 := by
  have : 0 < len * ei.size := Nat.mul_pos h1 h2
  omega
 have hlm : len ≤ maxLen := by
  have : len ≤ len * ei.size := Nat.le_mul_of_pos_right _ h2
  simp only [maxLen]; omega
 have hnew := hr.1.newArr (w' := w.alloc (.cells cells' e)) e ei.size len es h2 q4 (by omega) hlm ((Bel.refl _ w).alloc hr.1.le0 _) (fun k hk => Bel.heap_alloc w _ k hk) (.inr ⟨cells', U2 w _, hcs, hone, hrep⟩)
 have hmap : (parts.map fun (i, x) => (i, a.eval x)).toList = parts.toList.map fun p => (p.1, a.eval p.2) := by simp
 have hrun : (Instr.buildSlice t len (parts.map fun (i, x) => (i, a.eval x))).run P w = .ok (.slice (some ⟨w.heap.size, 0, none⟩) len len) (w.alloc (.cells cells' e)) := by
  simp only [Instr.buildSlice, Sem.run_bind, run_underlying hu, Result.andThen_ok, hsz, hmap]
  rw [if_neg (show ¬ len * ei.size > 2 ^ 24 by omega)]
  simp only [Sem.run_pure, Result.andThen_ok, if_neg hnz, Sem.run_bind, zeroValue, typeInfo, run_program, hi1, hi4]
  rw [q1]
  simp only [Sem.run_bind, newRow, run_newObj, Result.andThen_ok, Sem.run_pure, World.alloc_eq]
 unfold Oper.wp
 rw [show (execOp a.eval ⟨some d, .buildSlice t len parts, ty, pos, aft, g⟩).run P w = .ok (.value (.slice (some ⟨w.heap.size, 0, none⟩) len len)) (w.alloc (.cells cells' e)) by simp at hrun; simp [execOp, hrun]]
 refine hnx _ _ _ [] _ _ ⟨rfl, rfl, rfl, rfl⟩ ⟨_, ?_, hB.trans hnew.2⟩
 rw [EI]
 exact hr.putOE hnew.2 hnew.1 hd (.c (.arr _ _ _ _ rfl (by simp [Env.upd]) (fun _ => .inr (by simp [Env.upd]; exact h1))))
end
end Go.Abs
end
section
namespace Go.Proofs.YtmpgmjlanngkfaaGreat
open Go.Abs Go.RowKit
attribute [local irreducible] ARun Au MCall PCall HCall Ak SF CF CFs Af Ag Ar fin AP VLe
set_option linter.unusedSimpArgs false
set_option maxRecDepth 100000
set_option maxHeartbeats 4000000
theorem MX (e : Entry) : PC 192 [.agg e.d] (.v (.one (.lit (.bool (decide (8 < (e.row.length : Int))))))) := by
 refine Ac hT Tryz.func192 Tryz.ntmps192 [.tmp 2] fun B => ?_
 repeat' first | refine kz ?_ | refine kf ?_ | fail
 all_goals rfl
theorem Jr (b : List Entry) : PC 142 [.one (Am b)] (.v (.one (.lit (.bool (Ca b))))) := by
 have hc := Nb 192 _ MX b
 have hv := BT b
 have hn : Ca b = (Aj b && !(b.any fun e => decide (8 < (e.row.length : Int)))) := by
  unfold Ca
  rw [Bool.and_comm]
  congr 1
  rw [List.not_any_eq_all_not]
  congr 1
  funext e
  rw [U3]
  simp
  omega
 rw [hn]
 cases h : Aj b <;> rw [h] at hv
 ·refine Ac hT Tryz.func142 Tryz.ntmps142 [.tmp 2] fun B => ?_
  repeat' first | refine kz ?_ | refine Aa (hv) ?_ | refine Aa (hc) ?_ | refine kf ?_ | fail
  all_goals rfl
 ·refine Ac hT Tryz.func142 Tryz.ntmps142 [.tmp 2] fun B => ?_
  repeat' first | refine kz ?_ | refine Aa (hv) ?_ | refine Aa (hc) ?_ | refine kf ?_ | fail
  all_goals rfl
theorem Gr : DeferOk Tryz.prog 141 0 := by
 refine ⟨⟨_, Tryz.func141, by kernel_rfl, by kernel_rfl⟩, fun vs w hl => ?_⟩
 match vs, hl with
 | [], _ =>
   refine callsD_of_wpS Tryz.func141 rfl fun c₀ cs hu => ?_
   apply wpS_region
   simp [wpOpsS, go_sem, recoverD, hu, Tryz.ntmps141, Exit.thenS]
   cases c₀
   simp_all [bodyPostS, results, Tryz.results141]
theorem Q2 (a b : List Entry) (on : List (Int × Int)) (hon : on.length ≤ 10000) : PC 89 [.one (Am a), .one (Am b), .one (VC on)] (cx (EJ a b on)) := by
 have hna := Jr a
 have hnb := Jr b
 unfold EJ
 cases na : Ca a
 ·rw [na] at hna
  refine Ac hT Tryz.func89 Tryz.ntmps89 [.tmp 6, .tmp 7] fun B => ?_
  repeat' first | refine kz ?_ | refine Aa (hna) ?_ | refine AA (by repeat (first | exact Ae | refine As Gr ?_)) ?_ ?_ | refine kf ?_ | fail
  all_goals rfl
 cases nb : Ca b
 ·rw [na] at hna
  rw [nb] at hnb
  refine Ac hT Tryz.func89 Tryz.ntmps89 [.tmp 6, .tmp 7] fun B => ?_
  repeat' first | refine kz ?_ | refine Aa (hna) ?_ | refine Aa (hnb) ?_ | refine AA (by repeat (first | exact Ae | refine As Gr ?_)) ?_ ?_ | refine kf ?_ | fail
  all_goals rfl
 rw [na] at hna
 rw [nb] at hnb
 rw [Bool.and_self, if_pos rfl]
 obtain ⟨al, am⟩ := E6 na
 obtain ⟨bl, bm⟩ := E6 nb
 have hs := RI on na nb
 have hj := YN a b on al bl hon (fun e he => ⟨(am e he).1, (am e he).2.1⟩) (fun e he => ⟨(bm e he).1, (bm e he).2.1⟩) ((E7 (sumR (A3 a b on))).1, ((E7 (sumR (A3 a b on))).2 : Int)) (by
  cases hf : N3 a b on with
  | none => rw [hf] at hs; simp only at hs ⊢; rw [hs]; rfl
  | some r =>
    rw [hf] at hs
    obtain ⟨rs, h1, h2, h3⟩ := hs
    refine ⟨rs, h1, h2, ?_⟩
    rw [h3]
    split <;> rfl)
 simp only at hj
 generalize E7 (sumR (A3 a b on)) = R at hj ⊢
 refine Ac hT Tryz.func89 Tryz.ntmps89 [.tmp 6, .tmp 7] fun B => ?_
 repeat' first | refine kz ?_ | refine Aa (hna) ?_ | refine Aa (hnb) ?_ | refine Aa (hj) ?_ | refine AA (by repeat (first | exact Ae | refine As Gr ?_)) ?_ ?_ | refine kf ?_ | fail
 all_goals rfl
def Fi (a b : List Entry) (on : List (Int × Int)) : List Entry × Int := ((EJ a b on).1, ((EJ a b on).2 : Int))
theorem O2 (a b : List Entry) (on : List (Int × Int)) (hon : on.length ≤ 10000) : PC 89 [.one (Am a), .one (Am b), .one (VC on)] (.tup [.one (Am (Fi a b on).1), .one (.lit (.int .i64 (Fi a b on).2))]) := Q2 a b on hon
def Sa (J : List Entry → List Entry → List (Int × Int) → List Entry × Int) (on : List (Int × Int)) : List (List Entry × List Entry) → List Entry → List Entry × Int
 | [], s => (s, 0)
 | p :: P, s => if (J p.1 p.2 on).2 = 0 then (if (Ba 1 s (J p.1 p.2 on).1).2 = 0 then Sa J on P (Ba 1 s (J p.1 p.2 on).1).1 else ([], (Ba 1 s (J p.1 p.2 on).1).2)) else ([], (J p.1 p.2 on).2)
def cG (p : List Entry × List Entry) : List Dat := [Am p.1, Am p.2]
theorem Mo (J : List Entry → List Entry → List (Int × Int) → List Entry × Int) (v : Vw) (l r dl dr : List Entry)
  (hJ : ∀ p ∈ ([(dl, r), (l, dr), (dl, dr)] : List (List Entry × List Entry)), PC 89 [.one (Am p.1), .one (Am p.2), .one (VC v.on)] (Bt (J p.1 p.2 v.on))) :
  PC 103 [.agg v.d, .one (Am l), .one (Am r), .one (Am dl), .one (Am dr)] (Bt (Sa J v.on [(dl, r), (l, dr), (dl, dr)] [])) := by
 have hP : ∃ P : List (List Entry × List Entry), P = [(dl, r), (l, dr), (dl, dr)] := ⟨_, rfl⟩
 obtain ⟨P, hP⟩ := hP
 rw [← hP] at hJ ⊢
 have hPl : P.length = 3 := by rw [hP]; rfl
 have hPd : ∀ (i : Nat) p, P[i]? = some p → ([[Am dl, Am r], [Am l, Am dr], [Am dl, Am dr]] : List (List Dat))[i]? = some [Am p.1, Am p.2] := fun i p h => by
  have : ([[Am dl, Am r], [Am l, Am dr], [Am dl, Am dr]] : List (List Dat)) = P.map cG := by rw [hP]; rfl
  rw [this, B2, h]; rfl
 clear hP
 refine Ac hT Tryz.func103 Tryz.ntmps103 [.tmp 10, .tmp 11] fun B => ?_
 repeat' first | refine kz ?_ | refine Aw ?_ | refine Og ?_ | refine kh ?_ ?_ | exact ⟨⟩ | fail
 refine Cr 12 56 2 ?_
 refine Bc (r := 1) (m := 0) (es1 := ([] : List Entry).map Entry.d) 12 ?_
 refine A0 (X := Nat × List Entry) ([10, 11, 12, 14, 15, 16] ++ List.range' 28 27) (fun x => x.1 ≤ 3 ∧ Sa J v.on (P.drop x.1) x.2 = Sa J v.on P []) (fun x lz => (28, (iC x.1)) :: (12, .c (.d (Am x.2))) :: lz) (fun x => [.box 1 (v.d.map .d), .dead]) (fun x => 3 - x.1) ((0, [])) ?_ ?_ ?_ ?_
 repeat' first | exact k0 | refine kw ?_ | omega
 all_goals try (first | rfl | exact ⟨by omega, rfl⟩)
 rintro ⟨i, s⟩ c ⟨hi, hinv⟩
 dsimp only at hi hinv ⊢
 by_cases hlt : i < 3
 ·have hv : P[i]? = some P[i] := Bh (by omega)
  have hj := hJ _ (Fp (show i < P.length by omega))
  generalize P[i] = p at hv hj
  have hv1 := hPd i p hv
  obtain ⟨x1, y1⟩ := p
  dsimp only at hj hv1
  rw [Ay hv, Sa] at hinv
  dsimp only at hinv
  have ha := Fc s (J x1 y1 v.on).1
  generalize J x1 y1 v.on = q at hj ha hinv
  obtain ⟨q, e⟩ := q
  dsimp only [Bt] at hj ha hinv
  clear hJ hPd
  by_cases he : e = 0
  · subst he
    rw [if_pos rfl] at hinv
    generalize Ba 1 s q = a at ha hinv
    obtain ⟨a, f⟩ := a
    dsimp only at ha hinv
    by_cases hf : f = 0
    ·subst hf
     rw [if_pos rfl] at hinv
     repeat' first | refine kz ?_ | refine AX hv1 ?_ | refine Aw ?_ | refine Aa (hj) ?_ | refine Aa (ha) ?_ | refine kh ?_ ?_ | exact ⟨⟩ | fail
     apply Ad ((i + 1, a)) <;> (try dsimp only) <;> try repeat' first | exact k0 | refine kw ?_ | omega
     all_goals exact ⟨by omega, hinv⟩
    ·rw [if_neg hf] at hinv
     rw [← hinv]
     dsimp only [Bt]
     repeat' first | refine kz ?_ | refine AX hv1 ?_ | refine Aw ?_ | refine Aa (hj) ?_ | refine Aa (ha) ?_ | refine kh ?_ ?_ | exact ⟨⟩ | fail
     all_goals rfl
  · rw [if_neg he] at hinv
    rw [← hinv]
    dsimp only [Bt]
    repeat' first | refine kz ?_ | refine AX hv1 ?_ | refine Aw ?_ | refine Aa (hj) ?_ | refine kh ?_ ?_ | exact ⟨⟩ | fail
    all_goals rfl
 ·rw [Sd (by omega), Sa] at hinv
  rw [← hinv]
  dsimp only [Bt]
  clear hJ hPd
  repeat' first | refine kz ?_ | refine Aw ?_ | refine kh ?_ ?_ | exact ⟨⟩ | fail
  all_goals rfl
end Go.Proofs.YtmpgmjlanngkfaaGreat
end
