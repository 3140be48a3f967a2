/-
  The tape: SpoilExpr.
-/
import Derived.Test.YtmpgmjlanngkfaaGreatOpa
import Derived.Test.YtmpgmjlanngkfaaGreatHoa
import Derived.Test.YtmpgmjlanngkfaaGreatExm
import Derived.Test.YtmpgmjlanngkfaaGreatSpq
section
namespace Go.Abs
open Go.RowKit
section
variable {P : Program} {T : TypeId → Option TI} {F0 : Nat → Prop} {w0 : World}
variable {dr : Bool} {ops rest : List Oper} {K : St → Prop} {n : Nat} {sl : List (Nat × SVal)} {mem : List Blk} {ck : Nat} {df : List (FuncId × List Cell)} {acc : List Nat}
variable {d : Tmp} {ty : TypeId} {pos : String} {aft : Array Edge} {g : Option (Nat × Bool)}
theorem QN [tc : TC P T] {t e : TypeId} {len : Nat} {parts : Array (Nat × Operand)} {i ei : TI} {es es' : List (List Dat)} {r : Nat} {mem' : List Blk} (h : Reg P F0 w0 dr ops K rest ⟨n, (d, .c (.arr r (ck + 1) len)) :: sl, mem', ck + 1, df⟩ (2 :: acc)) (hw : GW ops g sl := by first | exact trivial | exact rfl) (ht : T t = some i := by exact rfl) (hi : i.desc = .slice e := by exact rfl) (hei : T e = some ei := by exact rfl)
  (hc : (Nat.blt 0 len && Nat.blt 0 ei.size && Nat.beq ei.zero.length ei.size && Nat.ble (len * ei.size) 16777216 && Nat.beq parts.size len) = true := by exact rfl) (hp : JC sl ei.size parts.toList 0 = some es := by exact rfl) (hn : es = es' := by repeat' (first | exact AS rfl | apply AA rfl)) (hr : mem.length = r := by exact rfl) (hm' : mem ++ [.arr (ck + 1) e ei.size es'] = mem' := by repeat' (first | exact AS rfl | apply AA rfl)) :
  Reg P F0 w0 dr ops K (⟨some d, .buildSlice t len parts, ty, pos, aft, g⟩ :: rest) ⟨n, sl, mem, ck, df⟩ acc := by
 subst hm'; subst hn; subst hr
 refine RY (df' := []) hw (fun B σ E a w hF hw0 he hmm hck hr hB hd next Q hnx => ?_) h
 subst hF; subst hw0; subst hmm; subst hck
 obtain ⟨a1, a2, a3, a4, a5⟩ := i
 simp only at hi
 subst hi
 have hu : P.underlying t = some (.slice e) := (tc.ok t _ ht).desc
 simp only [Bool.and_eq_true, Nat.beq_eq, Nat.ble_eq, Nat.blt, Nat.succ_le_iff] at hc
 obtain ⟨⟨⟨⟨h1, h2⟩, h3⟩, h4⟩, h5⟩ := hc
 have h5' : parts.toList.length = len := by simpa using h5
 have hq := H9 (τ := σ) parts.toList _ (fun p hp => he p.2 (by simp only [Op.operands]; simp; exact ⟨p.1, by simpa using hp⟩)) es hp
 have hsz := (tc.ok e ei hei).sizeOf (w := w)
 obtain ⟨fi, z, hi1, hi2, hi3, hi4, hi5⟩ := (tc.ok e ei hei).info
 obtain ⟨cells', q1, q2, q3, q4, q5, q6⟩ := GH (fun x => hr.ev x) ei.size parts.toList 0 es ((Array.range (len * ei.size)).map (z.cells[· % z.cells.size]!)) hq (by simp [h5'])
 have hcs : cells'.size = len * ei.size := by rw [q2]; simp
 have hrep : ∀ (i j : Nat) el v x, es[i]? = some el → el[j]? = some x → cells'[i * ei.size + j]? = some v → DRep E.F w v x := fun i j el v x b1 b2 b3 => q6 i j el v x b1 b2 (by simpa using b3)
 have hone : ∀ v ∈ cells', v.oneCell' = true := fun v hv => by
  obtain ⟨q, hq1, hq2⟩ := Array.getElem_of_mem hv
  have hqd := Nat.div_add_mod q ei.size
  have hlt : q % ei.size < ei.size := Nat.mod_lt _ h2
  have hdl : q / ei.size < len := by
    rw [Nat.div_lt_iff_lt_mul h2, ← hcs]; exact hq1
  have e1 : es[q / ei.size]? = some (es[q / ei.size]'(by omega)) := List.getElem?_eq_getElem _
  have l1 := q4 _ (List.mem_of_getElem? e1)
  have e2 : (es[q / ei.size]'(by omega))[q % ei.size]? = some ((es[q / ei.size]'(by omega))[q % ei.size]'(by omega)) := List.getElem?_eq_getElem _
  exact CRep.one (CRep.d (E := E) (hrep _ _ _ v _ e1 e2 (by rw [Nat.mul_comm, hqd, ← hq2]; simp [hq1])))
 have hnz : len * ei.size ≠ 0 := by
  have : 0 < len * ei.size := Nat.mul_pos h1 h2
  omega
 have hlm : len ≤ maxLen := by
  have : len ≤ len * ei.size := Nat.le_mul_of_pos_right _ h2
  simp only [maxLen]; omega
 have hnew := hr.1.newArr (w' := w.alloc (.cells cells' e)) e ei.size len es h2 q4 (by omega) hlm ((Bel.refl _ w).alloc hr.1.le0 _) (fun k hk => Bel.heap_alloc w _ k hk) (.inr ⟨cells', Go.heap_alloc_new w _, hcs, hone, hrep⟩)
 have hmap : (parts.map fun (i, x) => (i, a.eval x)).toList = parts.toList.map fun p => (p.1, a.eval p.2) := by simp
 have hrun : (Instr.buildSlice t len (parts.map fun (i, x) => (i, a.eval x))).run P w = .ok (.slice (some ⟨w.heap.size, 0, none⟩) len len) (w.alloc (.cells cells' e)) := by
  simp only [Instr.buildSlice, Sem.run_bind, run_underlying hu, Result.andThen_ok, hsz, hmap]
  rw [if_neg (show ¬ len * ei.size > 2 ^ 24 by omega)]
  simp only [Sem.run_pure, Result.andThen_ok, if_neg hnz, Sem.run_bind, zeroValue, typeInfo, run_program, hi1, hi4]
  rw [q1]
  simp only [Sem.run_bind, newRow, run_newObj, Result.andThen_ok, Sem.run_pure, World.alloc_eq]
 unfold Oper.wp
 rw [show (execOp a.eval ⟨some d, .buildSlice t len parts, ty, pos, aft, g⟩).run P w = .ok (.value (.slice (some ⟨w.heap.size, 0, none⟩) len len)) (w.alloc (.cells cells' e)) by simp at hrun; simp [execOp, hrun]]
 refine hnx _ _ _ [] _ _ ⟨rfl, rfl, rfl, rfl⟩ ⟨_, ?_, hB.trans hnew.2⟩
 rw [ET]
 exact hr.putOE hnew.2 hnew.1 hd (.c (.arr _ _ _ _ rfl (by simp [Env.upd]) (fun _ => .inr (by simp [Env.upd]; exact h1))))
end
end Go.Abs
end
section
namespace Go.Proofs.YtmpgmjlanngkfaaGreat
open Go.Abs Go.RowKit
attribute [local irreducible] ARun At MCall PCall HCall Am SF CF CFs Ah Aj Ar fin AW VLe
set_option linter.unusedSimpArgs false
set_option maxRecDepth 100000
set_option maxHeartbeats 4000000
theorem AV (t : Tape) (n : Nat) (ht : t.ok) (h1 : 1 ≤ n) (h2 : n ≤ 1000000) : ∃ (v : Nat) (t' : Tape), t'.ok ∧ v < n ∧ HCall Tryz.prog 30 [.c (.bp 0 0 0), .c (.d (.lit (.int .i64 n)))] [(.box 0 [.d (Ax (t).l), .d (.lit (.int .i64 (t).at_))])] (.c (.d (.lit (.int .i64 v)))) [(.box 0 [.d (Ax (t').l), .d (.lit (.int .i64 (t').at_))])] := by
 have h := DC t n ht (by omega) (by omega)
 obtain ⟨b1, b2⟩ := t.nx_bd n
 have e : t.nx n = ((t.nx n).toNat : Int) := by omega
 rw [e] at h
 exact ⟨_, _, ht.go n, by omega, h⟩
def VX (n : Nat) (x : Trm) : Prop := x.op = 2 → 0 ≤ x.col ∧ x.col < n
theorem Px (t : Tape) (n : Nat) (ht : t.ok) (h1 : 1 ≤ n) (hn : n ≤ 1000) : ∃ (x : Trm) (t' : Tape), t'.ok ∧ VX n x ∧ HCall Tryz.prog 71 [.c (.bp 0 0 0), (.c (.d (.lit (.int .i64 (n : Int)))))] [(.box 0 [.d (Ax (t).l), .d (.lit (.int .i64 (t).at_))])] (.c (.d (AK [x]))) [(.box 0 [.d (Ax (t').l), .d (.lit (.int .i64 (t').at_))])] := by
 obtain ⟨v1, t1, ok1, l1, n1⟩ := AV t 3 ht (by omega) (by omega)
 by_cases h0 : v1 = 0
 ·subst h0
  obtain ⟨v2, t2, ok2, l2, n2⟩ := AV t1 2 ok1 (by omega) (by omega)
  by_cases h3 : v2 = 0
  ·subst h3
   have hc := Uo t2 ok2
   refine ⟨⟨1, t2.text, 0⟩, t2.go 10, ok2.go 10, fun h => absurd (show (1 : Int) = 2 from h) (by decide), ?_⟩
   generalize t2.go 10 = t3 at hc
   generalize t2.text = v at hc
   refine As hT Tryz.func71 Tryz.ntmps71 [.tmp 4] fun B => ?_
   repeat' (first | refine kz ?_ | refine Ad [0] (n1) ?_ | refine Ad [0] (n2) ?_ | refine Ad [0] (hc) ?_ | refine kg ?_ ?_ | exact k0 | refine Ab ?_)
  ·have hc := WC t2 ok2
   refine ⟨⟨1, t2.int, 0⟩, t2.go 12, ok2.go 12, fun h => absurd (show (1 : Int) = 2 from h) (by decide), ?_⟩
   generalize t2.go 12 = t3 at hc
   generalize t2.int = v at hc
   refine As hT Tryz.func71 Tryz.ntmps71 [.tmp 4] fun B => ?_
   repeat' (first | refine kz ?_ | refine Ad [0] (n1) ?_ | refine Ad [0] (n2) ?_ | refine Ad [0] (hc) ?_ | refine kg ?_ ?_ | exact k0 | refine Ab ?_)
 ·obtain ⟨v2, t2, ok2, l2, n2⟩ := AV t1 n ok1 h1 (by omega)
  refine ⟨⟨2, Val.null, v2⟩, t2, ok2, fun _ => ⟨Int.natCast_nonneg _, by show (v2 : Int) < n; omega⟩, ?_⟩
  refine As hT Tryz.func71 Tryz.ntmps71 [.tmp 4] fun B => ?_
  repeat' (first | refine kz ?_ | refine Ad [0] (n1) ?_ | refine Ad [0] (n2) ?_ | refine kg ?_ ?_ | exact k0 | refine Ab ?_)
theorem VY (n : Nat) (h1 : 1 ≤ n) (hn : n ≤ 1000) : ∀ (dp : Nat) (t : Tape), t.ok → dp ≤ 8 → ∃ (e : List Trm) (t' : Tape), t'.ok ∧ e.length ≤ 4 ^ dp ∧ (∀ x ∈ e, VX n x) ∧ HCall Tryz.prog 31 [.c (.bp 0 0 0), (.c (.d (.lit (.int .i64 (dp : Int))))), (.c (.d (.lit (.int .i64 (n : Int)))))] [(.box 0 [.d (Ax (t).l), .d (.lit (.int .i64 (t).at_))])] (.c (.d (AK e))) [(.box 0 [.d (Ax (t').l), .d (.lit (.int .i64 (t').at_))])] := by
 intro dp
 induction dp with
 | zero =>
   intro t ht _
   obtain ⟨x, t', ok', hx, hc⟩ := Px t n ht h1 hn
   refine ⟨[x], t', ok', by simp, by simpa using hx, ?_⟩
   refine As hT Tryz.func31 Tryz.ntmps31 [.tmp 6] fun B => ?_
   repeat' (first | refine kz ?_ | refine Ad [0] (hc) ?_ | refine kf ?_ | refine kg ?_ ?_ | exact k0 | refine Ab ?_ | refine m1 ?_ ?_)
 | succ dp ih =>
   intro t ht hdp
   have hpow : 1 ≤ 4 ^ dp := Nat.pos_of_ne_zero (by simp)
   have hpow2 : 4 ^ dp ≤ 4 ^ 7 := Nat.pow_le_pow_right (by omega) (by omega)
   have hpow3 : 4 ^ (dp + 1) = 4 * 4 ^ dp := by rw [Nat.pow_succ, Nat.mul_comm]
   by_cases hd0 : dp = 0
   ·subst hd0
    obtain ⟨x, t', ok', hx, hc⟩ := Px t n ht h1 hn
    refine ⟨[x], t', ok', by simp, by simpa using hx, ?_⟩
    clear ih
    refine As hT Tryz.func31 Tryz.ntmps31 [.tmp 6] fun B => ?_
    repeat' (first | refine kz ?_ | refine Ad [0] (hc) ?_ | refine kf ?_ | refine kg ?_ ?_ | exact k0 | refine Ab ?_ | refine m1 ?_ ?_)
   obtain ⟨v1, t1, ok1, l1, n1⟩ := AV t 4 ht (by omega) (by omega)
   by_cases h0 : v1 = 0
   ·subst h0
    obtain ⟨x, t', ok', hx, hc⟩ := Px t1 n ok1 h1 hn
    refine ⟨[x], t', ok', by simp; omega, by simpa using hx, ?_⟩
    clear ih
    refine As hT Tryz.func31 Tryz.ntmps31 [.tmp 6] fun B => ?_
    repeat' (first | refine kz ?_ | refine Ad [0] (n1) ?_ | refine Ad [0] (hc) ?_ | refine kf ?_ | refine kg ?_ ?_ | exact k0 | refine Ab ?_ | refine m1 ?_ ?_)
   obtain ⟨v2, t2, ok2, l2, n2⟩ := AV t1 16 ok1 (by omega) (by omega)
   have ha := JI ((3 : Int) + v2)
   obtain ⟨k, hk⟩ := Int.eq_ofNat_of_zero_le (show 0 ≤ D6 ((3 : Int) + v2) by
    unfold D6
    split
    · omega
    split
    · omega
    split
    · omega
    split <;> omega)
   have hk3 : k ≤ 3 := by have := (Hu ((3 : Int) + v2)).2; omega
   rw [hk] at ha
   have hops : ∀ m : Nat, m ≤ 3 → ∃ (f : Nat → List Trm) (ts : Nat → Tape), ts 0 = t2 ∧ ∀ i, i < m → (ts i).ok ∧ (ts (i + 1)).ok ∧ ((f i).length ≤ 4 ^ dp ∧ ∀ x ∈ f i, VX n x) ∧ HCall Tryz.prog 31 [.c (.bp 0 0 0), (.c (.d (.lit (.int .i64 (dp : Int))))), (.c (.d (.lit (.int .i64 (n : Int)))))] [(.box 0 [.d (Ax ((ts i)).l), .d (.lit (.int .i64 ((ts i)).at_))])] (.c (.d (AK (f i)))) [(.box 0 [.d (Ax ((ts (i + 1))).l), .d (.lit (.int .i64 ((ts (i + 1))).at_))])] := by
    intro m
    induction m with
    | zero => intro _; exact ⟨fun _ => [], fun _ => t2, rfl, fun i hi => by omega⟩
    | succ m ihm =>
      intro hm
      obtain ⟨f, ts, e0, hf⟩ := ihm (by omega)
      have okm : (ts m).ok := by
       cases m with
       | zero => rw [e0]; exact ok2
       | succ m => exact (hf m (by omega)).2.1
      obtain ⟨e, t', ok', hle, hcb, hc⟩ := ih (ts m) okm (by omega)
      refine ⟨fun i => if i = m then e else f i, fun i => if i = m + 1 then t' else ts i, by simp [e0], fun i hi => ?_⟩
      by_cases him : i = m
      ·subst him
       simp only [if_true, show ¬ i = i + 1 by omega, if_false]
       exact ⟨okm, ok', ⟨hle, hcb⟩, hc⟩
      ·have := hf i (by omega)
       simp only [if_neg him, show ¬ i = m + 1 by omega, show ¬ i + 1 = m + 1 by omega, if_false]
       exact this
   obtain ⟨f, ts, e0, hf⟩ := hops 3 (by omega)
   clear hops ih
   have hcat : ∀ i, ∃ L : List Trm, L = ⟨(3 : Int) + v2, Val.null, 0⟩ :: ((List.range i).map f).flatten := fun i => ⟨_, rfl⟩
   obtain ⟨cat, hcat⟩ : ∃ cat : Nat → List Trm, ∀ i, cat i = ⟨(3 : Int) + v2, Val.null, 0⟩ :: ((List.range i).map f).flatten := ⟨fun i => _, fun i => rfl⟩
   have hc0 : cat 0 = [⟨(3 : Int) + v2, Val.null, 0⟩] := by rw [hcat]; rfl
   have hcs : ∀ i, cat (i + 1) = cat i ++ f i := fun i => by rw [hcat, hcat, List.range_succ]; simp
   have hcl : ∀ i, i ≤ 3 → (cat i).length ≤ 1 + i * 4 ^ dp := by
    intro i
    induction i with
    | zero => intro _; rw [hc0]; simp
    | succ i ihi =>
      intro hi
      have h1 := ihi (by omega)
      have h2 := (hf i (by omega)).2.2.1.1
      rw [hcs, List.length_append, Nat.add_mul, Nat.one_mul]; omega
   have hck : (cat k).length ≤ 4 ^ (dp + 1) := by
    have h1 := hcl k hk3
    have h2 : k * 4 ^ dp ≤ 3 * 4 ^ dp := Nat.mul_le_mul_right _ hk3
    omega
   have okk : (ts k).ok := by
    cases k with
    | zero => rw [e0]; exact ok2
    | succ k => exact (hf k (by omega)).2.1
   have hcb : ∀ i, i ≤ 3 → ∀ x ∈ cat i, VX n x := by
    intro i
    induction i with
    | zero =>
      intro _ x hx
      rw [hc0] at hx
      obtain rfl := List.mem_singleton.1 hx
      intro h
      have h : (3 : Int) + v2 = 2 := h
      omega
    | succ i ihi =>
      intro hi x hx
      rw [hcs] at hx
      rcases List.mem_append.1 hx with hx | hx
      ·exact ihi (by omega) x hx
      ·exact (hf i (by omega)).2.2.1.2 x hx
   refine ⟨cat k, ts k, okk, hck, hcb k hk3, ?_⟩
   clear hcb
   have hfr : List.take (cat k).length ((cat k).map Trm.d) = (cat k).map Trm.d := Ag (by simp)
   clear hcat
   rw [← e0] at n2
   refine As hT Tryz.func31 Tryz.ntmps31 [.tmp 6] fun B => ?_
   repeat' (first | refine QN (r := 1) ?_ | refine kz ?_ | refine Aa (ha) ?_ | refine Ad [0] (n1) ?_ | refine Ad [0] (n2) ?_ | refine Gw ?_ | refine AX Af ?_ ?_ | exact k0 | refine Ab ?_ | refine m1 ?_ ?_)
   refine AO (X := Nat × Nat × Nat × List Trm × Tape) [8, 9, 28, 29, 30, 31, 32, 33, 34, 35, 36, 37, 38] (fun x => x.1 ≤ k ∧ x.2.2.1 = x.2.2.2.1.length ∧ x.2.2.2.1 = cat x.1 ∧ x.2.2.2.2 = ts x.1) (fun x lz => (8, .c (.arr 1 x.2.1 x.2.2.1)) :: (9, (.c (.d (.lit (.int .i64 ((k - x.1 : Nat) : Int)))))) :: lz) (fun x => [(.box 0 [.d (Ax (x.2.2.2.2).l), .d (.lit (.int .i64 (x.2.2.2.2).at_))]), .arr x.2.1 109 5 (x.2.2.2.1.map Trm.d)]) (fun x => k - x.1) ((0, 3, 1, [⟨(3 : Int) + v2, Val.null, 0⟩], ts 0)) ?_ ?_ ?_ ?_
   repeat' (first | exact k0 | refine kw ?_ | refine Go.Abs.kv ?_ ?_ | omega)
   ·exact ⟨by simp, rfl, hc0.symm, rfl⟩
   rintro ⟨i, kv, len, L, T'⟩ c ⟨hi, hlen, hL, hT'⟩
   dsimp only at hi hlen hL hT' ⊢
   have hLl : L.length ≤ 100000 := by
    have h1 := hcl i (by omega)
    have h2 : i * 4 ^ dp ≤ 3 * 4 ^ dp := Nat.mul_le_mul_right _ (by omega)
    rw [hL]
    have h3 : (4 : Nat) ^ 7 = 16384 := by decide
    omega
   by_cases hlt : i < k
   ·obtain ⟨_, _, ⟨hfl, _⟩, hcall⟩ := hf i (by omega)
    rw [← hT'] at hcall
    rw [show (dp : Int) = ((dp + 1 : Nat) : Int) - 1 by omega] at hcall
    have hfl2 : (f i).length ≤ 100000 := by
      have h3 : (4 : Nat) ^ 7 = 16384 := by decide
      omega
    have hnext := hcs i
    rw [← hL] at hnext
    have hts : ts (i + 1) = ts (i + 1) := rfl
    clear hf hcl hcs hL hck hc0 hT'
    generalize f i = fi at *
    generalize hq : ts (i + 1) = T2 at hcall
    repeat' (first | refine kz ?_ | refine Ad [0] (hcall) ?_ | refine kf ?_ | refine kg ?_ ?_ | exact k0 | refine Ab ?_ | refine m1 ?_ ?_)
    (apply Ae ((i + 1, _, len + fi.length, L ++ fi, T2)); all_goals (try dsimp only); all_goals (try (repeat' (first | exact k0 | refine w1 ?_ | refine Ab ?_ | refine m1 ?_ ?_ | omega))))
    all_goals first | (exact ⟨by omega, by simp; omega, hnext.symm, hq.symm⟩) | exact List.map_append.symm | skip
   ·obtain rfl : i = k := by omega
    rw [← hL, ← hT']
    rw [← hL] at hfr
    rw [hlen]
    clear hf hcl hcs
    repeat' (first | refine Aw 8 ?_ (hes := hfr) | refine kz ?_ | refine Gw ?_ | refine AX Af ?_ ?_ | exact k0 | refine Ab ?_ | refine m1 ?_ ?_)
    all_goals skip
theorem Hb (n : Nat) (h1 : 1 ≤ n) (hn : n ≤ 1000) (dp : Nat) (t : Tape) (ht : t.ok) (hd : dp ≤ 8) : ∃ (e : List Trm) (t' : Tape), t'.ok ∧ e.length ≤ 4 ^ dp ∧ HCall Tryz.prog 31 [.c (.bp 0 0 0), (.c (.d (.lit (.int .i64 (dp : Int))))), (.c (.d (.lit (.int .i64 (n : Int)))))] [(.box 0 [.d (Ax (t).l), .d (.lit (.int .i64 (t).at_))])] (.c (.d (AK e))) [(.box 0 [.d (Ax (t').l), .d (.lit (.int .i64 (t').at_))])] := by
 obtain ⟨e, t', h2, h3, _, h4⟩ := VY n h1 hn dp t ht hd
 exact ⟨e, t', h2, h3, h4⟩
theorem Dt {b : List Trm} {i : Nat} (e : Trm) : List.take b.length ((b.map Trm.d).set i e.d) = (b.set i e).map Trm.d := by
 rw [List.map_set]; exact Ag (by simp)
theorem Oh (t : Tape) (b : List Trm) (ht : t.ok) (hb : b.length ≤ 100000) : ∃ (b' : List Trm) (t' : Tape), t'.ok ∧ b'.length ≤ b.length + 1 ∧ HCall Tryz.prog 79 [.c (.bp 0 0 0), .c (.d (AK b))] [(.box 0 [.d (Ax (t).l), .d (.lit (.int .i64 (t).at_))])] (.c (.d (AK b'))) [(.box 0 [.d (Ax (t').l), .d (.lit (.int .i64 (t').at_))])] := by
 have f0 : List.take b.length (b.map Trm.d) = b.map Trm.d := Ag (by simp)
 by_cases h0 : b.length = 0
 ·refine ⟨b, t, ht, by omega, ?_⟩
  refine As hT Tryz.func79 Tryz.ntmps79 [.tmp 4] fun B => ?_
  repeat' (first | refine Aw 5 ?_ (hes := f0) | refine kz ?_ | refine AX Af ?_ ?_ | exact k0 | refine Ab ?_)
 obtain ⟨i, t1, ok1, hil, hn1⟩ := AV t b.length ht (by omega) (by omega)
 have hv : b[i]? = some b[i] := List.getElem?_eq_getElem hil
 generalize b[i] = e at hv
 have hv1 : (b.map Trm.d)[i]? = some e.d := by rw [List.getElem?_map, hv]; rfl
 obtain ⟨z, t2, ok2, hz, hn2⟩ := AV t1 7 ok1 (by omega) (by omega)
 by_cases z0 : z = 0
 ·obtain ⟨v, t3, ok3, _, hn3⟩ := AV t2 21 ok2 (by omega) (by omega)
  have f5 := Dt (b := b) (i := i) ⟨(v : Int) - 1, e.v, e.col⟩
  refine ⟨b.set i ⟨(v : Int) - 1, e.v, e.col⟩, t3, ok3, by simp, ?_⟩
  refine As hT Tryz.func79 Tryz.ntmps79 [.tmp 4] fun B => ?_
  repeat' (first | refine Aw 5 ?_ (hes := f5) | refine kz ?_ | refine kx hv1 ?_ | refine ki ?_ | refine Ad [0] (hn1) ?_ | refine Ad [0] (hn2) ?_ | refine Ad [0] (hn3) ?_ | refine AX Af ?_ ?_ | exact k0 | refine Ab ?_)
 by_cases z1 : z = 1
 ·have hvc := Qv t2 ok2
  have ok3 := Up ok2
  have f5 := Dt (b := b) (i := i) ⟨e.op, t2.val.1, e.col⟩
  refine ⟨b.set i ⟨e.op, t2.val.1, e.col⟩, t2.val.2, ok3, by simp, ?_⟩
  generalize t2.val = q at hvc f5
  obtain ⟨w, t3⟩ := q
  dsimp only at hvc f5 ⊢
  refine As hT Tryz.func79 Tryz.ntmps79 [.tmp 4] fun B => ?_
  repeat' (first | refine Aw 5 ?_ (hes := f5) | refine kz ?_ | refine kx hv1 ?_ | refine ki ?_ | refine Ad [0] (hn1) ?_ | refine Ad [0] (hn2) ?_ | refine Ad [0] (hvc) ?_ | refine AX Af ?_ ?_ | exact k0 | refine Ab ?_)
 by_cases z2 : z = 2
 ·obtain ⟨v, t3, ok3, _, hn3⟩ := AV t2 5 ok2 (by omega) (by omega)
  have f5 := Dt (b := b) (i := i) ⟨e.op, e.v, (v : Int) - 1⟩
  refine ⟨b.set i ⟨e.op, e.v, (v : Int) - 1⟩, t3, ok3, by simp, ?_⟩
  refine As hT Tryz.func79 Tryz.ntmps79 [.tmp 4] fun B => ?_
  repeat' (first | refine Aw 5 ?_ (hes := f5) | refine kz ?_ | refine kx hv1 ?_ | refine ki ?_ | refine Ad [0] (hn1) ?_ | refine Ad [0] (hn2) ?_ | refine Ad [0] (hn3) ?_ | refine AX Af ?_ ?_ | exact k0 | refine Ab ?_)
 by_cases z3 : z = 3
 ·refine ⟨b.drop 1, t2, ok2, by simp; omega, ?_⟩
  refine As hT Tryz.func79 Tryz.ntmps79 [.tmp 4] fun B => ?_
  repeat' (first | refine Aw 5 ?_ (hes := f0) | refine kz ?_ | refine kx hv1 ?_ | refine ki ?_ | refine Ad [0] (hn1) ?_ | refine Ad [0] (hn2) ?_ | refine AX Af ?_ ?_ | exact k0 | refine Ab ?_)
 by_cases z4 : z = 4
 ·have hf : List.take (b.length + [e.d].length) (b.map Trm.d ++ [e.d]) = (b ++ [e]).map Trm.d := by
   rw [List.map_append]; exact Ag (by simp)
  refine ⟨b ++ [e], t2, ok2, by simp, ?_⟩
  refine As hT Tryz.func79 Tryz.ntmps79 [.tmp 4] fun B => ?_
  repeat' (first | refine FR 65 rfl rfl (by simp) hf rfl ?_ | refine kz ?_ | refine kx hv1 ?_ | refine ki ?_ | refine Ad [0] (hn1) ?_ | refine Ad [0] (hn2) ?_ | refine AX Af ?_ ?_ | exact k0 | refine Ab ?_)
 by_cases z5 : z = 5
 ·have f5 := Dt (b := b) (i := i) ⟨e.op, ⟨1, 1, ⟨#[120]⟩⟩, e.col⟩
  refine ⟨b.set i ⟨e.op, ⟨1, 1, ⟨#[120]⟩⟩, e.col⟩, t2, ok2, by simp, ?_⟩
  refine As hT Tryz.func79 Tryz.ntmps79 [.tmp 4] fun B => ?_
  repeat' (first | refine Aw 5 ?_ (hes := f5) | refine kz ?_ | refine kx hv1 ?_ | refine ki ?_ | refine Ad [0] (hn1) ?_ | refine Ad [0] (hn2) ?_ | refine AX Af ?_ ?_ | exact k0 | refine Ab ?_)
 ·obtain ⟨v, t3, ok3, _, hn3⟩ := AV t2 16 ok2 (by omega) (by omega)
  have f5 := Dt (b := b) (i := i) ⟨(3 : Int) + v, Val.null, 0⟩
  refine ⟨b.set i ⟨(3 : Int) + v, Val.null, 0⟩, t3, ok3, by simp, ?_⟩
  refine As hT Tryz.func79 Tryz.ntmps79 [.tmp 4] fun B => ?_
  repeat' (first | refine Aw 5 ?_ (hes := f5) | refine kz ?_ | refine kx hv1 ?_ | refine ki ?_ | refine Ad [0] (hn1) ?_ | refine Ad [0] (hn2) ?_ | refine Ad [0] (hn3) ?_ | refine AX Af ?_ ?_ | exact k0 | refine Ab ?_)
end Go.Proofs.YtmpgmjlanngkfaaGreat
end
