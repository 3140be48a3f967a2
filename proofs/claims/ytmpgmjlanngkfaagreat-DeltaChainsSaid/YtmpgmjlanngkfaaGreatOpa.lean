/-
  More operations: shifts, bits, texts and bytes, nil, maps.
-/
import Derived.Test.YtmpgmjlanngkfaaGreatFra
import Derived.Laws.BytesString
import Derived.MapKept
import Derived.Maps.RangeRun
section
namespace Go.Abs
open Go.RowKit
variable {E : Env} {a b z : Int} {ev : Operand → SVal} {k r : Nat} {o : Oper} {t t' : TypeId} {v : Value} {w : World} {x y : Operand}
theorem SRep.bp_inv {o : Nat} (h : SRep E w v (.c (.bp r k o))) (hv : E.ver r = k) : v = .pointer (some ⟨E.blk r, o, none⟩) := by
 cases h with | c h => cases h with | bp _ _ _ _ _ _ hh => exact hh hv
theorem SRep.mp_inv (h : SRep E w v (.c (.mp r k))) (hv : E.ver r = k) : v = .map (some (E.blk r)) := by
 cases h with | c h => cases h with | mp _ _ _ _ _ hh => exact hh hv
theorem SRep.it_inv (h : SRep E w v (.c (.it r k))) (hv : E.ver r = k) : v = .pointer (some ⟨E.blk r, 0, none⟩) := by
 cases h with | c h => cases h with | it _ _ _ _ _ hh => exact hh hv
theorem SRep.arr_inv {m : Nat} (h : SRep E w v (.c (.arr r k m))) (hv : E.ver r = k) : (E.cap r = 0 ∧ m = 0 ∧ ∃ a, v = .slice a 0 0) ∨ (0 < E.cap r ∧ v = .slice (some ⟨E.blk r, 0, none⟩) m (E.cap r)) := by
 cases h with | c h => cases h with | arr _ _ _ _ _ _ hh => exact hh hv
theorem SRep.d_inv {x : Dat} (h : SRep E w v (.c (.d x))) : DRep E.F w v x := by
 cases h with | c h => exact h.d_of
theorem SRep.emp_inv (h : SRep E w v (.c .emp)) : ∃ a, v = .slice a 0 0 := by
 cases h with | c h => cases h with | emp a => exact ⟨_, rfl⟩
section
variable {P : Program} {T : TypeId → Option TI} {F0 : Nat → Prop} {w0 : World}
theorem EI (σ : St) (d : Option Tmp) (v : SVal) (m : List Blk) (c : Nat) : upd σ d v m c [] = { σ with mem := m, clock := c }.putO d v := by
 cases d <;> rfl
theorem QB {mem : List Blk} {ck : Nat} {R : SVal → List Blk → Nat → Prop}
  (h : ∀ (E : Env) (w : World) (ρ : Operand → Value), WOk F0 w0 E w mem ck → (∀ x ∈ o.op.operands.toList, SRep E w (ρ x) (ev x)) →
    ∃ u w' E' v m' c', (execOp ρ o).run P w = .ok (.value u) w' ∧ EnvLe E w E' w' ∧ WOk F0 w0 E' w' m' c' ∧ SRep E' w' u v ∧ R v m' c') :
  Does P F0 w0 o ev mem ck fun v m c df => R v m c ∧ df = [] := by
 intro B σ E a w hF hw0 he hm hc hr hB hd next Q hn
 subst hF; subst hw0; subst hm; subst hc
 obtain ⟨u, w', E', v, m', c', h1, h2, h3, h4, h5⟩ := h E w a.eval hr.1 (fun x hx => by rw [← he x hx]; exact hr.ev x)
 unfold Oper.wp
 rw [h1]
 refine hn v m' c' [] _ _ ⟨h5, rfl⟩ ⟨E', ?_, hB.trans h2⟩
 rw [EI]
 exact hr.putOE h2 h3 hd h4
theorem YS {mem : List Blk} {ck : Nat} {R : SVal → List Blk → Nat → Prop}
  (h : ∀ (E : Env) (w : World) (ρ : Operand → Value), (∀ v, ρ (.const v) = v) → WOk F0 w0 E w mem ck → (∀ x ∈ o.op.operands.toList, SRep E w (ρ x) (ev x)) →
    ∃ u w' E' v m' c', (execOp ρ o).run P w = .ok (.value u) w' ∧ EnvLe E w E' w' ∧ WOk F0 w0 E' w' m' c' ∧ SRep E' w' u v ∧ R v m' c') :
  Does P F0 w0 o ev mem ck fun v m c df => R v m c ∧ df = [] := by
 intro B σ E a w hF hw0 he hm hc hr hB hd next Q hn
 subst hF; subst hw0; subst hm; subst hc
 obtain ⟨u, w', E', v, m', c', h1, h2, h3, h4, h5⟩ := h E w a.eval (fun _ => rfl) hr.1 (fun x hx => by rw [← he x hx]; exact hr.ev x)
 unfold Oper.wp
 rw [h1]
 refine hn v m' c' [] _ _ ⟨h5, rfl⟩ ⟨E', ?_, hB.trans h2⟩
 rw [EI]
 exact hr.putOE h2 h3 hd h4
theorem Does.mono {mem : List Blk} {ck : Nat} {R R' : SVal → List Blk → Nat → List (FuncId × List Cell) → Prop} (h : Does P F0 w0 o ev mem ck R) (hR : ∀ v m c df, R v m c df → R' v m c df) : Does P F0 w0 o ev mem ck R' :=
 fun B σ E a w q1 q2 q3 q4 q5 q6 q7 q8 next Q hn => h B σ E a w q1 q2 q3 q4 q5 q6 q7 q8 next Q fun v m c df a' w' hr => hn v m c df a' w' (hR _ _ _ _ hr)
theorem Bx {mem m' : List Blk} {ck c' : Nat} {v : SVal}
   (h : ∀ (E : Env) (w : World) (ρ : Operand → Value), WOk F0 w0 E w mem ck → (∀ x ∈ o.op.operands.toList, SRep E w (ρ x) (ev x)) →
     ∃ u w' E', (execOp ρ o).run P w = .ok (.value u) w' ∧ EnvLe E w E' w' ∧ WOk F0 w0 E' w' m' c' ∧ SRep E' w' u v) :
   Does P F0 w0 o ev mem ck (ED v m' c' []) :=
 (QB (R := fun v1 m1 c1 => v1 = v ∧ m1 = m' ∧ c1 = c') fun E w ρ hw hρ => by
   obtain ⟨u, w', E', h1, h2, h3, h4⟩ := h E w ρ hw hρ
   exact ⟨u, w', E', v, m', c', h1, h2, h3, h4, rfl, rfl, rfl⟩).mono fun _ _ _ _ q => ⟨q.1.1, q.1.2.1, q.1.2.2, q.2⟩
theorem Iy {mem m' : List Blk} {ck c' : Nat}
  (h : ∀ (E : Env) (w : World) (ρ : Operand → Value), WOk F0 w0 E w mem ck → (∀ x ∈ o.op.operands.toList, SRep E w (ρ x) (ev x)) →
    ∃ w' E', (execOp ρ o).run P w = .ok .skip w' ∧ EnvLe E w E' w' ∧ WOk F0 w0 E' w' m' c') :
  Does P F0 w0 o ev mem ck (ED .junk m' c' []) := by
 intro B σ E a w hF hw0 he hm hc hr hB hd next Q hn
 subst hF; subst hw0; subst hm; subst hc
 obtain ⟨w', E', h1, h2, h3⟩ := h E w a.eval hr.1 (fun x hx => by rw [← he x hx]; exact hr.ev x)
 unfold Oper.wp
 rw [h1]
 refine hn .junk m' c' [] _ _ ⟨rfl, rfl, rfl, rfl⟩ ⟨E', ?_, hB.trans h2⟩
 rw [EI]
 exact hr.putOE h2 h3 hd (.junk _)
theorem Hk {v : SVal}
  (h : ∀ (E : Env) (w : World) (ρ : Operand → Value), (∀ x ∈ o.op.operands.toList, SRep E w (ρ x) (ev x)) → ∃ u, (execOp ρ o).run P w = .ok (.value u) w ∧ SRep E w u v) :
  ∀ mem ck, Does P F0 w0 o ev mem ck (ED v mem ck []) := fun mem ck =>
 Bx fun E w ρ hw hρ => by
  obtain ⟨u, h1, h2⟩ := h E w ρ hρ
  exact ⟨u, w, E, h1, EnvLe.refl _ _, hw, h2⟩
def Om (k : IntKind) (a b : Int) : Int := k.wrap (BitVec.ofInt k.bits a ||| BitVec.ofInt k.bits b).toNat
def J5 (k : IntKind) (a b : Int) : Int := k.wrap (BitVec.ofInt k.bits a ^^^ BitVec.ofInt k.bits b).toNat
def Cm (k : IntKind) (a b : Int) : Int := a.fdiv (2 ^ min b.toNat k.bits)
def J6 (k : IntKind) (a b : Int) : Int := k.wrap (a * 2 ^ min b.toNat k.bits)
theorem Wu {n : Nat} (h : n ≤ 64) : Cm .i64 a n = a.fdiv (2 ^ n) := by
 unfold Cm; rw [QL, show IntKind.i64.bits = 64 from rfl, Nat.min_eq_left h]
variable {dr : Bool} {ops rest : List Oper} {K : St → Prop} {n : Nat} {sl : List (Nat × SVal)} {mem : List Blk} {ck : Nat} {df : List (FuncId × List Cell)} {acc : List Nat}
variable {d : Tmp} {op : Op} {ty : TypeId} {pos : String} {aft : Array Edge} {g : Option (Nat × Bool)}
theorem UG {k k' : IntKind} 
  (h : Reg P F0 w0 dr ops K rest ⟨n, (d, .c (.d (.lit (.int k z)))) :: sl, mem, ck, df⟩ (0 :: acc)) (hw : GW ops g sl := by first | exact trivial | exact rfl) (hx : AH sl x = .c (.d (.lit (.int k a))) := by exact rfl) (hy : AH sl y = .c (.d (.lit (.int k' b))) := by exact rfl) (hb : 0 ≤ b := by omega) (hz : Cm k a b = z := by exact rfl) :
  Reg P F0 w0 dr ops K (⟨some d, .binOp .shr t x y t', ty, pos, aft, g⟩ :: rest) ⟨n, sl, mem, ck, df⟩ acc :=
 FD hw (Hk fun E w ρ hρ => by
  have e1 := hρ x (by simp [Op.operands])
  have e2 := hρ y (by simp [Op.operands])
  rw [hx] at e1; rw [hy] at e2
  have e1 := e1.lit_inv
  have e2 := e2.lit_inv
  subst hz
  refine ⟨.int k (Cm k a b), ?_, .c (.d (.lit _ rfl))⟩
  simp only [execOp, e1, e2, Sem.run_bind, eqGuard, binOp, Op.shift]
  rw [if_neg (show ¬ b < 0 by omega)]
  simp [Cm]) h
theorem Xn {k k' : IntKind} 
  (h : Reg P F0 w0 dr ops K rest ⟨n, (d, .c (.d (.lit (.int k z)))) :: sl, mem, ck, df⟩ (0 :: acc)) (hw : GW ops g sl := by first | exact trivial | exact rfl) (hx : AH sl x = .c (.d (.lit (.int k a))) := by exact rfl) (hy : AH sl y = .c (.d (.lit (.int k' b))) := by exact rfl) (hb : 0 ≤ b := by omega) (hz : J6 k a b = z := by exact rfl) :
  Reg P F0 w0 dr ops K (⟨some d, .binOp .shl t x y t', ty, pos, aft, g⟩ :: rest) ⟨n, sl, mem, ck, df⟩ acc :=
 FD hw (Hk fun E w ρ hρ => by
  have e1 := hρ x (by simp [Op.operands])
  have e2 := hρ y (by simp [Op.operands])
  rw [hx] at e1; rw [hy] at e2
  have e1 := e1.lit_inv
  have e2 := e2.lit_inv
  subst hz
  refine ⟨.int k (J6 k a b), ?_, .c (.d (.lit _ rfl))⟩
  simp only [execOp, e1, e2, Sem.run_bind, eqGuard, binOp, Op.shift]
  rw [if_neg (show ¬ b < 0 by omega)]
  simp [J6]) h
theorem aw {k : IntKind} 
  (h : Reg P F0 w0 dr ops K rest ⟨n, (d, .c (.d (.lit (.int k z)))) :: sl, mem, ck, df⟩ (0 :: acc)) (hw : GW ops g sl := by first | exact trivial | exact rfl) (hx : AH sl x = .c (.d (.lit (.int k a))) := by exact rfl) (hy : AH sl y = .c (.d (.lit (.int k b))) := by exact rfl) (hz : Om k a b = z := by exact rfl) :
  Reg P F0 w0 dr ops K (⟨some d, .binOp .or t x y t', ty, pos, aft, g⟩ :: rest) ⟨n, sl, mem, ck, df⟩ acc :=
 FD hw (Hk fun E w ρ hρ => by
  have e1 := hρ x (by simp [Op.operands])
  have e2 := hρ y (by simp [Op.operands])
  rw [hx] at e1; rw [hy] at e2
  have e1 := e1.lit_inv
  have e2 := e2.lit_inv
  subst hz
  refine ⟨.int k (Om k a b), ?_, .c (.d (.lit _ rfl))⟩
  simp only [execOp, e1, e2, Sem.run_bind, eqGuard, binOp, ne_eq, not_true_eq_false, if_false]
  simp [Op.intBits, Om]) h
theorem Xo {k : IntKind} 
  (h : Reg P F0 w0 dr ops K rest ⟨n, (d, .c (.d (.lit (.int k z)))) :: sl, mem, ck, df⟩ (0 :: acc)) (hw : GW ops g sl := by first | exact trivial | exact rfl) (hx : AH sl x = .c (.d (.lit (.int k a))) := by exact rfl) (hy : AH sl y = .c (.d (.lit (.int k b))) := by exact rfl) (hz : J5 k a b = z := by exact rfl) :
  Reg P F0 w0 dr ops K (⟨some d, .binOp .xor t x y t', ty, pos, aft, g⟩ :: rest) ⟨n, sl, mem, ck, df⟩ acc :=
 FD hw (Hk fun E w ρ hρ => by
  have e1 := hρ x (by simp [Op.operands])
  have e2 := hρ y (by simp [Op.operands])
  rw [hx] at e1; rw [hy] at e2
  have e1 := e1.lit_inv
  have e2 := e2.lit_inv
  subst hz
  refine ⟨.int k (J5 k a b), ?_, .c (.d (.lit _ rfl))⟩
  simp only [execOp, e1, e2, Sem.run_bind, eqGuard, binOp, ne_eq, not_true_eq_false, if_false]
  simp [Op.intBits, J5]) h
theorem UH [tc : TC P T] {i : TI} {k : IntKind} {s : ByteArray} {b : UInt8}
  (h : Reg P F0 w0 dr ops K rest ⟨n, (d, .c (.d (.lit (.int .u8 b.toNat)))) :: sl, mem, ck, df⟩ (0 :: acc)) (hb : 0 ≤ z ∧ s[z.toNat]? = some b) (hw : GW ops g sl := by first | exact trivial | exact rfl) (hx : AH sl x = .c (.d (.lit (.string s))) := by exact rfl) (hy : AH sl y = .c (.d (.lit (.int k z))) := by exact rfl) (ht : T t = some i := by exact rfl) (hi : i.desc = .str := by exact rfl) :
  Reg P F0 w0 dr ops K (⟨some d, .index t x y, ty, pos, aft, g⟩ :: rest) ⟨n, sl, mem, ck, df⟩ acc :=
 FD hw (Hk fun E w ρ hρ => by
  have e1 := hρ x (by simp [Op.operands])
  have e2 := hρ y (by simp [Op.operands])
  rw [hx] at e1; rw [hy] at e2
  have e1 := e1.lit_inv
  have e2 := e2.lit_inv
  have hu : P.underlying t = some .string := by have := (tc.ok t i ht).desc; rw [hi] at this; exact this
  refine ⟨.int .u8 b.toNat, ?_, .c (.d (.lit _ rfl))⟩
  simp [execOp, e1, e2, Instr.index, run_underlying hu, asIntOf, hb.1, hb.2]) h
theorem UI {o : Nat} {cs : List Cell}
  (h : Reg P F0 w0 dr ops K rest ⟨n, (d, .c (.bp r k o)) :: sl, mem, ck, df⟩ (1 :: acc)) (hw : GW ops g sl := by first | exact trivial | exact rfl) (hx : AH sl x = .c (.bp r k o) := by exact rfl) (hm : mem[r]? = some (.box k cs) := by exact rfl) :
  Reg P F0 w0 dr ops K (⟨some d, .nilCheck x, ty, pos, aft, g⟩ :: rest) ⟨n, sl, mem, ck, df⟩ acc :=
 CU hw hm (fun mem ck hm => Bx fun E w ρ hw' hρ => by
  have e1 := hρ x (by simp [Op.operands])
  rw [hx] at e1
  have hv := (hw'.mem.ok r _ hm).1
  have e2 := e1.bp_inv hv
  exact ⟨ρ x, w, E, by simp [execOp, e2], EnvLe.refl _ _, hw', e1⟩) h
end
end Go.Abs
end
section
namespace Go.Abs
open Go.RowKit
open Classical in
noncomputable def findE (k : Value) : List MapEntry → Nat → Option (Nat × Value)
 | [], _ => none
 | e :: es, i => if k = e.key then some (i, e.val) else findE k es (i + 1)
class KeyOk (P : Program) (kt : TypeId) (G : outParam (Value → Prop)) : Prop where
 check : ∀ (w : World) (b : Bool) (k : Value), G k → (Instr.checkKey b 10000 kt k).run P w = .ok () w
 find : ∀ (w : World) (k : Value) (es : List MapEntry), G k → (∀ e ∈ es, G e.key) → (Instr.findKey kt k es).run P w = .ok (findE k es 0) w
 same : ∀ (k : Value), G k → Instr.sameBits 10000 k k = true
theorem GH {k : Value} : ∀ {es : List MapEntry} {i : Nat}, (∀ e ∈ es, k ≠ e.key) → findE k es i = none
 | [], _, _ => rfl
 | e :: es, i, h => by rw [findE, if_neg (h e (by simp)), GH fun e he => h e (by simp [he])]
theorem GJ {k : Value} : ∀ {es : List MapEntry} {i j : Nat} {e : MapEntry}, es[j]? = some e → e.key = k → (∀ (l : Nat) e', l < j → es[l]? = some e' → k ≠ e'.key) → findE k es i = some (i + j, e.val)
 | [], _, _, _, h, _, _ => by simp at h
 | x :: es, i, 0, e, h, hk, _ => by simp at h; subst h; rw [findE, if_pos hk.symm]; rfl
 | x :: es, i, j + 1, e, h, hk, hn => by
   rw [findE, if_neg (hn 0 x (by omega) rfl), GJ (j := j) (by simpa using h) hk (fun l e' hl he => hn (l + 1) e' (by omega) (by simpa using he))]
   congr 2
   omega
theorem Ia (a b : ByteArray) : (a == b) = decide (a = b) := by
 rw [beq_toListBytes]
 by_cases h : a = b
 ·subst h; simp
 ·have : ¬ a.toList = b.toList := by
   intro q
   rw [ByteArray.toList_eq, ByteArray.toList_eq] at q
   apply h
   cases a; cases b
   simp only at q
   congr 1
   exact OO q
  simp [h, this]
def Iz (v : Value) : Prop := ∃ s : ByteArray, v = .string s
theorem IA (s : ByteArray) : ∀ (es : List MapEntry) (i : Nat), (∀ e ∈ es, Iz e.key) → Instr.findNow .string (.string s) es i = some (findE (.string s) es i)
 | [], _, _ => rfl
 | e :: es, i, h => by
   obtain ⟨u, hu⟩ := h e (by simp)
   have ih := IA s es (i + 1) fun e he => h e (by simp [he])
   by_cases hs : s = u
   ·subst hs
    have hne : (s == s) = true := by rw [Ia]; simp
    simp only [Instr.findNow, hu, Instr.sameNow, hne, findE, if_true]
   ·have hne : (s == u) = false := by rw [Ia]; simpa using hs
    simp only [Instr.findNow, hu, Instr.sameNow, hne, findE]
    rw [if_neg (by rw [hu]; simpa using hs), ih]
theorem YT {P : Program} {kt : TypeId} (h : P.underlying kt = some .string) : KeyOk P kt Iz where
 check w b k hk := by
  obtain ⟨s, rfl⟩ := hk
  exact MapKept.run_checkKey h (by trivial) b 9999
 find w k es hk hes := by
  obtain ⟨s, rfl⟩ := hk
  exact MapKept.run_findKey h (IA s es 0 hes)
 same k hk := by
  obtain ⟨s, rfl⟩ := hk
  simp only [Instr.sameBits, Ia, decide_true]
def cR (zero : List Value) (v : Value) : Prop := ∃ us, v = .agg us.toArray ∧ CQ zero us
end Go.Abs
end
section
namespace Go.Abs
open Go.RowKit
variable {A : Array MapEntry} {G : Value → Prop} {bs : List Nat} {c i k r r' : Nat} {es : List (Value × PV)} {kt kt' t vt vt' : TypeId} {kv v : Value} {mem' : List Blk} {p : PV} {s : SVal} {x y : Operand}
class MapTy (P : Program) (t : TypeId) (kt vt : outParam TypeId) : Prop where
 out : P.underlying t = some (.map kt vt)
class ZeroV (P : Program) (vt : TypeId) (z : outParam PV) : Prop where
 out : ∀ w : World, ∃ v, (zeroValue vt).run P w = .ok v w ∧ ∀ (F : Nat → Prop) (w' : World), PVRep F w' v z
theorem Lq {P : Program} (h : (P.info? vt).map (·.zero) = some (some v)) (h1 : v.oneCell' = true) : ZeroV P vt (.one (.lit v)) := by
 refine ⟨fun w => ⟨v, ?_, fun F w' => .lit v h1⟩⟩
 cases hi : P.info? vt with
 | none => rw [hi] at h; cases h
 | some i =>
   rw [hi] at h
   simp only [Option.map_some, Option.some.injEq] at h
   simp [zeroValue, typeInfo, hi, h]
theorem RV {P : Program} (h : (P.info? vt).map (·.zero) = some (some (.slice none 0 0))) : ZeroV P vt (.one (.sl [])) := by
 refine ⟨fun w => ⟨.slice none 0 0, ?_, fun F w' => .emp none 0⟩⟩
 cases hi : P.info? vt with
 | none => rw [hi] at h; cases h
 | some i =>
   rw [hi] at h
   simp only [Option.map_some, Option.some.injEq] at h
   simp [zeroValue, typeInfo, hi, h]
def BM : SVal → Option Value
 | .c (.d (.lit v)) => some v
 | .agg cs => (match Dk cs with
   | some us => some (.agg us.toArray)
   | none => none)
 | _ => none
theorem AZ {E : Env} {w : World} {u : Value} (h : SRep E w u s) (hk : BM s = some v) : u = v := by
 unfold BM at hk
 split at hk
 ·cases hk; exact h.lit_inv
 ·split at hk
  ·rename_i us hus
   cases hk
   cases h with | agg _ vs hl hd => rw [EU hus hl hd]
  ·cases hk
 ·cases hk
theorem PVRep.srep {E : Env} {w : World} (h : PVRep E.F w v p) : SRep E w v p.s := by
 cases p with
 | one x => exact .c (.d h)
 | agg xs =>
   obtain ⟨vs, rfl, h2, h3⟩ := h
   refine .agg _ vs (by simpa using h2) (fun i u c hu hc => ?_)
   rw [B2] at hc
   cases hx : xs[i]? with
   | none => rw [hx] at hc; cases hc
   | some x => rw [hx] at hc; simp only [Option.map_some, Option.some.injEq] at hc; subst hc; exact .d (h3 i u x hu hx)
theorem SD.prep {E : Env} {w : World} (h : SD s p) (hv : SRep E w v s) : PVRep E.F w v p := by
 have := h.rep hv
 cases p with
 | one x => exact this.d_inv
 | agg xs =>
   cases this with | agg _ vs hl hd =>
   refine ⟨vs, rfl, by simpa using hl, fun i u x hu hx => ?_⟩
   exact (hd i u (.d x) hu (by rw [B2, hx]; rfl)).d_of
theorem BW {n0 : Nat} (w : World) (b : Nat) (o : Obj) (h : n0 ≤ b) : Bel n0 w { w with heap := w.heap.setIfInBounds b o } :=
 ⟨⟨rfl, rfl, rfl, by simp, fun k hk => by simp only; rw [PH (by omega)]⟩, Nat.le_refl _⟩
section
variable {F0 : Nat → Prop} {w0 w : World} {E : Env} {mem : List Blk} {clock : Nat}
theorem WOk.allocObj (h : WOk F0 w0 E w mem clock) (o : Obj) (nb : Blk)
  (hnew : EnvLe E w (E.upd mem.length w.heap.size 0 (clock + 1)) (w.alloc o) → BlkOk w0.heap.size (E.upd mem.length w.heap.size 0 (clock + 1)) (w.alloc o) mem.length nb) :
  WOk F0 w0 (E.upd mem.length w.heap.size 0 (clock + 1)) (w.alloc o) (mem ++ [nb]) (clock + 1) ∧ EnvLe E w (E.upd mem.length w.heap.size 0 (clock + 1)) (w.alloc o) := by
 have hf := h.fresh
 have hle : EnvLe E w (E.upd mem.length w.heap.size 0 (clock + 1)) (w.alloc o) := Env.upd_le _ _ _ _ (by have := h.mem.clock mem.length; omega) (fun i hi => Bel.heap_alloc w _ i (h.FN i hi))
 exact h.turn _ _ _ _ _ _ (by omega) (Nat.le_refl _) (FT mem _) ((Bel.refl _ w).alloc h.le0 _) (fun i hi _ => Bel.heap_alloc w _ i hi) (fun s x _ hx hh => hf.2 s x hx hh) hf.1 (hnew hle)
theorem MapOk.look (h : MapOk E w es bs c A) (hi : es[i]? = some (kv, p)) :
  ∃ m, A[i]? = some m ∧ m.key = kv ∧ PVRep E.F w m.val p ∧ findE kv A.toList 0 = some (i, m.val) := by
 obtain ⟨h1, h2, h3, h0, h4, h5⟩ := h
 have hlt := lt_of_getElem? hi
 have hm : A[i]? = some (A[i]'(by omega)) := Mw _
 obtain ⟨q1, p', q2, q3⟩ := h5 i _ hm
 rw [hi] at q2
 simp only [Option.some.injEq, Gk] at q2
 obtain ⟨q4, q5⟩ := q2
 subst q5
 refine ⟨_, hm, q4.symm, q3, ?_⟩
 have := GJ (k := kv) (es := A.toList) (i := 0) (j := i) (e := A[i]'(by omega)) (by rw [I9]; exact hm) q4.symm (fun l e' hl he => by
  obtain ⟨_, p2, q6, _⟩ := h5 l e' (by rw [← I9]; exact he)
  intro q
  have hp := WL.1 h0 l i (by simp; omega) (by simpa using hlt) hl
  apply hp
  have hlt2 := lt_of_getElem? q6
  rw [Bh hlt2] at q6
  rw [Bh hlt] at hi
  simp only [Option.some.injEq] at q6 hi
  simp only [List.getElem_map, q6, hi, q])
 simpa using this
theorem MapOk.not (h : MapOk E w es bs c A) (hn : ∀ e ∈ es, e.1 ≠ kv) : findE kv A.toList 0 = none := by
 refine GH fun e he => ?_
 obtain ⟨i, hi⟩ := LC.1 he
 obtain ⟨_, p, q, _⟩ := h.2.2.2.2.2 i e (by rw [← I9]; exact hi)
 exact fun q' => hn _ (Cl q) q'.symm
theorem MapOk.good (h : MapOk E w es bs c A) (hg : ∀ e ∈ es, G e.1) : ∀ e ∈ A.toList, G e.key := by
 intro e he
 obtain ⟨i, hi⟩ := LC.1 he
 obtain ⟨_, p, q, _⟩ := h.2.2.2.2.2 i e (by rw [← I9]; exact hi)
 exact hg _ (Cl q)
end
section
variable {P : Program} {T : TypeId → Option TI} {F0 : Nat → Prop} {w0 : World}
variable {dr : Bool} {ops rest : List Oper} {K : St → Prop} {n : Nat} {sl : List (Nat × SVal)} {mem : List Blk} {ck : Nat} {df : List (FuncId × List Cell)} {acc : List Nat}
variable {d : Tmp} {op : Op} {ty : TypeId} {pos : String} {aft : Array Edge} {g : Option (Nat × Bool)}
theorem QC [mt : MapTy P t kt vt] {x : Option Operand} 
   (h : Reg P F0 w0 dr ops K rest ⟨n, (d, .c (.mp r (ck + 1))) :: sl, mem', ck + 1, df⟩ (2 :: acc)) (hw : GW ops g sl := by first | exact trivial | exact rfl) (hx : ∀ y, x = some y → ∃ k z, AH sl y = .c (.d (.lit (.int k z))) := by first | (intro _ q; cases q; exact ⟨_, _, rfl⟩) | (intro _ q; cases q)) (hr : mem.length = r := by first | exact (rfl : _ = 0) | exact (rfl : _ = 1) | exact (rfl : _ = 2) | exact (rfl : _ = 3) | exact (rfl : _ = 4) | exact (rfl : _ = 5) | exact (rfl : _ = 6) | exact (rfl : _ = 7) | exact (rfl : _ = 8)) (hm' : mem ++ [Blk.map (ck + 1) kt vt [] [] 0] = mem' := by repeat' (first | exact AT rfl | apply Az rfl)) :
   Reg P F0 w0 dr ops K (⟨some d, .makeMap t x, ty, pos, aft, g⟩ :: rest) ⟨n, sl, mem, ck, df⟩ acc := by
 subst hr; subst hm'
 refine Sj (df' := []) hw (Bx fun E w ρ hw' hρ => ?_) h
 have hal := hw'.allocObj (.map #[] 0) (.map (ck + 1) kt vt [] [] 0) (fun _ => ⟨by simp [Env.upd], by simp [Env.upd]; exact hw'.le0, by simp only [Env.upd, if_true]; exact hw'.fresh.1, #[], by simp only [Env.upd, if_true]; exact U2 w _, rfl, rfl, by simp, by simp, by simp, fun i m hm => by simp at hm⟩)
 refine ⟨.map (some w.heap.size), _, _, ?_, hal.2, hal.1, .c (.mp _ _ _ rfl (by simp [Env.upd]) (fun _ => by simp [Env.upd]))⟩
 cases x with
 | none => simp [execOp, Instr.makeMap]
 | some y =>
   obtain ⟨k, z, hy⟩ := hx y rfl
   have e1 := hρ y (by simp [Op.operands])
   rw [hy] at e1
   have e1 := e1.lit_inv
   simp [execOp, Instr.makeMap, run_underlying mt.out, e1, asInt, asIntOf]
theorem Df (mt : P.underlying t = some (.map kt vt)) [ko : KeyOk P kt G] {E : Env} {w : World} (hw : WOk F0 w0 E w mem ck) (hm : mem[r]? = some (.map k kt' vt' es bs c)) (hG : ∀ e ∈ es, G e.1) (hg : G kv) :
  (∀ (i : Nat) p, es[i]? = some (kv, p) → ∃ v, PVRep E.F w v p ∧ (Instr.lookup t (.map (some (E.blk r))) kv false).run P w = .ok v w ∧ (Instr.lookup t (.map (some (E.blk r))) kv true).run P w = .ok (.tuple #[v, .bool true]) w) ∧
  ((∀ e ∈ es, e.1 ≠ kv) → ∀ v, (zeroValue vt).run P w = .ok v w → (Instr.lookup t (.map (some (E.blk r))) kv false).run P w = .ok v w ∧ (Instr.lookup t (.map (some (E.blk r))) kv true).run P w = .ok (.tuple #[v, .bool false]) w) := by
 obtain ⟨o1, o2, o3, A, o4, o5⟩ := hw.mem.ok r _ hm
 have hfk := ko.find w kv A.toList hg (o5.good hG)
 have hck := ko.check w A.isEmpty kv hg
 refine ⟨fun i p hi => ?_, fun hn v hv => ?_⟩
 ·obtain ⟨m, q1, q2, q3, q4⟩ := o5.look hi
  rw [q4] at hfk
  exact ⟨m.val, q3, by simp only [Instr.lookup, Sem.run_bind, run_underlying mt, MapKept.run_getObj_map o4, Result.andThen_ok, Sem.run_pure, hck, hfk, Bool.false_eq_true, if_false],
    by simp only [Instr.lookup, Sem.run_bind, run_underlying mt, MapKept.run_getObj_map o4, Result.andThen_ok, Sem.run_pure, hck, hfk, if_true]⟩
 ·rw [o5.not hn] at hfk
  exact ⟨by simp only [Instr.lookup, Sem.run_bind, run_underlying mt, MapKept.run_getObj_map o4, Result.andThen_ok, Sem.run_pure, hck, hfk, hv, Bool.false_eq_true, if_false],
    by simp only [Instr.lookup, Sem.run_bind, run_underlying mt, MapKept.run_getObj_map o4, Result.andThen_ok, Sem.run_pure, hck, hfk, hv, if_true]⟩
theorem Wv [mt : MapTy P t kt vt] [ko : KeyOk P kt G] {v : SVal} (hi : es[i]? = some (kv, p)) (hg : G kv) (hG : ∀ e ∈ es, G e.1)
  (h : Reg P F0 w0 dr ops K rest ⟨n, (d, v) :: sl, mem, ck, df⟩ (1 :: acc)) (hw : GW ops g sl := by first | exact trivial | exact rfl) (hx : AH sl x = .c (.mp r k) := by exact rfl) (hm : mem[r]? = some (.map k kt' vt' es bs c) := by exact rfl) (hy : AH sl y = s := by exact rfl) (hk : BM s = some kv := by exact rfl) (hv : p.s = v := by exact rfl) :
  Reg P F0 w0 dr ops K (⟨some d, .lookup t x y false, ty, pos, aft, g⟩ :: rest) ⟨n, sl, mem, ck, df⟩ acc := by
 subst hv
 refine CU hw hm (fun mem ck hm => Bx fun E w ρ hw' hρ => ?_) h
 have e1 := hρ x (by simp [Op.operands])
 have e2 := hρ y (by simp [Op.operands])
 rw [hx] at e1; rw [hy] at e2
 have e1 := e1.mp_inv (hw'.mem.ok r _ hm).1
 have e2 := AZ e2 hk
 obtain ⟨u, q1, q2, _⟩ := (Df mt.out hw' hm hG hg).1 i p hi
 exact ⟨u, w, E, by simp [execOp, e1, e2, q2], EnvLe.refl _ _, hw', q1.srep⟩
theorem Ww [mt : MapTy P t kt vt] [ko : KeyOk P kt G] {z : PV} [zv : ZeroV P vt z] {v : SVal} (hn : ∀ e ∈ es, e.1 ≠ kv) (hg : G kv) (hG : ∀ e ∈ es, G e.1)
  (h : Reg P F0 w0 dr ops K rest ⟨n, (d, v) :: sl, mem, ck, df⟩ (1 :: acc)) (hw : GW ops g sl := by first | exact trivial | exact rfl) (hx : AH sl x = .c (.mp r k) := by exact rfl) (hm : mem[r]? = some (.map k kt' vt' es bs c) := by exact rfl) (hy : AH sl y = s := by exact rfl) (hk : BM s = some kv := by exact rfl) (hv : z.s = v := by exact rfl) :
  Reg P F0 w0 dr ops K (⟨some d, .lookup t x y false, ty, pos, aft, g⟩ :: rest) ⟨n, sl, mem, ck, df⟩ acc := by
 subst hv
 refine CU hw hm (fun mem ck hm => Bx fun E w ρ hw' hρ => ?_) h
 have e1 := hρ x (by simp [Op.operands])
 have e2 := hρ y (by simp [Op.operands])
 rw [hx] at e1; rw [hy] at e2
 have e1 := e1.mp_inv (hw'.mem.ok r _ hm).1
 have e2 := AZ e2 hk
 obtain ⟨u, z1, z2⟩ := zv.out w
 obtain ⟨q2, _⟩ := (Df mt.out hw' hm hG hg).2 hn u z1
 exact ⟨u, w, E, by simp [execOp, e1, e2, q2], EnvLe.refl _ _, hw', (z2 E.F w).srep⟩
def dN (es : List (Value × PV)) (kv : Value) (z p : PV) : Prop := (∃ i : Nat, es[i]? = some (kv, p)) ∨ ((∀ e ∈ es, e.1 ≠ kv) ∧ p = z)
theorem UJ [mt : MapTy P t kt vt] [ko : KeyOk P kt G] {v : SVal} (hi : es[i]? = some (kv, p)) (hg : G kv) (hG : ∀ e ∈ es, G e.1)
  (h : Reg P F0 w0 dr ops K rest ⟨n, (d, .tup [v, .c (.d (.lit (.bool true)))]) :: sl, mem, ck, df⟩ (1 :: acc)) (hw : GW ops g sl := by first | exact trivial | exact rfl) (hx : AH sl x = .c (.mp r k) := by exact rfl) (hm : mem[r]? = some (.map k kt' vt' es bs c) := by exact rfl) (hy : AH sl y = s := by exact rfl) (hk : BM s = some kv := by exact rfl) (hv : p.s = v := by exact rfl) :
  Reg P F0 w0 dr ops K (⟨some d, .lookup t x y true, ty, pos, aft, g⟩ :: rest) ⟨n, sl, mem, ck, df⟩ acc := by
 subst hv
 refine CU hw hm (fun mem ck hm => Bx fun E w ρ hw' hρ => ?_) h
 have e1 := hρ x (by simp [Op.operands])
 have e2 := hρ y (by simp [Op.operands])
 rw [hx] at e1; rw [hy] at e2
 have e1 := e1.mp_inv (hw'.mem.ok r _ hm).1
 have e2 := AZ e2 hk
 obtain ⟨u, q1, _, q2⟩ := (Df mt.out hw' hm hG hg).1 i p hi
 exact ⟨.tuple #[u, .bool true], w, E, by simp [execOp, e1, e2, q2], EnvLe.refl _ _, hw', .tup _ [u, .bool true] rfl (fun i u' y hu hy => by
  match i with
  | 0 => simp at hu hy; subst hu; subst hy; exact q1.srep
  | 1 => simp at hu hy; subst hu; subst hy; exact .c (.d (.lit _ rfl))
  | i + 2 => simp at hu)⟩
theorem UK [mt : MapTy P t kt vt] [ko : KeyOk P kt G] {z : PV} [zv : ZeroV P vt z] {v : SVal} (hn : ∀ e ∈ es, e.1 ≠ kv) (hg : G kv) (hG : ∀ e ∈ es, G e.1)
  (h : Reg P F0 w0 dr ops K rest ⟨n, (d, .tup [v, .c (.d (.lit (.bool false)))]) :: sl, mem, ck, df⟩ (1 :: acc)) (hw : GW ops g sl := by first | exact trivial | exact rfl) (hx : AH sl x = .c (.mp r k) := by exact rfl) (hm : mem[r]? = some (.map k kt' vt' es bs c) := by exact rfl) (hy : AH sl y = s := by exact rfl) (hk : BM s = some kv := by exact rfl) (hv : z.s = v := by exact rfl) :
  Reg P F0 w0 dr ops K (⟨some d, .lookup t x y true, ty, pos, aft, g⟩ :: rest) ⟨n, sl, mem, ck, df⟩ acc := by
 subst hv
 refine CU hw hm (fun mem ck hm => Bx fun E w ρ hw' hρ => ?_) h
 have e1 := hρ x (by simp [Op.operands])
 have e2 := hρ y (by simp [Op.operands])
 rw [hx] at e1; rw [hy] at e2
 have e1 := e1.mp_inv (hw'.mem.ok r _ hm).1
 have e2 := AZ e2 hk
 obtain ⟨u, z1, z2⟩ := zv.out w
 obtain ⟨_, q2⟩ := (Df mt.out hw' hm hG hg).2 hn u z1
 exact ⟨.tuple #[u, .bool false], w, E, by simp [execOp, e1, e2, q2], EnvLe.refl _ _, hw', .tup _ [u, .bool false] rfl (fun i u' y hu hy => by
  match i with
  | 0 => simp at hu hy; subst hu; subst hy; exact (z2 E.F w).srep
  | 1 => simp at hu hy; subst hu; subst hy; exact .c (.d (.lit _ rfl))
  | i + 2 => simp at hu)⟩
theorem I1 (mt : P.underlying t = some (.map kt vt)) [ko : KeyOk P kt G] {E : Env} {w : World} (hw : WOk F0 w0 E w mem ck) (hm : mem[r]? = some (.map k kt' vt' es bs c)) (hG : ∀ e ∈ es, G e.1) (hg : G kv) (hv : PVRep E.F w v p) :
  (∀ (i : Nat) p0, es[i]? = some (kv, p0) → ∃ w', (Instr.mapUpdate t (.map (some (E.blk r))) kv v).run P w = .ok () w' ∧ EnvLe E w E w' ∧ WOk F0 w0 E w' (mem.set r (.map k kt' vt' (es.set i (kv, p)) bs c)) ck) ∧
  ((∀ e ∈ es, e.1 ≠ kv) → ∃ w', (Instr.mapUpdate t (.map (some (E.blk r))) kv v).run P w = .ok () w' ∧ EnvLe E w E w' ∧ WOk F0 w0 E w' (mem.set r (.map k kt' vt' (es ++ [(kv, p)]) (bs ++ [c]) (c + 1))) ck) := by
 have ho := hw.mem.ok r _ hm
 obtain ⟨o1, o2, o3, A, o4, o5⟩ := ho
 have hlt : E.blk r < w.heap.size := (Mv.1 o4).1
 have hfk := ko.find w kv A.toList hg (o5.good hG)
 have hck := ko.check w false kv hg
 refine ⟨fun i p0 hi => ?_, fun hn => ?_⟩
 ·obtain ⟨m, q1, q2, q3, q4⟩ := o5.look hi
  rw [q4] at hfk
  have hks : (Instr.keyThatStays m.key kv).run P w = .ok kv w := by
    rw [q2]
    simp [Instr.keyThatStays, ko.same kv hg]
  refine ⟨{ w with heap := w.heap.setIfInBounds (E.blk r) (.map (A.modify i fun e => { e with key := kv, val := v }) c) }, ?_, ?_⟩
  · simp only [Instr.mapUpdate, Sem.run_bind, run_underlying mt, MapKept.run_getObj_map o4, Result.andThen_ok, hck, hfk, q1, Option.map_some, Sg, hks]
    exact MapKept.run_setObj_map _ o4
  · have hp := hw.poke r _ (.map k kt' vt' (es.set i (kv, p)) bs c) hm trivial (fun _ => trivial) (BW w (E.blk r) (.map (A.modify i fun e => { e with key := kv, val := v }) c) o2) (fun j hj => by simp only; rw [PH (Ne.symm hj)]) (fun hle => by
     obtain ⟨h1, h2, h3, h0, h4, h5⟩ := o5
     refine ⟨o1, o2, o3, _, by simp only; rw [XL hlt], by simpa using h1, by simpa using h2, h3, ?_, h4, fun j m' hm' => ?_⟩
     ·have hlt2 := lt_of_getElem? hi
      rw [Bh hlt2] at hi
      simp only [Option.some.injEq] at hi
      rw [U7]
      have : (es.map Prod.fst).set i kv = es.map Prod.fst := by
       apply PJ 
       intro j
       by_cases hij : i = j
       ·subst hij
        rw [I7 (by simpa using hlt2)]
        simp [Bh hlt2, hi]
       ·rw [Kt hij]
      rw [this]; exact h0
     ·rw [bL] at hm'
      by_cases hij : i = j
      ·subst hij
       rw [if_pos rfl, q1] at hm'
       simp only [Option.map_some, Option.some.injEq] at hm'
       subst hm'
       refine ⟨(h5 i m q1).1, p, ?_, hv.le hle⟩
       rw [I7 (lt_of_getElem? hi)]
      ·rw [if_neg hij] at hm'
       obtain ⟨b1, p', b2, b3⟩ := h5 j m' hm'
       exact ⟨b1, p', by rw [Kt hij]; exact b2, b3.le hle⟩)
    exact ⟨hp.2, hp.1⟩
 ·rw [o5.not hn] at hfk
  refine ⟨{ w with heap := w.heap.setIfInBounds (E.blk r) (.map (A.push { key := kv, val := v, born := c }) (c + 1)) }, ?_, ?_⟩
  · simp only [Instr.mapUpdate, Sem.run_bind, run_underlying mt, MapKept.run_getObj_map o4, Result.andThen_ok, hck, hfk]
    exact MapKept.run_setObj_map _ o4
  · have hp := hw.poke r _ (.map k kt' vt' (es ++ [(kv, p)]) (bs ++ [c]) (c + 1)) hm trivial (fun _ => trivial) (BW w (E.blk r) (.map (A.push { key := kv, val := v, born := c }) (c + 1)) o2) (fun j hj => by simp only; rw [PH (Ne.symm hj)]) (fun hle => by
     obtain ⟨h1, h2, h3, h0, h4, h5⟩ := o5
     refine ⟨o1, o2, o3, _, by simp only; rw [XL hlt], by simp [h1], by simp [h2], ?_, ?_, fun b hb => ?_, fun j m' hm' => ?_⟩
     ·rw [WO]
      refine ⟨h3, by simp, fun a ha b hb q => ?_⟩
      simp at hb
      subst hb
      have := h4 a ha
      omega
     ·rw [Ah', WO]
      refine ⟨h0, by simp, fun a ha b hb q => ?_⟩
      simp at hb
      obtain ⟨e, he, rfl⟩ := List.mem_map.1 ha
      exact hn e he (q.trans hb)
     ·rcases Ej.1 hb with hb | hb
      ·have := h4 b hb; omega
      ·simp at hb; omega
     ·rw [Array.getElem?_push] at hm'
      split at hm'
      ·rename_i hj
       simp only [Option.some.injEq] at hm'
       subst hm'
       exact ⟨by rw [hj, LB (by omega)]; simp [h1, h2], p, by rw [hj, LB (by omega)]; simp [h1], hv.le hle⟩
      ·obtain ⟨b1, p', b2, b3⟩ := h5 j m' hm'
       exact ⟨by rw [Ku (lt_of_getElem? b1)]; exact b1, p', by rw [Ku (lt_of_getElem? b2)]; exact b2, b3.le hle⟩)
    exact ⟨hp.2, hp.1⟩
theorem On [mt : MapTy P t kt vt] [ko : KeyOk P kt G] {z : Operand} {u : SVal} (hn : ∀ e ∈ es, e.1 ≠ kv) (hg : G kv) (hG : ∀ e ∈ es, G e.1)
  (h : Reg P F0 w0 dr ops K rest ⟨n, sl, mem', ck, df⟩ (2 :: acc)) (hw : GW ops g sl := by first | exact trivial | exact rfl) (hx : AH sl x = .c (.mp r k) := by exact rfl) (hm : mem[r]? = some (.map k kt' vt' es bs c) := by exact rfl) (hy : AH sl y = s := by exact rfl) (hk : BM s = some kv := by exact rfl) (hz : AH sl z = u := by exact rfl) (hu : SD u p := by first | exact (show SD (.c _) (.one _) from rfl) | exact (show SD (.agg _) (.agg _) from rfl)) (hm' : mem.set r (.map k kt' vt' (es ++ [(kv, p)]) (bs ++ [c]) (c + 1)) = mem' := by repeat' (first | exact AT rfl | apply Az rfl)) :
  Reg P F0 w0 dr ops K (⟨none, .mapUpdate t x y z, ty, pos, aft, g⟩ :: rest) ⟨n, sl, mem, ck, df⟩ acc := by
 subst hm'
 refine G6 (df' := []) hw (Iy fun E w ρ hw' hρ => ?_) h
 have e1 := hρ x (by simp [Op.operands])
 have e2 := hρ y (by simp [Op.operands])
 have e3 := hρ z (by simp [Op.operands])
 rw [hx] at e1; rw [hy] at e2; rw [hz] at e3
 have e1 := e1.mp_inv (hw'.mem.ok r _ hm).1
 have e2 := AZ e2 hk
 obtain ⟨w', q1, q2, q3⟩ := (I1 mt.out hw' hm hG hg (hu.prep e3)).2 hn
 exact ⟨w', E, by simp [execOp, e1, e2, q1], q2, q3⟩
theorem UL [mt : MapTy P t kt vt] [ko : KeyOk P kt G] {z : Operand} {es' : List (Value × PV)} {u : SVal} {p0 : PV} (hi : es[i]? = some (kv, p0)) (hg : G kv) (hG : ∀ e ∈ es, G e.1)
  (h : Reg P F0 w0 dr ops K rest ⟨n, sl, mem', ck, df⟩ (2 :: acc)) (hes : es.set i (kv, p) = es' := by exact rfl) (hw : GW ops g sl := by first | exact trivial | exact rfl) (hx : AH sl x = .c (.mp r k) := by exact rfl) (hm : mem[r]? = some (.map k kt' vt' es bs c) := by exact rfl) (hy : AH sl y = s := by exact rfl) (hk : BM s = some kv := by exact rfl) (hz : AH sl z = u := by exact rfl) (hu : SD u p := by first | exact (show SD (.c _) (.one _) from rfl) | exact (show SD (.agg _) (.agg _) from rfl)) (hm' : mem.set r (.map k kt' vt' es' bs c) = mem' := by repeat' (first | exact AT rfl | apply Az rfl)) :
  Reg P F0 w0 dr ops K (⟨none, .mapUpdate t x y z, ty, pos, aft, g⟩ :: rest) ⟨n, sl, mem, ck, df⟩ acc := by
 subst hm'; subst hes
 refine G6 (df' := []) hw (Iy fun E w ρ hw' hρ => ?_) h
 have e1 := hρ x (by simp [Op.operands])
 have e2 := hρ y (by simp [Op.operands])
 have e3 := hρ z (by simp [Op.operands])
 rw [hx] at e1; rw [hy] at e2; rw [hz] at e3
 have e1 := e1.mp_inv (hw'.mem.ok r _ hm).1
 have e2 := AZ e2 hk
 obtain ⟨w', q1, q2, q3⟩ := (I1 mt.out hw' hm hG hg (hu.prep e3)).1 i p0 hi
 exact ⟨w', E, by simp [execOp, e1, e2, q1], q2, q3⟩
theorem QD [mt : MapTy P t kt vt] 
  (h : Reg P F0 w0 dr ops K rest ⟨n, (d, .c (.it r' (ck + 1))) :: sl, mem', ck + 1, df⟩ (2 :: acc)) (hw : GW ops g sl := by first | exact trivial | exact rfl) (hx : AH sl x = .c (.mp r k) := by exact rfl) (hm : mem[r]? = some (.map k kt' vt' es bs c) := by exact rfl) (hr : mem.length = r' := by first | exact (rfl : _ = 0) | exact (rfl : _ = 1) | exact (rfl : _ = 2) | exact (rfl : _ = 3) | exact (rfl : _ = 4) | exact (rfl : _ = 5) | exact (rfl : _ = 6) | exact (rfl : _ = 7) | exact (rfl : _ = 8)) (hm' : mem ++ [Blk.iter (ck + 1) r k c []] = mem' := by repeat' (first | exact AT rfl | apply Az rfl)) :
  Reg P F0 w0 dr ops K (⟨some d, .range t x, ty, pos, aft, g⟩ :: rest) ⟨n, sl, mem, ck, df⟩ acc := by
 subst hr; subst hm'
 refine Sj (df' := []) hw (Bx fun E w ρ hw' hρ => ?_) h
 have e1 := hρ x (by simp [Op.operands])
 rw [hx] at e1
 obtain ⟨o1, o2, o3, A, o4, o5⟩ := hw'.mem.ok r _ hm
 have e1 := e1.mp_inv o1
 have hne : r ≠ mem.length := by have := lt_of_getElem? hm; omega
 have hal := hw'.allocObj (.mapIter (some (E.blk r)) c #[] c) (.iter (ck + 1) r k c []) (fun _ => ⟨by simp [Env.upd], by simp [Env.upd]; exact hw'.le0, by simp only [Env.upd, if_true]; exact hw'.fresh.1, E.blk r, by simp only [Env.upd, if_true]; exact U2 w _, by simp only [Env.upd, if_neg hne]; omega, fun _ => by simp [Env.upd, hne]⟩)
 refine ⟨.pointer (some ⟨w.heap.size, 0, none⟩), _, _, ?_, hal.2, hal.1, .c (.it _ _ _ rfl (by simp [Env.upd]) (fun _ => by simp [Env.upd]))⟩
 have := run_range_map (P := P) w t kt vt (E.blk r) A c mt.out o4
 simp [execOp, e1, this]
theorem Oo {E : Env} {w : World} (h : MapOk E w es bs c A) : A.toList.map (·.born) = bs := by
 obtain ⟨h1, h2, h3, h0, h4, h5⟩ := h
 apply PJ
 intro i
 rw [B2, I9]
 cases hm : A[i]? with
 | none =>
   have : A.size ≤ i := by simpa using hm
   rw [UZ (by omega)]
   rfl
 | some m => rw [(h5 i m hm).1]; rfl
theorem YU {k' : Nat} {sb : List Nat}
  (h1 : (∀ b ∈ bs, b ∈ sb) → Reg P F0 w0 false ops K rest ⟨n, (d, .tup [.c (.d (.lit (.bool false)))]) :: sl, mem, ck, df⟩ (2 :: acc))
  (h2 : ∀ (i : Nat) b kv p, bs[i]? = some b → b ∉ sb → es[i]? = some (kv, p) → Reg P F0 w0 false ops K rest ⟨n, (d, .tup [.c (.d (.lit (.bool true))), .junk, .junk]) :: sl, mem.set r (.iter k r' k' c (sb ++ [b])), ck, df⟩ (2 :: acc))
  (hw : GW ops g sl := by first | exact trivial | exact rfl) (hx : AH sl x = .c (.it r k) := by exact rfl) (hm : mem[r]? = some (.iter k r' k' c sb) := by exact rfl) (hm2 : mem[r']? = some (.map k' kt vt es bs c) := by exact rfl) :
  Reg P F0 w0 false ops K (⟨some d, .next x false, ty, pos, aft, g⟩ :: rest) ⟨n, sl, mem, ck, df⟩ acc := by
 refine VR (R := fun v m c1 df' => (((∀ b ∈ bs, b ∈ sb) ∧ v = .tup [.c (.d (.lit (.bool false)))] ∧ m = mem ∧ c1 = ck) ∨ ∃ (i : Nat) (b : Nat) (kv : Value) (p : PV), bs[i]? = some b ∧ b ∉ sb ∧ es[i]? = some (kv, p) ∧ v = .tup [.c (.d (.lit (.bool true))), .junk, .junk] ∧ m = mem.set r (.iter k r' k' c (sb ++ [b])) ∧ c1 = ck) ∧ df' = []) rfl hw (QB fun E w ρ hw' hρ => ?_) ?_
 ·have e1 := hρ x (by simp [Op.operands])
  rw [hx] at e1
  obtain ⟨o1, o2, o3, b0, o4, o5, o6⟩ := hw'.mem.ok r _ hm
  obtain ⟨p1, p2, p3, A, p4, p5⟩ := hw'.mem.ok r' _ hm2
  have e1 := e1.it_inv o1
  have hb0 := o6 p1
  subst hb0
  have hlt : E.blk r < w.heap.size := (Mv.1 o4).1
  have hborn := Oo p5
  have hold : ∀ x ∈ A.toList, x.born < c := fun x hx => p5.2.2.2.2.1 _ (by rw [← hborn]; exact List.mem_map.2 ⟨x, hx, rfl⟩)
  rcases run_next_at (P := P) w ty (E.blk r) (E.blk r') c c sb.toArray A c o4 p4 hold (Nat.le_refl _) with ⟨q1, q2⟩ | ⟨e, he, w1, hw1, q2⟩
  · refine ⟨.tuple #[.bool false], w, E, _, _, _, by simp [execOp, e1, q2], EnvLe.refl _ _, hw', .tup [.c (.d (.lit (.bool false)))] [.bool false] rfl (fun i u y hu hy => ?_), .inl ⟨fun b hb => ?_, rfl, rfl, rfl⟩⟩
    · match i with
      | 0 => simp at hu hy; subst hu; subst hy; exact .c (.d (.lit _ rfl))
      | i + 1 => simp at hu
    · rw [← hborn] at hb
      obtain ⟨m, hmm, rfl⟩ := List.mem_map.1 hb
      have hl : leftOf A sb.toArray = #[] := Array.eq_empty_of_size_eq_zero q1
      unfold leftOf at hl
      rw [Array.filter_eq_empty_iff] at hl
      have := hl m (by simpa using hmm)
      simpa using this
  · have hem : e ∈ A.toList ∧ e.born ∉ sb := by
      unfold leftOf at he
      simpa using he
    obtain ⟨i, hi⟩ := LC.1 hem.1
    have hAi : A[i]? = some e := by rw [← I9]; exact hi
    obtain ⟨b1, p, b2, b3⟩ := p5.2.2.2.2.2 i e hAi
    have hheap : w1.heap = w.heap := by rcases hw1 with rfl | rfl <;> rfl
    have hbel : Bel w0.heap.size w w1 := by rcases hw1 with rfl | rfl; exact Bel.refl _ _; exact (Bel.refl _ _).drew
    have hp := hw'.poke (w' := Go.ChangeMaps.setBlock w1 (E.blk r) (.mapIter (some (E.blk r')) c (sb.toArray.push e.born) c)) r _ (.iter k r' k' c (sb ++ [e.born])) hm trivial (fun _ => trivial)
      (hbel.trans (BW w1 (E.blk r) _ o2)) (fun j hj => by simp only [Go.ChangeMaps.setBlock]; rw [PH (Ne.symm hj), hheap]) (fun hle => by
        refine ⟨o1, o2, o3, E.blk r', ?_, o5, fun _ => rfl⟩
        simp only [Go.ChangeMaps.setBlock]
        rw [XL (by rw [hheap]; exact hlt)]
        simp)
    refine ⟨.tuple #[.bool true, e.key, e.val], _, E, _, _, _, by simp [execOp, e1, q2], hp.2, hp.1, .tup [.c (.d (.lit (.bool true))), .junk, .junk] [.bool true, e.key, e.val] rfl (fun i u y hu hy => ?_), .inr ⟨i, e.born, e.key, p, b1, hem.2, b2, rfl, rfl, rfl⟩⟩
    match i with
    | 0 => simp at hu hy; subst hu; subst hy; exact .c (.d (.lit _ rfl))
    | 1 => simp at hu hy; subst hu; subst hy; exact .junk _
    | 2 => simp at hu hy; subst hu; subst hy; exact .junk _
    | i + 3 => simp at hu
 ·rintro v m c1 df' ⟨⟨q1, rfl, rfl, rfl⟩ | ⟨i, b, kv, p, q1, q2, q3, rfl, rfl, rfl⟩, rfl⟩
  · exact h1 q1
  · exact h2 i b kv p q1 q2 q3
theorem Wx {k' b : Nat} {sb : List Nat} {ks v : SVal} (hb : bs[i]? = some b) (he : es[i]? = some (kv, p)) (hks : ∀ E w, SRep E w kv ks)
   (h : Reg P F0 w0 dr ops K rest ⟨n, (d, .tup [ks, v]) :: sl, mem, ck, df⟩ (1 :: acc))
   (hw : GW ops g sl := by first | exact trivial | exact rfl) (hx : AH sl x = .c (.it r k) := by exact rfl) (hm : mem[r]? = some (.iter k r' k' c (sb ++ [b])) := by exact rfl) (hm2 : mem[r']? = some (.map k' kt vt es bs c) := by exact rfl) (hv : p.s = v := by exact rfl) :
   Reg P F0 w0 dr ops K (⟨some d, .entry x, ty, pos, aft, g⟩ :: rest) ⟨n, sl, mem, ck, df⟩ acc := by
 subst hv
 refine cj hw hm hm2 (fun mem ck hm hm2 => Bx fun E w ρ hw' hρ => ?_) h
 have e1 := hρ x (by simp [Op.operands])
 rw [hx] at e1
 obtain ⟨o1, o2, o3, b0, o4, o5, o6⟩ := hw'.mem.ok r _ hm
 obtain ⟨p1, p2, p3, A, p4, p5⟩ := hw'.mem.ok r' _ hm2
 have e1 := e1.it_inv o1
 have hb0 := o6 p1
 subst hb0
 have hborn := Oo p5
 obtain ⟨m, q1, q2, q3, q4⟩ := p5.look he
 have hmb := (p5.2.2.2.2.2 i m q1).1
 rw [hb] at hmb
 simp only [Option.some.injEq] at hmb
 subst hmb
 have hr := run_entry_at (P := P) w (E.blk r) (E.blk r') c sb.toArray A c m (by rw [o4]; simp) p4 (Cl (by rw [I9]; exact q1)) (by rw [hborn]; exact p5.2.2.1)
 refine ⟨.tuple #[m.key, m.val], w, E, by simp [execOp, e1, hr], EnvLe.refl _ _, hw', .tup _ [m.key, m.val] rfl (fun i u y hu hy => ?_)⟩
 match i with
 | 0 => simp at hu hy; subst hu; subst hy; rw [q2]; exact hks E w
 | 1 => simp at hu hy; subst hu; subst hy; exact q3.srep
 | i + 2 => simp at hu
end
end Go.Abs
end
