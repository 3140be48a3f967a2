/-
  The rules of the walk, once more: what the walk always gives in the same way is found by itself.
-/
import Derived.Test.YtmpgmjlanngkfaaGreatEnB
section
namespace Go.Abs
open Go.RowKit
variable {a z z' : Int} {ats : Array TypeId} {b eq want : Bool} {bts esz f j k m o off r : Nat} {c x y : Operand} {cs cs' cs1 : List Cell} {de : TD} {dg : Tmp} {dst : Option Tmp} {e ety ft s t t' : TypeId} {ei i : TI} {es es' : List (List Dat)} {fs : List (Nat × TypeId)} {hi lo : Option Operand} {kk : IntKind} {l : List (Nat × SVal)} {mem' : List Blk} {u v : SVal} {ze : List Value}
class TC (P : Program) (T : outParam (TypeId → Option TI)) : Prop where
 ok : AE P T
 mix : P.follows .mixedOrders = true
class BN (b v : Bool) (p : outParam Prop) : Prop where
 out : b = v → p
instance (priority := 10) bn_any (b v : Bool) : BN b v (b = v) := ⟨id⟩
instance bn_dec_t {p : Prop} [Decidable p] : BN (decide p) true p := ⟨of_decide_eq_true⟩
instance (priority := 900) bn_dec_f {p : Prop} [Decidable p] : BN (decide p) false (¬ p) := ⟨of_decide_eq_false⟩
instance bn_lt_f {a b : Int} : BN (decide (a < b)) false (b ≤ a) := ⟨fun h => PM.1 (of_decide_eq_false h)⟩
instance bn_le_f {a b : Int} : BN (decide (a ≤ b)) false (b < a) := ⟨fun h => QO.1 (of_decide_eq_false h)⟩
instance bn_eq_t {a b : Int} : BN (a == b) true (a = b) := ⟨fun h => by simpa using h⟩
instance bn_eq_f {a b : Int} : BN (a == b) false (¬ a = b) := ⟨fun h => by simpa using h⟩
instance bn_ne_t {a b : Int} : BN (a != b) true (¬ a = b) := ⟨fun h => by simpa using h⟩
instance bn_ne_f {a b : Int} : BN (a != b) false (a = b) := ⟨fun h => by simpa using h⟩
instance bn_not_t {b : Bool} {p : Prop} [h : BN b false p] : BN (!b) true p := ⟨fun q => h.out (by simpa using q)⟩
instance bn_not_f {b : Bool} {p : Prop} [h : BN b true p] : BN (!b) false p := ⟨fun q => h.out (by simpa using q)⟩
theorem G7 {α : Type} {f : α → List Dat} {l : List α} : (l.map f).take l.length = l.map f := Mq (by simp)
section
variable {P : Program} {T : TypeId → Option TI} {F0 : Nat → Prop} {w0 : World} {dr : Bool} {ops rest : List Oper} {K : St → Prop} {n : Nat} {sl : List (Nat × SVal)} {mem : List Blk} {ck : Nat} {df : List (FuncId × List Cell)} {acc : List Nat}
variable {d : Tmp} {op : Op} {ty : TypeId} {pos : String} {aft : Array Edge} {g : Option (Nat × Bool)}
theorem Qh (h : Reg P F0 w0 dr ops K rest ⟨n, (d, .und) :: sl, mem, ck, df⟩ (0 :: acc)) (hj : (ops[j]?).bind (·.dst) = some dg := by exact rfl) (hb : look sl dg = C6 !want := by exact rfl) :
  Reg P F0 w0 dr ops K (⟨some d, op, ty, pos, aft, some (j, want)⟩ :: rest) ⟨n, sl, mem, ck, df⟩ acc :=
 VS hj hb h
theorem Qi (h : Reg P F0 w0 dr ops K rest ⟨n, (d, .und) :: sl, mem, ck, df⟩ (0 :: acc)) (hj : (ops[j]?).bind (·.dst) = some dg := by exact rfl) (hb : look sl dg = .und := by exact rfl) :
  Reg P F0 w0 dr ops K (⟨some d, op, ty, pos, aft, some (j, want)⟩ :: rest) ⟨n, sl, mem, ck, df⟩ acc :=
 VT hj hb h
theorem TA [tc : TC P T] (h : Reg P F0 w0 dr ops K rest ⟨n, (d, v) :: sl, mem, ck, df⟩ (0 :: acc)) (hw : GW ops g sl := by first | exact trivial | exact rfl) (hx : AH sl x = v := by first | exact (rfl : _ = SVal.c _) | exact (rfl : _ = SVal.agg _) | exact (rfl : _ = SVal.tup _) | exact (rfl : _ = SVal.und) | exact rfl) :
  Reg P F0 w0 dr ops K (⟨some d, .move x, ty, pos, aft, g⟩ :: rest) ⟨n, sl, mem, ck, df⟩ acc :=
 FD hw (fun m c => Does.of tc.ok fun τ he hm hc Kk hK => by
  subst hm; subst hc
  have ex := he x (by simp [Op.operands])
  rw [hx] at ex
  simp only [AQ, ex]
  exact hK _ _ _ _ ⟨rfl, rfl, rfl, rfl⟩) h
theorem NC [tc : TC P T] (h : Reg P F0 w0 dr ops K rest ⟨n, (d, v) :: sl, mem, ck, df⟩ (0 :: acc)) (hw : GW ops g sl := by first | exact trivial | exact rfl) (hx : AH sl x = v := by first | exact (rfl : _ = SVal.c _) | exact (rfl : _ = SVal.agg _) | exact (rfl : _ = SVal.tup _) | exact (rfl : _ = SVal.und) | exact rfl) :
  Reg P F0 w0 dr ops K (⟨some d, .assign x, ty, pos, aft, g⟩ :: rest) ⟨n, sl, mem, ck, df⟩ acc :=
 FD hw (fun m c => Does.of tc.ok fun τ he hm hc Kk hK => by
  subst hm; subst hc
  have ex := he x (by simp [Op.operands])
  rw [hx] at ex
  simp only [AQ, ex]
  exact hK _ _ _ _ ⟨rfl, rfl, rfl, rfl⟩) h
theorem Qj [tc : TC P T] (h : Reg P F0 w0 dr ops K rest ⟨n, (d, .c (.bp r (ck + 1) 0)) :: sl, mem', ck + 1, df⟩ (3 :: acc)) (hw : GW ops g sl := by first | exact trivial | exact rfl) (ht : T t = some i := by exact rfl) (hr : mem.length = r := by first | exact (rfl : _ = 0) | exact (rfl : _ = 1) | exact (rfl : _ = 2) | exact (rfl : _ = 3) | exact (rfl : _ = 4) | exact (rfl : _ = 5) | exact (rfl : _ = 6) | exact (rfl : _ = 7) | exact (rfl : _ = 8) | exact (rfl : _ = 9) | exact (rfl : _ = 10) | exact (rfl : _ = 11) | exact (rfl : _ = 12) | exact (rfl : _ = 13) | exact (rfl : _ = 14) | exact (rfl : _ = 15)) (hcs : i.zero.map By = cs := by repeat' (first | exact AT rfl | apply Az rfl)) (hm' : mem ++ [Blk.box (ck + 1) cs] = mem' := by repeat' (first | exact AT rfl | apply Az rfl)) : Reg P F0 w0 dr ops K (⟨some d, .alloc t, ty, pos, aft, g⟩ :: rest) ⟨n, sl, mem, ck, df⟩ acc :=  by
  subst hr; subst hcs; subst hm'
  exact cL hw (Does.of tc.ok fun τ he hm hc Kk hK => by
    subst hm; subst hc
    simp only [AQ, ht]
    exact hK _ _ _ _ ⟨rfl, rfl, rfl, rfl⟩) h
theorem ND [tc : TC P T] {e : List Dat} {y : Dat}  (h : Reg P F0 w0 dr ops K rest ⟨n, (d, .c (.d y)) :: sl, mem, ck, df⟩ (0 :: acc)) (hw : GW ops g sl := by first | exact trivial | exact rfl) (hx : AH sl x = .c (.fp e o) := by exact rfl) (ht : T t = some i := by exact rfl) (ha : i.desc.agg = false := by exact rfl) (hs : i.size = 1 := by exact rfl) (hy : e[o]? = some y := by exact rfl) : Reg P F0 w0 dr ops K (⟨some d, .load t x, ty, pos, aft, g⟩ :: rest) ⟨n, sl, mem, ck, df⟩ acc :=
 FD hw (fun m c => Does.of tc.ok fun τ he hm hc Kk hK => by
  subst hm; subst hc
  have ex := he x (by simp [Op.operands])
  rw [hx] at ex
  have hlt := lt_of_getElem? hy
  have e1 : (e.drop o).take 1 = [y] := by
    rw [ZL hlt]
    rw [Bh hlt] at hy
    simp at hy
    simp [hy]
  simp only [AQ, DH, ht, ex, ha, hs]
  refine ⟨.inr trivial, hlt, ?_⟩
  rw [e1]
  exact hK _ _ _ _ ⟨rfl, rfl, rfl, rfl⟩) h
theorem NF [tc : TC P T] {e : List Dat} (h : Reg P F0 w0 dr ops K rest ⟨n, (d, .agg cs) :: sl, mem, ck, df⟩ (0 :: acc)) (hw : GW ops g sl := by first | exact trivial | exact rfl) (hx : AH sl x = .c (.fp e o) := by exact rfl) (ht : T t = some i := by exact rfl) (ha : i.desc.agg = true := by exact rfl) (hs : decide (o + i.size ≤ e.length) = true := by exact rfl) (hcs : ((e.drop o).take i.size).map Cell.d = cs := by repeat' (first | exact AT rfl | apply Az rfl)) : Reg P F0 w0 dr ops K (⟨some d, .load t x, ty, pos, aft, g⟩ :: rest) ⟨n, sl, mem, ck, df⟩ acc :=
 FD hw (fun m c => Does.of tc.ok fun τ he hm hc Kk hK => by
  subst hm; subst hc; subst hcs
  have ex := he x (by simp [Op.operands])
  rw [hx] at ex
  simp only [AQ, DH, ht, ex, ha]
  refine ⟨.inl trivial, by simpa using hs, ?_⟩
  exact hK _ _ _ _ ⟨rfl, rfl, rfl, rfl⟩) h
theorem NG [tc : TC P T] {y : Cell}  (h : Reg P F0 w0 dr ops K rest ⟨n, (d, .c y) :: sl, mem, ck, df⟩ (1 :: acc)) (hw : GW ops g sl := by first | exact trivial | exact rfl) (hx : AH sl x = .c (.bp r k o) := by exact rfl) (ht : T t = some i := by exact rfl) (ha : i.desc.agg = false := by exact rfl) (hs : i.size = 1 := by exact rfl) (hm : mem[r]? = some (.box k cs) := by exact rfl) (hy : cs[o]? = some y := by exact rfl) : Reg P F0 w0 dr ops K (⟨some d, .load t x, ty, pos, aft, g⟩ :: rest) ⟨n, sl, mem, ck, df⟩ acc :=
 CU hw hm (fun mem ck hm => Does.of tc.ok fun τ he hmm hc Kk hK => by
  subst hmm; subst hc
  have ex := he x (by simp [Op.operands])
  rw [hx] at ex
  have hlt := lt_of_getElem? hy
  have e1 : (cs.drop o).take 1 = [y] := by
    rw [ZL hlt]
    rw [Bh hlt] at hy
    simp at hy
    simp [hy]
  simp only [AQ, DH, ht, ex, ha, hs, hm]
  refine ⟨.inr trivial, trivial, hlt, ?_⟩
  rw [e1]
  exact hK _ _ _ _ ⟨rfl, rfl, rfl, rfl⟩) h
theorem NH [tc : TC P T] (h : Reg P F0 w0 dr ops K rest ⟨n, (d, .agg cs') :: sl, mem, ck, df⟩ (1 :: acc)) (hw : GW ops g sl := by first | exact trivial | exact rfl) (hx : AH sl x = .c (.bp r k o) := by exact rfl) (ht : T t = some i := by exact rfl) (ha : i.desc.agg = true := by exact rfl) (hm : mem[r]? = some (.box k cs) := by exact rfl) (hs : decide (o + i.size ≤ cs.length) = true := by exact rfl) (hcs : (cs.drop o).take i.size = cs' := by repeat' (first | exact AT rfl | apply Az rfl)) : Reg P F0 w0 dr ops K (⟨some d, .load t x, ty, pos, aft, g⟩ :: rest) ⟨n, sl, mem, ck, df⟩ acc :=
 CU hw hm (fun mem ck hm => Does.of tc.ok fun τ he hmm hc Kk hK => by
  subst hmm; subst hc; subst hcs
  have ex := he x (by simp [Op.operands])
  rw [hx] at ex
  simp only [AQ, DH, ht, ex, ha, hm]
  refine ⟨.inl trivial, trivial, by simpa using hs, ?_⟩
  exact hK _ _ _ _ ⟨rfl, rfl, rfl, rfl⟩) h
theorem NI [tc : TC P T] {e : List Dat} {y : Dat}  (h : Reg P F0 w0 dr ops K rest ⟨n, (d, .c (.d y)) :: sl, mem, ck, df⟩ (1 :: acc)) (hw : GW ops g sl := by first | exact trivial | exact rfl) (hx : AH sl x = .c (.ap r k esz j o) := by exact rfl) (ht : T t = some i := by exact rfl) (ha : i.desc.agg = false := by exact rfl) (hs : i.size = 1 := by exact rfl) (hm : mem[r]? = some (.arr k ety esz es) := by exact rfl) (he' : es[j]? = some e) (hy : e[o]? = some y := by exact rfl) : Reg P F0 w0 dr ops K (⟨some d, .load t x, ty, pos, aft, g⟩ :: rest) ⟨n, sl, mem, ck, df⟩ acc :=
 CU hw hm (fun mem ck hm => Does.of tc.ok fun τ he hmm hc Kk hK => by
  subst hmm; subst hc
  have ex := he x (by simp [Op.operands])
  rw [hx] at ex
  have hlt := lt_of_getElem? hy
  have e1 : (e.drop o).take 1 = [y] := by
    rw [ZL hlt]
    rw [Bh hlt] at hy
    simp at hy
    simp [hy]
  simp only [AQ, DH, ht, ex, ha, hs, hm]
  refine ⟨.inr trivial, trivial, trivial, C7 he' ⟨hlt, ?_⟩⟩
  rw [e1]
  exact hK _ _ _ _ ⟨rfl, rfl, rfl, rfl⟩) h
theorem NJ [tc : TC P T] {e : List Dat} (h : Reg P F0 w0 dr ops K rest ⟨n, (d, .agg cs) :: sl, mem, ck, df⟩ (1 :: acc)) (hw : GW ops g sl := by first | exact trivial | exact rfl) (hx : AH sl x = .c (.ap r k esz j o) := by exact rfl) (ht : T t = some i := by exact rfl) (ha : i.desc.agg = true := by exact rfl) (hm : mem[r]? = some (.arr k ety esz es) := by exact rfl) (he' : es[j]? = some e) (hs : decide (o + i.size ≤ e.length) = true := by exact rfl) (hcs : ((e.drop o).take i.size).map Cell.d = cs := by repeat' (first | exact AT rfl | apply Az rfl)) : Reg P F0 w0 dr ops K (⟨some d, .load t x, ty, pos, aft, g⟩ :: rest) ⟨n, sl, mem, ck, df⟩ acc :=
 CU hw hm (fun mem ck hm => Does.of tc.ok fun τ he hmm hc Kk hK => by
  subst hmm; subst hc; subst hcs
  have ex := he x (by simp [Op.operands])
  rw [hx] at ex
  simp only [AQ, DH, ht, ex, ha, hm]
  refine ⟨.inl trivial, trivial, trivial, C7 he' ⟨by simpa using hs, ?_⟩⟩
  exact hK _ _ _ _ ⟨rfl, rfl, rfl, rfl⟩) h
theorem DR [tc : TC P T] {cs0 : List Cell} (h : Reg P F0 w0 dr ops K rest ⟨n, sl, mem', ck, df⟩ (2 :: acc)) (hw : GW ops g sl := by first | exact trivial | exact rfl) (hx : AH sl x = .c (.bp r k o) := by exact rfl) (hy : AH sl y = v := by first | exact (rfl : _ = SVal.c _) | exact (rfl : _ = SVal.agg _) | exact (rfl : _ = SVal.tup _) | exact (rfl : _ = SVal.und) | exact rfl) (hc : v.cells = some cs := by exact rfl) (ht : T t = some i := by exact rfl) (hl : cs.length = i.size := by exact rfl) (hm : mem[r]? = some (.box k cs0) := by exact rfl) (hs : decide (o + i.size ≤ cs0.length) = true := by exact rfl) (hcs : cs0.take o ++ cs ++ cs0.drop (o + i.size) = cs' := by repeat' (first | exact AT rfl | apply Az rfl)) (hm' : mem.set r (.box k cs') = mem' := by repeat' (first | exact AT rfl | apply Az rfl)) : Reg P F0 w0 dr ops K (⟨none, .store t x y, ty, pos, aft, g⟩ :: rest) ⟨n, sl, mem, ck, df⟩ acc :=
 G6 (df' := []) (v := .junk) hw (Does.of tc.ok fun τ he hmm hck Kk hK => by
  subst hmm; subst hck; subst hcs; subst hm'
  have ex := he x (by simp [Op.operands])
  have ey := he y (by simp [Op.operands])
  rw [hx] at ex
  rw [hy] at ey
  simp only [AQ, EP, ht, ex, ey, hc, hm]
  exact ⟨hl, trivial, by simpa using hs, hK _ _ _ _ ⟨rfl, rfl, rfl, rfl⟩⟩) h
theorem NK [tc : TC P T] {e e' : List Dat} {ds : List Dat} (h : Reg P F0 w0 dr ops K rest ⟨n, sl, mem', ck, df⟩ (2 :: acc)) (hw : GW ops g sl := by first | exact trivial | exact rfl) (hx : AH sl x = .c (.ap r k esz j o) := by exact rfl) (hy : AH sl y = v := by first | exact (rfl : _ = SVal.c _) | exact (rfl : _ = SVal.agg _) | exact (rfl : _ = SVal.tup _) | exact (rfl : _ = SVal.und) | exact rfl) (hc : v.cells = some cs := by exact rfl) (hds : DG cs = some ds := by exact rfl) (ht : T t = some i := by exact rfl) (hl : cs.length = i.size := by exact rfl) (hm : mem[r]? = some (.arr k ety esz es) := by exact rfl) (hs : decide (o + i.size ≤ esz) = true := by exact rfl) (hj : es[j]? = some e) (he' : e.take o ++ ds ++ e.drop (o + i.size) = e' := by exact rfl) (hes : es.set j e' = es' := by exact rfl) (hm' : mem.set r (.arr k ety esz es') = mem' := by repeat' (first | exact AT rfl | apply Az rfl)) : Reg P F0 w0 dr ops K (⟨none, .store t x y, ty, pos, aft, g⟩ :: rest) ⟨n, sl, mem, ck, df⟩ acc :=
 G6 (df' := []) (v := .junk) hw (Does.of tc.ok fun τ he hmm hck Kk hK => by
  subst hmm; subst hck; subst he'; subst hes; subst hm'
  have ex := he x (by simp [Op.operands])
  have ey := he y (by simp [Op.operands])
  rw [hx] at ex
  rw [hy] at ey
  simp only [AQ, EP, ht, ex, ey, hc, hm, hds]
  exact ⟨hl, trivial, trivial, by simpa using hs, C7 hj (hK _ _ _ _ ⟨rfl, rfl, rfl, rfl⟩)⟩) h
theorem NL [tc : TC P T] {j : TI} {e : List Dat} (h : Reg P F0 w0 dr ops K rest ⟨n, (d, .c (.fp e (o + off))) :: sl, mem, ck, df⟩ (0 :: acc)) (hw : GW ops g sl := by first | exact trivial | exact rfl) (hx : AH sl x = .c (.fp e o) := by exact rfl) (hs : T s = some i := by exact rfl) (hi : i.desc = .struct fs := by exact rfl) (hf : fs[f]? = some (off, ft) := by exact rfl) (hj : T ft = some j := by exact rfl) (hz : decide (j.size ≠ 0) = true := by exact rfl) : Reg P F0 w0 dr ops K (⟨some d, .fieldAddr s x f, ty, pos, aft, g⟩ :: rest) ⟨n, sl, mem, ck, df⟩ acc :=
 FD hw (fun m c => Does.of tc.ok fun τ he hm hc Kk hK => by
  subst hm; subst hc
  have ex := he x (by simp [Op.operands])
  rw [hx] at ex
  obtain ⟨a1, a2, a3, a4, a5⟩ := i
  simp only at hi
  subst hi
  simp only [AQ, Fq, hs, hf, hj, ex]
  exact ⟨by simpa using hz, hK _ _ _ _ ⟨rfl, rfl, rfl, rfl⟩⟩) h
theorem NM [tc : TC P T] {j : TI} (h : Reg P F0 w0 dr ops K rest ⟨n, (d, .c (.bp r k (o + off))) :: sl, mem, ck, df⟩ (1 :: acc)) (hw : GW ops g sl := by first | exact trivial | exact rfl) (hx : AH sl x = .c (.bp r k o) := by exact rfl) (hs : T s = some i := by exact rfl) (hi : i.desc = .struct fs := by exact rfl) (hf : fs[f]? = some (off, ft) := by exact rfl) (hj : T ft = some j := by exact rfl) (hz : decide (j.size ≠ 0) = true := by exact rfl) (hm : mem[r]? = some (.box k cs) := by exact rfl) : Reg P F0 w0 dr ops K (⟨some d, .fieldAddr s x f, ty, pos, aft, g⟩ :: rest) ⟨n, sl, mem, ck, df⟩ acc :=
 CU hw hm (fun mem ck hm => Does.of tc.ok fun τ he hmm hc Kk hK => by
  subst hmm; subst hc
  have ex := he x (by simp [Op.operands])
  rw [hx] at ex
  obtain ⟨a1, a2, a3, a4, a5⟩ := i
  simp only at hi
  subst hi
  simp only [AQ, Fq, hs, hf, hj, ex, CR, hm]
  exact ⟨by simpa using hz, trivial, hK _ _ _ _ ⟨rfl, rfl, rfl, rfl⟩⟩) h
theorem NO [tc : TC P T] {j : TI} {z : Nat} (h : Reg P F0 w0 dr ops K rest ⟨n, (d, .c (.ap r k esz z (o + off))) :: sl, mem, ck, df⟩ (1 :: acc)) (hw : GW ops g sl := by first | exact trivial | exact rfl) (hx : AH sl x = .c (.ap r k esz z o) := by exact rfl) (hs : T s = some i := by exact rfl) (hi : i.desc = .struct fs := by exact rfl) (hf : fs[f]? = some (off, ft) := by exact rfl) (hj : T ft = some j := by exact rfl) (hz : decide (j.size ≠ 0) = true := by exact rfl) (hm : mem[r]? = some (.arr k ety esz es) := by exact rfl) : Reg P F0 w0 dr ops K (⟨some d, .fieldAddr s x f, ty, pos, aft, g⟩ :: rest) ⟨n, sl, mem, ck, df⟩ acc :=
 CU hw hm (fun mem ck hm => Does.of tc.ok fun τ he hmm hc Kk hK => by
  subst hmm; subst hc
  have ex := he x (by simp [Op.operands])
  rw [hx] at ex
  obtain ⟨a1, a2, a3, a4, a5⟩ := i
  simp only at hi
  subst hi
  simp only [AQ, Fq, hs, hf, hj, ex, CR, hm]
  exact ⟨by simpa using hz, trivial, hK _ _ _ _ ⟨rfl, rfl, rfl, rfl⟩⟩) h
theorem JG [tc : TC P T] {el : List Dat}  (h : Reg P F0 w0 dr ops K rest ⟨n, (d, .c (.fp el 0)) :: sl, mem, ck, df⟩ (0 :: acc)) (hw : GW ops g sl := by first | exact trivial | exact rfl) (hx : AH sl x = .c (.d (.sl es)) := by exact rfl) (hy : AH sl y = .c (.d (.lit (.int kk z))) := by exact rfl) (ht : T t = some i := by exact rfl) (hi : i.desc = .slice e := by exact rfl) (he' : T e = some ei := by exact rfl) (hz : 0 ≤ z := by omega) (hel : es[z.toNat]? = some el) (hl : el.length = ei.size := by exact rfl) : Reg P F0 w0 dr ops K (⟨some d, .indexAddr t x y, ty, pos, aft, g⟩ :: rest) ⟨n, sl, mem, ck, df⟩ acc :=
 FD hw (fun m c => Does.of tc.ok fun τ he hm hc Kk hK => by
  subst hm; subst hc
  have ex := he x (by simp [Op.operands])
  have ey := he y (by simp [Op.operands])
  rw [hx] at ex
  rw [hy] at ey
  obtain ⟨a1, a2, a3, a4, a5⟩ := i
  simp only at hi
  subst hi
  simp only [AQ, Fs, ht, he', ex, ey]
  exact ⟨hz, C7 hel ⟨hl, hK _ _ _ _ ⟨rfl, rfl, rfl, rfl⟩⟩⟩) h
theorem NP [tc : TC P T] (h : Reg P F0 w0 dr ops K rest ⟨n, (d, .c (.ap r k esz j 0)) :: sl, mem, ck, df⟩ (1 :: acc)) (hw : GW ops g sl := by first | exact trivial | exact rfl) (hx : AH sl x = .c (.arr r k m) := by exact rfl) (hy : AH sl y = .c (.d (.lit (.int kk z))) := by exact rfl) (ht : T t = some i := by exact rfl) (hi : i.desc = .slice e := by exact rfl) (he' : T e = some ei := by exact rfl) (hm : mem[r]? = some (.arr k ety esz es) := by exact rfl) (hsz : esz = ei.size := by exact rfl) (hz : 0 ≤ z := by omega) (hzm : z < (m : Int) := by omega) (hml : m ≤ es.length := by first | omega | exact Nat.le_refl _ | (simp only [BQ, GN, CP, List.length_cons, List.length_nil, IV, Fo, I8]; omega)) (hj : z.toNat = j := by first | exact QL _ | exact rfl) : Reg P F0 w0 dr ops K (⟨some d, .indexAddr t x y, ty, pos, aft, g⟩ :: rest) ⟨n, sl, mem, ck, df⟩ acc :=
 CU hw hm (fun mem ck hm => Does.of tc.ok fun τ he hmm hc Kk hK => by
  subst hmm; subst hc; subst hj
  have ex := he x (by simp [Op.operands])
  have ey := he y (by simp [Op.operands])
  rw [hx] at ex
  rw [hy] at ey
  obtain ⟨a1, a2, a3, a4, a5⟩ := i
  simp only at hi
  subst hi
  simp only [AQ, Fs, ht, he', ex, ey, hm]
  exact ⟨hz, hzm, trivial, hsz, hml, hK _ _ _ _ ⟨rfl, rfl, rfl, rfl⟩⟩) h
theorem K3 [tc : TC P T] (h : Reg P F0 w0 dr ops K rest ⟨n, (d, .c (.bp r k (o + z.toNat * ei.size))) :: sl, mem, ck, df⟩ (1 :: acc)) (hw : GW ops g sl := by first | exact trivial | exact rfl) (hx : AH sl x = .c (.bp r k o) := by exact rfl) (hy : AH sl y = .c (.d (.lit (.int kk z))) := by exact rfl) (ht : T t = some i := by exact rfl) (hi : i.desc = .array m e := by exact rfl) (he' : T e = some ei := by exact rfl) (hm : mem[r]? = some (.box k cs) := by exact rfl) (hz : 0 ≤ z := by omega) (hzm : z < (m : Int) := by omega) : Reg P F0 w0 dr ops K (⟨some d, .indexAddr t x y, ty, pos, aft, g⟩ :: rest) ⟨n, sl, mem, ck, df⟩ acc :=
 CU hw hm (fun mem ck hm => Does.of tc.ok fun τ he hmm hc Kk hK => by
  subst hmm; subst hc
  have ex := he x (by simp [Op.operands])
  have ey := he y (by simp [Op.operands])
  rw [hx] at ex
  rw [hy] at ey
  obtain ⟨a1, a2, a3, a4, a5⟩ := i
  simp only at hi
  subst hi
  simp only [AQ, Fs, ht, he', ex, ey, CR, hm]
  exact ⟨hz, hzm, trivial, hK _ _ _ _ ⟨rfl, rfl, rfl, rfl⟩⟩) h
theorem NQ [tc : TC P T] {b : Int} (h : Reg P F0 w0 dr ops K rest ⟨n, (d, .c (.d (.sl es'))) :: sl, mem, ck, df⟩ (0 :: acc)) (hw : GW ops g sl := by first | exact trivial | exact rfl) (hx : AH sl x = .c (.d (.sl es)) := by exact rfl) (ht : T t = some i := by exact rfl) (hi' : i.desc = .slice e := by exact rfl) (hei : T e = some ei := by exact rfl) (hlo : HQ sl 0 lo = some a := by exact rfl) (hhi : HQ sl es.length hi = some b := by exact rfl) (hsz : ∀ el ∈ es, el.length = ei.size := by first | exact A5 | exact HP (fun _ => rfl) | exact AJ rfl A5 | exact AJ rfl (AJ rfl A5) | exact AJ rfl (AJ rfl (AJ rfl A5)) | (repeat (first | exact A5 | refine AJ rfl ?_))) (ha : 0 ≤ a := by first | omega | exact Nat.le_refl _ | (simp only [BQ, GN, CP, List.length_cons, List.length_nil, IV, Fo, I8]; omega)) (hab : a ≤ b := by first | omega | exact Nat.le_refl _ | (simp only [BQ, GN, CP, List.length_cons, List.length_nil, IV, Fo, I8]; omega)) (hb : b ≤ (es.length : Int) := by first | omega | exact Nat.le_refl _ | (simp only [BQ, GN, CP, List.length_cons, List.length_nil, IV, Fo, I8]; omega)) (hes : (es.take b.toNat).drop a.toNat = es' := by first | exact Yy | exact Np | exact Tw | exact Rj | exact VW | exact rfl) : Reg P F0 w0 dr ops K (⟨some d, .slice t x lo hi none, ty, pos, aft, g⟩ :: rest) ⟨n, sl, mem, ck, df⟩ acc :=
 FD hw (fun m c => Does.of tc.ok fun τ he hm hc Kk hK => by
  subst hm; subst hc; subst hes
  have ex := he x (by simp [Op.operands])
  rw [hx] at ex
  have el := HS (τ := τ) (fun y hy => he y (by simp only [Op.operands]; simp at hy ⊢; simp [hy])) hlo
  have eh := HS (τ := τ) (fun y hy => he y (by simp only [Op.operands]; simp at hy ⊢; simp [hy])) hhi
  obtain ⟨a1, a2, a3, a4, a5⟩ := i
  simp only at hi'
  subst hi'
  simp only [AQ, Gl, ht, ex, hei, el, eh]
  exact ⟨rfl, hsz, ha, hab, hb, hK _ _ _ _ ⟨rfl, rfl, rfl, rfl⟩⟩) h
theorem NR [tc : TC P T] {b : Int} {s : ByteArray}  (h : Reg P F0 w0 dr ops K rest ⟨n, (d, .c (.d (.lit (.string (s.extract a.toNat b.toNat))))) :: sl, mem, ck, df⟩ (0 :: acc)) (hw : GW ops g sl := by first | exact trivial | exact rfl) (hx : AH sl x = .c (.d (.lit (.string s))) := by exact rfl) (ht : T t = some i := by exact rfl) (hi' : i.desc = .str := by exact rfl) (hlo : HQ sl 0 lo = some a := by exact rfl) (hhi : HQ sl s.size hi = some b := by exact rfl) (ha : 0 ≤ a := by first | omega | exact Nat.le_refl _ | (simp only [BQ, GN, CP, List.length_cons, List.length_nil, IV, Fo, I8]; omega)) (hab : a ≤ b := by first | omega | exact Nat.le_refl _ | (simp only [BQ, GN, CP, List.length_cons, List.length_nil, IV, Fo, I8]; omega)) (hb : b ≤ (s.size : Int) := by first | omega | exact Nat.le_refl _ | (simp only [BQ, GN, CP, List.length_cons, List.length_nil, IV, Fo, I8]; omega)) : Reg P F0 w0 dr ops K (⟨some d, .slice t x lo hi none, ty, pos, aft, g⟩ :: rest) ⟨n, sl, mem, ck, df⟩ acc :=
 FD hw (fun m c => Does.of tc.ok fun τ he hm hc Kk hK => by
  subst hm; subst hc
  have ex := he x (by simp [Op.operands])
  rw [hx] at ex
  have el := HS (τ := τ) (fun y hy => he y (by simp only [Op.operands]; simp at hy ⊢; simp [hy])) hlo
  have eh := HS (τ := τ) (fun y hy => he y (by simp only [Op.operands]; simp at hy ⊢; simp [hy])) hhi
  obtain ⟨a1, a2, a3, a4, a5⟩ := i
  simp only at hi'
  subst hi'
  simp only [AQ, Gl, ht, ex, el, eh]
  exact ⟨rfl, ha, hab, hb, hK _ _ _ _ ⟨rfl, rfl, rfl, rfl⟩⟩) h
theorem DS [tc : TC P T] {b : Int} {m' : Nat} (h : Reg P F0 w0 dr ops K rest ⟨n, (d, .c (.arr r k m')) :: sl, mem, ck, df⟩ (1 :: acc)) (hw : GW ops g sl := by first | exact trivial | exact rfl) (hx : AH sl x = .c (.arr r k m) := by exact rfl) (ht : T t = some i := by exact rfl) (hi' : i.desc = .slice e := by exact rfl) (hei : T e = some ei := by exact rfl) (hm : mem[r]? = some (.arr k ety esz es) := by exact rfl) (hlo : HQ sl 0 lo = some 0 := by exact rfl) (hhi : HQ sl m hi = some b := by exact rfl) (hml : m ≤ es.length := by first | omega | exact Nat.le_refl _ | (simp only [BQ, GN, CP, List.length_cons, List.length_nil, IV, Fo, I8]; omega)) (h0 : 0 ≤ b := by first | omega | exact Nat.le_refl _ | (simp only [BQ, GN, CP, List.length_cons, List.length_nil, IV, Fo, I8]; omega)) (hb : b ≤ (m : Int) := by first | omega | exact Nat.le_refl _ | (simp only [BQ, GN, CP, List.length_cons, List.length_nil, IV, Fo, I8]; omega)) (hm' : b.toNat = m' := by first | exact QL _ | exact rfl) : Reg P F0 w0 dr ops K (⟨some d, .slice t x lo hi none, ty, pos, aft, g⟩ :: rest) ⟨n, sl, mem, ck, df⟩ acc :=
 CU hw hm (fun mem ck hm => Does.of tc.ok fun τ he hmm hc Kk hK => by
  subst hmm; subst hc; subst hm'
  have ex := he x (by simp [Op.operands])
  rw [hx] at ex
  have el := HS (τ := τ) (fun y hy => he y (by simp only [Op.operands]; simp at hy ⊢; simp [hy])) hlo
  have eh := HS (τ := τ) (fun y hy => he y (by simp only [Op.operands]; simp at hy ⊢; simp [hy])) hhi
  obtain ⟨a1, a2, a3, a4, a5⟩ := i
  simp only at hi'
  subst hi'
  simp only [AQ, Gl, ht, ex, hei, el, eh, hm]
  exact ⟨rfl, trivial, hml, trivial, h0, hb, hK _ _ _ _ ⟨rfl, rfl, rfl, rfl⟩⟩) h
theorem W8 [tc : TC P T] {bo : BinOp} {k : IntKind} {b : Int} (h : Reg P F0 w0 dr ops K rest ⟨n, (d, v) :: sl, mem, ck, df⟩ (0 :: acc)) (hw : GW ops g sl := by first | exact trivial | exact rfl) (hx : AH sl x = .c (.d (.lit (.int k a))) := by exact rfl) (hy : AH sl y = .c (.d (.lit (.int k b))) := by exact rfl) (hv : IntOp bo k a b v := by first | exact .add64 (by omega) (by omega) | exact .sub64 (by omega) (by omega) | exact .eql | exact .neq | exact .lss | exact .leq | exact .gtr | exact .geq | exact .rem (by omega) | exact .quoN (b := 2) (by omega) (by omega) | exact .quoN (by omega) (by omega) | exact .quo (by omega) | exact .mul64 (by omega) (by omega) | exact .and | exact .add | exact .sub | exact .mul) : Reg P F0 w0 dr ops K (⟨some d, .binOp bo t x y t', ty, pos, aft, g⟩ :: rest) ⟨n, sl, mem, ck, df⟩ acc :=
 Nk tc.ok hw hx hy (fun V q => by
  cases hv with
  | add64 h1 h2 => exact ⟨rfl, by simp only [OP, BZ h1 h2]; exact q⟩
  | sub64 h1 h2 => exact ⟨rfl, by simp only [OP, BZ h1 h2]; exact q⟩
  | mul64 h1 h2 => exact ⟨rfl, by simp only [OP, BZ h1 h2]; exact q⟩
  | quoN h1 h2 =>
    refine ⟨rfl, by omega, ?_⟩
    rename_i a b
    have e : IntKind.i64.wrap ((a : Int).tdiv (b : Int)) = ((a / b : Nat) : Int) := by
     have h3 := Nat.div_le_self a b
     rw [← Int.ofNat_tdiv]
     generalize a / b = c at h3
     exact BZ (by omega) (by omega)
    rw [e]
    exact q
  | quo h1 => exact ⟨rfl, h1, q⟩
  | rem h1 => exact ⟨rfl, h1, q⟩
  | _ => exact ⟨rfl, q⟩) h
theorem TB [tc : TC P T] {bo : BinOp} {a b : ByteArray} (h : Reg P F0 w0 dr ops K rest ⟨n, (d, v) :: sl, mem, ck, df⟩ (0 :: acc)) (hw : GW ops g sl := by first | exact trivial | exact rfl) (hx : AH sl x = .c (.d (.lit (.string a))) := by exact rfl) (hy : AH sl y = .c (.d (.lit (.string b))) := by exact rfl) (hv : StrOp bo a b v := by first | exact .eql | exact .neq | exact .lss | exact .add (by simp only [maxLen]; omega)) : Reg P F0 w0 dr ops K (⟨some d, .binOp bo t x y t', ty, pos, aft, g⟩ :: rest) ⟨n, sl, mem, ck, df⟩ acc :=
 Nk tc.ok hw hx hy (fun V q => by
  cases hv with
  | add h1 => exact ⟨h1, q⟩
  | _ => exact q) h
theorem W9 [tc : TC P T] {a : Bool}  (h : Reg P F0 w0 dr ops K rest ⟨n, (d, .c (.d (.lit (.bool (!(a == b)))))) :: sl, mem, ck, df⟩ (0 :: acc)) (hw : GW ops g sl := by first | exact trivial | exact rfl) (hx : AH sl x = .c (.d (.lit (.bool a))) := by exact rfl) (hy : AH sl y = .c (.d (.lit (.bool b))) := by exact rfl) (ht : T t = some i := by exact rfl) (hi : i.desc = .bool := by exact rfl) : Reg P F0 w0 dr ops K (⟨some d, .binOp .neq t x y t', ty, pos, aft, g⟩ :: rest) ⟨n, sl, mem, ck, df⟩ acc :=
 Nk tc.ok hw hx hy (fun V q => by
  obtain ⟨a1, a2, a3, a4, a5⟩ := i
  simp only at hi
  subst hi
  simp only [MB, ht]
  exact q) h
theorem Xa [tc : TC P T] {xs ys : List Cell} {us vs : List Value}  (h : Reg P F0 w0 dr ops K rest ⟨n, (d, .c (.d (.lit (.bool (Cb us vs))))) :: sl, mem, ck, df⟩ (0 :: acc)) (hw : GW ops g sl := by first | exact trivial | exact rfl) (hx : AH sl x = .agg xs := by exact rfl) (hy : AH sl y = .agg ys := by exact rfl) (ht : T t = some i := by exact rfl) (he : i.eqs = true := by exact rfl) (hu : Dk xs = some us := by exact rfl) (hv : Dk ys = some vs := by exact rfl) (h1 : CQ i.zero us := by repeat (first | exact trivial | refine And.intro (by first | exact rfl | exact trivial) ?_)) (h2 : CQ i.zero vs := by repeat (first | exact trivial | refine And.intro (by first | exact rfl | exact trivial) ?_)) : Reg P F0 w0 dr ops K (⟨some d, .binOp .eql t x y t', ty, pos, aft, g⟩ :: rest) ⟨n, sl, mem, ck, df⟩ acc :=
 Nk tc.ok hw hx hy (fun V q => by
  simp only [MB, ht, hu, hv]
  exact ⟨he, h1, h2, q⟩) h
theorem Xb [tc : TC P T] {xs ys : List Cell} {us vs : List Value}  (h : Reg P F0 w0 dr ops K rest ⟨n, (d, .c (.d (.lit (.bool (!(Cb us vs)))))) :: sl, mem, ck, df⟩ (0 :: acc)) (hw : GW ops g sl := by first | exact trivial | exact rfl) (hx : AH sl x = .agg xs := by exact rfl) (hy : AH sl y = .agg ys := by exact rfl) (ht : T t = some i := by exact rfl) (he : i.eqs = true := by exact rfl) (hu : Dk xs = some us := by exact rfl) (hv : Dk ys = some vs := by exact rfl) (h1 : CQ i.zero us := by repeat (first | exact trivial | refine And.intro (by first | exact rfl | exact trivial) ?_)) (h2 : CQ i.zero vs := by repeat (first | exact trivial | refine And.intro (by first | exact rfl | exact trivial) ?_)) : Reg P F0 w0 dr ops K (⟨some d, .binOp .neq t x y t', ty, pos, aft, g⟩ :: rest) ⟨n, sl, mem, ck, df⟩ acc :=
 Nk tc.ok hw hx hy (fun V q => by
  simp only [MB, ht, hu, hv]
  exact ⟨he, h1, h2, q⟩) h
theorem Xc [tc : TC P T] (h : Reg P F0 w0 dr ops K rest ⟨n, (d, .c (.d (.lit (.bool (!b))))) :: sl, mem, ck, df⟩ (0 :: acc)) (hw : GW ops g sl := by first | exact trivial | exact rfl) (hx : AH sl x = .c (.d (.lit (.bool b))) := by exact rfl) : Reg P F0 w0 dr ops K (⟨some d, .unOp .not t x, ty, pos, aft, g⟩ :: rest) ⟨n, sl, mem, ck, df⟩ acc :=
 FD hw (fun m c => Does.of tc.ok fun τ he hm hc Kk hK => by
  subst hm; subst hc
  have ex := he x (by simp [Op.operands])
  rw [hx] at ex
  simp only [AQ, ZF, ex]
  exact hK _ _ _ _ ⟨rfl, rfl, rfl, rfl⟩) h
theorem Xd [tc : TC P T] {k : IntKind} (h : Reg P F0 w0 dr ops K rest ⟨n, (d, .c (.d (.lit (.int k z')))) :: sl, mem, ck, df⟩ (0 :: acc)) (hw : GW ops g sl := by first | exact trivial | exact rfl) (hx : AH sl x = .c (.d (.lit (.int k z))) := by exact rfl) (hz : k.wrap (0 - z) = z' := by first | exact V1 (by omega) (by omega) | exact rfl) : Reg P F0 w0 dr ops K (⟨some d, .unOp .neg t x, ty, pos, aft, g⟩ :: rest) ⟨n, sl, mem, ck, df⟩ acc :=
 FD hw (fun m c => Does.of tc.ok fun τ he hm hc Kk hK => by
  subst hm; subst hc; subst hz
  have ex := he x (by simp [Op.operands])
  rw [hx] at ex
  simp only [AQ, ZF, ex]
  exact hK _ _ _ _ ⟨rfl, rfl, rfl, rfl⟩) h
theorem TE [tc : TC P T] {j : TI} {k k' : IntKind} (h : Reg P F0 w0 dr ops K rest ⟨n, (d, .c (.d (.lit (.int k' z')))) :: sl, mem, ck, df⟩ (0 :: acc)) (hw : GW ops g sl := by first | exact trivial | exact rfl) (hx : AH sl x = .c (.d (.lit (.int k z))) := by exact rfl) (hs : T s = some i := by exact rfl) (ht : T t = some j := by exact rfl) (hj : j.desc = .int k' := by exact rfl) (hz : k'.wrap z = z' := by first | exact BZ (by omega) (by omega) | exact rfl) : Reg P F0 w0 dr ops K (⟨some d, .convert s t x, ty, pos, aft, g⟩ :: rest) ⟨n, sl, mem, ck, df⟩ acc :=
 FD hw (fun m c => Does.of tc.ok fun τ he hm hc Kk hK => by
  subst hm; subst hc; subst hz
  have ex := he x (by simp [Op.operands])
  rw [hx] at ex
  obtain ⟨a1, a2, a3, a4, a5⟩ := j
  simp only at hj
  subst hj
  simp only [AQ, MC, hs, ht, ex]
  exact hK _ _ _ _ ⟨rfl, rfl, rfl, rfl⟩) h
theorem Qk [tc : TC P T] {parts : Array (Nat × Operand)} (h : Reg P F0 w0 dr ops K rest ⟨n, (d, .agg cs') :: sl, mem, ck, df⟩ (0 :: acc)) (hw : GW ops g sl := by first | exact trivial | exact rfl) (ht : T t = some i := by exact rfl) (hi : i.desc = .struct fs := by exact rfl) (ha : fs.all (fun p => (T p.2).isSome) = true := by exact rfl) (hf : Nl T sl fs parts.toList (i.zero.map By) = some cs := by exact rfl) (hn : cs = cs' := by repeat' (first | exact AT rfl | apply Az rfl)) : Reg P F0 w0 dr ops K (⟨some d, .build t parts, ty, pos, aft, g⟩ :: rest) ⟨n, sl, mem, ck, df⟩ acc :=
 FD hw (fun m c => Does.of tc.ok fun τ he hm hc Kk hK => by
  subst hm; subst hc; subst hn
  obtain ⟨a1, a2, a3, a4, a5⟩ := i
  simp only at hi
  subst hi
  have hq := JA (τ := τ) parts.toList _ (fun p hp => he p.2 (by simp only [Op.operands]; simp; exact ⟨p.1, by simpa using hp⟩)) cs hf
  simp only [AQ, Jc, ht]
  refine ⟨ha, ?_⟩
  simp only at hq
  simp only [hq]
  exact hK _ _ _ _ ⟨rfl, rfl, rfl, rfl⟩) h
theorem NS [tc : TC P T] {len : Nat} {parts : Array (Nat × Operand)} (h : Reg P F0 w0 dr ops K rest ⟨n, (d, .c (.d (.sl es'))) :: sl, mem, ck, df⟩ (0 :: acc)) (hw : GW ops g sl := by first | exact trivial | exact rfl) (ht : T t = some i := by exact rfl) (hi : i.desc = .slice e := by exact rfl) (hei : T e = some ei := by exact rfl) (hc : (Nat.blt 0 len && Nat.blt 0 ei.size && Nat.beq ei.zero.length ei.size && Nat.ble (len * ei.size) 16777216 && Nat.beq parts.size len) = true := by exact rfl) (hp : JB sl ei.size parts.toList 0 = some es := by exact rfl) (hn : es = es' := by repeat' (first | exact AT rfl | apply Az rfl)) : Reg P F0 w0 dr ops K (⟨some d, .buildSlice t len parts, ty, pos, aft, g⟩ :: rest) ⟨n, sl, mem, ck, df⟩ acc :=
 FD hw (fun m c => Does.of tc.ok fun τ he hm hc' Kk hK => by
  subst hm; subst hc'; subst hn
  obtain ⟨a1, a2, a3, a4, a5⟩ := i
  simp only at hi
  subst hi
  simp only [Bi, QN, LG, Nat.blt, Sh] at hc
  obtain ⟨⟨⟨⟨h1, h2⟩, h3⟩, h4⟩, h5⟩ := hc
  have hq := HT (τ := τ) parts.toList _ (fun p hp => he p.2 (by simp only [Op.operands]; simp; exact ⟨p.1, by simpa using hp⟩)) es hp
  cases len with
  | zero => omega
  | succ len =>
    simp only [AQ, Cc, ht, hei, hq]
    exact ⟨h2, h3, h4, by simpa using h5, hK _ _ _ _ ⟨rfl, rfl, rfl, rfl⟩⟩) h
theorem K4 [tc : TC P T] (h : Reg P F0 w0 dr ops K rest ⟨n, (d, .c .emp) :: sl, mem, ck, df⟩ (0 :: acc)) (hw : GW ops g sl := by first | exact trivial | exact rfl) (ht : T t = some i := by exact rfl) (hi : i.desc = .slice e := by exact rfl) (hei : T e = some ei := by exact rfl) : Reg P F0 w0 dr ops K (⟨some d, .buildSlice t 0 #[], ty, pos, aft, g⟩ :: rest) ⟨n, sl, mem, ck, df⟩ acc :=
 FD hw (fun m c => Does.of tc.ok fun τ he hm hc' Kk hK => by
  subst hm; subst hc'
  obtain ⟨a1, a2, a3, a4, a5⟩ := i
  simp only at hi
  subst hi
  simp only [AQ, Cc, ht, hei]
  exact ⟨trivial, hK _ _ _ _ ⟨rfl, rfl, rfl, rfl⟩⟩) h
theorem Ql [tc : TC P T] {f : FuncId} {xs : List Operand} (h : Reg P F0 w0 dr ops K rest ⟨n, (d, .c (.clo f cs')) :: sl, mem, ck, df⟩ (0 :: acc)) (hw : GW ops g sl := by first | exact trivial | exact rfl) (hc : P7 sl (x :: xs) = some cs := by exact rfl) (hd : DG cs = none := by exact rfl) (hn : cs = cs' := by repeat' (first | exact AT rfl | apply Az rfl)) :
  Reg P F0 w0 dr ops K (⟨some d, .makeFunc (.func f) #[] ⟨x :: xs⟩, ty, pos, aft, g⟩ :: rest) ⟨n, sl, mem, ck, df⟩ acc :=
 FD hw (fun m c => Does.of tc.ok fun τ he hm hc' Kk hK => by
  subst hm; subst hc'; subst hn
  have := Nn (τ := τ) _ (fun y hy => he y (by simp only [Op.operands]; simpa using hy)) cs hc
  simp only [AQ, MD, this, hd]
  exact hK _ _ _ _ ⟨rfl, rfl, rfl, rfl⟩) h
theorem K5 [tc : TC P T] {i : Nat} {xs : List SVal} (h : Reg P F0 w0 dr ops K rest ⟨n, (d, v) :: sl, mem, ck, df⟩ (0 :: acc)) (hw : GW ops g sl := by first | exact trivial | exact rfl) (hx : AH sl x = .tup xs := by exact rfl) (hv : xs[i]? = some v := by first | exact (rfl : _ = some (SVal.c _)) | exact (rfl : _ = some (SVal.agg _)) | exact rfl) :
  Reg P F0 w0 dr ops K (⟨some d, .extract x i, ty, pos, aft, g⟩ :: rest) ⟨n, sl, mem, ck, df⟩ acc :=
 FD hw (fun m c => Does.of tc.ok fun τ he hm hc' Kk hK => by
  subst hm; subst hc'
  have ex := he x (by simp [Op.operands])
  rw [hx] at ex
  simp only [AQ, ex, hv]
  exact hK _ _ _ _ ⟨rfl, rfl, rfl, rfl⟩) h
theorem Aa [tc : TC P T] {f : Operand} {fv : SVal} {args : Array Operand} {fid : FuncId} {caps : List Cell} {aS : List SVal} {pargs : List PV} {r : PRes} (hp : PCall P fid pargs r) (h : Reg P F0 w0 dr ops K rest ⟨n, (d, v) :: sl, mem, ck, df⟩ (0 :: acc)) (hw : GW ops g sl := by first | exact trivial | exact rfl) (hf : AH sl f = fv := by exact rfl) (hc : Cd fv = some (fid, caps) := by exact rfl) (has : args.toList.map (AH sl) ++ caps.map .c = aS := by exact rfl) (ha : SDs aS pargs := by first | exact trivial | exact And.intro rfl trivial | exact And.intro rfl (And.intro rfl trivial) | exact And.intro rfl (And.intro rfl (And.intro rfl trivial)) | exact And.intro rfl (And.intro rfl (And.intro rfl (And.intro rfl trivial))) | exact And.intro rfl (And.intro rfl (And.intro rfl (And.intro rfl (And.intro rfl trivial))))) (hv : r.s = v := by first | exact (rfl : _ = SVal.c _) | exact Tv (by repeat' (first | exact AT rfl | apply Az rfl)) | exact (rfl : _ = SVal.tup [SVal.c _, SVal.c _]) | exact V2 (by repeat' (first | exact AT rfl | apply Az rfl)) | exact V3 (by repeat' (first | exact AT rfl | apply Az rfl)) | exact (rfl : _ = SVal.tup [SVal.c _, SVal.c _, SVal.c _]) | exact rfl) : Reg P F0 w0 dr ops K (⟨some d, .call ⟨.value f, args, ats⟩, ty, pos, aft, g⟩ :: rest) ⟨n, sl, mem, ck, df⟩ acc :=
 FD hw (fun m c => Does.of tc.ok fun τ he hm hck Kk hK => by
  subst hm; subst hck; subst has; subst hv
  obtain ⟨e1, e2⟩ := IZ he
  rw [hf] at e1
  simp only [AQ, DI, e1, hc, e2]
  exact MCall.ofPure hp ha (hK _ _ _ _ ⟨rfl, rfl, rfl, rfl⟩)) h
theorem TF [tc : TC P T] (h : Reg P F0 w0 dr ops K rest ⟨n, (d, .c (.d (.lit (.int .i64 k)))) :: sl, mem, ck, df⟩ (0 :: acc)) (hw : GW ops g sl := by first | exact trivial | exact rfl) (hx : AH sl x = .c (.d (.sl es)) := by exact rfl) (ht : T t = some i := by exact rfl) (hi : i.desc = .slice e := by exact rfl) (hk : es.length = k := by first | exact (rfl : _ = 0) | exact (rfl : _ = 1) | exact (rfl : _ = 2) | exact (rfl : _ = 3) | exact (rfl : _ = 4) | exact (rfl : _ = 5) | exact (rfl : _ = 6) | exact (rfl : _ = 7) | exact LZ | exact rfl) : Reg P F0 w0 dr ops K (⟨some d, .call ⟨.builtin .len, #[x], #[t]⟩, ty, pos, aft, g⟩ :: rest) ⟨n, sl, mem, ck, df⟩ acc :=
 FD hw (fun m c => Does.of tc.ok fun τ he hm hck Kk hK => by
  subst hm; subst hck; subst hk
  have ex := he x (by simp [Op.operands, Call.operands])
  rw [hx] at ex
  obtain ⟨a1, a2, a3, a4, a5⟩ := i
  simp only at hi
  subst hi
  simp only [AQ, DI, Mz, ht, ex]
  exact hK _ _ _ _ ⟨rfl, rfl, rfl, rfl⟩) h
theorem TG [tc : TC P T] (h : Reg P F0 w0 dr ops K rest ⟨n, (d, .c (.d (.lit (.int .i64 0)))) :: sl, mem, ck, df⟩ (0 :: acc)) (hw : GW ops g sl := by first | exact trivial | exact rfl) (hx : AH sl x = .c .emp := by exact rfl) (ht : T t = some i := by exact rfl) (hi : i.desc = .slice e := by exact rfl) : Reg P F0 w0 dr ops K (⟨some d, .call ⟨.builtin .len, #[x], #[t]⟩, ty, pos, aft, g⟩ :: rest) ⟨n, sl, mem, ck, df⟩ acc :=
 FD hw (fun m c => Does.of tc.ok fun τ he hm hck Kk hK => by
  subst hm; subst hck
  have ex := he x (by simp [Op.operands, Call.operands])
  rw [hx] at ex
  obtain ⟨a1, a2, a3, a4, a5⟩ := i
  simp only at hi
  subst hi
  simp only [AQ, DI, Mz, ht, ex]
  exact hK _ _ _ _ ⟨rfl, rfl, rfl, rfl⟩) h
theorem TH [tc : TC P T] {s : ByteArray}  (h : Reg P F0 w0 dr ops K rest ⟨n, (d, .c (.d (.lit (.int .i64 s.size)))) :: sl, mem, ck, df⟩ (0 :: acc)) (hw : GW ops g sl := by first | exact trivial | exact rfl) (hx : AH sl x = .c (.d (.lit (.string s))) := by exact rfl) (ht : T t = some i := by exact rfl) (hi : i.desc = .str := by exact rfl) : Reg P F0 w0 dr ops K (⟨some d, .call ⟨.builtin .len, #[x], #[t]⟩, ty, pos, aft, g⟩ :: rest) ⟨n, sl, mem, ck, df⟩ acc :=
 FD hw (fun m c => Does.of tc.ok fun τ he hm hck Kk hK => by
  subst hm; subst hck
  have ex := he x (by simp [Op.operands, Call.operands])
  rw [hx] at ex
  obtain ⟨a1, a2, a3, a4, a5⟩ := i
  simp only at hi
  subst hi
  simp only [AQ, DI, Mz, ht, ex]
  exact hK _ _ _ _ ⟨rfl, rfl, rfl, rfl⟩) h
theorem TJ [tc : TC P T] (h : Reg P F0 w0 dr ops K rest ⟨n, (d, .c (.d (.lit (.int .i64 m)))) :: sl, mem, ck, df⟩ (1 :: acc)) (hw : GW ops g sl := by first | exact trivial | exact rfl) (hx : AH sl x = .c (.arr r k m) := by exact rfl) (ht : T t = some i := by exact rfl) (hi : i.desc = .slice e := by exact rfl) (hm : mem[r]? = some (.arr k ety esz es) := by exact rfl) : Reg P F0 w0 dr ops K (⟨some d, .call ⟨.builtin .len, #[x], #[t]⟩, ty, pos, aft, g⟩ :: rest) ⟨n, sl, mem, ck, df⟩ acc :=
 CU hw hm (fun mem ck hm => Does.of tc.ok fun τ he hmm hck Kk hK => by
  subst hmm; subst hck
  have ex := he x (by simp [Op.operands, Call.operands])
  rw [hx] at ex
  obtain ⟨a1, a2, a3, a4, a5⟩ := i
  simp only at hi
  subst hi
  simp only [AQ, DI, Mz, ht, ex, CR, hm]
  exact ⟨trivial, hK _ _ _ _ ⟨rfl, rfl, rfl, rfl⟩⟩) h
theorem Xe [tc : TC P T] {k : IntKind} {b : Int}  (h : Reg P F0 w0 dr ops K rest ⟨n, (d, .c (.d (.lit (.int k z)))) :: sl, mem, ck, df⟩ (0 :: acc)) (hw : GW ops g sl := by first | exact trivial | exact rfl) (hx : AH sl x = .c (.d (.lit (.int k a))) := by exact rfl) (hy : AH sl y = .c (.d (.lit (.int k b))) := by exact rfl) (hz : (if b < a then b else a) = z := by exact rfl) : Reg P F0 w0 dr ops K (⟨some d, .call ⟨.builtin .min, #[x, y], ats⟩, ty, pos, aft, g⟩ :: rest) ⟨n, sl, mem, ck, df⟩ acc :=
 FD hw (fun m c => Does.of tc.ok fun τ he hmm hck Kk hK => by
  subst hmm; subst hck; subst hz
  have ex := he x (by simp [Op.operands, Call.operands])
  have ey := he y (by simp [Op.operands, Call.operands])
  rw [hx] at ex
  rw [hy] at ey
  simp only [AQ, DI, ex, ey]
  exact ⟨trivial, hK _ _ _ _ ⟨rfl, rfl, rfl, rfl⟩⟩) h
theorem Xf [tc : TC P T] {k : IntKind} {b : Int}  (h : Reg P F0 w0 dr ops K rest ⟨n, (d, .c (.d (.lit (.int k z)))) :: sl, mem, ck, df⟩ (0 :: acc)) (hw : GW ops g sl := by first | exact trivial | exact rfl) (hx : AH sl x = .c (.d (.lit (.int k a))) := by exact rfl) (hy : AH sl y = .c (.d (.lit (.int k b))) := by exact rfl) (hz : (if a < b then b else a) = z := by exact rfl) : Reg P F0 w0 dr ops K (⟨some d, .call ⟨.builtin .max, #[x, y], ats⟩, ty, pos, aft, g⟩ :: rest) ⟨n, sl, mem, ck, df⟩ acc :=
 FD hw (fun m c => Does.of tc.ok fun τ he hmm hck Kk hK => by
  subst hmm; subst hck; subst hz
  have ex := he x (by simp [Op.operands, Call.operands])
  have ey := he y (by simp [Op.operands, Call.operands])
  rw [hx] at ex
  rw [hy] at ey
  simp only [AQ, DI, ex, ey]
  exact ⟨trivial, hK _ _ _ _ ⟨rfl, rfl, rfl, rfl⟩⟩) h
theorem Qm [tc : TC P T] {f : Operand} {fv : SVal} {fid : FuncId} {caps : List Cell}  (h : Reg P F0 w0 dr ops K rest ⟨n, sl, mem, ck, (fid, caps) :: df⟩ (2 :: acc)) (hw : GW ops g sl := by first | exact trivial | exact rfl) (hf : AH sl f = fv := by exact rfl) (hc : Cd fv = some (fid, caps) := by exact rfl) : Reg P F0 w0 dr ops K (⟨none, .defer ⟨.value f, #[], ats⟩, ty, pos, aft, g⟩ :: rest) ⟨n, sl, mem, ck, df⟩ acc :=
 G6 (df' := [(fid, caps)]) (v := .junk) hw (Does.of tc.ok fun τ he hmm hck Kk hK => by
  subst hmm; subst hck
  have ex := he f (by simp [Op.operands, Call.operands])
  rw [hf] at ex
  simp only [AQ, ex, hc]
  exact hK _ _ _ _ ⟨rfl, rfl, rfl, rfl⟩) h
theorem Xg [tc : TC P T] (h : Reg P F0 w0 dr ops K rest ⟨n, (d, .c (.bp r (ck + 1) 0)) :: sl, mem', ck + 1, df⟩ (3 :: acc)) (hw : GW ops g sl := by first | exact trivial | exact rfl) (hx : AH sl x = v := by first | exact (rfl : _ = SVal.agg _) | exact (rfl : _ = SVal.c _)) (hc : v.cells = some cs := by exact rfl) (hn : cs = cs' := by repeat' (first | exact AT rfl | apply Az rfl)) (hr : mem.length = r := by first | exact (rfl : _ = 0) | exact (rfl : _ = 1) | exact (rfl : _ = 2) | exact (rfl : _ = 3) | exact (rfl : _ = 4) | exact (rfl : _ = 5) | exact (rfl : _ = 6) | exact (rfl : _ = 7) | exact (rfl : _ = 8) | exact (rfl : _ = 9) | exact (rfl : _ = 10) | exact (rfl : _ = 11) | exact (rfl : _ = 12) | exact (rfl : _ = 13) | exact (rfl : _ = 14) | exact (rfl : _ = 15)) (hm' : mem ++ [Blk.box (ck + 1) cs'] = mem' := by repeat' (first | exact AT rfl | apply Az rfl)) : Reg P F0 w0 dr ops K (⟨some d, .box t x, ty, pos, aft, g⟩ :: rest) ⟨n, sl, mem, ck, df⟩ acc :=  by
 subst hn; exact ah tc.ok hw hx hc hr hm' h
theorem TK [tc : TC P T] {l : Operand} {k k' : IntKind} {zs : List Dat} (h : Reg P F0 w0 dr ops K rest ⟨n, (d, .c (.arr r (ck + 1) m)) :: sl, mem', ck + 1, df⟩ (2 :: acc)) (hw : GW ops g sl := by first | exact trivial | exact rfl) (hl : AH sl l = .c (.d (.lit (.int k z))) := by exact rfl) (hc : AH sl c = .c (.d (.lit (.int k' z'))) := by exact rfl) (ht : T t = some i := by exact rfl) (hi : i.desc = .slice e := by exact rfl) (hei : T e = some ⟨esz, bts, ze, de, eq⟩ := by exact rfl) (hzs : DG (ze.map By) = some zs := by exact rfl) (hk : (Nat.blt 0 esz && Nat.beq ze.length esz) = true := by exact rfl) (h0 : 0 ≤ z := by first | omega | exact Nat.le_refl _ | (simp only [BQ, GN, CP, List.length_cons, List.length_nil, IV, Fo, I8]; omega)) (hzz : z ≤ z' := by first | omega | exact Nat.le_refl _ | (simp only [BQ, GN, CP, List.length_cons, List.length_nil, IV, Fo, I8]; omega)) (hmx : z' ≤ 9223372036854775807 := by first | omega | exact Nat.le_refl _ | (simp only [BQ, GN, CP, List.length_cons, List.length_nil, IV, Fo, I8]; omega)) (hby : (bts : Int) * z' ≤ 281474976710656 := by first | omega | exact Nat.le_refl _ | (simp only [BQ, GN, CP, List.length_cons, List.length_nil, IV, Fo, I8]; omega)) (hr : mem.length = r := by first | exact (rfl : _ = 0) | exact (rfl : _ = 1) | exact (rfl : _ = 2) | exact (rfl : _ = 3) | exact (rfl : _ = 4) | exact (rfl : _ = 5) | exact (rfl : _ = 6) | exact (rfl : _ = 7) | exact (rfl : _ = 8) | exact (rfl : _ = 9) | exact (rfl : _ = 10) | exact (rfl : _ = 11) | exact (rfl : _ = 12) | exact (rfl : _ = 13) | exact (rfl : _ = 14) | exact (rfl : _ = 15)) (hm : z.toNat = m := by first | exact QL _ | exact rfl) (hm' : mem ++ [Blk.arr (ck + 1) e esz (List.replicate m zs)] = mem' := by repeat' (first | exact AT rfl | apply Az rfl)) : Reg P F0 w0 dr ops K (⟨some d, .makeSlice t l c, ty, pos, aft, g⟩ :: rest) ⟨n, sl, mem, ck, df⟩ acc :=
 Yr tc.ok hw hl hc ht hi hei hzs hk h0 hzz hmx hby hr hm hm' h
theorem L6 [tc : TC P T] {ys : List (List Dat)} (h : Reg P F0 w0 dr ops K rest ⟨n, (d, .c (.arr r (ck + 1) m)) :: sl, mem', ck + 1, df⟩ (2 :: acc)) (hw : GW ops g sl := by first | exact trivial | exact rfl) (hx : AH sl x = .c .emp := by exact rfl) (hy : AH sl y = u := by exact (rfl : _ = SVal.c _)) (hs : Ft u = some ys := by exact rfl) (ht : T t = some i := by exact rfl) (hi : i.desc = .slice e := by exact rfl) (hei : T e = some ⟨esz, bts, ze, de, eq⟩ := by exact rfl) (hk : (Nat.blt 0 esz && Nat.beq ze.length esz) = true := by exact rfl) (hsz : ∀ el ∈ ys, el.length = esz := by first | exact A5 | exact HP (fun _ => rfl) | exact AJ rfl A5 | exact AJ rfl (AJ rfl A5) | exact AJ rfl (AJ rfl (AJ rfl A5)) | (repeat (first | exact A5 | refine AJ rfl ?_))) (hl : ys.length = m := by first | exact (rfl : _ = 0) | exact (rfl : _ = 1) | exact (rfl : _ = 2) | exact (rfl : _ = 3) | exact (rfl : _ = 4) | exact (rfl : _ = 5) | exact (rfl : _ = 6) | exact (rfl : _ = 7) | exact LZ | exact rfl) (hmx : (m : Int) ≤ 9223372036854775807 := by first | omega | exact Nat.le_refl _ | (simp only [BQ, GN, CP, List.length_cons, List.length_nil, IV, Fo, I8]; omega)) (hby : m * bts ≤ 140737488355328 := by first | omega | exact Nat.le_refl _ | (simp only [BQ, GN, CP, List.length_cons, List.length_nil, IV, Fo, I8]; omega)) (hr : mem.length = r := by first | exact (rfl : _ = 0) | exact (rfl : _ = 1) | exact (rfl : _ = 2) | exact (rfl : _ = 3) | exact (rfl : _ = 4) | exact (rfl : _ = 5) | exact (rfl : _ = 6) | exact (rfl : _ = 7) | exact (rfl : _ = 8) | exact (rfl : _ = 9) | exact (rfl : _ = 10) | exact (rfl : _ = 11) | exact (rfl : _ = 12) | exact (rfl : _ = 13) | exact (rfl : _ = 14) | exact (rfl : _ = 15)) (hm' : mem ++ [Blk.arr (ck + 1) e esz ys] = mem' := by repeat' (first | exact AT rfl | apply Az rfl)) : Reg P F0 w0 dr ops K (⟨some d, .call ⟨.builtin .append, #[x, y], #[t, t]⟩, ty, pos, aft, g⟩ :: rest) ⟨n, sl, mem, ck, df⟩ acc :=
 Ys tc.ok hw hx hy hs ht hi hei hk hsz hl hmx hby hr hm' h
theorem L7 [tc : TC P T] {ys : List (List Dat)} (h : Reg P F0 w0 dr ops K rest ⟨n, (d, .c (.arr r (ck + 1) m)) :: sl, mem', ck + 1, df⟩ (2 :: acc)) (hw : GW ops g sl := by first | exact trivial | exact rfl) (hx : AH sl x = .c (.arr r k j) := by exact rfl) (hy : AH sl y = u := by exact (rfl : _ = SVal.c _)) (hs : Ft u = some ys := by exact rfl) (ht : T t = some i := by exact rfl) (hi : i.desc = .slice e := by exact rfl) (hei : T e = some ⟨esz, bts, ze, de, eq⟩ := by exact rfl) (hk : (Nat.blt 0 esz && Nat.beq ze.length esz) = true := by exact rfl) (hm : mem[r]? = some (.arr k e esz es) := by exact rfl) (hsz : ∀ el ∈ ys, el.length = esz := by first | exact A5 | exact HP (fun _ => rfl) | exact AJ rfl A5 | exact AJ rfl (AJ rfl A5) | exact AJ rfl (AJ rfl (AJ rfl A5)) | (repeat (first | exact A5 | refine AJ rfl ?_))) (hj : j ≤ es.length := by first | omega | exact Nat.le_refl _ | (simp only [BQ, GN, CP, List.length_cons, List.length_nil, IV, Fo, I8]; omega)) (hl : j + ys.length = m := by exact rfl) (hmx : (m : Int) ≤ 9223372036854775807 := by first | omega | exact Nat.le_refl _ | (simp only [BQ, GN, CP, List.length_cons, List.length_nil, IV, Fo, I8]; omega)) (hby : m * bts ≤ 140737488355328 := by first | omega | exact Nat.le_refl _ | (simp only [BQ, GN, CP, List.length_cons, List.length_nil, IV, Fo, I8]; omega)) (hes : es.take j ++ ys = es' := by first | exact L4 LZ rfl | exact L4 (by simp only [BQ, GN, CP, List.length_cons, List.length_nil]; omega) rfl | exact L4 (by simp only [BQ, GN, CP, List.length_cons, List.length_nil]) rfl | exact rfl) (hm' : mem.set r (Blk.arr (ck + 1) e esz es') = mem' := by repeat' (first | exact AT rfl | apply Az rfl)) : Reg P F0 w0 dr ops K (⟨some d, .call ⟨.builtin .append, #[x, y], #[t, t]⟩, ty, pos, aft, g⟩ :: rest) ⟨n, sl, mem, ck, df⟩ acc :=
 Yt tc.ok hw hx hy hs ht hi hei hk hm rfl hsz hj hl hmx hby hes hm' h
theorem TL [tc : TC P T] {cc : Operand} (h : Reg P F0 w0 dr ops K rest ⟨n, (d, v) :: sl, mem, ck, df⟩ (0 :: acc)) (hw : GW ops g sl := by first | exact trivial | exact rfl) (hc : AH sl cc = C6 b := by first | exact (rfl : _ = C6 true) | exact (rfl : _ = C6 false)) (hv : (match b with | true => AH sl x | false => AH sl y) = v := by first | exact (rfl : _ = SVal.c _) | exact (rfl : _ = SVal.agg _) | exact rfl) :
 Reg P F0 w0 dr ops K (⟨some d, .pick cc x y, ty, pos, aft, g⟩ :: rest) ⟨n, sl, mem, ck, df⟩ acc :=
 FD hw (fun m c => Does.of tc.ok fun τ he hm hcl Kk hK => by
  subst hm; subst hcl
  have ec := he cc (by simp [Op.operands])
  have ex := he x (by simp [Op.operands])
  have ey := he y (by simp [Op.operands])
  rw [hc] at ec
  simp only [AQ, ec, C6, lit]
  cases b with
  | true => simp only at hv; rw [hv] at ex; rw [Vf, ex]; exact hK _ _ _ _ ⟨rfl, rfl, rfl, rfl⟩
  | false => simp only at hv; rw [hv] at ey; rw [Vg, ey]; exact hK _ _ _ _ ⟨rfl, rfl, rfl, rfl⟩) h
theorem TM (h : K ⟨n, sl, mem, ck, df⟩) (hd : EY ops acc.reverse = true := by kernel_rfl) : Reg P F0 w0 true ops K [] ⟨n, sl, mem, ck, df⟩ acc := Yp hd h
theorem O5 (h : Reg P F0 w0 dr ops K (⟨dst, op, ty, pos, aft, some (j, want)⟩ :: rest) ⟨n, (dg, C6 true) :: sl, mem, ck, df⟩ acc) (hj : (ops[j]?).bind (·.dst) = some dg := by exact rfl) (hb : look sl dg = C6 b := by exact rfl) (hc : b = true := by first | with_reducible rfl | assumption | (simp only [decide_eq_true_eq, decide_eq_false_iff_not, QM, Sf, beq_iff_eq, bne_iff_ne, beq_eq_false_iff_ne, bne_eq_false_iff_eq, ne_eq, PM, QO, Bool.not_true, Bool.not_false, Bool.true_eq_false, Bool.false_eq_true, not_true_eq_false, not_false_eq_true]; done) | (simp only [decide_eq_true_eq, decide_eq_false_iff_not, QM, Sf, beq_iff_eq, bne_iff_ne, beq_eq_false_iff_ne, bne_eq_false_iff_eq, ne_eq, PM, QO, Bool.not_true, Bool.not_false, Bool.true_eq_false, Bool.false_eq_true, not_true_eq_false, not_false_eq_true]; omega) | (simp only [decide_eq_true_eq, decide_eq_false_iff_not, QM, Sf, beq_iff_eq, bne_iff_ne, beq_eq_false_iff_ne, bne_eq_false_iff_eq, ne_eq, PM, QO, Bool.not_true, Bool.not_false, Bool.true_eq_false, Bool.false_eq_true, not_true_eq_false, not_false_eq_true]; assumption)) :
 Reg P F0 w0 dr ops K (⟨dst, op, ty, pos, aft, some (j, want)⟩ :: rest) ⟨n, sl, mem, ck, df⟩ acc := Tn true hj hb hc h
theorem JH (h : Reg P F0 w0 dr ops K (⟨dst, op, ty, pos, aft, some (j, want)⟩ :: rest) ⟨n, (dg, C6 false) :: sl, mem, ck, df⟩ acc) (hj : (ops[j]?).bind (·.dst) = some dg := by exact rfl) (hb : look sl dg = C6 b := by exact rfl) (hc : b = false := by first | with_reducible rfl | assumption | (simp only [decide_eq_true_eq, decide_eq_false_iff_not, QM, Sf, beq_iff_eq, bne_iff_ne, beq_eq_false_iff_ne, bne_eq_false_iff_eq, ne_eq, PM, QO, Bool.not_true, Bool.not_false, Bool.true_eq_false, Bool.false_eq_true, not_true_eq_false, not_false_eq_true]; done) | (simp only [decide_eq_true_eq, decide_eq_false_iff_not, QM, Sf, beq_iff_eq, bne_iff_ne, beq_eq_false_iff_ne, bne_eq_false_iff_eq, ne_eq, PM, QO, Bool.not_true, Bool.not_false, Bool.true_eq_false, Bool.false_eq_true, not_true_eq_false, not_false_eq_true]; omega) | (simp only [decide_eq_true_eq, decide_eq_false_iff_not, QM, Sf, beq_iff_eq, bne_iff_ne, beq_eq_false_iff_ne, bne_eq_false_iff_eq, ne_eq, PM, QO, Bool.not_true, Bool.not_false, Bool.true_eq_false, Bool.false_eq_true, not_true_eq_false, not_false_eq_true]; assumption)) :
 Reg P F0 w0 dr ops K (⟨dst, op, ty, pos, aft, some (j, want)⟩ :: rest) ⟨n, sl, mem, ck, df⟩ acc := Tn false hj hb hc h
theorem Aq {p q : Prop} (hj : (ops[j]?).bind (·.dst) = some dg) (hb : look sl dg = C6 b) [t1 : BN b true p] [t2 : BN b false q]
 (h1 : p → Reg P F0 w0 dr ops K (⟨dst, op, ty, pos, aft, some (j, want)⟩ :: rest) ⟨n, (dg, C6 true) :: sl, mem, ck, df⟩ acc)
 (h2 : q → Reg P F0 w0 dr ops K (⟨dst, op, ty, pos, aft, some (j, want)⟩ :: rest) ⟨n, (dg, C6 false) :: sl, mem, ck, df⟩ acc) :
 Reg P F0 w0 dr ops K (⟨dst, op, ty, pos, aft, some (j, want)⟩ :: rest) ⟨n, sl, mem, ck, df⟩ acc := VU hj hb (fun e => h1 (t1.out e)) (fun e => h2 (t2.out e))
end
section
variable {P : Program} {T : TypeId → Option TI} {B : Base} {Q : Ex → St → Prop} {R : Ex → St → Prop} {ks : List Fr} {n : Nat} {sl : List (Nat × SVal)} {mem : List Blk} {ck : Nat} {df : List (FuncId × List Cell)}
theorem Xh [tc : TC P T] {id : Nat} {ops : Array Oper} {dr : Bool} (h : Reg P B.F0 B.w0 dr ops.toList (fun τ => Au P B R ks .norm τ) ops.toList ⟨n, sl, mem, ck, df⟩ []) (hd : OQ n ops.toList = true := by exact rfl) : ARun P B (.region id ops dr) ⟨n, sl, mem, ck, df⟩ (Au P B R ks) := af (σ := ⟨n, sl, mem, ck, df⟩) tc.mix hd h
theorem Xi {x y : Code} (h1 : ARun P B x ⟨n, sl, mem, ck, df⟩ Q) (hc : AH sl c = C6 b := by exact rfl) (hb : b = true := by first | with_reducible rfl | assumption | (simp only [decide_eq_true_eq, decide_eq_false_iff_not, QM, Sf, beq_iff_eq, bne_iff_ne, beq_eq_false_iff_ne, bne_eq_false_iff_eq, ne_eq, PM, QO, Bool.not_true, Bool.not_false, Bool.true_eq_false, Bool.false_eq_true, not_true_eq_false, not_false_eq_true]; done) | (simp only [decide_eq_true_eq, decide_eq_false_iff_not, QM, Sf, beq_iff_eq, bne_iff_ne, beq_eq_false_iff_ne, bne_eq_false_iff_eq, ne_eq, PM, QO, Bool.not_true, Bool.not_false, Bool.true_eq_false, Bool.false_eq_true, not_true_eq_false, not_false_eq_true]; omega) | (simp only [decide_eq_true_eq, decide_eq_false_iff_not, QM, Sf, beq_iff_eq, bne_iff_ne, beq_eq_false_iff_ne, bne_eq_false_iff_eq, ne_eq, PM, QO, Bool.not_true, Bool.not_false, Bool.true_eq_false, Bool.false_eq_true, not_true_eq_false, not_false_eq_true]; assumption)) : ARun P B (.cond c x y) ⟨n, sl, mem, ck, df⟩ Q := ak hc hb h1
theorem Xj {x y : Code} (h1 : ARun P B y ⟨n, sl, mem, ck, df⟩ Q) (hc : AH sl c = C6 b := by exact rfl) (hb : b = false := by first | with_reducible rfl | assumption | (simp only [decide_eq_true_eq, decide_eq_false_iff_not, QM, Sf, beq_iff_eq, bne_iff_ne, beq_eq_false_iff_ne, bne_eq_false_iff_eq, ne_eq, PM, QO, Bool.not_true, Bool.not_false, Bool.true_eq_false, Bool.false_eq_true, not_true_eq_false, not_false_eq_true]; done) | (simp only [decide_eq_true_eq, decide_eq_false_iff_not, QM, Sf, beq_iff_eq, bne_iff_ne, beq_eq_false_iff_ne, bne_eq_false_iff_eq, ne_eq, PM, QO, Bool.not_true, Bool.not_false, Bool.true_eq_false, Bool.false_eq_true, not_true_eq_false, not_false_eq_true]; omega) | (simp only [decide_eq_true_eq, decide_eq_false_iff_not, QM, Sf, beq_iff_eq, bne_iff_ne, beq_eq_false_iff_ne, bne_eq_false_iff_eq, ne_eq, PM, QO, Bool.not_true, Bool.not_false, Bool.true_eq_false, Bool.false_eq_true, not_true_eq_false, not_false_eq_true]; assumption)) : ARun P B (.cond c x y) ⟨n, sl, mem, ck, df⟩ Q := ao hc hb h1
theorem AN {x y : Code} {p q : Prop} (hc : AH sl c = C6 b) [t1 : BN b true p] [t2 : BN b false q] (h1 : p → ARun P B x ⟨n, sl, mem, ck, df⟩ Q) (h2 : q → ARun P B y ⟨n, sl, mem, ck, df⟩ Q) : ARun P B (.cond c x y) ⟨n, sl, mem, ck, df⟩ Q := Yu hc (fun e => h1 (t1.out e)) (fun e => h2 (t2.out e))
theorem B7 {t : Nat} {x y : Dat} (e : y = x) (h : look sl t = .c (.d y) := by exact rfl) : Ak T ⟨n, sl, mem, ck, df⟩ (.tmp t) fun s => SF mem s (.one x) := aq h e
theorem Cv {t : Nat} {x : Dat} (e : .sl [] = x) (h : look sl t = .c .emp := by exact rfl) : Ak T ⟨n, sl, mem, ck, df⟩ (.tmp t) fun s => SF mem s (.one x) := Yw h e
theorem Gx {t : Nat} {x : Dat} (h : look sl t = .c (.arr r k m)) (hm : mem[r]? = some (.arr k ety esz es)) (hl : m ≤ es.length) (e : .sl (es.take m) = x) : Ak T ⟨n, sl, mem, ck, df⟩ (.tmp t) fun s => SF mem s (.one x) := Yx h hm hl e
theorem Du {a t : Nat} {xs : List Dat} (hc : CFs mem cs1 xs) (h : look sl a = .c (.bp r k o) := by exact rfl) (ht : T t = some i := by exact rfl) (ha : i.desc.agg = true := by exact rfl) (hm : mem[r]? = some (.box k cs) := by exact rfl) (hs : decide (o + i.size ≤ cs.length) = true := by exact rfl) (hcs : (cs.drop o).take i.size = cs1 := by repeat' (first | exact AT rfl | apply Az rfl)) : Ak T ⟨n, sl, mem, ck, df⟩ (.cell a t) fun s => SF mem s (.agg xs) := V0 h ht ha hm hs hcs hc
theorem A0 {X : Type} (W : List Nat) (Inv : X → Prop) (chg : X → List (Nat × SVal) → List (Nat × SVal)) (memF : X → List Blk) (m : X → Nat) (x0 : X) {keep : List (Nat × SVal)} {c : Code}
 (hs : Ag ⟨n, sl, mem, ck, df⟩ (chg x0 [])) (hm : Ar mem (memF x0)) (hx : Inv x0)
 (h : ∀ x k, Inv x → ARun P B c ⟨n, chg x keep, memF x, k, df⟩ (Au P B (Da P B R ks (LoopG Inv chg memF m W keep n df x)) []))
 (hk : Keep W sl keep := by repeat (first | exact Keep.nil _ | apply Keep.out rfl | apply Keep.into rfl)) (hch : ∀ x l, chg x l = chg x [] ++ l := by exact fun _ _ => rfl) : ARun P B (.loop c) ⟨n, sl, mem, ck, df⟩ (Au P B R ks) := cp W Inv chg memF m x0 hk hch hs hm hx h
theorem Ad {X : Type} {Inv : X → Prop} {chg : X → List (Nat × SVal) → List (Nat × SVal)} {memF : X → List Blk} {m : X → Nat} {W : List Nat} {keep : List (Nat × SVal)} {x : X} (y : X) (hs : Ag ⟨n, sl, mem, ck, df⟩ (chg y [])) (hm : Ar mem (memF y)) (hi : Inv y) (hd : m y < m x) (hp : Pre W keep sl := by repeat (first | exact Pre.here | refine Pre.cons rfl ?_)) :
 Au P B (Da P B R ks (LoopG Inv chg memF m W keep n df x)) [] .norm ⟨n, sl, mem, ck, df⟩ := VY y hs hp hm hi hd
theorem w1 {t : Nat} (k : Ag ⟨n, sl, mem, ck, df⟩ l) (hu : look sl t = u := by exact rfl) (h : VLe u v := by first | exact To | exact P8 (by omega) | exact P9 (by first | exact rfl | omega) (by first | exact rfl | omega | (simp only [CP, BQ, List.length_cons, List.length_nil, GN, Fo]; done) | (simp only [CP, BQ, List.length_cons, List.length_nil, GN, Fo]; omega)) | exact Qa) : Ag ⟨n, sl, mem, ck, df⟩ ((t, v) :: l) := DP hu h k
theorem w2 {t : Nat} {i : IntKind} {b : Int} (h : a = b) (k : Ag ⟨n, sl, mem, ck, df⟩ l) (hu : look sl t = .c (.d (.lit (.int i a))) := by exact rfl) : Ag ⟨n, sl, mem, ck, df⟩ ((t, .c (.d (.lit (.int i b)))) :: l) := DP hu (P8 h) k
theorem w3 {t : Nat} {a b : Dat} (h : a = b) (k : Ag ⟨n, sl, mem, ck, df⟩ l) (hu : look sl t = .c (.d a) := by exact rfl) : Ag ⟨n, sl, mem, ck, df⟩ ((t, .c (.d b)) :: l) := DP hu (ai h) k
theorem w4 {t : Nat} {a : List (List Dat)} (h : a = []) (k : Ag ⟨n, sl, mem, ck, df⟩ l) (hu : look sl t = .c .emp := by exact rfl) : Ag ⟨n, sl, mem, ck, df⟩ ((t, .c (.d (.sl a))) :: l) := DP hu (Tp h) k
theorem w5 {t m1 : Nat} (h : m = m1) (q : Ag ⟨n, sl, mem, ck, df⟩ l) (hu : look sl t = .c (.arr r k m) := by exact rfl) : Ag ⟨n, sl, mem, ck, df⟩ ((t, .c (.arr r k m1)) :: l) := DP hu (P9 rfl h) q
theorem m1 {k1 : Nat} {z : Nat} {es1 : List (List Dat)} {a b : List Blk} (he : es = es1) (h : Ar a b) (hk : k = k1 := by first | exact rfl | omega) : Ar (.arr k t z es :: a) (.arr k1 t z es1 :: b) := Rf hk he h
theorem m2 {k1 : Nat} {a b : List Blk} (he : cs = cs1) (h : Ar a b) (hk : k = k1 := by exact rfl) : Ar (.box k cs :: a) (.box k1 cs1 :: b) := Rg hk he h
theorem Cr (t : Nat) (ety : TypeId) (esz : Nat) {m1 : List Blk} {c : Code} (h : ARun P B c ⟨n, (t, .c (.arr r (ck + 1) 0)) :: sl, m1, ck + 1, df⟩ Q) (ht : look sl t = .c .emp := by exact rfl) (hz : Nat.blt 0 esz = true := by exact rfl) (hr : mem.length = r := by first | exact (rfl : _ = 0) | exact (rfl : _ = 1) | exact (rfl : _ = 2) | exact (rfl : _ = 3) | exact (rfl : _ = 4) | exact (rfl : _ = 5) | exact (rfl : _ = 6) | exact (rfl : _ = 7) | exact (rfl : _ = 8) | exact (rfl : _ = 9) | exact (rfl : _ = 10) | exact (rfl : _ = 11) | exact (rfl : _ = 12) | exact (rfl : _ = 13) | exact (rfl : _ = 14) | exact (rfl : _ = 15)) (hm : mem ++ [Blk.arr (ck + 1) ety esz []] = m1 := by repeat' (first | exact AT rfl | apply Az rfl)) : ARun P B c ⟨n, sl, mem, ck, df⟩ Q := Yv t ety esz ht hz hr hm h
theorem G8 (r j : Nat) (ety : TypeId) (esz : Nat) {r1 : Nat} {m1 : List Blk} {c : Code} (h : ARun P B c ⟨n, sl, m1, ck + 1, df⟩ Q) (hm : mem[r]? = some (.box k cs) := by exact rfl) (hj : cs[j]? = some .emp := by exact rfl) (hz : Nat.blt 0 esz = true := by exact rfl) (hr : mem.length = r1 := by first | exact (rfl : _ = 0) | exact (rfl : _ = 1) | exact (rfl : _ = 2) | exact (rfl : _ = 3) | exact (rfl : _ = 4) | exact (rfl : _ = 5) | exact (rfl : _ = 6) | exact (rfl : _ = 7) | exact (rfl : _ = 8) | exact (rfl : _ = 9) | exact (rfl : _ = 10) | exact (rfl : _ = 11) | exact (rfl : _ = 12) | exact (rfl : _ = 13) | exact (rfl : _ = 14) | exact (rfl : _ = 15)) (hcs : cs.set j (.arr r1 (ck + 1) 0) = cs1 := by repeat' (first | exact AT rfl | apply Az rfl)) (hm1 : mem.set r (.box k cs1) ++ [Blk.arr (ck + 1) ety esz []] = m1 := by repeat' (first | exact AT rfl | apply Az rfl)) : ARun P B c ⟨n, sl, mem, ck, df⟩ Q := Rh r j ety esz hm hj hz hr hcs hm1 h
theorem Bc (t : Nat) {es1 : List (List Dat)} {m1 : List Blk} {c : Code} (h : ARun P B c ⟨n, (t, .c (.d (.sl es1))) :: sl, m1, ck, df⟩ Q) (ht : look sl t = .c (.arr r k m) := by exact rfl) (hm : mem[r]? = some (.arr k ety esz es) := by exact rfl) (hl : m ≤ es.length := by first | omega | exact Nat.le_refl _ | (simp only [BQ, GN, CP, List.length_cons, List.length_nil, IV, Fo, I8]; omega)) (hes : es.take m = es1 := by first | exact G7 | exact rfl) (hm1 : mem.set r .dead = m1 := by repeat' (first | exact AT rfl | apply Az rfl)) : ARun P B c ⟨n, sl, mem, ck, df⟩ Q := Tr t ht hm hl hes hm1 h
end
end Go.Abs
end
