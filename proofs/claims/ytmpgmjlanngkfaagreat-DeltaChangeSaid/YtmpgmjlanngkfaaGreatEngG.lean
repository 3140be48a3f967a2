/-
  The rules of the walk, once more: what the walk always gives in the same way is found by itself.
-/
import Derived.Test.YtmpgmjlanngkfaaGreatEnB
section
namespace Go.Abs
open Go.RowKit
variable {a z z' : Int} {mT : Array TypeId} {b eq want : Bool} {qh i6 f j k m o off r : Nat} {c x y : Operand} {cs jq mb : List Cell} {de : TD} {dg : Tmp} {dst : Option Tmp} {e iX ft s t t' : TypeId} {ei i : TI} {es ji : List (List Dat)} {fs : List (Nat × TypeId)} {hi lo : Option Operand} {kk : IntKind} {l : List (Nat × SVal)} {f' : List Blk} {u v : SVal} {ze : List Value}
class TC (P : Program) (T : outParam (TypeId → Option TI)) : Prop where
 ok : AL P T
 mix : P.follows .mixedOrders = true
class BN (b v : Bool) (p : outParam Prop) : Prop where
 out : b = v → p
instance (priority := 10) vM (b v : Bool) : BN b v (b = v) := ⟨id⟩
instance bn_dec_t {p : Prop} [Decidable p] : BN (decide p) true p := ⟨of_decide_eq_true⟩
instance (priority := 900) tD {p : Prop} [Decidable p] : BN (decide p) false (¬ p) := ⟨of_decide_eq_false⟩
instance bn_lt_f {a b : Int} : BN (decide (a < b)) false (b ≤ a) := ⟨fun h => Q4.1 (of_decide_eq_false h)⟩
instance bn_le_f {a b : Int} : BN (decide (a ≤ b)) false (b < a) := ⟨fun h => Tt.1 (of_decide_eq_false h)⟩
instance bn_eq_t {a b : Int} : BN (a == b) true (a = b) := ⟨fun h => by simpa using h⟩
instance bn_eq_f {a b : Int} : BN (a == b) false (¬ a = b) := ⟨fun h => by simpa using h⟩
instance bn_ne_t {a b : Int} : BN (a != b) true (¬ a = b) := ⟨fun h => by simpa using h⟩
instance bn_ne_f {a b : Int} : BN (a != b) false (a = b) := ⟨fun h => by simpa using h⟩
instance bn_not_t {b : Bool} {p : Prop} [h : BN b false p] : BN (!b) true p := ⟨fun q => h.out (by simpa using q)⟩
instance bn_not_f {b : Bool} {p : Prop} [h : BN b true p] : BN (!b) false p := ⟨fun q => h.out (by simpa using q)⟩
theorem IG {α : Type} {f : α → List Dat} {l : List α} : (l.map f).take l.length = l.map f := JF (by simp)
section
variable {P : Program} {T : TypeId → Option TI} {F0 : Nat → Prop} {w0 : World} {dr : Bool} {ops rest : List Oper} {K : St → Prop} {n : Nat} {sl : List (Nat × SVal)} {mem : List Blk} {ck : Nat} {df : List (FuncId × List Cell)} {acc : List Nat}
variable {d : Tmp} {op : Op} {ty : TypeId} {pos : String} {iU : Array Edge} {g : Option (Nat × Bool)}
theorem SH (h : Reg P F0 w0 dr ops K rest ⟨n, (d, .und) :: sl, mem, ck, df⟩ (0 :: acc)) (hj : (ops[j]?).bind (·.dst) = some dg := by exact rfl) (hb : look sl dg = DP !want := by exact rfl) :
  Reg P F0 w0 dr ops K (⟨some d, op, ty, pos, iU, some (j, want)⟩ :: rest) ⟨n, sl, mem, ck, df⟩ acc :=
 Yv hj hb h
theorem SI (h : Reg P F0 w0 dr ops K rest ⟨n, (d, .und) :: sl, mem, ck, df⟩ (0 :: acc)) (hj : (ops[j]?).bind (·.dst) = some dg := by exact rfl) (hb : look sl dg = .und := by exact rfl) :
  Reg P F0 w0 dr ops K (⟨some d, op, ty, pos, iU, some (j, want)⟩ :: rest) ⟨n, sl, mem, ck, df⟩ acc :=
 Yw hj hb h
theorem Wd [tc : TC P T] (h : Reg P F0 w0 dr ops K rest ⟨n, (d, v) :: sl, mem, ck, df⟩ (0 :: acc)) (hw : GW ops g sl := by first | exact trivial | exact rfl) (hx : AH sl x = v := by first | exact (rfl : _ = SVal.c _) | exact (rfl : _ = SVal.agg _) | exact (rfl : _ = SVal.tup _) | exact (rfl : _ = SVal.und) | exact rfl) :
  Reg P F0 w0 dr ops K (⟨some d, .move x, ty, pos, iU, g⟩ :: rest) ⟨n, sl, mem, ck, df⟩ acc :=
 Gp hw (fun m c => Does.of tc.ok fun τ he hm hc Kk hK => by
  subst hm; subst hc
  have ex := he x (by simp [Op.operands])
  rw [hx] at ex
  simp only [AV, ex]
  exact hK _ _ _ _ ⟨rfl, rfl, rfl, rfl⟩) h
theorem Px [tc : TC P T] (h : Reg P F0 w0 dr ops K rest ⟨n, (d, v) :: sl, mem, ck, df⟩ (0 :: acc)) (hw : GW ops g sl := by first | exact trivial | exact rfl) (hx : AH sl x = v := by first | exact (rfl : _ = SVal.c _) | exact (rfl : _ = SVal.agg _) | exact (rfl : _ = SVal.tup _) | exact (rfl : _ = SVal.und) | exact rfl) :
  Reg P F0 w0 dr ops K (⟨some d, .assign x, ty, pos, iU, g⟩ :: rest) ⟨n, sl, mem, ck, df⟩ acc :=
 Gp hw (fun m c => Does.of tc.ok fun τ he hm hc Kk hK => by
  subst hm; subst hc
  have ex := he x (by simp [Op.operands])
  rw [hx] at ex
  simp only [AV, ex]
  exact hK _ _ _ _ ⟨rfl, rfl, rfl, rfl⟩) h
theorem SJ [tc : TC P T] (h : Reg P F0 w0 dr ops K rest ⟨n, (d, .c (.bp r (ck + 1) 0)) :: sl, f', ck + 1, df⟩ (3 :: acc)) (hw : GW ops g sl := by first | exact trivial | exact rfl) (ht : T t = some i := by exact rfl) (hr : mem.length = r := by first | exact (rfl : _ = 0) | exact (rfl : _ = 1) | exact (rfl : _ = 2) | exact (rfl : _ = 3) | exact (rfl : _ = 4) | exact (rfl : _ = 5) | exact (rfl : _ = 6) | exact (rfl : _ = 7) | exact (rfl : _ = 8) | exact (rfl : _ = 9) | exact (rfl : _ = 10) | exact (rfl : _ = 11) | exact (rfl : _ = 12) | exact (rfl : _ = 13) | exact (rfl : _ = 14) | exact (rfl : _ = 15)) (jF : i.zero.map B0 = cs := by repeat' (first | exact A6 rfl | apply AG rfl)) (iZ : mem ++ [Blk.box (ck + 1) cs] = f' := by repeat' (first | exact A6 rfl | apply AG rfl)) : Reg P F0 w0 dr ops K (⟨some d, .alloc t, ty, pos, iU, g⟩ :: rest) ⟨n, sl, mem, ck, df⟩ acc :=  by
  subst hr; subst jF; subst iZ
  exact gY hw (Does.of tc.ok fun τ he hm hc Kk hK => by
    subst hm; subst hc
    simp only [AV, ht]
    exact hK _ _ _ _ ⟨rfl, rfl, rfl, rfl⟩) h
theorem Py [tc : TC P T] {e : List Dat} {y : Dat}  (h : Reg P F0 w0 dr ops K rest ⟨n, (d, .c (.d y)) :: sl, mem, ck, df⟩ (0 :: acc)) (hw : GW ops g sl := by first | exact trivial | exact rfl) (hx : AH sl x = .c (.fp e o) := by exact rfl) (ht : T t = some i := by exact rfl) (ha : i.desc.agg = false := by exact rfl) (hs : i.size = 1 := by exact rfl) (hy : e[o]? = some y := by exact rfl) : Reg P F0 w0 dr ops K (⟨some d, .load t x, ty, pos, iU, g⟩ :: rest) ⟨n, sl, mem, ck, df⟩ acc :=
 Gp hw (fun m c => Does.of tc.ok fun τ he hm hc Kk hK => by
  subst hm; subst hc
  have ex := he x (by simp [Op.operands])
  rw [hx] at ex
  have i7 := lt_of_getElem? hy
  have e1 : (e.drop o).take 1 = [y] := by
    rw [aQ i7]
    rw [Bo i7] at hy
    simp at hy
    simp [hy]
  simp only [AV, Du, ht, ex, ha, hs]
  refine ⟨.inr trivial, i7, ?_⟩
  rw [e1]
  exact hK _ _ _ _ ⟨rfl, rfl, rfl, rfl⟩) h
theorem Pz [tc : TC P T] {e : List Dat} (h : Reg P F0 w0 dr ops K rest ⟨n, (d, .agg cs) :: sl, mem, ck, df⟩ (0 :: acc)) (hw : GW ops g sl := by first | exact trivial | exact rfl) (hx : AH sl x = .c (.fp e o) := by exact rfl) (ht : T t = some i := by exact rfl) (ha : i.desc.agg = true := by exact rfl) (hs : decide (o + i.size ≤ e.length) = true := by exact rfl) (jF : ((e.drop o).take i.size).map Cell.d = cs := by repeat' (first | exact A6 rfl | apply AG rfl)) : Reg P F0 w0 dr ops K (⟨some d, .load t x, ty, pos, iU, g⟩ :: rest) ⟨n, sl, mem, ck, df⟩ acc :=
 Gp hw (fun m c => Does.of tc.ok fun τ he hm hc Kk hK => by
  subst hm; subst hc; subst jF
  have ex := he x (by simp [Op.operands])
  rw [hx] at ex
  simp only [AV, Du, ht, ex, ha]
  refine ⟨.inl trivial, by simpa using hs, ?_⟩
  exact hK _ _ _ _ ⟨rfl, rfl, rfl, rfl⟩) h
theorem PA [tc : TC P T] {y : Cell}  (h : Reg P F0 w0 dr ops K rest ⟨n, (d, .c y) :: sl, mem, ck, df⟩ (1 :: acc)) (hw : GW ops g sl := by first | exact trivial | exact rfl) (hx : AH sl x = .c (.bp r k o) := by exact rfl) (ht : T t = some i := by exact rfl) (ha : i.desc.agg = false := by exact rfl) (hs : i.size = 1 := by exact rfl) (hm : mem[r]? = some (.box k cs) := by exact rfl) (hy : cs[o]? = some y := by exact rfl) : Reg P F0 w0 dr ops K (⟨some d, .load t x, ty, pos, iU, g⟩ :: rest) ⟨n, sl, mem, ck, df⟩ acc :=
 Dh hw hm (fun mem ck hm => Does.of tc.ok fun τ he jn hc Kk hK => by
  subst jn; subst hc
  have ex := he x (by simp [Op.operands])
  rw [hx] at ex
  have i7 := lt_of_getElem? hy
  have e1 : (cs.drop o).take 1 = [y] := by
    rw [aQ i7]
    rw [Bo i7] at hy
    simp at hy
    simp [hy]
  simp only [AV, Du, ht, ex, ha, hs, hm]
  refine ⟨.inr trivial, trivial, i7, ?_⟩
  rw [e1]
  exact hK _ _ _ _ ⟨rfl, rfl, rfl, rfl⟩) h
theorem PB [tc : TC P T] (h : Reg P F0 w0 dr ops K rest ⟨n, (d, .agg jq) :: sl, mem, ck, df⟩ (1 :: acc)) (hw : GW ops g sl := by first | exact trivial | exact rfl) (hx : AH sl x = .c (.bp r k o) := by exact rfl) (ht : T t = some i := by exact rfl) (ha : i.desc.agg = true := by exact rfl) (hm : mem[r]? = some (.box k cs) := by exact rfl) (hs : decide (o + i.size ≤ cs.length) = true := by exact rfl) (jF : (cs.drop o).take i.size = jq := by repeat' (first | exact A6 rfl | apply AG rfl)) : Reg P F0 w0 dr ops K (⟨some d, .load t x, ty, pos, iU, g⟩ :: rest) ⟨n, sl, mem, ck, df⟩ acc :=
 Dh hw hm (fun mem ck hm => Does.of tc.ok fun τ he jn hc Kk hK => by
  subst jn; subst hc; subst jF
  have ex := he x (by simp [Op.operands])
  rw [hx] at ex
  simp only [AV, Du, ht, ex, ha, hm]
  refine ⟨.inl trivial, trivial, by simpa using hs, ?_⟩
  exact hK _ _ _ _ ⟨rfl, rfl, rfl, rfl⟩) h
theorem PD [tc : TC P T] {e : List Dat} {y : Dat}  (h : Reg P F0 w0 dr ops K rest ⟨n, (d, .c (.d y)) :: sl, mem, ck, df⟩ (1 :: acc)) (hw : GW ops g sl := by first | exact trivial | exact rfl) (hx : AH sl x = .c (.ap r k i6 j o) := by exact rfl) (ht : T t = some i := by exact rfl) (ha : i.desc.agg = false := by exact rfl) (hs : i.size = 1 := by exact rfl) (hm : mem[r]? = some (.arr k iX i6 es) := by exact rfl) (kd : es[j]? = some e) (hy : e[o]? = some y := by exact rfl) : Reg P F0 w0 dr ops K (⟨some d, .load t x, ty, pos, iU, g⟩ :: rest) ⟨n, sl, mem, ck, df⟩ acc :=
 Dh hw hm (fun mem ck hm => Does.of tc.ok fun τ he jn hc Kk hK => by
  subst jn; subst hc
  have ex := he x (by simp [Op.operands])
  rw [hx] at ex
  have i7 := lt_of_getElem? hy
  have e1 : (e.drop o).take 1 = [y] := by
    rw [aQ i7]
    rw [Bo i7] at hy
    simp at hy
    simp [hy]
  simp only [AV, Du, ht, ex, ha, hs, hm]
  refine ⟨.inr trivial, trivial, trivial, Cg kd ⟨i7, ?_⟩⟩
  rw [e1]
  exact hK _ _ _ _ ⟨rfl, rfl, rfl, rfl⟩) h
theorem PE [tc : TC P T] {e : List Dat} (h : Reg P F0 w0 dr ops K rest ⟨n, (d, .agg cs) :: sl, mem, ck, df⟩ (1 :: acc)) (hw : GW ops g sl := by first | exact trivial | exact rfl) (hx : AH sl x = .c (.ap r k i6 j o) := by exact rfl) (ht : T t = some i := by exact rfl) (ha : i.desc.agg = true := by exact rfl) (hm : mem[r]? = some (.arr k iX i6 es) := by exact rfl) (kd : es[j]? = some e) (hs : decide (o + i.size ≤ e.length) = true := by exact rfl) (jF : ((e.drop o).take i.size).map Cell.d = cs := by repeat' (first | exact A6 rfl | apply AG rfl)) : Reg P F0 w0 dr ops K (⟨some d, .load t x, ty, pos, iU, g⟩ :: rest) ⟨n, sl, mem, ck, df⟩ acc :=
 Dh hw hm (fun mem ck hm => Does.of tc.ok fun τ he jn hc Kk hK => by
  subst jn; subst hc; subst jF
  have ex := he x (by simp [Op.operands])
  rw [hx] at ex
  simp only [AV, Du, ht, ex, ha, hm]
  refine ⟨.inl trivial, trivial, trivial, Cg kd ⟨by simpa using hs, ?_⟩⟩
  exact hK _ _ _ _ ⟨rfl, rfl, rfl, rfl⟩) h
theorem EN [tc : TC P T] {lg : List Cell} (h : Reg P F0 w0 dr ops K rest ⟨n, sl, f', ck, df⟩ (2 :: acc)) (hw : GW ops g sl := by first | exact trivial | exact rfl) (hx : AH sl x = .c (.bp r k o) := by exact rfl) (hy : AH sl y = v := by first | exact (rfl : _ = SVal.c _) | exact (rfl : _ = SVal.agg _) | exact (rfl : _ = SVal.tup _) | exact (rfl : _ = SVal.und) | exact rfl) (hc : v.cells = some cs := by exact rfl) (ht : T t = some i := by exact rfl) (hl : cs.length = i.size := by exact rfl) (hm : mem[r]? = some (.box k lg) := by exact rfl) (hs : decide (o + i.size ≤ lg.length) = true := by exact rfl) (jF : lg.take o ++ cs ++ lg.drop (o + i.size) = jq := by repeat' (first | exact A6 rfl | apply AG rfl)) (iZ : mem.set r (.box k jq) = f' := by repeat' (first | exact A6 rfl | apply AG rfl)) : Reg P F0 w0 dr ops K (⟨none, .store t x y, ty, pos, iU, g⟩ :: rest) ⟨n, sl, mem, ck, df⟩ acc :=
 IE (jx := []) (v := .junk) hw (Does.of tc.ok fun τ he jn je Kk hK => by
  subst jn; subst je; subst jF; subst iZ
  have ex := he x (by simp [Op.operands])
  have ey := he y (by simp [Op.operands])
  rw [hx] at ex
  rw [hy] at ey
  simp only [AV, Fe, ht, ex, ey, hc, hm]
  exact ⟨hl, trivial, by simpa using hs, hK _ _ _ _ ⟨rfl, rfl, rfl, rfl⟩⟩) h
theorem PF [tc : TC P T] {e e' : List Dat} {ds : List Dat} (h : Reg P F0 w0 dr ops K rest ⟨n, sl, f', ck, df⟩ (2 :: acc)) (hw : GW ops g sl := by first | exact trivial | exact rfl) (hx : AH sl x = .c (.ap r k i6 j o) := by exact rfl) (hy : AH sl y = v := by first | exact (rfl : _ = SVal.c _) | exact (rfl : _ = SVal.agg _) | exact (rfl : _ = SVal.tup _) | exact (rfl : _ = SVal.und) | exact rfl) (hc : v.cells = some cs := by exact rfl) (nw : Eh cs = some ds := by exact rfl) (ht : T t = some i := by exact rfl) (hl : cs.length = i.size := by exact rfl) (hm : mem[r]? = some (.arr k iX i6 es) := by exact rfl) (hs : decide (o + i.size ≤ i6) = true := by exact rfl) (hj : es[j]? = some e) (kd : e.take o ++ ds ++ e.drop (o + i.size) = e' := by exact rfl) (j6 : es.set j e' = ji := by exact rfl) (iZ : mem.set r (.arr k iX i6 ji) = f' := by repeat' (first | exact A6 rfl | apply AG rfl)) : Reg P F0 w0 dr ops K (⟨none, .store t x y, ty, pos, iU, g⟩ :: rest) ⟨n, sl, mem, ck, df⟩ acc :=
 IE (jx := []) (v := .junk) hw (Does.of tc.ok fun τ he jn je Kk hK => by
  subst jn; subst je; subst kd; subst j6; subst iZ
  have ex := he x (by simp [Op.operands])
  have ey := he y (by simp [Op.operands])
  rw [hx] at ex
  rw [hy] at ey
  simp only [AV, Fe, ht, ex, ey, hc, hm, nw]
  exact ⟨hl, trivial, trivial, by simpa using hs, Cg hj (hK _ _ _ _ ⟨rfl, rfl, rfl, rfl⟩)⟩) h
theorem PG [tc : TC P T] {j : TI} {e : List Dat} (h : Reg P F0 w0 dr ops K rest ⟨n, (d, .c (.fp e (o + off))) :: sl, mem, ck, df⟩ (0 :: acc)) (hw : GW ops g sl := by first | exact trivial | exact rfl) (hx : AH sl x = .c (.fp e o) := by exact rfl) (hs : T s = some i := by exact rfl) (hi : i.desc = .struct fs := by exact rfl) (hf : fs[f]? = some (off, ft) := by exact rfl) (hj : T ft = some j := by exact rfl) (hz : decide (j.size ≠ 0) = true := by exact rfl) : Reg P F0 w0 dr ops K (⟨some d, .fieldAddr s x f, ty, pos, iU, g⟩ :: rest) ⟨n, sl, mem, ck, df⟩ acc :=
 Gp hw (fun m c => Does.of tc.ok fun τ he hm hc Kk hK => by
  subst hm; subst hc
  have ex := he x (by simp [Op.operands])
  rw [hx] at ex
  obtain ⟨a1, a2, a3, a4, a5⟩ := i
  simp only at hi
  subst hi
  simp only [AV, FM, hs, hf, hj, ex]
  exact ⟨by simpa using hz, hK _ _ _ _ ⟨rfl, rfl, rfl, rfl⟩⟩) h
theorem PH [tc : TC P T] {j : TI} (h : Reg P F0 w0 dr ops K rest ⟨n, (d, .c (.bp r k (o + off))) :: sl, mem, ck, df⟩ (1 :: acc)) (hw : GW ops g sl := by first | exact trivial | exact rfl) (hx : AH sl x = .c (.bp r k o) := by exact rfl) (hs : T s = some i := by exact rfl) (hi : i.desc = .struct fs := by exact rfl) (hf : fs[f]? = some (off, ft) := by exact rfl) (hj : T ft = some j := by exact rfl) (hz : decide (j.size ≠ 0) = true := by exact rfl) (hm : mem[r]? = some (.box k cs) := by exact rfl) : Reg P F0 w0 dr ops K (⟨some d, .fieldAddr s x f, ty, pos, iU, g⟩ :: rest) ⟨n, sl, mem, ck, df⟩ acc :=
 Dh hw hm (fun mem ck hm => Does.of tc.ok fun τ he jn hc Kk hK => by
  subst jn; subst hc
  have ex := he x (by simp [Op.operands])
  rw [hx] at ex
  obtain ⟨a1, a2, a3, a4, a5⟩ := i
  simp only at hi
  subst hi
  simp only [AV, FM, hs, hf, hj, ex, C1, hm]
  exact ⟨by simpa using hz, trivial, hK _ _ _ _ ⟨rfl, rfl, rfl, rfl⟩⟩) h
theorem PI [tc : TC P T] {j : TI} {z : Nat} (h : Reg P F0 w0 dr ops K rest ⟨n, (d, .c (.ap r k i6 z (o + off))) :: sl, mem, ck, df⟩ (1 :: acc)) (hw : GW ops g sl := by first | exact trivial | exact rfl) (hx : AH sl x = .c (.ap r k i6 z o) := by exact rfl) (hs : T s = some i := by exact rfl) (hi : i.desc = .struct fs := by exact rfl) (hf : fs[f]? = some (off, ft) := by exact rfl) (hj : T ft = some j := by exact rfl) (hz : decide (j.size ≠ 0) = true := by exact rfl) (hm : mem[r]? = some (.arr k iX i6 es) := by exact rfl) : Reg P F0 w0 dr ops K (⟨some d, .fieldAddr s x f, ty, pos, iU, g⟩ :: rest) ⟨n, sl, mem, ck, df⟩ acc :=
 Dh hw hm (fun mem ck hm => Does.of tc.ok fun τ he jn hc Kk hK => by
  subst jn; subst hc
  have ex := he x (by simp [Op.operands])
  rw [hx] at ex
  obtain ⟨a1, a2, a3, a4, a5⟩ := i
  simp only at hi
  subst hi
  simp only [AV, FM, hs, hf, hj, ex, C1, hm]
  exact ⟨by simpa using hz, trivial, hK _ _ _ _ ⟨rfl, rfl, rfl, rfl⟩⟩) h
theorem K4 [tc : TC P T] {el : List Dat}  (h : Reg P F0 w0 dr ops K rest ⟨n, (d, .c (.fp el 0)) :: sl, mem, ck, df⟩ (0 :: acc)) (hw : GW ops g sl := by first | exact trivial | exact rfl) (hx : AH sl x = .c (.d (.sl es)) := by exact rfl) (hy : AH sl y = .c (.d (.lit (.int kk z))) := by exact rfl) (ht : T t = some i := by exact rfl) (hi : i.desc = .slice e := by exact rfl) (kd : T e = some ei := by exact rfl) (hz : 0 ≤ z := by omega) (jo : es[z.toNat]? = some el) (hl : el.length = ei.size := by exact rfl) : Reg P F0 w0 dr ops K (⟨some d, .indexAddr t x y, ty, pos, iU, g⟩ :: rest) ⟨n, sl, mem, ck, df⟩ acc :=
 Gp hw (fun m c => Does.of tc.ok fun τ he hm hc Kk hK => by
  subst hm; subst hc
  have ex := he x (by simp [Op.operands])
  have ey := he y (by simp [Op.operands])
  rw [hx] at ex
  rw [hy] at ey
  obtain ⟨a1, a2, a3, a4, a5⟩ := i
  simp only at hi
  subst hi
  simp only [AV, Ff, ht, kd, ex, ey]
  exact ⟨hz, Cg jo ⟨hl, hK _ _ _ _ ⟨rfl, rfl, rfl, rfl⟩⟩⟩) h
theorem PJ [tc : TC P T] (h : Reg P F0 w0 dr ops K rest ⟨n, (d, .c (.ap r k i6 j 0)) :: sl, mem, ck, df⟩ (1 :: acc)) (hw : GW ops g sl := by first | exact trivial | exact rfl) (hx : AH sl x = .c (.arr r k m) := by exact rfl) (hy : AH sl y = .c (.d (.lit (.int kk z))) := by exact rfl) (ht : T t = some i := by exact rfl) (hi : i.desc = .slice e := by exact rfl) (kd : T e = some ei := by exact rfl) (hm : mem[r]? = some (.arr k iX i6 es) := by exact rfl) (j3 : i6 = ei.size := by exact rfl) (hz : 0 ≤ z := by omega) (nK : z < (m : Int) := by omega) (mK : m ≤ es.length := by first | omega | exact Nat.le_refl _ | (simp only [BR, Gu, CR, List.length_cons, List.length_nil, JG, Fm, J6]; omega)) (hj : z.toNat = j := by first | exact To _ | exact rfl) : Reg P F0 w0 dr ops K (⟨some d, .indexAddr t x y, ty, pos, iU, g⟩ :: rest) ⟨n, sl, mem, ck, df⟩ acc :=
 Dh hw hm (fun mem ck hm => Does.of tc.ok fun τ he jn hc Kk hK => by
  subst jn; subst hc; subst hj
  have ex := he x (by simp [Op.operands])
  have ey := he y (by simp [Op.operands])
  rw [hx] at ex
  rw [hy] at ey
  obtain ⟨a1, a2, a3, a4, a5⟩ := i
  simp only at hi
  subst hi
  simp only [AV, Ff, ht, kd, ex, ey, hm]
  exact ⟨hz, nK, trivial, j3, mK, hK _ _ _ _ ⟨rfl, rfl, rfl, rfl⟩⟩) h
theorem MF [tc : TC P T] {el : List Dat}  (h : Reg P F0 w0 dr ops K rest ⟨n, (d, .c (.fp el (o + z.toNat * ei.size))) :: sl, mem, ck, df⟩ (0 :: acc)) (hw : GW ops g sl := by first | exact trivial | exact rfl) (hx : AH sl x = .c (.fp el o) := by exact rfl) (hy : AH sl y = .c (.d (.lit (.int kk z))) := by exact rfl) (ht : T t = some i := by exact rfl) (hi : i.desc = .array m e := by exact rfl) (kd : T e = some ei := by exact rfl) (hz : 0 ≤ z := by omega) (nK : z < (m : Int) := by omega) : Reg P F0 w0 dr ops K (⟨some d, .indexAddr t x y, ty, pos, iU, g⟩ :: rest) ⟨n, sl, mem, ck, df⟩ acc :=
 Gp hw (fun m c => Does.of tc.ok fun τ he hm hc Kk hK => by
  subst hm; subst hc
  have ex := he x (by simp [Op.operands])
  have ey := he y (by simp [Op.operands])
  rw [hx] at ex
  rw [hy] at ey
  obtain ⟨a1, a2, a3, a4, a5⟩ := i
  simp only at hi
  subst hi
  simp only [AV, Ff, ht, kd, ex, ey]
  exact ⟨hz, nK, hK _ _ _ _ ⟨rfl, rfl, rfl, rfl⟩⟩) h
theorem MG [tc : TC P T] (h : Reg P F0 w0 dr ops K rest ⟨n, (d, .c (.bp r k (o + z.toNat * ei.size))) :: sl, mem, ck, df⟩ (1 :: acc)) (hw : GW ops g sl := by first | exact trivial | exact rfl) (hx : AH sl x = .c (.bp r k o) := by exact rfl) (hy : AH sl y = .c (.d (.lit (.int kk z))) := by exact rfl) (ht : T t = some i := by exact rfl) (hi : i.desc = .array m e := by exact rfl) (kd : T e = some ei := by exact rfl) (hm : mem[r]? = some (.box k cs) := by exact rfl) (hz : 0 ≤ z := by omega) (nK : z < (m : Int) := by omega) : Reg P F0 w0 dr ops K (⟨some d, .indexAddr t x y, ty, pos, iU, g⟩ :: rest) ⟨n, sl, mem, ck, df⟩ acc :=
 Dh hw hm (fun mem ck hm => Does.of tc.ok fun τ he jn hc Kk hK => by
  subst jn; subst hc
  have ex := he x (by simp [Op.operands])
  have ey := he y (by simp [Op.operands])
  rw [hx] at ex
  rw [hy] at ey
  obtain ⟨a1, a2, a3, a4, a5⟩ := i
  simp only at hi
  subst hi
  simp only [AV, Ff, ht, kd, ex, ey, C1, hm]
  exact ⟨hz, nK, trivial, hK _ _ _ _ ⟨rfl, rfl, rfl, rfl⟩⟩) h
theorem PK [tc : TC P T] {b : Int} (h : Reg P F0 w0 dr ops K rest ⟨n, (d, .c (.d (.sl ji))) :: sl, mem, ck, df⟩ (0 :: acc)) (hw : GW ops g sl := by first | exact trivial | exact rfl) (hx : AH sl x = .c (.d (.sl es)) := by exact rfl) (ht : T t = some i := by exact rfl) (nX : i.desc = .slice e := by exact rfl) (jg : T e = some ei := by exact rfl) (lr : Jg sl 0 lo = some a := by exact rfl) (ry : Jg sl es.length hi = some b := by exact rfl) (j3 : ∀ el ∈ es, el.length = ei.size := by first | exact Bc | exact Fy (fun _ => rfl) | exact AI rfl Bc | exact AI rfl (AI rfl Bc) | exact AI rfl (AI rfl (AI rfl Bc)) | (repeat (first | exact Bc | refine AI rfl ?_))) (ha : 0 ≤ a := by first | omega | exact Nat.le_refl _ | (simp only [BR, Gu, CR, List.length_cons, List.length_nil, JG, Fm, J6]; omega)) (lZ : a ≤ b := by first | omega | exact Nat.le_refl _ | (simp only [BR, Gu, CR, List.length_cons, List.length_nil, JG, Fm, J6]; omega)) (hb : b ≤ (es.length : Int) := by first | omega | exact Nat.le_refl _ | (simp only [BR, Gu, CR, List.length_cons, List.length_nil, JG, Fm, J6]; omega)) (j6 : (es.take b.toNat).drop a.toNat = ji := by first | exact bS | exact Pk | exact V9 | exact T3 | exact Yz | exact rfl) : Reg P F0 w0 dr ops K (⟨some d, .slice t x lo hi none, ty, pos, iU, g⟩ :: rest) ⟨n, sl, mem, ck, df⟩ acc :=
 Gp hw (fun m c => Does.of tc.ok fun τ he hm hc Kk hK => by
  subst hm; subst hc; subst j6
  have ex := he x (by simp [Op.operands])
  rw [hx] at ex
  have el := Jh (τ := τ) (fun y hy => he y (by simp only [Op.operands]; simp at hy ⊢; simp [hy])) lr
  have eh := Jh (τ := τ) (fun y hy => he y (by simp only [Op.operands]; simp at hy ⊢; simp [hy])) ry
  obtain ⟨a1, a2, a3, a4, a5⟩ := i
  simp only at nX
  subst nX
  simp only [AV, HT, ht, ex, jg, el, eh]
  exact ⟨rfl, j3, ha, lZ, hb, hK _ _ _ _ ⟨rfl, rfl, rfl, rfl⟩⟩) h
theorem PM [tc : TC P T] {b : Int} {s : ByteArray}  (h : Reg P F0 w0 dr ops K rest ⟨n, (d, .c (.d (.lit (.string (s.extract a.toNat b.toNat))))) :: sl, mem, ck, df⟩ (0 :: acc)) (hw : GW ops g sl := by first | exact trivial | exact rfl) (hx : AH sl x = .c (.d (.lit (.string s))) := by exact rfl) (ht : T t = some i := by exact rfl) (nX : i.desc = .str := by exact rfl) (lr : Jg sl 0 lo = some a := by exact rfl) (ry : Jg sl s.size hi = some b := by exact rfl) (ha : 0 ≤ a := by first | omega | exact Nat.le_refl _ | (simp only [BR, Gu, CR, List.length_cons, List.length_nil, JG, Fm, J6]; omega)) (lZ : a ≤ b := by first | omega | exact Nat.le_refl _ | (simp only [BR, Gu, CR, List.length_cons, List.length_nil, JG, Fm, J6]; omega)) (hb : b ≤ (s.size : Int) := by first | omega | exact Nat.le_refl _ | (simp only [BR, Gu, CR, List.length_cons, List.length_nil, JG, Fm, J6]; omega)) : Reg P F0 w0 dr ops K (⟨some d, .slice t x lo hi none, ty, pos, iU, g⟩ :: rest) ⟨n, sl, mem, ck, df⟩ acc :=
 Gp hw (fun m c => Does.of tc.ok fun τ he hm hc Kk hK => by
  subst hm; subst hc
  have ex := he x (by simp [Op.operands])
  rw [hx] at ex
  have el := Jh (τ := τ) (fun y hy => he y (by simp only [Op.operands]; simp at hy ⊢; simp [hy])) lr
  have eh := Jh (τ := τ) (fun y hy => he y (by simp only [Op.operands]; simp at hy ⊢; simp [hy])) ry
  obtain ⟨a1, a2, a3, a4, a5⟩ := i
  simp only at nX
  subst nX
  simp only [AV, HT, ht, ex, el, eh]
  exact ⟨rfl, ha, lZ, hb, hK _ _ _ _ ⟨rfl, rfl, rfl, rfl⟩⟩) h
theorem EO [tc : TC P T] {b : Int} {m' : Nat} (h : Reg P F0 w0 dr ops K rest ⟨n, (d, .c (.arr r k m')) :: sl, mem, ck, df⟩ (1 :: acc)) (hw : GW ops g sl := by first | exact trivial | exact rfl) (hx : AH sl x = .c (.arr r k m) := by exact rfl) (ht : T t = some i := by exact rfl) (nX : i.desc = .slice e := by exact rfl) (jg : T e = some ei := by exact rfl) (hm : mem[r]? = some (.arr k iX i6 es) := by exact rfl) (lr : Jg sl 0 lo = some 0 := by exact rfl) (ry : Jg sl m hi = some b := by exact rfl) (mK : m ≤ es.length := by first | omega | exact Nat.le_refl _ | (simp only [BR, Gu, CR, List.length_cons, List.length_nil, JG, Fm, J6]; omega)) (h0 : 0 ≤ b := by first | omega | exact Nat.le_refl _ | (simp only [BR, Gu, CR, List.length_cons, List.length_nil, JG, Fm, J6]; omega)) (hb : b ≤ (m : Int) := by first | omega | exact Nat.le_refl _ | (simp only [BR, Gu, CR, List.length_cons, List.length_nil, JG, Fm, J6]; omega)) (iZ : b.toNat = m' := by first | exact To _ | exact rfl) : Reg P F0 w0 dr ops K (⟨some d, .slice t x lo hi none, ty, pos, iU, g⟩ :: rest) ⟨n, sl, mem, ck, df⟩ acc :=
 Dh hw hm (fun mem ck hm => Does.of tc.ok fun τ he jn hc Kk hK => by
  subst jn; subst hc; subst iZ
  have ex := he x (by simp [Op.operands])
  rw [hx] at ex
  have el := Jh (τ := τ) (fun y hy => he y (by simp only [Op.operands]; simp at hy ⊢; simp [hy])) lr
  have eh := Jh (τ := τ) (fun y hy => he y (by simp only [Op.operands]; simp at hy ⊢; simp [hy])) ry
  obtain ⟨a1, a2, a3, a4, a5⟩ := i
  simp only at nX
  subst nX
  simp only [AV, HT, ht, ex, jg, el, eh, hm]
  exact ⟨rfl, trivial, mK, trivial, h0, hb, hK _ _ _ _ ⟨rfl, rfl, rfl, rfl⟩⟩) h
theorem ZV [tc : TC P T] {bo : BinOp} {k : IntKind} {b : Int} (h : Reg P F0 w0 dr ops K rest ⟨n, (d, v) :: sl, mem, ck, df⟩ (0 :: acc)) (hw : GW ops g sl := by first | exact trivial | exact rfl) (hx : AH sl x = .c (.d (.lit (.int k a))) := by exact rfl) (hy : AH sl y = .c (.d (.lit (.int k b))) := by exact rfl) (hv : IntOp bo k a b v := by first | exact .add64 (by omega) (by omega) | exact .sub64 (by omega) (by omega) | exact .eql | exact .neq | exact .lss | exact .leq | exact .gtr | exact .geq | exact .rem (by omega) | exact .quoN (b := 2) (by omega) (by omega) | exact .quoN (by omega) (by omega) | exact .quo (by omega) | exact .mul64 (by omega) (by omega) | exact .and | exact .add | exact .sub | exact .mul) : Reg P F0 w0 dr ops K (⟨some d, .binOp bo t x y t', ty, pos, iU, g⟩ :: rest) ⟨n, sl, mem, ck, df⟩ acc :=
 Pg tc.ok hw hx hy (fun V q => by
  cases hv with
  | add64 h1 h2 => exact ⟨rfl, by simp only [Q5, BW h1 h2]; exact q⟩
  | sub64 h1 h2 => exact ⟨rfl, by simp only [Q5, BW h1 h2]; exact q⟩
  | mul64 h1 h2 => exact ⟨rfl, by simp only [Q5, BW h1 h2]; exact q⟩
  | quoN h1 h2 =>
    refine ⟨rfl, by omega, ?_⟩
    rename_i a b
    have e : IntKind.i64.wrap ((a : Int).tdiv (b : Int)) = ((a / b : Nat) : Int) := by
     have h3 := Nat.div_le_self a b
     rw [← Int.ofNat_tdiv]
     generalize a / b = c at h3
     exact BW (by omega) (by omega)
    rw [e]
    exact q
  | quo h1 => exact ⟨rfl, h1, q⟩
  | rem h1 => exact ⟨rfl, h1, q⟩
  | _ => exact ⟨rfl, q⟩) h
theorem We [tc : TC P T] {bo : BinOp} {a b : ByteArray} (h : Reg P F0 w0 dr ops K rest ⟨n, (d, v) :: sl, mem, ck, df⟩ (0 :: acc)) (hw : GW ops g sl := by first | exact trivial | exact rfl) (hx : AH sl x = .c (.d (.lit (.string a))) := by exact rfl) (hy : AH sl y = .c (.d (.lit (.string b))) := by exact rfl) (hv : StrOp bo a b v := by first | exact .eql | exact .neq | exact .lss | exact .add (by simp only [maxLen]; omega)) : Reg P F0 w0 dr ops K (⟨some d, .binOp bo t x y t', ty, pos, iU, g⟩ :: rest) ⟨n, sl, mem, ck, df⟩ acc :=
 Pg tc.ok hw hx hy (fun V q => by
  cases hv with
  | add h1 => exact ⟨h1, q⟩
  | _ => exact q) h
theorem ZW [tc : TC P T] {a : Bool}  (h : Reg P F0 w0 dr ops K rest ⟨n, (d, .c (.d (.lit (.bool (!(a == b)))))) :: sl, mem, ck, df⟩ (0 :: acc)) (hw : GW ops g sl := by first | exact trivial | exact rfl) (hx : AH sl x = .c (.d (.lit (.bool a))) := by exact rfl) (hy : AH sl y = .c (.d (.lit (.bool b))) := by exact rfl) (ht : T t = some i := by exact rfl) (hi : i.desc = .bool := by exact rfl) : Reg P F0 w0 dr ops K (⟨some d, .binOp .neq t x y t', ty, pos, iU, g⟩ :: rest) ⟨n, sl, mem, ck, df⟩ acc :=
 Pg tc.ok hw hx hy (fun V q => by
  obtain ⟨a1, a2, a3, a4, a5⟩ := i
  simp only at hi
  subst hi
  simp only [OF, ht]
  exact q) h
theorem ZX [tc : TC P T] {xs ys : List Cell} {us vs : List Value}  (h : Reg P F0 w0 dr ops K rest ⟨n, (d, .c (.d (.lit (.bool (Cy us vs))))) :: sl, mem, ck, df⟩ (0 :: acc)) (hw : GW ops g sl := by first | exact trivial | exact rfl) (hx : AH sl x = .agg xs := by exact rfl) (hy : AH sl y = .agg ys := by exact rfl) (ht : T t = some i := by exact rfl) (he : i.eqs = true := by exact rfl) (hu : D8 xs = some us := by exact rfl) (hv : D8 ys = some vs := by exact rfl) (h1 : Dw i.zero us := by repeat (first | exact trivial | refine And.intro (by first | exact rfl | exact trivial) ?_)) (h2 : Dw i.zero vs := by repeat (first | exact trivial | refine And.intro (by first | exact rfl | exact trivial) ?_)) : Reg P F0 w0 dr ops K (⟨some d, .binOp .eql t x y t', ty, pos, iU, g⟩ :: rest) ⟨n, sl, mem, ck, df⟩ acc :=
 Pg tc.ok hw hx hy (fun V q => by
  simp only [OF, ht, hu, hv]
  exact ⟨he, h1, h2, q⟩) h
theorem ZY [tc : TC P T] {xs ys : List Cell} {us vs : List Value}  (h : Reg P F0 w0 dr ops K rest ⟨n, (d, .c (.d (.lit (.bool (!(Cy us vs)))))) :: sl, mem, ck, df⟩ (0 :: acc)) (hw : GW ops g sl := by first | exact trivial | exact rfl) (hx : AH sl x = .agg xs := by exact rfl) (hy : AH sl y = .agg ys := by exact rfl) (ht : T t = some i := by exact rfl) (he : i.eqs = true := by exact rfl) (hu : D8 xs = some us := by exact rfl) (hv : D8 ys = some vs := by exact rfl) (h1 : Dw i.zero us := by repeat (first | exact trivial | refine And.intro (by first | exact rfl | exact trivial) ?_)) (h2 : Dw i.zero vs := by repeat (first | exact trivial | refine And.intro (by first | exact rfl | exact trivial) ?_)) : Reg P F0 w0 dr ops K (⟨some d, .binOp .neq t x y t', ty, pos, iU, g⟩ :: rest) ⟨n, sl, mem, ck, df⟩ acc :=
 Pg tc.ok hw hx hy (fun V q => by
  simp only [OF, ht, hu, hv]
  exact ⟨he, h1, h2, q⟩) h
theorem ZZ [tc : TC P T] (h : Reg P F0 w0 dr ops K rest ⟨n, (d, .c (.d (.lit (.bool (!b))))) :: sl, mem, ck, df⟩ (0 :: acc)) (hw : GW ops g sl := by first | exact trivial | exact rfl) (hx : AH sl x = .c (.d (.lit (.bool b))) := by exact rfl) : Reg P F0 w0 dr ops K (⟨some d, .unOp .not t x, ty, pos, iU, g⟩ :: rest) ⟨n, sl, mem, ck, df⟩ acc :=
 Gp hw (fun m c => Does.of tc.ok fun τ he hm hc Kk hK => by
  subst hm; subst hc
  have ex := he x (by simp [Op.operands])
  rw [hx] at ex
  simp only [AV, dL, ex]
  exact hK _ _ _ _ ⟨rfl, rfl, rfl, rfl⟩) h
theorem Z0 [tc : TC P T] {k : IntKind} (h : Reg P F0 w0 dr ops K rest ⟨n, (d, .c (.d (.lit (.int k z')))) :: sl, mem, ck, df⟩ (0 :: acc)) (hw : GW ops g sl := by first | exact trivial | exact rfl) (hx : AH sl x = .c (.d (.lit (.int k z))) := by exact rfl) (hz : k.wrap (0 - z) = z' := by first | exact YF (by omega) (by omega) | exact rfl) : Reg P F0 w0 dr ops K (⟨some d, .unOp .neg t x, ty, pos, iU, g⟩ :: rest) ⟨n, sl, mem, ck, df⟩ acc :=
 Gp hw (fun m c => Does.of tc.ok fun τ he hm hc Kk hK => by
  subst hm; subst hc; subst hz
  have ex := he x (by simp [Op.operands])
  rw [hx] at ex
  simp only [AV, dL, ex]
  exact hK _ _ _ _ ⟨rfl, rfl, rfl, rfl⟩) h
theorem Wf [tc : TC P T] {j : TI} {k k' : IntKind} (h : Reg P F0 w0 dr ops K rest ⟨n, (d, .c (.d (.lit (.int k' z')))) :: sl, mem, ck, df⟩ (0 :: acc)) (hw : GW ops g sl := by first | exact trivial | exact rfl) (hx : AH sl x = .c (.d (.lit (.int k z))) := by exact rfl) (hs : T s = some i := by exact rfl) (ht : T t = some j := by exact rfl) (hj : j.desc = .int k' := by exact rfl) (hz : k'.wrap z = z' := by first | exact BW (by omega) (by omega) | exact rfl) : Reg P F0 w0 dr ops K (⟨some d, .convert s t x, ty, pos, iU, g⟩ :: rest) ⟨n, sl, mem, ck, df⟩ acc :=
 Gp hw (fun m c => Does.of tc.ok fun τ he hm hc Kk hK => by
  subst hm; subst hc; subst hz
  have ex := he x (by simp [Op.operands])
  rw [hx] at ex
  obtain ⟨a1, a2, a3, a4, a5⟩ := j
  simp only at hj
  subst hj
  simp only [AV, OG, hs, ht, ex]
  exact hK _ _ _ _ ⟨rfl, rfl, rfl, rfl⟩) h
theorem SK [tc : TC P T] {parts : Array (Nat × Operand)} (h : Reg P F0 w0 dr ops K rest ⟨n, (d, .agg jq) :: sl, mem, ck, df⟩ (0 :: acc)) (hw : GW ops g sl := by first | exact trivial | exact rfl) (ht : T t = some i := by exact rfl) (hi : i.desc = .struct fs := by exact rfl) (ha : fs.all (fun p => (T p.2).isSome) = true := by exact rfl) (hf : Ph T sl fs parts.toList (i.zero.map B0) = some cs := by exact rfl) (hn : cs = jq := by repeat' (first | exact A6 rfl | apply AG rfl)) : Reg P F0 w0 dr ops K (⟨some d, .build t parts, ty, pos, iU, g⟩ :: rest) ⟨n, sl, mem, ck, df⟩ acc :=
 Gp hw (fun m c => Does.of tc.ok fun τ he hm hc Kk hK => by
  subst hm; subst hc; subst hn
  obtain ⟨a1, a2, a3, a4, a5⟩ := i
  simp only at hi
  subst hi
  have hq := KZ (τ := τ) parts.toList _ (fun p hp => he p.2 (by simp only [Op.operands]; simp; exact ⟨p.1, by simpa using hp⟩)) cs hf
  simp only [AV, Ku, ht]
  refine ⟨ha, ?_⟩
  simp only at hq
  simp only [hq]
  exact hK _ _ _ _ ⟨rfl, rfl, rfl, rfl⟩) h
theorem PN [tc : TC P T] {len : Nat} {parts : Array (Nat × Operand)} (h : Reg P F0 w0 dr ops K rest ⟨n, (d, .c (.d (.sl ji))) :: sl, mem, ck, df⟩ (0 :: acc)) (hw : GW ops g sl := by first | exact trivial | exact rfl) (ht : T t = some i := by exact rfl) (hi : i.desc = .slice e := by exact rfl) (jg : T e = some ei := by exact rfl) (hc : (Nat.blt 0 len && Nat.blt 0 ei.size && Nat.beq ei.zero.length ei.size && Nat.ble (len * ei.size) 16777216 && Nat.beq parts.size len) = true := by exact rfl) (hp : K0 sl ei.size parts.toList 0 = some es := by exact rfl) (hn : es = ji := by repeat' (first | exact A6 rfl | apply AG rfl)) : Reg P F0 w0 dr ops K (⟨some d, .buildSlice t len parts, ty, pos, iU, g⟩ :: rest) ⟨n, sl, mem, ck, df⟩ acc :=
 Gp hw (fun m c => Does.of tc.ok fun τ he hm qf Kk hK => by
  subst hm; subst qf; subst hn
  obtain ⟨a1, a2, a3, a4, a5⟩ := i
  simp only at hi
  subst hi
  simp only [BM, Sd, Md, Nat.blt, Tq] at hc
  obtain ⟨⟨⟨⟨h1, h2⟩, h3⟩, h4⟩, h5⟩ := hc
  have hq := Ji (τ := τ) parts.toList _ (fun p hp => he p.2 (by simp only [Op.operands]; simp; exact ⟨p.1, by simpa using hp⟩)) es hp
  cases len with
  | zero => omega
  | succ len =>
    simp only [AV, CE, ht, jg, hq]
    exact ⟨h2, h3, h4, by simpa using h5, hK _ _ _ _ ⟨rfl, rfl, rfl, rfl⟩⟩) h
theorem MH [tc : TC P T] (h : Reg P F0 w0 dr ops K rest ⟨n, (d, .c .emp) :: sl, mem, ck, df⟩ (0 :: acc)) (hw : GW ops g sl := by first | exact trivial | exact rfl) (ht : T t = some i := by exact rfl) (hi : i.desc = .slice e := by exact rfl) (jg : T e = some ei := by exact rfl) : Reg P F0 w0 dr ops K (⟨some d, .buildSlice t 0 #[], ty, pos, iU, g⟩ :: rest) ⟨n, sl, mem, ck, df⟩ acc :=
 Gp hw (fun m c => Does.of tc.ok fun τ he hm qf Kk hK => by
  subst hm; subst qf
  obtain ⟨a1, a2, a3, a4, a5⟩ := i
  simp only at hi
  subst hi
  simp only [AV, CE, ht, jg]
  exact ⟨trivial, hK _ _ _ _ ⟨rfl, rfl, rfl, rfl⟩⟩) h
theorem SL [tc : TC P T] {f : FuncId} {xs : List Operand} (h : Reg P F0 w0 dr ops K rest ⟨n, (d, .c (.clo f jq)) :: sl, mem, ck, df⟩ (0 :: acc)) (hw : GW ops g sl := by first | exact trivial | exact rfl) (hc : Sw sl (x :: xs) = some cs := by exact rfl) (hd : Eh cs = none := by exact rfl) (hn : cs = jq := by repeat' (first | exact A6 rfl | apply AG rfl)) :
  Reg P F0 w0 dr ops K (⟨some d, .makeFunc (.func f) #[] ⟨x :: xs⟩, ty, pos, iU, g⟩ :: rest) ⟨n, sl, mem, ck, df⟩ acc :=
 Gp hw (fun m c => Does.of tc.ok fun τ he hm qf Kk hK => by
  subst hm; subst qf; subst hn
  have := Pj (τ := τ) _ (fun y hy => he y (by simp only [Op.operands]; simpa using hy)) cs hc
  simp only [AV, OH, this, hd]
  exact hK _ _ _ _ ⟨rfl, rfl, rfl, rfl⟩) h
theorem MI [tc : TC P T] {i : Nat} {xs : List SVal} (h : Reg P F0 w0 dr ops K rest ⟨n, (d, v) :: sl, mem, ck, df⟩ (0 :: acc)) (hw : GW ops g sl := by first | exact trivial | exact rfl) (hx : AH sl x = .tup xs := by exact rfl) (hv : xs[i]? = some v := by first | exact (rfl : _ = some (SVal.c _)) | exact (rfl : _ = some (SVal.agg _)) | exact rfl) :
  Reg P F0 w0 dr ops K (⟨some d, .extract x i, ty, pos, iU, g⟩ :: rest) ⟨n, sl, mem, ck, df⟩ acc :=
 Gp hw (fun m c => Does.of tc.ok fun τ he hm qf Kk hK => by
  subst hm; subst qf
  have ex := he x (by simp [Op.operands])
  rw [hx] at ex
  simp only [AV, ex, hv]
  exact hK _ _ _ _ ⟨rfl, rfl, rfl, rfl⟩) h
theorem Aa [tc : TC P T] {f : Operand} {fv : SVal} {args : Array Operand} {mw : FuncId} {js : List Cell} {aS : List SVal} {k7 : List PV} {r : PRes} (hp : PCall P mw k7 r) (h : Reg P F0 w0 dr ops K rest ⟨n, (d, v) :: sl, mem, ck, df⟩ (0 :: acc)) (hw : GW ops g sl := by first | exact trivial | exact rfl) (hf : AH sl f = fv := by exact rfl) (hc : Cr fv = some (mw, js) := by exact rfl) (has : args.toList.map (AH sl) ++ js.map .c = aS := by exact rfl) (ha : SDs aS k7 := by first | exact trivial | exact And.intro rfl trivial | exact And.intro rfl (And.intro rfl trivial) | exact And.intro rfl (And.intro rfl (And.intro rfl trivial)) | exact And.intro rfl (And.intro rfl (And.intro rfl (And.intro rfl trivial))) | exact And.intro rfl (And.intro rfl (And.intro rfl (And.intro rfl (And.intro rfl trivial))))) (hv : r.s = v := by first | exact (rfl : _ = SVal.c _) | exact V8 (by repeat' (first | exact A6 rfl | apply AG rfl)) | exact (rfl : _ = SVal.tup [SVal.c _, SVal.c _]) | exact YG (by repeat' (first | exact A6 rfl | apply AG rfl)) | exact YH (by repeat' (first | exact A6 rfl | apply AG rfl)) | exact (rfl : _ = SVal.tup [SVal.c _, SVal.c _, SVal.c _]) | exact rfl) : Reg P F0 w0 dr ops K (⟨some d, .call ⟨.value f, args, mT⟩, ty, pos, iU, g⟩ :: rest) ⟨n, sl, mem, ck, df⟩ acc :=
 Gp hw (fun m c => Does.of tc.ok fun τ he hm je Kk hK => by
  subst hm; subst je; subst has; subst hv
  obtain ⟨e1, e2⟩ := IF he
  rw [hf] at e1
  simp only [AV, DQ, e1, hc, e2]
  exact MCall.ofPure hp ha (hK _ _ _ _ ⟨rfl, rfl, rfl, rfl⟩)) h
theorem Wg [tc : TC P T] (h : Reg P F0 w0 dr ops K rest ⟨n, (d, .c (.d (.lit (.int .i64 k)))) :: sl, mem, ck, df⟩ (0 :: acc)) (hw : GW ops g sl := by first | exact trivial | exact rfl) (hx : AH sl x = .c (.d (.sl es)) := by exact rfl) (ht : T t = some i := by exact rfl) (hi : i.desc = .slice e := by exact rfl) (hk : es.length = k := by first | exact (rfl : _ = 0) | exact (rfl : _ = 1) | exact (rfl : _ = 2) | exact (rfl : _ = 3) | exact (rfl : _ = 4) | exact (rfl : _ = 5) | exact (rfl : _ = 6) | exact (rfl : _ = 7) | exact NQ | exact rfl) : Reg P F0 w0 dr ops K (⟨some d, .call ⟨.builtin .len, #[x], #[t]⟩, ty, pos, iU, g⟩ :: rest) ⟨n, sl, mem, ck, df⟩ acc :=
 Gp hw (fun m c => Does.of tc.ok fun τ he hm je Kk hK => by
  subst hm; subst je; subst hk
  have ex := he x (by simp [Op.operands, Call.operands])
  rw [hx] at ex
  obtain ⟨a1, a2, a3, a4, a5⟩ := i
  simp only at hi
  subst hi
  simp only [AV, DQ, Nq, ht, ex]
  exact hK _ _ _ _ ⟨rfl, rfl, rfl, rfl⟩) h
theorem Wh [tc : TC P T] (h : Reg P F0 w0 dr ops K rest ⟨n, (d, .c (.d (.lit (.int .i64 0)))) :: sl, mem, ck, df⟩ (0 :: acc)) (hw : GW ops g sl := by first | exact trivial | exact rfl) (hx : AH sl x = .c .emp := by exact rfl) (ht : T t = some i := by exact rfl) (hi : i.desc = .slice e := by exact rfl) : Reg P F0 w0 dr ops K (⟨some d, .call ⟨.builtin .len, #[x], #[t]⟩, ty, pos, iU, g⟩ :: rest) ⟨n, sl, mem, ck, df⟩ acc :=
 Gp hw (fun m c => Does.of tc.ok fun τ he hm je Kk hK => by
  subst hm; subst je
  have ex := he x (by simp [Op.operands, Call.operands])
  rw [hx] at ex
  obtain ⟨a1, a2, a3, a4, a5⟩ := i
  simp only at hi
  subst hi
  simp only [AV, DQ, Nq, ht, ex]
  exact hK _ _ _ _ ⟨rfl, rfl, rfl, rfl⟩) h
theorem Wi [tc : TC P T] {s : ByteArray}  (h : Reg P F0 w0 dr ops K rest ⟨n, (d, .c (.d (.lit (.int .i64 s.size)))) :: sl, mem, ck, df⟩ (0 :: acc)) (hw : GW ops g sl := by first | exact trivial | exact rfl) (hx : AH sl x = .c (.d (.lit (.string s))) := by exact rfl) (ht : T t = some i := by exact rfl) (hi : i.desc = .str := by exact rfl) : Reg P F0 w0 dr ops K (⟨some d, .call ⟨.builtin .len, #[x], #[t]⟩, ty, pos, iU, g⟩ :: rest) ⟨n, sl, mem, ck, df⟩ acc :=
 Gp hw (fun m c => Does.of tc.ok fun τ he hm je Kk hK => by
  subst hm; subst je
  have ex := he x (by simp [Op.operands, Call.operands])
  rw [hx] at ex
  obtain ⟨a1, a2, a3, a4, a5⟩ := i
  simp only at hi
  subst hi
  simp only [AV, DQ, Nq, ht, ex]
  exact hK _ _ _ _ ⟨rfl, rfl, rfl, rfl⟩) h
theorem Wj [tc : TC P T] (h : Reg P F0 w0 dr ops K rest ⟨n, (d, .c (.d (.lit (.int .i64 m)))) :: sl, mem, ck, df⟩ (1 :: acc)) (hw : GW ops g sl := by first | exact trivial | exact rfl) (hx : AH sl x = .c (.arr r k m) := by exact rfl) (ht : T t = some i := by exact rfl) (hi : i.desc = .slice e := by exact rfl) (hm : mem[r]? = some (.arr k iX i6 es) := by exact rfl) : Reg P F0 w0 dr ops K (⟨some d, .call ⟨.builtin .len, #[x], #[t]⟩, ty, pos, iU, g⟩ :: rest) ⟨n, sl, mem, ck, df⟩ acc :=
 Dh hw hm (fun mem ck hm => Does.of tc.ok fun τ he jn je Kk hK => by
  subst jn; subst je
  have ex := he x (by simp [Op.operands, Call.operands])
  rw [hx] at ex
  obtain ⟨a1, a2, a3, a4, a5⟩ := i
  simp only at hi
  subst hi
  simp only [AV, DQ, Nq, ht, ex, C1, hm]
  exact ⟨trivial, hK _ _ _ _ ⟨rfl, rfl, rfl, rfl⟩⟩) h
theorem Z1 [tc : TC P T] {k : IntKind} {b : Int}  (h : Reg P F0 w0 dr ops K rest ⟨n, (d, .c (.d (.lit (.int k z)))) :: sl, mem, ck, df⟩ (0 :: acc)) (hw : GW ops g sl := by first | exact trivial | exact rfl) (hx : AH sl x = .c (.d (.lit (.int k a))) := by exact rfl) (hy : AH sl y = .c (.d (.lit (.int k b))) := by exact rfl) (hz : (if b < a then b else a) = z := by exact rfl) : Reg P F0 w0 dr ops K (⟨some d, .call ⟨.builtin .min, #[x, y], mT⟩, ty, pos, iU, g⟩ :: rest) ⟨n, sl, mem, ck, df⟩ acc :=
 Gp hw (fun m c => Does.of tc.ok fun τ he jn je Kk hK => by
  subst jn; subst je; subst hz
  have ex := he x (by simp [Op.operands, Call.operands])
  have ey := he y (by simp [Op.operands, Call.operands])
  rw [hx] at ex
  rw [hy] at ey
  simp only [AV, DQ, ex, ey]
  exact ⟨trivial, hK _ _ _ _ ⟨rfl, rfl, rfl, rfl⟩⟩) h
theorem Z2 [tc : TC P T] {k : IntKind} {b : Int}  (h : Reg P F0 w0 dr ops K rest ⟨n, (d, .c (.d (.lit (.int k z)))) :: sl, mem, ck, df⟩ (0 :: acc)) (hw : GW ops g sl := by first | exact trivial | exact rfl) (hx : AH sl x = .c (.d (.lit (.int k a))) := by exact rfl) (hy : AH sl y = .c (.d (.lit (.int k b))) := by exact rfl) (hz : (if a < b then b else a) = z := by exact rfl) : Reg P F0 w0 dr ops K (⟨some d, .call ⟨.builtin .max, #[x, y], mT⟩, ty, pos, iU, g⟩ :: rest) ⟨n, sl, mem, ck, df⟩ acc :=
 Gp hw (fun m c => Does.of tc.ok fun τ he jn je Kk hK => by
  subst jn; subst je; subst hz
  have ex := he x (by simp [Op.operands, Call.operands])
  have ey := he y (by simp [Op.operands, Call.operands])
  rw [hx] at ex
  rw [hy] at ey
  simp only [AV, DQ, ex, ey]
  exact ⟨trivial, hK _ _ _ _ ⟨rfl, rfl, rfl, rfl⟩⟩) h
theorem SM [tc : TC P T] {f : Operand} {fv : SVal} {mw : FuncId} {js : List Cell}  (h : Reg P F0 w0 dr ops K rest ⟨n, sl, mem, ck, (mw, js) :: df⟩ (2 :: acc)) (hw : GW ops g sl := by first | exact trivial | exact rfl) (hf : AH sl f = fv := by exact rfl) (hc : Cr fv = some (mw, js) := by exact rfl) : Reg P F0 w0 dr ops K (⟨none, .defer ⟨.value f, #[], mT⟩, ty, pos, iU, g⟩ :: rest) ⟨n, sl, mem, ck, df⟩ acc :=
 IE (jx := [(mw, js)]) (v := .junk) hw (Does.of tc.ok fun τ he jn je Kk hK => by
  subst jn; subst je
  have ex := he f (by simp [Op.operands, Call.operands])
  rw [hf] at ex
  simp only [AV, ex, hc]
  exact hK _ _ _ _ ⟨rfl, rfl, rfl, rfl⟩) h
theorem Z3 [tc : TC P T] (h : Reg P F0 w0 dr ops K rest ⟨n, (d, .c (.bp r (ck + 1) 0)) :: sl, f', ck + 1, df⟩ (3 :: acc)) (hw : GW ops g sl := by first | exact trivial | exact rfl) (hx : AH sl x = v := by first | exact (rfl : _ = SVal.agg _) | exact (rfl : _ = SVal.c _)) (hc : v.cells = some cs := by exact rfl) (hn : cs = jq := by repeat' (first | exact A6 rfl | apply AG rfl)) (hr : mem.length = r := by first | exact (rfl : _ = 0) | exact (rfl : _ = 1) | exact (rfl : _ = 2) | exact (rfl : _ = 3) | exact (rfl : _ = 4) | exact (rfl : _ = 5) | exact (rfl : _ = 6) | exact (rfl : _ = 7) | exact (rfl : _ = 8) | exact (rfl : _ = 9) | exact (rfl : _ = 10) | exact (rfl : _ = 11) | exact (rfl : _ = 12) | exact (rfl : _ = 13) | exact (rfl : _ = 14) | exact (rfl : _ = 15)) (iZ : mem ++ [Blk.box (ck + 1) jq] = f' := by repeat' (first | exact A6 rfl | apply AG rfl)) : Reg P F0 w0 dr ops K (⟨some d, .box t x, ty, pos, iU, g⟩ :: rest) ⟨n, sl, mem, ck, df⟩ acc :=  by
 subst hn; exact eO tc.ok hw hx hc hr iZ h
theorem Wk [tc : TC P T] {l : Operand} {k k' : IntKind} {zs : List Dat} (h : Reg P F0 w0 dr ops K rest ⟨n, (d, .c (.arr r (ck + 1) m)) :: sl, f', ck + 1, df⟩ (2 :: acc)) (hw : GW ops g sl := by first | exact trivial | exact rfl) (hl : AH sl l = .c (.d (.lit (.int k z))) := by exact rfl) (hc : AH sl c = .c (.d (.lit (.int k' z'))) := by exact rfl) (ht : T t = some i := by exact rfl) (hi : i.desc = .slice e := by exact rfl) (jg : T e = some ⟨i6, qh, ze, de, eq⟩ := by exact rfl) (pV : Eh (ze.map B0) = some zs := by exact rfl) (hk : (Nat.blt 0 i6 && Nat.beq ze.length i6) = true := by exact rfl) (h0 : 0 ≤ z := by first | omega | exact Nat.le_refl _ | (simp only [BR, Gu, CR, List.length_cons, List.length_nil, JG, Fm, J6]; omega)) (vJ : z ≤ z' := by first | omega | exact Nat.le_refl _ | (simp only [BR, Gu, CR, List.length_cons, List.length_nil, JG, Fm, J6]; omega)) (mG : z' ≤ 9223372036854775807 := by first | omega | exact Nat.le_refl _ | (simp only [BR, Gu, CR, List.length_cons, List.length_nil, JG, Fm, J6]; omega)) (lp : (qh : Int) * z' ≤ 281474976710656 := by first | omega | exact Nat.le_refl _ | (simp only [BR, Gu, CR, List.length_cons, List.length_nil, JG, Fm, J6]; omega)) (hr : mem.length = r := by first | exact (rfl : _ = 0) | exact (rfl : _ = 1) | exact (rfl : _ = 2) | exact (rfl : _ = 3) | exact (rfl : _ = 4) | exact (rfl : _ = 5) | exact (rfl : _ = 6) | exact (rfl : _ = 7) | exact (rfl : _ = 8) | exact (rfl : _ = 9) | exact (rfl : _ = 10) | exact (rfl : _ = 11) | exact (rfl : _ = 12) | exact (rfl : _ = 13) | exact (rfl : _ = 14) | exact (rfl : _ = 15)) (hm : z.toNat = m := by first | exact To _ | exact rfl) (iZ : mem ++ [Blk.arr (ck + 1) e i6 (List.replicate m zs)] = f' := by repeat' (first | exact A6 rfl | apply AG rfl)) : Reg P F0 w0 dr ops K (⟨some d, .makeSlice t l c, ty, pos, iU, g⟩ :: rest) ⟨n, sl, mem, ck, df⟩ acc :=
 bL tc.ok hw hl hc ht hi jg pV hk h0 vJ mG lp hr hm iZ h
theorem NW [tc : TC P T] {ys : List (List Dat)} (h : Reg P F0 w0 dr ops K rest ⟨n, (d, .c (.arr r (ck + 1) m)) :: sl, f', ck + 1, df⟩ (2 :: acc)) (hw : GW ops g sl := by first | exact trivial | exact rfl) (hx : AH sl x = .c .emp := by exact rfl) (hy : AH sl y = u := by exact (rfl : _ = SVal.c _)) (hs : Gh u = some ys := by exact rfl) (ht : T t = some i := by exact rfl) (hi : i.desc = .slice e := by exact rfl) (jg : T e = some ⟨i6, qh, ze, de, eq⟩ := by exact rfl) (hk : (Nat.blt 0 i6 && Nat.beq ze.length i6) = true := by exact rfl) (j3 : ∀ el ∈ ys, el.length = i6 := by first | exact Bc | exact Fy (fun _ => rfl) | exact AI rfl Bc | exact AI rfl (AI rfl Bc) | exact AI rfl (AI rfl (AI rfl Bc)) | (repeat (first | exact Bc | refine AI rfl ?_))) (hl : ys.length = m := by first | exact (rfl : _ = 0) | exact (rfl : _ = 1) | exact (rfl : _ = 2) | exact (rfl : _ = 3) | exact (rfl : _ = 4) | exact (rfl : _ = 5) | exact (rfl : _ = 6) | exact (rfl : _ = 7) | exact NQ | exact rfl) (mG : (m : Int) ≤ 9223372036854775807 := by first | omega | exact Nat.le_refl _ | (simp only [BR, Gu, CR, List.length_cons, List.length_nil, JG, Fm, J6]; omega)) (lp : m * qh ≤ 140737488355328 := by first | omega | exact Nat.le_refl _ | (simp only [BR, Gu, CR, List.length_cons, List.length_nil, JG, Fm, J6]; omega)) (hr : mem.length = r := by first | exact (rfl : _ = 0) | exact (rfl : _ = 1) | exact (rfl : _ = 2) | exact (rfl : _ = 3) | exact (rfl : _ = 4) | exact (rfl : _ = 5) | exact (rfl : _ = 6) | exact (rfl : _ = 7) | exact (rfl : _ = 8) | exact (rfl : _ = 9) | exact (rfl : _ = 10) | exact (rfl : _ = 11) | exact (rfl : _ = 12) | exact (rfl : _ = 13) | exact (rfl : _ = 14) | exact (rfl : _ = 15)) (iZ : mem ++ [Blk.arr (ck + 1) e i6 ys] = f' := by repeat' (first | exact A6 rfl | apply AG rfl)) : Reg P F0 w0 dr ops K (⟨some d, .call ⟨.builtin .append, #[x, y], #[t, t]⟩, ty, pos, iU, g⟩ :: rest) ⟨n, sl, mem, ck, df⟩ acc :=
 bM tc.ok hw hx hy hs ht hi jg hk j3 hl mG lp hr iZ h
theorem NY [tc : TC P T] {ys : List (List Dat)} (h : Reg P F0 w0 dr ops K rest ⟨n, (d, .c (.arr r (ck + 1) m)) :: sl, f', ck + 1, df⟩ (2 :: acc)) (hw : GW ops g sl := by first | exact trivial | exact rfl) (hx : AH sl x = .c (.arr r k j) := by exact rfl) (hy : AH sl y = u := by exact (rfl : _ = SVal.c _)) (hs : Gh u = some ys := by exact rfl) (ht : T t = some i := by exact rfl) (hi : i.desc = .slice e := by exact rfl) (jg : T e = some ⟨i6, qh, ze, de, eq⟩ := by exact rfl) (hk : (Nat.blt 0 i6 && Nat.beq ze.length i6) = true := by exact rfl) (hm : mem[r]? = some (.arr k e i6 es) := by exact rfl) (j3 : ∀ el ∈ ys, el.length = i6 := by first | exact Bc | exact Fy (fun _ => rfl) | exact AI rfl Bc | exact AI rfl (AI rfl Bc) | exact AI rfl (AI rfl (AI rfl Bc)) | (repeat (first | exact Bc | refine AI rfl ?_))) (hj : j ≤ es.length := by first | omega | exact Nat.le_refl _ | (simp only [BR, Gu, CR, List.length_cons, List.length_nil, JG, Fm, J6]; omega)) (hl : j + ys.length = m := by exact rfl) (mG : (m : Int) ≤ 9223372036854775807 := by first | omega | exact Nat.le_refl _ | (simp only [BR, Gu, CR, List.length_cons, List.length_nil, JG, Fm, J6]; omega)) (lp : m * qh ≤ 140737488355328 := by first | omega | exact Nat.le_refl _ | (simp only [BR, Gu, CR, List.length_cons, List.length_nil, JG, Fm, J6]; omega)) (j6 : es.take j ++ ys = ji := by first | exact NU NQ rfl | exact NU (by simp only [BR, Gu, CR, List.length_cons, List.length_nil]; omega) rfl | exact NU (by simp only [BR, Gu, CR, List.length_cons, List.length_nil]) rfl | exact rfl) (iZ : mem.set r (Blk.arr (ck + 1) e i6 ji) = f' := by repeat' (first | exact A6 rfl | apply AG rfl)) : Reg P F0 w0 dr ops K (⟨some d, .call ⟨.builtin .append, #[x, y], #[t, t]⟩, ty, pos, iU, g⟩ :: rest) ⟨n, sl, mem, ck, df⟩ acc :=
 bN tc.ok hw hx hy hs ht hi jg hk hm rfl j3 hj hl mG lp j6 iZ h
theorem Wl [tc : TC P T] {cc : Operand} (h : Reg P F0 w0 dr ops K rest ⟨n, (d, v) :: sl, mem, ck, df⟩ (0 :: acc)) (hw : GW ops g sl := by first | exact trivial | exact rfl) (hc : AH sl cc = DP b := by first | exact (rfl : _ = DP true) | exact (rfl : _ = DP false)) (hv : (match b with | true => AH sl x | false => AH sl y) = v := by first | exact (rfl : _ = SVal.c _) | exact (rfl : _ = SVal.agg _) | exact rfl) :
 Reg P F0 w0 dr ops K (⟨some d, .pick cc x y, ty, pos, iU, g⟩ :: rest) ⟨n, sl, mem, ck, df⟩ acc :=
 Gp hw (fun m c => Does.of tc.ok fun τ he hm jz Kk hK => by
  subst hm; subst jz
  have ec := he cc (by simp [Op.operands])
  have ex := he x (by simp [Op.operands])
  have ey := he y (by simp [Op.operands])
  rw [hc] at ec
  simp only [AV, ec, DP, lit]
  cases b with
  | true => simp only at hv; rw [hv] at ex; rw [XY, ex]; exact hK _ _ _ _ ⟨rfl, rfl, rfl, rfl⟩
  | false => simp only at hv; rw [hv] at ey; rw [XZ, ey]; exact hK _ _ _ _ ⟨rfl, rfl, rfl, rfl⟩) h
theorem Wm (h : K ⟨n, sl, mem, ck, df⟩) (hd : FV ops acc.reverse = true := by kernel_rfl) : Reg P F0 w0 true ops K [] ⟨n, sl, mem, ck, df⟩ acc := bJ hd h
theorem H6 (h : Reg P F0 w0 dr ops K (⟨dst, op, ty, pos, iU, some (j, want)⟩ :: rest) ⟨n, (dg, DP true) :: sl, mem, ck, df⟩ acc) (hj : (ops[j]?).bind (·.dst) = some dg := by exact rfl) (hb : look sl dg = DP b := by exact rfl) (hc : b = true := by first | with_reducible rfl | assumption | (simp only [decide_eq_true_eq, decide_eq_false_iff_not, Tp, U3, beq_iff_eq, bne_iff_ne, beq_eq_false_iff_ne, bne_eq_false_iff_eq, ne_eq, Q4, Tt, Bool.not_true, Bool.not_false, Bool.true_eq_false, Bool.false_eq_true, not_true_eq_false, not_false_eq_true]; done) | (simp only [decide_eq_true_eq, decide_eq_false_iff_not, Tp, U3, beq_iff_eq, bne_iff_ne, beq_eq_false_iff_ne, bne_eq_false_iff_eq, ne_eq, Q4, Tt, Bool.not_true, Bool.not_false, Bool.true_eq_false, Bool.false_eq_true, not_true_eq_false, not_false_eq_true]; omega) | (simp only [decide_eq_true_eq, decide_eq_false_iff_not, Tp, U3, beq_iff_eq, bne_iff_ne, beq_eq_false_iff_ne, bne_eq_false_iff_eq, ne_eq, Q4, Tt, Bool.not_true, Bool.not_false, Bool.true_eq_false, Bool.false_eq_true, not_true_eq_false, not_false_eq_true]; assumption)) :
 Reg P F0 w0 dr ops K (⟨dst, op, ty, pos, iU, some (j, want)⟩ :: rest) ⟨n, sl, mem, ck, df⟩ acc := V2 true hj hb hc h
theorem EW (h : Reg P F0 w0 dr ops K (⟨dst, op, ty, pos, iU, some (j, want)⟩ :: rest) ⟨n, (dg, DP false) :: sl, mem, ck, df⟩ acc) (hj : (ops[j]?).bind (·.dst) = some dg := by exact rfl) (hb : look sl dg = DP b := by exact rfl) (hc : b = false := by first | with_reducible rfl | assumption | (simp only [decide_eq_true_eq, decide_eq_false_iff_not, Tp, U3, beq_iff_eq, bne_iff_ne, beq_eq_false_iff_ne, bne_eq_false_iff_eq, ne_eq, Q4, Tt, Bool.not_true, Bool.not_false, Bool.true_eq_false, Bool.false_eq_true, not_true_eq_false, not_false_eq_true]; done) | (simp only [decide_eq_true_eq, decide_eq_false_iff_not, Tp, U3, beq_iff_eq, bne_iff_ne, beq_eq_false_iff_ne, bne_eq_false_iff_eq, ne_eq, Q4, Tt, Bool.not_true, Bool.not_false, Bool.true_eq_false, Bool.false_eq_true, not_true_eq_false, not_false_eq_true]; omega) | (simp only [decide_eq_true_eq, decide_eq_false_iff_not, Tp, U3, beq_iff_eq, bne_iff_ne, beq_eq_false_iff_ne, bne_eq_false_iff_eq, ne_eq, Q4, Tt, Bool.not_true, Bool.not_false, Bool.true_eq_false, Bool.false_eq_true, not_true_eq_false, not_false_eq_true]; assumption)) :
 Reg P F0 w0 dr ops K (⟨dst, op, ty, pos, iU, some (j, want)⟩ :: rest) ⟨n, sl, mem, ck, df⟩ acc := V2 false hj hb hc h
theorem Al {p q : Prop} (hj : (ops[j]?).bind (·.dst) = some dg) (hb : look sl dg = DP b) [t1 : BN b true p] [t2 : BN b false q]
 (h1 : p → Reg P F0 w0 dr ops K (⟨dst, op, ty, pos, iU, some (j, want)⟩ :: rest) ⟨n, (dg, DP true) :: sl, mem, ck, df⟩ acc)
 (h2 : q → Reg P F0 w0 dr ops K (⟨dst, op, ty, pos, iU, some (j, want)⟩ :: rest) ⟨n, (dg, DP false) :: sl, mem, ck, df⟩ acc) :
 Reg P F0 w0 dr ops K (⟨dst, op, ty, pos, iU, some (j, want)⟩ :: rest) ⟨n, sl, mem, ck, df⟩ acc := Yx hj hb (fun e => h1 (t1.out e)) (fun e => h2 (t2.out e))
end
section
variable {P : Program} {T : TypeId → Option TI} {B : Base} {Q : Ex → St → Prop} {R : Ex → St → Prop} {ks : List Fr} {n : Nat} {sl : List (Nat × SVal)} {mem : List Blk} {ck : Nat} {df : List (FuncId × List Cell)}
theorem Z4 [tc : TC P T] {id : Nat} {ops : Array Oper} {dr : Bool} (h : Reg P B.F0 B.w0 dr ops.toList (fun τ => Av P B R ks .norm τ) ops.toList ⟨n, sl, mem, ck, df⟩ []) (hd : Q6 n ops.toList = true := by exact rfl) : ARun P B (.region id ops dr) ⟨n, sl, mem, ck, df⟩ (Av P B R ks) := eL (σ := ⟨n, sl, mem, ck, df⟩) tc.mix hd h
theorem Z5 {x y : Code} (h1 : ARun P B x ⟨n, sl, mem, ck, df⟩ Q) (hc : AH sl c = DP b := by exact rfl) (hb : b = true := by first | with_reducible rfl | assumption | (simp only [decide_eq_true_eq, decide_eq_false_iff_not, Tp, U3, beq_iff_eq, bne_iff_ne, beq_eq_false_iff_ne, bne_eq_false_iff_eq, ne_eq, Q4, Tt, Bool.not_true, Bool.not_false, Bool.true_eq_false, Bool.false_eq_true, not_true_eq_false, not_false_eq_true]; done) | (simp only [decide_eq_true_eq, decide_eq_false_iff_not, Tp, U3, beq_iff_eq, bne_iff_ne, beq_eq_false_iff_ne, bne_eq_false_iff_eq, ne_eq, Q4, Tt, Bool.not_true, Bool.not_false, Bool.true_eq_false, Bool.false_eq_true, not_true_eq_false, not_false_eq_true]; omega) | (simp only [decide_eq_true_eq, decide_eq_false_iff_not, Tp, U3, beq_iff_eq, bne_iff_ne, beq_eq_false_iff_ne, bne_eq_false_iff_eq, ne_eq, Q4, Tt, Bool.not_true, Bool.not_false, Bool.true_eq_false, Bool.false_eq_true, not_true_eq_false, not_false_eq_true]; assumption)) : ARun P B (.cond c x y) ⟨n, sl, mem, ck, df⟩ Q := eS hc hb h1
theorem Z6 {x y : Code} (h1 : ARun P B y ⟨n, sl, mem, ck, df⟩ Q) (hc : AH sl c = DP b := by exact rfl) (hb : b = false := by first | with_reducible rfl | assumption | (simp only [decide_eq_true_eq, decide_eq_false_iff_not, Tp, U3, beq_iff_eq, bne_iff_ne, beq_eq_false_iff_ne, bne_eq_false_iff_eq, ne_eq, Q4, Tt, Bool.not_true, Bool.not_false, Bool.true_eq_false, Bool.false_eq_true, not_true_eq_false, not_false_eq_true]; done) | (simp only [decide_eq_true_eq, decide_eq_false_iff_not, Tp, U3, beq_iff_eq, bne_iff_ne, beq_eq_false_iff_ne, bne_eq_false_iff_eq, ne_eq, Q4, Tt, Bool.not_true, Bool.not_false, Bool.true_eq_false, Bool.false_eq_true, not_true_eq_false, not_false_eq_true]; omega) | (simp only [decide_eq_true_eq, decide_eq_false_iff_not, Tp, U3, beq_iff_eq, bne_iff_ne, beq_eq_false_iff_ne, bne_eq_false_iff_eq, ne_eq, Q4, Tt, Bool.not_true, Bool.not_false, Bool.true_eq_false, Bool.false_eq_true, not_true_eq_false, not_false_eq_true]; assumption)) : ARun P B (.cond c x y) ⟨n, sl, mem, ck, df⟩ Q := eT hc hb h1
theorem Az {x y : Code} {p q : Prop} (hc : AH sl c = DP b) [t1 : BN b true p] [t2 : BN b false q] (h1 : p → ARun P B x ⟨n, sl, mem, ck, df⟩ Q) (h2 : q → ARun P B y ⟨n, sl, mem, ck, df⟩ Q) : ARun P B (.cond c x y) ⟨n, sl, mem, ck, df⟩ Q := bO hc (fun e => h1 (t1.out e)) (fun e => h2 (t2.out e))
theorem Bq {t : Nat} {x y : Dat} (e : y = x) (h : look sl t = .c (.d y) := by exact rfl) : Ap T ⟨n, sl, mem, ck, df⟩ (.tmp t) fun s => SF mem s (.one x) := eU h e
theorem BC {t : Nat} {x : Dat} (e : .sl [] = x) (h : look sl t = .c .emp := by exact rfl) : Ap T ⟨n, sl, mem, ck, df⟩ (.tmp t) fun s => SF mem s (.one x) := bQ h e
theorem H7 {t : Nat} {x : Dat} (h : look sl t = .c (.arr r k m)) (hm : mem[r]? = some (.arr k iX i6 es)) (hl : m ≤ es.length) (e : .sl (es.take m) = x) : Ap T ⟨n, sl, mem, ck, df⟩ (.tmp t) fun s => SF mem s (.one x) := bR h hm hl e
theorem Cl {a t : Nat} {xs : List Dat} (hc : CFs mem mb xs) (h : look sl a = .c (.bp r k o) := by exact rfl) (ht : T t = some i := by exact rfl) (ha : i.desc.agg = true := by exact rfl) (hm : mem[r]? = some (.box k cs) := by exact rfl) (hs : decide (o + i.size ≤ cs.length) = true := by exact rfl) (jF : (cs.drop o).take i.size = mb := by repeat' (first | exact A6 rfl | apply AG rfl)) : Ap T ⟨n, sl, mem, ck, df⟩ (.cell a t) fun s => SF mem s (.agg xs) := YE h ht ha hm hs jF hc
theorem AK {X : Type} (W : List Nat) (Inv : X → Prop) (mz : X → List (Nat × SVal) → List (Nat × SVal)) (kC : X → List Blk) (m : X → Nat) (x0 : X) {jh : List (Nat × SVal)} {c : Code}
 (hs : Ai ⟨n, sl, mem, ck, df⟩ (mz x0 [])) (hm : As mem (kC x0)) (hx : Inv x0)
 (h : ∀ x k, Inv x → ARun P B c ⟨n, mz x jh, kC x, k, df⟩ (Av P B (DT P B R ks (LoopG Inv mz kC m W jh n df x)) []))
 (hk : Keep W sl jh := by repeat (first | exact Keep.nil _ | apply Keep.out rfl | apply Keep.into rfl)) (sE : ∀ x l, mz x l = mz x [] ++ l := by exact fun _ _ => rfl) : ARun P B (.loop c) ⟨n, sl, mem, ck, df⟩ (Av P B R ks) := gE W Inv mz kC m x0 hk sE hs hm hx h
theorem Af {X : Type} {Inv : X → Prop} {mz : X → List (Nat × SVal) → List (Nat × SVal)} {kC : X → List Blk} {m : X → Nat} {W : List Nat} {jh : List (Nat × SVal)} {x : X} (y : X) (hs : Ai ⟨n, sl, mem, ck, df⟩ (mz y [])) (hm : As mem (kC y)) (hi : Inv y) (hd : m y < m x) (hp : Pre W jh sl := by repeat (first | exact Pre.here | refine Pre.cons rfl ?_)) :
 Av P B (DT P B R ks (LoopG Inv mz kC m W jh n df x)) [] .norm ⟨n, sl, mem, ck, df⟩ := YC y hs hp hm hi hd
theorem w1 {t : Nat} (k : Ai ⟨n, sl, mem, ck, df⟩ l) (hu : look sl t = u := by exact rfl) (h : VLe u v := by first | exact V3 | exact Sx (by omega) | exact Sy (by first | exact rfl | omega) (by first | exact rfl | omega | (simp only [CR, BR, List.length_cons, List.length_nil, Gu, Fm]; done) | (simp only [CR, BR, List.length_cons, List.length_nil, Gu, Fm]; omega)) | exact YB) : Ai ⟨n, sl, mem, ck, df⟩ ((t, v) :: l) := FW hu h k
theorem w2 {t : Nat} {i : IntKind} {b : Int} (h : a = b) (k : Ai ⟨n, sl, mem, ck, df⟩ l) (hu : look sl t = .c (.d (.lit (.int i a))) := by exact rfl) : Ai ⟨n, sl, mem, ck, df⟩ ((t, .c (.d (.lit (.int i b)))) :: l) := FW hu (Sx h) k
theorem w3 {t : Nat} {a b : Dat} (h : a = b) (k : Ai ⟨n, sl, mem, ck, df⟩ l) (hu : look sl t = .c (.d a) := by exact rfl) : Ai ⟨n, sl, mem, ck, df⟩ ((t, .c (.d b)) :: l) := FW hu (eP h) k
theorem w5 {t m1 : Nat} (h : m = m1) (q : Ai ⟨n, sl, mem, ck, df⟩ l) (hu : look sl t = .c (.arr r k m) := by exact rfl) : Ai ⟨n, sl, mem, ck, df⟩ ((t, .c (.arr r k m1)) :: l) := FW hu (Sy rfl h) q
theorem m1 {k1 : Nat} {z : Nat} {lH : List (List Dat)} {a b : List Blk} (he : es = lH) (h : As a b) (hk : k = k1 := by first | exact rfl | omega) : As (.arr k t z es :: a) (.arr k1 t z lH :: b) := TW hk he h
theorem m2 {k1 : Nat} {a b : List Blk} (he : cs = mb) (h : As a b) (hk : k = k1 := by exact rfl) : As (.box k cs :: a) (.box k1 mb :: b) := TX hk he h
theorem Bv (t : Nat) (iX : TypeId) (i6 : Nat) {m1 : List Blk} {c : Code} (h : ARun P B c ⟨n, (t, .c (.arr r (ck + 1) 0)) :: sl, m1, ck + 1, df⟩ Q) (ht : look sl t = .c .emp := by exact rfl) (hz : Nat.blt 0 i6 = true := by exact rfl) (hr : mem.length = r := by first | exact (rfl : _ = 0) | exact (rfl : _ = 1) | exact (rfl : _ = 2) | exact (rfl : _ = 3) | exact (rfl : _ = 4) | exact (rfl : _ = 5) | exact (rfl : _ = 6) | exact (rfl : _ = 7) | exact (rfl : _ = 8) | exact (rfl : _ = 9) | exact (rfl : _ = 10) | exact (rfl : _ = 11) | exact (rfl : _ = 12) | exact (rfl : _ = 13) | exact (rfl : _ = 14) | exact (rfl : _ = 15)) (hm : mem ++ [Blk.arr (ck + 1) iX i6 []] = m1 := by repeat' (first | exact A6 rfl | apply AG rfl)) : ARun P B c ⟨n, sl, mem, ck, df⟩ Q := bP t iX i6 ht hz hr hm h
theorem IH (r j : Nat) (iX : TypeId) (i6 : Nat) {r1 : Nat} {m1 : List Blk} {c : Code} (h : ARun P B c ⟨n, sl, m1, ck + 1, df⟩ Q) (hm : mem[r]? = some (.box k cs) := by exact rfl) (hj : cs[j]? = some .emp := by exact rfl) (hz : Nat.blt 0 i6 = true := by exact rfl) (hr : mem.length = r1 := by first | exact (rfl : _ = 0) | exact (rfl : _ = 1) | exact (rfl : _ = 2) | exact (rfl : _ = 3) | exact (rfl : _ = 4) | exact (rfl : _ = 5) | exact (rfl : _ = 6) | exact (rfl : _ = 7) | exact (rfl : _ = 8) | exact (rfl : _ = 9) | exact (rfl : _ = 10) | exact (rfl : _ = 11) | exact (rfl : _ = 12) | exact (rfl : _ = 13) | exact (rfl : _ = 14) | exact (rfl : _ = 15)) (jF : cs.set j (.arr r1 (ck + 1) 0) = mb := by repeat' (first | exact A6 rfl | apply AG rfl)) (lq : mem.set r (.box k mb) ++ [Blk.arr (ck + 1) iX i6 []] = m1 := by repeat' (first | exact A6 rfl | apply AG rfl)) : ARun P B c ⟨n, sl, mem, ck, df⟩ Q := TY r j iX i6 hm hj hz hr jF lq h
theorem Ax (t : Nat) {lH : List (List Dat)} {m1 : List Blk} {c : Code} (h : ARun P B c ⟨n, (t, .c (.d (.sl lH))) :: sl, m1, ck, df⟩ Q) (ht : look sl t = .c (.arr r k m) := by exact rfl) (hm : mem[r]? = some (.arr k iX i6 es) := by exact rfl) (hl : m ≤ es.length := by first | omega | exact Nat.le_refl _ | (simp only [BR, Gu, CR, List.length_cons, List.length_nil, JG, Fm, J6]; omega)) (j6 : es.take m = lH := by first | exact IG | exact rfl) (lq : mem.set r .dead = m1 := by repeat' (first | exact A6 rfl | apply AG rfl)) : ARun P B c ⟨n, sl, mem, ck, df⟩ Q := V5 t ht hm hl j6 lq h
end
end Go.Abs
end
