/-
  The rules of the walk, once more: what the walk always gives in the same way is found by itself.
-/
import Derived.Test.YtmpgmjlanngkfaaGreatEnB
section
namespace Go.Abs
open Go.RowKit
variable {a z z' : Int} {ats : Array TypeId} {b eq want : Bool} {bts esz f j k m o off r : Nat} {c x y : Operand} {cs cs' cs1 : List Cell} {de : TD} {dg : Tmp} {dst : Option Tmp} {e ety ft s t t' : TypeId} {ei i : TI} {es es' : List (List Dat)} {fs : List (Nat × TypeId)} {kk : IntKind} {l : List (Nat × SVal)} {mem' : List Blk} {u v : SVal} {ze : List Value}
class TC (P : Program) (T : outParam (TypeId → Option TI)) : Prop where
 ok : AB P T
 mix : P.follows .mixedOrders = true
class BN (b v : Bool) (p : outParam Prop) : Prop where
 out : b = v → p
instance (priority := 10) bn_any (b v : Bool) : BN b v (b = v) := ⟨id⟩
instance bn_dec_t {p : Prop} [Decidable p] : BN (decide p) true p := ⟨of_decide_eq_true⟩
instance (priority := 900) bn_dec_f {p : Prop} [Decidable p] : BN (decide p) false (¬ p) := ⟨of_decide_eq_false⟩
instance bn_lt_f {a b : Int} : BN (decide (a < b)) false (b ≤ a) := ⟨fun h => QJ.1 (of_decide_eq_false h)⟩
instance bn_le_f {a b : Int} : BN (decide (a ≤ b)) false (b < a) := ⟨fun h => QK.1 (of_decide_eq_false h)⟩
instance bn_eq_t {a b : Int} : BN (a == b) true (a = b) := ⟨fun h => by simpa using h⟩
instance bn_eq_f {a b : Int} : BN (a == b) false (¬ a = b) := ⟨fun h => by simpa using h⟩
instance bn_ne_t {a b : Int} : BN (a != b) true (¬ a = b) := ⟨fun h => by simpa using h⟩
instance bn_ne_f {a b : Int} : BN (a != b) false (a = b) := ⟨fun h => by simpa using h⟩
instance bn_not_t {b : Bool} {p : Prop} [h : BN b false p] : BN (!b) true p := ⟨fun q => h.out (by simpa using q)⟩
instance bn_not_f {b : Bool} {p : Prop} [h : BN b true p] : BN (!b) false p := ⟨fun q => h.out (by simpa using q)⟩
theorem Hz {α : Type} {f : α → List Dat} {l : List α} : (l.map f).take l.length = l.map f := Ua (by simp)
section
variable {P : Program} {T : TypeId → Option TI} {F0 : Nat → Prop} {w0 : World} {dr : Bool} {ops rest : List Oper} {K : St → Prop} {n : Nat} {sl : List (Nat × SVal)} {mem : List Blk} {ck : Nat} {df : List (FuncId × List Cell)} {acc : List Nat}
variable {d : Tmp} {op : Op} {ty : TypeId} {pos : String} {aft : Array Edge} {g : Option (Nat × Bool)}
theorem Cc (h : Reg P F0 w0 dr ops K rest ⟨n, (d, .und) :: sl, mem, ck, df⟩ (0 :: acc)) (hj : (ops[j]?).bind (·.dst) = some dg := by exact rfl) (hb : look sl dg = DE !want := by exact rfl) :
  Reg P F0 w0 dr ops K (⟨some d, op, ty, pos, aft, some (j, want)⟩ :: rest) ⟨n, sl, mem, ck, df⟩ acc :=
 UW hj hb h
theorem Ql (h : Reg P F0 w0 dr ops K rest ⟨n, (d, .und) :: sl, mem, ck, df⟩ (0 :: acc)) (hj : (ops[j]?).bind (·.dst) = some dg := by exact rfl) (hb : look sl dg = .und := by exact rfl) :
  Reg P F0 w0 dr ops K (⟨some d, op, ty, pos, aft, some (j, want)⟩ :: rest) ⟨n, sl, mem, ck, df⟩ acc :=
 UX hj hb h
theorem Cd [tc : TC P T] (h : Reg P F0 w0 dr ops K rest ⟨n, (d, v) :: sl, mem, ck, df⟩ (0 :: acc)) (hw : GW ops g sl := by first | exact trivial | exact rfl) (hx : AO sl x = v := by first | exact (rfl : _ = SVal.c _) | exact (rfl : _ = SVal.agg _) | exact (rfl : _ = SVal.tup _) | exact (rfl : _ = SVal.und) | exact rfl) :
  Reg P F0 w0 dr ops K (⟨some d, .move x, ty, pos, aft, g⟩ :: rest) ⟨n, sl, mem, ck, df⟩ acc :=
 Gw hw (fun m c => Does.of tc.ok fun τ he hm hc Kk hK => by
  subst hm; subst hc
  have ex := he x (by simp [Op.operands])
  rw [hx] at ex
  simp only [AP, ex]
  exact hK _ _ _ _ ⟨rfl, rfl, rfl, rfl⟩) h
theorem Bf [tc : TC P T] (h : Reg P F0 w0 dr ops K rest ⟨n, (d, v) :: sl, mem, ck, df⟩ (0 :: acc)) (hw : GW ops g sl := by first | exact trivial | exact rfl) (hx : AO sl x = v := by first | exact (rfl : _ = SVal.c _) | exact (rfl : _ = SVal.agg _) | exact (rfl : _ = SVal.tup _) | exact (rfl : _ = SVal.und) | exact rfl) :
  Reg P F0 w0 dr ops K (⟨some d, .assign x, ty, pos, aft, g⟩ :: rest) ⟨n, sl, mem, ck, df⟩ acc :=
 Gw hw (fun m c => Does.of tc.ok fun τ he hm hc Kk hK => by
  subst hm; subst hc
  have ex := he x (by simp [Op.operands])
  rw [hx] at ex
  simp only [AP, ex]
  exact hK _ _ _ _ ⟨rfl, rfl, rfl, rfl⟩) h
theorem B0 [tc : TC P T] (h : Reg P F0 w0 dr ops K rest ⟨n, (d, .c (.bp r (ck + 1) 0)) :: sl, mem', ck + 1, df⟩ (3 :: acc)) (hw : GW ops g sl := by first | exact trivial | exact rfl) (ht : T t = some i := by exact rfl) (hr : mem.length = r := by first | exact (rfl : _ = 0) | exact (rfl : _ = 1) | exact (rfl : _ = 2) | exact (rfl : _ = 3) | exact (rfl : _ = 4) | exact (rfl : _ = 5) | exact (rfl : _ = 6) | exact (rfl : _ = 7) | exact (rfl : _ = 8) | exact (rfl : _ = 9) | exact (rfl : _ = 10) | exact (rfl : _ = 11) | exact (rfl : _ = 12) | exact (rfl : _ = 13) | exact (rfl : _ = 14) | exact (rfl : _ = 15)) (hcs : i.zero.map BP = cs := by repeat' (first | exact A0 rfl | apply AI rfl)) (hm' : mem ++ [Blk.box (ck + 1) cs] = mem' := by repeat' (first | exact A0 rfl | apply AI rfl)) : Reg P F0 w0 dr ops K (⟨some d, .alloc t, ty, pos, aft, g⟩ :: rest) ⟨n, sl, mem, ck, df⟩ acc :=  by
  subst hr; subst hcs; subst hm'
  exact aw hw (Does.of tc.ok fun τ he hm hc Kk hK => by
    subst hm; subst hc
    simp only [AP, ht]
    exact hK _ _ _ _ ⟨rfl, rfl, rfl, rfl⟩) h
theorem BH [tc : TC P T] {e : List Dat} {y : Dat}  (h : Reg P F0 w0 dr ops K rest ⟨n, (d, .c (.d y)) :: sl, mem, ck, df⟩ (0 :: acc)) (hw : GW ops g sl := by first | exact trivial | exact rfl) (hx : AO sl x = .c (.fp e o) := by exact rfl) (ht : T t = some i := by exact rfl) (ha : i.desc.agg = false := by exact rfl) (hs : i.size = 1 := by exact rfl) (hy : e[o]? = some y := by exact rfl) : Reg P F0 w0 dr ops K (⟨some d, .load t x, ty, pos, aft, g⟩ :: rest) ⟨n, sl, mem, ck, df⟩ acc :=
 Gw hw (fun m c => Does.of tc.ok fun τ he hm hc Kk hK => by
  subst hm; subst hc
  have ex := he x (by simp [Op.operands])
  rw [hx] at ex
  have hlt := lt_of_getElem? hy
  have e1 : (e.drop o).take 1 = [y] := by
    rw [XZ hlt]
    rw [Bi hlt] at hy
    simp at hy
    simp [hy]
  simp only [AP, Dq, ht, ex, ha, hs]
  refine ⟨.inr trivial, hlt, ?_⟩
  rw [e1]
  exact hK _ _ _ _ ⟨rfl, rfl, rfl, rfl⟩) h
theorem BI [tc : TC P T] {e : List Dat} (h : Reg P F0 w0 dr ops K rest ⟨n, (d, .agg cs) :: sl, mem, ck, df⟩ (0 :: acc)) (hw : GW ops g sl := by first | exact trivial | exact rfl) (hx : AO sl x = .c (.fp e o) := by exact rfl) (ht : T t = some i := by exact rfl) (ha : i.desc.agg = true := by exact rfl) (hs : decide (o + i.size ≤ e.length) = true := by exact rfl) (hcs : ((e.drop o).take i.size).map Cell.d = cs := by repeat' (first | exact A0 rfl | apply AI rfl)) : Reg P F0 w0 dr ops K (⟨some d, .load t x, ty, pos, aft, g⟩ :: rest) ⟨n, sl, mem, ck, df⟩ acc :=
 Gw hw (fun m c => Does.of tc.ok fun τ he hm hc Kk hK => by
  subst hm; subst hc; subst hcs
  have ex := he x (by simp [Op.operands])
  rw [hx] at ex
  simp only [AP, Dq, ht, ex, ha]
  refine ⟨.inl trivial, by simpa using hs, ?_⟩
  exact hK _ _ _ _ ⟨rfl, rfl, rfl, rfl⟩) h
theorem Bp [tc : TC P T] {y : Cell}  (h : Reg P F0 w0 dr ops K rest ⟨n, (d, .c y) :: sl, mem, ck, df⟩ (1 :: acc)) (hw : GW ops g sl := by first | exact trivial | exact rfl) (hx : AO sl x = .c (.bp r k o) := by exact rfl) (ht : T t = some i := by exact rfl) (ha : i.desc.agg = false := by exact rfl) (hs : i.size = 1 := by exact rfl) (hm : mem[r]? = some (.box k cs) := by exact rfl) (hy : cs[o]? = some y := by exact rfl) : Reg P F0 w0 dr ops K (⟨some d, .load t x, ty, pos, aft, g⟩ :: rest) ⟨n, sl, mem, ck, df⟩ acc :=
 Ez hw hm (fun mem ck hm => Does.of tc.ok fun τ he hmm hc Kk hK => by
  subst hmm; subst hc
  have ex := he x (by simp [Op.operands])
  rw [hx] at ex
  have hlt := lt_of_getElem? hy
  have e1 : (cs.drop o).take 1 = [y] := by
    rw [XZ hlt]
    rw [Bi hlt] at hy
    simp at hy
    simp [hy]
  simp only [AP, Dq, ht, ex, ha, hs, hm]
  refine ⟨.inr trivial, trivial, hlt, ?_⟩
  rw [e1]
  exact hK _ _ _ _ ⟨rfl, rfl, rfl, rfl⟩) h
theorem Bq [tc : TC P T] (h : Reg P F0 w0 dr ops K rest ⟨n, (d, .agg cs') :: sl, mem, ck, df⟩ (1 :: acc)) (hw : GW ops g sl := by first | exact trivial | exact rfl) (hx : AO sl x = .c (.bp r k o) := by exact rfl) (ht : T t = some i := by exact rfl) (ha : i.desc.agg = true := by exact rfl) (hm : mem[r]? = some (.box k cs) := by exact rfl) (hs : decide (o + i.size ≤ cs.length) = true := by exact rfl) (hcs : (cs.drop o).take i.size = cs' := by repeat' (first | exact A0 rfl | apply AI rfl)) : Reg P F0 w0 dr ops K (⟨some d, .load t x, ty, pos, aft, g⟩ :: rest) ⟨n, sl, mem, ck, df⟩ acc :=
 Ez hw hm (fun mem ck hm => Does.of tc.ok fun τ he hmm hc Kk hK => by
  subst hmm; subst hc; subst hcs
  have ex := he x (by simp [Op.operands])
  rw [hx] at ex
  simp only [AP, Dq, ht, ex, ha, hm]
  refine ⟨.inl trivial, trivial, by simpa using hs, ?_⟩
  exact hK _ _ _ _ ⟨rfl, rfl, rfl, rfl⟩) h
theorem CX [tc : TC P T] {e : List Dat} {y : Dat}  (h : Reg P F0 w0 dr ops K rest ⟨n, (d, .c (.d y)) :: sl, mem, ck, df⟩ (1 :: acc)) (hw : GW ops g sl := by first | exact trivial | exact rfl) (hx : AO sl x = .c (.ap r k esz j o) := by exact rfl) (ht : T t = some i := by exact rfl) (ha : i.desc.agg = false := by exact rfl) (hs : i.size = 1 := by exact rfl) (hm : mem[r]? = some (.arr k ety esz es) := by exact rfl) (he' : es[j]? = some e) (hy : e[o]? = some y := by exact rfl) : Reg P F0 w0 dr ops K (⟨some d, .load t x, ty, pos, aft, g⟩ :: rest) ⟨n, sl, mem, ck, df⟩ acc :=
 Ez hw hm (fun mem ck hm => Does.of tc.ok fun τ he hmm hc Kk hK => by
  subst hmm; subst hc
  have ex := he x (by simp [Op.operands])
  rw [hx] at ex
  have hlt := lt_of_getElem? hy
  have e1 : (e.drop o).take 1 = [y] := by
    rw [XZ hlt]
    rw [Bi hlt] at hy
    simp at hy
    simp [hy]
  simp only [AP, Dq, ht, ex, ha, hs, hm]
  refine ⟨.inr trivial, trivial, trivial, Ct he' ⟨hlt, ?_⟩⟩
  rw [e1]
  exact hK _ _ _ _ ⟨rfl, rfl, rfl, rfl⟩) h
theorem NZ [tc : TC P T] {e : List Dat} (h : Reg P F0 w0 dr ops K rest ⟨n, (d, .agg cs) :: sl, mem, ck, df⟩ (1 :: acc)) (hw : GW ops g sl := by first | exact trivial | exact rfl) (hx : AO sl x = .c (.ap r k esz j o) := by exact rfl) (ht : T t = some i := by exact rfl) (ha : i.desc.agg = true := by exact rfl) (hm : mem[r]? = some (.arr k ety esz es) := by exact rfl) (he' : es[j]? = some e) (hs : decide (o + i.size ≤ e.length) = true := by exact rfl) (hcs : ((e.drop o).take i.size).map Cell.d = cs := by repeat' (first | exact A0 rfl | apply AI rfl)) : Reg P F0 w0 dr ops K (⟨some d, .load t x, ty, pos, aft, g⟩ :: rest) ⟨n, sl, mem, ck, df⟩ acc :=
 Ez hw hm (fun mem ck hm => Does.of tc.ok fun τ he hmm hc Kk hK => by
  subst hmm; subst hc; subst hcs
  have ex := he x (by simp [Op.operands])
  rw [hx] at ex
  simp only [AP, Dq, ht, ex, ha, hm]
  refine ⟨.inl trivial, trivial, trivial, Ct he' ⟨by simpa using hs, ?_⟩⟩
  exact hK _ _ _ _ ⟨rfl, rfl, rfl, rfl⟩) h
theorem Bg [tc : TC P T] {cs0 : List Cell} (h : Reg P F0 w0 dr ops K rest ⟨n, sl, mem', ck, df⟩ (2 :: acc)) (hw : GW ops g sl := by first | exact trivial | exact rfl) (hx : AO sl x = .c (.bp r k o) := by exact rfl) (hy : AO sl y = v := by first | exact (rfl : _ = SVal.c _) | exact (rfl : _ = SVal.agg _) | exact (rfl : _ = SVal.tup _) | exact (rfl : _ = SVal.und) | exact rfl) (hc : v.cells = some cs := by exact rfl) (ht : T t = some i := by exact rfl) (hl : cs.length = i.size := by exact rfl) (hm : mem[r]? = some (.box k cs0) := by exact rfl) (hs : decide (o + i.size ≤ cs0.length) = true := by exact rfl) (hcs : cs0.take o ++ cs ++ cs0.drop (o + i.size) = cs' := by repeat' (first | exact A0 rfl | apply AI rfl)) (hm' : mem.set r (.box k cs') = mem' := by repeat' (first | exact A0 rfl | apply AI rfl)) : Reg P F0 w0 dr ops K (⟨none, .store t x y, ty, pos, aft, g⟩ :: rest) ⟨n, sl, mem, ck, df⟩ acc :=
 NH (df' := []) (v := .junk) hw (Does.of tc.ok fun τ he hmm hck Kk hK => by
  subst hmm; subst hck; subst hcs; subst hm'
  have ex := he x (by simp [Op.operands])
  have ey := he y (by simp [Op.operands])
  rw [hx] at ex
  rw [hy] at ey
  simp only [AP, EM, ht, ex, ey, hc, hm]
  exact ⟨hl, trivial, by simpa using hs, hK _ _ _ _ ⟨rfl, rfl, rfl, rfl⟩⟩) h
theorem Cy [tc : TC P T] {e e' : List Dat} {ds : List Dat} (h : Reg P F0 w0 dr ops K rest ⟨n, sl, mem', ck, df⟩ (2 :: acc)) (hw : GW ops g sl := by first | exact trivial | exact rfl) (hx : AO sl x = .c (.ap r k esz j o) := by exact rfl) (hy : AO sl y = v := by first | exact (rfl : _ = SVal.c _) | exact (rfl : _ = SVal.agg _) | exact (rfl : _ = SVal.tup _) | exact (rfl : _ = SVal.und) | exact rfl) (hc : v.cells = some cs := by exact rfl) (hds : DF cs = some ds := by exact rfl) (ht : T t = some i := by exact rfl) (hl : cs.length = i.size := by exact rfl) (hm : mem[r]? = some (.arr k ety esz es) := by exact rfl) (hs : decide (o + i.size ≤ esz) = true := by exact rfl) (hj : es[j]? = some e) (he' : e.take o ++ ds ++ e.drop (o + i.size) = e' := by exact rfl) (hes : es.set j e' = es' := by exact rfl) (hm' : mem.set r (.arr k ety esz es') = mem' := by repeat' (first | exact A0 rfl | apply AI rfl)) : Reg P F0 w0 dr ops K (⟨none, .store t x y, ty, pos, aft, g⟩ :: rest) ⟨n, sl, mem, ck, df⟩ acc :=
 NH (df' := []) (v := .junk) hw (Does.of tc.ok fun τ he hmm hck Kk hK => by
  subst hmm; subst hck; subst he'; subst hes; subst hm'
  have ex := he x (by simp [Op.operands])
  have ey := he y (by simp [Op.operands])
  rw [hx] at ex
  rw [hy] at ey
  simp only [AP, EM, ht, ex, ey, hc, hm, hds]
  exact ⟨hl, trivial, trivial, by simpa using hs, Ct hj (hK _ _ _ _ ⟨rfl, rfl, rfl, rfl⟩)⟩) h
theorem BJ [tc : TC P T] {j : TI} {e : List Dat} (h : Reg P F0 w0 dr ops K rest ⟨n, (d, .c (.fp e (o + off))) :: sl, mem, ck, df⟩ (0 :: acc)) (hw : GW ops g sl := by first | exact trivial | exact rfl) (hx : AO sl x = .c (.fp e o) := by exact rfl) (hs : T s = some i := by exact rfl) (hi : i.desc = .struct fs := by exact rfl) (hf : fs[f]? = some (off, ft) := by exact rfl) (hj : T ft = some j := by exact rfl) (hz : decide (j.size ≠ 0) = true := by exact rfl) : Reg P F0 w0 dr ops K (⟨some d, .fieldAddr s x f, ty, pos, aft, g⟩ :: rest) ⟨n, sl, mem, ck, df⟩ acc :=
 Gw hw (fun m c => Does.of tc.ok fun τ he hm hc Kk hK => by
  subst hm; subst hc
  have ex := he x (by simp [Op.operands])
  rw [hx] at ex
  obtain ⟨a1, a2, a3, a4, a5⟩ := i
  simp only at hi
  subst hi
  simp only [AP, FP, hs, hf, hj, ex]
  exact ⟨by simpa using hz, hK _ _ _ _ ⟨rfl, rfl, rfl, rfl⟩⟩) h
theorem Bv [tc : TC P T] {j : TI} (h : Reg P F0 w0 dr ops K rest ⟨n, (d, .c (.bp r k (o + off))) :: sl, mem, ck, df⟩ (1 :: acc)) (hw : GW ops g sl := by first | exact trivial | exact rfl) (hx : AO sl x = .c (.bp r k o) := by exact rfl) (hs : T s = some i := by exact rfl) (hi : i.desc = .struct fs := by exact rfl) (hf : fs[f]? = some (off, ft) := by exact rfl) (hj : T ft = some j := by exact rfl) (hz : decide (j.size ≠ 0) = true := by exact rfl) (hm : mem[r]? = some (.box k cs) := by exact rfl) : Reg P F0 w0 dr ops K (⟨some d, .fieldAddr s x f, ty, pos, aft, g⟩ :: rest) ⟨n, sl, mem, ck, df⟩ acc :=
 Ez hw hm (fun mem ck hm => Does.of tc.ok fun τ he hmm hc Kk hK => by
  subst hmm; subst hc
  have ex := he x (by simp [Op.operands])
  rw [hx] at ex
  obtain ⟨a1, a2, a3, a4, a5⟩ := i
  simp only at hi
  subst hi
  simp only [AP, FP, hs, hf, hj, ex, Dt, hm]
  exact ⟨by simpa using hz, trivial, hK _ _ _ _ ⟨rfl, rfl, rfl, rfl⟩⟩) h
theorem N0 [tc : TC P T] {j : TI} {z : Nat} (h : Reg P F0 w0 dr ops K rest ⟨n, (d, .c (.ap r k esz z (o + off))) :: sl, mem, ck, df⟩ (1 :: acc)) (hw : GW ops g sl := by first | exact trivial | exact rfl) (hx : AO sl x = .c (.ap r k esz z o) := by exact rfl) (hs : T s = some i := by exact rfl) (hi : i.desc = .struct fs := by exact rfl) (hf : fs[f]? = some (off, ft) := by exact rfl) (hj : T ft = some j := by exact rfl) (hz : decide (j.size ≠ 0) = true := by exact rfl) (hm : mem[r]? = some (.arr k ety esz es) := by exact rfl) : Reg P F0 w0 dr ops K (⟨some d, .fieldAddr s x f, ty, pos, aft, g⟩ :: rest) ⟨n, sl, mem, ck, df⟩ acc :=
 Ez hw hm (fun mem ck hm => Does.of tc.ok fun τ he hmm hc Kk hK => by
  subst hmm; subst hc
  have ex := he x (by simp [Op.operands])
  rw [hx] at ex
  obtain ⟨a1, a2, a3, a4, a5⟩ := i
  simp only at hi
  subst hi
  simp only [AP, FP, hs, hf, hj, ex, Dt, hm]
  exact ⟨by simpa using hz, trivial, hK _ _ _ _ ⟨rfl, rfl, rfl, rfl⟩⟩) h
theorem Bw [tc : TC P T] {el : List Dat}  (h : Reg P F0 w0 dr ops K rest ⟨n, (d, .c (.fp el 0)) :: sl, mem, ck, df⟩ (0 :: acc)) (hw : GW ops g sl := by first | exact trivial | exact rfl) (hx : AO sl x = .c (.d (.sl es)) := by exact rfl) (hy : AO sl y = .c (.d (.lit (.int kk z))) := by exact rfl) (ht : T t = some i := by exact rfl) (hi : i.desc = .slice e := by exact rfl) (he' : T e = some ei := by exact rfl) (hz : 0 ≤ z := by omega) (hel : es[z.toNat]? = some el) (hl : el.length = ei.size := by exact rfl) : Reg P F0 w0 dr ops K (⟨some d, .indexAddr t x y, ty, pos, aft, g⟩ :: rest) ⟨n, sl, mem, ck, df⟩ acc :=
 Gw hw (fun m c => Does.of tc.ok fun τ he hm hc Kk hK => by
  subst hm; subst hc
  have ex := he x (by simp [Op.operands])
  have ey := he y (by simp [Op.operands])
  rw [hx] at ex
  rw [hy] at ey
  obtain ⟨a1, a2, a3, a4, a5⟩ := i
  simp only at hi
  subst hi
  simp only [AP, Fg, ht, he', ex, ey]
  exact ⟨hz, Ct hel ⟨hl, hK _ _ _ _ ⟨rfl, rfl, rfl, rfl⟩⟩⟩) h
theorem BK [tc : TC P T] (h : Reg P F0 w0 dr ops K rest ⟨n, (d, .c (.ap r k esz j 0)) :: sl, mem, ck, df⟩ (1 :: acc)) (hw : GW ops g sl := by first | exact trivial | exact rfl) (hx : AO sl x = .c (.arr r k m) := by exact rfl) (hy : AO sl y = .c (.d (.lit (.int kk z))) := by exact rfl) (ht : T t = some i := by exact rfl) (hi : i.desc = .slice e := by exact rfl) (he' : T e = some ei := by exact rfl) (hm : mem[r]? = some (.arr k ety esz es) := by exact rfl) (hsz : esz = ei.size := by exact rfl) (hz : 0 ≤ z := by omega) (hzm : z < (m : Int) := by omega) (hml : m ≤ es.length := by first | omega | exact Nat.le_refl _ | (simp only [BT, Hn, Dg, List.length_cons, List.length_nil, Jj, Gm, Jh]; omega)) (hj : z.toNat = j := by first | exact QH _ | exact rfl) : Reg P F0 w0 dr ops K (⟨some d, .indexAddr t x y, ty, pos, aft, g⟩ :: rest) ⟨n, sl, mem, ck, df⟩ acc :=
 Ez hw hm (fun mem ck hm => Does.of tc.ok fun τ he hmm hc Kk hK => by
  subst hmm; subst hc; subst hj
  have ex := he x (by simp [Op.operands])
  have ey := he y (by simp [Op.operands])
  rw [hx] at ex
  rw [hy] at ey
  obtain ⟨a1, a2, a3, a4, a5⟩ := i
  simp only at hi
  subst hi
  simp only [AP, Fg, ht, he', ex, ey, hm]
  exact ⟨hz, hzm, trivial, hsz, hml, hK _ _ _ _ ⟨rfl, rfl, rfl, rfl⟩⟩) h
theorem Li [tc : TC P T] (h : Reg P F0 w0 dr ops K rest ⟨n, (d, .c (.bp r k (o + z.toNat * ei.size))) :: sl, mem, ck, df⟩ (1 :: acc)) (hw : GW ops g sl := by first | exact trivial | exact rfl) (hx : AO sl x = .c (.bp r k o) := by exact rfl) (hy : AO sl y = .c (.d (.lit (.int kk z))) := by exact rfl) (ht : T t = some i := by exact rfl) (hi : i.desc = .array m e := by exact rfl) (he' : T e = some ei := by exact rfl) (hm : mem[r]? = some (.box k cs) := by exact rfl) (hz : 0 ≤ z := by omega) (hzm : z < (m : Int) := by omega) : Reg P F0 w0 dr ops K (⟨some d, .indexAddr t x y, ty, pos, aft, g⟩ :: rest) ⟨n, sl, mem, ck, df⟩ acc :=
 Ez hw hm (fun mem ck hm => Does.of tc.ok fun τ he hmm hc Kk hK => by
  subst hmm; subst hc
  have ex := he x (by simp [Op.operands])
  have ey := he y (by simp [Op.operands])
  rw [hx] at ex
  rw [hy] at ey
  obtain ⟨a1, a2, a3, a4, a5⟩ := i
  simp only at hi
  subst hi
  simp only [AP, Fg, ht, he', ex, ey, Dt, hm]
  exact ⟨hz, hzm, trivial, hK _ _ _ _ ⟨rfl, rfl, rfl, rfl⟩⟩) h
theorem BL [tc : TC P T] {lo hi : Option Operand} {b : Int} (h : Reg P F0 w0 dr ops K rest ⟨n, (d, .c (.d (.sl es'))) :: sl, mem, ck, df⟩ (0 :: acc)) (hw : GW ops g sl := by first | exact trivial | exact rfl) (hx : AO sl x = .c (.d (.sl es)) := by exact rfl) (ht : T t = some i := by exact rfl) (hi' : i.desc = .slice e := by exact rfl) (hei : T e = some ei := by exact rfl) (hlo : JV sl 0 lo = some a := by exact rfl) (hhi : JV sl es.length hi = some b := by exact rfl) (hsz : ∀ el ∈ es, el.length = ei.size := by first | exact Bb | exact Ia (fun _ => rfl) | exact AJ rfl Bb | exact AJ rfl (AJ rfl Bb) | exact AJ rfl (AJ rfl (AJ rfl Bb)) | (repeat (first | exact Bb | refine AJ rfl ?_))) (ha : 0 ≤ a := by first | omega | exact Nat.le_refl _ | (simp only [BT, Hn, Dg, List.length_cons, List.length_nil, Jj, Gm, Jh]; omega)) (hab : a ≤ b := by first | omega | exact Nat.le_refl _ | (simp only [BT, Hn, Dg, List.length_cons, List.length_nil, Jj, Gm, Jh]; omega)) (hb : b ≤ (es.length : Int) := by first | omega | exact Nat.le_refl _ | (simp only [BT, Hn, Dg, List.length_cons, List.length_nil, Jj, Gm, Jh]; omega)) (hes : (es.take b.toNat).drop a.toNat = es' := by first | exact W7 | exact NL | exact SR | exact Rb | exact UZ | exact rfl) : Reg P F0 w0 dr ops K (⟨some d, .slice t x lo hi none, ty, pos, aft, g⟩ :: rest) ⟨n, sl, mem, ck, df⟩ acc :=
 Gw hw (fun m c => Does.of tc.ok fun τ he hm hc Kk hK => by
  subst hm; subst hc; subst hes
  have ex := he x (by simp [Op.operands])
  rw [hx] at ex
  have el := L1 (τ := τ) (fun y hy => he y (by simp only [Op.operands]; simp at hy ⊢; simp [hy])) hlo
  have eh := L1 (τ := τ) (fun y hy => he y (by simp only [Op.operands]; simp at hy ⊢; simp [hy])) hhi
  obtain ⟨a1, a2, a3, a4, a5⟩ := i
  simp only at hi'
  subst hi'
  simp only [AP, HS, ht, ex, hei, el, eh]
  exact ⟨rfl, hsz, ha, hab, hb, hK _ _ _ _ ⟨rfl, rfl, rfl, rfl⟩⟩) h
theorem N1 [tc : TC P T] {lo hi : Option Operand} {b : Int} {s : ByteArray}  (h : Reg P F0 w0 dr ops K rest ⟨n, (d, .c (.d (.lit (.string (s.extract a.toNat b.toNat))))) :: sl, mem, ck, df⟩ (0 :: acc)) (hw : GW ops g sl := by first | exact trivial | exact rfl) (hx : AO sl x = .c (.d (.lit (.string s))) := by exact rfl) (ht : T t = some i := by exact rfl) (hi' : i.desc = .str := by exact rfl) (hlo : JV sl 0 lo = some a := by exact rfl) (hhi : JV sl s.size hi = some b := by exact rfl) (ha : 0 ≤ a := by first | omega | exact Nat.le_refl _ | (simp only [BT, Hn, Dg, List.length_cons, List.length_nil, Jj, Gm, Jh]; omega)) (hab : a ≤ b := by first | omega | exact Nat.le_refl _ | (simp only [BT, Hn, Dg, List.length_cons, List.length_nil, Jj, Gm, Jh]; omega)) (hb : b ≤ (s.size : Int) := by first | omega | exact Nat.le_refl _ | (simp only [BT, Hn, Dg, List.length_cons, List.length_nil, Jj, Gm, Jh]; omega)) : Reg P F0 w0 dr ops K (⟨some d, .slice t x lo hi none, ty, pos, aft, g⟩ :: rest) ⟨n, sl, mem, ck, df⟩ acc :=
 Gw hw (fun m c => Does.of tc.ok fun τ he hm hc Kk hK => by
  subst hm; subst hc
  have ex := he x (by simp [Op.operands])
  rw [hx] at ex
  have el := L1 (τ := τ) (fun y hy => he y (by simp only [Op.operands]; simp at hy ⊢; simp [hy])) hlo
  have eh := L1 (τ := τ) (fun y hy => he y (by simp only [Op.operands]; simp at hy ⊢; simp [hy])) hhi
  obtain ⟨a1, a2, a3, a4, a5⟩ := i
  simp only at hi'
  subst hi'
  simp only [AP, HS, ht, ex, el, eh]
  exact ⟨rfl, ha, hab, hb, hK _ _ _ _ ⟨rfl, rfl, rfl, rfl⟩⟩) h
theorem Eo [tc : TC P T] {bo : BinOp} {k : IntKind} {b : Int} (h : Reg P F0 w0 dr ops K rest ⟨n, (d, v) :: sl, mem, ck, df⟩ (0 :: acc)) (hw : GW ops g sl := by first | exact trivial | exact rfl) (hx : AO sl x = .c (.d (.lit (.int k a))) := by exact rfl) (hy : AO sl y = .c (.d (.lit (.int k b))) := by exact rfl) (hv : IntOp bo k a b v := by first | exact .add64 (by omega) (by omega) | exact .sub64 (by omega) (by omega) | exact .eql | exact .neq | exact .lss | exact .leq | exact .gtr | exact .geq | exact .rem (by omega) | exact .quoN (b := 2) (by omega) (by omega) | exact .quoN (by omega) (by omega) | exact .quo (by omega) | exact .mul64 (by omega) (by omega) | exact .and | exact .add | exact .sub | exact .mul) : Reg P F0 w0 dr ops K (⟨some d, .binOp bo t x y t', ty, pos, aft, g⟩ :: rest) ⟨n, sl, mem, ck, df⟩ acc :=
 NI tc.ok hw hx hy (fun V q => by
  cases hv with
  | add64 h1 h2 => exact ⟨rfl, by simp only [OV, BW h1 h2]; exact q⟩
  | sub64 h1 h2 => exact ⟨rfl, by simp only [OV, BW h1 h2]; exact q⟩
  | mul64 h1 h2 => exact ⟨rfl, by simp only [OV, BW h1 h2]; exact q⟩
  | quoN h1 h2 =>
    refine ⟨rfl, by omega, ?_⟩
    rename_i a b
    have e : IntKind.i64.wrap ((a : Int).tdiv (b : Int)) = ((a / b : Nat) : Int) := by
     have h3 := Nat.div_le_self a b
     rw [← Int.ofNat_tdiv]
     generalize a / b = c at h3
     exact BW (by omega) (by omega)
    rw [e]
    exact q
  | quo h1 => exact ⟨rfl, h1, q⟩
  | rem h1 => exact ⟨rfl, h1, q⟩
  | _ => exact ⟨rfl, q⟩) h
theorem SX [tc : TC P T] {bo : BinOp} {a b : ByteArray} (h : Reg P F0 w0 dr ops K rest ⟨n, (d, v) :: sl, mem, ck, df⟩ (0 :: acc)) (hw : GW ops g sl := by first | exact trivial | exact rfl) (hx : AO sl x = .c (.d (.lit (.string a))) := by exact rfl) (hy : AO sl y = .c (.d (.lit (.string b))) := by exact rfl) (hv : StrOp bo a b v := by first | exact .eql | exact .neq | exact .lss | exact .add (by simp only [maxLen]; omega)) : Reg P F0 w0 dr ops K (⟨some d, .binOp bo t x y t', ty, pos, aft, g⟩ :: rest) ⟨n, sl, mem, ck, df⟩ acc :=
 NI tc.ok hw hx hy (fun V q => by
  cases hv with
  | add h1 => exact ⟨h1, q⟩
  | _ => exact q) h
theorem VW [tc : TC P T] {a : Bool}  (h : Reg P F0 w0 dr ops K rest ⟨n, (d, .c (.d (.lit (.bool (!(a == b)))))) :: sl, mem, ck, df⟩ (0 :: acc)) (hw : GW ops g sl := by first | exact trivial | exact rfl) (hx : AO sl x = .c (.d (.lit (.bool a))) := by exact rfl) (hy : AO sl y = .c (.d (.lit (.bool b))) := by exact rfl) (ht : T t = some i := by exact rfl) (hi : i.desc = .bool := by exact rfl) : Reg P F0 w0 dr ops K (⟨some d, .binOp .neq t x y t', ty, pos, aft, g⟩ :: rest) ⟨n, sl, mem, ck, df⟩ acc :=
 NI tc.ok hw hx hy (fun V q => by
  obtain ⟨a1, a2, a3, a4, a5⟩ := i
  simp only at hi
  subst hi
  simp only [MK, ht]
  exact q) h
theorem VX [tc : TC P T] {xs ys : List Cell} {us vs : List Value}  (h : Reg P F0 w0 dr ops K rest ⟨n, (d, .c (.d (.lit (.bool (Cs us vs))))) :: sl, mem, ck, df⟩ (0 :: acc)) (hw : GW ops g sl := by first | exact trivial | exact rfl) (hx : AO sl x = .agg xs := by exact rfl) (hy : AO sl y = .agg ys := by exact rfl) (ht : T t = some i := by exact rfl) (he : i.eqs = true := by exact rfl) (hu : DS xs = some us := by exact rfl) (hv : DS ys = some vs := by exact rfl) (h1 : Ds i.zero us := by repeat (first | exact trivial | refine And.intro (by first | exact rfl | exact trivial) ?_)) (h2 : Ds i.zero vs := by repeat (first | exact trivial | refine And.intro (by first | exact rfl | exact trivial) ?_)) : Reg P F0 w0 dr ops K (⟨some d, .binOp .eql t x y t', ty, pos, aft, g⟩ :: rest) ⟨n, sl, mem, ck, df⟩ acc :=
 NI tc.ok hw hx hy (fun V q => by
  simp only [MK, ht, hu, hv]
  exact ⟨he, h1, h2, q⟩) h
theorem VY [tc : TC P T] {xs ys : List Cell} {us vs : List Value}  (h : Reg P F0 w0 dr ops K rest ⟨n, (d, .c (.d (.lit (.bool (!(Cs us vs)))))) :: sl, mem, ck, df⟩ (0 :: acc)) (hw : GW ops g sl := by first | exact trivial | exact rfl) (hx : AO sl x = .agg xs := by exact rfl) (hy : AO sl y = .agg ys := by exact rfl) (ht : T t = some i := by exact rfl) (he : i.eqs = true := by exact rfl) (hu : DS xs = some us := by exact rfl) (hv : DS ys = some vs := by exact rfl) (h1 : Ds i.zero us := by repeat (first | exact trivial | refine And.intro (by first | exact rfl | exact trivial) ?_)) (h2 : Ds i.zero vs := by repeat (first | exact trivial | refine And.intro (by first | exact rfl | exact trivial) ?_)) : Reg P F0 w0 dr ops K (⟨some d, .binOp .neq t x y t', ty, pos, aft, g⟩ :: rest) ⟨n, sl, mem, ck, df⟩ acc :=
 NI tc.ok hw hx hy (fun V q => by
  simp only [MK, ht, hu, hv]
  exact ⟨he, h1, h2, q⟩) h
theorem Qm [tc : TC P T] (h : Reg P F0 w0 dr ops K rest ⟨n, (d, .c (.d (.lit (.bool (!b))))) :: sl, mem, ck, df⟩ (0 :: acc)) (hw : GW ops g sl := by first | exact trivial | exact rfl) (hx : AO sl x = .c (.d (.lit (.bool b))) := by exact rfl) : Reg P F0 w0 dr ops K (⟨some d, .unOp .not t x, ty, pos, aft, g⟩ :: rest) ⟨n, sl, mem, ck, df⟩ acc :=
 Gw hw (fun m c => Does.of tc.ok fun τ he hm hc Kk hK => by
  subst hm; subst hc
  have ex := he x (by simp [Op.operands])
  rw [hx] at ex
  simp only [AP, X9, ex]
  exact hK _ _ _ _ ⟨rfl, rfl, rfl, rfl⟩) h
theorem VZ [tc : TC P T] {k : IntKind} (h : Reg P F0 w0 dr ops K rest ⟨n, (d, .c (.d (.lit (.int k z')))) :: sl, mem, ck, df⟩ (0 :: acc)) (hw : GW ops g sl := by first | exact trivial | exact rfl) (hx : AO sl x = .c (.d (.lit (.int k z))) := by exact rfl) (hz : k.wrap (0 - z) = z' := by first | exact U5 (by omega) (by omega) | exact rfl) : Reg P F0 w0 dr ops K (⟨some d, .unOp .neg t x, ty, pos, aft, g⟩ :: rest) ⟨n, sl, mem, ck, df⟩ acc :=
 Gw hw (fun m c => Does.of tc.ok fun τ he hm hc Kk hK => by
  subst hm; subst hc; subst hz
  have ex := he x (by simp [Op.operands])
  rw [hx] at ex
  simp only [AP, X9, ex]
  exact hK _ _ _ _ ⟨rfl, rfl, rfl, rfl⟩) h
theorem SY [tc : TC P T] {j : TI} {k k' : IntKind} (h : Reg P F0 w0 dr ops K rest ⟨n, (d, .c (.d (.lit (.int k' z')))) :: sl, mem, ck, df⟩ (0 :: acc)) (hw : GW ops g sl := by first | exact trivial | exact rfl) (hx : AO sl x = .c (.d (.lit (.int k z))) := by exact rfl) (hs : T s = some i := by exact rfl) (ht : T t = some j := by exact rfl) (hj : j.desc = .int k' := by exact rfl) (hz : k'.wrap z = z' := by first | exact BW (by omega) (by omega) | exact rfl) : Reg P F0 w0 dr ops K (⟨some d, .convert s t x, ty, pos, aft, g⟩ :: rest) ⟨n, sl, mem, ck, df⟩ acc :=
 Gw hw (fun m c => Does.of tc.ok fun τ he hm hc Kk hK => by
  subst hm; subst hc; subst hz
  have ex := he x (by simp [Op.operands])
  rw [hx] at ex
  obtain ⟨a1, a2, a3, a4, a5⟩ := j
  simp only at hj
  subst hj
  simp only [AP, ML, hs, ht, ex]
  exact hK _ _ _ _ ⟨rfl, rfl, rfl, rfl⟩) h
theorem L9 [tc : TC P T] {parts : Array (Nat × Operand)} (h : Reg P F0 w0 dr ops K rest ⟨n, (d, .agg cs') :: sl, mem, ck, df⟩ (0 :: acc)) (hw : GW ops g sl := by first | exact trivial | exact rfl) (ht : T t = some i := by exact rfl) (hi : i.desc = .struct fs := by exact rfl) (ha : fs.all (fun p => (T p.2).isSome) = true := by exact rfl) (hf : Qc T sl fs parts.toList (i.zero.map BP) = some cs := by exact rfl) (hn : cs = cs' := by repeat' (first | exact A0 rfl | apply AI rfl)) : Reg P F0 w0 dr ops K (⟨some d, .build t parts, ty, pos, aft, g⟩ :: rest) ⟨n, sl, mem, ck, df⟩ acc :=
 Gw hw (fun m c => Does.of tc.ok fun τ he hm hc Kk hK => by
  subst hm; subst hc; subst hn
  obtain ⟨a1, a2, a3, a4, a5⟩ := i
  simp only at hi
  subst hi
  have hq := NJ (τ := τ) parts.toList _ (fun p hp => he p.2 (by simp only [Op.operands]; simp; exact ⟨p.1, by simpa using hp⟩)) cs hf
  simp only [AP, Jm, ht]
  refine ⟨ha, ?_⟩
  simp only at hq
  simp only [hq]
  exact hK _ _ _ _ ⟨rfl, rfl, rfl, rfl⟩) h
theorem J1 [tc : TC P T] {len : Nat} {parts : Array (Nat × Operand)} (h : Reg P F0 w0 dr ops K rest ⟨n, (d, .c (.d (.sl es'))) :: sl, mem, ck, df⟩ (0 :: acc)) (hw : GW ops g sl := by first | exact trivial | exact rfl) (ht : T t = some i := by exact rfl) (hi : i.desc = .slice e := by exact rfl) (hei : T e = some ei := by exact rfl) (hc : (Nat.blt 0 len && Nat.blt 0 ei.size && Nat.beq ei.zero.length ei.size && Nat.ble (len * ei.size) 16777216 && Nat.beq parts.size len) = true := by exact rfl) (hp : JW sl ei.size parts.toList 0 = some es := by exact rfl) (hn : es = es' := by repeat' (first | exact A0 rfl | apply AI rfl)) : Reg P F0 w0 dr ops K (⟨some d, .buildSlice t len parts, ty, pos, aft, g⟩ :: rest) ⟨n, sl, mem, ck, df⟩ acc :=
 Gw hw (fun m c => Does.of tc.ok fun τ he hm hc' Kk hK => by
  subst hm; subst hc'; subst hn
  obtain ⟨a1, a2, a3, a4, a5⟩ := i
  simp only at hi
  subst hi
  simp only [BO, PS, KM, Nat.blt, QI] at hc
  obtain ⟨⟨⟨⟨h1, h2⟩, h3⟩, h4⟩, h5⟩ := hc
  have hq := Ib (τ := τ) parts.toList _ (fun p hp => he p.2 (by simp only [Op.operands]; simp; exact ⟨p.1, by simpa using hp⟩)) es hp
  cases len with
  | zero => omega
  | succ len =>
    simp only [AP, Cu, ht, hei, hq]
    exact ⟨h2, h3, h4, by simpa using h5, hK _ _ _ _ ⟨rfl, rfl, rfl, rfl⟩⟩) h
theorem Ea [tc : TC P T] (h : Reg P F0 w0 dr ops K rest ⟨n, (d, .c .emp) :: sl, mem, ck, df⟩ (0 :: acc)) (hw : GW ops g sl := by first | exact trivial | exact rfl) (ht : T t = some i := by exact rfl) (hi : i.desc = .slice e := by exact rfl) (hei : T e = some ei := by exact rfl) : Reg P F0 w0 dr ops K (⟨some d, .buildSlice t 0 #[], ty, pos, aft, g⟩ :: rest) ⟨n, sl, mem, ck, df⟩ acc :=
 Gw hw (fun m c => Does.of tc.ok fun τ he hm hc' Kk hK => by
  subst hm; subst hc'
  obtain ⟨a1, a2, a3, a4, a5⟩ := i
  simp only at hi
  subst hi
  simp only [AP, Cu, ht, hei]
  exact ⟨trivial, hK _ _ _ _ ⟨rfl, rfl, rfl, rfl⟩⟩) h
theorem Ce [tc : TC P T] {f : FuncId} {xs : List Operand} (h : Reg P F0 w0 dr ops K rest ⟨n, (d, .c (.clo f cs')) :: sl, mem, ck, df⟩ (0 :: acc)) (hw : GW ops g sl := by first | exact trivial | exact rfl) (hc : Qd sl (x :: xs) = some cs := by exact rfl) (hd : DF cs = none := by exact rfl) (hn : cs = cs' := by repeat' (first | exact A0 rfl | apply AI rfl)) :
  Reg P F0 w0 dr ops K (⟨some d, .makeFunc (.func f) #[] ⟨x :: xs⟩, ty, pos, aft, g⟩ :: rest) ⟨n, sl, mem, ck, df⟩ acc :=
 Gw hw (fun m c => Does.of tc.ok fun τ he hm hc' Kk hK => by
  subst hm; subst hc'; subst hn
  have := NK (τ := τ) _ (fun y hy => he y (by simp only [Op.operands]; simpa using hy)) cs hc
  simp only [AP, MM, this, hd]
  exact hK _ _ _ _ ⟨rfl, rfl, rfl, rfl⟩) h
theorem Lj [tc : TC P T] {i : Nat} {xs : List SVal} (h : Reg P F0 w0 dr ops K rest ⟨n, (d, v) :: sl, mem, ck, df⟩ (0 :: acc)) (hw : GW ops g sl := by first | exact trivial | exact rfl) (hx : AO sl x = .tup xs := by exact rfl) (hv : xs[i]? = some v := by first | exact (rfl : _ = some (SVal.c _)) | exact (rfl : _ = some (SVal.agg _)) | exact rfl) :
  Reg P F0 w0 dr ops K (⟨some d, .extract x i, ty, pos, aft, g⟩ :: rest) ⟨n, sl, mem, ck, df⟩ acc :=
 Gw hw (fun m c => Does.of tc.ok fun τ he hm hc' Kk hK => by
  subst hm; subst hc'
  have ex := he x (by simp [Op.operands])
  rw [hx] at ex
  simp only [AP, ex, hv]
  exact hK _ _ _ _ ⟨rfl, rfl, rfl, rfl⟩) h
theorem Aa [tc : TC P T] {f : Operand} {fv : SVal} {args : Array Operand} {fid : FuncId} {caps : List Cell} {aS : List SVal} {pargs : List PV} {r : PRes} (hp : PCall P fid pargs r) (h : Reg P F0 w0 dr ops K rest ⟨n, (d, v) :: sl, mem, ck, df⟩ (0 :: acc)) (hw : GW ops g sl := by first | exact trivial | exact rfl) (hf : AO sl f = fv := by exact rfl) (hc : Cv fv = some (fid, caps) := by exact rfl) (has : args.toList.map (AO sl) ++ caps.map .c = aS := by exact rfl) (ha : SDs aS pargs := by first | exact trivial | exact And.intro rfl trivial | exact And.intro rfl (And.intro rfl trivial) | exact And.intro rfl (And.intro rfl (And.intro rfl trivial)) | exact And.intro rfl (And.intro rfl (And.intro rfl (And.intro rfl trivial))) | exact And.intro rfl (And.intro rfl (And.intro rfl (And.intro rfl (And.intro rfl trivial))))) (hv : r.s = v := by first | exact (rfl : _ = SVal.c _) | exact SQ (by repeat' (first | exact A0 rfl | apply AI rfl)) | exact (rfl : _ = SVal.tup [SVal.c _, SVal.c _]) | exact U6 (by repeat' (first | exact A0 rfl | apply AI rfl)) | exact U7 (by repeat' (first | exact A0 rfl | apply AI rfl)) | exact (rfl : _ = SVal.tup [SVal.c _, SVal.c _, SVal.c _]) | exact rfl) : Reg P F0 w0 dr ops K (⟨some d, .call ⟨.value f, args, ats⟩, ty, pos, aft, g⟩ :: rest) ⟨n, sl, mem, ck, df⟩ acc :=
 Gw hw (fun m c => Does.of tc.ok fun τ he hm hck Kk hK => by
  subst hm; subst hck; subst has; subst hv
  obtain ⟨e1, e2⟩ := Jb he
  rw [hf] at e1
  simp only [AP, Ed, e1, hc, e2]
  exact MCall.ofPure hp ha (hK _ _ _ _ ⟨rfl, rfl, rfl, rfl⟩)) h
theorem C6 [tc : TC P T] (h : Reg P F0 w0 dr ops K rest ⟨n, (d, .c (.d (.lit (.int .i64 k)))) :: sl, mem, ck, df⟩ (0 :: acc)) (hw : GW ops g sl := by first | exact trivial | exact rfl) (hx : AO sl x = .c (.d (.sl es)) := by exact rfl) (ht : T t = some i := by exact rfl) (hi : i.desc = .slice e := by exact rfl) (hk : es.length = k := by first | exact (rfl : _ = 0) | exact (rfl : _ = 1) | exact (rfl : _ = 2) | exact (rfl : _ = 3) | exact (rfl : _ = 4) | exact (rfl : _ = 5) | exact (rfl : _ = 6) | exact (rfl : _ = 7) | exact L0 | exact rfl) : Reg P F0 w0 dr ops K (⟨some d, .call ⟨.builtin .len, #[x], #[t]⟩, ty, pos, aft, g⟩ :: rest) ⟨n, sl, mem, ck, df⟩ acc :=
 Gw hw (fun m c => Does.of tc.ok fun τ he hm hck Kk hK => by
  subst hm; subst hck; subst hk
  have ex := he x (by simp [Op.operands, Call.operands])
  rw [hx] at ex
  obtain ⟨a1, a2, a3, a4, a5⟩ := i
  simp only at hi
  subst hi
  simp only [AP, Ed, MI, ht, ex]
  exact hK _ _ _ _ ⟨rfl, rfl, rfl, rfl⟩) h
theorem SZ [tc : TC P T] (h : Reg P F0 w0 dr ops K rest ⟨n, (d, .c (.d (.lit (.int .i64 0)))) :: sl, mem, ck, df⟩ (0 :: acc)) (hw : GW ops g sl := by first | exact trivial | exact rfl) (hx : AO sl x = .c .emp := by exact rfl) (ht : T t = some i := by exact rfl) (hi : i.desc = .slice e := by exact rfl) : Reg P F0 w0 dr ops K (⟨some d, .call ⟨.builtin .len, #[x], #[t]⟩, ty, pos, aft, g⟩ :: rest) ⟨n, sl, mem, ck, df⟩ acc :=
 Gw hw (fun m c => Does.of tc.ok fun τ he hm hck Kk hK => by
  subst hm; subst hck
  have ex := he x (by simp [Op.operands, Call.operands])
  rw [hx] at ex
  obtain ⟨a1, a2, a3, a4, a5⟩ := i
  simp only at hi
  subst hi
  simp only [AP, Ed, MI, ht, ex]
  exact hK _ _ _ _ ⟨rfl, rfl, rfl, rfl⟩) h
theorem S0 [tc : TC P T] {s : ByteArray}  (h : Reg P F0 w0 dr ops K rest ⟨n, (d, .c (.d (.lit (.int .i64 s.size)))) :: sl, mem, ck, df⟩ (0 :: acc)) (hw : GW ops g sl := by first | exact trivial | exact rfl) (hx : AO sl x = .c (.d (.lit (.string s))) := by exact rfl) (ht : T t = some i := by exact rfl) (hi : i.desc = .str := by exact rfl) : Reg P F0 w0 dr ops K (⟨some d, .call ⟨.builtin .len, #[x], #[t]⟩, ty, pos, aft, g⟩ :: rest) ⟨n, sl, mem, ck, df⟩ acc :=
 Gw hw (fun m c => Does.of tc.ok fun τ he hm hck Kk hK => by
  subst hm; subst hck
  have ex := he x (by simp [Op.operands, Call.operands])
  rw [hx] at ex
  obtain ⟨a1, a2, a3, a4, a5⟩ := i
  simp only at hi
  subst hi
  simp only [AP, Ed, MI, ht, ex]
  exact hK _ _ _ _ ⟨rfl, rfl, rfl, rfl⟩) h
theorem C7 [tc : TC P T] (h : Reg P F0 w0 dr ops K rest ⟨n, (d, .c (.d (.lit (.int .i64 m)))) :: sl, mem, ck, df⟩ (1 :: acc)) (hw : GW ops g sl := by first | exact trivial | exact rfl) (hx : AO sl x = .c (.arr r k m) := by exact rfl) (ht : T t = some i := by exact rfl) (hi : i.desc = .slice e := by exact rfl) (hm : mem[r]? = some (.arr k ety esz es) := by exact rfl) : Reg P F0 w0 dr ops K (⟨some d, .call ⟨.builtin .len, #[x], #[t]⟩, ty, pos, aft, g⟩ :: rest) ⟨n, sl, mem, ck, df⟩ acc :=
 Ez hw hm (fun mem ck hm => Does.of tc.ok fun τ he hmm hck Kk hK => by
  subst hmm; subst hck
  have ex := he x (by simp [Op.operands, Call.operands])
  rw [hx] at ex
  obtain ⟨a1, a2, a3, a4, a5⟩ := i
  simp only at hi
  subst hi
  simp only [AP, Ed, MI, ht, ex, Dt, hm]
  exact ⟨trivial, hK _ _ _ _ ⟨rfl, rfl, rfl, rfl⟩⟩) h
theorem V0 [tc : TC P T] {k : IntKind} {b : Int}  (h : Reg P F0 w0 dr ops K rest ⟨n, (d, .c (.d (.lit (.int k z)))) :: sl, mem, ck, df⟩ (0 :: acc)) (hw : GW ops g sl := by first | exact trivial | exact rfl) (hx : AO sl x = .c (.d (.lit (.int k a))) := by exact rfl) (hy : AO sl y = .c (.d (.lit (.int k b))) := by exact rfl) (hz : (if b < a then b else a) = z := by exact rfl) : Reg P F0 w0 dr ops K (⟨some d, .call ⟨.builtin .min, #[x, y], ats⟩, ty, pos, aft, g⟩ :: rest) ⟨n, sl, mem, ck, df⟩ acc :=
 Gw hw (fun m c => Does.of tc.ok fun τ he hmm hck Kk hK => by
  subst hmm; subst hck; subst hz
  have ex := he x (by simp [Op.operands, Call.operands])
  have ey := he y (by simp [Op.operands, Call.operands])
  rw [hx] at ex
  rw [hy] at ey
  simp only [AP, Ed, ex, ey]
  exact ⟨trivial, hK _ _ _ _ ⟨rfl, rfl, rfl, rfl⟩⟩) h
theorem V1 [tc : TC P T] {k : IntKind} {b : Int}  (h : Reg P F0 w0 dr ops K rest ⟨n, (d, .c (.d (.lit (.int k z)))) :: sl, mem, ck, df⟩ (0 :: acc)) (hw : GW ops g sl := by first | exact trivial | exact rfl) (hx : AO sl x = .c (.d (.lit (.int k a))) := by exact rfl) (hy : AO sl y = .c (.d (.lit (.int k b))) := by exact rfl) (hz : (if a < b then b else a) = z := by exact rfl) : Reg P F0 w0 dr ops K (⟨some d, .call ⟨.builtin .max, #[x, y], ats⟩, ty, pos, aft, g⟩ :: rest) ⟨n, sl, mem, ck, df⟩ acc :=
 Gw hw (fun m c => Does.of tc.ok fun τ he hmm hck Kk hK => by
  subst hmm; subst hck; subst hz
  have ex := he x (by simp [Op.operands, Call.operands])
  have ey := he y (by simp [Op.operands, Call.operands])
  rw [hx] at ex
  rw [hy] at ey
  simp only [AP, Ed, ex, ey]
  exact ⟨trivial, hK _ _ _ _ ⟨rfl, rfl, rfl, rfl⟩⟩) h
theorem Qn [tc : TC P T] {f : Operand} {fv : SVal} {fid : FuncId} {caps : List Cell}  (h : Reg P F0 w0 dr ops K rest ⟨n, sl, mem, ck, (fid, caps) :: df⟩ (2 :: acc)) (hw : GW ops g sl := by first | exact trivial | exact rfl) (hf : AO sl f = fv := by exact rfl) (hc : Cv fv = some (fid, caps) := by exact rfl) : Reg P F0 w0 dr ops K (⟨none, .defer ⟨.value f, #[], ats⟩, ty, pos, aft, g⟩ :: rest) ⟨n, sl, mem, ck, df⟩ acc :=
 NH (df' := [(fid, caps)]) (v := .junk) hw (Does.of tc.ok fun τ he hmm hck Kk hK => by
  subst hmm; subst hck
  have ex := he f (by simp [Op.operands, Call.operands])
  rw [hf] at ex
  simp only [AP, ex, hc]
  exact hK _ _ _ _ ⟨rfl, rfl, rfl, rfl⟩) h
theorem N2 [tc : TC P T] (h : Reg P F0 w0 dr ops K rest ⟨n, (d, .c (.bp r (ck + 1) 0)) :: sl, mem', ck + 1, df⟩ (3 :: acc)) (hw : GW ops g sl := by first | exact trivial | exact rfl) (hx : AO sl x = v := by first | exact (rfl : _ = SVal.agg _) | exact (rfl : _ = SVal.c _)) (hc : v.cells = some cs := by exact rfl) (hn : cs = cs' := by repeat' (first | exact A0 rfl | apply AI rfl)) (hr : mem.length = r := by first | exact (rfl : _ = 0) | exact (rfl : _ = 1) | exact (rfl : _ = 2) | exact (rfl : _ = 3) | exact (rfl : _ = 4) | exact (rfl : _ = 5) | exact (rfl : _ = 6) | exact (rfl : _ = 7) | exact (rfl : _ = 8) | exact (rfl : _ = 9) | exact (rfl : _ = 10) | exact (rfl : _ = 11) | exact (rfl : _ = 12) | exact (rfl : _ = 13) | exact (rfl : _ = 14) | exact (rfl : _ = 15)) (hm' : mem ++ [Blk.box (ck + 1) cs'] = mem' := by repeat' (first | exact A0 rfl | apply AI rfl)) : Reg P F0 w0 dr ops K (⟨some d, .box t x, ty, pos, aft, g⟩ :: rest) ⟨n, sl, mem, ck, df⟩ acc :=  by
 subst hn; exact YG tc.ok hw hx hc hr hm' h
theorem S1 [tc : TC P T] {l : Operand} {k k' : IntKind} {zs : List Dat} (h : Reg P F0 w0 dr ops K rest ⟨n, (d, .c (.arr r (ck + 1) m)) :: sl, mem', ck + 1, df⟩ (2 :: acc)) (hw : GW ops g sl := by first | exact trivial | exact rfl) (hl : AO sl l = .c (.d (.lit (.int k z))) := by exact rfl) (hc : AO sl c = .c (.d (.lit (.int k' z'))) := by exact rfl) (ht : T t = some i := by exact rfl) (hi : i.desc = .slice e := by exact rfl) (hei : T e = some ⟨esz, bts, ze, de, eq⟩ := by exact rfl) (hzs : DF (ze.map BP) = some zs := by exact rfl) (hk : (Nat.blt 0 esz && Nat.beq ze.length esz) = true := by exact rfl) (h0 : 0 ≤ z := by first | omega | exact Nat.le_refl _ | (simp only [BT, Hn, Dg, List.length_cons, List.length_nil, Jj, Gm, Jh]; omega)) (hzz : z ≤ z' := by first | omega | exact Nat.le_refl _ | (simp only [BT, Hn, Dg, List.length_cons, List.length_nil, Jj, Gm, Jh]; omega)) (hmx : z' ≤ 9223372036854775807 := by first | omega | exact Nat.le_refl _ | (simp only [BT, Hn, Dg, List.length_cons, List.length_nil, Jj, Gm, Jh]; omega)) (hby : (bts : Int) * z' ≤ 281474976710656 := by first | omega | exact Nat.le_refl _ | (simp only [BT, Hn, Dg, List.length_cons, List.length_nil, Jj, Gm, Jh]; omega)) (hr : mem.length = r := by first | exact (rfl : _ = 0) | exact (rfl : _ = 1) | exact (rfl : _ = 2) | exact (rfl : _ = 3) | exact (rfl : _ = 4) | exact (rfl : _ = 5) | exact (rfl : _ = 6) | exact (rfl : _ = 7) | exact (rfl : _ = 8) | exact (rfl : _ = 9) | exact (rfl : _ = 10) | exact (rfl : _ = 11) | exact (rfl : _ = 12) | exact (rfl : _ = 13) | exact (rfl : _ = 14) | exact (rfl : _ = 15)) (hm : z.toNat = m := by first | exact QH _ | exact rfl) (hm' : mem ++ [Blk.arr (ck + 1) e esz (List.replicate m zs)] = mem' := by repeat' (first | exact A0 rfl | apply AI rfl)) : Reg P F0 w0 dr ops K (⟨some d, .makeSlice t l c, ty, pos, aft, g⟩ :: rest) ⟨n, sl, mem, ck, df⟩ acc :=
 W0 tc.ok hw hl hc ht hi hei hzs hk h0 hzz hmx hby hr hm hm' h
theorem Ha [tc : TC P T] {ys : List (List Dat)} (h : Reg P F0 w0 dr ops K rest ⟨n, (d, .c (.arr r (ck + 1) m)) :: sl, mem', ck + 1, df⟩ (2 :: acc)) (hw : GW ops g sl := by first | exact trivial | exact rfl) (hx : AO sl x = .c .emp := by exact rfl) (hy : AO sl y = u := by exact (rfl : _ = SVal.c _)) (hs : FQ u = some ys := by exact rfl) (ht : T t = some i := by exact rfl) (hi : i.desc = .slice e := by exact rfl) (hei : T e = some ⟨esz, bts, ze, de, eq⟩ := by exact rfl) (hk : (Nat.blt 0 esz && Nat.beq ze.length esz) = true := by exact rfl) (hsz : ∀ el ∈ ys, el.length = esz := by first | exact Bb | exact Ia (fun _ => rfl) | exact AJ rfl Bb | exact AJ rfl (AJ rfl Bb) | exact AJ rfl (AJ rfl (AJ rfl Bb)) | (repeat (first | exact Bb | refine AJ rfl ?_))) (hl : ys.length = m := by first | exact (rfl : _ = 0) | exact (rfl : _ = 1) | exact (rfl : _ = 2) | exact (rfl : _ = 3) | exact (rfl : _ = 4) | exact (rfl : _ = 5) | exact (rfl : _ = 6) | exact (rfl : _ = 7) | exact L0 | exact rfl) (hmx : (m : Int) ≤ 9223372036854775807 := by first | omega | exact Nat.le_refl _ | (simp only [BT, Hn, Dg, List.length_cons, List.length_nil, Jj, Gm, Jh]; omega)) (hby : m * bts ≤ 140737488355328 := by first | omega | exact Nat.le_refl _ | (simp only [BT, Hn, Dg, List.length_cons, List.length_nil, Jj, Gm, Jh]; omega)) (hr : mem.length = r := by first | exact (rfl : _ = 0) | exact (rfl : _ = 1) | exact (rfl : _ = 2) | exact (rfl : _ = 3) | exact (rfl : _ = 4) | exact (rfl : _ = 5) | exact (rfl : _ = 6) | exact (rfl : _ = 7) | exact (rfl : _ = 8) | exact (rfl : _ = 9) | exact (rfl : _ = 10) | exact (rfl : _ = 11) | exact (rfl : _ = 12) | exact (rfl : _ = 13) | exact (rfl : _ = 14) | exact (rfl : _ = 15)) (hm' : mem ++ [Blk.arr (ck + 1) e esz ys] = mem' := by repeat' (first | exact A0 rfl | apply AI rfl)) : Reg P F0 w0 dr ops K (⟨some d, .call ⟨.builtin .append, #[x, y], #[t, t]⟩, ty, pos, aft, g⟩ :: rest) ⟨n, sl, mem, ck, df⟩ acc :=
 W1 tc.ok hw hx hy hs ht hi hei hk hsz hl hmx hby hr hm' h
theorem Cz [tc : TC P T] {ys : List (List Dat)} (h : Reg P F0 w0 dr ops K rest ⟨n, (d, .c (.arr r (ck + 1) m)) :: sl, mem', ck + 1, df⟩ (2 :: acc)) (hw : GW ops g sl := by first | exact trivial | exact rfl) (hx : AO sl x = .c (.arr r k j) := by exact rfl) (hy : AO sl y = u := by exact (rfl : _ = SVal.c _)) (hs : FQ u = some ys := by exact rfl) (ht : T t = some i := by exact rfl) (hi : i.desc = .slice e := by exact rfl) (hei : T e = some ⟨esz, bts, ze, de, eq⟩ := by exact rfl) (hk : (Nat.blt 0 esz && Nat.beq ze.length esz) = true := by exact rfl) (hm : mem[r]? = some (.arr k e esz es) := by exact rfl) (hsz : ∀ el ∈ ys, el.length = esz := by first | exact Bb | exact Ia (fun _ => rfl) | exact AJ rfl Bb | exact AJ rfl (AJ rfl Bb) | exact AJ rfl (AJ rfl (AJ rfl Bb)) | (repeat (first | exact Bb | refine AJ rfl ?_))) (hj : j ≤ es.length := by first | omega | exact Nat.le_refl _ | (simp only [BT, Hn, Dg, List.length_cons, List.length_nil, Jj, Gm, Jh]; omega)) (hl : j + ys.length = m := by exact rfl) (hmx : (m : Int) ≤ 9223372036854775807 := by first | omega | exact Nat.le_refl _ | (simp only [BT, Hn, Dg, List.length_cons, List.length_nil, Jj, Gm, Jh]; omega)) (hby : m * bts ≤ 140737488355328 := by first | omega | exact Nat.le_refl _ | (simp only [BT, Hn, Dg, List.length_cons, List.length_nil, Jj, Gm, Jh]; omega)) (hes : es.take j ++ ys = es' := by first | exact L7 L0 rfl | exact L7 (by simp only [BT, Hn, Dg, List.length_cons, List.length_nil]; omega) rfl | exact L7 (by simp only [BT, Hn, Dg, List.length_cons, List.length_nil]) rfl | exact rfl) (hm' : mem.set r (Blk.arr (ck + 1) e esz es') = mem' := by repeat' (first | exact A0 rfl | apply AI rfl)) : Reg P F0 w0 dr ops K (⟨some d, .call ⟨.builtin .append, #[x, y], #[t, t]⟩, ty, pos, aft, g⟩ :: rest) ⟨n, sl, mem, ck, df⟩ acc :=
 W2 tc.ok hw hx hy hs ht hi hei hk hm rfl hsz hj hl hmx hby hes hm' h
theorem C8 [tc : TC P T] {cc : Operand} (h : Reg P F0 w0 dr ops K rest ⟨n, (d, v) :: sl, mem, ck, df⟩ (0 :: acc)) (hw : GW ops g sl := by first | exact trivial | exact rfl) (hc : AO sl cc = DE b := by first | exact (rfl : _ = DE true) | exact (rfl : _ = DE false)) (hv : (match b with | true => AO sl x | false => AO sl y) = v := by first | exact (rfl : _ = SVal.c _) | exact (rfl : _ = SVal.agg _) | exact rfl) :
 Reg P F0 w0 dr ops K (⟨some d, .pick cc x y, ty, pos, aft, g⟩ :: rest) ⟨n, sl, mem, ck, df⟩ acc :=
 Gw hw (fun m c => Does.of tc.ok fun τ he hm hcl Kk hK => by
  subst hm; subst hcl
  have ec := he cc (by simp [Op.operands])
  have ex := he x (by simp [Op.operands])
  have ey := he y (by simp [Op.operands])
  rw [hc] at ec
  simp only [AP, ec, DE, lit]
  cases b with
  | true => simp only at hv; rw [hv] at ex; rw [Uk, ex]; exact hK _ _ _ _ ⟨rfl, rfl, rfl, rfl⟩
  | false => simp only at hv; rw [hv] at ey; rw [Ul, ey]; exact hK _ _ _ _ ⟨rfl, rfl, rfl, rfl⟩) h
theorem CO (h : K ⟨n, sl, mem, ck, df⟩) (hd : Fq ops acc.reverse = true := by kernel_rfl) : Reg P F0 w0 true ops K [] ⟨n, sl, mem, ck, df⟩ acc := WY hd h
theorem DU (h : Reg P F0 w0 dr ops K (⟨dst, op, ty, pos, aft, some (j, want)⟩ :: rest) ⟨n, (dg, DE true) :: sl, mem, ck, df⟩ acc) (hj : (ops[j]?).bind (·.dst) = some dg := by exact rfl) (hb : look sl dg = DE b := by exact rfl) (hc : b = true := by first | with_reducible rfl | assumption | (simp only [decide_eq_true_eq, decide_eq_false_iff_not, PO, RR, beq_iff_eq, bne_iff_ne, beq_eq_false_iff_ne, bne_eq_false_iff_eq, ne_eq, QJ, QK, Bool.not_true, Bool.not_false, Bool.true_eq_false, Bool.false_eq_true, not_true_eq_false, not_false_eq_true]; done) | (simp only [decide_eq_true_eq, decide_eq_false_iff_not, PO, RR, beq_iff_eq, bne_iff_ne, beq_eq_false_iff_ne, bne_eq_false_iff_eq, ne_eq, QJ, QK, Bool.not_true, Bool.not_false, Bool.true_eq_false, Bool.false_eq_true, not_true_eq_false, not_false_eq_true]; omega) | (simp only [decide_eq_true_eq, decide_eq_false_iff_not, PO, RR, beq_iff_eq, bne_iff_ne, beq_eq_false_iff_ne, bne_eq_false_iff_eq, ne_eq, QJ, QK, Bool.not_true, Bool.not_false, Bool.true_eq_false, Bool.false_eq_true, not_true_eq_false, not_false_eq_true]; assumption)) :
 Reg P F0 w0 dr ops K (⟨dst, op, ty, pos, aft, some (j, want)⟩ :: rest) ⟨n, sl, mem, ck, df⟩ acc := SK true hj hb hc h
theorem De (h : Reg P F0 w0 dr ops K (⟨dst, op, ty, pos, aft, some (j, want)⟩ :: rest) ⟨n, (dg, DE false) :: sl, mem, ck, df⟩ acc) (hj : (ops[j]?).bind (·.dst) = some dg := by exact rfl) (hb : look sl dg = DE b := by exact rfl) (hc : b = false := by first | with_reducible rfl | assumption | (simp only [decide_eq_true_eq, decide_eq_false_iff_not, PO, RR, beq_iff_eq, bne_iff_ne, beq_eq_false_iff_ne, bne_eq_false_iff_eq, ne_eq, QJ, QK, Bool.not_true, Bool.not_false, Bool.true_eq_false, Bool.false_eq_true, not_true_eq_false, not_false_eq_true]; done) | (simp only [decide_eq_true_eq, decide_eq_false_iff_not, PO, RR, beq_iff_eq, bne_iff_ne, beq_eq_false_iff_ne, bne_eq_false_iff_eq, ne_eq, QJ, QK, Bool.not_true, Bool.not_false, Bool.true_eq_false, Bool.false_eq_true, not_true_eq_false, not_false_eq_true]; omega) | (simp only [decide_eq_true_eq, decide_eq_false_iff_not, PO, RR, beq_iff_eq, bne_iff_ne, beq_eq_false_iff_ne, bne_eq_false_iff_eq, ne_eq, QJ, QK, Bool.not_true, Bool.not_false, Bool.true_eq_false, Bool.false_eq_true, not_true_eq_false, not_false_eq_true]; assumption)) :
 Reg P F0 w0 dr ops K (⟨dst, op, ty, pos, aft, some (j, want)⟩ :: rest) ⟨n, sl, mem, ck, df⟩ acc := SK false hj hb hc h
theorem Av {p q : Prop} (hj : (ops[j]?).bind (·.dst) = some dg) (hb : look sl dg = DE b) [t1 : BN b true p] [t2 : BN b false q]
 (h1 : p → Reg P F0 w0 dr ops K (⟨dst, op, ty, pos, aft, some (j, want)⟩ :: rest) ⟨n, (dg, DE true) :: sl, mem, ck, df⟩ acc)
 (h2 : q → Reg P F0 w0 dr ops K (⟨dst, op, ty, pos, aft, some (j, want)⟩ :: rest) ⟨n, (dg, DE false) :: sl, mem, ck, df⟩ acc) :
 Reg P F0 w0 dr ops K (⟨dst, op, ty, pos, aft, some (j, want)⟩ :: rest) ⟨n, sl, mem, ck, df⟩ acc := UY hj hb (fun e => h1 (t1.out e)) (fun e => h2 (t2.out e))
end
section
variable {P : Program} {T : TypeId → Option TI} {B : Base} {Q : Ex → St → Prop} {R : Ex → St → Prop} {ks : List Fr} {n : Nat} {sl : List (Nat × SVal)} {mem : List Blk} {ck : Nat} {df : List (FuncId × List Cell)}
theorem CM [tc : TC P T] {id : Nat} {ops : Array Oper} {dr : Bool} (h : Reg P B.F0 B.w0 dr ops.toList (fun τ => Aq P B R ks .norm τ) ops.toList ⟨n, sl, mem, ck, df⟩ []) (hd : OW n ops.toList = true := by exact rfl) : ARun P B (.region id ops dr) ⟨n, sl, mem, ck, df⟩ (Aq P B R ks) := YE (σ := ⟨n, sl, mem, ck, df⟩) tc.mix hd h
theorem DX {x y : Code} (h1 : ARun P B x ⟨n, sl, mem, ck, df⟩ Q) (hc : AO sl c = DE b := by exact rfl) (hb : b = true := by first | with_reducible rfl | assumption | (simp only [decide_eq_true_eq, decide_eq_false_iff_not, PO, RR, beq_iff_eq, bne_iff_ne, beq_eq_false_iff_ne, bne_eq_false_iff_eq, ne_eq, QJ, QK, Bool.not_true, Bool.not_false, Bool.true_eq_false, Bool.false_eq_true, not_true_eq_false, not_false_eq_true]; done) | (simp only [decide_eq_true_eq, decide_eq_false_iff_not, PO, RR, beq_iff_eq, bne_iff_ne, beq_eq_false_iff_ne, bne_eq_false_iff_eq, ne_eq, QJ, QK, Bool.not_true, Bool.not_false, Bool.true_eq_false, Bool.false_eq_true, not_true_eq_false, not_false_eq_true]; omega) | (simp only [decide_eq_true_eq, decide_eq_false_iff_not, PO, RR, beq_iff_eq, bne_iff_ne, beq_eq_false_iff_ne, bne_eq_false_iff_eq, ne_eq, QJ, QK, Bool.not_true, Bool.not_false, Bool.true_eq_false, Bool.false_eq_true, not_true_eq_false, not_false_eq_true]; assumption)) : ARun P B (.cond c x y) ⟨n, sl, mem, ck, df⟩ Q := YJ hc hb h1
theorem DY {x y : Code} (h1 : ARun P B y ⟨n, sl, mem, ck, df⟩ Q) (hc : AO sl c = DE b := by exact rfl) (hb : b = false := by first | with_reducible rfl | assumption | (simp only [decide_eq_true_eq, decide_eq_false_iff_not, PO, RR, beq_iff_eq, bne_iff_ne, beq_eq_false_iff_ne, bne_eq_false_iff_eq, ne_eq, QJ, QK, Bool.not_true, Bool.not_false, Bool.true_eq_false, Bool.false_eq_true, not_true_eq_false, not_false_eq_true]; done) | (simp only [decide_eq_true_eq, decide_eq_false_iff_not, PO, RR, beq_iff_eq, bne_iff_ne, beq_eq_false_iff_ne, bne_eq_false_iff_eq, ne_eq, QJ, QK, Bool.not_true, Bool.not_false, Bool.true_eq_false, Bool.false_eq_true, not_true_eq_false, not_false_eq_true]; omega) | (simp only [decide_eq_true_eq, decide_eq_false_iff_not, PO, RR, beq_iff_eq, bne_iff_ne, beq_eq_false_iff_ne, bne_eq_false_iff_eq, ne_eq, QJ, QK, Bool.not_true, Bool.not_false, Bool.true_eq_false, Bool.false_eq_true, not_true_eq_false, not_false_eq_true]; assumption)) : ARun P B (.cond c x y) ⟨n, sl, mem, ck, df⟩ Q := YK hc hb h1
theorem AE {x y : Code} {p q : Prop} (hc : AO sl c = DE b) [t1 : BN b true p] [t2 : BN b false q] (h1 : p → ARun P B x ⟨n, sl, mem, ck, df⟩ Q) (h2 : q → ARun P B y ⟨n, sl, mem, ck, df⟩ Q) : ARun P B (.cond c x y) ⟨n, sl, mem, ck, df⟩ Q := W3 hc (fun e => h1 (t1.out e)) (fun e => h2 (t2.out e))
theorem BB {t : Nat} {x y : Dat} (e : y = x) (h : look sl t = .c (.d y) := by exact rfl) : Am T ⟨n, sl, mem, ck, df⟩ (.tmp t) fun s => SF mem s (.one x) := YL h e
theorem Cf {t : Nat} {x : Dat} (e : .sl [] = x) (h : look sl t = .c .emp := by exact rfl) : Am T ⟨n, sl, mem, ck, df⟩ (.tmp t) fun s => SF mem s (.one x) := W5 h e
theorem Cg {t : Nat} {x : Dat} (h : look sl t = .c (.arr r k m)) (hm : mem[r]? = some (.arr k ety esz es)) (hl : m ≤ es.length) (e : .sl (es.take m) = x) : Am T ⟨n, sl, mem, ck, df⟩ (.tmp t) fun s => SF mem s (.one x) := W6 h hm hl e
theorem CZ {a t : Nat} {xs : List Dat} (hc : CFs mem cs1 xs) (h : look sl a = .c (.bp r k o) := by exact rfl) (ht : T t = some i := by exact rfl) (ha : i.desc.agg = true := by exact rfl) (hm : mem[r]? = some (.box k cs) := by exact rfl) (hs : decide (o + i.size ≤ cs.length) = true := by exact rfl) (hcs : (cs.drop o).take i.size = cs1 := by repeat' (first | exact A0 rfl | apply AI rfl)) : Am T ⟨n, sl, mem, ck, df⟩ (.cell a t) fun s => SF mem s (.agg xs) := U4 h ht ha hm hs hcs hc
theorem AY {X : Type} (W : List Nat) (Inv : X → Prop) (chg : X → List (Nat × SVal) → List (Nat × SVal)) (memF : X → List Blk) (m : X → Nat) (x0 : X) {keep : List (Nat × SVal)} {c : Code}
 (hs : Al ⟨n, sl, mem, ck, df⟩ (chg x0 [])) (hm : Ap mem (memF x0)) (hx : Inv x0)
 (h : ∀ x k, Inv x → ARun P B c ⟨n, chg x keep, memF x, k, df⟩ (Aq P B (DI P B R ks (LoopG Inv chg memF m W keep n df x)) []))
 (hk : Keep W sl keep := by repeat (first | exact Keep.nil _ | apply Keep.out rfl | apply Keep.into rfl)) (hch : ∀ x l, chg x l = chg x [] ++ l := by exact fun _ _ => rfl) : ARun P B (.loop c) ⟨n, sl, mem, ck, df⟩ (Aq P B R ks) := Z6 W Inv chg memF m x0 hk hch hs hm hx h
theorem Ae {X : Type} {Inv : X → Prop} {chg : X → List (Nat × SVal) → List (Nat × SVal)} {memF : X → List Blk} {m : X → Nat} {W : List Nat} {keep : List (Nat × SVal)} {x : X} (y : X) (hs : Al ⟨n, sl, mem, ck, df⟩ (chg y [])) (hm : Ap mem (memF y)) (hi : Inv y) (hd : m y < m x) (hp : Pre W keep sl := by repeat (first | exact Pre.here | refine Pre.cons rfl ?_)) :
 Aq P B (DI P B R ks (LoopG Inv chg memF m W keep n df x)) [] .norm ⟨n, sl, mem, ck, df⟩ := U2 y hs hp hm hi hd
theorem w1 {t : Nat} (k : Al ⟨n, sl, mem, ck, df⟩ l) (hu : look sl t = u := by exact rfl) (h : VLe u v := by first | exact SL | exact Qe (by omega) | exact Qf (by first | exact rfl | omega) (by first | exact rfl | omega | (simp only [Dg, BT, List.length_cons, List.length_nil, Hn, Gm]; done) | (simp only [Dg, BT, List.length_cons, List.length_nil, Hn, Gm]; omega)) | exact U1) : Al ⟨n, sl, mem, ck, df⟩ ((t, v) :: l) := Fs hu h k
theorem w2 {t : Nat} {i : IntKind} {b : Int} (h : a = b) (k : Al ⟨n, sl, mem, ck, df⟩ l) (hu : look sl t = .c (.d (.lit (.int i a))) := by exact rfl) : Al ⟨n, sl, mem, ck, df⟩ ((t, .c (.d (.lit (.int i b)))) :: l) := Fs hu (Qe h) k
theorem w3 {t : Nat} {a b : Dat} (h : a = b) (k : Al ⟨n, sl, mem, ck, df⟩ l) (hu : look sl t = .c (.d a) := by exact rfl) : Al ⟨n, sl, mem, ck, df⟩ ((t, .c (.d b)) :: l) := Fs hu (YH h) k
theorem w5 {t m1 : Nat} (h : m = m1) (q : Al ⟨n, sl, mem, ck, df⟩ l) (hu : look sl t = .c (.arr r k m) := by exact rfl) : Al ⟨n, sl, mem, ck, df⟩ ((t, .c (.arr r k m1)) :: l) := Fs hu (Qf rfl h) q
theorem m1 {k1 : Nat} {z : Nat} {es1 : List (List Dat)} {a b : List Blk} (he : es = es1) (h : Ap a b) (hk : k = k1 := by first | exact rfl | omega) : Ap (.arr k t z es :: a) (.arr k1 t z es1 :: b) := Q8 hk he h
theorem m2 {k1 : Nat} {a b : List Blk} (he : cs = cs1) (h : Ap a b) (hk : k = k1 := by exact rfl) : Ap (.box k cs :: a) (.box k1 cs1 :: b) := Q9 hk he h
theorem CN (t : Nat) (ety : TypeId) (esz : Nat) {m1 : List Blk} {c : Code} (h : ARun P B c ⟨n, (t, .c (.arr r (ck + 1) 0)) :: sl, m1, ck + 1, df⟩ Q) (ht : look sl t = .c .emp := by exact rfl) (hz : Nat.blt 0 esz = true := by exact rfl) (hr : mem.length = r := by first | exact (rfl : _ = 0) | exact (rfl : _ = 1) | exact (rfl : _ = 2) | exact (rfl : _ = 3) | exact (rfl : _ = 4) | exact (rfl : _ = 5) | exact (rfl : _ = 6) | exact (rfl : _ = 7) | exact (rfl : _ = 8) | exact (rfl : _ = 9) | exact (rfl : _ = 10) | exact (rfl : _ = 11) | exact (rfl : _ = 12) | exact (rfl : _ = 13) | exact (rfl : _ = 14) | exact (rfl : _ = 15)) (hm : mem ++ [Blk.arr (ck + 1) ety esz []] = m1 := by repeat' (first | exact A0 rfl | apply AI rfl)) : ARun P B c ⟨n, sl, mem, ck, df⟩ Q := W4 t ety esz ht hz hr hm h
theorem N3 (r j : Nat) (ety : TypeId) (esz : Nat) {r1 : Nat} {m1 : List Blk} {c : Code} (h : ARun P B c ⟨n, sl, m1, ck + 1, df⟩ Q) (hm : mem[r]? = some (.box k cs) := by exact rfl) (hj : cs[j]? = some .emp := by exact rfl) (hz : Nat.blt 0 esz = true := by exact rfl) (hr : mem.length = r1 := by first | exact (rfl : _ = 0) | exact (rfl : _ = 1) | exact (rfl : _ = 2) | exact (rfl : _ = 3) | exact (rfl : _ = 4) | exact (rfl : _ = 5) | exact (rfl : _ = 6) | exact (rfl : _ = 7) | exact (rfl : _ = 8) | exact (rfl : _ = 9) | exact (rfl : _ = 10) | exact (rfl : _ = 11) | exact (rfl : _ = 12) | exact (rfl : _ = 13) | exact (rfl : _ = 14) | exact (rfl : _ = 15)) (hcs : cs.set j (.arr r1 (ck + 1) 0) = cs1 := by repeat' (first | exact A0 rfl | apply AI rfl)) (hm1 : mem.set r (.box k cs1) ++ [Blk.arr (ck + 1) ety esz []] = m1 := by repeat' (first | exact A0 rfl | apply AI rfl)) : ARun P B c ⟨n, sl, mem, ck, df⟩ Q := Ra r j ety esz hm hj hz hr hcs hm1 h
theorem A8 (t : Nat) {es1 : List (List Dat)} {m1 : List Blk} {c : Code} (h : ARun P B c ⟨n, (t, .c (.d (.sl es1))) :: sl, m1, ck, df⟩ Q) (ht : look sl t = .c (.arr r k m) := by exact rfl) (hm : mem[r]? = some (.arr k ety esz es) := by exact rfl) (hl : m ≤ es.length := by first | omega | exact Nat.le_refl _ | (simp only [BT, Hn, Dg, List.length_cons, List.length_nil, Jj, Gm, Jh]; omega)) (hes : es.take m = es1 := by first | exact Hz | exact rfl) (hm1 : mem.set r .dead = m1 := by repeat' (first | exact A0 rfl | apply AI rfl)) : ARun P B c ⟨n, sl, mem, ck, df⟩ Q := SM t ht hm hl hes hm1 h
end
end Go.Abs
end
