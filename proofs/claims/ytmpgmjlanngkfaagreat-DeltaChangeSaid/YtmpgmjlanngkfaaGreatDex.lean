/-
  Data whose capacity is their length: made, filled, handed on, appended to.
-/
import Derived.Test.YtmpgmjlanngkfaaGreatArz
import Derived.Test.YtmpgmjlanngkfaaGreatArx
import Derived.Test.YtmpgmjlanngkfaaGreatLaid
section
namespace Go.Proofs.YtmpgmjlanngkfaaGreat
open Go.Abs Go.RowKit
attribute [local irreducible] ARun Av MCall PCall HCall Ap SF CF CFs Ag Ai As fin AY VLe
set_option linter.unusedSimpArgs false
set_option maxRecDepth 100000
set_option maxHeartbeats 4000000
variable {i : Nat}
def A0 (r : List Val) : Dat := .sl (r.map Val.d)
theorem CX {α : Type} (p : α → Bool) {l : List α} {v : α} (hv : l[i]? = some v) (h : (l.take i).all p = true) (hp : p v = true) : (l.take (i + 1)).all p = true := by
 rw [Gm, dJ, h, hv]
 simp [hp]
theorem Ey {α : Type} (p : α → Bool) {l : List α} {v : α} (hv : l[i]? = some v) (hp : p v = false) : l.all p = false := by
 rw [List.all_eq_false]
 exact ⟨v, Cb hv, by simp [hp]⟩
theorem AB {α : Type} {l : List α} {v : α} (h : l[i]? = some v) : l.drop i = v :: l.drop (i + 1) := by
 have i7 := lt_of_getElem? h
 rw [aQ i7]
 rw [Bo i7] at h
 simp at h
 rw [h]
theorem D3 {α β : Type} (f : α → β) {l : List α} {v : α} (hv : l[i]? = some v) : (l.take (i + 1)).map f = (l.take i).map f ++ [f v] := by
 rw [Gm, Ag', hv]
 rfl
theorem Ah {α : Type} {l : List α} (h : l.length ≤ i) : l.take i = l := JF h
def AR (r : List Val) : Bool := decide (r.length ≤ 16) && r.all Val.valid
theorem R2 (r : List Val) : PC 122 [.one (A0 r)] (.v (.one (.lit (.bool (AR r))))) := by
 refine Ac hT Tryz.func122 Tryz.ntmps122 [.tmp 2] fun B => ?_
 repeat' first | refine kz ?_ | refine Az rfl (fun hb => ?_) (fun hb => ?_) | refine Ao ?_ | refine kf ?_ | fail
 ·refine congrArg Dat.lit (congrArg Value.bool ?_)
  simp [AR]
  intros; omega
 ·have hl : r.length ≤ 16 := by omega
  refine AK (X := Nat) ([2, 4] ++ List.range' 10 8) (fun x => x ≤ r.length ∧ (r.take x).all Val.valid = true) (fun x lz => (10, (iC x)) :: lz) (fun x => []) (fun x => r.length - x) (0) ?_ ?_ ?_ ?_
  repeat' first | exact k0 | refine kw ?_ | omega
  ·exact ⟨by simp, by simp⟩
  rintro i c ⟨hi, hinv⟩
  by_cases i7 : i < r.length
  ·obtain ⟨v, hv⟩ := gx i7
   repeat' first | refine kz ?_ | refine Az rfl (fun hb => ?_) (fun hb => ?_) | refine AF hv ?_ | refine Ao ?_ | refine Aa (Ks _) ?_ | refine kf ?_ | fail
   ·refine congrArg Dat.lit (congrArg Value.bool ?_)
    rw [AR, Ey Val.valid hv hb, Bool.and_false]
   ·apply Af (i + 1) <;> (try dsimp only) <;> try repeat' first | exact k0 | refine kw ?_ | omega
    exact ⟨by omega, CX _ hv hinv hb⟩
  ·repeat' first | refine kz ?_ | refine Az rfl (fun hb => ?_) (fun hb => ?_) | refine Ao ?_ | refine kf ?_ | fail
   refine congrArg Dat.lit (congrArg Value.bool ?_)
   rw [Ah (by omega)] at hinv
   simp [AR, hinv, hl]
theorem CY (r : List Val) : PC 74 [.one (A0 r)] (.v (.one (.lit (.bool (AR r))))) := by
 refine Ac hT Tryz.func74 Tryz.ntmps74 [.tmp 2] fun B => ?_
 repeat' first | refine kz ?_ | refine Az rfl (fun hb => ?_) (fun hb => ?_) | refine Ao ?_ | refine kf ?_ | fail
 ·refine congrArg Dat.lit (congrArg Value.bool ?_)
  simp [AR]
  intros; omega
 ·have hl : r.length ≤ 16 := by omega
  refine AK (X := Nat) ([2, 3] ++ List.range' 7 12) (fun x => x ≤ r.length ∧ (r.take x).all Val.valid = true) (fun x lz => (3, (iC x)) :: lz) (fun x => []) (fun x => r.length - x) (0) ?_ ?_ ?_ ?_
  repeat' first | exact k0 | refine kw ?_ | omega
  ·exact ⟨by simp, by simp⟩
  rintro i c ⟨hi, hinv⟩
  by_cases i7 : i < r.length
  ·obtain ⟨v, hv⟩ := gx i7
   repeat' first | refine kz ?_ | refine Az rfl (fun hb => ?_) (fun hb => ?_) | refine AF hv ?_ | refine Ao ?_ | refine Aa (Io _) ?_ | refine kf ?_ | fail
   ·refine congrArg Dat.lit (congrArg Value.bool ?_)
    rw [AR, Ey Val.valid hv hb, Bool.and_false]
   ·apply Af (i + 1) <;> (try dsimp only) <;> try repeat' first | exact k0 | refine kw ?_ | omega
    exact ⟨by omega, CX _ hv hinv hb⟩
  ·repeat' first | refine kz ?_ | refine Az rfl (fun hb => ?_) (fun hb => ?_) | refine Ao ?_ | refine kf ?_ | fail
   refine congrArg Dat.lit (congrArg Value.bool ?_)
   rw [Ah (by omega)] at hinv
   simp [AR, hinv, hl]
def Aj : List Val → List Val → Int
 | [], [] => 0
 | [], _ :: _ => -1
 | _ :: _, [] => 1
 | a :: x, b :: y => if a.cmp b = 0 then Aj x y else a.cmp b
theorem LF (x y : List Val) (h : x = [] ∨ y = []) : Aj x y = HH x.length y.length := by
 rcases h with rfl | rfl
 ·cases y <;> simp [Aj, HH]
 ·cases x <;> simp [Aj, HH]; omega
theorem Bd (r s : List Val) : PC 182 [.one (A0 r), .one (A0 s)] (.v (.one (.lit (.int .i64 (Aj r s))))) := by
 refine Ac hT Tryz.func182 Tryz.ntmps182 [.tmp 4] fun B => ?_
 refine GM 0 rfl fun mI => ?_
 refine GM 1 rfl fun re => ?_
 simp only [BR, maxLen] at mI re
 repeat' first | refine kz ?_ | refine Az rfl (fun hb => ?_) (fun hb => ?_) | refine Ao ?_ | refine kf ?_ | refine Al rfl rfl (fun hb => ?_) (fun hb => ?_)
 refine AK (X := Nat) (List.range' 4 27) (fun x => x ≤ r.length ∧ x ≤ s.length ∧ Aj r s = Aj (r.drop x) (s.drop x)) (fun x lz => (5, (iC x)) :: lz) (fun x => []) (fun x => r.length - x) (0) ?_ ?_ ?_ ?_
 repeat' first | exact k0 | refine kw ?_ | omega
 ·exact ⟨by simp, by simp, by simp⟩
 rintro i c ⟨hi, hj, hinv⟩
 by_cases i7 : i < r.length ∧ i < s.length
 ·obtain ⟨i7, jk⟩ := i7
  obtain ⟨a, hv⟩ := gx i7
  obtain ⟨b, hu⟩ := gx jk
  rw [AB hv, AB hu, Aj] at hinv
  repeat' first | refine kz ?_ | refine Az rfl (fun hb => ?_) (fun hb => ?_) | refine AF hv ?_ | refine AF hu ?_ | refine Ao ?_ | refine Aa (IB _ _) ?_ | refine kf ?_ | refine Al rfl rfl (fun hb => ?_) (fun hb => ?_)
  ·rw [hinv, if_neg hb]
  ·apply Af (i + 1) <;> (try dsimp only) <;> try repeat' first | exact k0 | refine kw ?_ | omega
   try exact ⟨by omega, by omega, by rw [hinv, if_pos hb]⟩
 ·have he : Aj r s = HH r.length s.length := by
   rw [hinv, LF _ _ (by simp only [List.drop_eq_nil_iff]; omega)]
   simp only [Fm, HH]
   (repeat' split) <;> omega
  repeat' first | refine kz ?_ | refine Az rfl (fun hb => ?_) (fun hb => ?_) | refine Ao ?_ | refine kf ?_ | refine Al rfl rfl (fun hb => ?_) (fun hb => ?_)
  all_goals (rw [he, HH])
  all_goals (refine congrArg Dat.lit (congrArg (Value.int _) ?_); (repeat' split) <;> omega)
theorem Bm (r s : List Val) : PC 59 [.one (A0 r), .one (A0 s)] (.v (.one (.lit (.int .i64 (Aj r s))))) := by
 refine Ac hT Tryz.func59 Tryz.ntmps59 [.tmp 4] fun B => ?_
 refine GM 0 rfl fun mI => ?_
 refine GM 1 rfl fun re => ?_
 simp only [BR, maxLen] at mI re
 repeat' first | refine kz ?_ | refine Az rfl (fun hb => ?_) (fun hb => ?_) | refine Ao ?_ | refine kf ?_ | fail
 have hm : (if (s.length : Int) < r.length then (s.length : Int) else r.length) = (min r.length s.length : Nat) := by
  split <;> omega
 simp only [hm]
 generalize uj : min r.length s.length = m
 refine AK (X := Nat) ([4, 5, 6] ++ List.range' 12 16) (fun x => x ≤ m ∧ Aj r s = Aj (r.drop x) (s.drop x)) (fun x lz => (12, (iC x)) :: lz) (fun x => []) (fun x => m - x) (0) ?_ ?_ ?_ ?_
 repeat' first | exact k0 | refine kw ?_ | omega
 ·exact ⟨by simp, by simp⟩
 rintro i c ⟨hi, hinv⟩
 by_cases i7 : i < m
 ·obtain ⟨a, hv⟩ := gx (l := r) (i := i) (by omega)
  obtain ⟨b, hu⟩ := gx (l := s) (i := i) (by omega)
  rw [AB hv, AB hu, Aj] at hinv
  repeat' first | refine kz ?_ | refine Az rfl (fun hb => ?_) (fun hb => ?_) | refine AF hv ?_ | refine AF hu ?_ | refine Ao ?_ | refine Aa (Jb _ _) ?_ | refine kf ?_ | fail
  ·rw [hinv, if_neg hb]
  ·apply Af (i + 1) <;> (try dsimp only) <;> try repeat' first | exact k0 | refine kw ?_ | omega
   try exact ⟨by omega, by rw [hinv, if_pos hb]⟩
 ·have he : Aj r s = HH r.length s.length := by
   rw [hinv, LF _ _ (by simp only [List.drop_eq_nil_iff]; omega)]
   simp only [Fm, HH]
   (repeat' split) <;> omega
  repeat' first | refine kz ?_ | refine Az rfl (fun hb => ?_) (fun hb => ?_) | refine Ao ?_ | refine Aa (QR _ _) ?_ | refine kf ?_ | fail
  all_goals (rw [he])
end Go.Proofs.YtmpgmjlanngkfaaGreat
end
section
namespace Go.Abs
open Go.RowKit
variable {b i6 k m r : Nat} {e iX t : TypeId} {ei i : TI} {es : List (List Dat)} {v : Value} {x y : Operand}
section
variable {F : Nat → Prop} {w : World}
theorem DRep.ex_sl (h : DRep F w v (.ex es)) : DRep F w v (.sl es) := by
 cases h with
 | exn a => exact .emp a 0
 | ex _ b off size u hF jC j3 hc hd => exact .sl es b off es.length size u hF (Nat.le_refl _) jC j3 hc hd
theorem DRep.sl_ex {a : Option Addr} (h : DRep F w (.slice a m m) (.sl es)) : DRep F w (.slice a m m) (.ex es) := by
 cases h with
 | emp a cap => exact .exn a
 | sl _ b off cap size u hF jB jC j3 hc hd => exact .ex es b off size u hF jC j3 hc hd
theorem DRep.ex_inv (h : DRep F w v (.ex es)) : ∃ a, v = .slice a es.length es.length := by
 cases h with
 | exn a => exact ⟨a, rfl⟩
 | ex _ b off size u hF jC j3 hc hd => exact ⟨_, rfl⟩
end
section
variable {P : Program} {T : TypeId → Option TI} {F0 : Nat → Prop} {w0 : World}
variable {dr : Bool} {ops rest : List Oper} {K : St → Prop} {n : Nat} {sl : List (Nat × SVal)} {mem : List Blk} {ck : Nat} {df : List (FuncId × List Cell)} {acc : List Nat}
variable {d : Tmp} {op : Op} {ty : TypeId} {pos : String} {iU : Array Edge} {g : Option (Nat × Bool)}
theorem Yo (h : Reg P F0 w0 dr ops K rest ⟨n, (d, .c (.d (.sl es))) :: sl, mem, ck, df⟩ (0 :: acc)) (hw : GW ops g sl := by first | exact trivial | exact rfl) (hx : AH sl x = .c (.d (.ex es)) := by exact rfl) :
  Reg P F0 w0 dr ops K (⟨some d, .move x, ty, pos, iU, g⟩ :: rest) ⟨n, sl, mem, ck, df⟩ acc :=
 Gp hw (HO fun E w ρ hρ => by
  have e1 := hρ x (by simp [Op.operands])
  rw [hx] at e1
  exact ⟨ρ x, by simp [execOp], .c (.d e1.d_inv.ex_sl)⟩) h
theorem Yp [tc : TC P T] {l c : Operand} {k k' : IntKind} {z : Int} {zd : List Dat}
  (h : ∀ b, Reg P F0 w0 dr ops K rest ⟨n, (d, .c (.arr mem.length (ck + 1) m)) :: sl, mem ++ [.arrc (ck + 1) e ei.size (List.replicate m zd) b m], ck + 1, df⟩ (2 :: acc)) (h0 : 0 ≤ z) (hm : z.toNat = m) (mG : z ≤ 9223372036854775807) (lp : (ei.bytes : Int) * z ≤ 140737488355328) (xd : Eh (ei.zero.map B0) = some zd) (kV : dr = false := by exact rfl) (hw : GW ops g sl := by first | exact trivial | exact rfl)
  (hl : AH sl l = .c (.d (.lit (.int k z))) := by exact rfl) (hc : AH sl c = .c (.d (.lit (.int k' z))) := by exact rfl) (ht : T t = some i := by exact rfl) (hi : i.desc = .slice e := by exact rfl) (jg : T e = some ei := by exact rfl) (hk : (Nat.blt 0 ei.size && Nat.beq ei.zero.length ei.size) = true := by exact rfl) :
  Reg P F0 w0 dr ops K (⟨some d, .makeSlice t l c, ty, pos, iU, g⟩ :: rest) ⟨n, sl, mem, ck, df⟩ acc := by
 subst hm
 refine Yu (R := fun v m' c' jx => (∃ b, v = .c (.arr mem.length (ck + 1) z.toNat) ∧ m' = mem ++ [.arrc (ck + 1) e ei.size (List.replicate z.toNat zd) b z.toNat] ∧ c' = ck + 1) ∧ jx = []) kV hw (Tc fun E w ρ j0 hρ => ?_) ?_
 ·have e1 := hρ l (by simp [Op.operands])
  have e2 := hρ c (by simp [Op.operands])
  rw [hl] at e1; rw [hc] at e2
  have e1 := e1.lit_inv
  have e2 := e2.lit_inv
  simp only [BM, Sd, Md, Nat.blt, Tq] at hk
  have hu : P.underlying t = some (.slice e) := by have := (tc.ok t i ht).desc; rw [hi] at this; exact this
  obtain ⟨fi, zv, k6, kr, jb, kG, kq⟩ := (tc.ok e ei jg).info
  have hr := run_make (P := P) w t e fi zv hu k6 kG k k' z z h0 (Int.le_refl _) (by rw [jb]; omega) mG
  rw [kr] at hr
  have ng := EF xd
  have pV : zv.cells.size = ei.size := by rw [kq]; simpa using hk.2
  have hn := j0.newArr (w' := w.alloc (.cells (madeCells zv.cells (z.toNat * ei.size)) e)) e ei.size z.toNat (List.replicate z.toNat zd) hk.1 (fun e' kd => by rw [List.eq_of_mem_replicate kd, ng]; simpa using hk.2) (by simp) (by simp [maxLen]; omega)
    ((Bel.refl _ w).alloc j0.le0 _) (fun i hi => Bel.heap_alloc w _ i hi) (.inr ⟨_, XN w _, by simp [size_madeCells], fun v hv => (tc.ok e ei jg).ones v (by have := HL (by omega) hv; rw [kq] at this; simpa using this), fun i j e' v x q1 q2 q3 => by
      have hi := lt_of_getElem? q1
      simp only [J6] at hi
      rw [gd, if_pos hi] at q1
      simp only [Option.some.injEq] at q1
      subst q1
      have hj := lt_of_getElem? q2
      rw [ng] at hj
      simp only [BR, hk.2] at hj
      have i7 : i * ei.size + j < z.toNat * ei.size := by
       have : (i + 1) * ei.size ≤ z.toNat * ei.size := HJ _ (by omega)
       rw [Gg, Kf] at this
       omega
      have oj : (i * ei.size + j) % ei.size = j := by rw [OB, Nat.mul_add_mod, dH hj]
      have jI : (madeCells zv.cells (z.toNat * ei.size))[i * ei.size + j]? = zv.cells[j]? := by
       unfold madeCells
       rw [Array.getElem?_map]
       have sW : j < zv.cells.size := by rw [pV]; exact hj
       simp only [Array.getElem?_range, i7, if_true, Option.map_some, pV, oj]
       rw [getElem!_pos zv.cells j sW, LZ sW]
      rw [jI, kq] at q3
      exact EG (E := E) (v := v) xd (fun y hy => EH (tc.ok e ei jg) j v y q3 hy) q2⟩)
  have pL : (mem ++ [Blk.arr (ck + 1) e ei.size (List.replicate z.toNat zd)])[mem.length]? = some (.arr (ck + 1) e ei.size (List.replicate z.toNat zd)) := by simp
  have hq := hn.1.toArrc pL
  simp only [Env.upd, if_true] at hq
  rw [show (mem ++ [Blk.arr (ck + 1) e ei.size (List.replicate z.toNat zd)]).set mem.length (.arrc (ck + 1) e ei.size (List.replicate z.toNat zd) w.heap.size z.toNat) = mem ++ [.arrc (ck + 1) e ei.size (List.replicate z.toNat zd) w.heap.size z.toNat] by simp] at hq
  refine ⟨.slice (some ⟨w.heap.size, 0, none⟩) z.toNat z.toNat, _, _, _, _, _, by simp [execOp, e1, e2, hr], hn.2, hq, .c (.arr mem.length (ck + 1) z.toNat _ rfl (by simp [Env.upd]) (fun _ => ?_)), w.heap.size, rfl, rfl, rfl⟩
  rcases ZB z.toNat with mg | mg
  · exact .inl ⟨by simp [Env.upd, mg], mg, some ⟨w.heap.size, 0, none⟩, by rw [mg]⟩
  · exact .inr ⟨by simp [Env.upd]; omega, by simp [Env.upd]⟩
 ·rintro v m' c' jx ⟨⟨b, rfl, rfl, rfl⟩, rfl⟩
  exact h b
theorem VY [tc : TC P T] {kk : IntKind} {z : Int} {c : Nat} (h : Reg P F0 w0 dr ops K rest ⟨n, (d, .c (.ap r k ei.size z.toNat 0)) :: sl, mem, ck, df⟩ (1 :: acc)) (hz : 0 ≤ z) (nK : z < (m : Int)) (hm : mem[r]? = some (.arrc k iX i6 es b c)) (hw : GW ops g sl := by first | exact trivial | exact rfl)
  (hx : AH sl x = .c (.arr r k m) := by exact rfl) (hy : AH sl y = .c (.d (.lit (.int kk z))) := by exact rfl) (ht : T t = some i := by exact rfl) (hi : i.desc = .slice e := by exact rfl) (jg : T e = some ei := by exact rfl) :
  Reg P F0 w0 dr ops K (⟨some d, .indexAddr t x y, ty, pos, iU, g⟩ :: rest) ⟨n, sl, mem, ck, df⟩ acc := by
 refine Dh hw hm (fun mem ck hm => BF fun E w ρ j0 hρ => ?_) h
 have e1 := hρ x (by simp [Op.operands])
 have e2 := hρ y (by simp [Op.operands])
 rw [hx] at e1; rw [hy] at e2
 have e2 := e2.lit_inv
 obtain ⟨⟨o1, o2, o3, o4, o5, o6⟩, _, _⟩ := j0.mem.ok r _ hm
 have hu : P.underlying t = some (.slice e) := by have := (tc.ok t i ht).desc; rw [hi] at this; exact this
 have j3 := (tc.ok e ei jg).sizeOf (w := w)
 rcases e1.arr_inv o1 with ⟨_, q, _⟩ | ⟨lD, hq⟩
 ·omega
 refine ⟨.pointer (some ⟨E.blk r, z.toNat * ei.size, none⟩), w, E, ?_, EnvLe.refl _ _, j0, .c (.ap r k ei.size z.toNat 0 _ rfl (by omega) (fun _ => rfl))⟩
 simp [execOp, e2, hq, Instr.indexAt, asIntOf, run_underlying hu, hz, nK, j3, Addr.add_lit]
theorem Pd [tc : TC P T] {j o c : Nat} {ji : List (List Dat)} {e e' : List Dat} {v : SVal} {cs : List Cell} {ds : List Dat} {f' : List Blk} (h : Reg P F0 w0 dr ops K rest ⟨n, sl, f', ck, df⟩ (2 :: acc)) (hm : mem[r]? = some (.arrc k iX i6 es b c)) (hj : es[j]? = some e) (hw : GW ops g sl := by first | exact trivial | exact rfl) (hx : AH sl x = .c (.ap r k i6 j o) := by exact rfl) (hy : AH sl y = v := by first | exact (rfl : _ = SVal.c _) | exact (rfl : _ = SVal.agg _) | exact rfl) (hc : v.cells = some cs := by exact rfl) (nw : Eh cs = some ds := by exact rfl) (ht : T t = some i := by exact rfl) (hl : cs.length = i.size := by exact rfl) (hs : decide (o + i.size ≤ i6) = true := by exact rfl) (kd : e.take o ++ ds ++ e.drop (o + i.size) = e' := by exact rfl) (j6 : es.set j e' = ji := by exact rfl) (iZ : mem.set r (.arrc k iX i6 ji b c) = f' := by exact rfl) :
  Reg P F0 w0 dr ops K (⟨none, .store t x y, ty, pos, iU, g⟩ :: rest) ⟨n, sl, mem, ck, df⟩ acc := by
 subst iZ; subst j6; subst kd
 refine IE (jx := []) hw (JV fun E w ρ j0 hρ => ?_) h
 have e1 := hρ x (by simp [Op.operands])
 have e2 := hρ y (by simp [Op.operands])
 rw [hx] at e1; rw [hy] at e2
 obtain ⟨_, o7, o8⟩ := j0.mem.ok r _ hm
 have si : Fe T ⟨0, [], mem.set r (.arr k iX i6 es), ck, []⟩ t (.c (.ap r k i6 j o)) v fun τ => τ.mem = mem.set r (.arr k iX i6 (es.set j (e.take o ++ ds ++ e.drop (o + i.size)))) := by
  simp only [Fe, ht, hc, BV hm, nw]
  exact ⟨hl, trivial, trivial, by simpa using hs, Cg hj (by simp)⟩
 obtain ⟨w', f', q1, q2, q3, q4⟩ := OI (P := P) tc.ok (σ := ⟨0, [], mem.set r (.arr k iX i6 es), ck, []⟩) (j0.toArr hm) e1 e2 si
 simp only at q4
 subst q4
 have pL : (mem.set r (Blk.arr k iX i6 (es.set j (e.take o ++ ds ++ e.drop (o + i.size)))))[r]? = some (.arr k iX i6 (es.set j (e.take o ++ ds ++ e.drop (o + i.size)))) := BV hm
 have hq := q3.toArrc pL
 rw [ZH, o7, o8] at hq
 exact ⟨w', E, by simp [execOp, q1], q2, hq⟩
theorem Yq [tc : TC P T] {u : SVal} {ys : List (List Dat)} {f' : List Blk} (h : Reg P F0 w0 dr ops K rest ⟨n, (d, .c (.arr r (ck + 1) m)) :: sl, f', ck + 1, df⟩ (2 :: acc)) (jD : 0 < ys.length) (hm : es.length + ys.length = m) (j3 : ∀ el ∈ es, el.length = ei.size) (q9 : ∀ el ∈ ys, el.length = ei.size) (hl : m ≤ maxLen) (lp : m * ei.bytes ≤ 140737488355328)
  (hw : GW ops g sl := by first | exact trivial | exact rfl) (hx : AH sl x = .c (.d (.ex es)) := by exact rfl) (hy : AH sl y = u := by exact (rfl : _ = SVal.c _)) (hs : Gh u = some ys := by exact rfl) (ht : T t = some i := by exact rfl) (hi : i.desc = .slice e := by exact rfl) (jg : T e = some ei := by exact rfl) (hk : (Nat.blt 0 ei.size && Nat.beq ei.zero.length ei.size) = true := by exact rfl) (hr : mem.length = r := by exact rfl) (iZ : mem ++ [.arr (ck + 1) e ei.size (es ++ ys)] = f' := by exact rfl) :
  Reg P F0 w0 dr ops K (⟨some d, .call ⟨.builtin .append, #[x, y], #[t, t]⟩, ty, pos, iU, g⟩ :: rest) ⟨n, sl, mem, ck, df⟩ acc := by
 subst iZ; subst hr; subst hm
 refine U6 (jx := []) hw (BF fun E w ρ j0 hρ => ?_) h
 have e1 := hρ x (by simp [Op.operands, Call.operands])
 have e2 := hρ y (by simp [Op.operands, Call.operands])
 rw [hx] at e1; rw [hy] at e2
 have j4 := Kg e2 hs
 have e1 := e1.d_inv
 simp only [BM, Sd, Md, Nat.blt, Tq] at hk
 have hu : P.underlying t = some (.slice e) := by have := (tc.ok t i ht).desc; rw [hi] at this; exact this
 have j9 : ∀ el ∈ es ++ ys, el.length = ei.size := fun el jo => by
  rcases EY.1 jo with q | q
  · exact j3 el q
  · exact q9 el q
 obtain ⟨a, ha⟩ := e1.ex_inv
 by_cases j2 : es = []
 ·subst j2
  obtain ⟨v', w', cap, q1, q2, q3, q4, q5, q6, q7⟩ := Ej tc.ok j0 (ty := ty) ht hi jg hk.2 q9 (by simpa using hl) (by simpa using lp) j4 a
  rw [List.length_nil] at ha
  have hq := j0.newArr e ei.size cap ys hk.1 q9 q2 q3 q4 q5 q7
  refine ⟨v', w', _, by simp [execOp, resolve, invoke, builtin, ha, q1], hq.2, hq.1, .c (.arr mem.length (ck + 1) _ v' ?_ (by simp [Env.upd]) (fun _ => ?_))⟩
  · rcases q6 with ⟨_, b, rfl⟩ | ⟨_, rfl⟩ <;> rfl
  · rcases q6 with ⟨h5, b, rfl⟩ | ⟨h5, rfl⟩
    · exact .inl ⟨by simp [Env.upd, h5], by simp; omega, b, rfl⟩
    · exact .inr ⟨by simp [Env.upd]; exact h5, by simp [Env.upd]⟩
 ·have vB : ys ≠ [] := fun q => by rw [q] at jD; simp at jD
  obtain ⟨fi, z, k6, kr, jb, kG, kq⟩ := (tc.ok e ei jg).info
  have hz : z.cells.size = ei.size := by rw [kq]; simpa using hk.2
  have lj : ∀ v ∈ z.cells, v.oneCell' = true := fun v hv => (tc.ok e ei jg).ones v (by rw [kq] at hv; simpa using hv)
  obtain ⟨b1, vC, yM, jZ, jN, mP, vg, ql, rH⟩ := e1.ex_sl.flat j3 j2
  obtain ⟨b, off, cap, news, jL, lL, mf, kQ, lE⟩ := j4.flat q9 vB
  rw [ha] at jN
  injection jN with uc wZ yN
  subst uc; subst yN
  have ky : (jZ ++ news).length = (es.length + ys.length) * ei.size := by rw [CR, mP, lL, Gg]
  obtain ⟨jw, hg, mD, nc, c', lh, me, mq, mo⟩ := DS (w := w) (e := e) (old := es.length) hz ky hl lj (fun v hv => by
    rcases EY.1 hv with hv | hv
    · exact ql v hv
    · exact kQ v hv)
  have pU : ((es.length + ys.length : Nat) : Int) ≤ 9223372036854775807 := by simp only [maxLen] at hl; omega
  have j7 := run_append_grow (P := P) w t ty e fi z hu k6 kG ⟨b1, vC, none⟩ es.length es.length jZ (by rw [kr]; exact mP) vg ⟨b, off, none⟩ ys.length cap news (by rw [kr]; exact lL) mf (by omega) pU (by rw [jb]; exact growslice_fits (by omega) lp)
  have oT : jZ.toArray ++ news.toArray = (jZ ++ news).toArray := by simp
  rw [oT, ← hg] at j7
  have xe := j0.newArr (w' := w.drew.alloc (.cells ((jZ ++ news).toArray ++ Builtin.zeroCells z.cells (jw - (es.length + ys.length))) e)) e ei.size jw (es ++ ys) hk.1 j9 (by simp; omega) nc (Df w _ j0.le0) (fun i hi => by rw [Bel.heap_alloc w.drew _ i hi]; rfl)
    (.inr ⟨c', lh, me, mq, fun i j e' v' x' q1 q2 q3 => by
      exact Flat.join mP j3 q9 lL rH lE i j e' v' x' q1 q2 (by rw [← mo]; simpa using q3)⟩)
  exact ⟨.slice (some ⟨w.heap.size, 0, none⟩) (es.length + ys.length) jw, _, _, by simp [execOp, resolve, invoke, builtin, ha, jL, j7], xe.2, xe.1, .c (.arr mem.length (ck + 1) _ _ rfl (by simp [Env.upd]) (fun _ => .inr ⟨by simp [Env.upd]; omega, by simp [Env.upd]⟩))⟩
end
section
variable {P : Program} {T : TypeId → Option TI} {B : Base} {Q : Ex → St → Prop} {n : Nat} {sl : List (Nat × SVal)} {mem : List Blk} {ck : Nat} {df : List (FuncId × List Cell)}
theorem TU (t : Nat) {cc : Nat} {m1 : List Blk} {c : Code} (h : ARun P B c ⟨n, (t, .c (.d (.ex es))) :: sl, m1, ck, df⟩ Q) (hm : mem[r]? = some (.arrc k iX i6 es b cc)) (hl : es.length = m) (hc : cc = m) (ht : look sl t = .c (.arr r k m) := by exact rfl) (lq : mem.set r .dead = m1 := by exact rfl) : ARun P B c ⟨n, sl, mem, ck, df⟩ Q := by
 subst lq; subst hl; subst hc
 rintro a w ⟨E, ⟨hw, j3, ml, jy⟩, hle⟩
 have e1 : SRep E w (a.tmps.getD t undef) (.c (.arr r k es.length)) := by rw [← ht]; exact jy t
 obtain ⟨o1, o2, o3⟩ := hw.mem.ok r _ hm
 have xf := hw.toArr hm
 have hf := xf.freeze r k iX i6 es (BV hm)
 rw [ZH] at hf
 refine h a w ⟨_, ⟨hf.1, j3, ml.le hf.2, Fu (fun s => (jy s).le hf.2) ?_⟩, hle.trans hf.2⟩
 have hv := Ek (F := fun i => E.F i ∨ (i = E.blk r ∧ E.cap r ≠ 0)) xf (BV hm) (Nat.le_refl _) e1.cell_of (fun b hb => .inl hb) (fun hz => .inr ⟨rfl, hz⟩)
 rw [Ir] at hv
 rcases e1.arr_inv o1.1 with ⟨q1, q2, q3, q4⟩ | ⟨q1, q2⟩
 ·rw [q4] at hv ⊢
  exact .c (.d hv.sl_ex)
 ·rw [q2, o2] at hv ⊢
  exact .c (.d hv.sl_ex)
end
def DLe (x y : Dat) : Prop := ∀ (F : Nat → Prop) (w : World) (v : Value), DRep F w v x → DRep F w v y
def DLs : List Dat → List Dat → Prop
 | [], [] => True
 | x :: xs, y :: ys => DLe x y ∧ DLs xs ys
 | _, _ => False
def PLe : PV → PV → Prop
 | .one x, .one y => DLe x y
 | .agg xs, .agg ys => DLs xs ys
 | _, _ => False
def PLs : List PV → List PV → Prop
 | [], [] => True
 | x :: xs, y :: ys => PLe x y ∧ PLs xs ys
 | _, _ => False
theorem DLe.rfl {x : Dat} : DLe x x := fun _ _ _ h => h
theorem DLe.ex (es : List (List Dat)) : DLe (.ex es) (.sl es) := fun _ _ _ h => h.ex_sl
theorem DLs.get : ∀ {xs ys : List Dat}, DLs xs ys → xs.length = ys.length ∧ ∀ (i : Nat) (y : Dat), ys[i]? = some y → ∃ x, xs[i]? = some x ∧ DLe x y
 | [], [], _ => ⟨_root_.rfl, by simp⟩
 | x :: xs, y :: ys, h => by
   obtain ⟨h1, h2⟩ := DLs.get h.2
   refine ⟨by simp [h1], fun i z hz => ?_⟩
   cases i with
   | zero => simp at hz; subst hz; exact ⟨x, _root_.rfl, h.1⟩
   | succ i => exact h2 i z (by simpa using hz)
 | [], _ :: _, h => h.elim
 | _ :: _, [], h => h.elim
theorem PLe.rep {p q : PV} (h : PLe p q) {E : Env} {w : World} (hv : SRep E w v p.s) : SRep E w v q.s := by
 cases p with
 | one x =>
   cases q with
   | one y => cases hv with | c hv => exact .c (.d (h _ _ _ hv.d_of))
   | agg ys => exact h.elim
 | agg xs =>
   cases q with
   | one y => exact h.elim
   | agg ys =>
     cases hv with | agg _ vs hl hd =>
     obtain ⟨h1, h2⟩ := DLs.get h
     refine .agg _ vs (by simp at hl ⊢; omega) (fun i v x hv hx => ?_)
     rw [BU] at hx
     cases hy : ys[i]? with
     | none => rw [hy] at hx; cases hx
     | some y =>
       rw [hy] at hx
       simp at hx
       subst hx
       obtain ⟨x, hx, hle⟩ := h2 i y hy
       have := hd i v (.d x) hv (by rw [BU, hx]; exact _root_.rfl)
       exact .d (hle _ _ _ this.d_of)
theorem PLs.get : ∀ {xs ys : List PV}, PLs xs ys → xs.length = ys.length ∧ ∀ (i : Nat) (y : PV), ys[i]? = some y → ∃ x, xs[i]? = some x ∧ PLe x y
 | [], [], _ => ⟨_root_.rfl, by simp⟩
 | x :: xs, y :: ys, h => by
   obtain ⟨h1, h2⟩ := PLs.get h.2
   refine ⟨by simp [h1], fun i z hz => ?_⟩
   cases i with
   | zero => simp at hz; subst hz; exact ⟨x, _root_.rfl, h.1⟩
   | succ i => exact h2 i z (by simpa using hz)
 | [], _ :: _, h => h.elim
 | _ :: _, [], h => h.elim
theorem PCall.args {P : Program} {f : FuncId} {oL bs : List PV} {r : PRes} (hp : PCall P f bs r) (ha : PLs oL bs) : PCall P f oL r := by
 obtain ⟨h1, h2⟩ := PLs.get ha
 refine ⟨hp.1, fun F w vs hF hl hv => hp.2 F w vs hF (by omega) fun i v x hi hx => ?_⟩
 obtain ⟨y, hy, hle⟩ := h2 i x hx
 exact hle.rep (hv i v y hi hy)
theorem PCall.res {P : Program} {f : FuncId} {oL : List PV} {x y : PV} (hp : PCall P f oL (.v x)) (ha : PLe x y) : PCall P f oL (.v y) := by
 refine ⟨hp.1, fun F w vs hF hl hv => Calls.mono (hp.2 F w vs hF hl hv) fun e w' he => ?_⟩
 obtain ⟨v, h1, h2, h3⟩ := he
 exact ⟨v, h1, h2, ha.rep h3⟩
end Go.Abs
end
