/-
  Data whose capacity is their length: made, filled, handed on, appended to.
-/
import Derived.Test.YtmpgmjlanngkfaaGreatHol
import Derived.Test.YtmpgmjlanngkfaaGreatTypes
import Derived.Recover
import Derived.Test.YtmpgmjlanngkfaaGreatLast
import Derived.Test.YtmpgmjlanngkfaaGreatArx
section
namespace Go.Abs
open Go.RowKit
section
variable {P : Program} {T : TypeId → Option TI} {F0 : Nat → Prop} {w0 w : World} {E : Env} {mem : List Blk} {clock : Nat}
end
section
variable {P : Program} {T : TypeId → Option TI} {F0 : Nat → Prop} {w0 : World}
variable {dr : Bool} {ops rest : List Oper} {K : St → Prop} {n : Nat} {sl : List (Nat × SVal)} {mem : List Blk} {ck : Nat} {df : List (FuncId × List Cell)} {acc : List Nat}
variable {d : Tmp} {op : Op} {ty : TypeId} {pos : String} {aft : Array Edge} {g : Option (Nat × Bool)}
theorem Ud [tc : TC P T] {s : TypeId} {f : Nat} {x : Operand} {i j : TI} {fs : List (Nat × TypeId)} {off : Nat} {ft : TypeId} {r k o : Nat} {cs : List Cell} (h : Reg P F0 w0 dr ops K rest ⟨n, (d, .c (.bp r k (o + off))) :: sl, mem, ck, df⟩ (B6 r true :: acc)) (hw : GW ops g sl := by first | exact trivial | exact rfl) (hx : AH sl x = .c (.bp r k o) := by exact rfl) (hs : T s = some i := by exact rfl) (hi : i.desc = .struct fs := by exact rfl) (hf : fs[f]? = some (off, ft) := by exact rfl) (hj : T ft = some j := by exact rfl) (hz : decide (j.size ≠ 0) = true := by exact rfl) (hm : mem[r]? = some (.box k cs) := by exact rfl) :
  Reg P F0 w0 dr ops K (⟨some d, .fieldAddr s x f, ty, pos, aft, g⟩ :: rest) ⟨n, sl, mem, ck, df⟩ acc :=
 VQ hw hm (fun mem ck hm => Does.of tc.ok fun τ he hmm hc Kk hK => by
  subst hmm; subst hc
  have ex := he x (by simp [Op.operands])
  rw [hx] at ex
  obtain ⟨a1, a2, a3, a4, a5⟩ := i
  simp only at hi
  subst hi
  simp only [AQ, Fq, hs, hf, hj, ex, CR, hm]
  exact ⟨by simpa using hz, trivial, hK _ _ _ _ ⟨rfl, rfl, rfl, rfl⟩⟩) h
theorem Ue [tc : TC P T] {t : TypeId} {x : Operand} {i : TI} {r k o : Nat} {cs : List Cell} {y : Cell} (h : Reg P F0 w0 dr ops K rest ⟨n, (d, .c y) :: sl, mem, ck, df⟩ (B6 r true :: acc)) (hw : GW ops g sl := by first | exact trivial | exact rfl) (hx : AH sl x = .c (.bp r k o) := by exact rfl) (ht : T t = some i := by exact rfl) (ha : i.desc.agg = false := by exact rfl) (hs : i.size = 1 := by exact rfl) (hm : mem[r]? = some (.box k cs) := by exact rfl) (hy : cs[o]? = some y := by exact rfl) :
  Reg P F0 w0 dr ops K (⟨some d, .load t x, ty, pos, aft, g⟩ :: rest) ⟨n, sl, mem, ck, df⟩ acc :=
 VQ hw hm (fun mem ck hm => Does.of tc.ok fun τ he hmm hc Kk hK => by
  subst hmm; subst hc
  have ex := he x (by simp [Op.operands])
  rw [hx] at ex
  have hlt := lt_of_getElem? hy
  have e1 : (cs.drop o).take 1 = [y] := by
   rw [ZL hlt]
   rw [Bh hlt] at hy
   simp at hy
   simp [hy]
  simp only [AQ, DH, ht, ex, ha, hs, hm]
  refine ⟨.inr trivial, trivial, hlt, ?_⟩
  rw [e1]
  exact hK _ _ _ _ ⟨rfl, rfl, rfl, rfl⟩) h
end
end Go.Abs
end
section
namespace Go.Proofs.YtmpgmjlanngkfaaGreat
open Go.Abs Go.RowKit
set_option linter.unusedSimpArgs false
set_option maxRecDepth 100000
theorem D8 : DeferOk Tryz.prog 95 0 := by
 refine ⟨⟨_, Tryz.func95, by kernel_rfl, by kernel_rfl⟩, fun vs w hl => ?_⟩
 match vs, hl with
 | [], _ =>
   refine callsD_of_wpS Tryz.func95 rfl fun c₀ cs hu => ?_
   apply wpS_region
   simp [wpOpsS, go_sem, recoverD, hu, Tryz.ntmps95, Exit.thenS]
   cases c₀
   simp_all [bodyPostS, results, Tryz.results95]
end Go.Proofs.YtmpgmjlanngkfaaGreat
end
section
namespace Go.Abs
open Go.RowKit
section
variable {P : Program} {T : TypeId → Option TI} {F0 : Nat → Prop} {w0 : World} {dr : Bool} {ops rest : List Oper} {K : St → Prop} {n : Nat} {sl : List (Nat × SVal)} {mem : List Blk} {ck : Nat} {df : List (FuncId × List Cell)} {acc : List Nat} {d : Tmp} {ty : TypeId} {pos : String} {aft : Array Edge} {g : Option (Nat × Bool)}
section
variable {B : Base} {R : Ex → St → Prop} {ks : List Fr}
def cN (τ0 : St) : Ex → St → Prop
 | .norm, τ => Weak τ τ0
 | _, _ => False
end
section
variable {B : Base} {m1 mem1 : List Blk} {r r1 : SVal}
end
end
section
variable {P : Program} {T : TypeId → Option TI} {t : TypeId} {i : TI} {xs : List Dat}
theorem US (hT : AE P T) (ht : T t = some i) : P.bytesOf t = i.bytes := by
 obtain ⟨f, z, h1, _, h3, _⟩ := (hT t i ht).info
 simp [Program.bytesOf, h1, h3]
def aF (z : Int) : Prop := -9223372036854775808 ≤ z ∧ z ≤ 9223372036854775807
theorem Y3 (hT : AE P T) (ht : T t = some i) (hi : i.desc = .int .i64) (h : ZI P t xs) : ∃ z, xs = [.lit (.int .i64 z)] ∧ aF z := by
 have hu := (hT t i ht).desc
 rw [hi] at hu
 obtain ⟨n, h⟩ := h
 cases n with
 | zero => exact h.elim
 | succ n =>
   simp only [Lm, show P.underlying t = some (.int .i64) from hu] at h
   obtain ⟨z, h1, h2⟩ := h
   refine ⟨z, h1, ?_⟩
   simpa [Lit.wf, IntKind.min, IntKind.max, IntKind.signed, IntKind.bits, aF] using h2
theorem UT (hT : AE P T) {e : TypeId} {ei : TI} (ht : T t = some i) (hi : i.desc = .slice e) (he : T e = some ei) (h : ZI P t xs) : ∃ es, xs = [.sl es] ∧ es.length * ei.bytes ≤ reachBytes ∧ ∀ el ∈ es, ZI P e el := by
 have hu := (hT t i ht).desc
 rw [hi] at hu
 obtain ⟨n, h⟩ := h
 cases n with
 | zero => exact h.elim
 | succ n =>
   simp only [Lm, show P.underlying t = some (.slice e) from hu] at h
   obtain ⟨es, h1, h2, h3⟩ := h
   rw [US hT he] at h2
   exact ⟨es, h1, h2, fun el hel => ⟨n, h3 el hel⟩⟩
theorem Ly {α : Type} {f : α → List Dat} {Q : α → Prop} : ∀ (es : List (List Dat)), (∀ el ∈ es, ∃ a, el = f a ∧ Q a) → ∃ l : List α, es = l.map f ∧ ∀ a ∈ l, Q a
 | [], _ => ⟨[], rfl, by simp⟩
 | e :: es, h => by
   obtain ⟨a, rfl, ha⟩ := h e (by simp)
   obtain ⟨l, rfl, hl⟩ := Ly es (fun el hel => h el (by simp [hel]))
   exact ⟨a :: l, rfl, fun b hb => by rcases Fb.1 hb with rfl | hb; exact ha; exact hl b hb⟩
end
end Go.Abs
end
section
namespace Go.Proofs.YtmpgmjlanngkfaaGreat
open Go.Abs Go.RowKit
attribute [local irreducible] ARun Au MCall PCall HCall Ak SF CF CFs Af Ag Ar fin AP VLe
set_option linter.unusedSimpArgs false
set_option maxRecDepth 100000
set_option maxHeartbeats 4000000
structure Val where
 kind : Int
 int : Int
 text : ByteArray
def Val.d (v : Val) : List Dat := [.lit (.int .i64 v.kind), .lit (.int .i64 v.int), .lit (.string v.text)]
def Val.valid (v : Val) : Bool :=
 if v.kind = 0 then decide (v.int = 0) && v.text.toList.isEmpty
 else if v.kind = 1 then decide (-4294967296 ≤ v.int) && decide (v.int ≤ 4294967296) && v.text.toList.isEmpty
 else if v.kind = 2 then decide (v.int = 0) && decide (v.text.size ≤ 32)
 else false
theorem F9 (s : ByteArray) : (s.toList == ({ data := #[] } : ByteArray).toList) = s.toList.isEmpty := by
 have : ({ data := #[] } : ByteArray).toList = [] := by rw [ByteArray.toList_eq]
 rw [this]
 cases s.toList <;> rfl
theorem I6 (v : Val) : PC 179 [.agg v.d] (.v (.one (.lit (.bool v.valid)))) := by
 refine Ac hT Tryz.func179 Tryz.ntmps179 [.tmp 2] fun B => ?_
 repeat' first | refine kz ?_ | refine AN rfl (fun hb => ?_) (fun hb => ?_) | refine Aq rfl rfl (fun hb => ?_) (fun hb => ?_) | refine kf ?_ | fail
 all_goals (refine congrArg Dat.lit (congrArg Value.bool ?_); simp_all [Val.valid, F9])
 all_goals (intros; omega)
def Val.null : Val := ⟨0, 0, ⟨#[]⟩⟩
def Val.clean (v : Val) : Val := if v.valid then v else Val.null
theorem Hu (v : Val) : PC 172 [.agg v.d] (.v (.agg v.clean.d)) := by
 refine Ac hT Tryz.func172 Tryz.ntmps172 [.cell 2 73] fun B => ?_
 repeat' first | refine kz ?_ | refine AN rfl (fun hb => ?_) (fun hb => ?_) | refine Aa (I6 _) ?_ | refine kh ?_ ?_ | exact ⟨⟩ | fail
 all_goals simp_all [Val.clean, Val.null]
theorem Ki (v : Val) : PC 130 [.agg v.d] (.v (.one (.lit (.bool v.valid)))) := by
 refine Ac hT Tryz.func130 Tryz.ntmps130 [.tmp 2] fun B => ?_
 repeat' first | refine kz ?_ | refine AN rfl (fun hb => ?_) (fun hb => ?_) | refine Aq rfl rfl (fun hb => ?_) (fun hb => ?_) | refine kf ?_ | fail
 all_goals (refine congrArg Dat.lit (congrArg Value.bool ?_); simp_all [Val.valid, F9])
 all_goals (intros; omega)
theorem GK (v : Val) : PC 140 [.agg v.d] (.v (.agg v.clean.d)) := by
 refine Ac hT Tryz.func140 Tryz.ntmps140 [.cell 2 73] fun B => ?_
 repeat' first | refine kz ?_ | refine AN rfl (fun hb => ?_) (fun hb => ?_) | refine Aa (Ki _) ?_ | refine kh ?_ ?_ | exact ⟨⟩ | fail
 all_goals simp_all [Val.clean, Val.null]
def Val.ofInt (n : Int) : Val := Val.clean ⟨1, n, ⟨#[]⟩⟩
theorem EM (n : Int) : PC 86 [.one (.lit (.int .i64 n))] (.v (.agg (Val.ofInt n).d)) := by
 refine Ac hT Tryz.func86 Tryz.ntmps86 [.cell 2 73] fun B => ?_
 repeat' first | refine kz ?_ | refine Aa (GK ⟨1, n, ⟨#[]⟩⟩) ?_ | refine kh ?_ ?_ | exact ⟨⟩ | fail
 all_goals rfl
def Ge (a b : Int) : Int := if a < b then -1 else if a > b then 1 else 0
theorem WH (a : Int) : PC 175 [.one (.lit (.int .i64 a))] (.v (.one (.lit (.bool false)))) := by
 refine Ac hT Tryz.func175 Tryz.ntmps175 [.tmp 2] fun B => ?_
 repeat' first | refine kz ?_ | refine kf ?_ | fail
 all_goals simp
theorem R5 (a : Int) : PC 215 [.one (.lit (.int .i64 a))] (.v (.one (.lit (.bool false)))) := by
 refine Ac hT Tryz.func215 Tryz.ntmps215 [.tmp 2] fun B => ?_
 repeat' first | refine kz ?_ | refine kf ?_ | fail
 all_goals simp
theorem OC (a b : Int) : PC 112 [.one (.lit (.int .i64 a)), .one (.lit (.int .i64 b))] (.v (.one (.lit (.int .i64 (Ge a b))))) := by
 refine Ac hT Tryz.func112 Tryz.ntmps112 [.tmp 4] fun B => ?_
 repeat' first | refine kz ?_ | refine AN rfl (fun hb => ?_) (fun hb => ?_) | refine Aa (WH _) ?_ | refine kf ?_ | fail
 all_goals (refine congrArg Dat.lit (congrArg (Value.int _) ?_); simp_all [Ge])
 all_goals omega
theorem PE (a b : Int) : PC 173 [.one (.lit (.int .i64 a)), .one (.lit (.int .i64 b))] (.v (.one (.lit (.int .i64 (Ge a b))))) := by
 refine Ac hT Tryz.func173 Tryz.ntmps173 [.tmp 4] fun B => ?_
 repeat' first | refine kz ?_ | refine AN rfl (fun hb => ?_) (fun hb => ?_) | refine Aa (R5 _) ?_ | refine kf ?_ | fail
 all_goals (refine congrArg Dat.lit (congrArg (Value.int _) ?_); simp_all [Ge])
 all_goals omega
end Go.Proofs.YtmpgmjlanngkfaaGreat
end
section
namespace Go.Abs
open Go.RowKit
variable {b esz k m r : Nat} {e ety t : TypeId} {ei i : TI} {es : List (List Dat)} {v : Value} {x y : Operand}
section
variable {F : Nat → Prop} {w : World}
theorem DRep.ex_sl (h : DRep F w v (.ex es)) : DRep F w v (.sl es) := by
 cases h with
 | exn a => exact .emp a 0
 | ex _ b off size u hF hmax hsz hc hd => exact .sl es b off es.length size u hF (Nat.le_refl _) hmax hsz hc hd
theorem DRep.sl_ex {a : Option Addr} (h : DRep F w (.slice a m m) (.sl es)) : DRep F w (.slice a m m) (.ex es) := by
 cases h with
 | emp a cap => exact .exn a
 | sl _ b off cap size u hF hcap hmax hsz hc hd => exact .ex es b off size u hF hmax hsz hc hd
theorem DRep.ex_inv (h : DRep F w v (.ex es)) : ∃ a, v = .slice a es.length es.length := by
 cases h with
 | exn a => exact ⟨a, rfl⟩
 | ex _ b off size u hF hmax hsz hc hd => exact ⟨_, rfl⟩
end
section
variable {P : Program} {T : TypeId → Option TI} {F0 : Nat → Prop} {w0 : World}
variable {dr : Bool} {ops rest : List Oper} {K : St → Prop} {n : Nat} {sl : List (Nat × SVal)} {mem : List Blk} {ck : Nat} {df : List (FuncId × List Cell)} {acc : List Nat}
variable {d : Tmp} {op : Op} {ty : TypeId} {pos : String} {aft : Array Edge} {g : Option (Nat × Bool)}
theorem VJ (h : Reg P F0 w0 dr ops K rest ⟨n, (d, .c (.d (.sl es))) :: sl, mem, ck, df⟩ (0 :: acc)) (hw : GW ops g sl := by first | exact trivial | exact rfl) (hx : AH sl x = .c (.d (.ex es)) := by exact rfl) :
  Reg P F0 w0 dr ops K (⟨some d, .move x, ty, pos, aft, g⟩ :: rest) ⟨n, sl, mem, ck, df⟩ acc :=
 FD hw (Hk fun E w ρ hρ => by
  have e1 := hρ x (by simp [Op.operands])
  rw [hx] at e1
  exact ⟨ρ x, by simp [execOp], .c (.d e1.d_inv.ex_sl)⟩) h
theorem VK [tc : TC P T] {l c : Operand} {k k' : IntKind} {z : Int} {zd : List Dat}
  (h : ∀ b, Reg P F0 w0 dr ops K rest ⟨n, (d, .c (.arr mem.length (ck + 1) m)) :: sl, mem ++ [.arrc (ck + 1) e ei.size (List.replicate m zd) b m], ck + 1, df⟩ (2 :: acc)) (h0 : 0 ≤ z) (hm : z.toNat = m) (hmx : z ≤ 9223372036854775807) (hby : (ei.bytes : Int) * z ≤ 140737488355328) (hzd : DG (ei.zero.map By) = some zd) (hdr : dr = false := by exact rfl) (hw : GW ops g sl := by first | exact trivial | exact rfl)
  (hl : AH sl l = .c (.d (.lit (.int k z))) := by exact rfl) (hc : AH sl c = .c (.d (.lit (.int k' z))) := by exact rfl) (ht : T t = some i := by exact rfl) (hi : i.desc = .slice e := by exact rfl) (hei : T e = some ei := by exact rfl) (hk : (Nat.blt 0 ei.size && Nat.beq ei.zero.length ei.size) = true := by exact rfl) :
  Reg P F0 w0 dr ops K (⟨some d, .makeSlice t l c, ty, pos, aft, g⟩ :: rest) ⟨n, sl, mem, ck, df⟩ acc := by
 subst hm
 refine VR (R := fun v m' c' df' => (∃ b, v = .c (.arr mem.length (ck + 1) z.toNat) ∧ m' = mem ++ [.arrc (ck + 1) e ei.size (List.replicate z.toNat zd) b z.toNat] ∧ c' = ck + 1) ∧ df' = []) hdr hw (QB fun E w ρ hw' hρ => ?_) ?_
 ·have e1 := hρ l (by simp [Op.operands])
  have e2 := hρ c (by simp [Op.operands])
  rw [hl] at e1; rw [hc] at e2
  have e1 := e1.lit_inv
  have e2 := e2.lit_inv
  simp only [Bi, QN, LG, Nat.blt, Sh] at hk
  have hu : P.underlying t = some (.slice e) := by have := (tc.ok t i ht).desc; rw [hi] at this; exact this
  obtain ⟨fi, zv, hi1, hi2, hi3, hi4, hi5⟩ := (tc.ok e ei hei).info
  have hr := run_make (P := P) w t e fi zv hu hi1 hi4 k k' z z h0 (WT _) (by rw [hi3]; omega) hmx
  rw [hi2] at hr
  have hzlen := DJ hzd
  have hzs : zv.cells.size = ei.size := by rw [hi5]; simpa using hk.2
  have hn := hw'.newArr (w' := w.alloc (.cells (madeCells zv.cells (z.toNat * ei.size)) e)) e ei.size z.toNat (List.replicate z.toNat zd) hk.1 (fun e' he' => by rw [List.eq_of_mem_replicate he', hzlen]; simpa using hk.2) (by simp) (by simp [maxLen]; omega)
    ((Bel.refl _ w).alloc hw'.le0 _) (fun i hi => Bel.heap_alloc w _ i hi) (.inr ⟨_, U2 w _, by simp [size_madeCells], fun v hv => (tc.ok e ei hei).ones v (by have := Gf (by omega) hv; rw [hi5] at this; simpa using this), fun i j e' v x q1 q2 q3 => by
      have hi := lt_of_getElem? q1
      simp only [I8] at hi
      rw [List.getElem?_replicate, if_pos hi] at q1
      simp only [Option.some.injEq] at q1
      subst q1
      have hj := lt_of_getElem? q2
      rw [hzlen] at hj
      simp only [BQ, hk.2] at hj
      have hlt : i * ei.size + j < z.toNat * ei.size := by
       have : (i + 1) * ei.size ≤ z.toNat * ei.size := Gb _ (by omega)
       rw [EO, Hw] at this
       omega
      have hmod : (i * ei.size + j) % ei.size = j := by rw [OL, Nat.mul_add_mod, ZA hj]
      have hget : (madeCells zv.cells (z.toNat * ei.size))[i * ei.size + j]? = zv.cells[j]? := by
       unfold madeCells
       rw [Array.getElem?_map]
       have hjs : j < zv.cells.size := by rw [hzs]; exact hj
       simp only [Array.getElem?_range, hlt, if_true, Option.map_some, hzs, hmod]
       rw [getElem!_pos zv.cells j hjs, Mw hjs]
      rw [hget, hi5] at q3
      exact DK (E := E) (v := v) hzd (fun y hy => DL (tc.ok e ei hei) j v y q3 hy) q2⟩)
  have hr2 : (mem ++ [Blk.arr (ck + 1) e ei.size (List.replicate z.toNat zd)])[mem.length]? = some (.arr (ck + 1) e ei.size (List.replicate z.toNat zd)) := by simp
  have hq := hn.1.toArrc hr2
  simp only [Env.upd, if_true] at hq
  rw [show (mem ++ [Blk.arr (ck + 1) e ei.size (List.replicate z.toNat zd)]).set mem.length (.arrc (ck + 1) e ei.size (List.replicate z.toNat zd) w.heap.size z.toNat) = mem ++ [.arrc (ck + 1) e ei.size (List.replicate z.toNat zd) w.heap.size z.toNat] by simp] at hq
  refine ⟨.slice (some ⟨w.heap.size, 0, none⟩) z.toNat z.toNat, _, _, _, _, _, by simp [execOp, e1, e2, hr], hn.2, hq, .c (.arr mem.length (ck + 1) z.toNat _ rfl (by simp [Env.upd]) (fun _ => ?_)), w.heap.size, rfl, rfl, rfl⟩
  rcases WN z.toNat with hm0 | hm0
  · exact .inl ⟨by simp [Env.upd, hm0], hm0, some ⟨w.heap.size, 0, none⟩, by rw [hm0]⟩
  · exact .inr ⟨by simp [Env.upd]; omega, by simp [Env.upd]⟩
 ·rintro v m' c' df' ⟨⟨b, rfl, rfl, rfl⟩, rfl⟩
  exact h b
theorem Te [tc : TC P T] {kk : IntKind} {z : Int} {c : Nat} (h : Reg P F0 w0 dr ops K rest ⟨n, (d, .c (.ap r k ei.size z.toNat 0)) :: sl, mem, ck, df⟩ (1 :: acc)) (hz : 0 ≤ z) (hzm : z < (m : Int)) (hm : mem[r]? = some (.arrc k ety esz es b c)) (hw : GW ops g sl := by first | exact trivial | exact rfl)
  (hx : AH sl x = .c (.arr r k m) := by exact rfl) (hy : AH sl y = .c (.d (.lit (.int kk z))) := by exact rfl) (ht : T t = some i := by exact rfl) (hi : i.desc = .slice e := by exact rfl) (hei : T e = some ei := by exact rfl) :
  Reg P F0 w0 dr ops K (⟨some d, .indexAddr t x y, ty, pos, aft, g⟩ :: rest) ⟨n, sl, mem, ck, df⟩ acc := by
 refine CU hw hm (fun mem ck hm => Bx fun E w ρ hw' hρ => ?_) h
 have e1 := hρ x (by simp [Op.operands])
 have e2 := hρ y (by simp [Op.operands])
 rw [hx] at e1; rw [hy] at e2
 have e2 := e2.lit_inv
 obtain ⟨⟨o1, o2, o3, o4, o5, o6⟩, _, _⟩ := hw'.mem.ok r _ hm
 have hu : P.underlying t = some (.slice e) := by have := (tc.ok t i ht).desc; rw [hi] at this; exact this
 have hsz := (tc.ok e ei hei).sizeOf (w := w)
 rcases e1.arr_inv o1 with ⟨_, q, _⟩ | ⟨hcp, hq⟩
 ·omega
 refine ⟨.pointer (some ⟨E.blk r, z.toNat * ei.size, none⟩), w, E, ?_, EnvLe.refl _ _, hw', .c (.ap r k ei.size z.toNat 0 _ rfl (by omega) (fun _ => rfl))⟩
 simp [execOp, e2, hq, Instr.indexAt, asIntOf, run_underlying hu, hz, hzm, hsz, Addr.add_lit]
theorem Tf [tc : TC P T] {j o c : Nat} {es' : List (List Dat)} {e e' : List Dat} {v : SVal} {cs : List Cell} {ds : List Dat} {mem' : List Blk} (h : Reg P F0 w0 dr ops K rest ⟨n, sl, mem', ck, df⟩ (2 :: acc)) (hm : mem[r]? = some (.arrc k ety esz es b c)) (hj : es[j]? = some e) (hw : GW ops g sl := by first | exact trivial | exact rfl) (hx : AH sl x = .c (.ap r k esz j o) := by exact rfl) (hy : AH sl y = v := by first | exact (rfl : _ = SVal.c _) | exact (rfl : _ = SVal.agg _) | exact rfl) (hc : v.cells = some cs := by exact rfl) (hds : DG cs = some ds := by exact rfl) (ht : T t = some i := by exact rfl) (hl : cs.length = i.size := by exact rfl) (hs : decide (o + i.size ≤ esz) = true := by exact rfl) (he' : e.take o ++ ds ++ e.drop (o + i.size) = e' := by exact rfl) (hes : es.set j e' = es' := by exact rfl) (hm' : mem.set r (.arrc k ety esz es' b c) = mem' := by exact rfl) :
  Reg P F0 w0 dr ops K (⟨none, .store t x y, ty, pos, aft, g⟩ :: rest) ⟨n, sl, mem, ck, df⟩ acc := by
 subst hm'; subst hes; subst he'
 refine G6 (df' := []) hw (Iy fun E w ρ hw' hρ => ?_) h
 have e1 := hρ x (by simp [Op.operands])
 have e2 := hρ y (by simp [Op.operands])
 rw [hx] at e1; rw [hy] at e2
 obtain ⟨_, o7, o8⟩ := hw'.mem.ok r _ hm
 have hla : EP T ⟨0, [], mem.set r (.arr k ety esz es), ck, []⟩ t (.c (.ap r k esz j o)) v fun τ => τ.mem = mem.set r (.arr k ety esz (es.set j (e.take o ++ ds ++ e.drop (o + i.size)))) := by
  simp only [EP, ht, hc, BC hm, hds]
  exact ⟨hl, trivial, trivial, by simpa using hs, C7 hj (by simp)⟩
 obtain ⟨w', mem', q1, q2, q3, q4⟩ := ME (P := P) tc.ok (σ := ⟨0, [], mem.set r (.arr k ety esz es), ck, []⟩) (hw'.toArr hm) e1 e2 hla
 simp only at q4
 subst q4
 have hr2 : (mem.set r (Blk.arr k ety esz (es.set j (e.take o ++ ds ++ e.drop (o + i.size)))))[r]? = some (.arr k ety esz (es.set j (e.take o ++ ds ++ e.drop (o + i.size)))) := BC hm
 have hq := q3.toArrc hr2
 rw [WS, o7, o8] at hq
 exact ⟨w', E, by simp [execOp, q1], q2, hq⟩
theorem VL [tc : TC P T] {u : SVal} {ys : List (List Dat)} {mem' : List Blk} (h : Reg P F0 w0 dr ops K rest ⟨n, (d, .c (.arr r (ck + 1) m)) :: sl, mem', ck + 1, df⟩ (2 :: acc)) (hpos : 0 < ys.length) (hm : es.length + ys.length = m) (hsz : ∀ el ∈ es, el.length = ei.size) (hsy : ∀ el ∈ ys, el.length = ei.size) (hl : m ≤ maxLen) (hby : m * ei.bytes ≤ 140737488355328)
  (hw : GW ops g sl := by first | exact trivial | exact rfl) (hx : AH sl x = .c (.d (.ex es)) := by exact rfl) (hy : AH sl y = u := by exact (rfl : _ = SVal.c _)) (hs : Ft u = some ys := by exact rfl) (ht : T t = some i := by exact rfl) (hi : i.desc = .slice e := by exact rfl) (hei : T e = some ei := by exact rfl) (hk : (Nat.blt 0 ei.size && Nat.beq ei.zero.length ei.size) = true := by exact rfl) (hr : mem.length = r := by exact rfl) (hm' : mem ++ [.arr (ck + 1) e ei.size (es ++ ys)] = mem' := by exact rfl) :
  Reg P F0 w0 dr ops K (⟨some d, .call ⟨.builtin .append, #[x, y], #[t, t]⟩, ty, pos, aft, g⟩ :: rest) ⟨n, sl, mem, ck, df⟩ acc := by
 subst hm'; subst hr; subst hm
 refine Sj (df' := []) hw (Bx fun E w ρ hw' hρ => ?_) h
 have e1 := hρ x (by simp [Op.operands, Call.operands])
 have e2 := hρ y (by simp [Op.operands, Call.operands])
 rw [hx] at e1; rw [hy] at e2
 have hrep := LJ e2 hs
 have e1 := e1.d_inv
 simp only [Bi, QN, LG, Nat.blt, Sh] at hk
 have hu : P.underlying t = some (.slice e) := by have := (tc.ok t i ht).desc; rw [hi] at this; exact this
 have hall : ∀ el ∈ es ++ ys, el.length = ei.size := fun el hel => by
  rcases Ej.1 hel with q | q
  · exact hsz el q
  · exact hsy el q
 obtain ⟨a, ha⟩ := e1.ex_inv
 by_cases hne : es = []
 ·subst hne
  obtain ⟨v', w', cap, q1, q2, q3, q4, q5, q6, q7⟩ := ET tc.ok hw' (ty := ty) ht hi hei hk.2 hsy (by simpa using hl) (by simpa using hby) hrep a
  rw [List.length_nil] at ha
  have hq := hw'.newArr e ei.size cap ys hk.1 hsy q2 q3 q4 q5 q7
  refine ⟨v', w', _, by simp [execOp, resolve, invoke, builtin, ha, q1], hq.2, hq.1, .c (.arr mem.length (ck + 1) _ v' ?_ (by simp [Env.upd]) (fun _ => ?_))⟩
  · rcases q6 with ⟨_, b, rfl⟩ | ⟨_, rfl⟩ <;> rfl
  · rcases q6 with ⟨h5, b, rfl⟩ | ⟨h5, rfl⟩
    · exact .inl ⟨by simp [Env.upd, h5], by simp; omega, b, rfl⟩
    · exact .inr ⟨by simp [Env.upd]; exact h5, by simp [Env.upd]⟩
 ·have hney : ys ≠ [] := fun q => by rw [q] at hpos; simp at hpos
  obtain ⟨fi, z, hi1, hi2, hi3, hi4, hi5⟩ := (tc.ok e ei hei).info
  have hz : z.cells.size = ei.size := by rw [hi5]; simpa using hk.2
  have hz1 : ∀ v ∈ z.cells, v.oneCell' = true := fun v hv => (tc.ok e ei hei).ones v (by rw [hi5] at hv; simpa using hv)
  obtain ⟨b1, off1, cap1, olds, hv1, hol, hoc, ho1, hoflat⟩ := e1.ex_sl.flat hsz hne
  obtain ⟨b, off, cap, news, hv2, hnl, hnc, hn1, hflat⟩ := hrep.flat hsy hney
  rw [ha] at hv1
  injection hv1 with ha1 ha2 ha3
  subst ha1; subst ha3
  have hjl : (olds ++ news).length = (es.length + ys.length) * ei.size := by rw [CP, hol, hnl, EO]
  obtain ⟨gcap, hg, hge, hgm, c', hc1, hc2, hc0, hc3⟩ := C9 (w := w) (e := e) (old := es.length) hz hjl hl hz1 (fun v hv => by
    rcases Ej.1 hv with hv | hv
    · exact ho1 v hv
    · exact hn1 v hv)
  have h63 : ((es.length + ys.length : Nat) : Int) ≤ 9223372036854775807 := by simp only [maxLen] at hl; omega
  have hrun := run_append_grow (P := P) w t ty e fi z hu hi1 hi4 ⟨b1, off1, none⟩ es.length es.length olds (by rw [hi2]; exact hol) hoc ⟨b, off, none⟩ ys.length cap news (by rw [hi2]; exact hnl) hnc (by omega) h63 (by rw [hi3]; exact growslice_fits (by omega) hby)
  have happ : olds.toArray ++ news.toArray = (olds ++ news).toArray := by simp
  rw [happ, ← hg] at hrun
  have hnw := hw'.newArr (w' := w.drew.alloc (.cells ((olds ++ news).toArray ++ Builtin.zeroCells z.cells (gcap - (es.length + ys.length))) e)) e ei.size gcap (es ++ ys) hk.1 hall (by simp; omega) hgm (CD w _ hw'.le0) (fun i hi => by rw [Bel.heap_alloc w.drew _ i hi]; rfl)
    (.inr ⟨c', hc1, hc2, hc0, fun i j e' v' x' q1 q2 q3 => by
      exact Flat.join hol hsz hsy hnl hoflat hflat i j e' v' x' q1 q2 (by rw [← hc3]; simpa using q3)⟩)
  exact ⟨.slice (some ⟨w.heap.size, 0, none⟩) (es.length + ys.length) gcap, _, _, by simp [execOp, resolve, invoke, builtin, ha, hv2, hrun], hnw.2, hnw.1, .c (.arr mem.length (ck + 1) _ _ rfl (by simp [Env.upd]) (fun _ => .inr ⟨by simp [Env.upd]; omega, by simp [Env.upd]⟩))⟩
end
section
variable {P : Program} {T : TypeId → Option TI} {B : Base} {Q : Ex → St → Prop} {n : Nat} {sl : List (Nat × SVal)} {mem : List Blk} {ck : Nat} {df : List (FuncId × List Cell)}
theorem Rb (t : Nat) {cc : Nat} {m1 : List Blk} {c : Code} (h : ARun P B c ⟨n, (t, .c (.d (.ex es))) :: sl, m1, ck, df⟩ Q) (hm : mem[r]? = some (.arrc k ety esz es b cc)) (hl : es.length = m) (hc : cc = m) (ht : look sl t = .c (.arr r k m) := by exact rfl) (hm1 : mem.set r .dead = m1 := by exact rfl) : ARun P B c ⟨n, sl, mem, ck, df⟩ Q := by
 subst hm1; subst hl; subst hc
 rintro a w ⟨E, ⟨hw, hsz, hdf, hsl⟩, hle⟩
 have e1 : SRep E w (a.tmps.getD t undef) (.c (.arr r k es.length)) := by rw [← ht]; exact hsl t
 obtain ⟨o1, o2, o3⟩ := hw.mem.ok r _ hm
 have hwA := hw.toArr hm
 have hf := hwA.freeze r k ety esz es (BC hm)
 rw [WS] at hf
 refine h a w ⟨_, ⟨hf.1, hsz, hdf.le hf.2, EB (fun s => (hsl s).le hf.2) ?_⟩, hle.trans hf.2⟩
 have hv := D2 (F := fun i => E.F i ∨ (i = E.blk r ∧ E.cap r ≠ 0)) hwA (BC hm) (Nat.le_refl _) e1.cell_of (fun b hb => .inl hb) (fun hz => .inr ⟨rfl, hz⟩)
 rw [PK] at hv
 rcases e1.arr_inv o1.1 with ⟨q1, q2, q3, q4⟩ | ⟨q1, q2⟩
 ·rw [q4] at hv ⊢
  exact .c (.d hv.sl_ex)
 ·rw [q2, o2] at hv ⊢
  exact .c (.d hv.sl_ex)
end
def DLe (x y : Dat) : Prop := ∀ (F : Nat → Prop) (w : World) (v : Value), DRep F w v x → DRep F w v y
def DLs : List Dat → List Dat → Prop
 | [], [] => True
 | x :: xs, y :: ys => DLe x y ∧ DLs xs ys
 | _, _ => False
def PLe : PV → PV → Prop
 | .one x, .one y => DLe x y
 | .agg xs, .agg ys => DLs xs ys
 | _, _ => False
def PLs : List PV → List PV → Prop
 | [], [] => True
 | x :: xs, y :: ys => PLe x y ∧ PLs xs ys
 | _, _ => False
theorem DLe.rfl {x : Dat} : DLe x x := fun _ _ _ h => h
theorem DLe.ex (es : List (List Dat)) : DLe (.ex es) (.sl es) := fun _ _ _ h => h.ex_sl
theorem DLs.get : ∀ {xs ys : List Dat}, DLs xs ys → xs.length = ys.length ∧ ∀ (i : Nat) (y : Dat), ys[i]? = some y → ∃ x, xs[i]? = some x ∧ DLe x y
 | [], [], _ => ⟨_root_.rfl, by simp⟩
 | x :: xs, y :: ys, h => by
   obtain ⟨h1, h2⟩ := DLs.get h.2
   refine ⟨by simp [h1], fun i z hz => ?_⟩
   cases i with
   | zero => simp at hz; subst hz; exact ⟨x, _root_.rfl, h.1⟩
   | succ i => exact h2 i z (by simpa using hz)
 | [], _ :: _, h => h.elim
 | _ :: _, [], h => h.elim
theorem PLe.rep {p q : PV} (h : PLe p q) {E : Env} {w : World} (hv : SRep E w v p.s) : SRep E w v q.s := by
 cases p with
 | one x =>
   cases q with
   | one y => cases hv with | c hv => exact .c (.d (h _ _ _ hv.d_of))
   | agg ys => exact h.elim
 | agg xs =>
   cases q with
   | one y => exact h.elim
   | agg ys =>
     cases hv with | agg _ vs hl hd =>
     obtain ⟨h1, h2⟩ := DLs.get h
     refine .agg _ vs (by simp at hl ⊢; omega) (fun i v x hv hx => ?_)
     rw [B2] at hx
     cases hy : ys[i]? with
     | none => rw [hy] at hx; cases hx
     | some y =>
       rw [hy] at hx
       simp at hx
       subst hx
       obtain ⟨x, hx, hle⟩ := h2 i y hy
       have := hd i v (.d x) hv (by rw [B2, hx]; exact _root_.rfl)
       exact .d (hle _ _ _ this.d_of)
theorem PLs.get : ∀ {xs ys : List PV}, PLs xs ys → xs.length = ys.length ∧ ∀ (i : Nat) (y : PV), ys[i]? = some y → ∃ x, xs[i]? = some x ∧ PLe x y
 | [], [], _ => ⟨_root_.rfl, by simp⟩
 | x :: xs, y :: ys, h => by
   obtain ⟨h1, h2⟩ := PLs.get h.2
   refine ⟨by simp [h1], fun i z hz => ?_⟩
   cases i with
   | zero => simp at hz; subst hz; exact ⟨x, _root_.rfl, h.1⟩
   | succ i => exact h2 i z (by simpa using hz)
 | [], _ :: _, h => h.elim
 | _ :: _, [], h => h.elim
theorem PCall.args {P : Program} {f : FuncId} {aas bs : List PV} {r : PRes} (hp : PCall P f bs r) (ha : PLs aas bs) : PCall P f aas r := by
 obtain ⟨h1, h2⟩ := PLs.get ha
 refine ⟨hp.1, fun F w vs hF hl hv => hp.2 F w vs hF (by omega) fun i v x hi hx => ?_⟩
 obtain ⟨y, hy, hle⟩ := h2 i x hx
 exact hle.rep (hv i v y hi hy)
theorem PCall.res {P : Program} {f : FuncId} {aas : List PV} {x y : PV} (hp : PCall P f aas (.v x)) (ha : PLe x y) : PCall P f aas (.v y) := by
 refine ⟨hp.1, fun F w vs hF hl hv => Calls.mono (hp.2 F w vs hF hl hv) fun e w' he => ?_⟩
 obtain ⟨v, h1, h2, h3⟩ := he
 exact ⟨v, h1, h2, ha.rep h3⟩
end Go.Abs
end
