/-
  Data whose capacity is their length: made, filled, handed on, appended to.
-/
import Derived.Test.YtmpgmjlanngkfaaGreatArx
import Derived.Test.YtmpgmjlanngkfaaGreatTab
section
namespace Go.Abs
open Go.RowKit
variable {b esz k m r : Nat} {e ety t : TypeId} {ei i : TI} {es : List (List Dat)} {v : Value} {x y : Operand}
section
variable {F : Nat → Prop} {w : World}
theorem DRep.ex_sl (h : DRep F w v (.ex es)) : DRep F w v (.sl es) := by
 cases h with
 | exn a => exact .emp a 0
 | ex _ b off size u hF hmax hsz hc hd => exact .sl es b off es.length size u hF (Nat.le_refl _) hmax hsz hc hd
theorem DRep.sl_ex {a : Option Addr} (h : DRep F w (.slice a m m) (.sl es)) : DRep F w (.slice a m m) (.ex es) := by
 cases h with
 | emp a cap => exact .exn a
 | sl _ b off cap size u hF hcap hmax hsz hc hd => exact .ex es b off size u hF hmax hsz hc hd
theorem DRep.ex_inv (h : DRep F w v (.ex es)) : ∃ a, v = .slice a es.length es.length := by
 cases h with
 | exn a => exact ⟨a, rfl⟩
 | ex _ b off size u hF hmax hsz hc hd => exact ⟨_, rfl⟩
end
section
variable {P : Program} {T : TypeId → Option TI} {F0 : Nat → Prop} {w0 : World}
variable {dr : Bool} {ops rest : List Oper} {K : St → Prop} {n : Nat} {sl : List (Nat × SVal)} {mem : List Blk} {ck : Nat} {df : List (FuncId × List Cell)} {acc : List Nat}
variable {d : Tmp} {op : Op} {ty : TypeId} {pos : String} {aft : Array Edge} {g : Option (Nat × Bool)}
theorem UN (h : Reg P F0 w0 dr ops K rest ⟨n, (d, .c (.d (.sl es))) :: sl, mem, ck, df⟩ (0 :: acc)) (hw : GW ops g sl := by first | exact trivial | exact rfl) (hx : AO sl x = .c (.d (.ex es)) := by exact rfl) :
  Reg P F0 w0 dr ops K (⟨some d, .move x, ty, pos, aft, g⟩ :: rest) ⟨n, sl, mem, ck, df⟩ acc :=
 Gw hw (HH fun E w ρ hρ => by
  have e1 := hρ x (by simp [Op.operands])
  rw [hx] at e1
  exact ⟨ρ x, by simp [execOp], .c (.d e1.d_inv.ex_sl)⟩) h
theorem UO [tc : TC P T] {l c : Operand} {k k' : IntKind} {z : Int} {zd : List Dat}
  (h : ∀ b, Reg P F0 w0 dr ops K rest ⟨n, (d, .c (.arr mem.length (ck + 1) m)) :: sl, mem ++ [.arrc (ck + 1) e ei.size (List.replicate m zd) b m], ck + 1, df⟩ (2 :: acc)) (h0 : 0 ≤ z) (hm : z.toNat = m) (hmx : z ≤ 9223372036854775807) (hby : (ei.bytes : Int) * z ≤ 140737488355328) (hzd : DF (ei.zero.map BP) = some zd) (hdr : dr = false := by exact rfl) (hw : GW ops g sl := by first | exact trivial | exact rfl)
  (hl : AO sl l = .c (.d (.lit (.int k z))) := by exact rfl) (hc : AO sl c = .c (.d (.lit (.int k' z))) := by exact rfl) (ht : T t = some i := by exact rfl) (hi : i.desc = .slice e := by exact rfl) (hei : T e = some ei := by exact rfl) (hk : (Nat.blt 0 ei.size && Nat.beq ei.zero.length ei.size) = true := by exact rfl) :
  Reg P F0 w0 dr ops K (⟨some d, .makeSlice t l c, ty, pos, aft, g⟩ :: rest) ⟨n, sl, mem, ck, df⟩ acc := by
 subst hm
 refine UU (R := fun v m' c' df' => (∃ b, v = .c (.arr mem.length (ck + 1) z.toNat) ∧ m' = mem ++ [.arrc (ck + 1) e ei.size (List.replicate z.toNat zd) b z.toNat] ∧ c' = ck + 1) ∧ df' = []) hdr hw (Qt fun E w ρ hw' hρ => ?_) ?_
 ·have e1 := hρ l (by simp [Op.operands])
  have e2 := hρ c (by simp [Op.operands])
  rw [hl] at e1; rw [hc] at e2
  have e1 := e1.lit_inv
  have e2 := e2.lit_inv
  simp only [BO, PS, KM, Nat.blt, QI] at hk
  have hu : P.underlying t = some (.slice e) := by have := (tc.ok t i ht).desc; rw [hi] at this; exact this
  obtain ⟨fi, zv, hi1, hi2, hi3, hi4, hi5⟩ := (tc.ok e ei hei).info
  have hr := run_make (P := P) w t e fi zv hu hi1 hi4 k k' z z h0 (Int.le_refl _) (by rw [hi3]; omega) hmx
  rw [hi2] at hr
  have hzlen := Dh hzd
  have hzs : zv.cells.size = ei.size := by rw [hi5]; simpa using hk.2
  have hn := hw'.newArr (w' := w.alloc (.cells (madeCells zv.cells (z.toNat * ei.size)) e)) e ei.size z.toNat (List.replicate z.toNat zd) hk.1 (fun e' he' => by rw [ZW he', hzlen]; simpa using hk.2) (by simp) (by simp [maxLen]; omega)
    ((Bel.refl _ w).alloc hw'.le0 _) (fun i hi => Bel.heap_alloc w _ i hi) (.inr ⟨_, RV w _, by simp [size_madeCells], fun v hv => (tc.ok e ei hei).ones v (by have := EO (by omega) hv; rw [hi5] at this; simpa using this), fun i j e' v x q1 q2 q3 => by
      have hi := lt_of_getElem? q1
      simp only [Jh] at hi
      rw [Yf, if_pos hi] at q1
      simp only [Option.some.injEq] at q1
      subst q1
      have hj := lt_of_getElem? q2
      rw [hzlen] at hj
      simp only [BT, hk.2] at hj
      have hlt : i * ei.size + j < z.toNat * ei.size := by
       have : (i + 1) * ei.size ≤ z.toNat * ei.size := FO _ (by omega)
       rw [Ff, HQ] at this
       omega
      have hmod : (i * ei.size + j) % ei.size = j := by rw [MB, Nat.mul_add_mod, Wt hj]
      have hget : (madeCells zv.cells (z.toNat * ei.size))[i * ei.size + j]? = zv.cells[j]? := by
       unfold madeCells
       rw [ZK]
       have hjs : j < zv.cells.size := by rw [hzs]; exact hj
       simp only [Array.getElem?_range, hlt, if_true, Option.map_some, hzs, hmod]
       rw [getElem!_pos zv.cells j hjs, I0 hjs]
      rw [hget, hi5] at q3
      exact Di (E := E) (v := v) hzd (fun y hy => Ee (tc.ok e ei hei) j v y q3 hy) q2⟩)
  have hr2 : (mem ++ [Blk.arr (ck + 1) e ei.size (List.replicate z.toNat zd)])[mem.length]? = some (.arr (ck + 1) e ei.size (List.replicate z.toNat zd)) := by simp
  have hq := hn.1.toArrc hr2
  simp only [Env.upd, if_true] at hq
  rw [show (mem ++ [Blk.arr (ck + 1) e ei.size (List.replicate z.toNat zd)]).set mem.length (.arrc (ck + 1) e ei.size (List.replicate z.toNat zd) w.heap.size z.toNat) = mem ++ [.arrc (ck + 1) e ei.size (List.replicate z.toNat zd) w.heap.size z.toNat] by simp] at hq
  refine ⟨.slice (some ⟨w.heap.size, 0, none⟩) z.toNat z.toNat, _, _, _, _, _, by simp [execOp, e1, e2, hr], hn.2, hq, .c (.arr mem.length (ck + 1) z.toNat _ rfl (by simp [Env.upd]) (fun _ => ?_)), w.heap.size, rfl, rfl, rfl⟩
  rcases Ud z.toNat with hm0 | hm0
  · exact .inl ⟨by simp [Env.upd, hm0], hm0, some ⟨w.heap.size, 0, none⟩, by rw [hm0]⟩
  · exact .inr ⟨by simp [Env.upd]; omega, by simp [Env.upd]⟩
 ·rintro v m' c' df' ⟨⟨b, rfl, rfl, rfl⟩, rfl⟩
  exact h b
theorem SA [tc : TC P T] {kk : IntKind} {z : Int} {c : Nat} (h : Reg P F0 w0 dr ops K rest ⟨n, (d, .c (.ap r k ei.size z.toNat 0)) :: sl, mem, ck, df⟩ (1 :: acc)) (hz : 0 ≤ z) (hzm : z < (m : Int)) (hm : mem[r]? = some (.arrc k ety esz es b c)) (hw : GW ops g sl := by first | exact trivial | exact rfl)
  (hx : AO sl x = .c (.arr r k m) := by exact rfl) (hy : AO sl y = .c (.d (.lit (.int kk z))) := by exact rfl) (ht : T t = some i := by exact rfl) (hi : i.desc = .slice e := by exact rfl) (hei : T e = some ei := by exact rfl) :
  Reg P F0 w0 dr ops K (⟨some d, .indexAddr t x y, ty, pos, aft, g⟩ :: rest) ⟨n, sl, mem, ck, df⟩ acc := by
 refine Ez hw hm (fun mem ck hm => B6 fun E w ρ hw' hρ => ?_) h
 have e1 := hρ x (by simp [Op.operands])
 have e2 := hρ y (by simp [Op.operands])
 rw [hx] at e1; rw [hy] at e2
 have e2 := e2.lit_inv
 obtain ⟨⟨o1, o2, o3, o4, o5, o6⟩, _, _⟩ := hw'.mem.ok r _ hm
 have hu : P.underlying t = some (.slice e) := by have := (tc.ok t i ht).desc; rw [hi] at this; exact this
 have hsz := (tc.ok e ei hei).sizeOf (w := w)
 rcases e1.arr_inv o1 with ⟨_, q, _⟩ | ⟨hcp, hq⟩
 ·omega
 refine ⟨.pointer (some ⟨E.blk r, z.toNat * ei.size, none⟩), w, E, ?_, EnvLe.refl _ _, hw', .c (.ap r k ei.size z.toNat 0 _ rfl (by omega) (fun _ => rfl))⟩
 simp [execOp, e2, hq, Instr.indexAt, asIntOf, run_underlying hu, hz, hzm, hsz, Addr.add_lit]
theorem Nw [tc : TC P T] {j o c : Nat} {es' : List (List Dat)} {e e' : List Dat} {v : SVal} {cs : List Cell} {ds : List Dat} {mem' : List Blk} (h : Reg P F0 w0 dr ops K rest ⟨n, sl, mem', ck, df⟩ (2 :: acc)) (hm : mem[r]? = some (.arrc k ety esz es b c)) (hj : es[j]? = some e) (hw : GW ops g sl := by first | exact trivial | exact rfl) (hx : AO sl x = .c (.ap r k esz j o) := by exact rfl) (hy : AO sl y = v := by first | exact (rfl : _ = SVal.c _) | exact (rfl : _ = SVal.agg _) | exact rfl) (hc : v.cells = some cs := by exact rfl) (hds : DF cs = some ds := by exact rfl) (ht : T t = some i := by exact rfl) (hl : cs.length = i.size := by exact rfl) (hs : decide (o + i.size ≤ esz) = true := by exact rfl) (he' : e.take o ++ ds ++ e.drop (o + i.size) = e' := by exact rfl) (hes : es.set j e' = es' := by exact rfl) (hm' : mem.set r (.arrc k ety esz es' b c) = mem' := by exact rfl) :
  Reg P F0 w0 dr ops K (⟨none, .store t x y, ty, pos, aft, g⟩ :: rest) ⟨n, sl, mem, ck, df⟩ acc := by
 subst hm'; subst hes; subst he'
 refine NH (df' := []) hw (Qu fun E w ρ hw' hρ => ?_) h
 have e1 := hρ x (by simp [Op.operands])
 have e2 := hρ y (by simp [Op.operands])
 rw [hx] at e1; rw [hy] at e2
 obtain ⟨_, o7, o8⟩ := hw'.mem.ok r _ hm
 have hla : EM T ⟨0, [], mem.set r (.arr k ety esz es), ck, []⟩ t (.c (.ap r k esz j o)) v fun τ => τ.mem = mem.set r (.arr k ety esz (es.set j (e.take o ++ ds ++ e.drop (o + i.size)))) := by
  simp only [EM, ht, hc, Ej hm, hds]
  exact ⟨hl, trivial, trivial, by simpa using hs, Ct hj (by simp)⟩
 obtain ⟨w', mem', q1, q2, q3, q4⟩ := MN (P := P) tc.ok (σ := ⟨0, [], mem.set r (.arr k ety esz es), ck, []⟩) (hw'.toArr hm) e1 e2 hla
 simp only at q4
 subst q4
 have hr2 : (mem.set r (Blk.arr k ety esz (es.set j (e.take o ++ ds ++ e.drop (o + i.size)))))[r]? = some (.arr k ety esz (es.set j (e.take o ++ ds ++ e.drop (o + i.size)))) := Ej hm
 have hq := q3.toArrc hr2
 rw [List.set_set, o7, o8] at hq
 exact ⟨w', E, by simp [execOp, q1], q2, hq⟩
theorem UP [tc : TC P T] {u : SVal} {ys : List (List Dat)} {mem' : List Blk} (h : Reg P F0 w0 dr ops K rest ⟨n, (d, .c (.arr r (ck + 1) m)) :: sl, mem', ck + 1, df⟩ (2 :: acc)) (hpos : 0 < ys.length) (hm : es.length + ys.length = m) (hsz : ∀ el ∈ es, el.length = ei.size) (hsy : ∀ el ∈ ys, el.length = ei.size) (hl : m ≤ maxLen) (hby : m * ei.bytes ≤ 140737488355328)
  (hw : GW ops g sl := by first | exact trivial | exact rfl) (hx : AO sl x = .c (.d (.ex es)) := by exact rfl) (hy : AO sl y = u := by exact (rfl : _ = SVal.c _)) (hs : FQ u = some ys := by exact rfl) (ht : T t = some i := by exact rfl) (hi : i.desc = .slice e := by exact rfl) (hei : T e = some ei := by exact rfl) (hk : (Nat.blt 0 ei.size && Nat.beq ei.zero.length ei.size) = true := by exact rfl) (hr : mem.length = r := by exact rfl) (hm' : mem ++ [.arr (ck + 1) e ei.size (es ++ ys)] = mem' := by exact rfl) :
  Reg P F0 w0 dr ops K (⟨some d, .call ⟨.builtin .append, #[x, y], #[t, t]⟩, ty, pos, aft, g⟩ :: rest) ⟨n, sl, mem, ck, df⟩ acc := by
 subst hm'; subst hr; subst hm
 refine RS (df' := []) hw (B6 fun E w ρ hw' hρ => ?_) h
 have e1 := hρ x (by simp [Op.operands, Call.operands])
 have e2 := hρ y (by simp [Op.operands, Call.operands])
 rw [hx] at e1; rw [hy] at e2
 have hrep := LM e2 hs
 have e1 := e1.d_inv
 simp only [BO, PS, KM, Nat.blt, QI] at hk
 have hu : P.underlying t = some (.slice e) := by have := (tc.ok t i ht).desc; rw [hi] at this; exact this
 have hall : ∀ el ∈ es ++ ys, el.length = ei.size := fun el hel => by
  rcases Gn.1 hel with q | q
  · exact hsz el q
  · exact hsy el q
 obtain ⟨a, ha⟩ := e1.ex_inv
 by_cases hne : es = []
 ·subst hne
  obtain ⟨v', w', cap, q1, q2, q3, q4, q5, q6, q7⟩ := Fj tc.ok hw' (ty := ty) ht hi hei hk.2 hsy (by simpa using hl) (by simpa using hby) hrep a
  rw [List.length_nil] at ha
  have hq := hw'.newArr e ei.size cap ys hk.1 hsy q2 q3 q4 q5 q7
  refine ⟨v', w', _, by simp [execOp, resolve, invoke, builtin, ha, q1], hq.2, hq.1, .c (.arr mem.length (ck + 1) _ v' ?_ (by simp [Env.upd]) (fun _ => ?_))⟩
  · rcases q6 with ⟨_, b, rfl⟩ | ⟨_, rfl⟩ <;> rfl
  · rcases q6 with ⟨h5, b, rfl⟩ | ⟨h5, rfl⟩
    · exact .inl ⟨by simp [Env.upd, h5], by simp; omega, b, rfl⟩
    · exact .inr ⟨by simp [Env.upd]; exact h5, by simp [Env.upd]⟩
 ·have hney : ys ≠ [] := fun q => by rw [q] at hpos; simp at hpos
  obtain ⟨fi, z, hi1, hi2, hi3, hi4, hi5⟩ := (tc.ok e ei hei).info
  have hz : z.cells.size = ei.size := by rw [hi5]; simpa using hk.2
  have hz1 : ∀ v ∈ z.cells, v.oneCell' = true := fun v hv => (tc.ok e ei hei).ones v (by rw [hi5] at hv; simpa using hv)
  obtain ⟨b1, off1, cap1, olds, hv1, hol, hoc, ho1, hoflat⟩ := e1.ex_sl.flat hsz hne
  obtain ⟨b, off, cap, news, hv2, hnl, hnc, hn1, hflat⟩ := hrep.flat hsy hney
  rw [ha] at hv1
  injection hv1 with ha1 ha2 ha3
  subst ha1; subst ha3
  have hjl : (olds ++ news).length = (es.length + ys.length) * ei.size := by rw [Dg, hol, hnl, Ff]
  obtain ⟨gcap, hg, hge, hgm, c', hc1, hc2, hc0, hc3⟩ := DH (w := w) (e := e) (old := es.length) hz hjl hl hz1 (fun v hv => by
    rcases Gn.1 hv with hv | hv
    · exact ho1 v hv
    · exact hn1 v hv)
  have h63 : ((es.length + ys.length : Nat) : Int) ≤ 9223372036854775807 := by simp only [maxLen] at hl; omega
  have hrun := run_append_grow (P := P) w t ty e fi z hu hi1 hi4 ⟨b1, off1, none⟩ es.length es.length olds (by rw [hi2]; exact hol) hoc ⟨b, off, none⟩ ys.length cap news (by rw [hi2]; exact hnl) hnc (by omega) h63 (by rw [hi3]; exact growslice_fits (by omega) hby)
  have happ : olds.toArray ++ news.toArray = (olds ++ news).toArray := by simp
  rw [happ, ← hg] at hrun
  have hnw := hw'.newArr (w' := w.drew.alloc (.cells ((olds ++ news).toArray ++ Builtin.zeroCells z.cells (gcap - (es.length + ys.length))) e)) e ei.size gcap (es ++ ys) hk.1 hall (by simp; omega) hgm (Dj w _ hw'.le0) (fun i hi => by rw [Bel.heap_alloc w.drew _ i hi]; rfl)
    (.inr ⟨c', hc1, hc2, hc0, fun i j e' v' x' q1 q2 q3 => by
      exact Flat.join hol hsz hsy hnl hoflat hflat i j e' v' x' q1 q2 (by rw [← hc3]; simpa using q3)⟩)
  exact ⟨.slice (some ⟨w.heap.size, 0, none⟩) (es.length + ys.length) gcap, _, _, by simp [execOp, resolve, invoke, builtin, ha, hv2, hrun], hnw.2, hnw.1, .c (.arr mem.length (ck + 1) _ _ rfl (by simp [Env.upd]) (fun _ => .inr ⟨by simp [Env.upd]; omega, by simp [Env.upd]⟩))⟩
end
section
variable {P : Program} {T : TypeId → Option TI} {B : Base} {Q : Ex → St → Prop} {n : Nat} {sl : List (Nat × SVal)} {mem : List Blk} {ck : Nat} {df : List (FuncId × List Cell)}
theorem Q5 (t : Nat) {cc : Nat} {m1 : List Blk} {c : Code} (h : ARun P B c ⟨n, (t, .c (.d (.ex es))) :: sl, m1, ck, df⟩ Q) (hm : mem[r]? = some (.arrc k ety esz es b cc)) (hl : es.length = m) (hc : cc = m) (ht : look sl t = .c (.arr r k m) := by exact rfl) (hm1 : mem.set r .dead = m1 := by exact rfl) : ARun P B c ⟨n, sl, mem, ck, df⟩ Q := by
 subst hm1; subst hl; subst hc
 rintro a w ⟨E, ⟨hw, hsz, hdf, hsl⟩, hle⟩
 have e1 : SRep E w (a.tmps.getD t undef) (.c (.arr r k es.length)) := by rw [← ht]; exact hsl t
 obtain ⟨o1, o2, o3⟩ := hw.mem.ok r _ hm
 have hwA := hw.toArr hm
 have hf := hwA.freeze r k ety esz es (Ej hm)
 rw [List.set_set] at hf
 refine h a w ⟨_, ⟨hf.1, hsz, hdf.le hf.2, D7 (fun s => (hsl s).le hf.2) ?_⟩, hle.trans hf.2⟩
 have hv := EC (F := fun i => E.F i ∨ (i = E.blk r ∧ E.cap r ≠ 0)) hwA (Ej hm) (Nat.le_refl _) e1.cell_of (fun b hb => .inl hb) (fun hz => .inr ⟨rfl, hz⟩)
 rw [PQ] at hv
 rcases e1.arr_inv o1.1 with ⟨q1, q2, q3, q4⟩ | ⟨q1, q2⟩
 ·rw [q4] at hv ⊢
  exact .c (.d hv.sl_ex)
 ·rw [q2, o2] at hv ⊢
  exact .c (.d hv.sl_ex)
end
def DLe (x y : Dat) : Prop := ∀ (F : Nat → Prop) (w : World) (v : Value), DRep F w v x → DRep F w v y
def DLs : List Dat → List Dat → Prop
 | [], [] => True
 | x :: xs, y :: ys => DLe x y ∧ DLs xs ys
 | _, _ => False
def PLe : PV → PV → Prop
 | .one x, .one y => DLe x y
 | .agg xs, .agg ys => DLs xs ys
 | _, _ => False
def PLs : List PV → List PV → Prop
 | [], [] => True
 | x :: xs, y :: ys => PLe x y ∧ PLs xs ys
 | _, _ => False
theorem DLe.rfl {x : Dat} : DLe x x := fun _ _ _ h => h
theorem DLe.ex (es : List (List Dat)) : DLe (.ex es) (.sl es) := fun _ _ _ h => h.ex_sl
theorem DLs.get : ∀ {xs ys : List Dat}, DLs xs ys → xs.length = ys.length ∧ ∀ (i : Nat) (y : Dat), ys[i]? = some y → ∃ x, xs[i]? = some x ∧ DLe x y
 | [], [], _ => ⟨_root_.rfl, by simp⟩
 | x :: xs, y :: ys, h => by
   obtain ⟨h1, h2⟩ := DLs.get h.2
   refine ⟨by simp [h1], fun i z hz => ?_⟩
   cases i with
   | zero => simp at hz; subst hz; exact ⟨x, _root_.rfl, h.1⟩
   | succ i => exact h2 i z (by simpa using hz)
 | [], _ :: _, h => h.elim
 | _ :: _, [], h => h.elim
theorem PLe.rep {p q : PV} (h : PLe p q) {E : Env} {w : World} (hv : SRep E w v p.s) : SRep E w v q.s := by
 cases p with
 | one x =>
   cases q with
   | one y => cases hv with | c hv => exact .c (.d (h _ _ _ hv.d_of))
   | agg ys => exact h.elim
 | agg xs =>
   cases q with
   | one y => exact h.elim
   | agg ys =>
     cases hv with | agg _ vs hl hd =>
     obtain ⟨h1, h2⟩ := DLs.get h
     refine .agg _ vs (by simp at hl ⊢; omega) (fun i v x hv hx => ?_)
     rw [Ci] at hx
     cases hy : ys[i]? with
     | none => rw [hy] at hx; cases hx
     | some y =>
       rw [hy] at hx
       simp at hx
       subst hx
       obtain ⟨x, hx, hle⟩ := h2 i y hy
       have := hd i v (.d x) hv (by rw [Ci, hx]; exact _root_.rfl)
       exact .d (hle _ _ _ this.d_of)
theorem PLs.get : ∀ {xs ys : List PV}, PLs xs ys → xs.length = ys.length ∧ ∀ (i : Nat) (y : PV), ys[i]? = some y → ∃ x, xs[i]? = some x ∧ PLe x y
 | [], [], _ => ⟨_root_.rfl, by simp⟩
 | x :: xs, y :: ys, h => by
   obtain ⟨h1, h2⟩ := PLs.get h.2
   refine ⟨by simp [h1], fun i z hz => ?_⟩
   cases i with
   | zero => simp at hz; subst hz; exact ⟨x, _root_.rfl, h.1⟩
   | succ i => exact h2 i z (by simpa using hz)
 | [], _ :: _, h => h.elim
 | _ :: _, [], h => h.elim
theorem PCall.args {P : Program} {f : FuncId} {aas bs : List PV} {r : PRes} (hp : PCall P f bs r) (ha : PLs aas bs) : PCall P f aas r := by
 obtain ⟨h1, h2⟩ := PLs.get ha
 refine ⟨hp.1, fun F w vs hF hl hv => hp.2 F w vs hF (by omega) fun i v x hi hx => ?_⟩
 obtain ⟨y, hy, hle⟩ := h2 i x hx
 exact hle.rep (hv i v y hi hy)
theorem PCall.res {P : Program} {f : FuncId} {aas : List PV} {x y : PV} (hp : PCall P f aas (.v x)) (ha : PLe x y) : PCall P f aas (.v y) := by
 refine ⟨hp.1, fun F w vs hF hl hv => Calls.mono (hp.2 F w vs hF hl hv) fun e w' he => ?_⟩
 obtain ⟨v, h1, h2, h3⟩ := he
 exact ⟨v, h1, h2, ha.rep h3⟩
end Go.Abs
end
