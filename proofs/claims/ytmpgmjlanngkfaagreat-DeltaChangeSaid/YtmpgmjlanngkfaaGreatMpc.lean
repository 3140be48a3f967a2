/-
  Maps whose order is not looked at: of data, and of the call's own slices.
-/
import Derived.Test.YtmpgmjlanngkfaaGreatArc
section
namespace Go.Abs
open Go.RowKit
variable {A : Array MapEntry} {G : Value → Prop} {bs : List Nat} {c i k r : Nat} {es : List (Value × Dat)} {kt kA t vt kB : TypeId} {kv : Value} {m1 f' : List Blk} {p : Dat} {s : SVal} {x y z : Operand}
def IQ (es : List (Value × Dat)) : List (Value × PV) := es.map fun e => (e.1, PV.one e.2)
theorem SRep.cell_of {E : Env} {w : World} {v : Value} {x : Cell} (h : SRep E w v (.c x)) : CRep E w v x := by cases h; assumption
theorem FF {x : Dat} (h : es[i]? = some (kv, x)) : (IQ es)[i]? = some (kv, .one x) := by simp [IQ, h]
theorem Cu {p : Value → Prop} (h : ∀ e ∈ es, p e.1) : ∀ e ∈ IQ es, p e.1 := fun e he => by
 obtain ⟨x, hx, rfl⟩ := List.mem_map.1 he
 exact h x hx
theorem Xc (es : List (Value × Dat)) (i : Nat) (kv : Value) (x : Dat) : (IQ es).set i (kv, .one x) = IQ (es.set i (kv, x)) := by simp [IQ, Sb]
theorem Uz (es : List (Value × Dat)) (kv : Value) (x : Dat) : IQ es ++ [(kv, .one x)] = IQ (es ++ [(kv, x)]) := by simp [IQ]
section
variable {P : Program} {F0 : Nat → Prop} {w0 w : World} {E : Env} {mem : List Blk} {ck : Nat}
theorem WOk.toMap (h : WOk F0 w0 E w mem ck) (hr : mem[r]? = some (.mapb k kt vt es)) : ∃ bs c, WOk F0 w0 E w (mem.set r (.map k kt vt (IQ es) bs c)) ck := by
 obtain ⟨h1, h2, h3, A, bs, c, h4, h5⟩ := h.mem.ok r _ hr
 exact ⟨bs, c, h.swap r _ _ hr (fun _ => trivial) ⟨h1, h2, h3, A, h4, h5⟩⟩
theorem WOk.toMapb (h : WOk F0 w0 E w mem ck) (hr : mem[r]? = some (.map k kt vt (IQ es) bs c)) : WOk F0 w0 E w (mem.set r (.mapb k kt vt es)) ck := by
 obtain ⟨h1, h2, h3, A, h4, h5⟩ := h.mem.ok r _ hr
 exact h.swap r _ _ hr (fun _ => trivial) ⟨h1, h2, h3, A, bs, c, h4, h5⟩
theorem WOk.toMapc (h : WOk F0 w0 E w mem ck) (hr : mem[r]? = some (.map k kt vt [] bs c)) : WOk F0 w0 E w (mem.set r (.mapc k kt vt [])) ck := by
 obtain ⟨h1, h2, h3, A, h4, q1, q2, q3, q0, q4, q5⟩ := h.mem.ok r _ hr
 exact h.swap r _ _ hr (fun _ => trivial) ⟨h1, h2, h3, A, bs, c, h4, q1, q2, q3, List.nodup_nil, q4, fun i m hm => by
  have h1 := (Ox.1 hm).1
  have h2 : A.size = 0 := q1
  omega⟩
theorem McOk.look {es : List (Value × Cell)} (h : McOk E w es bs c A) {p : Cell} (hi : es[i]? = some (kv, p)) :
  ∃ m, A[i]? = some m ∧ m.key = kv ∧ CRep E w m.val p ∧ findE kv A.toList 0 = some (i, m.val) := by
 obtain ⟨h1, h2, h3, h0, h4, h5⟩ := h
 have i7 := lt_of_getElem? hi
 have hm : A[i]? = some (A[i]'(by omega)) := LZ _
 obtain ⟨q1, p', q2, q3⟩ := h5 i _ hm
 rw [hi] at q2
 simp only [Option.some.injEq, HK] at q2
 obtain ⟨q4, q5⟩ := q2
 subst q5
 refine ⟨_, hm, q4.symm, q3, ?_⟩
 have := Ij (k := kv) (es := A.toList) (i := 0) (j := i) (e := A[i]'(by omega)) (by rw [LV]; exact hm) q4.symm (fun l e' hl he => by
  obtain ⟨_, p2, q6, _⟩ := h5 l e' (by rw [← LV]; exact he)
  intro q
  have hp := XQ.1 h0 l i (by simp; omega) (by simpa using i7) hl
  apply hp
  have jk := lt_of_getElem? q6
  rw [Bo jk] at q6
  rw [Bo i7] at hi
  simp only [Option.some.injEq] at q6 hi
  simp only [List.getElem_map, q6, hi, q])
 simpa using this
theorem McOk.not {es : List (Value × Cell)} (h : McOk E w es bs c A) (hn : ∀ e ∈ es, e.1 ≠ kv) : findE kv A.toList 0 = none := by
 refine Ii fun e he => ?_
 obtain ⟨i, hi⟩ := L0.1 he
 obtain ⟨_, p, q, _⟩ := h.2.2.2.2.2 i e (by rw [← LV]; exact hi)
 exact fun q' => hn _ (Cb q) q'.symm
theorem McOk.good {es : List (Value × Cell)} (h : McOk E w es bs c A) (hg : ∀ e ∈ es, G e.1) : ∀ e ∈ A.toList, G e.key := by
 intro e he
 obtain ⟨i, hi⟩ := L0.1 he
 obtain ⟨_, p, q, _⟩ := h.2.2.2.2.2 i e (by rw [← LV]; exact hi)
 exact hg _ (Cb q)
def eW (mem : List Blk) (base : Nat) : Cell → Dat → Prop
 | .arr r k n, y => base ≤ r ∧ ∃ t z es, mem[r]? = some (.arr k t z es) ∧ n ≤ es.length ∧ y = .sl (es.take n)
 | c, y => c.dat = some y
def M1 (E : Env) (mem : List Blk) (base : Nat) : Env :=
 { E with F := fun b => E.F b ∨ ∃ r k t z es, base ≤ r ∧ mem[r]? = some (.arr k t z es) ∧ E.cap r ≠ 0 ∧ b = E.blk r }
theorem WOk.thaw (h : WOk F0 w0 E w mem ck) (base : Nat) : WOk F0 w0 (M1 E mem base) w (mem.take base) ck ∧ EnvLe E w (M1 E mem base) w ∧ ∀ c y v, eW mem base c y → CRep E w v c → DRep (M1 E mem base).F w v y := by
 have hle : EnvLe E w (M1 E mem base) w := ⟨fun _ hk => .inl hk, fun _ _ => rfl, fun _ => Nat.le_refl _, fun _ _ => ⟨rfl, rfl⟩, fun _ hk => ⟨hk, rfl⟩⟩
 have jG : ∀ {r k t z es}, mem[r]? = some (.arr k t z es) → E.cap r ≠ 0 → E.blk r < w.heap.size ∧ w0.heap.size ≤ E.blk r ∧ ¬ (E.F (E.blk r) ∨ E.N (E.blk r)) := fun hr hz => (h.mem.ok _ _ hr).lt hz
 have ju : ∀ {s : Nat} {x : Blk}, (mem.take base)[s]? = some x → s < base ∧ mem[s]? = some x := fun hx => by
  rw [Mc] at hx
  split at hx
  ·exact ⟨by assumption, hx⟩
  ·cases hx
 refine ⟨⟨h.below, fun k hk => .inl (h.base k hk), fun i hi => ?_, ⟨h.mem.clock, fun s x hx => ?_, fun s s' x x' hx kL h1 h2 j2 => ?_⟩, fun k hk => ⟨(h.N k hk).1, ?_⟩⟩, hle, fun c y v hc hv => ?_⟩
 ·rcases hi with hi | ⟨r, k, t, z, es, _, hr, hz, rfl⟩
  ·exact h.F i hi
  ·have := jG hr hz
   exact ⟨this.1, .inr this.2.1⟩
 ·obtain ⟨hs, jj⟩ := ju hx
  have ho := h.mem.ok s x jj
  refine ho.le hle (fun _ => rfl) (fun _ => rfl) fun hh => ?_
  rintro ((hk | ⟨r, k, t, z, es, hb, hr, hz, hq⟩) | hk)
  ·exact (ho.lt hh).2.2 (.inl hk)
  ·exact h.mem.apart s r x _ jj hr hh (show Blk.has E r (.arr k t z es) from hz) (by omega) hq
  ·exact (ho.lt hh).2.2 (.inr hk)
 ·refine h.mem.apart s s' x x' (ju hx).2 (ju kL).2 ?_ ?_ j2
  ·cases x <;> exact h1
  ·cases x' <;> exact h2
 ·rintro (hf | ⟨r, k', t, z, es, _, hr, hz, rfl⟩)
  ·exact (h.N k hk).2 hf
  ·exact (jG hr hz).2.2 (.inr hk)
 ·unfold eW at hc
  split at hc
  ·obtain ⟨hb, t, z, es, hr, hn, rfl⟩ := hc
   exact Ek h hr hn hv (fun b hb => .inl hb) fun hz => .inr ⟨_, _, _, _, _, hb, hr, hz, rfl⟩
  ·exact (hv.dat hc).mono (fun _ hk => .inl hk) (fun _ _ => rfl)
end
section
variable {P : Program} {T : TypeId → Option TI} {F0 : Nat → Prop} {w0 : World}
variable {dr : Bool} {ops rest : List Oper} {K : St → Prop} {n : Nat} {sl : List (Nat × SVal)} {mem : List Blk} {ck : Nat} {df : List (FuncId × List Cell)} {acc : List Nat}
variable {d : Tmp} {op : Op} {ty : TypeId} {pos : String} {iU : Array Edge} {g : Option (Nat × Bool)}
theorem DI [tc : TC P T] (r : Nat) {i : TI} {cs : List Cell} (h : Reg P F0 w0 dr ops K rest ⟨n, (d, .c (.bp r (ck + 1) 0)) :: sl, f', ck + 1, df⟩ (2 :: acc)) (_ : mem[r]? = some .dead := by exact rfl) (hw : GW ops g sl := by first | exact trivial | exact rfl) (ht : T t = some i := by exact rfl)
  (jF : i.zero.map B0 = cs := by repeat' (first | exact A6 rfl | apply AG rfl)) (iZ : mem.set r (.box (ck + 1) cs) = f' := by exact rfl) : Reg P F0 w0 dr ops K (⟨some d, .alloc t, ty, pos, iU, g⟩ :: rest) ⟨n, sl, mem, ck, df⟩ acc := by
 subst iZ; subst jF
 refine U6 (jx := []) hw (BF fun E w ρ j0 hρ => ?_) h
 have tO := tc.ok t i ht
 obtain ⟨fi, z, k6, kr, jb, kG, kq⟩ := tO.info
 have hf := j0.fresh
 have hle : EnvLe E w (E.upd r w.heap.size 0 (ck + 1)) (w.alloc (.cells i.zero.toArray t)) := Env.upd_le _ _ _ _ (by have := j0.mem.clock r; omega) (fun j hj => Bel.heap_alloc w _ j (j0.FN j hj))
 have nk := j0.turn (w' := w.alloc (.cells i.zero.toArray t)) r w.heap.size 0 (ck + 1) (.box (ck + 1) (i.zero.map B0)) _ (dI ck) (Nat.le_refl _) (Bj r _) ((Bel.refl _ w).alloc j0.le0 _) (fun j hj _ => Bel.heap_alloc w _ j hj) (fun s x _ hx hh => hf.2 s x hx hh) hf.1
  ⟨by simp [Env.upd], by simp [Env.upd]; exact j0.le0, by simp only [Env.upd, if_true]; exact hf.1, i.zero.toArray, t, by simp only [Env.upd, if_true]; exact XN w _, by simp, fun j v x a b => (EH tO j v x a b).le hle⟩
 exact ⟨.pointer (some ⟨w.heap.size, 0, none⟩), _, E.upd r w.heap.size 0 (ck + 1), by simp [execOp, Instr.alloc, zeroValue, typeInfo, k6, kG, newVar, newRow, kq], nk.2, nk.1, .c (.bp r (ck + 1) 0 _ rfl (by simp [Env.upd]) (fun _ => by simp [Env.upd]))⟩
theorem CZ [mt : MapTy P t kt vt] [ko : KeyOk P kt G] (hi : es[i]? = some (kv, p)) (hg : G kv) (hG : ∀ e ∈ es, G e.1)
  (h : Reg P F0 w0 dr ops K rest ⟨n, (d, .c (.d p)) :: sl, mem, ck, df⟩ (1 :: acc)) (hw : GW ops g sl := by first | exact trivial | exact rfl) (hx : AH sl x = .c (.mp r k) := by exact rfl) (hm : mem[r]? = some (.mapb k kA kB es) := by exact rfl) (hy : AH sl y = s := by exact rfl) (hk : Ce s = some kv := by exact rfl) :
  Reg P F0 w0 dr ops K (⟨some d, .lookup t x y false, ty, pos, iU, g⟩ :: rest) ⟨n, sl, mem, ck, df⟩ acc := by
 refine Dh hw hm (fun mem ck hm => BF fun E w ρ j0 hρ => ?_) h
 have e1 := hρ x (by simp [Op.operands])
 have e2 := hρ y (by simp [Op.operands])
 rw [hx] at e1; rw [hy] at e2
 have e1 := e1.mp_inv (j0.mem.ok r _ hm).1
 have e2 := Be e2 hk
 obtain ⟨bs, c, mU⟩ := j0.toMap hm
 obtain ⟨u, q1, q2, _⟩ := (D2 mt.out mU (BV hm) (Cu hG) hg).1 i _ (FF hi)
 exact ⟨u, w, E, by simp [execOp, e1, e2, q2], EnvLe.refl _ _, j0, q1.srep⟩
theorem G4 [mt : MapTy P t kt vt] [ko : KeyOk P kt G] {z : Dat} [zv : ZeroV P vt (.one z)] (hn : ∀ e ∈ es, e.1 ≠ kv) (hg : G kv) (hG : ∀ e ∈ es, G e.1)
  (h : Reg P F0 w0 dr ops K rest ⟨n, (d, .c (.d z)) :: sl, mem, ck, df⟩ (1 :: acc)) (hw : GW ops g sl := by first | exact trivial | exact rfl) (hx : AH sl x = .c (.mp r k) := by exact rfl) (hm : mem[r]? = some (.mapb k kA kB es) := by exact rfl) (hy : AH sl y = s := by exact rfl) (hk : Ce s = some kv := by exact rfl) :
  Reg P F0 w0 dr ops K (⟨some d, .lookup t x y false, ty, pos, iU, g⟩ :: rest) ⟨n, sl, mem, ck, df⟩ acc := by
 refine Dh hw hm (fun mem ck hm => BF fun E w ρ j0 hρ => ?_) h
 have e1 := hρ x (by simp [Op.operands])
 have e2 := hρ y (by simp [Op.operands])
 rw [hx] at e1; rw [hy] at e2
 have e1 := e1.mp_inv (j0.mem.ok r _ hm).1
 have e2 := Be e2 hk
 obtain ⟨bs, c, mU⟩ := j0.toMap hm
 obtain ⟨v, hv, hz⟩ := zv.out w
 obtain ⟨q2, _⟩ := (D2 mt.out mU (BV hm) (Cu hG) hg).2 (Cu (p := fun q => q ≠ kv) hn) v hv
 exact ⟨v, w, E, by simp [execOp, e1, e2, q2], EnvLe.refl _ _, j0, (hz E.F w).srep⟩
theorem Xd [mt : MapTy P t kt vt] [ko : KeyOk P kt G] (hi : es[i]? = some (kv, p)) (hg : G kv) (hG : ∀ e ∈ es, G e.1)
   (h : Reg P F0 w0 dr ops K rest ⟨n, (d, .tup [.c (.d p), .c (.d (.lit (.bool true)))]) :: sl, mem, ck, df⟩ (1 :: acc)) (hw : GW ops g sl := by first | exact trivial | exact rfl) (hx : AH sl x = .c (.mp r k) := by exact rfl) (hm : mem[r]? = some (.mapb k kA kB es) := by exact rfl) (hy : AH sl y = s := by exact rfl) (hk : Ce s = some kv := by exact rfl) :
   Reg P F0 w0 dr ops K (⟨some d, .lookup t x y true, ty, pos, iU, g⟩ :: rest) ⟨n, sl, mem, ck, df⟩ acc := by
 refine Dh hw hm (fun mem ck hm => BF fun E w ρ j0 hρ => ?_) h
 have e1 := hρ x (by simp [Op.operands])
 have e2 := hρ y (by simp [Op.operands])
 rw [hx] at e1; rw [hy] at e2
 have e1 := e1.mp_inv (j0.mem.ok r _ hm).1
 have e2 := Be e2 hk
 obtain ⟨bs, c, mU⟩ := j0.toMap hm
 obtain ⟨u, q1, _, q2⟩ := (D2 mt.out mU (BV hm) (Cu hG) hg).1 i _ (FF hi)
 refine ⟨_, w, E, by simp only [execOp, e1, e2, Sem.run_bind, q2]; rfl, EnvLe.refl _ _, j0, ?_⟩
 refine .tup _ [u, .bool true] rfl fun i v x hv hx => ?_
 match i, hv, hx with
 | 0, hv, hx => cases hv; cases hx; exact q1.srep
 | 1, hv, hx => cases hv; cases hx; exact .c (.d (.lit _ rfl))
theorem UA [mt : MapTy P t kt vt] [ko : KeyOk P kt G] {z : Dat} [zv : ZeroV P vt (.one z)] (hn : ∀ e ∈ es, e.1 ≠ kv) (hg : G kv) (hG : ∀ e ∈ es, G e.1)
   (h : Reg P F0 w0 dr ops K rest ⟨n, (d, .tup [.c (.d z), .c (.d (.lit (.bool false)))]) :: sl, mem, ck, df⟩ (1 :: acc)) (hw : GW ops g sl := by first | exact trivial | exact rfl) (hx : AH sl x = .c (.mp r k) := by exact rfl) (hm : mem[r]? = some (.mapb k kA kB es) := by exact rfl) (hy : AH sl y = s := by exact rfl) (hk : Ce s = some kv := by exact rfl) :
   Reg P F0 w0 dr ops K (⟨some d, .lookup t x y true, ty, pos, iU, g⟩ :: rest) ⟨n, sl, mem, ck, df⟩ acc := by
 refine Dh hw hm (fun mem ck hm => BF fun E w ρ j0 hρ => ?_) h
 have e1 := hρ x (by simp [Op.operands])
 have e2 := hρ y (by simp [Op.operands])
 rw [hx] at e1; rw [hy] at e2
 have e1 := e1.mp_inv (j0.mem.ok r _ hm).1
 have e2 := Be e2 hk
 obtain ⟨bs, c, mU⟩ := j0.toMap hm
 obtain ⟨v, hv, hz⟩ := zv.out w
 obtain ⟨_, q2⟩ := (D2 mt.out mU (BV hm) (Cu hG) hg).2 (Cu (p := fun q => q ≠ kv) hn) v hv
 refine ⟨_, w, E, by simp only [execOp, e1, e2, Sem.run_bind, q2]; rfl, EnvLe.refl _ _, j0, ?_⟩
 refine .tup _ [v, .bool false] rfl fun i u x hv hx => ?_
 match i, hv, hx with
 | 0, hv, hx => cases hv; cases hx; exact (hz E.F w).srep
 | 1, hv, hx => cases hv; cases hx; exact .c (.d (.lit _ rfl))
theorem UB [mt : MapTy P t kt vt] [ko : KeyOk P kt G] {u : SVal} (hn : ∀ e ∈ es, e.1 ≠ kv) (hg : G kv) (hG : ∀ e ∈ es, G e.1)
  (h : Reg P F0 w0 dr ops K rest ⟨n, sl, f', ck, df⟩ (2 :: acc)) (hw : GW ops g sl := by first | exact trivial | exact rfl) (hx : AH sl x = .c (.mp r k) := by exact rfl) (hm : mem[r]? = some (.mapb k kA kB es) := by exact rfl) (hy : AH sl y = s := by exact rfl) (hk : Ce s = some kv := by exact rfl) (hz : AH sl z = u := by exact rfl) (hu : SD u (.one p) := by exact (show SD (.c _) (.one _) from rfl)) (iZ : mem.set r (.mapb k kA kB (es ++ [(kv, p)])) = f' := by repeat' (first | exact A6 rfl | apply AG rfl)) :
  Reg P F0 w0 dr ops K (⟨none, .mapUpdate t x y z, ty, pos, iU, g⟩ :: rest) ⟨n, sl, mem, ck, df⟩ acc := by
 subst iZ
 refine IE (jx := []) hw (JV fun E w ρ j0 hρ => ?_) h
 have e1 := hρ x (by simp [Op.operands])
 have e2 := hρ y (by simp [Op.operands])
 have e3 := hρ z (by simp [Op.operands])
 rw [hx] at e1; rw [hy] at e2; rw [hz] at e3
 have e1 := e1.mp_inv (j0.mem.ok r _ hm).1
 have e2 := Be e2 hk
 obtain ⟨bs, c, mU⟩ := j0.toMap hm
 obtain ⟨w', q1, q2, q3⟩ := (Kp mt.out mU (BV hm) (Cu hG) hg (hu.prep e3)).2 (Cu (p := fun q => q ≠ kv) hn)
 rw [ZH, Uz] at q3
 have q4 := q3.toMapb (BV hm)
 rw [ZH] at q4
 exact ⟨w', E, by simp [execOp, e1, e2, q1], q2, q4⟩
theorem UC [mt : MapTy P t kt vt] [ko : KeyOk P kt G] {u : SVal} {p0 : Dat} (hi : es[i]? = some (kv, p0)) (hg : G kv) (hG : ∀ e ∈ es, G e.1)
  (h : Reg P F0 w0 dr ops K rest ⟨n, sl, f', ck, df⟩ (2 :: acc)) (hw : GW ops g sl := by first | exact trivial | exact rfl) (hx : AH sl x = .c (.mp r k) := by exact rfl) (hm : mem[r]? = some (.mapb k kA kB es) := by exact rfl) (hy : AH sl y = s := by exact rfl) (hk : Ce s = some kv := by exact rfl) (hz : AH sl z = u := by exact rfl) (hu : SD u (.one p) := by exact (show SD (.c _) (.one _) from rfl)) (iZ : mem.set r (.mapb k kA kB (es.set i (kv, p))) = f' := by repeat' (first | exact A6 rfl | apply AG rfl)) :
  Reg P F0 w0 dr ops K (⟨none, .mapUpdate t x y z, ty, pos, iU, g⟩ :: rest) ⟨n, sl, mem, ck, df⟩ acc := by
 subst iZ
 refine IE (jx := []) hw (JV fun E w ρ j0 hρ => ?_) h
 have e1 := hρ x (by simp [Op.operands])
 have e2 := hρ y (by simp [Op.operands])
 have e3 := hρ z (by simp [Op.operands])
 rw [hx] at e1; rw [hy] at e2; rw [hz] at e3
 have e1 := e1.mp_inv (j0.mem.ok r _ hm).1
 have e2 := Be e2 hk
 obtain ⟨bs, c, mU⟩ := j0.toMap hm
 obtain ⟨w', q1, q2, q3⟩ := (Kp mt.out mU (BV hm) (Cu hG) hg (hu.prep e3)).1 i _ (FF hi)
 rw [ZH, Xc] at q3
 have q4 := q3.toMapb (BV hm)
 rw [ZH] at q4
 exact ⟨w', E, by simp [execOp, e1, e2, q1], q2, q4⟩
theorem Cx {t2 : TypeId} [mt : MapTy P t kt vt] [ko : KeyOk P kt G] (hi : es[i]? = some (kv, p)) (hg : G kv) (hG : ∀ e ∈ es, G e.1)
  (h : Reg P F0 w0 dr ops K rest ⟨n, sl, f', ck, df⟩ (2 :: acc)) (hw : GW ops g sl := by first | exact trivial | exact rfl) (hx : AH sl x = .c (.mp r k) := by exact rfl) (hm : mem[r]? = some (.mapb k kA kB es) := by exact rfl) (hy : AH sl y = s := by exact rfl) (hk : Ce s = some kv := by exact rfl) (iZ : mem.set r (.mapb k kA kB (es.eraseIdx i)) = f' := by repeat' (first | exact A6 rfl | apply AG rfl)) :
  Reg P F0 w0 dr ops K (⟨none, .call ⟨.builtin .delete, #[x, y], #[t, t2]⟩, ty, pos, iU, g⟩ :: rest) ⟨n, sl, mem, ck, df⟩ acc := by
 subst iZ
 refine IE (jx := []) (v := .junk) hw (BF fun E w ρ j0 hρ => ?_) h
 have e1 := hρ x (by simp [Op.operands, Call.operands])
 have e2 := hρ y (by simp [Op.operands, Call.operands])
 rw [hx] at e1; rw [hy] at e2
 obtain ⟨o1, o2, o3, A, bs, c, o4, o5⟩ := j0.mem.ok r _ hm
 have e1 := e1.mp_inv o1
 have e2 := Be e2 hk
 have zL : ∀ e ∈ IQ es, G e.1 := Cu hG
 have lf := ko.find w kv A.toList hg (MapOk.good o5 zL)
 obtain ⟨m, q1, q2, q3, q4⟩ := MapOk.look o5 (FF hi)
 rw [q4] at lf
 have je := ko.check w A.isEmpty kv hg
 have i7 : E.blk r < w.heap.size := (Ox.1 o4).1
 have kJ := lt_of_getElem? hi
 have nD : A.size = es.length := by rw [o5.1]; simp
 have oI : bs.length = es.length := by rw [o5.2.1]; simp
 have j7 : (Builtin.delete_ #[t, t2] ty #[.map (some (E.blk r)), kv]).run P w = .ok (.tuple #[]) { w with heap := w.heap.setIfInBounds (E.blk r) (.map (A.eraseIdxIfInBounds i) c) } := by
  simp only [Builtin.delete_, XM, List.getElem?_cons_zero, List.getElem?_cons_succ, Sem.run_bind, run_underlying mt.out, MapKept.run_getObj_map o4, Result.andThen_ok, je, lf]
  rw [MapKept.run_setObj_map _ o4]
  rfl
 refine ⟨.tuple #[], { w with heap := w.heap.setIfInBounds (E.blk r) (.map (A.eraseIdxIfInBounds i) c) }, E, by simp [execOp, resolve, invoke, builtin, e1, e2, j7], ?_⟩
 have hp := j0.poke r _ (.mapb k kA kB (es.eraseIdx i)) hm trivial (fun _ => trivial) (Cn w (E.blk r) (.map (A.eraseIdxIfInBounds i) c) o2) (fun j hj => by simp only; rw [R7 (Ne.symm hj)]) (fun hle => by
  obtain ⟨h1, h2, h3, h0, h4, h5⟩ := o5
  have xO : A.eraseIdxIfInBounds i = A.eraseIdx i (by omega) := by rw [Array.eraseIdxIfInBounds, dif_pos (by omega)]
  refine ⟨o1, o2, o3, _, bs.eraseIdx i, c, by simp only; rw [aO i7], ?_, ?_, h3.sublist (gi ..), ?_, fun b hb => h4 b ((gi ..).subset hb), fun j m' iZ => ?_⟩
  · rw [xO, Array.size_eraseIdx, nD]; simp [List.length_eraseIdx, kJ]
  · simp [List.length_eraseIdx, kJ, oI]
  · refine h0.sublist ?_
    simp only [Sc]
    exact (gi es i).map _
  · rw [xO, ← LV, Array.toList_eraseIdx, gh] at iZ
    rw [gh]
    split at iZ
    ·rename_i rJ
     rw [LV] at iZ
     obtain ⟨b1, p', b2, b3⟩ := h5 j m' iZ
     refine ⟨by rw [if_pos rJ]; exact b1, p', ?_, b3.le hle⟩
     rw [BU] at b2 ⊢
     rw [gh, if_pos rJ]
     exact b2
    ·rename_i rJ
     rw [LV] at iZ
     obtain ⟨b1, p', b2, b3⟩ := h5 (j + 1) m' iZ
     refine ⟨by rw [if_neg rJ]; exact b1, p', ?_, b3.le hle⟩
     rw [BU] at b2 ⊢
     rw [gh, if_neg rJ]
     exact b2)
 exact ⟨hp.2, hp.1, .junk _⟩
theorem F6 {t2 : TypeId} [mt : MapTy P t kt vt] [ko : KeyOk P kt G] (hn : ∀ e ∈ es, e.1 ≠ kv) (hg : G kv) (hG : ∀ e ∈ es, G e.1)
  (h : Reg P F0 w0 dr ops K rest ⟨n, sl, f', ck, df⟩ (2 :: acc)) (hw : GW ops g sl := by first | exact trivial | exact rfl) (hx : AH sl x = .c (.mp r k) := by exact rfl) (hm : mem[r]? = some (.mapb k kA kB es) := by exact rfl) (hy : AH sl y = s := by exact rfl) (hk : Ce s = some kv := by exact rfl) (iZ : mem = f' := by exact rfl) :
  Reg P F0 w0 dr ops K (⟨none, .call ⟨.builtin .delete, #[x, y], #[t, t2]⟩, ty, pos, iU, g⟩ :: rest) ⟨n, sl, mem, ck, df⟩ acc := by
 subst iZ
 refine IE (jx := []) (v := .junk) hw (BF fun E w ρ j0 hρ => ?_) h
 have e1 := hρ x (by simp [Op.operands, Call.operands])
 have e2 := hρ y (by simp [Op.operands, Call.operands])
 rw [hx] at e1; rw [hy] at e2
 obtain ⟨o1, o2, o3, A, bs, c, o4, o5⟩ := j0.mem.ok r _ hm
 have e1 := e1.mp_inv o1
 have e2 := Be e2 hk
 have lf := ko.find w kv A.toList hg (MapOk.good o5 (Cu hG))
 rw [MapOk.not o5 (Cu (p := fun q => q ≠ kv) hn)] at lf
 have je := ko.check w A.isEmpty kv hg
 have i7 : E.blk r < w.heap.size := (Ox.1 o4).1
 have j7 : (Builtin.delete_ #[t, t2] ty #[.map (some (E.blk r)), kv]).run P w = .ok (.tuple #[]) { w with heap := w.heap.setIfInBounds (E.blk r) (.map A c) } := by
  simp only [Builtin.delete_, XM, List.getElem?_cons_zero, List.getElem?_cons_succ, Sem.run_bind, run_underlying mt.out, MapKept.run_getObj_map o4, Result.andThen_ok, je, lf]
  rw [MapKept.run_setObj_map _ o4]
  rfl
 refine ⟨.tuple #[], { w with heap := w.heap.setIfInBounds (E.blk r) (.map A c) }, E, by simp [execOp, resolve, invoke, builtin, e1, e2, j7], ?_⟩
 have hp := j0.poke r _ (.mapb k kA kB es) hm trivial (fun _ => trivial) (Cn w (E.blk r) (.map A c) o2) (fun j hj => by simp only; rw [R7 (Ne.symm hj)]) (fun hle => ⟨o1, o2, o3, A, bs, c, by simp only; rw [aO i7], MapOk.le o5 hle⟩)
 rw [DV hm] at hp
 exact ⟨hp.2, hp.1, .junk _⟩
theorem Y9 [mt : MapTy P t kt vt] [ko : KeyOk P kt G] {es : List (Value × Cell)} {p : Cell} (hi : es[i]? = some (kv, p)) (hg : G kv) (hG : ∀ e ∈ es, G e.1)
  (h : Reg P F0 w0 dr ops K rest ⟨n, (d, .c p) :: sl, mem, ck, df⟩ (1 :: acc)) (hw : GW ops g sl := by first | exact trivial | exact rfl) (hx : AH sl x = .c (.mp r k) := by exact rfl) (hm : mem[r]? = some (.mapc k kA kB es) := by exact rfl) (hy : AH sl y = s := by exact rfl) (hk : Ce s = some kv := by exact rfl) :
  Reg P F0 w0 dr ops K (⟨some d, .lookup t x y false, ty, pos, iU, g⟩ :: rest) ⟨n, sl, mem, ck, df⟩ acc := by
 refine Dh hw hm (fun mem ck hm => BF fun E w ρ j0 hρ => ?_) h
 have e1 := hρ x (by simp [Op.operands])
 have e2 := hρ y (by simp [Op.operands])
 rw [hx] at e1; rw [hy] at e2
 obtain ⟨o1, o2, o3, A, bs, c, o4, o5⟩ := j0.mem.ok r _ hm
 have e1 := e1.mp_inv o1
 have e2 := Be e2 hk
 have lf := ko.find w kv A.toList hg (o5.good hG)
 have je := ko.check w A.isEmpty kv hg
 obtain ⟨m, q1, q2, q3, q4⟩ := o5.look hi
 rw [q4] at lf
 have j7 : (Instr.lookup t (.map (some (E.blk r))) kv false).run P w = .ok m.val w := by
  simp only [Instr.lookup, Sem.run_bind, run_underlying mt.out, MapKept.run_getObj_map o4, Result.andThen_ok, Sem.run_pure, je, lf, Bool.false_eq_true, if_false]
 exact ⟨m.val, w, E, by simp [execOp, e1, e2, j7], EnvLe.refl _ _, j0, .c q3⟩
theorem Xe [mt : MapTy P t kt vt] [ko : KeyOk P kt G] {es : List (Value × Cell)} (hz : (P.info? vt).map (·.zero) = some (some (.slice none 0 0))) (hn : ∀ e ∈ es, e.1 ≠ kv) (hg : G kv) (hG : ∀ e ∈ es, G e.1)
  (h : Reg P F0 w0 dr ops K rest ⟨n, (d, .c .emp) :: sl, mem, ck, df⟩ (1 :: acc)) (hw : GW ops g sl := by first | exact trivial | exact rfl) (hx : AH sl x = .c (.mp r k) := by exact rfl) (hm : mem[r]? = some (.mapc k kA kB es) := by exact rfl) (hy : AH sl y = s := by exact rfl) (hk : Ce s = some kv := by exact rfl) :
  Reg P F0 w0 dr ops K (⟨some d, .lookup t x y false, ty, pos, iU, g⟩ :: rest) ⟨n, sl, mem, ck, df⟩ acc := by
 refine Dh hw hm (fun mem ck hm => BF fun E w ρ j0 hρ => ?_) h
 have e1 := hρ x (by simp [Op.operands])
 have e2 := hρ y (by simp [Op.operands])
 rw [hx] at e1; rw [hy] at e2
 obtain ⟨o1, o2, o3, A, bs, c, o4, o5⟩ := j0.mem.ok r _ hm
 have e1 := e1.mp_inv o1
 have e2 := Be e2 hk
 have lf := ko.find w kv A.toList hg (o5.good hG)
 have je := ko.check w A.isEmpty kv hg
 rw [o5.not hn] at lf
 have zM : (zeroValue vt).run P w = .ok (.slice none 0 0) w := by
  cases hq : P.info? vt with
  | none => rw [hq] at hz; cases hz
  | some i =>
    rw [hq] at hz
    simp only [Option.map_some, Option.some.injEq] at hz
    simp [zeroValue, typeInfo, hq, hz]
 have j7 : (Instr.lookup t (.map (some (E.blk r))) kv false).run P w = .ok (.slice none 0 0) w := by
  simp only [Instr.lookup, Sem.run_bind, run_underlying mt.out, MapKept.run_getObj_map o4, Result.andThen_ok, Sem.run_pure, je, lf, zM, Bool.false_eq_true, if_false]
 exact ⟨.slice none 0 0, w, E, by simp [execOp, e1, e2, j7], EnvLe.refl _ _, j0, .c (.emp _)⟩
theorem UD [mt : MapTy P t kt vt] [ko : KeyOk P kt G] {es : List (Value × Cell)} {p : Cell} (hn : ∀ e ∈ es, e.1 ≠ kv) (hg : G kv) (hG : ∀ e ∈ es, G e.1)
  (h : Reg P F0 w0 dr ops K rest ⟨n, sl, f', ck, df⟩ (2 :: acc)) (hw : GW ops g sl := by first | exact trivial | exact rfl) (hx : AH sl x = .c (.mp r k) := by exact rfl) (hm : mem[r]? = some (.mapc k kA kB es) := by exact rfl) (hy : AH sl y = s := by exact rfl) (hk : Ce s = some kv := by exact rfl) (hz : AH sl z = .c p := by exact rfl) (iZ : mem.set r (.mapc k kA kB (es ++ [(kv, p)])) = f' := by exact rfl) :
  Reg P F0 w0 dr ops K (⟨none, .mapUpdate t x y z, ty, pos, iU, g⟩ :: rest) ⟨n, sl, mem, ck, df⟩ acc := by
 subst iZ
 refine IE (jx := []) hw (JV fun E w ρ j0 hρ => ?_) h
 have e1 := hρ x (by simp [Op.operands])
 have e2 := hρ y (by simp [Op.operands])
 have e3 := hρ z (by simp [Op.operands])
 rw [hx] at e1; rw [hy] at e2; rw [hz] at e3
 obtain ⟨o1, o2, o3, A, bs, c, o4, o5⟩ := j0.mem.ok r _ hm
 have e1 := e1.mp_inv o1
 have e2 := Be e2 hk
 have i7 : E.blk r < w.heap.size := (Ox.1 o4).1
 have lf := ko.find w kv A.toList hg (o5.good hG)
 have je := ko.check w false kv hg
 rw [o5.not hn] at lf
 have j7 : (Instr.mapUpdate t (.map (some (E.blk r))) kv (ρ z)).run P w = .ok () { w with heap := w.heap.setIfInBounds (E.blk r) (.map (A.push { key := kv, val := ρ z, born := c }) (c + 1)) } := by
  simp only [Instr.mapUpdate, Sem.run_bind, run_underlying mt.out, MapKept.run_getObj_map o4, Result.andThen_ok, je, lf]
  exact MapKept.run_setObj_map _ o4
 have hp := j0.poke r _ (.mapc k kA kB (es ++ [(kv, p)])) hm trivial (fun _ => trivial) (Cn w (E.blk r) (.map (A.push { key := kv, val := ρ z, born := c }) (c + 1)) o2) (fun j hj => by simp only; rw [R7 (Ne.symm hj)]) (fun hle => by
  obtain ⟨h1, h2, h3, h0, h4, h5⟩ := o5
  refine ⟨o1, o2, o3, _, bs ++ [c], c + 1, by simp only; rw [aO i7], by simp [h1], by simp [h2], ?_, ?_, fun b hb => ?_, fun j m' iZ => ?_⟩
  · rw [ZD]
    refine ⟨h3, by simp, fun a ha b hb q => ?_⟩
    simp at hb
    subst hb
    have := h4 a ha
    omega
  · rw [Ag', ZD]
    refine ⟨h0, by simp, fun a ha b hb q => ?_⟩
    simp at hb
    obtain ⟨e, he, rfl⟩ := List.mem_map.1 ha
    exact hn e he (q.trans hb)
  · rcases EY.1 hb with hb | hb
    ·have := h4 b hb; omega
    ·simp at hb; omega
  · rw [Array.getElem?_push] at iZ
    split at iZ
    ·rename_i hj
     simp only [Option.some.injEq] at iZ
     subst iZ
     have e3 := e3.cell_of
     exact ⟨by rw [hj, Oy (by omega)]; simp [h1, h2], p, by rw [hj, Oy (by omega)]; simp [h1], e3.le hle⟩
    ·obtain ⟨b1, p', b2, b3⟩ := h5 j m' iZ
     exact ⟨by rw [Np (lt_of_getElem? b1)]; exact b1, p', by rw [Np (lt_of_getElem? b2)]; exact b2, b3.le hle⟩)
 exact ⟨_, E, by simp [execOp, e1, e2, j7], hp.2, hp.1⟩
theorem UE [mt : MapTy P t kt vt] [ko : KeyOk P kt G] {es : List (Value × Cell)} {p p0 : Cell} (hi : es[i]? = some (kv, p0)) (hg : G kv) (hG : ∀ e ∈ es, G e.1)
  (h : Reg P F0 w0 dr ops K rest ⟨n, sl, f', ck, df⟩ (2 :: acc)) (hw : GW ops g sl := by first | exact trivial | exact rfl) (hx : AH sl x = .c (.mp r k) := by exact rfl) (hm : mem[r]? = some (.mapc k kA kB es) := by exact rfl) (hy : AH sl y = s := by exact rfl) (hk : Ce s = some kv := by exact rfl) (hz : AH sl z = .c p := by exact rfl) (iZ : mem.set r (.mapc k kA kB (es.set i (kv, p))) = f' := by exact rfl) :
  Reg P F0 w0 dr ops K (⟨none, .mapUpdate t x y z, ty, pos, iU, g⟩ :: rest) ⟨n, sl, mem, ck, df⟩ acc := by
 subst iZ
 refine IE (jx := []) hw (JV fun E w ρ j0 hρ => ?_) h
 have e1 := hρ x (by simp [Op.operands])
 have e2 := hρ y (by simp [Op.operands])
 have e3 := hρ z (by simp [Op.operands])
 rw [hx] at e1; rw [hy] at e2; rw [hz] at e3
 obtain ⟨o1, o2, o3, A, bs, c, o4, o5⟩ := j0.mem.ok r _ hm
 have e1 := e1.mp_inv o1
 have e2 := Be e2 hk
 have i7 : E.blk r < w.heap.size := (Ox.1 o4).1
 have lf := ko.find w kv A.toList hg (o5.good hG)
 have je := ko.check w false kv hg
 obtain ⟨m, q1, q2, q3, q4⟩ := o5.look hi
 rw [q4] at lf
 have qt : (Instr.keyThatStays m.key kv).run P w = .ok kv w := by
  rw [q2]
  simp [Instr.keyThatStays, ko.same kv hg]
 have j7 : (Instr.mapUpdate t (.map (some (E.blk r))) kv (ρ z)).run P w = .ok () { w with heap := w.heap.setIfInBounds (E.blk r) (.map (A.modify i fun e => { e with key := kv, val := ρ z }) c) } := by
  simp only [Instr.mapUpdate, Sem.run_bind, run_underlying mt.out, MapKept.run_getObj_map o4, Result.andThen_ok, je, lf, q1, Option.map_some, U4, qt]
  exact MapKept.run_setObj_map _ o4
 have hp := j0.poke r _ (.mapc k kA kB (es.set i (kv, p))) hm trivial (fun _ => trivial) (Cn w (E.blk r) (.map (A.modify i fun e => { e with key := kv, val := ρ z }) c) o2) (fun j hj => by simp only; rw [R7 (Ne.symm hj)]) (fun hle => by
  obtain ⟨h1, h2, h3, h0, h4, h5⟩ := o5
  refine ⟨o1, o2, o3, _, bs, c, by simp only; rw [aO i7], by simpa using h1, by simpa using h2, h3, ?_, h4, fun j m' iZ => ?_⟩
  · have jk := lt_of_getElem? hi
    rw [Bo jk] at hi
    simp only [Option.some.injEq] at hi
    rw [Sb]
    have : (es.map Prod.fst).set i kv = es.map Prod.fst := by
     apply Sa
     intro j
     by_cases jY : i = j
     ·subst jY
      rw [J5 (by simpa using jk)]
      simp [Bo jk, hi]
     ·rw [J7 jY]
    rw [this]; exact h0
  · rw [gj] at iZ
    by_cases jY : i = j
    ·subst jY
     rw [if_pos rfl, q1] at iZ
     simp only [Option.map_some, Option.some.injEq] at iZ
     subst iZ
     have e3 := e3.cell_of
     refine ⟨(h5 i m q1).1, p, ?_, e3.le hle⟩
     rw [J5 (lt_of_getElem? hi)]
    ·rw [if_neg jY] at iZ
     obtain ⟨b1, p', b2, b3⟩ := h5 j m' iZ
     exact ⟨b1, p', by rw [J7 jY]; exact b2, b3.le hle⟩)
 exact ⟨_, E, by simp [execOp, e1, e2, j7], hp.2, hp.1⟩
end
section
variable {P : Program} {T : TypeId → Option TI} {B : Base} {Q : Ex → St → Prop} {n : Nat} {sl : List (Nat × SVal)} {mem : List Blk} {ck : Nat} {df : List (FuncId × List Cell)}
theorem Xf (r : Nat) {c' : Nat} {c : Code} (h : ARun P B c ⟨n, sl, m1, ck, df⟩ Q) (hm : mem[r]? = some (.map k kt vt [] bs c') := by exact rfl) (lq : mem.set r (.mapb k kt vt []) = m1 := by repeat' (first | exact A6 rfl | apply AG rfl)) : ARun P B c ⟨n, sl, mem, ck, df⟩ Q := by
 subst lq
 rintro a w ⟨E, ⟨hw, j3, ml, jy⟩, hle⟩
 exact h a w ⟨E, ⟨hw.toMapb (es := []) hm, j3, ml, jy⟩, hle⟩
theorem Xg (r : Nat) {c' : Nat} {c : Code} (h : ARun P B c ⟨n, sl, m1, ck, df⟩ Q) (hm : mem[r]? = some (.map k kt vt [] bs c') := by exact rfl) (lq : mem.set r (.mapc k kt vt []) = m1 := by repeat' (first | exact A6 rfl | apply AG rfl)) : ARun P B c ⟨n, sl, mem, ck, df⟩ Q := by
 subst lq
 rintro a w ⟨E, ⟨hw, j3, ml, jy⟩, hle⟩
 exact h a w ⟨E, ⟨hw.toMapc hm, j3, ml, jy⟩, hle⟩
theorem Tb (r : Nat) {iX : TypeId} {i6 : Nat} {es : List (List Dat)} (m : Nat) {ji : List (List Dat)} {c : Code} (h : ARun P B c ⟨n, sl, m1, ck, df⟩ Q) (j6 : es.take m = ji) (hm : mem[r]? = some (.arr k iX i6 es) := by exact rfl)
  (lq : mem.set r (.arr k iX i6 ji) = m1 := by repeat' (first | exact A6 rfl | apply AG rfl)) : ARun P B c ⟨n, sl, mem, ck, df⟩ Q := by
 subst lq; subst j6
 rintro a w ⟨E, ⟨hw, j3, ml, jy⟩, hle⟩
 obtain ⟨h1, h2, h3, h4, h5, h6⟩ := hw.mem.ok r _ hm
 refine h a w ⟨E, ⟨hw.swap r _ _ hm (fun q => q) ⟨h1, h2, fun e he => h3 e (I0 he), by simp; omega, h5, ?_⟩, j3, ml, jy⟩, hle⟩
 rcases h6 with h6 | ⟨g1, g2, cc, g3, g4, g5, g6⟩
 ·exact .inl h6
 ·refine .inr ⟨g1, g2, cc, g3, g4, g5, fun i j e v x q1 q2 q3 => ?_⟩
  rw [Mc] at q1
  split at q1
  · exact g6 i j e v x q1 q2 q3
  · cases q1
theorem cj (base r : Nat) {es : List (Value × Cell)} (ji : List (Value × Dat)) {c : Code} (h : ARun P B c ⟨n, sl, m1, ck, df⟩ Q) (hm : mem[r]? = some (.mapc k kt vt es)) (hr : r < base) (hl : ji.length = es.length)
  (j6 : ∀ (i : Nat) (kv : Value) (x : Cell), es[i]? = some (kv, x) → ∃ y, ji[i]? = some (kv, y) ∧ eW mem base x y) (lq : (mem.take base).set r (.mapb k kt vt ji) = m1) : ARun P B c ⟨n, sl, mem, ck, df⟩ Q := by
 subst lq
 rintro a w ⟨E, ⟨hw, j3, ml, jy⟩, hle⟩
 obtain ⟨t1, t2, t3⟩ := hw.thaw base
 obtain ⟨o1, o2, o3, A, bs, c', o4, h1, h2, h3, h0, h4, h5⟩ := hw.mem.ok r _ hm
 have iZ : (mem.take base)[r]? = some (.mapc k kt vt es) := by rw [Mc, if_pos hr]; exact hm
 obtain ⟨p1, p2, p3, _⟩ := t1.mem.ok r _ iZ
 have hf : (IQ ji).map Prod.fst = es.map Prod.fst := by
  apply Sa
  intro i
  rw [BU, BU]
  cases hq : es[i]? with
  | none => rw [XL (by simp [IQ, hl]; exact List.getElem?_eq_none_iff.1 hq)]; rfl
  | some e =>
    obtain ⟨y, hy, _⟩ := j6 i e.1 e.2 hq
    rw [FF hy]; rfl
 refine h a w ⟨M1 E mem base, ⟨t1.swap r _ _ iZ (fun _ => trivial) ⟨p1, p2, p3, A, bs, c', o4, by rw [h1]; simp [hl], by rw [h2]; simp [hl], h3, by rw [show ((ji.map fun e => (e.1, PV.one e.2)).map Prod.fst) = es.map Prod.fst from hf]; exact h0, h4, fun i m hi => ?_⟩, j3, ml.le t2, fun s => (jy s).le t2⟩, hle.trans t2⟩
 obtain ⟨b1, p, b2, b3⟩ := h5 i m hi
 obtain ⟨y, hy, hc⟩ := j6 i _ _ b2
 exact ⟨b1, .one y, FF hy, t3 _ _ _ hc b3⟩
end
end Go.Abs
end
