/-
  Maps whose order is not looked at: of data, and of the call's own slices.
-/
import Derived.Test.YtmpgmjlanngkfaaGreatArc
section
namespace Go.Abs
open Go.RowKit
variable {A : Array MapEntry} {G : Value → Prop} {bs : List Nat} {c i k r : Nat} {es : List (Value × Dat)} {kt kt' t vt vt' : TypeId} {kv : Value} {m1 mem' : List Blk} {p : Dat} {s : SVal} {x y z : Operand}
def Hh (es : List (Value × Dat)) : List (Value × PV) := es.map fun e => (e.1, PV.one e.2)
theorem SRep.cell_of {E : Env} {w : World} {v : Value} {x : Cell} (h : SRep E w v (.c x)) : CRep E w v x := by cases h; assumption
theorem EG {x : Dat} (h : es[i]? = some (kv, x)) : (Hh es)[i]? = some (kv, .one x) := by simp [Hh, h]
theorem B0 {p : Value → Prop} (h : ∀ e ∈ es, p e.1) : ∀ e ∈ Hh es, p e.1 := fun e he => by
 obtain ⟨x, hx, rfl⟩ := List.mem_map.1 he
 exact h x hx
theorem Uz (es : List (Value × Dat)) (i : Nat) (kv : Value) (x : Dat) : (Hh es).set i (kv, .one x) = Hh (es.set i (kv, x)) := by simp [Hh, U7]
theorem RK (es : List (Value × Dat)) (kv : Value) (x : Dat) : Hh es ++ [(kv, .one x)] = Hh (es ++ [(kv, x)]) := by simp [Hh]
section
variable {P : Program} {F0 : Nat → Prop} {w0 w : World} {E : Env} {mem : List Blk} {ck : Nat}
theorem WOk.toMap (h : WOk F0 w0 E w mem ck) (hr : mem[r]? = some (.mapb k kt vt es)) : ∃ bs c, WOk F0 w0 E w (mem.set r (.map k kt vt (Hh es) bs c)) ck := by
 obtain ⟨h1, h2, h3, A, bs, c, h4, h5⟩ := h.mem.ok r _ hr
 exact ⟨bs, c, h.swap r _ _ hr (fun _ => trivial) ⟨h1, h2, h3, A, h4, h5⟩⟩
theorem WOk.toMapb (h : WOk F0 w0 E w mem ck) (hr : mem[r]? = some (.map k kt vt (Hh es) bs c)) : WOk F0 w0 E w (mem.set r (.mapb k kt vt es)) ck := by
 obtain ⟨h1, h2, h3, A, h4, h5⟩ := h.mem.ok r _ hr
 exact h.swap r _ _ hr (fun _ => trivial) ⟨h1, h2, h3, A, bs, c, h4, h5⟩
theorem WOk.toMapc (h : WOk F0 w0 E w mem ck) (hr : mem[r]? = some (.map k kt vt [] bs c)) : WOk F0 w0 E w (mem.set r (.mapc k kt vt [])) ck := by
 obtain ⟨h1, h2, h3, A, h4, q1, q2, q3, q0, q4, q5⟩ := h.mem.ok r _ hr
 exact h.swap r _ _ hr (fun _ => trivial) ⟨h1, h2, h3, A, bs, c, h4, q1, q2, q3, List.nodup_nil, q4, fun i m hm => by
  have h1 := (Mv.1 hm).1
  have h2 : A.size = 0 := q1
  omega⟩
theorem McOk.look {es : List (Value × Cell)} (h : McOk E w es bs c A) {p : Cell} (hi : es[i]? = some (kv, p)) :
  ∃ m, A[i]? = some m ∧ m.key = kv ∧ CRep E w m.val p ∧ findE kv A.toList 0 = some (i, m.val) := by
 obtain ⟨h1, h2, h3, h0, h4, h5⟩ := h
 have hlt := lt_of_getElem? hi
 have hm : A[i]? = some (A[i]'(by omega)) := Mw _
 obtain ⟨q1, p', q2, q3⟩ := h5 i _ hm
 rw [hi] at q2
 simp only [Option.some.injEq, Gk] at q2
 obtain ⟨q4, q5⟩ := q2
 subst q5
 refine ⟨_, hm, q4.symm, q3, ?_⟩
 have := GJ (k := kv) (es := A.toList) (i := 0) (j := i) (e := A[i]'(by omega)) (by rw [I9]; exact hm) q4.symm (fun l e' hl he => by
  obtain ⟨_, p2, q6, _⟩ := h5 l e' (by rw [← I9]; exact he)
  intro q
  have hp := WL.1 h0 l i (by simp; omega) (by simpa using hlt) hl
  apply hp
  have hlt2 := lt_of_getElem? q6
  rw [Bh hlt2] at q6
  rw [Bh hlt] at hi
  simp only [Option.some.injEq] at q6 hi
  simp only [List.getElem_map, q6, hi, q])
 simpa using this
theorem McOk.not {es : List (Value × Cell)} (h : McOk E w es bs c A) (hn : ∀ e ∈ es, e.1 ≠ kv) : findE kv A.toList 0 = none := by
 refine GH fun e he => ?_
 obtain ⟨i, hi⟩ := LC.1 he
 obtain ⟨_, p, q, _⟩ := h.2.2.2.2.2 i e (by rw [← I9]; exact hi)
 exact fun q' => hn _ (Cl q) q'.symm
theorem McOk.good {es : List (Value × Cell)} (h : McOk E w es bs c A) (hg : ∀ e ∈ es, G e.1) : ∀ e ∈ A.toList, G e.key := by
 intro e he
 obtain ⟨i, hi⟩ := LC.1 he
 obtain ⟨_, p, q, _⟩ := h.2.2.2.2.2 i e (by rw [← I9]; exact hi)
 exact hg _ (Cl q)
def av (mem : List Blk) (base : Nat) : Cell → Dat → Prop
 | .arr r k n, y => base ≤ r ∧ ∃ t z es, mem[r]? = some (.arr k t z es) ∧ n ≤ es.length ∧ y = .sl (es.take n)
 | c, y => c.dat = some y
def Lo (E : Env) (mem : List Blk) (base : Nat) : Env :=
 { E with F := fun b => E.F b ∨ ∃ r k t z es, base ≤ r ∧ mem[r]? = some (.arr k t z es) ∧ E.cap r ≠ 0 ∧ b = E.blk r }
theorem WOk.thaw (h : WOk F0 w0 E w mem ck) (base : Nat) : WOk F0 w0 (Lo E mem base) w (mem.take base) ck ∧ EnvLe E w (Lo E mem base) w ∧ ∀ c y v, av mem base c y → CRep E w v c → DRep (Lo E mem base).F w v y := by
 have hle : EnvLe E w (Lo E mem base) w := ⟨fun _ hk => .inl hk, fun _ _ => rfl, fun _ => Nat.le_refl _, fun _ _ => ⟨rfl, rfl⟩, fun _ hk => ⟨hk, rfl⟩⟩
 have hin : ∀ {r k t z es}, mem[r]? = some (.arr k t z es) → E.cap r ≠ 0 → E.blk r < w.heap.size ∧ w0.heap.size ≤ E.blk r ∧ ¬ (E.F (E.blk r) ∨ E.N (E.blk r)) := fun hr hz => (h.mem.ok _ _ hr).lt hz
 have htk : ∀ {s : Nat} {x : Blk}, (mem.take base)[s]? = some x → s < base ∧ mem[s]? = some x := fun hx => by
  rw [LD] at hx
  split at hx
  ·exact ⟨by assumption, hx⟩
  ·cases hx
 refine ⟨⟨h.below, fun k hk => .inl (h.base k hk), fun i hi => ?_, ⟨h.mem.clock, fun s x hx => ?_, fun s s' x x' hx hx' h1 h2 hne => ?_⟩, fun k hk => ⟨(h.N k hk).1, ?_⟩⟩, hle, fun c y v hc hv => ?_⟩
 ·rcases hi with hi | ⟨r, k, t, z, es, _, hr, hz, rfl⟩
  ·exact h.F i hi
  ·have := hin hr hz
   exact ⟨this.1, .inr this.2.1⟩
 ·obtain ⟨hs, hx0⟩ := htk hx
  have ho := h.mem.ok s x hx0
  refine ho.le hle (fun _ => rfl) (fun _ => rfl) fun hh => ?_
  rintro ((hk | ⟨r, k, t, z, es, hb, hr, hz, hq⟩) | hk)
  ·exact (ho.lt hh).2.2 (.inl hk)
  ·exact h.mem.apart s r x _ hx0 hr hh (show Blk.has E r (.arr k t z es) from hz) (by omega) hq
  ·exact (ho.lt hh).2.2 (.inr hk)
 ·refine h.mem.apart s s' x x' (htk hx).2 (htk hx').2 ?_ ?_ hne
  ·cases x <;> exact h1
  ·cases x' <;> exact h2
 ·rintro (hf | ⟨r, k', t, z, es, _, hr, hz, rfl⟩)
  ·exact (h.N k hk).2 hf
  ·exact (hin hr hz).2.2 (.inr hk)
 ·unfold av at hc
  split at hc
  ·obtain ⟨hb, t, z, es, hr, hn, rfl⟩ := hc
   exact D2 h hr hn hv (fun b hb => .inl hb) fun hz => .inr ⟨_, _, _, _, _, hb, hr, hz, rfl⟩
  ·exact (hv.dat hc).mono (fun _ hk => .inl hk) (fun _ _ => rfl)
end
section
variable {P : Program} {T : TypeId → Option TI} {F0 : Nat → Prop} {w0 : World}
variable {dr : Bool} {ops rest : List Oper} {K : St → Prop} {n : Nat} {sl : List (Nat × SVal)} {mem : List Blk} {ck : Nat} {df : List (FuncId × List Cell)} {acc : List Nat}
variable {d : Tmp} {op : Op} {ty : TypeId} {pos : String} {aft : Array Edge} {g : Option (Nat × Bool)}
theorem C0 [tc : TC P T] (r : Nat) {i : TI} {cs : List Cell} (h : Reg P F0 w0 dr ops K rest ⟨n, (d, .c (.bp r (ck + 1) 0)) :: sl, mem', ck + 1, df⟩ (2 :: acc)) (_ : mem[r]? = some .dead := by exact rfl) (hw : GW ops g sl := by first | exact trivial | exact rfl) (ht : T t = some i := by exact rfl)
  (hcs : i.zero.map By = cs := by repeat' (first | exact AT rfl | apply Az rfl)) (hm' : mem.set r (.box (ck + 1) cs) = mem' := by exact rfl) : Reg P F0 w0 dr ops K (⟨some d, .alloc t, ty, pos, aft, g⟩ :: rest) ⟨n, sl, mem, ck, df⟩ acc := by
 subst hm'; subst hcs
 refine Sj (df' := []) hw (Bx fun E w ρ hw' hρ => ?_) h
 have hTt := tc.ok t i ht
 obtain ⟨fi, z, hi1, hi2, hi3, hi4, hi5⟩ := hTt.info
 have hf := hw'.fresh
 have hle : EnvLe E w (E.upd r w.heap.size 0 (ck + 1)) (w.alloc (.cells i.zero.toArray t)) := Env.upd_le _ _ _ _ (by have := hw'.mem.clock r; omega) (fun j hj => Bel.heap_alloc w _ j (hw'.FN j hj))
 have htn := hw'.turn (w' := w.alloc (.cells i.zero.toArray t)) r w.heap.size 0 (ck + 1) (.box (ck + 1) (i.zero.map By)) _ (ZB ck) (Nat.le_refl _) (A7 r _) ((Bel.refl _ w).alloc hw'.le0 _) (fun j hj _ => Bel.heap_alloc w _ j hj) (fun s x _ hx hh => hf.2 s x hx hh) hf.1
  ⟨by simp [Env.upd], by simp [Env.upd]; exact hw'.le0, by simp only [Env.upd, if_true]; exact hf.1, i.zero.toArray, t, by simp only [Env.upd, if_true]; exact U2 w _, by simp, fun j v x a b => (DL hTt j v x a b).le hle⟩
 exact ⟨.pointer (some ⟨w.heap.size, 0, none⟩), _, E.upd r w.heap.size 0 (ck + 1), by simp [execOp, Instr.alloc, zeroValue, typeInfo, hi1, hi4, newVar, newRow, hi5], htn.2, htn.1, .c (.bp r (ck + 1) 0 _ rfl (by simp [Env.upd]) (fun _ => by simp [Env.upd]))⟩
theorem Cs [mt : MapTy P t kt vt] [ko : KeyOk P kt G] (hi : es[i]? = some (kv, p)) (hg : G kv) (hG : ∀ e ∈ es, G e.1)
  (h : Reg P F0 w0 dr ops K rest ⟨n, (d, .c (.d p)) :: sl, mem, ck, df⟩ (1 :: acc)) (hw : GW ops g sl := by first | exact trivial | exact rfl) (hx : AH sl x = .c (.mp r k) := by exact rfl) (hm : mem[r]? = some (.mapb k kt' vt' es) := by exact rfl) (hy : AH sl y = s := by exact rfl) (hk : BM s = some kv := by exact rfl) :
  Reg P F0 w0 dr ops K (⟨some d, .lookup t x y false, ty, pos, aft, g⟩ :: rest) ⟨n, sl, mem, ck, df⟩ acc := by
 refine CU hw hm (fun mem ck hm => Bx fun E w ρ hw' hρ => ?_) h
 have e1 := hρ x (by simp [Op.operands])
 have e2 := hρ y (by simp [Op.operands])
 rw [hx] at e1; rw [hy] at e2
 have e1 := e1.mp_inv (hw'.mem.ok r _ hm).1
 have e2 := AZ e2 hk
 obtain ⟨bs, c, hw2⟩ := hw'.toMap hm
 obtain ⟨u, q1, q2, _⟩ := (Df mt.out hw2 (BC hm) (B0 hG) hg).1 i _ (EG hi)
 exact ⟨u, w, E, by simp [execOp, e1, e2, q2], EnvLe.refl _ _, hw', q1.srep⟩
theorem FM [mt : MapTy P t kt vt] [ko : KeyOk P kt G] {z : Dat} [zv : ZeroV P vt (.one z)] (hn : ∀ e ∈ es, e.1 ≠ kv) (hg : G kv) (hG : ∀ e ∈ es, G e.1)
  (h : Reg P F0 w0 dr ops K rest ⟨n, (d, .c (.d z)) :: sl, mem, ck, df⟩ (1 :: acc)) (hw : GW ops g sl := by first | exact trivial | exact rfl) (hx : AH sl x = .c (.mp r k) := by exact rfl) (hm : mem[r]? = some (.mapb k kt' vt' es) := by exact rfl) (hy : AH sl y = s := by exact rfl) (hk : BM s = some kv := by exact rfl) :
  Reg P F0 w0 dr ops K (⟨some d, .lookup t x y false, ty, pos, aft, g⟩ :: rest) ⟨n, sl, mem, ck, df⟩ acc := by
 refine CU hw hm (fun mem ck hm => Bx fun E w ρ hw' hρ => ?_) h
 have e1 := hρ x (by simp [Op.operands])
 have e2 := hρ y (by simp [Op.operands])
 rw [hx] at e1; rw [hy] at e2
 have e1 := e1.mp_inv (hw'.mem.ok r _ hm).1
 have e2 := AZ e2 hk
 obtain ⟨bs, c, hw2⟩ := hw'.toMap hm
 obtain ⟨v, hv, hz⟩ := zv.out w
 obtain ⟨q2, _⟩ := (Df mt.out hw2 (BC hm) (B0 hG) hg).2 (B0 (p := fun q => q ≠ kv) hn) v hv
 exact ⟨v, w, E, by simp [execOp, e1, e2, q2], EnvLe.refl _ _, hw', (hz E.F w).srep⟩
theorem UA [mt : MapTy P t kt vt] [ko : KeyOk P kt G] (hi : es[i]? = some (kv, p)) (hg : G kv) (hG : ∀ e ∈ es, G e.1)
   (h : Reg P F0 w0 dr ops K rest ⟨n, (d, .tup [.c (.d p), .c (.d (.lit (.bool true)))]) :: sl, mem, ck, df⟩ (1 :: acc)) (hw : GW ops g sl := by first | exact trivial | exact rfl) (hx : AH sl x = .c (.mp r k) := by exact rfl) (hm : mem[r]? = some (.mapb k kt' vt' es) := by exact rfl) (hy : AH sl y = s := by exact rfl) (hk : BM s = some kv := by exact rfl) :
   Reg P F0 w0 dr ops K (⟨some d, .lookup t x y true, ty, pos, aft, g⟩ :: rest) ⟨n, sl, mem, ck, df⟩ acc := by
 refine CU hw hm (fun mem ck hm => Bx fun E w ρ hw' hρ => ?_) h
 have e1 := hρ x (by simp [Op.operands])
 have e2 := hρ y (by simp [Op.operands])
 rw [hx] at e1; rw [hy] at e2
 have e1 := e1.mp_inv (hw'.mem.ok r _ hm).1
 have e2 := AZ e2 hk
 obtain ⟨bs, c, hw2⟩ := hw'.toMap hm
 obtain ⟨u, q1, _, q2⟩ := (Df mt.out hw2 (BC hm) (B0 hG) hg).1 i _ (EG hi)
 refine ⟨_, w, E, by simp only [execOp, e1, e2, Sem.run_bind, q2]; rfl, EnvLe.refl _ _, hw', ?_⟩
 refine .tup _ [u, .bool true] rfl fun i v x hv hx => ?_
 match i, hv, hx with
 | 0, hv, hx => cases hv; cases hx; exact q1.srep
 | 1, hv, hx => cases hv; cases hx; exact .c (.d (.lit _ rfl))
theorem RL [mt : MapTy P t kt vt] [ko : KeyOk P kt G] {z : Dat} [zv : ZeroV P vt (.one z)] (hn : ∀ e ∈ es, e.1 ≠ kv) (hg : G kv) (hG : ∀ e ∈ es, G e.1)
   (h : Reg P F0 w0 dr ops K rest ⟨n, (d, .tup [.c (.d z), .c (.d (.lit (.bool false)))]) :: sl, mem, ck, df⟩ (1 :: acc)) (hw : GW ops g sl := by first | exact trivial | exact rfl) (hx : AH sl x = .c (.mp r k) := by exact rfl) (hm : mem[r]? = some (.mapb k kt' vt' es) := by exact rfl) (hy : AH sl y = s := by exact rfl) (hk : BM s = some kv := by exact rfl) :
   Reg P F0 w0 dr ops K (⟨some d, .lookup t x y true, ty, pos, aft, g⟩ :: rest) ⟨n, sl, mem, ck, df⟩ acc := by
 refine CU hw hm (fun mem ck hm => Bx fun E w ρ hw' hρ => ?_) h
 have e1 := hρ x (by simp [Op.operands])
 have e2 := hρ y (by simp [Op.operands])
 rw [hx] at e1; rw [hy] at e2
 have e1 := e1.mp_inv (hw'.mem.ok r _ hm).1
 have e2 := AZ e2 hk
 obtain ⟨bs, c, hw2⟩ := hw'.toMap hm
 obtain ⟨v, hv, hz⟩ := zv.out w
 obtain ⟨_, q2⟩ := (Df mt.out hw2 (BC hm) (B0 hG) hg).2 (B0 (p := fun q => q ≠ kv) hn) v hv
 refine ⟨_, w, E, by simp only [execOp, e1, e2, Sem.run_bind, q2]; rfl, EnvLe.refl _ _, hw', ?_⟩
 refine .tup _ [v, .bool false] rfl fun i u x hv hx => ?_
 match i, hv, hx with
 | 0, hv, hx => cases hv; cases hx; exact (hz E.F w).srep
 | 1, hv, hx => cases hv; cases hx; exact .c (.d (.lit _ rfl))
theorem RM [mt : MapTy P t kt vt] [ko : KeyOk P kt G] {u : SVal} (hn : ∀ e ∈ es, e.1 ≠ kv) (hg : G kv) (hG : ∀ e ∈ es, G e.1)
  (h : Reg P F0 w0 dr ops K rest ⟨n, sl, mem', ck, df⟩ (2 :: acc)) (hw : GW ops g sl := by first | exact trivial | exact rfl) (hx : AH sl x = .c (.mp r k) := by exact rfl) (hm : mem[r]? = some (.mapb k kt' vt' es) := by exact rfl) (hy : AH sl y = s := by exact rfl) (hk : BM s = some kv := by exact rfl) (hz : AH sl z = u := by exact rfl) (hu : SD u (.one p) := by exact (show SD (.c _) (.one _) from rfl)) (hm' : mem.set r (.mapb k kt' vt' (es ++ [(kv, p)])) = mem' := by repeat' (first | exact AT rfl | apply Az rfl)) :
  Reg P F0 w0 dr ops K (⟨none, .mapUpdate t x y z, ty, pos, aft, g⟩ :: rest) ⟨n, sl, mem, ck, df⟩ acc := by
 subst hm'
 refine G6 (df' := []) hw (Iy fun E w ρ hw' hρ => ?_) h
 have e1 := hρ x (by simp [Op.operands])
 have e2 := hρ y (by simp [Op.operands])
 have e3 := hρ z (by simp [Op.operands])
 rw [hx] at e1; rw [hy] at e2; rw [hz] at e3
 have e1 := e1.mp_inv (hw'.mem.ok r _ hm).1
 have e2 := AZ e2 hk
 obtain ⟨bs, c, hw2⟩ := hw'.toMap hm
 obtain ⟨w', q1, q2, q3⟩ := (I1 mt.out hw2 (BC hm) (B0 hG) hg (hu.prep e3)).2 (B0 (p := fun q => q ≠ kv) hn)
 rw [WS, RK] at q3
 have q4 := q3.toMapb (BC hm)
 rw [WS] at q4
 exact ⟨w', E, by simp [execOp, e1, e2, q1], q2, q4⟩
theorem RN [mt : MapTy P t kt vt] [ko : KeyOk P kt G] {u : SVal} {p0 : Dat} (hi : es[i]? = some (kv, p0)) (hg : G kv) (hG : ∀ e ∈ es, G e.1)
  (h : Reg P F0 w0 dr ops K rest ⟨n, sl, mem', ck, df⟩ (2 :: acc)) (hw : GW ops g sl := by first | exact trivial | exact rfl) (hx : AH sl x = .c (.mp r k) := by exact rfl) (hm : mem[r]? = some (.mapb k kt' vt' es) := by exact rfl) (hy : AH sl y = s := by exact rfl) (hk : BM s = some kv := by exact rfl) (hz : AH sl z = u := by exact rfl) (hu : SD u (.one p) := by exact (show SD (.c _) (.one _) from rfl)) (hm' : mem.set r (.mapb k kt' vt' (es.set i (kv, p))) = mem' := by repeat' (first | exact AT rfl | apply Az rfl)) :
  Reg P F0 w0 dr ops K (⟨none, .mapUpdate t x y z, ty, pos, aft, g⟩ :: rest) ⟨n, sl, mem, ck, df⟩ acc := by
 subst hm'
 refine G6 (df' := []) hw (Iy fun E w ρ hw' hρ => ?_) h
 have e1 := hρ x (by simp [Op.operands])
 have e2 := hρ y (by simp [Op.operands])
 have e3 := hρ z (by simp [Op.operands])
 rw [hx] at e1; rw [hy] at e2; rw [hz] at e3
 have e1 := e1.mp_inv (hw'.mem.ok r _ hm).1
 have e2 := AZ e2 hk
 obtain ⟨bs, c, hw2⟩ := hw'.toMap hm
 obtain ⟨w', q1, q2, q3⟩ := (I1 mt.out hw2 (BC hm) (B0 hG) hg (hu.prep e3)).1 i _ (EG hi)
 rw [WS, Uz] at q3
 have q4 := q3.toMapb (BC hm)
 rw [WS] at q4
 exact ⟨w', E, by simp [execOp, e1, e2, q1], q2, q4⟩
theorem B4 {t2 : TypeId} [mt : MapTy P t kt vt] [ko : KeyOk P kt G] (hi : es[i]? = some (kv, p)) (hg : G kv) (hG : ∀ e ∈ es, G e.1)
  (h : Reg P F0 w0 dr ops K rest ⟨n, sl, mem', ck, df⟩ (2 :: acc)) (hw : GW ops g sl := by first | exact trivial | exact rfl) (hx : AH sl x = .c (.mp r k) := by exact rfl) (hm : mem[r]? = some (.mapb k kt' vt' es) := by exact rfl) (hy : AH sl y = s := by exact rfl) (hk : BM s = some kv := by exact rfl) (hm' : mem.set r (.mapb k kt' vt' (es.eraseIdx i)) = mem' := by repeat' (first | exact AT rfl | apply Az rfl)) :
  Reg P F0 w0 dr ops K (⟨none, .call ⟨.builtin .delete, #[x, y], #[t, t2]⟩, ty, pos, aft, g⟩ :: rest) ⟨n, sl, mem, ck, df⟩ acc := by
 subst hm'
 refine G6 (df' := []) (v := .junk) hw (Bx fun E w ρ hw' hρ => ?_) h
 have e1 := hρ x (by simp [Op.operands, Call.operands])
 have e2 := hρ y (by simp [Op.operands, Call.operands])
 rw [hx] at e1; rw [hy] at e2
 obtain ⟨o1, o2, o3, A, bs, c, o4, o5⟩ := hw'.mem.ok r _ hm
 have e1 := e1.mp_inv o1
 have e2 := AZ e2 hk
 have hgd : ∀ e ∈ Hh es, G e.1 := B0 hG
 have hfk := ko.find w kv A.toList hg (MapOk.good o5 hgd)
 obtain ⟨m, q1, q2, q3, q4⟩ := MapOk.look o5 (EG hi)
 rw [q4] at hfk
 have hck := ko.check w A.isEmpty kv hg
 have hlt : E.blk r < w.heap.size := (Mv.1 o4).1
 have hil := lt_of_getElem? hi
 have hAl : A.size = es.length := by rw [o5.1]; simp
 have hbl : bs.length = es.length := by rw [o5.2.1]; simp
 have hrun : (Builtin.delete_ #[t, t2] ty #[.map (some (E.blk r)), kv]).run P w = .ok (.tuple #[]) { w with heap := w.heap.setIfInBounds (E.blk r) (.map (A.eraseIdxIfInBounds i) c) } := by
  simp only [Builtin.delete_, U0, List.getElem?_cons_zero, List.getElem?_cons_succ, Sem.run_bind, run_underlying mt.out, MapKept.run_getObj_map o4, Result.andThen_ok, hck, hfk]
  rw [MapKept.run_setObj_map _ o4]
  rfl
 refine ⟨.tuple #[], { w with heap := w.heap.setIfInBounds (E.blk r) (.map (A.eraseIdxIfInBounds i) c) }, E, by simp [execOp, resolve, invoke, builtin, e1, e2, hrun], ?_⟩
 have hp := hw'.poke r _ (.mapb k kt' vt' (es.eraseIdx i)) hm trivial (fun _ => trivial) (BW w (E.blk r) (.map (A.eraseIdxIfInBounds i) c) o2) (fun j hj => by simp only; rw [PH (Ne.symm hj)]) (fun hle => by
  obtain ⟨h1, h2, h3, h0, h4, h5⟩ := o5
  have hea : A.eraseIdxIfInBounds i = A.eraseIdx i (by omega) := by rw [Array.eraseIdxIfInBounds, dif_pos (by omega)]
  refine ⟨o1, o2, o3, _, bs.eraseIdx i, c, by simp only; rw [XL hlt], ?_, ?_, h3.sublist (bJ ..), ?_, fun b hb => h4 b ((bJ ..).subset hb), fun j m' hm' => ?_⟩
  · rw [hea, Array.size_eraseIdx, hAl]; simp [List.length_eraseIdx, hil]
  · simp [List.length_eraseIdx, hil, hbl]
  · refine h0.sublist ?_
    simp only [Ve]
    exact (bJ es i).map _
  · rw [hea, ← I9, Array.toList_eraseIdx, bH] at hm'
    rw [bH]
    split at hm'
    ·rename_i hji
     rw [I9] at hm'
     obtain ⟨b1, p', b2, b3⟩ := h5 j m' hm'
     refine ⟨by rw [if_pos hji]; exact b1, p', ?_, b3.le hle⟩
     rw [B2] at b2 ⊢
     rw [bH, if_pos hji]
     exact b2
    ·rename_i hji
     rw [I9] at hm'
     obtain ⟨b1, p', b2, b3⟩ := h5 (j + 1) m' hm'
     refine ⟨by rw [if_neg hji]; exact b1, p', ?_, b3.le hle⟩
     rw [B2] at b2 ⊢
     rw [bH, if_neg hji]
     exact b2)
 exact ⟨hp.2, hp.1, .junk _⟩
theorem E4 {t2 : TypeId} [mt : MapTy P t kt vt] [ko : KeyOk P kt G] (hn : ∀ e ∈ es, e.1 ≠ kv) (hg : G kv) (hG : ∀ e ∈ es, G e.1)
  (h : Reg P F0 w0 dr ops K rest ⟨n, sl, mem', ck, df⟩ (2 :: acc)) (hw : GW ops g sl := by first | exact trivial | exact rfl) (hx : AH sl x = .c (.mp r k) := by exact rfl) (hm : mem[r]? = some (.mapb k kt' vt' es) := by exact rfl) (hy : AH sl y = s := by exact rfl) (hk : BM s = some kv := by exact rfl) (hm' : mem = mem' := by exact rfl) :
  Reg P F0 w0 dr ops K (⟨none, .call ⟨.builtin .delete, #[x, y], #[t, t2]⟩, ty, pos, aft, g⟩ :: rest) ⟨n, sl, mem, ck, df⟩ acc := by
 subst hm'
 refine G6 (df' := []) (v := .junk) hw (Bx fun E w ρ hw' hρ => ?_) h
 have e1 := hρ x (by simp [Op.operands, Call.operands])
 have e2 := hρ y (by simp [Op.operands, Call.operands])
 rw [hx] at e1; rw [hy] at e2
 obtain ⟨o1, o2, o3, A, bs, c, o4, o5⟩ := hw'.mem.ok r _ hm
 have e1 := e1.mp_inv o1
 have e2 := AZ e2 hk
 have hfk := ko.find w kv A.toList hg (MapOk.good o5 (B0 hG))
 rw [MapOk.not o5 (B0 (p := fun q => q ≠ kv) hn)] at hfk
 have hck := ko.check w A.isEmpty kv hg
 have hlt : E.blk r < w.heap.size := (Mv.1 o4).1
 have hrun : (Builtin.delete_ #[t, t2] ty #[.map (some (E.blk r)), kv]).run P w = .ok (.tuple #[]) { w with heap := w.heap.setIfInBounds (E.blk r) (.map A c) } := by
  simp only [Builtin.delete_, U0, List.getElem?_cons_zero, List.getElem?_cons_succ, Sem.run_bind, run_underlying mt.out, MapKept.run_getObj_map o4, Result.andThen_ok, hck, hfk]
  rw [MapKept.run_setObj_map _ o4]
  rfl
 refine ⟨.tuple #[], { w with heap := w.heap.setIfInBounds (E.blk r) (.map A c) }, E, by simp [execOp, resolve, invoke, builtin, e1, e2, hrun], ?_⟩
 have hp := hw'.poke r _ (.mapb k kt' vt' es) hm trivial (fun _ => trivial) (BW w (E.blk r) (.map A c) o2) (fun j hj => by simp only; rw [PH (Ne.symm hj)]) (fun hle => ⟨o1, o2, o3, A, bs, c, by simp only; rw [XL hlt], MapOk.le o5 hle⟩)
 rw [Db hm] at hp
 exact ⟨hp.2, hp.1, .junk _⟩
theorem Ws [mt : MapTy P t kt vt] [ko : KeyOk P kt G] {es : List (Value × Cell)} {p : Cell} (hi : es[i]? = some (kv, p)) (hg : G kv) (hG : ∀ e ∈ es, G e.1)
  (h : Reg P F0 w0 dr ops K rest ⟨n, (d, .c p) :: sl, mem, ck, df⟩ (1 :: acc)) (hw : GW ops g sl := by first | exact trivial | exact rfl) (hx : AH sl x = .c (.mp r k) := by exact rfl) (hm : mem[r]? = some (.mapc k kt' vt' es) := by exact rfl) (hy : AH sl y = s := by exact rfl) (hk : BM s = some kv := by exact rfl) :
  Reg P F0 w0 dr ops K (⟨some d, .lookup t x y false, ty, pos, aft, g⟩ :: rest) ⟨n, sl, mem, ck, df⟩ acc := by
 refine CU hw hm (fun mem ck hm => Bx fun E w ρ hw' hρ => ?_) h
 have e1 := hρ x (by simp [Op.operands])
 have e2 := hρ y (by simp [Op.operands])
 rw [hx] at e1; rw [hy] at e2
 obtain ⟨o1, o2, o3, A, bs, c, o4, o5⟩ := hw'.mem.ok r _ hm
 have e1 := e1.mp_inv o1
 have e2 := AZ e2 hk
 have hfk := ko.find w kv A.toList hg (o5.good hG)
 have hck := ko.check w A.isEmpty kv hg
 obtain ⟨m, q1, q2, q3, q4⟩ := o5.look hi
 rw [q4] at hfk
 have hrun : (Instr.lookup t (.map (some (E.blk r))) kv false).run P w = .ok m.val w := by
  simp only [Instr.lookup, Sem.run_bind, run_underlying mt.out, MapKept.run_getObj_map o4, Result.andThen_ok, Sem.run_pure, hck, hfk, Bool.false_eq_true, if_false]
 exact ⟨m.val, w, E, by simp [execOp, e1, e2, hrun], EnvLe.refl _ _, hw', .c q3⟩
theorem UB [mt : MapTy P t kt vt] [ko : KeyOk P kt G] {es : List (Value × Cell)} (hz : (P.info? vt).map (·.zero) = some (some (.slice none 0 0))) (hn : ∀ e ∈ es, e.1 ≠ kv) (hg : G kv) (hG : ∀ e ∈ es, G e.1)
  (h : Reg P F0 w0 dr ops K rest ⟨n, (d, .c .emp) :: sl, mem, ck, df⟩ (1 :: acc)) (hw : GW ops g sl := by first | exact trivial | exact rfl) (hx : AH sl x = .c (.mp r k) := by exact rfl) (hm : mem[r]? = some (.mapc k kt' vt' es) := by exact rfl) (hy : AH sl y = s := by exact rfl) (hk : BM s = some kv := by exact rfl) :
  Reg P F0 w0 dr ops K (⟨some d, .lookup t x y false, ty, pos, aft, g⟩ :: rest) ⟨n, sl, mem, ck, df⟩ acc := by
 refine CU hw hm (fun mem ck hm => Bx fun E w ρ hw' hρ => ?_) h
 have e1 := hρ x (by simp [Op.operands])
 have e2 := hρ y (by simp [Op.operands])
 rw [hx] at e1; rw [hy] at e2
 obtain ⟨o1, o2, o3, A, bs, c, o4, o5⟩ := hw'.mem.ok r _ hm
 have e1 := e1.mp_inv o1
 have e2 := AZ e2 hk
 have hfk := ko.find w kv A.toList hg (o5.good hG)
 have hck := ko.check w A.isEmpty kv hg
 rw [o5.not hn] at hfk
 have hzr : (zeroValue vt).run P w = .ok (.slice none 0 0) w := by
  cases hq : P.info? vt with
  | none => rw [hq] at hz; cases hz
  | some i =>
    rw [hq] at hz
    simp only [Option.map_some, Option.some.injEq] at hz
    simp [zeroValue, typeInfo, hq, hz]
 have hrun : (Instr.lookup t (.map (some (E.blk r))) kv false).run P w = .ok (.slice none 0 0) w := by
  simp only [Instr.lookup, Sem.run_bind, run_underlying mt.out, MapKept.run_getObj_map o4, Result.andThen_ok, Sem.run_pure, hck, hfk, hzr, Bool.false_eq_true, if_false]
 exact ⟨.slice none 0 0, w, E, by simp [execOp, e1, e2, hrun], EnvLe.refl _ _, hw', .c (.emp _)⟩
theorem RO [mt : MapTy P t kt vt] [ko : KeyOk P kt G] {es : List (Value × Cell)} {p : Cell} (hn : ∀ e ∈ es, e.1 ≠ kv) (hg : G kv) (hG : ∀ e ∈ es, G e.1)
  (h : Reg P F0 w0 dr ops K rest ⟨n, sl, mem', ck, df⟩ (2 :: acc)) (hw : GW ops g sl := by first | exact trivial | exact rfl) (hx : AH sl x = .c (.mp r k) := by exact rfl) (hm : mem[r]? = some (.mapc k kt' vt' es) := by exact rfl) (hy : AH sl y = s := by exact rfl) (hk : BM s = some kv := by exact rfl) (hz : AH sl z = .c p := by exact rfl) (hm' : mem.set r (.mapc k kt' vt' (es ++ [(kv, p)])) = mem' := by exact rfl) :
  Reg P F0 w0 dr ops K (⟨none, .mapUpdate t x y z, ty, pos, aft, g⟩ :: rest) ⟨n, sl, mem, ck, df⟩ acc := by
 subst hm'
 refine G6 (df' := []) hw (Iy fun E w ρ hw' hρ => ?_) h
 have e1 := hρ x (by simp [Op.operands])
 have e2 := hρ y (by simp [Op.operands])
 have e3 := hρ z (by simp [Op.operands])
 rw [hx] at e1; rw [hy] at e2; rw [hz] at e3
 obtain ⟨o1, o2, o3, A, bs, c, o4, o5⟩ := hw'.mem.ok r _ hm
 have e1 := e1.mp_inv o1
 have e2 := AZ e2 hk
 have hlt : E.blk r < w.heap.size := (Mv.1 o4).1
 have hfk := ko.find w kv A.toList hg (o5.good hG)
 have hck := ko.check w false kv hg
 rw [o5.not hn] at hfk
 have hrun : (Instr.mapUpdate t (.map (some (E.blk r))) kv (ρ z)).run P w = .ok () { w with heap := w.heap.setIfInBounds (E.blk r) (.map (A.push { key := kv, val := ρ z, born := c }) (c + 1)) } := by
  simp only [Instr.mapUpdate, Sem.run_bind, run_underlying mt.out, MapKept.run_getObj_map o4, Result.andThen_ok, hck, hfk]
  exact MapKept.run_setObj_map _ o4
 have hp := hw'.poke r _ (.mapc k kt' vt' (es ++ [(kv, p)])) hm trivial (fun _ => trivial) (BW w (E.blk r) (.map (A.push { key := kv, val := ρ z, born := c }) (c + 1)) o2) (fun j hj => by simp only; rw [PH (Ne.symm hj)]) (fun hle => by
  obtain ⟨h1, h2, h3, h0, h4, h5⟩ := o5
  refine ⟨o1, o2, o3, _, bs ++ [c], c + 1, by simp only; rw [XL hlt], by simp [h1], by simp [h2], ?_, ?_, fun b hb => ?_, fun j m' hm' => ?_⟩
  · rw [WO]
    refine ⟨h3, by simp, fun a ha b hb q => ?_⟩
    simp at hb
    subst hb
    have := h4 a ha
    omega
  · rw [Ah', WO]
    refine ⟨h0, by simp, fun a ha b hb q => ?_⟩
    simp at hb
    obtain ⟨e, he, rfl⟩ := List.mem_map.1 ha
    exact hn e he (q.trans hb)
  · rcases Ej.1 hb with hb | hb
    ·have := h4 b hb; omega
    ·simp at hb; omega
  · rw [Array.getElem?_push] at hm'
    split at hm'
    ·rename_i hj
     simp only [Option.some.injEq] at hm'
     subst hm'
     have e3 := e3.cell_of
     exact ⟨by rw [hj, LB (by omega)]; simp [h1, h2], p, by rw [hj, LB (by omega)]; simp [h1], e3.le hle⟩
    ·obtain ⟨b1, p', b2, b3⟩ := h5 j m' hm'
     exact ⟨by rw [Ku (lt_of_getElem? b1)]; exact b1, p', by rw [Ku (lt_of_getElem? b2)]; exact b2, b3.le hle⟩)
 exact ⟨_, E, by simp [execOp, e1, e2, hrun], hp.2, hp.1⟩
theorem RP [mt : MapTy P t kt vt] [ko : KeyOk P kt G] {es : List (Value × Cell)} {p p0 : Cell} (hi : es[i]? = some (kv, p0)) (hg : G kv) (hG : ∀ e ∈ es, G e.1)
  (h : Reg P F0 w0 dr ops K rest ⟨n, sl, mem', ck, df⟩ (2 :: acc)) (hw : GW ops g sl := by first | exact trivial | exact rfl) (hx : AH sl x = .c (.mp r k) := by exact rfl) (hm : mem[r]? = some (.mapc k kt' vt' es) := by exact rfl) (hy : AH sl y = s := by exact rfl) (hk : BM s = some kv := by exact rfl) (hz : AH sl z = .c p := by exact rfl) (hm' : mem.set r (.mapc k kt' vt' (es.set i (kv, p))) = mem' := by exact rfl) :
  Reg P F0 w0 dr ops K (⟨none, .mapUpdate t x y z, ty, pos, aft, g⟩ :: rest) ⟨n, sl, mem, ck, df⟩ acc := by
 subst hm'
 refine G6 (df' := []) hw (Iy fun E w ρ hw' hρ => ?_) h
 have e1 := hρ x (by simp [Op.operands])
 have e2 := hρ y (by simp [Op.operands])
 have e3 := hρ z (by simp [Op.operands])
 rw [hx] at e1; rw [hy] at e2; rw [hz] at e3
 obtain ⟨o1, o2, o3, A, bs, c, o4, o5⟩ := hw'.mem.ok r _ hm
 have e1 := e1.mp_inv o1
 have e2 := AZ e2 hk
 have hlt : E.blk r < w.heap.size := (Mv.1 o4).1
 have hfk := ko.find w kv A.toList hg (o5.good hG)
 have hck := ko.check w false kv hg
 obtain ⟨m, q1, q2, q3, q4⟩ := o5.look hi
 rw [q4] at hfk
 have hks : (Instr.keyThatStays m.key kv).run P w = .ok kv w := by
  rw [q2]
  simp [Instr.keyThatStays, ko.same kv hg]
 have hrun : (Instr.mapUpdate t (.map (some (E.blk r))) kv (ρ z)).run P w = .ok () { w with heap := w.heap.setIfInBounds (E.blk r) (.map (A.modify i fun e => { e with key := kv, val := ρ z }) c) } := by
  simp only [Instr.mapUpdate, Sem.run_bind, run_underlying mt.out, MapKept.run_getObj_map o4, Result.andThen_ok, hck, hfk, q1, Option.map_some, Sg, hks]
  exact MapKept.run_setObj_map _ o4
 have hp := hw'.poke r _ (.mapc k kt' vt' (es.set i (kv, p))) hm trivial (fun _ => trivial) (BW w (E.blk r) (.map (A.modify i fun e => { e with key := kv, val := ρ z }) c) o2) (fun j hj => by simp only; rw [PH (Ne.symm hj)]) (fun hle => by
  obtain ⟨h1, h2, h3, h0, h4, h5⟩ := o5
  refine ⟨o1, o2, o3, _, bs, c, by simp only; rw [XL hlt], by simpa using h1, by simpa using h2, h3, ?_, h4, fun j m' hm' => ?_⟩
  · have hlt2 := lt_of_getElem? hi
    rw [Bh hlt2] at hi
    simp only [Option.some.injEq] at hi
    rw [U7]
    have : (es.map Prod.fst).set i kv = es.map Prod.fst := by
     apply PJ
     intro j
     by_cases hij : i = j
     ·subst hij
      rw [I7 (by simpa using hlt2)]
      simp [Bh hlt2, hi]
     ·rw [Kt hij]
    rw [this]; exact h0
  · rw [bL] at hm'
    by_cases hij : i = j
    ·subst hij
     rw [if_pos rfl, q1] at hm'
     simp only [Option.map_some, Option.some.injEq] at hm'
     subst hm'
     have e3 := e3.cell_of
     refine ⟨(h5 i m q1).1, p, ?_, e3.le hle⟩
     rw [I7 (lt_of_getElem? hi)]
    ·rw [if_neg hij] at hm'
     obtain ⟨b1, p', b2, b3⟩ := h5 j m' hm'
     exact ⟨b1, p', by rw [Kt hij]; exact b2, b3.le hle⟩)
 exact ⟨_, E, by simp [execOp, e1, e2, hrun], hp.2, hp.1⟩
end
section
variable {P : Program} {T : TypeId → Option TI} {B : Base} {Q : Ex → St → Prop} {n : Nat} {sl : List (Nat × SVal)} {mem : List Blk} {ck : Nat} {df : List (FuncId × List Cell)}
theorem UC (r : Nat) {c' : Nat} {c : Code} (h : ARun P B c ⟨n, sl, m1, ck, df⟩ Q) (hm : mem[r]? = some (.map k kt vt [] bs c') := by exact rfl) (hm1 : mem.set r (.mapb k kt vt []) = m1 := by repeat' (first | exact AT rfl | apply Az rfl)) : ARun P B c ⟨n, sl, mem, ck, df⟩ Q := by
 subst hm1
 rintro a w ⟨E, ⟨hw, hsz, hdf, hsl⟩, hle⟩
 exact h a w ⟨E, ⟨hw.toMapb (es := []) hm, hsz, hdf, hsl⟩, hle⟩
theorem UD (r : Nat) {c' : Nat} {c : Code} (h : ARun P B c ⟨n, sl, m1, ck, df⟩ Q) (hm : mem[r]? = some (.map k kt vt [] bs c') := by exact rfl) (hm1 : mem.set r (.mapc k kt vt []) = m1 := by repeat' (first | exact AT rfl | apply Az rfl)) : ARun P B c ⟨n, sl, mem, ck, df⟩ Q := by
 subst hm1
 rintro a w ⟨E, ⟨hw, hsz, hdf, hsl⟩, hle⟩
 exact h a w ⟨E, ⟨hw.toMapc hm, hsz, hdf, hsl⟩, hle⟩
theorem QA (r : Nat) {ety : TypeId} {esz : Nat} {es : List (List Dat)} (m : Nat) {es' : List (List Dat)} {c : Code} (h : ARun P B c ⟨n, sl, m1, ck, df⟩ Q) (hes : es.take m = es') (hm : mem[r]? = some (.arr k ety esz es) := by exact rfl)
  (hm1 : mem.set r (.arr k ety esz es') = m1 := by repeat' (first | exact AT rfl | apply Az rfl)) : ARun P B c ⟨n, sl, mem, ck, df⟩ Q := by
 subst hm1; subst hes
 rintro a w ⟨E, ⟨hw, hsz, hdf, hsl⟩, hle⟩
 obtain ⟨h1, h2, h3, h4, h5, h6⟩ := hw.mem.ok r _ hm
 refine h a w ⟨E, ⟨hw.swap r _ _ hm (fun q => q) ⟨h1, h2, fun e he => h3 e (IS he), by simp; omega, h5, ?_⟩, hsz, hdf, hsl⟩, hle⟩
 rcases h6 with h6 | ⟨g1, g2, cc, g3, g4, g5, g6⟩
 ·exact .inl h6
 ·refine .inr ⟨g1, g2, cc, g3, g4, g5, fun i j e v x q1 q2 q3 => ?_⟩
  rw [LD] at q1
  split at q1
  · exact g6 i j e v x q1 q2 q3
  · cases q1
theorem YP (base r : Nat) {es : List (Value × Cell)} (es' : List (Value × Dat)) {c : Code} (h : ARun P B c ⟨n, sl, m1, ck, df⟩ Q) (hm : mem[r]? = some (.mapc k kt vt es)) (hr : r < base) (hl : es'.length = es.length)
  (hes : ∀ (i : Nat) (kv : Value) (x : Cell), es[i]? = some (kv, x) → ∃ y, es'[i]? = some (kv, y) ∧ av mem base x y) (hm1 : (mem.take base).set r (.mapb k kt vt es') = m1) : ARun P B c ⟨n, sl, mem, ck, df⟩ Q := by
 subst hm1
 rintro a w ⟨E, ⟨hw, hsz, hdf, hsl⟩, hle⟩
 obtain ⟨t1, t2, t3⟩ := hw.thaw base
 obtain ⟨o1, o2, o3, A, bs, c', o4, h1, h2, h3, h0, h4, h5⟩ := hw.mem.ok r _ hm
 have hm' : (mem.take base)[r]? = some (.mapc k kt vt es) := by rw [LD, if_pos hr]; exact hm
 obtain ⟨p1, p2, p3, _⟩ := t1.mem.ok r _ hm'
 have hf : (Hh es').map Prod.fst = es.map Prod.fst := by
  apply PJ
  intro i
  rw [B2, B2]
  cases hq : es[i]? with
  | none => rw [UZ (by simp [Hh, hl]; exact List.getElem?_eq_none_iff.1 hq)]; rfl
  | some e =>
    obtain ⟨y, hy, _⟩ := hes i e.1 e.2 hq
    rw [EG hy]; rfl
 refine h a w ⟨Lo E mem base, ⟨t1.swap r _ _ hm' (fun _ => trivial) ⟨p1, p2, p3, A, bs, c', o4, by rw [h1]; simp [hl], by rw [h2]; simp [hl], h3, by rw [show ((es'.map fun e => (e.1, PV.one e.2)).map Prod.fst) = es.map Prod.fst from hf]; exact h0, h4, fun i m hi => ?_⟩, hsz, hdf.le t2, fun s => (hsl s).le t2⟩, hle.trans t2⟩
 obtain ⟨b1, p, b2, b3⟩ := h5 i m hi
 obtain ⟨y, hy, hc⟩ := hes i _ _ b2
 exact ⟨b1, .one y, EG hy, t3 _ _ _ hc b3⟩
end
end Go.Abs
end
