/-
  Arrays of the call's own whose elements hold cells: handles of other slices of its own.
-/
import Derived.Test.YtmpgmjlanngkfaaGreatMpc
section
namespace Go.Abs
open Go.RowKit
variable {cs : List Cell} {e iX t : TypeId} {ei i : TI} {es : List (List Cell)} {i6 k m o r z : Nat} {f' : List Blk} {x y : Operand}
section
variable {P : Program} {T : TypeId → Option TI} {F0 : Nat → Prop} {w0 w : World} {E : Env} {mem : List Blk} {ck : Nat}
def FlatC (D : Value → Cell → Prop) (i6 : Nat) (es : List (List Cell)) (c : List Value) : Prop :=
 ∀ (i j : Nat) e v x, es[i]? = some e → e[j]? = some x → c[i * i6 + j]? = some v → D v x
theorem FlatC.snoc {D : Value → Cell → Prop} {jZ news rest : List Value} (lr : jZ.length = es.length * i6) (j6 : ∀ e ∈ es, e.length = i6) (jF : cs.length = i6) (qB : news.length = i6)
  (h1 : FlatC D i6 es jZ) (h2 : ∀ (j : Nat) v x, cs[j]? = some x → news[j]? = some v → D v x) : FlatC D i6 (es ++ [cs]) (jZ ++ news ++ rest) := by
 intro i j e v x q1 q2 q3
 rw [aU] at q1
 split at q1
 ·rename_i hi
  have hj : j < i6 := by have := lt_of_getElem? q2; rw [j6 e (Cb q1)] at this; exact this
  have i7 : i * i6 + j < jZ.length := by
    rw [lr]
    have : (i + 1) * i6 ≤ es.length * i6 := HJ _ hi
    rw [Gg, Kf] at this
    omega
  rw [Hc, Np i7] at q3
  exact h1 i j e v x q1 q2 q3
 ·rename_i hi
  have sw := lt_of_getElem? q1
  simp only [Tm] at sw
  obtain rfl : i = es.length := by omega
  rw [Ts] at q1
  simp only [List.getElem?_cons_zero, Option.some.injEq] at q1
  subst q1
  have hj : j < i6 := by have := lt_of_getElem? q2; omega
  rw [Hc, ← lr, Oy (by omega), Nat.add_sub_cancel_left, Np (by omega)] at q3
  exact h2 j v x q2 q3
theorem WOk.growArx {w' : World} (h : WOk F0 w0 E w mem ck) (r k : Nat) (iX : TypeId) (i6 : Nat) (uM : List (List Cell)) (hr : mem[r]? = some (.arrx k iX i6 uM))
  (b cap : Nat) (es : List (List Cell)) (j6 : ∀ e, e ∈ es → e.length = i6) (jB : es.length ≤ cap) (jC : cap ≤ maxLen)
  (hb : b = w.heap.size ∨ (b = E.blk r ∧ E.cap r ≠ 0))
  (jO : Bel w0.heap.size w w') (hold : ∀ i, i < w.heap.size → i ≠ b → w'.heap[i]? = w.heap[i]?)
  (hc : ∃ c, w'.heap[b]? = some (.cells c iX (0, 0)) ∧ c.size = cap * i6 ∧ (∀ v ∈ c, v.oneCell' = true) ∧ FlatC (CRep E w) i6 es c.toList) :
  let E' := E.upd r b cap (ck + 1)
  WOk F0 w0 E' w' (mem.set r (.arrx (ck + 1) iX i6 es)) (ck + 1) ∧ EnvLe E w E' w' := by
 intro E'
 have hf := h.fresh
 have ho := h.mem.ok r _ hr
 have mB : ¬ (E.F b ∨ E.N b) ∧ w0.heap.size ≤ b := by
  rcases hb with rfl | ⟨rfl, hz⟩
  · exact ⟨hf.1, h.le0⟩
  · have := ho.lt (show Blk.has E r _ from hz); exact ⟨this.2.2, this.2.1⟩
 have nC : ∀ s x, s ≠ r → mem[s]? = some x → x.has E s → E.blk s ≠ b := by
  intro s x hs hx hh
  rcases hb with rfl | ⟨rfl, hz⟩
  · exact hf.2 s x hx hh
  · exact h.mem.apart s r x _ hx hr hh hz hs
 have hle : EnvLe E w E' w' := Env.upd_le _ _ _ _ (by have := h.mem.clock r; omega) (fun i hi => hold i (h.FN i hi) (fun e => mB.1 (e ▸ hi)))
 refine h.turn _ _ _ _ _ _ (by omega) (Nat.le_refl _) (Bj r _) jO hold nC mB.1 ?_
 refine ⟨by simp [Env.upd], ho.2.1, j6, by simpa [Env.upd] using jB, by simpa [Env.upd] using jC, ?_⟩
 obtain ⟨c, h1, h2, h0, h3⟩ := hc
 exact .inr ⟨by simp [Env.upd]; exact mB.2, by simp only [Env.upd, if_true]; exact mB.1, c, by simp only [Env.upd, if_true]; exact h1, by simpa [Env.upd] using h2, h0, fun i j e v x a b d => (h3 i j e v x a b (by simpa using d)).le hle⟩
theorem WOk.arxCells (h : WOk F0 w0 E w mem ck) (hr : mem[r]? = some (.arrx k iX i6 es)) (hc : E.cap r ≠ 0) :
  w0.heap.size ≤ E.blk r ∧ ¬ (E.F (E.blk r) ∨ E.N (E.blk r)) ∧ ∃ c, w.heap[E.blk r]? = some (.cells c iX (0, 0)) ∧ c.size = E.cap r * i6 ∧ (∀ v ∈ c, v.oneCell' = true) ∧ FlatC (CRep E w) i6 es c.toList := by
 obtain ⟨h1, h2, h3, h4, h5, h6⟩ := h.mem.ok r _ hr
 rcases h6 with h6 | ⟨a1, a2, c, a3, a4, a5, a6⟩
 ·exact absurd h6 hc
 ·exact ⟨a1, a2, c, a3, a4, a5, fun i j e v x q1 q2 q3 => a6 i j e v x q1 q2 (by simpa using q3)⟩
theorem WOk.appX (h : WOk F0 w0 E w mem ck) (hT : AL P T) {ty : TypeId} (ht : T t = some i) (hi : i.desc = .slice e) (jg : T e = some ei) (mE : ei.zero.length = ei.size) {u : Value} {b2 c2 : Nat} {news : List Value}
  (hr : mem[r]? = some (.arrx k e ei.size es)) (hm : es.length = m) (hu : (E.cap r = 0 ∧ m = 0 ∧ ∃ a, u = .slice a 0 0) ∨ (0 < E.cap r ∧ u = .slice (some ⟨E.blk r, 0, none⟩) m (E.cap r)))
  (mK : m + 1 ≤ maxLen) (lp : (m + 1) * ei.bytes ≤ 140737488355328) (jz : cs.length = ei.size) (lL : news.length = ei.size) (mf : ∀ (j : Nat) v, news[j]? = some v → w.cell? ⟨b2, 0 + j, none⟩ = some v) (kQ : ∀ v ∈ news, v.oneCell' = true) (vh : ∀ (j : Nat) v x, cs[j]? = some x → news[j]? = some v → CRep E w v x) :
  ∃ v' w' b cap, (Builtin.append_ #[t, t] ty #[u, .slice (some ⟨b2, 0, none⟩) 1 c2]).run P w = .ok v' w' ∧ 0 < cap ∧ v' = .slice (some ⟨b, 0, none⟩) (m + 1) cap ∧ WOk F0 w0 (E.upd r b cap (ck + 1)) w' (mem.set r (.arrx (ck + 1) e ei.size (es ++ [cs]))) (ck + 1) ∧ EnvLe E w (E.upd r b cap (ck + 1)) w' := by
 have hU : P.underlying t = some (.slice e) := by have := (hT t i ht).desc; rw [hi] at this; exact this
 obtain ⟨fi, z, k6, kr, jb, kG, kq⟩ := (hT e ei jg).info
 have hz : z.cells.size = ei.size := by rw [kq]; simpa using mE
 have lj : ∀ v ∈ z.cells, v.oneCell' = true := fun v hv => (hT e ei jg).ones v (by rw [kq] at hv; simpa using hv)
 obtain ⟨o1, o2, o3, o4, o5, _⟩ := h.mem.ok r _ hr
 have j9 : ∀ el, el ∈ es ++ [cs] → el.length = ei.size := fun el jo => by
  rcases EY.1 jo with q | q
  · exact o3 el q
  · rw [Ke] at q; subst q; exact jz
 have hlen : (es ++ [cs]).length = m + 1 := by simp [hm]
 have pU : ((m + 1 : Nat) : Int) ≤ 9223372036854775807 := by simp only [maxLen] at mK; omega
 have nJ : news.length = 1 * ei.size := by omega
 rcases hu with ⟨nW, mg, a, rfl⟩ | ⟨lD, rfl⟩
 ·subst mg
  obtain rfl : es = [] := XP hm
  obtain ⟨jw, hg, mD, nc, c, lh, me, mq, mo⟩ := DS (w := w) (e := e) (old := 0) (i6 := ei.size) (mN := 1) hz nJ (by omega) lj kQ
  have j7 : (Builtin.append_ #[t, t] ty #[.slice a 0 0, .slice (some ⟨b2, 0, none⟩) 1 c2]).run P w =
      .ok (.slice (some ⟨w.heap.size, 0, none⟩) 1 jw) (w.drew.alloc (.cells (news.toArray ++ Builtin.zeroCells z.cells (jw - 1)) e)) := by
    cases a with
    | none =>
      have := run_append_nil (P := P) w t ty e fi z hU k6 kG ⟨b2, 0, none⟩ 1 c2 news (by rw [kr]; exact nJ) (fun j v hv => by rw [Addr.add_lit]; exact mf j v hv) (by omega) (by omega) (by rw [jb]; omega)
      rw [hg]; exact this
    | some a =>
      have := run_append_grow (P := P) w t ty e fi z hU k6 kG a 0 0 [] (by simp) (by simp) ⟨b2, 0, none⟩ 1 c2 news (by rw [kr]; exact nJ) (fun j v hv => by rw [Addr.add_lit]; exact mf j v hv) (by omega) (by omega)
        (by rw [jb]; exact growslice_fits (by omega) (by simpa using lp))
      simp only [Nat.zero_add, gm] at this
      rw [hg]; exact this
  have oE := h.growArx (w' := w.drew.alloc (.cells (news.toArray ++ Builtin.zeroCells z.cells (jw - 1)) e)) r k e ei.size [] hr w.heap.size jw ([] ++ [cs]) j9 (by simp; omega) nc (.inl rfl) (Df w _ h.le0)
    (fun i hi _ => by rw [Bel.heap_alloc w.drew _ i hi]; rfl) ⟨c, lh, me, mq, by
      have := FlatC.snoc (D := CRep E w) (es := []) (cs := cs) (jZ := []) (news := news) (rest := (Builtin.zeroCells z.cells (jw - 1)).toList) (by simp) (by simp) jz lL (fun _ _ _ _ _ q => by simp at q) vh
      rw [mo]; simpa using this⟩
  exact ⟨_, _, _, jw, j7, by omega, rfl, oE.1, oE.2⟩
 ·obtain ⟨p1, p2, c, p3, p4, p0, p5⟩ := h.arxCells hr (by omega)
  have yG : m ≤ E.cap r := by omega
  have r6 : m * ei.size ≤ c.size := by rw [p4]; exact HJ _ yG
  have lr : (c.toList.take (m * ei.size)).length = m * ei.size := by simp; omega
  have kY : FlatC (CRep E w) ei.size es (c.toList.take (m * ei.size)) := by
    intro i j e' v x q1 q2 q3
    rw [Mc] at q3
    split at q3
    · exact p5 i j e' v x q1 q2 q3
    · cases q3
  by_cases nf : m + 1 ≤ E.cap r
  · have j8 : m * ei.size + news.length ≤ c.size := by rw [nJ, p4, ← Gg]; exact HJ _ nf
    have j7 := run_append_room (P := P) w t ty e fi hU k6 (E.blk r) m (E.cap r) c p3 ⟨b2, 0, none⟩ 1 c2 news (by rw [kr]; exact nJ) (fun j v hv => by rw [Addr.add_lit]; exact mf j v hv) kQ nf (by rw [kr]; exact j8)
    rw [kr] at j7
    have hg := h.growArx (w' := w.setRow (E.blk r) (c.toList.take (m * ei.size) ++ news ++ c.toList.drop (m * ei.size + news.length)).toArray) r k e ei.size es hr (E.blk r) (E.cap r) (es ++ [cs]) j9 (by omega) o5 (.inr ⟨rfl, by omega⟩) (CO w _ _ p1) (fun i hi j2 => setRow_other w _ i _ j2)
      ⟨_, setRow_heap w _ c _ e _ p3, by
        have := By (l := c.toList) (m := news) (o := m * ei.size) (by simpa using j8)
        simp only [XT, this, U2, p4], fun v hv => DR p0 kQ (by simpa using hv), by
        have := FlatC.snoc (D := CRep E w) (es := es) (cs := cs) (jZ := c.toList.take (m * ei.size)) (news := news) (rest := c.toList.drop (m * ei.size + news.length)) (by rw [lr, hm]) o3 jz lL kY vh
        simpa using this⟩
    exact ⟨_, _, _, E.cap r, j7, lD, rfl, hg.1, hg.2⟩
  · have ky : (c.toList.take (m * ei.size) ++ news).length = (m + 1) * ei.size := by rw [CR, lr, nJ, Gg]
    obtain ⟨jw, hg, mD, nc, c', lh, me, mq, mo⟩ := DS (w := w) (e := e) (old := E.cap r) hz ky mK lj (fun v hv => by
      rcases EY.1 hv with hv | hv
      · exact p0 v (by simpa using I0 hv)
      · exact kQ v hv)
    have j7 := run_append_grow (P := P) w t ty e fi z hU k6 kG ⟨E.blk r, 0, none⟩ m (E.cap r) (c.toList.take (m * ei.size)) (by rw [kr]; exact lr) (fun j v hv => by
        rw [Addr.add_lit, Bx p3]
        rw [Mc] at hv
        split at hv
        · simpa using hv
        · cases hv) ⟨b2, 0, none⟩ 1 c2 news (by rw [kr]; exact nJ) (fun j v hv => by rw [Addr.add_lit]; exact mf j v hv) (by omega) pU (by rw [jb]; exact growslice_fits (by omega) lp)
    have oT : (c.toList.take (m * ei.size)).toArray ++ news.toArray = (c.toList.take (m * ei.size) ++ news).toArray := by simp
    rw [oT, ← hg] at j7
    have oE := h.growArx (w' := w.drew.alloc (.cells ((c.toList.take (m * ei.size) ++ news).toArray ++ Builtin.zeroCells z.cells (jw - (m + 1))) e)) r k e ei.size es hr w.heap.size jw (es ++ [cs]) j9 (by omega) nc (.inl rfl) (Df w _ h.le0)
      (fun i hi _ => by rw [Bel.heap_alloc w.drew _ i hi]; rfl)
      ⟨c', lh, me, mq, by
        have := FlatC.snoc (D := CRep E w) (es := es) (cs := cs) (jZ := c.toList.take (m * ei.size)) (news := news) (rest := (Builtin.zeroCells z.cells (jw - (m + 1))).toList) (by rw [lr, hm]) o3 jz lL kY vh
        rw [mo]; exact this⟩
    exact ⟨_, _, _, jw, j7, by omega, rfl, oE.1, oE.2⟩
end
section
variable {P : Program} {T : TypeId → Option TI} {F0 : Nat → Prop} {w0 : World}
variable {dr : Bool} {ops rest : List Oper} {K : St → Prop} {n : Nat} {sl : List (Nat × SVal)} {mem : List Blk} {ck : Nat} {df : List (FuncId × List Cell)} {acc : List Nat}
variable {d : Tmp} {op : Op} {ty : TypeId} {pos : String} {iU : Array Edge} {g : Option (Nat × Bool)}
theorem TJ [tc : TC P T] (r : Nat) (h : Reg P F0 w0 dr ops K rest ⟨n, (d, .c (.arr r (ck + 1) 1)) :: sl, f', ck + 1, df⟩ (2 :: acc)) (_ : mem[r]? = some .dead := by exact rfl) (hw : GW ops g sl := by first | exact trivial | exact rfl)
  (hx : AH sl x = .agg cs := by exact rfl) (ht : T t = some i := by exact rfl) (hi : i.desc = .slice e := by exact rfl) (jg : T e = some ei := by exact rfl) (hc : (Nat.blt 0 ei.size && Nat.beq ei.zero.length ei.size && Nat.ble ei.size 16777216 && Nat.beq cs.length ei.size) = true := by exact rfl) (iZ : mem.set r (.arrx (ck + 1) e ei.size [cs]) = f' := by exact rfl) :
  Reg P F0 w0 dr ops K (⟨some d, .buildSlice t 1 #[(0, x)], ty, pos, iU, g⟩ :: rest) ⟨n, sl, mem, ck, df⟩ acc := by
 subst iZ
 refine U6 (jx := []) hw (BF fun E w ρ j0 hρ => ?_) h
 have e1 := hρ x (by simp [Op.operands])
 rw [hx] at e1
 simp only [BM, Sd, Md, Nat.blt, Tq] at hc
 obtain ⟨⟨⟨h1, h2⟩, h3⟩, h4⟩ := hc
 obtain ⟨c1, c2, c3⟩ := e1.cellsOf (show SVal.cells (.agg cs) = some cs from rfl)
 have hu : P.underlying t = some (.slice e) := by have := (tc.ok t i ht).desc; rw [hi] at this; exact this
 have j3 := (tc.ok e ei jg).sizeOf (w := w)
 obtain ⟨fi, z, k6, kr, jb, kG, kq⟩ := (tc.ok e ei jg).info
 obtain ⟨jA, lu, om, pG⟩ := I2 (fun i => some (i * ei.size, ei.size)) ((Array.range (1 * ei.size)).map (z.cells[· % z.cells.size]!)) 0 (0 * ei.size) ei.size (ρ x) [] rfl (by omega) (by simp)
 have jz : jA.toList = (ρ x).cells.toList := by
  rw [pG]
  simp only [Nat.zero_mul, List.take_zero, List.nil_append, Nat.zero_add]
  rw [List.drop_of_length_le (by simp), List.append_nil]
 have jF : jA.size = 1 * ei.size := by rw [om]; simp
 have mR : ∀ v ∈ jA, v.oneCell' = true := fun v hv => c2 v (by rw [← jz]; simpa using hv)
 have j7 : (Instr.buildSlice t 1 #[(0, ρ x)]).run P w = .ok (.slice (some ⟨w.heap.size, 0, none⟩) 1 1) (w.alloc (.cells jA e)) := by
  simp only [Instr.buildSlice, Sem.run_bind, run_underlying hu, Result.andThen_ok, j3]
  rw [if_neg (show ¬ 1 * ei.size > 2 ^ 24 by omega)]
  simp only [Sem.run_pure, Result.andThen_ok, if_neg (show ¬ 1 * ei.size = 0 by omega), Sem.run_bind, zeroValue, typeInfo, run_program, k6, kG]
  rw [lu]
  simp only [Instr.fill, Sem.run_bind, newRow, run_newObj, Result.andThen_ok, Sem.run_pure, World.alloc_eq]
 have hf := j0.fresh
 have hle : EnvLe E w (E.upd r w.heap.size 1 (ck + 1)) (w.alloc (.cells jA e)) := Env.upd_le _ _ _ _ (by have := j0.mem.clock r; omega) (fun j hj => Bel.heap_alloc w _ j (j0.FN j hj))
 have nk := j0.turn (w' := w.alloc (.cells jA e)) r w.heap.size 1 (ck + 1) (.arrx (ck + 1) e ei.size [cs]) _ (dI ck) (Nat.le_refl _) (Bj r _) ((Bel.refl _ w).alloc j0.le0 _) (fun j hj _ => Bel.heap_alloc w _ j hj) (fun s x _ hx hh => hf.2 s x hx hh) hf.1
  ⟨by simp [Env.upd], h1, fun e' kd => by rw [Ke] at kd; subst kd; exact h4, by simp [Env.upd], by simp [Env.upd, maxLen], .inr ⟨by simp [Env.upd]; exact j0.le0, by simp only [Env.upd, if_true]; exact hf.1, jA, by simp only [Env.upd, if_true]; exact XN w _, by simpa [Env.upd] using jF, mR, fun i' j' e' v' x' q1 q2 q3 => by
    have sw := lt_of_getElem? q1
    simp only [Tm] at sw
    obtain rfl : i' = 0 := by omega
    simp only [List.getElem?_cons_zero, Option.some.injEq] at q1
    subst q1
    rw [Nat.zero_mul, Nat.zero_add, ← LV, jz, LV] at q3
    exact (c3 j' v' x' q3 q2).le hle⟩⟩
 exact ⟨.slice (some ⟨w.heap.size, 0, none⟩) 1 1, w.alloc (.cells jA e), E.upd r w.heap.size 1 (ck + 1), by simp [execOp, j7], nk.2, nk.1, .c (.arr r (ck + 1) 1 _ rfl (by simp [Env.upd]) (fun _ => .inr ⟨by simp [Env.upd], by simp [Env.upd]⟩))⟩
theorem bB [tc : TC P T] (r r2 : Nat) {k2 : Nat} (h : Reg P F0 w0 dr ops K rest ⟨n, (d, .c (.arr r (ck + 1) (m + 1))) :: sl, f', ck + 1, df⟩ (2 :: acc)) (mK : es.length = m) (mG : m + 1 ≤ maxLen) (lp : (m + 1) * ei.bytes ≤ 140737488355328) (hm : mem[r]? = some (.arrx k e ei.size es)) (kW : mem[r2]? = some (.arrx k2 e ei.size [cs])) (j2 : r ≠ r2)
  (hw : GW ops g sl := by first | exact trivial | exact rfl) (hx : AH sl x = .c (.arr r k m) := by exact rfl) (hy : AH sl y = .c (.arr r2 k2 1) := by exact rfl) (ht : T t = some i := by exact rfl) (hi : i.desc = .slice e := by exact rfl) (jg : T e = some ei := by exact rfl) (hk : (Nat.blt 0 ei.size && Nat.beq ei.zero.length ei.size) = true := by exact rfl) (iZ : (mem.set r (.arrx (ck + 1) e ei.size (es ++ [cs]))).set r2 .dead = f' := by exact rfl) :
  Reg P F0 w0 dr ops K (⟨some d, .call ⟨.builtin .append, #[x, y], #[t, t]⟩, ty, pos, iU, g⟩ :: rest) ⟨n, sl, mem, ck, df⟩ acc := by
 subst iZ
 refine U6 (jx := []) hw (BF fun E w ρ j0 hρ => ?_) h
 have e1 := hρ x (by simp [Op.operands, Call.operands])
 have e2 := hρ y (by simp [Op.operands, Call.operands])
 rw [hx] at e1; rw [hy] at e2
 simp only [BM, Sd, Md, Nat.blt, Tq] at hk
 have o1 := j0.mem.ok r _ hm
 have o2 := j0.mem.ok r2 _ kW
 rcases e2.arr_inv o2.1 with ⟨_, q, _⟩ | ⟨vm, kU⟩
 ·omega
 obtain ⟨p1, p2, c, p3, p4, p0, p5⟩ := j0.arxCells kW (by omega)
 have vo : cs.length = ei.size := o2.2.2.1 cs (by simp)
 have nW : ei.size ≤ c.size := by
  rw [p4]
  have : 1 * ei.size ≤ E.cap r2 * ei.size := HJ _ vm
  omega
 obtain ⟨v', w', b, cap, q1, q2, q3, q4, q5⟩ := j0.appX tc.ok (ty := ty) ht hi jg hk.2 (cs := cs) (b2 := E.blk r2) (c2 := E.cap r2) (news := c.toList.take ei.size) hm mK (e1.arr_inv o1.1) mG lp vo (by simp; omega) (fun j v hv => by
  rw [Bx p3, Nat.zero_add]
  rw [Mc] at hv
  split at hv
  · simpa using hv
  · cases hv) (fun v hv => p0 v (by simpa using I0 hv)) (fun j v x hx hv => by
  rw [Mc] at hv
  split at hv
  · exact p5 0 j cs v x rfl hx (by rw [Nat.zero_mul, Nat.zero_add]; exact hv)
  · cases hv)
 have q6 : WOk F0 w0 (E.upd r b cap (ck + 1)) w' ((mem.set r (.arrx (ck + 1) e ei.size (es ++ [cs]))).set r2 .dead) (ck + 1) := q4.drop fun s x hx hl => by
  rcases Bj r2 _ s x hx with ⟨rfl, rfl⟩ | ⟨_, jj⟩
  · exact hl.elim
  · exact jj
 exact ⟨v', w', _, by simp [execOp, resolve, invoke, builtin, kU, q1], q5, q6, .c (.arr r (ck + 1) (m + 1) _ (by rw [q3]; rfl) (by simp [Env.upd]) (fun _ => .inr ⟨by simp [Env.upd]; exact q2, by simp [Env.upd, q3]⟩))⟩
theorem OZ [tc : TC P T] {kk : IntKind} {z : Int} (h : Reg P F0 w0 dr ops K rest ⟨n, (d, .c (.ap r k ei.size z.toNat 0)) :: sl, mem, ck, df⟩ (1 :: acc)) (hz : 0 ≤ z) (nK : z < (m : Int)) (hm : mem[r]? = some (.arrx k iX i6 es)) (hw : GW ops g sl := by first | exact trivial | exact rfl)
  (hx : AH sl x = .c (.arr r k m) := by exact rfl) (hy : AH sl y = .c (.d (.lit (.int kk z))) := by exact rfl) (ht : T t = some i := by exact rfl) (hi : i.desc = .slice e := by exact rfl) (jg : T e = some ei := by exact rfl) :
  Reg P F0 w0 dr ops K (⟨some d, .indexAddr t x y, ty, pos, iU, g⟩ :: rest) ⟨n, sl, mem, ck, df⟩ acc := by
 refine Dh hw hm (fun mem ck hm => BF fun E w ρ j0 hρ => ?_) h
 have e1 := hρ x (by simp [Op.operands])
 have e2 := hρ y (by simp [Op.operands])
 rw [hx] at e1; rw [hy] at e2
 have e2 := e2.lit_inv
 obtain ⟨o1, o2, o3, o4, o5, o6⟩ := j0.mem.ok r _ hm
 have hu : P.underlying t = some (.slice e) := by have := (tc.ok t i ht).desc; rw [hi] at this; exact this
 have j3 := (tc.ok e ei jg).sizeOf (w := w)
 rcases e1.arr_inv o1 with ⟨_, q, _⟩ | ⟨lD, hq⟩
 ·omega
 refine ⟨.pointer (some ⟨E.blk r, z.toNat * ei.size, none⟩), w, E, ?_, EnvLe.refl _ _, j0, .c (.ap r k ei.size z.toNat 0 _ rfl (by omega) (fun _ => rfl))⟩
 simp [execOp, e2, hq, Instr.indexAt, asIntOf, run_underlying hu, hz, nK, j3, Addr.add_lit]
theorem SRep.ap_inv {E : Env} {w : World} {v : Value} {i : Nat} (h : SRep E w v (.c (.ap r k i6 i o))) (hv : E.ver r = k) : v = .pointer (some ⟨E.blk r, i * i6 + o, none⟩) := by
 cases h with | c h => cases h with | ap _ _ _ _ _ _ _ _ hh => exact hh hv
theorem O0 [tc : TC P T] {s : TypeId} {f : Nat} {j : TI} {fs : List (Nat × TypeId)} {off : Nat} {ft : TypeId} {jf : Nat} (h : Reg P F0 w0 dr ops K rest ⟨n, (d, .c (.ap r k i6 z (o + off))) :: sl, mem, ck, df⟩ (1 :: acc)) (hm : mem[r]? = some (.arrx k iX jf es)) (hw : GW ops g sl := by first | exact trivial | exact rfl)
  (hx : AH sl x = .c (.ap r k i6 z o) := by exact rfl) (hs : T s = some i := by exact rfl) (hi : i.desc = .struct fs := by exact rfl) (hf : fs[f]? = some (off, ft) := by exact rfl) (hj : T ft = some j := by exact rfl) (hz : decide (j.size ≠ 0) = true := by exact rfl) :
  Reg P F0 w0 dr ops K (⟨some d, .fieldAddr s x f, ty, pos, iU, g⟩ :: rest) ⟨n, sl, mem, ck, df⟩ acc := by
 refine Dh hw hm (fun mem ck hm => BF fun E w ρ j0 hρ => ?_) h
 have e1 := hρ x (by simp [Op.operands])
 rw [hx] at e1
 obtain ⟨o1, _⟩ := j0.mem.ok r _ hm
 have e1 := e1.ap_inv o1
 have hd := (tc.ok s i hs).desc
 rw [hi] at hd
 obtain ⟨fields, hu, mC⟩ := hd
 have j3 := (tc.ok ft j hj).sizeOf (w := w)
 have pc : j.size ≠ 0 := by simpa using hz
 obtain ⟨fl, kY, h1, h2⟩ : ∃ fl, fields[f]? = some fl ∧ fl.offset = off ∧ fl.type = ft := by
  rw [← mC, BU] at hf
  cases hq : fields.toList[f]? with
  | none => rw [hq] at hf; cases hf
  | some fl =>
    rw [hq] at hf
    simp at hf
    exact ⟨fl, by simpa using hq, hf.1, hf.2⟩
 subst h1; subst h2
 refine ⟨.pointer (some ⟨E.blk r, z * i6 + o + fl.offset, none⟩), w, E, ?_, EnvLe.refl _ _, j0, .c (.ap r k i6 z _ _ rfl (by omega) (fun _ => by rw [ZG]))⟩
 simp [execOp, e1, Instr.fieldAt, run_underlying hu, kY, Instr.sureAddr, fieldPlace, j3, pc, Addr.add_lit]
theorem O1 [tc : TC P T] {e : List Cell} {y : Cell} (h : Reg P F0 w0 dr ops K rest ⟨n, (d, .c y) :: sl, mem, ck, df⟩ (1 :: acc)) (hm : mem[r]? = some (.arrx k iX i6 es)) (he : es[z]? = some e) (hw : GW ops g sl := by first | exact trivial | exact rfl)
  (hx : AH sl x = .c (.ap r k i6 z o) := by exact rfl) (ht : T t = some i := by exact rfl) (ha : i.desc.agg = false := by exact rfl) (hs : i.size = 1 := by exact rfl) (hy : e[o]? = some y := by exact rfl) :
  Reg P F0 w0 dr ops K (⟨some d, .load t x, ty, pos, iU, g⟩ :: rest) ⟨n, sl, mem, ck, df⟩ acc := by
 refine Dh hw hm (fun mem ck hm => BF fun E w ρ j0 hρ => ?_) h
 have e1 := hρ x (by simp [Op.operands])
 rw [hx] at e1
 obtain ⟨o1, o2, o3, o4, o5, o6⟩ := j0.mem.ok r _ hm
 have e1 := e1.ap_inv o1
 have mE := lt_of_getElem? he
 have mP := lt_of_getElem? hy
 have jo := o3 e (Cb he)
 obtain ⟨p1, p2, c, p3, p4, p0, p5⟩ := j0.arxCells hm (by omega)
 have j8 : z * i6 + i6 ≤ c.size := by
  rw [p4]
  have : (z + 1) * i6 ≤ E.cap r * i6 := HJ _ (by omega)
  rw [Gg, Kf] at this
  exact this
 have hc : c[z * i6 + o]? = some (c[z * i6 + o]'(by omega)) := LZ _
 generalize c[z * i6 + o]'(by omega) = u at hc
 obtain ⟨v, hr, hv⟩ := FO (P := P) (w := w) (tc.ok t i ht) (.inr hs) [u] (by simp [hs]) (E.blk r) (z * i6 + o) (fun j v hv => by
  have hj := lt_of_getElem? hv
  simp only [Tm] at hj
  obtain rfl : j = 0 := by omega
  simp only [List.getElem?_cons_zero, Option.some.injEq] at hv
  subst hv
  rw [Bx p3, Nat.add_zero]; exact hc)
 rcases hv with ⟨q, _⟩ | ⟨_, q⟩
 ·rw [ha] at q; cases q
 ·simp only [XV, and_true] at q
  subst q
  exact ⟨u, w, E, by simp [execOp, e1, hr], EnvLe.refl _ _, j0, .c (p5 z o e u y he hy (by simpa using hc))⟩
theorem Mp [tc : TC P T] {ji : List (List Cell)} {e : List Cell} {u : Cell} (h : Reg P F0 w0 dr ops K rest ⟨n, sl, f', ck, df⟩ (2 :: acc)) (hm : mem[r]? = some (.arrx k iX i6 es)) (he : es[z]? = some e) (ho : o < e.length) (j6 : es.set z (e.set o u) = ji) (hw : GW ops g sl := by first | exact trivial | exact rfl)
  (hx : AH sl x = .c (.ap r k i6 z o) := by exact rfl) (hy : AH sl y = .c u := by exact rfl) (ht : T t = some i := by exact rfl) (hs : i.size = 1 := by exact rfl) (iZ : mem.set r (.arrx k iX i6 ji) = f' := by exact rfl) :
  Reg P F0 w0 dr ops K (⟨none, .store t x y, ty, pos, iU, g⟩ :: rest) ⟨n, sl, mem, ck, df⟩ acc := by
 subst iZ; subst j6
 refine IE (jx := []) hw (JV fun E w ρ j0 hρ => ?_) h
 have e1 := hρ x (by simp [Op.operands])
 have e2 := hρ y (by simp [Op.operands])
 rw [hx] at e1; rw [hy] at e2
 obtain ⟨o1, o2, o3, o4, o5, o6⟩ := j0.mem.ok r _ hm
 have e1 := e1.ap_inv o1
 obtain ⟨lh, me, mo⟩ := e2.cellsOf (show SVal.cells (.c u) = some [u] from rfl)
 have lh : (ρ y).cells.size = 1 := lh
 have mE := lt_of_getElem? he
 have jo := o3 e (Cb he)
 have nW : E.cap r ≠ 0 := by omega
 obtain ⟨p1, p2, c, p3, p4, p0, p5⟩ := j0.arxCells hm nW
 have j8 : z * i6 + i6 ≤ c.size := by
  rw [p4]
  have : (z + 1) * i6 ≤ E.cap r * i6 := HJ _ (by omega)
  rw [Gg, Kf] at this
  exact this
 have kM : (ρ y).cells.toList.length = 1 := by simpa using lh
 have hr := Gw (P := P) (w := w) (tc.ok t i ht) (ρ y) (by rw [lh, hs]) me (E.blk r) (z * i6 + o) c iX p3 (by omega)
 rw [hs] at hr
 have hp := j0.poke (w' := w.setRow (E.blk r) (c.toList.take (z * i6 + o) ++ (ρ y).cells.toList ++ c.toList.drop (z * i6 + o + 1)).toArray) r _ (.arrx k iX i6 (es.set z (e.set o u))) hm nW (fun q => q) (CO w _ _ p1) (fun i hi => setRow_other w _ i _ hi) (fun hle => by
  refine ⟨o1, o2, fun e' kd => ?_, by simpa using o4, o5, .inr ⟨p1, p2, _, setRow_heap w _ c _ iX _ p3, ?_, fun v' jE => ?_, fun i' j' e' v' x' q1 q2 q3 => ?_⟩⟩
  · rcases aP kd with q | q
    ·exact o3 e' q
    ·subst q; simpa using jo
  · have e3 := By (l := c.toList) (m := (ρ y).cells.toList) (o := z * i6 + o) (by simp; omega)
    rw [kM] at e3
    simp only [XT, e3, U2, p4]
  · exact DR p0 me (by simpa using jE)
  · have e3 := getElem?_splice (l := c.toList) (m := (ρ y).cells.toList) (o := z * i6 + o) (j := i' * i6 + j') (by simp; omega)
    rw [kM] at e3
    simp only [XM] at q3
    rw [e3] at q3
    by_cases jG : i' = z
    ·subst jG
     rw [J5 mE] at q1
     simp only [Option.some.injEq] at q1
     subst q1
     by_cases hj : j' = o
     ·subst hj
      rw [J5 ho] at q2
      simp only [Option.some.injEq] at q2
      subst q2
      rw [if_neg (by omega), if_pos (by omega), Ts] at q3
      exact (mo 0 v' u (by simpa using q3) rfl).le hle
     ·rw [J7 (Ne.symm hj)] at q2
      have vp : c.toList[i' * i6 + j']? = some v' := by
       by_cases i7 : j' < o
       ·rw [if_pos (by omega)] at q3; exact q3
       ·rw [if_neg (by omega), if_neg (by omega)] at q3; exact q3
      exact (p5 i' j' e v' x' he q2 vp).le hle
    ·rw [J7 (fun q => jG q.symm)] at q1
     have hj : j' < i6 := by have := lt_of_getElem? q2; rw [o3 e' (Cb q1)] at this; exact this
     have vp : c.toList[i' * i6 + j']? = some v' := by
      rcases Nat.lt_or_gt_of_ne jG with i7 | i7
      ·have : (i' + 1) * i6 ≤ z * i6 := HJ _ i7
       rw [Gg, Kf] at this
       rw [if_pos (by omega)] at q3; exact q3
      ·have : (z + 1) * i6 ≤ i' * i6 := HJ _ i7
       rw [Gg, Kf] at this
       rw [if_neg (by omega), if_neg (by omega)] at q3; exact q3
     exact (p5 i' j' e' v' x' q1 q2 vp).le hle)
 exact ⟨_, E, by simp [execOp, e1, hr], hp.2, hp.1⟩
theorem bC [tc : TC P T] (h : Reg P F0 w0 dr ops K rest ⟨n, (d, .c (.d (.lit (.int .i64 m)))) :: sl, mem, ck, df⟩ (1 :: acc)) (hm : mem[r]? = some (.arrx k iX i6 es)) (hw : GW ops g sl := by first | exact trivial | exact rfl) (hx : AH sl x = .c (.arr r k m) := by exact rfl) (ht : T t = some i := by exact rfl) (hi : i.desc = .slice e := by exact rfl) :
  Reg P F0 w0 dr ops K (⟨some d, .call ⟨.builtin .len, #[x], #[t]⟩, ty, pos, iU, g⟩ :: rest) ⟨n, sl, mem, ck, df⟩ acc := by
 refine Dh hw hm (fun mem ck hm => BF fun E w ρ j0 hρ => ?_) h
 have e1 := hρ x (by simp [Op.operands, Call.operands])
 rw [hx] at e1
 have o1 := j0.mem.ok r _ hm
 have hu : P.underlying t = some (.slice e) := by have := (tc.ok t i ht).desc; rw [hi] at this; exact this
 refine ⟨.int .i64 m, w, E, ?_, EnvLe.refl _ _, j0, .c (.d (.lit _ rfl))⟩
 rcases e1.arr_inv o1.1 with ⟨_, q, a, q2⟩ | ⟨_, q2⟩
 ·subst q; simp [execOp, resolve, invoke, builtin, q2, Builtin.len_, Builtin.lenOf, run_underlying hu, goInt]
 ·simp [execOp, resolve, invoke, builtin, q2, Builtin.len_, Builtin.lenOf, run_underlying hu, goInt]
end
section
variable {P : Program} {T : TypeId → Option TI} {B : Base} {Q : Ex → St → Prop} {n : Nat} {sl : List (Nat × SVal)} {mem : List Blk} {ck : Nat} {df : List (FuncId × List Cell)}
theorem bD (t : Nat) (iX : TypeId) (i6 : Nat) {c : Code} (h : ARun P B c ⟨n, (t, .c (.arr mem.length (ck + 1) 0)) :: sl, f', ck + 1, df⟩ Q) (j3 : 0 < i6) (ht : look sl t = .c .emp := by exact rfl) (iZ : mem ++ [.arrx (ck + 1) iX i6 []] = f' := by exact rfl) : ARun P B c ⟨n, sl, mem, ck, df⟩ Q := by
 subst iZ
 rintro a w ⟨E, ⟨hw, kO, ml, jy⟩, hle⟩
 have e1 : SRep E w (a.tmps.getD t undef) (.c .emp) := by rw [← ht]; exact jy t
 obtain ⟨q, hq⟩ := e1.emp_inv
 have hf := hw.fresh
 have nk := hw.turn (w' := w) mem.length w.heap.size 0 (ck + 1) (.arrx (ck + 1) iX i6 []) (mem ++ [.arrx (ck + 1) iX i6 []]) (dI ck) (Nat.le_refl _) (Hd mem _) (Bel.refl _ _) (fun _ _ _ => rfl) (fun s x _ hx hh => hf.2 s x hx hh) hf.1
  ⟨by simp [Env.upd], j3, by simp, by simp [Env.upd], by simp [Env.upd, maxLen], .inl (by simp [Env.upd])⟩
 refine h a w ⟨_, ⟨nk.1, kO, ml.le nk.2, Fu (fun s => (jy s).le nk.2) ?_⟩, hle.trans nk.2⟩
 rw [hq]
 exact .c (.arr _ _ _ _ rfl (by simp [Env.upd]) (fun _ => .inl ⟨by simp [Env.upd], rfl, q, rfl⟩))
theorem Yl (base r : Nat) (ji : List (List Dat)) {m1 : List Blk} {c : Code} (h : ARun P B c ⟨n, sl, m1, ck, df⟩ Q) (hm : mem[r]? = some (.arrx k iX i6 es)) (hr : r < base) (hl : ji.length = es.length) (j3 : ∀ e ∈ ji, e.length = i6)
  (j6 : ∀ (i j : Nat) (e : List Cell) (x : Cell), es[i]? = some e → e[j]? = some x → ∃ e' y, ji[i]? = some e' ∧ e'[j]? = some y ∧ eW mem base x y) (lq : (mem.take base).set r (.arr k iX i6 ji) = m1) : ARun P B c ⟨n, sl, mem, ck, df⟩ Q := by
 subst lq
 rintro a w ⟨E, ⟨hw, kO, ml, jy⟩, hle⟩
 obtain ⟨t1, t2, t3⟩ := hw.thaw base
 obtain ⟨o1, o2, o3, o4, o5, o6⟩ := hw.mem.ok r _ hm
 have iZ : (mem.take base)[r]? = some (.arrx k iX i6 es) := by rw [Mc, if_pos hr]; exact hm
 obtain ⟨p1, p2, p3, p4, p5, p6⟩ := t1.mem.ok r _ iZ
 refine h a w ⟨M1 E mem base, ⟨t1.swap r _ _ iZ (fun q => q) ⟨p1, p2, j3, by rw [hl]; exact p4, p5, ?_⟩, kO, ml.le t2, fun s => (jy s).le t2⟩, hle.trans t2⟩
 rcases p6 with p6 | ⟨a1, a2, cc, a3, a4, a5, a6⟩
 ·exact .inl p6
 ·rcases o6 with o6 | ⟨b1, b2, x5, b3, b4, b5, b6⟩
  · exact .inl o6
  · have su : x5 = cc := by
     have vq : w.heap[E.blk r]? = some (.cells cc iX (0, 0)) := a3
     rw [b3] at vq
     simp only [Option.some.injEq, Obj.cells.injEq] at vq
     exact vq.1
    subst su
    refine .inr ⟨a1, a2, x5, a3, a4, a5, fun i j e' v y q1 q2 q3 => ?_⟩
    have hi := lt_of_getElem? q1
    have hj := lt_of_getElem? q2
    have oi : es[i]? = some (es[i]'(by omega)) := Bo _
    have jo := o3 _ (Cb oi)
    have yH := j3 e' (Cb q1)
    have x6 : (es[i]'(by omega))[j]? = some ((es[i]'(by omega))[j]'(by omega)) := Bo _
    obtain ⟨e2, y2, r1, r2, r3⟩ := j6 i j _ _ oi x6
    rw [q1] at r1
    simp only [Option.some.injEq] at r1
    subst r1
    rw [q2] at r2
    simp only [Option.some.injEq] at r2
    subst r2
    exact t3 _ _ _ r3 (b6 i j _ v _ oi x6 q3)
end
theorem O3 {mem : List Blk} {es x : List (List Dat)} {y : Dat} (hm : mem[r]? = some (.arr k iX z es)) (hl : m ≤ es.length) (hx : es.take m = x) : SFs mem [.c (.arr r k m), .c (.d y)] [.one (.sl x), .one y] :=
 ⟨NS hm hl (by rw [hx]), HD (mem := mem) rfl, trivial⟩
theorem NJ {P : Program} {B : Base} {σ : St} {Q : Ex → St → Prop} (h : ARun P B .ret σ Q) : ARun P B .ret σ Q := h
theorem VO : As [] [.dead, .dead] := fun s x h hl => by
 match s, h with
 | 0, h => simp at h; subst h; exact hl.elim
 | 1, h => simp at h; subst h; exact hl.elim
 | s + 2, h => simp at h
end Go.Abs
end
