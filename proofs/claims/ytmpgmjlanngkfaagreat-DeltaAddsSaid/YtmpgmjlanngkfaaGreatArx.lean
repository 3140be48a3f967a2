/-
  Arrays of the call's own whose elements hold cells: handles of other slices of its own.
-/
import Derived.Test.YtmpgmjlanngkfaaGreatMpc
section
namespace Go.Abs
open Go.RowKit
variable {cs : List Cell} {e ety t : TypeId} {ei i : TI} {es : List (List Cell)} {esz k m o r z : Nat} {mem' : List Blk} {x y : Operand}
section
variable {P : Program} {T : TypeId → Option TI} {F0 : Nat → Prop} {w0 w : World} {E : Env} {mem : List Blk} {ck : Nat}
def FlatC (D : Value → Cell → Prop) (esz : Nat) (es : List (List Cell)) (c : List Value) : Prop :=
 ∀ (i j : Nat) e v x, es[i]? = some e → e[j]? = some x → c[i * esz + j]? = some v → D v x
theorem FlatC.snoc {D : Value → Cell → Prop} {olds news rest : List Value} (hlo : olds.length = es.length * esz) (hes : ∀ e ∈ es, e.length = esz) (hcs : cs.length = esz) (hln : news.length = esz)
  (h1 : FlatC D esz es olds) (h2 : ∀ (j : Nat) v x, cs[j]? = some x → news[j]? = some v → D v x) : FlatC D esz (es ++ [cs]) (olds ++ news ++ rest) := by
 intro i j e v x q1 q2 q3
 rw [XN] at q1
 split at q1
 ·rename_i hi
  have hj : j < esz := by have := lt_of_getElem? q2; rw [hes e (Cl q1)] at this; exact this
  have hlt : i * esz + j < olds.length := by
    rw [hlo]
    have : (i + 1) * esz ≤ es.length * esz := Gb _ hi
    rw [EO, Hw] at this
    omega
  rw [GR, Ku hlt] at q3
  exact h1 i j e v x q1 q2 q3
 ·rename_i hi
  have hi0 := lt_of_getElem? q1
  simp only [QK] at hi0
  obtain rfl : i = es.length := by omega
  rw [U6] at q1
  simp only [List.getElem?_cons_zero, Option.some.injEq] at q1
  subst q1
  have hj : j < esz := by have := lt_of_getElem? q2; omega
  rw [GR, ← hlo, LB (by omega), Nat.add_sub_cancel_left, Ku (by omega)] at q3
  exact h2 j v x q2 q3
theorem WOk.growArx {w' : World} (h : WOk F0 w0 E w mem ck) (r k : Nat) (ety : TypeId) (esz : Nat) (es0 : List (List Cell)) (hr : mem[r]? = some (.arrx k ety esz es0))
  (b cap : Nat) (es : List (List Cell)) (hes : ∀ e, e ∈ es → e.length = esz) (hcap : es.length ≤ cap) (hmax : cap ≤ maxLen)
  (hb : b = w.heap.size ∨ (b = E.blk r ∧ E.cap r ≠ 0))
  (hbel : Bel w0.heap.size w w') (hold : ∀ i, i < w.heap.size → i ≠ b → w'.heap[i]? = w.heap[i]?)
  (hc : ∃ c, w'.heap[b]? = some (.cells c ety (0, 0)) ∧ c.size = cap * esz ∧ (∀ v ∈ c, v.oneCell' = true) ∧ FlatC (CRep E w) esz es c.toList) :
  let E' := E.upd r b cap (ck + 1)
  WOk F0 w0 E' w' (mem.set r (.arrx (ck + 1) ety esz es)) (ck + 1) ∧ EnvLe E w E' w' := by
 intro E'
 have hf := h.fresh
 have ho := h.mem.ok r _ hr
 have hFb : ¬ (E.F b ∨ E.N b) ∧ w0.heap.size ≤ b := by
  rcases hb with rfl | ⟨rfl, hz⟩
  · exact ⟨hf.1, h.le0⟩
  · have := ho.lt (show Blk.has E r _ from hz); exact ⟨this.2.2, this.2.1⟩
 have hapart : ∀ s x, s ≠ r → mem[s]? = some x → x.has E s → E.blk s ≠ b := by
  intro s x hs hx hh
  rcases hb with rfl | ⟨rfl, hz⟩
  · exact hf.2 s x hx hh
  · exact h.mem.apart s r x _ hx hr hh hz hs
 have hle : EnvLe E w E' w' := Env.upd_le _ _ _ _ (by have := h.mem.clock r; omega) (fun i hi => hold i (h.FN i hi) (fun e => hFb.1 (e ▸ hi)))
 refine h.turn _ _ _ _ _ _ (by omega) (Nat.le_refl _) (A7 r _) hbel hold hapart hFb.1 ?_
 refine ⟨by simp [Env.upd], ho.2.1, hes, by simpa [Env.upd] using hcap, by simpa [Env.upd] using hmax, ?_⟩
 obtain ⟨c, h1, h2, h0, h3⟩ := hc
 exact .inr ⟨by simp [Env.upd]; exact hFb.2, by simp only [Env.upd, if_true]; exact hFb.1, c, by simp only [Env.upd, if_true]; exact h1, by simpa [Env.upd] using h2, h0, fun i j e v x a b d => (h3 i j e v x a b (by simpa using d)).le hle⟩
theorem WOk.arxCells (h : WOk F0 w0 E w mem ck) (hr : mem[r]? = some (.arrx k ety esz es)) (hc : E.cap r ≠ 0) :
  w0.heap.size ≤ E.blk r ∧ ¬ (E.F (E.blk r) ∨ E.N (E.blk r)) ∧ ∃ c, w.heap[E.blk r]? = some (.cells c ety (0, 0)) ∧ c.size = E.cap r * esz ∧ (∀ v ∈ c, v.oneCell' = true) ∧ FlatC (CRep E w) esz es c.toList := by
 obtain ⟨h1, h2, h3, h4, h5, h6⟩ := h.mem.ok r _ hr
 rcases h6 with h6 | ⟨a1, a2, c, a3, a4, a5, a6⟩
 ·exact absurd h6 hc
 ·exact ⟨a1, a2, c, a3, a4, a5, fun i j e v x q1 q2 q3 => a6 i j e v x q1 q2 (by simpa using q3)⟩
theorem WOk.appX (h : WOk F0 w0 E w mem ck) (hT : AE P T) {ty : TypeId} (ht : T t = some i) (hi : i.desc = .slice e) (hei : T e = some ei) (hzl : ei.zero.length = ei.size) {u : Value} {b2 c2 : Nat} {news : List Value}
  (hr : mem[r]? = some (.arrx k e ei.size es)) (hm : es.length = m) (hu : (E.cap r = 0 ∧ m = 0 ∧ ∃ a, u = .slice a 0 0) ∨ (0 < E.cap r ∧ u = .slice (some ⟨E.blk r, 0, none⟩) m (E.cap r)))
  (hml : m + 1 ≤ maxLen) (hby : (m + 1) * ei.bytes ≤ 140737488355328) (hcl : cs.length = ei.size) (hnl : news.length = ei.size) (hnc : ∀ (j : Nat) v, news[j]? = some v → w.cell? ⟨b2, 0 + j, none⟩ = some v) (hn1 : ∀ v ∈ news, v.oneCell' = true) (hnr : ∀ (j : Nat) v x, cs[j]? = some x → news[j]? = some v → CRep E w v x) :
  ∃ v' w' b cap, (Builtin.append_ #[t, t] ty #[u, .slice (some ⟨b2, 0, none⟩) 1 c2]).run P w = .ok v' w' ∧ 0 < cap ∧ v' = .slice (some ⟨b, 0, none⟩) (m + 1) cap ∧ WOk F0 w0 (E.upd r b cap (ck + 1)) w' (mem.set r (.arrx (ck + 1) e ei.size (es ++ [cs]))) (ck + 1) ∧ EnvLe E w (E.upd r b cap (ck + 1)) w' := by
 have hU : P.underlying t = some (.slice e) := by have := (hT t i ht).desc; rw [hi] at this; exact this
 obtain ⟨fi, z, hi1, hi2, hi3, hi4, hi5⟩ := (hT e ei hei).info
 have hz : z.cells.size = ei.size := by rw [hi5]; simpa using hzl
 have hz1 : ∀ v ∈ z.cells, v.oneCell' = true := fun v hv => (hT e ei hei).ones v (by rw [hi5] at hv; simpa using hv)
 obtain ⟨o1, o2, o3, o4, o5, _⟩ := h.mem.ok r _ hr
 have hall : ∀ el, el ∈ es ++ [cs] → el.length = ei.size := fun el hel => by
  rcases Ej.1 hel with q | q
  · exact o3 el q
  · rw [IT] at q; subst q; exact hcl
 have hlen : (es ++ [cs]).length = m + 1 := by simp [hm]
 have h63 : ((m + 1 : Nat) : Int) ≤ 9223372036854775807 := by simp only [maxLen] at hml; omega
 have hnl1 : news.length = 1 * ei.size := by omega
 rcases hu with ⟨hcz, hm0, a, rfl⟩ | ⟨hcp, rfl⟩
 ·subst hm0
  obtain rfl : es = [] := WK hm
  obtain ⟨gcap, hg, hge, hgm, c, hc1, hc2, hc0, hc3⟩ := C9 (w := w) (e := e) (old := 0) (esz := ei.size) (need := 1) hz hnl1 (by omega) hz1 hn1
  have hrun : (Builtin.append_ #[t, t] ty #[.slice a 0 0, .slice (some ⟨b2, 0, none⟩) 1 c2]).run P w =
      .ok (.slice (some ⟨w.heap.size, 0, none⟩) 1 gcap) (w.drew.alloc (.cells (news.toArray ++ Builtin.zeroCells z.cells (gcap - 1)) e)) := by
    cases a with
    | none =>
      have := run_append_nil (P := P) w t ty e fi z hU hi1 hi4 ⟨b2, 0, none⟩ 1 c2 news (by rw [hi2]; exact hnl1) (fun j v hv => by rw [Addr.add_lit]; exact hnc j v hv) (by omega) (by omega) (by rw [hi3]; omega)
      rw [hg]; exact this
    | some a =>
      have := run_append_grow (P := P) w t ty e fi z hU hi1 hi4 a 0 0 [] (by simp) (by simp) ⟨b2, 0, none⟩ 1 c2 news (by rw [hi2]; exact hnl1) (fun j v hv => by rw [Addr.add_lit]; exact hnc j v hv) (by omega) (by omega)
        (by rw [hi3]; exact growslice_fits (by omega) (by simpa using hby))
      simp only [Nat.zero_add, bP] at this
      rw [hg]; exact this
  have hgr := h.growArx (w' := w.drew.alloc (.cells (news.toArray ++ Builtin.zeroCells z.cells (gcap - 1)) e)) r k e ei.size [] hr w.heap.size gcap ([] ++ [cs]) hall (by simp; omega) hgm (.inl rfl) (CD w _ h.le0)
    (fun i hi _ => by rw [Bel.heap_alloc w.drew _ i hi]; rfl) ⟨c, hc1, hc2, hc0, by
      have := FlatC.snoc (D := CRep E w) (es := []) (cs := cs) (olds := []) (news := news) (rest := (Builtin.zeroCells z.cells (gcap - 1)).toList) (by simp) (by simp) hcl hnl (fun _ _ _ _ _ q => by simp at q) hnr
      rw [hc3]; simpa using this⟩
  exact ⟨_, _, _, gcap, hrun, by omega, rfl, hgr.1, hgr.2⟩
 ·obtain ⟨p1, p2, c, p3, p4, p0, p5⟩ := h.arxCells hr (by omega)
  have hmc : m ≤ E.cap r := by omega
  have hnc' : m * ei.size ≤ c.size := by rw [p4]; exact Gb _ hmc
  have hlo : (c.toList.take (m * ei.size)).length = m * ei.size := by simp; omega
  have hfl : FlatC (CRep E w) ei.size es (c.toList.take (m * ei.size)) := by
    intro i j e' v x q1 q2 q3
    rw [LD] at q3
    split at q3
    · exact p5 i j e' v x q1 q2 q3
    · cases q3
  by_cases hroom : m + 1 ≤ E.cap r
  · have hfit : m * ei.size + news.length ≤ c.size := by rw [hnl1, p4, ← EO]; exact Gb _ hroom
    have hrun := run_append_room (P := P) w t ty e fi hU hi1 (E.blk r) m (E.cap r) c p3 ⟨b2, 0, none⟩ 1 c2 news (by rw [hi2]; exact hnl1) (fun j v hv => by rw [Addr.add_lit]; exact hnc j v hv) hn1 hroom (by rw [hi2]; exact hfit)
    rw [hi2] at hrun
    have hg := h.growArx (w' := w.setRow (E.blk r) (c.toList.take (m * ei.size) ++ news ++ c.toList.drop (m * ei.size + news.length)).toArray) r k e ei.size es hr (E.blk r) (E.cap r) (es ++ [cs]) hall (by omega) o5 (.inr ⟨rfl, by omega⟩) (Ck w _ _ p1) (fun i hi hne => setRow_other w _ i _ hne)
      ⟨_, setRow_heap w _ c _ e _ p3, by
        have := Bd (l := c.toList) (m := news) (o := m * ei.size) (by simpa using hfit)
        simp only [Vb, this, Se, p4], fun v hv => C8 p0 hn1 (by simpa using hv), by
        have := FlatC.snoc (D := CRep E w) (es := es) (cs := cs) (olds := c.toList.take (m * ei.size)) (news := news) (rest := c.toList.drop (m * ei.size + news.length)) (by rw [hlo, hm]) o3 hcl hnl hfl hnr
        simpa using this⟩
    exact ⟨_, _, _, E.cap r, hrun, hcp, rfl, hg.1, hg.2⟩
  · have hjl : (c.toList.take (m * ei.size) ++ news).length = (m + 1) * ei.size := by rw [CP, hlo, hnl1, EO]
    obtain ⟨gcap, hg, hge, hgm, c', hc1, hc2, hc0, hc3⟩ := C9 (w := w) (e := e) (old := E.cap r) hz hjl hml hz1 (fun v hv => by
      rcases Ej.1 hv with hv | hv
      · exact p0 v (by simpa using IS hv)
      · exact hn1 v hv)
    have hrun := run_append_grow (P := P) w t ty e fi z hU hi1 hi4 ⟨E.blk r, 0, none⟩ m (E.cap r) (c.toList.take (m * ei.size)) (by rw [hi2]; exact hlo) (fun j v hv => by
        rw [Addr.add_lit, Br p3]
        rw [LD] at hv
        split at hv
        · simpa using hv
        · cases hv) ⟨b2, 0, none⟩ 1 c2 news (by rw [hi2]; exact hnl1) (fun j v hv => by rw [Addr.add_lit]; exact hnc j v hv) (by omega) h63 (by rw [hi3]; exact growslice_fits (by omega) hby)
    have happ : (c.toList.take (m * ei.size)).toArray ++ news.toArray = (c.toList.take (m * ei.size) ++ news).toArray := by simp
    rw [happ, ← hg] at hrun
    have hgr := h.growArx (w' := w.drew.alloc (.cells ((c.toList.take (m * ei.size) ++ news).toArray ++ Builtin.zeroCells z.cells (gcap - (m + 1))) e)) r k e ei.size es hr w.heap.size gcap (es ++ [cs]) hall (by omega) hgm (.inl rfl) (CD w _ h.le0)
      (fun i hi _ => by rw [Bel.heap_alloc w.drew _ i hi]; rfl)
      ⟨c', hc1, hc2, hc0, by
        have := FlatC.snoc (D := CRep E w) (es := es) (cs := cs) (olds := c.toList.take (m * ei.size)) (news := news) (rest := (Builtin.zeroCells z.cells (gcap - (m + 1))).toList) (by rw [hlo, hm]) o3 hcl hnl hfl hnr
        rw [hc3]; exact this⟩
    exact ⟨_, _, _, gcap, hrun, by omega, rfl, hgr.1, hgr.2⟩
end
section
variable {P : Program} {T : TypeId → Option TI} {F0 : Nat → Prop} {w0 : World}
variable {dr : Bool} {ops rest : List Oper} {K : St → Prop} {n : Nat} {sl : List (Nat × SVal)} {mem : List Blk} {ck : Nat} {df : List (FuncId × List Cell)} {acc : List Nat}
variable {d : Tmp} {op : Op} {ty : TypeId} {pos : String} {aft : Array Edge} {g : Option (Nat × Bool)}
theorem Q3 [tc : TC P T] (r : Nat) (h : Reg P F0 w0 dr ops K rest ⟨n, (d, .c (.arr r (ck + 1) 1)) :: sl, mem', ck + 1, df⟩ (2 :: acc)) (_ : mem[r]? = some .dead := by exact rfl) (hw : GW ops g sl := by first | exact trivial | exact rfl)
  (hx : AH sl x = .agg cs := by exact rfl) (ht : T t = some i := by exact rfl) (hi : i.desc = .slice e := by exact rfl) (hei : T e = some ei := by exact rfl) (hc : (Nat.blt 0 ei.size && Nat.beq ei.zero.length ei.size && Nat.ble ei.size 16777216 && Nat.beq cs.length ei.size) = true := by exact rfl) (hm' : mem.set r (.arrx (ck + 1) e ei.size [cs]) = mem' := by exact rfl) :
  Reg P F0 w0 dr ops K (⟨some d, .buildSlice t 1 #[(0, x)], ty, pos, aft, g⟩ :: rest) ⟨n, sl, mem, ck, df⟩ acc := by
 subst hm'
 refine Sj (df' := []) hw (Bx fun E w ρ hw' hρ => ?_) h
 have e1 := hρ x (by simp [Op.operands])
 rw [hx] at e1
 simp only [Bi, QN, LG, Nat.blt, Sh] at hc
 obtain ⟨⟨⟨h1, h2⟩, h3⟩, h4⟩ := hc
 obtain ⟨c1, c2, c3⟩ := e1.cellsOf (show SVal.cells (.agg cs) = some cs from rfl)
 have hu : P.underlying t = some (.slice e) := by have := (tc.ok t i ht).desc; rw [hi] at this; exact this
 have hsz := (tc.ok e ei hei).sizeOf (w := w)
 obtain ⟨fi, z, hi1, hi2, hi3, hi4, hi5⟩ := (tc.ok e ei hei).info
 obtain ⟨cells1, hs1, hs2, hs3⟩ := Hz (fun i => some (i * ei.size, ei.size)) ((Array.range (1 * ei.size)).map (z.cells[· % z.cells.size]!)) 0 (0 * ei.size) ei.size (ρ x) [] rfl (by omega) (by simp)
 have hcl : cells1.toList = (ρ x).cells.toList := by
  rw [hs3]
  simp only [Nat.zero_mul, List.take_zero, List.nil_append, Nat.zero_add]
  rw [List.drop_of_length_le (by simp), List.append_nil]
 have hcs : cells1.size = 1 * ei.size := by rw [hs2]; simp
 have hone : ∀ v ∈ cells1, v.oneCell' = true := fun v hv => c2 v (by rw [← hcl]; simpa using hv)
 have hrun : (Instr.buildSlice t 1 #[(0, ρ x)]).run P w = .ok (.slice (some ⟨w.heap.size, 0, none⟩) 1 1) (w.alloc (.cells cells1 e)) := by
  simp only [Instr.buildSlice, Sem.run_bind, run_underlying hu, Result.andThen_ok, hsz]
  rw [if_neg (show ¬ 1 * ei.size > 2 ^ 24 by omega)]
  simp only [Sem.run_pure, Result.andThen_ok, if_neg (show ¬ 1 * ei.size = 0 by omega), Sem.run_bind, zeroValue, typeInfo, run_program, hi1, hi4]
  rw [hs1]
  simp only [Instr.fill, Sem.run_bind, newRow, run_newObj, Result.andThen_ok, Sem.run_pure, World.alloc_eq]
 have hf := hw'.fresh
 have hle : EnvLe E w (E.upd r w.heap.size 1 (ck + 1)) (w.alloc (.cells cells1 e)) := Env.upd_le _ _ _ _ (by have := hw'.mem.clock r; omega) (fun j hj => Bel.heap_alloc w _ j (hw'.FN j hj))
 have htn := hw'.turn (w' := w.alloc (.cells cells1 e)) r w.heap.size 1 (ck + 1) (.arrx (ck + 1) e ei.size [cs]) _ (ZB ck) (Nat.le_refl _) (A7 r _) ((Bel.refl _ w).alloc hw'.le0 _) (fun j hj _ => Bel.heap_alloc w _ j hj) (fun s x _ hx hh => hf.2 s x hx hh) hf.1
  ⟨by simp [Env.upd], h1, fun e' he' => by rw [IT] at he'; subst he'; exact h4, by simp [Env.upd], by simp [Env.upd, maxLen], .inr ⟨by simp [Env.upd]; exact hw'.le0, by simp only [Env.upd, if_true]; exact hf.1, cells1, by simp only [Env.upd, if_true]; exact U2 w _, by simpa [Env.upd] using hcs, hone, fun i' j' e' v' x' q1 q2 q3 => by
    have hi0 := lt_of_getElem? q1
    simp only [QK] at hi0
    obtain rfl : i' = 0 := by omega
    simp only [List.getElem?_cons_zero, Option.some.injEq] at q1
    subst q1
    rw [Nat.zero_mul, Nat.zero_add, ← I9, hcl, I9] at q3
    exact (c3 j' v' x' q3 q2).le hle⟩⟩
 exact ⟨.slice (some ⟨w.heap.size, 0, none⟩) 1 1, w.alloc (.cells cells1 e), E.upd r w.heap.size 1 (ck + 1), by simp [execOp, hrun], htn.2, htn.1, .c (.arr r (ck + 1) 1 _ rfl (by simp [Env.upd]) (fun _ => .inr ⟨by simp [Env.upd], by simp [Env.upd]⟩))⟩
theorem Yg [tc : TC P T] (r r2 : Nat) {k2 : Nat} (h : Reg P F0 w0 dr ops K rest ⟨n, (d, .c (.arr r (ck + 1) (m + 1))) :: sl, mem', ck + 1, df⟩ (2 :: acc)) (hml : es.length = m) (hmx : m + 1 ≤ maxLen) (hby : (m + 1) * ei.bytes ≤ 140737488355328) (hm : mem[r]? = some (.arrx k e ei.size es)) (hm2 : mem[r2]? = some (.arrx k2 e ei.size [cs])) (hne : r ≠ r2)
  (hw : GW ops g sl := by first | exact trivial | exact rfl) (hx : AH sl x = .c (.arr r k m) := by exact rfl) (hy : AH sl y = .c (.arr r2 k2 1) := by exact rfl) (ht : T t = some i := by exact rfl) (hi : i.desc = .slice e := by exact rfl) (hei : T e = some ei := by exact rfl) (hk : (Nat.blt 0 ei.size && Nat.beq ei.zero.length ei.size) = true := by exact rfl) (hm' : (mem.set r (.arrx (ck + 1) e ei.size (es ++ [cs]))).set r2 .dead = mem' := by exact rfl) :
  Reg P F0 w0 dr ops K (⟨some d, .call ⟨.builtin .append, #[x, y], #[t, t]⟩, ty, pos, aft, g⟩ :: rest) ⟨n, sl, mem, ck, df⟩ acc := by
 subst hm'
 refine Sj (df' := []) hw (Bx fun E w ρ hw' hρ => ?_) h
 have e1 := hρ x (by simp [Op.operands, Call.operands])
 have e2 := hρ y (by simp [Op.operands, Call.operands])
 rw [hx] at e1; rw [hy] at e2
 simp only [Bi, QN, LG, Nat.blt, Sh] at hk
 have o1 := hw'.mem.ok r _ hm
 have o2 := hw'.mem.ok r2 _ hm2
 rcases e2.arr_inv o2.1 with ⟨_, q, _⟩ | ⟨hcp2, hq2⟩
 ·omega
 obtain ⟨p1, p2, c, p3, p4, p0, p5⟩ := hw'.arxCells hm2 (by omega)
 have hcsl : cs.length = ei.size := o2.2.2.1 cs (by simp)
 have hcz : ei.size ≤ c.size := by
  rw [p4]
  have : 1 * ei.size ≤ E.cap r2 * ei.size := Gb _ hcp2
  omega
 obtain ⟨v', w', b, cap, q1, q2, q3, q4, q5⟩ := hw'.appX tc.ok (ty := ty) ht hi hei hk.2 (cs := cs) (b2 := E.blk r2) (c2 := E.cap r2) (news := c.toList.take ei.size) hm hml (e1.arr_inv o1.1) hmx hby hcsl (by simp; omega) (fun j v hv => by
  rw [Br p3, Nat.zero_add]
  rw [LD] at hv
  split at hv
  · simpa using hv
  · cases hv) (fun v hv => p0 v (by simpa using IS hv)) (fun j v x hx hv => by
  rw [LD] at hv
  split at hv
  · exact p5 0 j cs v x rfl hx (by rw [Nat.zero_mul, Nat.zero_add]; exact hv)
  · cases hv)
 have q6 : WOk F0 w0 (E.upd r b cap (ck + 1)) w' ((mem.set r (.arrx (ck + 1) e ei.size (es ++ [cs]))).set r2 .dead) (ck + 1) := q4.drop fun s x hx hl => by
  rcases A7 r2 _ s x hx with ⟨rfl, rfl⟩ | ⟨_, hx0⟩
  · exact hl.elim
  · exact hx0
 exact ⟨v', w', _, by simp [execOp, resolve, invoke, builtin, hq2, q1], q5, q6, .c (.arr r (ck + 1) (m + 1) _ (by rw [q3]; rfl) (by simp [Env.upd]) (fun _ => .inr ⟨by simp [Env.upd]; exact q2, by simp [Env.upd, q3]⟩))⟩
theorem MZ [tc : TC P T] {kk : IntKind} {z : Int} (h : Reg P F0 w0 dr ops K rest ⟨n, (d, .c (.ap r k ei.size z.toNat 0)) :: sl, mem, ck, df⟩ (1 :: acc)) (hz : 0 ≤ z) (hzm : z < (m : Int)) (hm : mem[r]? = some (.arrx k ety esz es)) (hw : GW ops g sl := by first | exact trivial | exact rfl)
  (hx : AH sl x = .c (.arr r k m) := by exact rfl) (hy : AH sl y = .c (.d (.lit (.int kk z))) := by exact rfl) (ht : T t = some i := by exact rfl) (hi : i.desc = .slice e := by exact rfl) (hei : T e = some ei := by exact rfl) :
  Reg P F0 w0 dr ops K (⟨some d, .indexAddr t x y, ty, pos, aft, g⟩ :: rest) ⟨n, sl, mem, ck, df⟩ acc := by
 refine CU hw hm (fun mem ck hm => Bx fun E w ρ hw' hρ => ?_) h
 have e1 := hρ x (by simp [Op.operands])
 have e2 := hρ y (by simp [Op.operands])
 rw [hx] at e1; rw [hy] at e2
 have e2 := e2.lit_inv
 obtain ⟨o1, o2, o3, o4, o5, o6⟩ := hw'.mem.ok r _ hm
 have hu : P.underlying t = some (.slice e) := by have := (tc.ok t i ht).desc; rw [hi] at this; exact this
 have hsz := (tc.ok e ei hei).sizeOf (w := w)
 rcases e1.arr_inv o1 with ⟨_, q, _⟩ | ⟨hcp, hq⟩
 ·omega
 refine ⟨.pointer (some ⟨E.blk r, z.toNat * ei.size, none⟩), w, E, ?_, EnvLe.refl _ _, hw', .c (.ap r k ei.size z.toNat 0 _ rfl (by omega) (fun _ => rfl))⟩
 simp [execOp, e2, hq, Instr.indexAt, asIntOf, run_underlying hu, hz, hzm, hsz, Addr.add_lit]
theorem SRep.ap_inv {E : Env} {w : World} {v : Value} {i : Nat} (h : SRep E w v (.c (.ap r k esz i o))) (hv : E.ver r = k) : v = .pointer (some ⟨E.blk r, i * esz + o, none⟩) := by
 cases h with | c h => cases h with | ap _ _ _ _ _ _ _ _ hh => exact hh hv
theorem M0 [tc : TC P T] {s : TypeId} {f : Nat} {j : TI} {fs : List (Nat × TypeId)} {off : Nat} {ft : TypeId} {esz' : Nat} (h : Reg P F0 w0 dr ops K rest ⟨n, (d, .c (.ap r k esz z (o + off))) :: sl, mem, ck, df⟩ (1 :: acc)) (hm : mem[r]? = some (.arrx k ety esz' es)) (hw : GW ops g sl := by first | exact trivial | exact rfl)
  (hx : AH sl x = .c (.ap r k esz z o) := by exact rfl) (hs : T s = some i := by exact rfl) (hi : i.desc = .struct fs := by exact rfl) (hf : fs[f]? = some (off, ft) := by exact rfl) (hj : T ft = some j := by exact rfl) (hz : decide (j.size ≠ 0) = true := by exact rfl) :
  Reg P F0 w0 dr ops K (⟨some d, .fieldAddr s x f, ty, pos, aft, g⟩ :: rest) ⟨n, sl, mem, ck, df⟩ acc := by
 refine CU hw hm (fun mem ck hm => Bx fun E w ρ hw' hρ => ?_) h
 have e1 := hρ x (by simp [Op.operands])
 rw [hx] at e1
 obtain ⟨o1, _⟩ := hw'.mem.ok r _ hm
 have e1 := e1.ap_inv o1
 have hd := (tc.ok s i hs).desc
 rw [hi] at hd
 obtain ⟨fields, hu, hfs⟩ := hd
 have hsz := (tc.ok ft j hj).sizeOf (w := w)
 have hz' : j.size ≠ 0 := by simpa using hz
 obtain ⟨fl, hfl, h1, h2⟩ : ∃ fl, fields[f]? = some fl ∧ fl.offset = off ∧ fl.type = ft := by
  rw [← hfs, B2] at hf
  cases hq : fields.toList[f]? with
  | none => rw [hq] at hf; cases hf
  | some fl =>
    rw [hq] at hf
    simp at hf
    exact ⟨fl, by simpa using hq, hf.1, hf.2⟩
 subst h1; subst h2
 refine ⟨.pointer (some ⟨E.blk r, z * esz + o + fl.offset, none⟩), w, E, ?_, EnvLe.refl _ _, hw', .c (.ap r k esz z _ _ rfl (by omega) (fun _ => by rw [XU]))⟩
 simp [execOp, e1, Instr.fieldAt, run_underlying hu, hfl, Instr.sureAddr, fieldPlace, hsz, hz', Addr.add_lit]
theorem M1 [tc : TC P T] {e : List Cell} {y : Cell} (h : Reg P F0 w0 dr ops K rest ⟨n, (d, .c y) :: sl, mem, ck, df⟩ (1 :: acc)) (hm : mem[r]? = some (.arrx k ety esz es)) (he : es[z]? = some e) (hw : GW ops g sl := by first | exact trivial | exact rfl)
  (hx : AH sl x = .c (.ap r k esz z o) := by exact rfl) (ht : T t = some i := by exact rfl) (ha : i.desc.agg = false := by exact rfl) (hs : i.size = 1 := by exact rfl) (hy : e[o]? = some y := by exact rfl) :
  Reg P F0 w0 dr ops K (⟨some d, .load t x, ty, pos, aft, g⟩ :: rest) ⟨n, sl, mem, ck, df⟩ acc := by
 refine CU hw hm (fun mem ck hm => Bx fun E w ρ hw' hρ => ?_) h
 have e1 := hρ x (by simp [Op.operands])
 rw [hx] at e1
 obtain ⟨o1, o2, o3, o4, o5, o6⟩ := hw'.mem.ok r _ hm
 have e1 := e1.ap_inv o1
 have hzl := lt_of_getElem? he
 have hol := lt_of_getElem? hy
 have hel := o3 e (Cl he)
 obtain ⟨p1, p2, c, p3, p4, p0, p5⟩ := hw'.arxCells hm (by omega)
 have hfit : z * esz + esz ≤ c.size := by
  rw [p4]
  have : (z + 1) * esz ≤ E.cap r * esz := Gb _ (by omega)
  rw [EO, Hw] at this
  exact this
 have hc : c[z * esz + o]? = some (c[z * esz + o]'(by omega)) := Mw _
 generalize c[z * esz + o]'(by omega) = u at hc
 obtain ⟨v, hr, hv⟩ := ER (P := P) (w := w) (tc.ok t i ht) (.inr hs) [u] (by simp [hs]) (E.blk r) (z * esz + o) (fun j v hv => by
  have hj := lt_of_getElem? hv
  simp only [QK] at hj
  obtain rfl : j = 0 := by omega
  simp only [List.getElem?_cons_zero, Option.some.injEq] at hv
  subst hv
  rw [Br p3, Nat.add_zero]; exact hc)
 rcases hv with ⟨q, _⟩ | ⟨_, q⟩
 ·rw [ha] at q; cases q
 ·simp only [U4, and_true] at q
  subst q
  exact ⟨u, w, E, by simp [execOp, e1, hr], EnvLe.refl _ _, hw', .c (p5 z o e u y he hy (by simpa using hc))⟩
theorem KM [tc : TC P T] {es' : List (List Cell)} {e : List Cell} {u : Cell} (h : Reg P F0 w0 dr ops K rest ⟨n, sl, mem', ck, df⟩ (2 :: acc)) (hm : mem[r]? = some (.arrx k ety esz es)) (he : es[z]? = some e) (ho : o < e.length) (hes : es.set z (e.set o u) = es') (hw : GW ops g sl := by first | exact trivial | exact rfl)
  (hx : AH sl x = .c (.ap r k esz z o) := by exact rfl) (hy : AH sl y = .c u := by exact rfl) (ht : T t = some i := by exact rfl) (hs : i.size = 1 := by exact rfl) (hm' : mem.set r (.arrx k ety esz es') = mem' := by exact rfl) :
  Reg P F0 w0 dr ops K (⟨none, .store t x y, ty, pos, aft, g⟩ :: rest) ⟨n, sl, mem, ck, df⟩ acc := by
 subst hm'; subst hes
 refine G6 (df' := []) hw (Iy fun E w ρ hw' hρ => ?_) h
 have e1 := hρ x (by simp [Op.operands])
 have e2 := hρ y (by simp [Op.operands])
 rw [hx] at e1; rw [hy] at e2
 obtain ⟨o1, o2, o3, o4, o5, o6⟩ := hw'.mem.ok r _ hm
 have e1 := e1.ap_inv o1
 obtain ⟨hc1, hc2, hc3⟩ := e2.cellsOf (show SVal.cells (.c u) = some [u] from rfl)
 have hc1 : (ρ y).cells.size = 1 := hc1
 have hzl := lt_of_getElem? he
 have hel := o3 e (Cl he)
 have hcz : E.cap r ≠ 0 := by omega
 obtain ⟨p1, p2, c, p3, p4, p0, p5⟩ := hw'.arxCells hm hcz
 have hfit : z * esz + esz ≤ c.size := by
  rw [p4]
  have : (z + 1) * esz ≤ E.cap r * esz := Gb _ (by omega)
  rw [EO, Hw] at this
  exact this
 have hvl : (ρ y).cells.toList.length = 1 := by simpa using hc1
 have hr := Fv (P := P) (w := w) (tc.ok t i ht) (ρ y) (by rw [hc1, hs]) hc2 (E.blk r) (z * esz + o) c ety p3 (by omega)
 rw [hs] at hr
 have hp := hw'.poke (w' := w.setRow (E.blk r) (c.toList.take (z * esz + o) ++ (ρ y).cells.toList ++ c.toList.drop (z * esz + o + 1)).toArray) r _ (.arrx k ety esz (es.set z (e.set o u))) hm hcz (fun q => q) (Ck w _ _ p1) (fun i hi => setRow_other w _ i _ hi) (fun hle => by
  refine ⟨o1, o2, fun e' he' => ?_, by simpa using o4, o5, .inr ⟨p1, p2, _, setRow_heap w _ c _ ety _ p3, ?_, fun v' hv' => ?_, fun i' j' e' v' x' q1 q2 q3 => ?_⟩⟩
  · rcases Zs he' with q | q
    ·exact o3 e' q
    ·subst q; simpa using hel
  · have e3 := Bd (l := c.toList) (m := (ρ y).cells.toList) (o := z * esz + o) (by simp; omega)
    rw [hvl] at e3
    simp only [Vb, e3, Se, p4]
  · exact C8 p0 hc2 (by simpa using hv')
  · have e3 := getElem?_splice (l := c.toList) (m := (ρ y).cells.toList) (o := z * esz + o) (j := i' * esz + j') (by simp; omega)
    rw [hvl] at e3
    simp only [U0] at q3
    rw [e3] at q3
    by_cases hin : i' = z
    ·subst hin
     rw [I7 hzl] at q1
     simp only [Option.some.injEq] at q1
     subst q1
     by_cases hj : j' = o
     ·subst hj
      rw [I7 ho] at q2
      simp only [Option.some.injEq] at q2
      subst q2
      rw [if_neg (by omega), if_pos (by omega), U6] at q3
      exact (hc3 0 v' u (by simpa using q3) rfl).le hle
     ·rw [Kt (Ne.symm hj)] at q2
      have hq3 : c.toList[i' * esz + j']? = some v' := by
       by_cases hlt : j' < o
       ·rw [if_pos (by omega)] at q3; exact q3
       ·rw [if_neg (by omega), if_neg (by omega)] at q3; exact q3
      exact (p5 i' j' e v' x' he q2 hq3).le hle
    ·rw [Kt (fun q => hin q.symm)] at q1
     have hj : j' < esz := by have := lt_of_getElem? q2; rw [o3 e' (Cl q1)] at this; exact this
     have hq3 : c.toList[i' * esz + j']? = some v' := by
      rcases Nat.lt_or_gt_of_ne hin with hlt | hlt
      ·have : (i' + 1) * esz ≤ z * esz := Gb _ hlt
       rw [EO, Hw] at this
       rw [if_pos (by omega)] at q3; exact q3
      ·have : (z + 1) * esz ≤ i' * esz := Gb _ hlt
       rw [EO, Hw] at this
       rw [if_neg (by omega), if_neg (by omega)] at q3; exact q3
     exact (p5 i' j' e' v' x' q1 q2 hq3).le hle)
 exact ⟨_, E, by simp [execOp, e1, hr], hp.2, hp.1⟩
theorem Yh [tc : TC P T] (h : Reg P F0 w0 dr ops K rest ⟨n, (d, .c (.d (.lit (.int .i64 m)))) :: sl, mem, ck, df⟩ (1 :: acc)) (hm : mem[r]? = some (.arrx k ety esz es)) (hw : GW ops g sl := by first | exact trivial | exact rfl) (hx : AH sl x = .c (.arr r k m) := by exact rfl) (ht : T t = some i := by exact rfl) (hi : i.desc = .slice e := by exact rfl) :
  Reg P F0 w0 dr ops K (⟨some d, .call ⟨.builtin .len, #[x], #[t]⟩, ty, pos, aft, g⟩ :: rest) ⟨n, sl, mem, ck, df⟩ acc := by
 refine CU hw hm (fun mem ck hm => Bx fun E w ρ hw' hρ => ?_) h
 have e1 := hρ x (by simp [Op.operands, Call.operands])
 rw [hx] at e1
 have o1 := hw'.mem.ok r _ hm
 have hu : P.underlying t = some (.slice e) := by have := (tc.ok t i ht).desc; rw [hi] at this; exact this
 refine ⟨.int .i64 m, w, E, ?_, EnvLe.refl _ _, hw', .c (.d (.lit _ rfl))⟩
 rcases e1.arr_inv o1.1 with ⟨_, q, a, q2⟩ | ⟨_, q2⟩
 ·subst q; simp [execOp, resolve, invoke, builtin, q2, Builtin.len_, Builtin.lenOf, run_underlying hu, goInt]
 ·simp [execOp, resolve, invoke, builtin, q2, Builtin.len_, Builtin.lenOf, run_underlying hu, goInt]
end
section
variable {P : Program} {T : TypeId → Option TI} {B : Base} {Q : Ex → St → Prop} {n : Nat} {sl : List (Nat × SVal)} {mem : List Blk} {ck : Nat} {df : List (FuncId × List Cell)}
theorem Yi (t : Nat) (ety : TypeId) (esz : Nat) {c : Code} (h : ARun P B c ⟨n, (t, .c (.arr mem.length (ck + 1) 0)) :: sl, mem', ck + 1, df⟩ Q) (hsz : 0 < esz) (ht : look sl t = .c .emp := by exact rfl) (hm' : mem ++ [.arrx (ck + 1) ety esz []] = mem' := by exact rfl) : ARun P B c ⟨n, sl, mem, ck, df⟩ Q := by
 subst hm'
 rintro a w ⟨E, ⟨hw, hsz', hdf, hsl⟩, hle⟩
 have e1 : SRep E w (a.tmps.getD t undef) (.c .emp) := by rw [← ht]; exact hsl t
 obtain ⟨q, hq⟩ := e1.emp_inv
 have hf := hw.fresh
 have htn := hw.turn (w' := w) mem.length w.heap.size 0 (ck + 1) (.arrx (ck + 1) ety esz []) (mem ++ [.arrx (ck + 1) ety esz []]) (ZB ck) (Nat.le_refl _) (FT mem _) (Bel.refl _ _) (fun _ _ _ => rfl) (fun s x _ hx hh => hf.2 s x hx hh) hf.1
  ⟨by simp [Env.upd], hsz, by simp, by simp [Env.upd], by simp [Env.upd, maxLen], .inl (by simp [Env.upd])⟩
 refine h a w ⟨_, ⟨htn.1, hsz', hdf.le htn.2, EB (fun s => (hsl s).le htn.2) ?_⟩, hle.trans htn.2⟩
 rw [hq]
 exact .c (.arr _ _ _ _ rfl (by simp [Env.upd]) (fun _ => .inl ⟨by simp [Env.upd], rfl, q, rfl⟩))
theorem VF (base r : Nat) (es' : List (List Dat)) {m1 : List Blk} {c : Code} (h : ARun P B c ⟨n, sl, m1, ck, df⟩ Q) (hm : mem[r]? = some (.arrx k ety esz es)) (hr : r < base) (hl : es'.length = es.length) (hsz : ∀ e ∈ es', e.length = esz)
  (hes : ∀ (i j : Nat) (e : List Cell) (x : Cell), es[i]? = some e → e[j]? = some x → ∃ e' y, es'[i]? = some e' ∧ e'[j]? = some y ∧ av mem base x y) (hm1 : (mem.take base).set r (.arr k ety esz es') = m1) : ARun P B c ⟨n, sl, mem, ck, df⟩ Q := by
 subst hm1
 rintro a w ⟨E, ⟨hw, hsz', hdf, hsl⟩, hle⟩
 obtain ⟨t1, t2, t3⟩ := hw.thaw base
 obtain ⟨o1, o2, o3, o4, o5, o6⟩ := hw.mem.ok r _ hm
 have hm' : (mem.take base)[r]? = some (.arrx k ety esz es) := by rw [LD, if_pos hr]; exact hm
 obtain ⟨p1, p2, p3, p4, p5, p6⟩ := t1.mem.ok r _ hm'
 refine h a w ⟨Lo E mem base, ⟨t1.swap r _ _ hm' (fun q => q) ⟨p1, p2, hsz, by rw [hl]; exact p4, p5, ?_⟩, hsz', hdf.le t2, fun s => (hsl s).le t2⟩, hle.trans t2⟩
 rcases p6 with p6 | ⟨a1, a2, cc, a3, a4, a5, a6⟩
 ·exact .inl p6
 ·rcases o6 with o6 | ⟨b1, b2, cc', b3, b4, b5, b6⟩
  · exact .inl o6
  · have hcc : cc' = cc := by
     have a3' : w.heap[E.blk r]? = some (.cells cc ety (0, 0)) := a3
     rw [b3] at a3'
     simp only [Option.some.injEq, Obj.cells.injEq] at a3'
     exact a3'.1
    subst hcc
    refine .inr ⟨a1, a2, cc', a3, a4, a5, fun i j e' v y q1 q2 q3 => ?_⟩
    have hi := lt_of_getElem? q1
    have hj := lt_of_getElem? q2
    have hee : es[i]? = some (es[i]'(by omega)) := Bh _
    have hel := o3 _ (Cl hee)
    have hee' := hsz e' (Cl q1)
    have hxx : (es[i]'(by omega))[j]? = some ((es[i]'(by omega))[j]'(by omega)) := Bh _
    obtain ⟨e2, y2, r1, r2, r3⟩ := hes i j _ _ hee hxx
    rw [q1] at r1
    simp only [Option.some.injEq] at r1
    subst r1
    rw [q2] at r2
    simp only [Option.some.injEq] at r2
    subst r2
    exact t3 _ _ _ r3 (b6 i j _ v _ hee hxx q3)
end
theorem M3 {mem : List Blk} {es x : List (List Dat)} {y : Dat} (hm : mem[r]? = some (.arr k ety z es)) (hl : m ≤ es.length) (hx : es.take m = x) : SFs mem [.c (.arr r k m), .c (.d y)] [.one (.sl x), .one y] :=
 ⟨L1 hm hl (by rw [hx]), Ky (mem := mem) rfl, trivial⟩
theorem VG {P : Program} {B : Base} {σ : St} {Q : Ex → St → Prop} (h : ARun P B .ret σ Q) : ARun P B .ret σ Q := h
theorem S5 : Ar [] [.dead, .dead] := fun s x h hl => by
 match s, h with
 | 0, h => simp at h; subst h; exact hl.elim
 | 1, h => simp at h; subst h; exact hl.elim
 | s + 2, h => simp at h
end Go.Abs
end
