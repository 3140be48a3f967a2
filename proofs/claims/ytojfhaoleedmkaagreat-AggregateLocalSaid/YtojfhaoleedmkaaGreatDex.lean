/-
  Data whose capacity is their length: made, filled, handed on, appended to.
-/
import Derived.Test.YtojfhaoleedmkaaGreatMpd
import Derived.Test.YtojfhaoleedmkaaGreatFld
section
section
namespace Go.Abs
open Go.RowKit
section
variable {P : Program} {T : TypeId → Option TI} {F0 : Nat → Prop} {w0 w : World} {E : Env} {mem : List Blk} {ck : Nat}
def FlatC (D : Value → Cell → Prop) (esz : Nat) (es : List (List Cell)) (c : List Value) : Prop :=
  ∀ (i j : Nat) e v x, es[i]? = some e → e[j]? = some x → c[i * esz + j]? = some v → D v x
theorem FlatC.snoc {D : Value → Cell → Prop} {esz : Nat} {es : List (List Cell)} {cs : List Cell} {olds news rest : List Value} (hlo : olds.length = es.length * esz) (hes : ∀ e ∈ es, e.length = esz) (hcs : cs.length = esz) (hln : news.length = esz)
    (h1 : FlatC D esz es olds) (h2 : ∀ (j : Nat) v x, cs[j]? = some x → news[j]? = some v → D v x) : FlatC D esz (es ++ [cs]) (olds ++ news ++ rest) := by
  intro i j e v x q1 q2 q3
  rw [List.getElem?_append] at q1
  split at q1
  · rename_i hi
    have hj : j < esz := by have := lt_of_getElem? q2; rw [hes e (List.mem_of_getElem? q1)] at this; exact this
    have hlt : i * esz + j < olds.length := by
      rw [hlo]
      have : (i + 1) * esz ≤ es.length * esz := Nat.mul_le_mul_right _ hi
      rw [Nat.add_mul, Nat.one_mul] at this
      omega
    rw [List.append_assoc, List.getElem?_append_left hlt] at q3
    exact h1 i j e v x q1 q2 q3
  · rename_i hi
    have hi0 := lt_of_getElem? q1
    simp only [List.length_singleton] at hi0
    obtain rfl : i = es.length := by omega
    rw [Nat.sub_self] at q1
    simp only [List.getElem?_cons_zero, Option.some.injEq] at q1
    subst q1
    have hj : j < esz := by have := lt_of_getElem? q2; omega
    rw [List.append_assoc, ← hlo, List.getElem?_append_right (by omega), Nat.add_sub_cancel_left, List.getElem?_append_left (by omega)] at q3
    exact h2 j v x q2 q3
theorem WOk.growArx {w' : World} (h : WOk F0 w0 E w mem ck) (r k : Nat) (ety : TypeId) (esz : Nat) (es0 : List (List Cell)) (hr : mem[r]? = some (.arrx k ety esz es0))
    (b cap : Nat) (es : List (List Cell)) (hes : ∀ e, e ∈ es → e.length = esz) (hcap : es.length ≤ cap) (hmax : cap ≤ maxLen)
    (hb : b = w.heap.size ∨ (b = E.blk r ∧ E.cap r ≠ 0))
    (hbel : Bel w0.heap.size w w') (hold : ∀ i, i < w.heap.size → i ≠ b → w'.heap[i]? = w.heap[i]?)
    (hc : ∃ c, w'.heap[b]? = some (.cells c ety (0, 0)) ∧ c.size = cap * esz ∧ (∀ v ∈ c, v.oneCell' = true) ∧ FlatC (CRep E w) esz es c.toList) :
    let E' := E.upd r b cap (ck + 1)
    WOk F0 w0 E' w' (mem.set r (.arrx (ck + 1) ety esz es)) (ck + 1) ∧ EnvLe E w E' w' := by
  intro E'
  have hf := h.fresh
  have ho := h.mem.ok r _ hr
  have hFb : ¬ (E.F b ∨ E.N b) ∧ w0.heap.size ≤ b := by
    rcases hb with rfl | ⟨rfl, hz⟩
    · exact ⟨hf.1, h.le0⟩
    · have := ho.lt (show Blk.has E r _ from hz); exact ⟨this.2.2, this.2.1⟩
  have hapart : ∀ s x, s ≠ r → mem[s]? = some x → x.has E s → E.blk s ≠ b := by
    intro s x hs hx hh
    rcases hb with rfl | ⟨rfl, hz⟩
    · exact hf.2 s x hx hh
    · exact h.mem.apart s r x _ hx hr hh hz hs
  have hle : EnvLe E w E' w' := Env.upd_le _ _ _ _ (by have := h.mem.clock r; omega) (fun i hi => hold i (h.FN i hi) (fun e => hFb.1 (e ▸ hi)))
  refine h.turn _ _ _ _ _ _ (by omega) (Nat.le_refl _) (set_turn r _) hbel hold hapart hFb.1 ?_
  refine ⟨by simp [Env.upd], ho.2.1, hes, by simpa [Env.upd] using hcap, by simpa [Env.upd] using hmax, ?_⟩
  obtain ⟨c, h1, h2, h0, h3⟩ := hc
  exact .inr ⟨by simp [Env.upd]; exact hFb.2, by simp only [Env.upd, if_true]; exact hFb.1, c, by simp only [Env.upd, if_true]; exact h1, by simpa [Env.upd] using h2, h0, fun i j e v x a b d => (h3 i j e v x a b (by simpa using d)).le hle⟩
theorem WOk.arxCells (h : WOk F0 w0 E w mem ck) {r k : Nat} {ety : TypeId} {esz : Nat} {es : List (List Cell)} (hr : mem[r]? = some (.arrx k ety esz es)) (hc : E.cap r ≠ 0) :
    w0.heap.size ≤ E.blk r ∧ ¬ (E.F (E.blk r) ∨ E.N (E.blk r)) ∧ ∃ c, w.heap[E.blk r]? = some (.cells c ety (0, 0)) ∧ c.size = E.cap r * esz ∧ (∀ v ∈ c, v.oneCell' = true) ∧ FlatC (CRep E w) esz es c.toList := by
  obtain ⟨h1, h2, h3, h4, h5, h6⟩ := h.mem.ok r _ hr
  rcases h6 with h6 | ⟨a1, a2, c, a3, a4, a5, a6⟩
  · exact absurd h6 hc
  · exact ⟨a1, a2, c, a3, a4, a5, fun i j e v x q1 q2 q3 => a6 i j e v x q1 q2 (by simpa using q3)⟩
theorem WOk.appX (h : WOk F0 w0 E w mem ck) (hT : TypesOk P T) {t ty e : TypeId} {i ei : TI} (ht : T t = some i) (hi : i.desc = .slice e) (hei : T e = some ei) (hzl : ei.zero.length = ei.size) {r k m : Nat} {es : List (List Cell)} {cs : List Cell} {u : Value} {b2 c2 : Nat} {news : List Value}
    (hr : mem[r]? = some (.arrx k e ei.size es)) (hm : es.length = m) (hu : (E.cap r = 0 ∧ m = 0 ∧ ∃ a, u = .slice a 0 0) ∨ (0 < E.cap r ∧ u = .slice (some ⟨E.blk r, 0, none⟩) m (E.cap r)))
    (hml : m + 1 ≤ maxLen) (hby : (m + 1) * ei.bytes ≤ 140737488355328) (hcl : cs.length = ei.size) (hnl : news.length = ei.size) (hnc : ∀ (j : Nat) v, news[j]? = some v → w.cell? ⟨b2, 0 + j, none⟩ = some v) (hn1 : ∀ v ∈ news, v.oneCell' = true) (hnr : ∀ (j : Nat) v x, cs[j]? = some x → news[j]? = some v → CRep E w v x) :
    ∃ v' w' b cap, (Builtin.append_ #[t, t] ty #[u, .slice (some ⟨b2, 0, none⟩) 1 c2]).run P w = .ok v' w' ∧ 0 < cap ∧ v' = .slice (some ⟨b, 0, none⟩) (m + 1) cap ∧ WOk F0 w0 (E.upd r b cap (ck + 1)) w' (mem.set r (.arrx (ck + 1) e ei.size (es ++ [cs]))) (ck + 1) ∧ EnvLe E w (E.upd r b cap (ck + 1)) w' := by
  have hU : P.underlying t = some (.slice e) := by have := (hT t i ht).desc; rw [hi] at this; exact this
  obtain ⟨fi, z, hi1, hi2, hi3, hi4, hi5⟩ := (hT e ei hei).info
  have hz : z.cells.size = ei.size := by rw [hi5]; simpa using hzl
  have hz1 : ∀ v ∈ z.cells, v.oneCell' = true := fun v hv => (hT e ei hei).ones v (by rw [hi5] at hv; simpa using hv)
  obtain ⟨o1, o2, o3, o4, o5, _⟩ := h.mem.ok r _ hr
  have hall : ∀ el, el ∈ es ++ [cs] → el.length = ei.size := fun el hel => by
    rcases List.mem_append.1 hel with q | q
    · exact o3 el q
    · rw [List.mem_singleton] at q; subst q; exact hcl
  have hlen : (es ++ [cs]).length = m + 1 := by simp [hm]
  have h63 : ((m + 1 : Nat) : Int) ≤ 9223372036854775807 := by simp only [maxLen] at hml; omega
  have hnl1 : news.length = 1 * ei.size := by omega
  rcases hu with ⟨hcz, hm0, a, rfl⟩ | ⟨hcp, rfl⟩
  · subst hm0
    obtain rfl : es = [] := List.eq_nil_of_length_eq_zero hm
    obtain ⟨gcap, hg, hge, hgm, c, hc1, hc2, hc0, hc3⟩ := grown_block (w := w) (e := e) (old := 0) (esz := ei.size) (need := 1) hz hnl1 (by omega) hz1 hn1
    have hrun : (Builtin.append_ #[t, t] ty #[.slice a 0 0, .slice (some ⟨b2, 0, none⟩) 1 c2]).run P w =
        .ok (.slice (some ⟨w.heap.size, 0, none⟩) 1 gcap) (w.drew.alloc (.cells (news.toArray ++ Builtin.zeroCells z.cells (gcap - 1)) e)) := by
      cases a with
      | none =>
        have := run_append_nil (P := P) w t ty e fi z hU hi1 hi4 ⟨b2, 0, none⟩ 1 c2 news (by rw [hi2]; exact hnl1) (fun j v hv => by rw [Addr.add_lit]; exact hnc j v hv) (by omega) (by omega) (by rw [hi3]; omega)
        rw [hg]; exact this
      | some a =>
        have := run_append_grow (P := P) w t ty e fi z hU hi1 hi4 a 0 0 [] (by simp) (by simp) ⟨b2, 0, none⟩ 1 c2 news (by rw [hi2]; exact hnl1) (fun j v hv => by rw [Addr.add_lit]; exact hnc j v hv) (by omega) (by omega)
          (by rw [hi3]; exact growslice_fits (by omega) (by simpa using hby))
        simp only [Nat.zero_add, Array.empty_append] at this
        rw [hg]; exact this
    have hgr := h.growArx (w' := w.drew.alloc (.cells (news.toArray ++ Builtin.zeroCells z.cells (gcap - 1)) e)) r k e ei.size [] hr w.heap.size gcap ([] ++ [cs]) hall (by simp; omega) hgm (.inl rfl) (below_growth w _ h.le0)
      (fun i hi _ => by rw [Bel.heap_alloc w.drew _ i hi]; rfl) ⟨c, hc1, hc2, hc0, by
        have := FlatC.snoc (D := CRep E w) (es := []) (cs := cs) (olds := []) (news := news) (rest := (Builtin.zeroCells z.cells (gcap - 1)).toList) (by simp) (by simp) hcl hnl (fun _ _ _ _ _ q => by simp at q) hnr
        rw [hc3]; simpa using this⟩
    exact ⟨_, _, _, gcap, hrun, by omega, rfl, hgr.1, hgr.2⟩
  · obtain ⟨p1, p2, c, p3, p4, p0, p5⟩ := h.arxCells hr (by omega)
    have hmc : m ≤ E.cap r := by omega
    have hnc' : m * ei.size ≤ c.size := by rw [p4]; exact Nat.mul_le_mul_right _ hmc
    have hlo : (c.toList.take (m * ei.size)).length = m * ei.size := by simp; omega
    have hfl : FlatC (CRep E w) ei.size es (c.toList.take (m * ei.size)) := by
      intro i j e' v x q1 q2 q3
      rw [List.getElem?_take] at q3
      split at q3
      · exact p5 i j e' v x q1 q2 q3
      · cases q3
    by_cases hroom : m + 1 ≤ E.cap r
    · have hfit : m * ei.size + news.length ≤ c.size := by rw [hnl1, p4, ← Nat.add_mul]; exact Nat.mul_le_mul_right _ hroom
      have hrun := run_append_room (P := P) w t ty e fi hU hi1 (E.blk r) m (E.cap r) c p3 ⟨b2, 0, none⟩ 1 c2 news (by rw [hi2]; exact hnl1) (fun j v hv => by rw [Addr.add_lit]; exact hnc j v hv) hn1 hroom (by rw [hi2]; exact hfit)
      rw [hi2] at hrun
      have hg := h.growArx (w' := w.setRow (E.blk r) (c.toList.take (m * ei.size) ++ news ++ c.toList.drop (m * ei.size + news.length)).toArray) r k e ei.size es hr (E.blk r) (E.cap r) (es ++ [cs]) hall (by omega) o5 (.inr ⟨rfl, by omega⟩) (below_setRow w _ _ p1) (fun i hi hne => setRow_other w _ i _ hne)
        ⟨_, setRow_heap w _ c _ e _ p3, by
          have := length_splice (l := c.toList) (m := news) (o := m * ei.size) (by simpa using hfit)
          simp only [List.size_toArray, this, Array.length_toList, p4], fun v hv => ones_splice p0 hn1 (by simpa using hv), by
          have := FlatC.snoc (D := CRep E w) (es := es) (cs := cs) (olds := c.toList.take (m * ei.size)) (news := news) (rest := c.toList.drop (m * ei.size + news.length)) (by rw [hlo, hm]) o3 hcl hnl hfl hnr
          simpa using this⟩
      exact ⟨_, _, _, E.cap r, hrun, hcp, rfl, hg.1, hg.2⟩
    · have hjl : (c.toList.take (m * ei.size) ++ news).length = (m + 1) * ei.size := by rw [List.length_append, hlo, hnl1, Nat.add_mul]
      obtain ⟨gcap, hg, hge, hgm, c', hc1, hc2, hc0, hc3⟩ := grown_block (w := w) (e := e) (old := E.cap r) hz hjl hml hz1 (fun v hv => by
        rcases List.mem_append.1 hv with hv | hv
        · exact p0 v (by simpa using List.mem_of_mem_take hv)
        · exact hn1 v hv)
      have hrun := run_append_grow (P := P) w t ty e fi z hU hi1 hi4 ⟨E.blk r, 0, none⟩ m (E.cap r) (c.toList.take (m * ei.size)) (by rw [hi2]; exact hlo) (fun j v hv => by
          rw [Addr.add_lit, cell_of_block p3]
          rw [List.getElem?_take] at hv
          split at hv
          · simpa using hv
          · cases hv) ⟨b2, 0, none⟩ 1 c2 news (by rw [hi2]; exact hnl1) (fun j v hv => by rw [Addr.add_lit]; exact hnc j v hv) (by omega) h63 (by rw [hi3]; exact growslice_fits (by omega) hby)
      have happ : (c.toList.take (m * ei.size)).toArray ++ news.toArray = (c.toList.take (m * ei.size) ++ news).toArray := by simp
      rw [happ, ← hg] at hrun
      have hgr := h.growArx (w' := w.drew.alloc (.cells ((c.toList.take (m * ei.size) ++ news).toArray ++ Builtin.zeroCells z.cells (gcap - (m + 1))) e)) r k e ei.size es hr w.heap.size gcap (es ++ [cs]) hall (by omega) hgm (.inl rfl) (below_growth w _ h.le0)
        (fun i hi _ => by rw [Bel.heap_alloc w.drew _ i hi]; rfl)
        ⟨c', hc1, hc2, hc0, by
          have := FlatC.snoc (D := CRep E w) (es := es) (cs := cs) (olds := c.toList.take (m * ei.size)) (news := news) (rest := (Builtin.zeroCells z.cells (gcap - (m + 1))).toList) (by rw [hlo, hm]) o3 hcl hnl hfl hnr
          rw [hc3]; exact this⟩
      exact ⟨_, _, _, gcap, hrun, by omega, rfl, hgr.1, hgr.2⟩
end
section
variable {P : Program} {T : TypeId → Option TI} {F0 : Nat → Prop} {w0 : World}
variable {dr : Bool} {ops rest : List Oper} {K : St → Prop} {n : Nat} {sl : List (Nat × SVal)} {mem : List Blk} {ck : Nat} {df : List (FuncId × List Cell)} {acc : List Nat}
variable {d : Tmp} {op : Op} {ty : TypeId} {pos : String} {aft : Array Edge} {g : Option (Nat × Bool)}
theorem s_bsliceX [tc : TC P T] (r : Nat) {t e : TypeId} {x : Operand} {i ei : TI} {cs : List Cell} {mem' : List Blk} (h : Reg P F0 w0 dr ops K rest ⟨n, (d, .c (.arr r (ck + 1) 1)) :: sl, mem', ck + 1, df⟩ (2 :: acc)) (_ : mem[r]? = some .dead := by exact rfl) (hw : GW ops g sl := by first | exact trivial | exact rfl)
    (hx : evS sl x = .agg cs := by exact rfl) (ht : T t = some i := by exact rfl) (hi : i.desc = .slice e := by exact rfl) (hei : T e = some ei := by exact rfl) (hc : (Nat.blt 0 ei.size && Nat.beq ei.zero.length ei.size && Nat.ble ei.size 16777216 && Nat.beq cs.length ei.size) = true := by exact rfl) (hm' : mem.set r (.arrx (ck + 1) e ei.size [cs]) = mem' := by exact rfl) :
    Reg P F0 w0 dr ops K (⟨some d, .buildSlice t 1 #[(0, x)], ty, pos, aft, g⟩ :: rest) ⟨n, sl, mem, ck, df⟩ acc := by
  subst hm'
  refine at2 (df' := []) hw (doesM fun E w ρ hw' hρ => ?_) h
  have e1 := hρ x (by simp [Op.operands])
  rw [hx] at e1
  simp only [Bool.and_eq_true, Nat.beq_eq, Nat.ble_eq, Nat.blt, Nat.succ_le_iff] at hc
  obtain ⟨⟨⟨h1, h2⟩, h3⟩, h4⟩ := hc
  obtain ⟨c1, c2, c3⟩ := e1.cellsOf (show SVal.cells (.agg cs) = some cs from rfl)
  have hu : P.underlying t = some (.slice e) := by have := (tc.ok t i ht).desc; rw [hi] at this; exact this
  have hsz := (tc.ok e ei hei).sizeOf (w := w)
  obtain ⟨fi, z, hi1, hi2, hi3, hi4, hi5⟩ := (tc.ok e ei hei).info
  obtain ⟨cells1, hs1, hs2, hs3⟩ := fill_step (fun i => some (i * ei.size, ei.size)) ((Array.range (1 * ei.size)).map (z.cells[· % z.cells.size]!)) 0 (0 * ei.size) ei.size (ρ x) [] rfl (by omega) (by simp)
  have hcl : cells1.toList = (ρ x).cells.toList := by
    rw [hs3]
    simp only [Nat.zero_mul, List.take_zero, List.nil_append, Nat.zero_add]
    rw [List.drop_of_length_le (by simp), List.append_nil]
  have hcs : cells1.size = 1 * ei.size := by rw [hs2]; simp
  have hone : ∀ v ∈ cells1, v.oneCell' = true := fun v hv => c2 v (by rw [← hcl]; simpa using hv)
  have hrun : (Instr.buildSlice t 1 #[(0, ρ x)]).run P w = .ok (.slice (some ⟨w.heap.size, 0, none⟩) 1 1) (w.alloc (.cells cells1 e)) := by
    simp only [Instr.buildSlice, Sem.run_bind, run_underlying hu, Result.andThen_ok, hsz]
    rw [if_neg (show ¬ 1 * ei.size > 2 ^ 24 by omega)]
    simp only [Sem.run_pure, Result.andThen_ok, if_neg (show ¬ 1 * ei.size = 0 by omega), Sem.run_bind, zeroValue, typeInfo, run_program, hi1, hi4]
    rw [hs1]
    simp only [Instr.fill, Sem.run_bind, newRow, run_newObj, Result.andThen_ok, Sem.run_pure, World.alloc_eq]
  have hf := hw'.fresh
  have hle : EnvLe E w (E.upd r w.heap.size 1 (ck + 1)) (w.alloc (.cells cells1 e)) := Env.upd_le _ _ _ _ (by have := hw'.mem.clock r; omega) (fun j hj => Bel.heap_alloc w _ j (hw'.FN j hj))
  have htn := hw'.turn (w' := w.alloc (.cells cells1 e)) r w.heap.size 1 (ck + 1) (.arrx (ck + 1) e ei.size [cs]) _ (Nat.lt_succ_self ck) (Nat.le_refl _) (set_turn r _) ((Bel.refl _ w).alloc hw'.le0 _) (fun j hj _ => Bel.heap_alloc w _ j hj) (fun s x _ hx hh => hf.2 s x hx hh) hf.1
    ⟨by simp [Env.upd], h1, fun e' he' => by rw [List.mem_singleton] at he'; subst he'; exact h4, by simp [Env.upd], by simp [Env.upd, maxLen], .inr ⟨by simp [Env.upd]; exact hw'.le0, by simp only [Env.upd, if_true]; exact hf.1, cells1, by simp only [Env.upd, if_true]; exact Go.heap_alloc_new w _, by simpa [Env.upd] using hcs, hone, fun i' j' e' v' x' q1 q2 q3 => by
      have hi0 := lt_of_getElem? q1
      simp only [List.length_singleton] at hi0
      obtain rfl : i' = 0 := by omega
      simp only [List.getElem?_cons_zero, Option.some.injEq] at q1
      subst q1
      rw [Nat.zero_mul, Nat.zero_add, ← Array.getElem?_toList, hcl, Array.getElem?_toList] at q3
      exact (c3 j' v' x' q3 q2).le hle⟩⟩
  exact ⟨.slice (some ⟨w.heap.size, 0, none⟩) 1 1, w.alloc (.cells cells1 e), E.upd r w.heap.size 1 (ck + 1), by simp [execOp, hrun], htn.2, htn.1, .c (.arr r (ck + 1) 1 _ rfl (by simp [Env.upd]) (fun _ => .inr ⟨by simp [Env.upd], by simp [Env.upd]⟩))⟩
theorem s_appX [tc : TC P T] (r r2 : Nat) {t e : TypeId} {x y : Operand} {i ei : TI} {k k2 m : Nat} {es : List (List Cell)} {cs : List Cell} {mem' : List Blk} (h : Reg P F0 w0 dr ops K rest ⟨n, (d, .c (.arr r (ck + 1) (m + 1))) :: sl, mem', ck + 1, df⟩ (2 :: acc)) (hml : es.length = m) (hmx : m + 1 ≤ maxLen) (hby : (m + 1) * ei.bytes ≤ 140737488355328) (hm : mem[r]? = some (.arrx k e ei.size es)) (hm2 : mem[r2]? = some (.arrx k2 e ei.size [cs])) (hne : r ≠ r2)
    (hw : GW ops g sl := by first | exact trivial | exact rfl) (hx : evS sl x = .c (.arr r k m) := by exact rfl) (hy : evS sl y = .c (.arr r2 k2 1) := by exact rfl) (ht : T t = some i := by exact rfl) (hi : i.desc = .slice e := by exact rfl) (hei : T e = some ei := by exact rfl) (hk : (Nat.blt 0 ei.size && Nat.beq ei.zero.length ei.size) = true := by exact rfl) (hm' : (mem.set r (.arrx (ck + 1) e ei.size (es ++ [cs]))).set r2 .dead = mem' := by exact rfl) :
    Reg P F0 w0 dr ops K (⟨some d, .call ⟨.builtin .append, #[x, y], #[t, t]⟩, ty, pos, aft, g⟩ :: rest) ⟨n, sl, mem, ck, df⟩ acc := by
  subst hm'
  refine at2 (df' := []) hw (doesM fun E w ρ hw' hρ => ?_) h
  have e1 := hρ x (by simp [Op.operands, Call.operands])
  have e2 := hρ y (by simp [Op.operands, Call.operands])
  rw [hx] at e1; rw [hy] at e2
  simp only [Bool.and_eq_true, Nat.beq_eq, Nat.ble_eq, Nat.blt, Nat.succ_le_iff] at hk
  have o1 := hw'.mem.ok r _ hm
  have o2 := hw'.mem.ok r2 _ hm2
  rcases e2.arr_inv o2.1 with ⟨_, q, _⟩ | ⟨hcp2, hq2⟩
  · omega
  obtain ⟨p1, p2, c, p3, p4, p0, p5⟩ := hw'.arxCells hm2 (by omega)
  have hcsl : cs.length = ei.size := o2.2.2.1 cs (by simp)
  have hcz : ei.size ≤ c.size := by
    rw [p4]
    have : 1 * ei.size ≤ E.cap r2 * ei.size := Nat.mul_le_mul_right _ hcp2
    omega
  obtain ⟨v', w', b, cap, q1, q2, q3, q4, q5⟩ := hw'.appX tc.ok (ty := ty) ht hi hei hk.2 (cs := cs) (b2 := E.blk r2) (c2 := E.cap r2) (news := c.toList.take ei.size) hm hml (e1.arr_inv o1.1) hmx hby hcsl (by simp; omega) (fun j v hv => by
    rw [cell_of_block p3, Nat.zero_add]
    rw [List.getElem?_take] at hv
    split at hv
    · simpa using hv
    · cases hv) (fun v hv => p0 v (by simpa using List.mem_of_mem_take hv)) (fun j v x hx hv => by
    rw [List.getElem?_take] at hv
    split at hv
    · exact p5 0 j cs v x rfl hx (by rw [Nat.zero_mul, Nat.zero_add]; exact hv)
    · cases hv)
  have q6 : WOk F0 w0 (E.upd r b cap (ck + 1)) w' ((mem.set r (.arrx (ck + 1) e ei.size (es ++ [cs]))).set r2 .dead) (ck + 1) := q4.drop fun s x hx hl => by
    rcases set_turn r2 _ s x hx with ⟨rfl, rfl⟩ | ⟨_, hx0⟩
    · exact hl.elim
    · exact hx0
  exact ⟨v', w', _, by simp [execOp, resolve, invoke, builtin, hq2, q1], q5, q6, .c (.arr r (ck + 1) (m + 1) _ (by rw [q3]; rfl) (by simp [Env.upd]) (fun _ => .inr ⟨by simp [Env.upd]; exact q2, by simp [Env.upd, q3]⟩))⟩
theorem s_indexX [tc : TC P T] {t e : TypeId} {x y : Operand} {i ei : TI} {kk : IntKind} {z : Int} {m r k esz : Nat} {ety : TypeId} {es : List (List Cell)} (h : Reg P F0 w0 dr ops K rest ⟨n, (d, .c (.ap r k ei.size z.toNat 0)) :: sl, mem, ck, df⟩ (1 :: acc)) (hz : 0 ≤ z) (hzm : z < (m : Int)) (hm : mem[r]? = some (.arrx k ety esz es)) (hw : GW ops g sl := by first | exact trivial | exact rfl)
    (hx : evS sl x = .c (.arr r k m) := by exact rfl) (hy : evS sl y = .c (.d (.lit (.int kk z))) := by exact rfl) (ht : T t = some i := by exact rfl) (hi : i.desc = .slice e := by exact rfl) (hei : T e = some ei := by exact rfl) :
    Reg P F0 w0 dr ops K (⟨some d, .indexAddr t x y, ty, pos, aft, g⟩ :: rest) ⟨n, sl, mem, ck, df⟩ acc := by
  refine at1g hw hm (fun mem ck hm => doesM fun E w ρ hw' hρ => ?_) h
  have e1 := hρ x (by simp [Op.operands])
  have e2 := hρ y (by simp [Op.operands])
  rw [hx] at e1; rw [hy] at e2
  have e2 := e2.lit_inv
  obtain ⟨o1, o2, o3, o4, o5, o6⟩ := hw'.mem.ok r _ hm
  have hu : P.underlying t = some (.slice e) := by have := (tc.ok t i ht).desc; rw [hi] at this; exact this
  have hsz := (tc.ok e ei hei).sizeOf (w := w)
  rcases e1.arr_inv o1 with ⟨_, q, _⟩ | ⟨hcp, hq⟩
  · omega
  refine ⟨.pointer (some ⟨E.blk r, z.toNat * ei.size, none⟩), w, E, ?_, EnvLe.refl _ _, hw', .c (.ap r k ei.size z.toNat 0 _ rfl (by omega) (fun _ => rfl))⟩
  simp [execOp, e2, hq, Instr.indexAt, asIntOf, run_underlying hu, hz, hzm, hsz, Addr.add_lit]
theorem SRep.ap_inv {E : Env} {w : World} {v : Value} {r k esz i o : Nat} (h : SRep E w v (.c (.ap r k esz i o))) (hv : E.ver r = k) : v = .pointer (some ⟨E.blk r, i * esz + o, none⟩) := by
  cases h with | c h => cases h with | ap _ _ _ _ _ _ _ _ hh => exact hh hv
theorem s_fieldX [tc : TC P T] {s : TypeId} {f : Nat} {x : Operand} {i j : TI} {fs : List (Nat × TypeId)} {off : Nat} {ft : TypeId} {r k esz esz' z o : Nat} {ety : TypeId} {es : List (List Cell)} (h : Reg P F0 w0 dr ops K rest ⟨n, (d, .c (.ap r k esz z (o + off))) :: sl, mem, ck, df⟩ (1 :: acc)) (hm : mem[r]? = some (.arrx k ety esz' es)) (hw : GW ops g sl := by first | exact trivial | exact rfl)
    (hx : evS sl x = .c (.ap r k esz z o) := by exact rfl) (hs : T s = some i := by exact rfl) (hi : i.desc = .struct fs := by exact rfl) (hf : fs[f]? = some (off, ft) := by exact rfl) (hj : T ft = some j := by exact rfl) (hz : decide (j.size ≠ 0) = true := by exact rfl) :
    Reg P F0 w0 dr ops K (⟨some d, .fieldAddr s x f, ty, pos, aft, g⟩ :: rest) ⟨n, sl, mem, ck, df⟩ acc := by
  refine at1g hw hm (fun mem ck hm => doesM fun E w ρ hw' hρ => ?_) h
  have e1 := hρ x (by simp [Op.operands])
  rw [hx] at e1
  obtain ⟨o1, _⟩ := hw'.mem.ok r _ hm
  have e1 := e1.ap_inv o1
  have hd := (tc.ok s i hs).desc
  rw [hi] at hd
  obtain ⟨fields, hu, hfs⟩ := hd
  have hsz := (tc.ok ft j hj).sizeOf (w := w)
  have hz' : j.size ≠ 0 := by simpa using hz
  obtain ⟨fl, hfl, h1, h2⟩ : ∃ fl, fields[f]? = some fl ∧ fl.offset = off ∧ fl.type = ft := by
    rw [← hfs, List.getElem?_map] at hf
    cases hq : fields.toList[f]? with
    | none => rw [hq] at hf; cases hf
    | some fl =>
      rw [hq] at hf
      simp at hf
      exact ⟨fl, by simpa using hq, hf.1, hf.2⟩
  subst h1; subst h2
  refine ⟨.pointer (some ⟨E.blk r, z * esz + o + fl.offset, none⟩), w, E, ?_, EnvLe.refl _ _, hw', .c (.ap r k esz z _ _ rfl (by omega) (fun _ => by rw [Nat.add_assoc]))⟩
  simp [execOp, e1, Instr.fieldAt, run_underlying hu, hfl, Instr.sureAddr, fieldPlace, hsz, hz', Addr.add_lit]
theorem s_loadX1 [tc : TC P T] {t : TypeId} {x : Operand} {i : TI} {r k esz z o : Nat} {ety : TypeId} {es : List (List Cell)} {e : List Cell} {y : Cell} (h : Reg P F0 w0 dr ops K rest ⟨n, (d, .c y) :: sl, mem, ck, df⟩ (1 :: acc)) (hm : mem[r]? = some (.arrx k ety esz es)) (he : es[z]? = some e) (hw : GW ops g sl := by first | exact trivial | exact rfl)
    (hx : evS sl x = .c (.ap r k esz z o) := by exact rfl) (ht : T t = some i := by exact rfl) (ha : i.desc.agg = false := by exact rfl) (hs : i.size = 1 := by exact rfl) (hy : e[o]? = some y := by exact rfl) :
    Reg P F0 w0 dr ops K (⟨some d, .load t x, ty, pos, aft, g⟩ :: rest) ⟨n, sl, mem, ck, df⟩ acc := by
  refine at1g hw hm (fun mem ck hm => doesM fun E w ρ hw' hρ => ?_) h
  have e1 := hρ x (by simp [Op.operands])
  rw [hx] at e1
  obtain ⟨o1, o2, o3, o4, o5, o6⟩ := hw'.mem.ok r _ hm
  have e1 := e1.ap_inv o1
  have hzl := lt_of_getElem? he
  have hol := lt_of_getElem? hy
  have hel := o3 e (List.mem_of_getElem? he)
  obtain ⟨p1, p2, c, p3, p4, p0, p5⟩ := hw'.arxCells hm (by omega)
  have hfit : z * esz + esz ≤ c.size := by
    rw [p4]
    have : (z + 1) * esz ≤ E.cap r * esz := Nat.mul_le_mul_right _ (by omega)
    rw [Nat.add_mul, Nat.one_mul] at this
    exact this
  have hc : c[z * esz + o]? = some (c[z * esz + o]'(by omega)) := Array.getElem?_eq_getElem _
  generalize c[z * esz + o]'(by omega) = u at hc
  obtain ⟨v, hr, hv⟩ := run_loadAt (P := P) (w := w) (tc.ok t i ht) (.inr hs) [u] (by simp [hs]) (E.blk r) (z * esz + o) (fun j v hv => by
    have hj := lt_of_getElem? hv
    simp only [List.length_singleton] at hj
    obtain rfl : j = 0 := by omega
    simp only [List.getElem?_cons_zero, Option.some.injEq] at hv
    subst hv
    rw [cell_of_block p3, Nat.add_zero]; exact hc)
  rcases hv with ⟨q, _⟩ | ⟨_, q⟩
  · rw [ha] at q; cases q
  · simp only [List.cons.injEq, and_true] at q
    subst q
    exact ⟨u, w, E, by simp [execOp, e1, hr], EnvLe.refl _ _, hw', .c (p5 z o e u y he hy (by simpa using hc))⟩
theorem s_storeX1 [tc : TC P T] {t : TypeId} {x y : Operand} {i : TI} {r k esz z o : Nat} {ety : TypeId} {es es' : List (List Cell)} {e : List Cell} {u : Cell} {mem' : List Blk} (h : Reg P F0 w0 dr ops K rest ⟨n, sl, mem', ck, df⟩ (2 :: acc)) (hm : mem[r]? = some (.arrx k ety esz es)) (he : es[z]? = some e) (ho : o < e.length) (hes : es.set z (e.set o u) = es') (hw : GW ops g sl := by first | exact trivial | exact rfl)
    (hx : evS sl x = .c (.ap r k esz z o) := by exact rfl) (hy : evS sl y = .c u := by exact rfl) (ht : T t = some i := by exact rfl) (hs : i.size = 1 := by exact rfl) (hm' : mem.set r (.arrx k ety esz es') = mem' := by exact rfl) :
    Reg P F0 w0 dr ops K (⟨none, .store t x y, ty, pos, aft, g⟩ :: rest) ⟨n, sl, mem, ck, df⟩ acc := by
  subst hm'; subst hes
  refine at2n (df' := []) hw (doesU fun E w ρ hw' hρ => ?_) h
  have e1 := hρ x (by simp [Op.operands])
  have e2 := hρ y (by simp [Op.operands])
  rw [hx] at e1; rw [hy] at e2
  obtain ⟨o1, o2, o3, o4, o5, o6⟩ := hw'.mem.ok r _ hm
  have e1 := e1.ap_inv o1
  obtain ⟨hc1, hc2, hc3⟩ := e2.cellsOf (show SVal.cells (.c u) = some [u] from rfl)
  have hc1 : (ρ y).cells.size = 1 := hc1
  have hzl := lt_of_getElem? he
  have hel := o3 e (List.mem_of_getElem? he)
  have hcz : E.cap r ≠ 0 := by omega
  obtain ⟨p1, p2, c, p3, p4, p0, p5⟩ := hw'.arxCells hm hcz
  have hfit : z * esz + esz ≤ c.size := by
    rw [p4]
    have : (z + 1) * esz ≤ E.cap r * esz := Nat.mul_le_mul_right _ (by omega)
    rw [Nat.add_mul, Nat.one_mul] at this
    exact this
  have hvl : (ρ y).cells.toList.length = 1 := by simpa using hc1
  have hr := run_storeAt (P := P) (w := w) (tc.ok t i ht) (ρ y) (by rw [hc1, hs]) hc2 (E.blk r) (z * esz + o) c ety p3 (by omega)
  rw [hs] at hr
  have hp := hw'.poke (w' := w.setRow (E.blk r) (c.toList.take (z * esz + o) ++ (ρ y).cells.toList ++ c.toList.drop (z * esz + o + 1)).toArray) r _ (.arrx k ety esz (es.set z (e.set o u))) hm hcz (fun q => q) (below_setRow w _ _ p1) (fun i hi => setRow_other w _ i _ hi) (fun hle => by
    refine ⟨o1, o2, fun e' he' => ?_, by simpa using o4, o5, .inr ⟨p1, p2, _, setRow_heap w _ c _ ety _ p3, ?_, fun v' hv' => ?_, fun i' j' e' v' x' q1 q2 q3 => ?_⟩⟩
    · rcases List.mem_or_eq_of_mem_set he' with q | q
      · exact o3 e' q
      · subst q; simpa using hel
    · have e3 := length_splice (l := c.toList) (m := (ρ y).cells.toList) (o := z * esz + o) (by simp; omega)
      rw [hvl] at e3
      simp only [List.size_toArray, e3, Array.length_toList, p4]
    · exact ones_splice p0 hc2 (by simpa using hv')
    · have e3 := getElem?_splice (l := c.toList) (m := (ρ y).cells.toList) (o := z * esz + o) (j := i' * esz + j') (by simp; omega)
      rw [hvl] at e3
      simp only [List.getElem?_toArray] at q3
      rw [e3] at q3
      by_cases hin : i' = z
      · subst hin
        rw [List.getElem?_set_self hzl] at q1
        simp only [Option.some.injEq] at q1
        subst q1
        by_cases hj : j' = o
        · subst hj
          rw [List.getElem?_set_self ho] at q2
          simp only [Option.some.injEq] at q2
          subst q2
          rw [if_neg (by omega), if_pos (by omega), Nat.sub_self] at q3
          exact (hc3 0 v' u (by simpa using q3) rfl).le hle
        · rw [List.getElem?_set_ne (Ne.symm hj)] at q2
          have hq3 : c.toList[i' * esz + j']? = some v' := by
            by_cases hlt : j' < o
            · rw [if_pos (by omega)] at q3; exact q3
            · rw [if_neg (by omega), if_neg (by omega)] at q3; exact q3
          exact (p5 i' j' e v' x' he q2 hq3).le hle
      · rw [List.getElem?_set_ne (fun q => hin q.symm)] at q1
        have hj : j' < esz := by have := lt_of_getElem? q2; rw [o3 e' (List.mem_of_getElem? q1)] at this; exact this
        have hq3 : c.toList[i' * esz + j']? = some v' := by
          rcases Nat.lt_or_gt_of_ne hin with hlt | hlt
          · have : (i' + 1) * esz ≤ z * esz := Nat.mul_le_mul_right _ hlt
            rw [Nat.add_mul, Nat.one_mul] at this
            rw [if_pos (by omega)] at q3; exact q3
          · have : (z + 1) * esz ≤ i' * esz := Nat.mul_le_mul_right _ hlt
            rw [Nat.add_mul, Nat.one_mul] at this
            rw [if_neg (by omega), if_neg (by omega)] at q3; exact q3
        exact (p5 i' j' e' v' x' q1 q2 hq3).le hle)
  exact ⟨_, E, by simp [execOp, e1, hr], hp.2, hp.1⟩
theorem s_lenX [tc : TC P T] {t e : TypeId} {i : TI} {x : Operand} {r k m esz : Nat} {ety : TypeId} {es : List (List Cell)} (h : Reg P F0 w0 dr ops K rest ⟨n, (d, .c (.d (.lit (.int .i64 m)))) :: sl, mem, ck, df⟩ (1 :: acc)) (hm : mem[r]? = some (.arrx k ety esz es)) (hw : GW ops g sl := by first | exact trivial | exact rfl) (hx : evS sl x = .c (.arr r k m) := by exact rfl) (ht : T t = some i := by exact rfl) (hi : i.desc = .slice e := by exact rfl) :
    Reg P F0 w0 dr ops K (⟨some d, .call ⟨.builtin .len, #[x], #[t]⟩, ty, pos, aft, g⟩ :: rest) ⟨n, sl, mem, ck, df⟩ acc := by
  refine at1g hw hm (fun mem ck hm => doesM fun E w ρ hw' hρ => ?_) h
  have e1 := hρ x (by simp [Op.operands, Call.operands])
  rw [hx] at e1
  have o1 := hw'.mem.ok r _ hm
  have hu : P.underlying t = some (.slice e) := by have := (tc.ok t i ht).desc; rw [hi] at this; exact this
  refine ⟨.int .i64 m, w, E, ?_, EnvLe.refl _ _, hw', .c (.d (.lit _ rfl))⟩
  rcases e1.arr_inv o1.1 with ⟨_, q, a, q2⟩ | ⟨_, q2⟩
  · subst q; simp [execOp, resolve, invoke, builtin, q2, Builtin.len_, Builtin.lenOf, run_underlying hu, goInt]
  · simp [execOp, resolve, invoke, builtin, q2, Builtin.len_, Builtin.lenOf, run_underlying hu, goInt]
end
section
variable {P : Program} {T : TypeId → Option TI} {B : Base} {Q : Ex → St → Prop} {n : Nat} {sl : List (Nat × SVal)} {mem : List Blk} {ck : Nat} {df : List (FuncId × List Cell)}
theorem s_ownX (t : Nat) (ety : TypeId) (esz : Nat) {mem' : List Blk} {c : Code} (h : ARun P B c ⟨n, (t, .c (.arr mem.length (ck + 1) 0)) :: sl, mem', ck + 1, df⟩ Q) (hsz : 0 < esz) (ht : look sl t = .c .emp := by exact rfl) (hm' : mem ++ [.arrx (ck + 1) ety esz []] = mem' := by exact rfl) : ARun P B c ⟨n, sl, mem, ck, df⟩ Q := by
  subst hm'
  rintro a w ⟨E, ⟨hw, hsz', hdf, hsl⟩, hle⟩
  have e1 : SRep E w (a.tmps.getD t undef) (.c .emp) := by rw [← ht]; exact hsl t
  obtain ⟨q, hq⟩ := e1.emp_inv
  have hf := hw.fresh
  have htn := hw.turn (w' := w) mem.length w.heap.size 0 (ck + 1) (.arrx (ck + 1) ety esz []) (mem ++ [.arrx (ck + 1) ety esz []]) (Nat.lt_succ_self ck) (Nat.le_refl _) (snoc_turn mem _) (Bel.refl _ _) (fun _ _ _ => rfl) (fun s x _ hx hh => hf.2 s x hx hh) hf.1
    ⟨by simp [Env.upd], hsz, by simp, by simp [Env.upd], by simp [Env.upd, maxLen], .inl (by simp [Env.upd])⟩
  refine h a w ⟨_, ⟨htn.1, hsz', hdf.le htn.2, slots_put (fun s => (hsl s).le htn.2) ?_⟩, hle.trans htn.2⟩
  rw [hq]
  exact .c (.arr _ _ _ _ rfl (by simp [Env.upd]) (fun _ => .inl ⟨by simp [Env.upd], rfl, q, rfl⟩))
theorem s_thawX (base r : Nat) {k : Nat} {ety : TypeId} {esz : Nat} {es : List (List Cell)} (es' : List (List Dat)) {m1 : List Blk} {c : Code} (h : ARun P B c ⟨n, sl, m1, ck, df⟩ Q) (hm : mem[r]? = some (.arrx k ety esz es)) (hr : r < base) (hl : es'.length = es.length) (hsz : ∀ e ∈ es', e.length = esz)
    (hes : ∀ (i j : Nat) (e : List Cell) (x : Cell), es[i]? = some e → e[j]? = some x → ∃ e' y, es'[i]? = some e' ∧ e'[j]? = some y ∧ CFb mem base x y) (hm1 : (mem.take base).set r (.arr k ety esz es') = m1) : ARun P B c ⟨n, sl, mem, ck, df⟩ Q := by
  subst hm1
  rintro a w ⟨E, ⟨hw, hsz', hdf, hsl⟩, hle⟩
  obtain ⟨t1, t2, t3⟩ := hw.thaw base
  obtain ⟨o1, o2, o3, o4, o5, o6⟩ := hw.mem.ok r _ hm
  have hm' : (mem.take base)[r]? = some (.arrx k ety esz es) := by rw [List.getElem?_take, if_pos hr]; exact hm
  obtain ⟨p1, p2, p3, p4, p5, p6⟩ := t1.mem.ok r _ hm'
  refine h a w ⟨thawE E mem base, ⟨t1.swap r _ _ hm' (fun q => q) ⟨p1, p2, hsz, by rw [hl]; exact p4, p5, ?_⟩, hsz', hdf.le t2, fun s => (hsl s).le t2⟩, hle.trans t2⟩
  rcases p6 with p6 | ⟨a1, a2, cc, a3, a4, a5, a6⟩
  · exact .inl p6
  · rcases o6 with o6 | ⟨b1, b2, cc', b3, b4, b5, b6⟩
    · exact .inl o6
    · have hcc : cc' = cc := by
        have a3' : w.heap[E.blk r]? = some (.cells cc ety (0, 0)) := a3
        rw [b3] at a3'
        simp only [Option.some.injEq, Obj.cells.injEq] at a3'
        exact a3'.1
      subst hcc
      refine .inr ⟨a1, a2, cc', a3, a4, a5, fun i j e' v y q1 q2 q3 => ?_⟩
      have hi := lt_of_getElem? q1
      have hj := lt_of_getElem? q2
      have hee : es[i]? = some (es[i]'(by omega)) := List.getElem?_eq_getElem _
      have hel := o3 _ (List.mem_of_getElem? hee)
      have hee' := hsz e' (List.mem_of_getElem? q1)
      have hxx : (es[i]'(by omega))[j]? = some ((es[i]'(by omega))[j]'(by omega)) := List.getElem?_eq_getElem _
      obtain ⟨e2, y2, r1, r2, r3⟩ := hes i j _ _ hee hxx
      rw [q1] at r1
      simp only [Option.some.injEq] at r1
      subst r1
      rw [q2] at r2
      simp only [Option.some.injEq] at r2
      subst r2
      exact t3 _ _ _ r3 (b6 i j _ v _ hee hxx q3)
end
theorem sfs_arr1 {mem : List Blk} {r k m z : Nat} {ety : TypeId} {es x : List (List Dat)} {y : Dat} (hm : mem[r]? = some (.arr k ety z es)) (hl : m ≤ es.length) (hx : es.take m = x) : SFs mem [.c (.arr r k m), .c (.d y)] [.one (.sl x), .one y] :=
  ⟨cf_arr hm hl (by rw [hx]), cf_d (mem := mem) rfl, trivial⟩
theorem is_retC {P : Program} {B : Base} {σ : St} {Q : Ex → St → Prop} (h : ARun P B .ret σ Q) : ARun P B .ret σ Q := h
theorem memIn_d2 : memIn [] [.dead, .dead] := fun s x h hl => by
  match s, h with
  | 0, h => simp at h; subst h; exact hl.elim
  | 1, h => simp at h; subst h; exact hl.elim
  | s + 2, h => simp at h
end Go.Abs
end
end
section
section
section
section
namespace Go.Abs
open Go.RowKit
section
variable {P : Program} {B : Base} {n : Nat} {sl : List (Nat × SVal)} {mem : List Blk} {ck : Nat} {df : List (FuncId × List Cell)} {Q : Ex → St → Prop}
theorem hole_rel {a : Act} {w : World} (h : Rel B ⟨n, sl, mem, ck, df⟩ a w) : Rel B ⟨n, sl, mem ++ [.hole (ck + 1)], ck + 1, df⟩ a w := by
  obtain ⟨E, ⟨h1, h2, h3, h4⟩, hB⟩ := h
  refine ⟨E, ⟨⟨h1.below, h1.base, h1.F, ⟨fun r => ?_, fun r b hb => ?_, fun r r' b b' hb hb' q q' hne => ?_⟩, h1.N⟩, h2, h3, h4⟩, hB⟩
  · have := h1.mem.clock r
    simp only at this ⊢; omega
  · rcases getElem?_snoc hb with hb | ⟨_, rfl⟩
    · exact h1.mem.ok r b hb
    · have := h1.mem.clock r
      show E.ver r < ck + 1
      simp only at this; omega
  · rcases getElem?_snoc hb with hb | ⟨_, rfl⟩
    · rcases getElem?_snoc hb' with hb' | ⟨_, rfl⟩
      · exact h1.mem.apart r r' b b' hb hb' q q' hne
      · exact q'.elim
    · exact q.elim
theorem k_hole (m : Nat) {mem' : List Blk} {c : Code} (h : ARun P B c ⟨n, sl, mem', ck + 1, df⟩ Q) (_ : mem.length = m := by exact rfl) (hm' : mem ++ [.hole (ck + 1)] = mem' := by repeat' (first | exact nfNil rfl | apply nfCons rfl)) : ARun P B c ⟨n, sl, mem, ck, df⟩ Q := by
  subst hm'
  exact k_turn (τ := ⟨n, sl, mem ++ [.hole (ck + 1)], ck + 1, df⟩) rfl (fun a w hr => hole_rel hr) h
end
section
variable {P : Program} {T : TypeId → Option TI} {F0 : Nat → Prop} {w0 : World}
variable {dr : Bool} {ops rest : List Oper} {K : St → Prop} {n : Nat} {sl : List (Nat × SVal)} {mem : List Blk} {ck : Nat} {df : List (FuncId × List Cell)} {acc : List Nat}
variable {d : Tmp} {ty : TypeId} {pos : String} {aft : Array Edge} {g : Option (Nat × Bool)}
theorem s_allocH [tc : TC P T] (r : Nat) {t : TypeId} {i : TI} {k : Nat} {cs : List Cell} {mem' : List Blk} (h : Reg P F0 w0 dr ops K rest ⟨n, (d, .c (.bp r k 0)) :: sl, mem', ck, df⟩ (kindL r false :: acc)) (hm : mem[r]? = some (.hole k) := by exact rfl) (hk : k ≤ ck := by omega) (hw : GW ops g sl := by first | exact trivial | exact rfl) (ht : T t = some i := by exact rfl)
    (hcs : i.zero.map valCell = cs := by repeat' (first | exact nfNil rfl | apply nfCons rfl)) (hm' : mem.set r (.box k cs) = mem' := by exact rfl) : Reg P F0 w0 dr ops K (⟨some d, .alloc t, ty, pos, aft, g⟩ :: rest) ⟨n, sl, mem, ck, df⟩ acc := by
  subst hm'; subst hcs
  refine at4 hw hm hk (fun M c hM hc => doesM fun E w ρ hw' hρ => ?_) h
  have hTt := tc.ok t i ht
  obtain ⟨fi, z, hi1, hi2, hi3, hi4, hi5⟩ := hTt.info
  have hf := hw'.fresh
  have hv : E.ver r < k := hw'.mem.ok r _ hM
  have hle : EnvLe E w (E.upd r w.heap.size 0 k) (w.alloc (.cells i.zero.toArray t)) := Env.upd_le _ _ _ _ hv (fun j hj => Bel.heap_alloc w _ j (hw'.FN j hj))
  have htn := hw'.turnV (w' := w.alloc (.cells i.zero.toArray t)) (clock' := c) r w.heap.size 0 k (.box k (i.zero.map valCell)) _ hv (Nat.le_refl _) hc (set_turn r _) ((Bel.refl _ w).alloc hw'.le0 _) (fun j hj _ => Bel.heap_alloc w _ j hj) (fun s x _ hx hh => hf.2 s x hx hh) hf.1
    ⟨by simp [Env.upd], by simp [Env.upd]; exact hw'.le0, by simp only [Env.upd, if_true]; exact hf.1, i.zero.toArray, t, by simp only [Env.upd, if_true]; exact Go.heap_alloc_new w _, by simp, fun j v x a b => (zero_rep hTt j v x a b).le hle⟩
  exact ⟨.pointer (some ⟨w.heap.size, 0, none⟩), _, E.upd r w.heap.size 0 k, by simp [execOp, Instr.alloc, zeroValue, typeInfo, hi1, hi4, newVar, newRow, hi5], htn.2, htn.1, .c (.bp r k 0 _ rfl (by simp [Env.upd]) (fun _ => by simp [Env.upd]))⟩
/-! Reads and stores of one box. -/
theorem h_loadBA [tc : TC P T] {t : TypeId} {x : Operand} {i : TI} {r k o : Nat} {cs cs' : List Cell} (h : Reg P F0 w0 dr ops K rest ⟨n, (d, .agg cs') :: sl, mem, ck, df⟩ (kindL r true :: acc)) (hw : GW ops g sl := by first | exact trivial | exact rfl) (hx : evS sl x = .c (.bp r k o) := by exact rfl) (ht : T t = some i := by exact rfl) (ha : i.desc.agg = true := by exact rfl) (hm : mem[r]? = some (.box k cs) := by exact rfl) (hs : decide (o + i.size ≤ cs.length) = true := by exact rfl) (hcs : (cs.drop o).take i.size = cs' := by repeat' (first | exact nfNil rfl | apply nfCons rfl)) : Reg P F0 w0 dr ops K (⟨some d, .load t x, ty, pos, aft, g⟩ :: rest) ⟨n, sl, mem, ck, df⟩ acc :=
  at4r hw hm (fun mem ck hm => Does.of tc.ok fun τ he hmm hc Kk hK => by
    subst hmm; subst hc; subst hcs
    have ex := he x (by simp [Op.operands])
    rw [hx] at ex
    simp only [astep, aLoad, ht, ex, ha, hm]
    refine ⟨.inl trivial, trivial, by simpa using hs, ?_⟩
    exact hK _ _ _ _ ⟨rfl, rfl, rfl, rfl⟩) h
theorem h_storeB [tc : TC P T] {t : TypeId} {x y : Operand} {i : TI} {r k o : Nat} {v : SVal} {cs cs0 cs' : List Cell} {mem' : List Blk} (h : Reg P F0 w0 dr ops K rest ⟨n, sl, mem', ck, df⟩ (kindL r false :: acc)) (hw : GW ops g sl := by first | exact trivial | exact rfl) (hx : evS sl x = .c (.bp r k o) := by exact rfl) (hy : evS sl y = v := by first | exact (rfl : _ = SVal.c _) | exact (rfl : _ = SVal.agg _) | exact (rfl : _ = SVal.tup _) | exact (rfl : _ = SVal.und) | exact rfl) (hc : v.cells = some cs := by exact rfl) (ht : T t = some i := by exact rfl) (hl : cs.length = i.size := by exact rfl) (hm : mem[r]? = some (.box k cs0) := by exact rfl) (hs : decide (o + i.size ≤ cs0.length) = true := by exact rfl) (hcs : cs0.take o ++ cs ++ cs0.drop (o + i.size) = cs' := by repeat' (first | exact nfNil rfl | apply nfCons rfl)) (hm' : mem.set r (.box k cs') = mem' := by repeat' (first | exact nfNil rfl | apply nfCons rfl)) : Reg P F0 w0 dr ops K (⟨none, .store t x y, ty, pos, aft, g⟩ :: rest) ⟨n, sl, mem, ck, df⟩ acc := by
  subst hm'
  exact at4n (v := .junk) hw hm (fun M c hM => Does.of tc.ok fun τ he hmm hck Kk hK => by
    subst hmm; subst hck; subst hcs
    have ex := he x (by simp [Op.operands])
    have ey := he y (by simp [Op.operands])
    rw [hx] at ex
    rw [hy] at ey
    simp only [astep, aStore, ht, ex, ey, hc, hM]
    exact ⟨hl, trivial, by simpa using hs, hK _ _ _ _ ⟨rfl, rfl, rfl, rfl⟩⟩) h
theorem h_indexVB [tc : TC P T] {t e : TypeId} {x y : Operand} {i ei : TI} {kk : IntKind} {z : Int} {m r k o : Nat} {cs : List Cell} (h : Reg P F0 w0 dr ops K rest ⟨n, (d, .c (.bp r k (o + z.toNat * ei.size))) :: sl, mem, ck, df⟩ (kindL r true :: acc)) (hw : GW ops g sl := by first | exact trivial | exact rfl) (hx : evS sl x = .c (.bp r k o) := by exact rfl) (hy : evS sl y = .c (.d (.lit (.int kk z))) := by exact rfl) (ht : T t = some i := by exact rfl) (hi : i.desc = .array m e := by exact rfl) (he' : T e = some ei := by exact rfl) (hm : mem[r]? = some (.box k cs) := by exact rfl) (hz : 0 ≤ z := by omega) (hzm : z < (m : Int) := by omega) : Reg P F0 w0 dr ops K (⟨some d, .indexAddr t x y, ty, pos, aft, g⟩ :: rest) ⟨n, sl, mem, ck, df⟩ acc :=
  at4r hw hm (fun mem ck hm => Does.of tc.ok fun τ he hmm hc Kk hK => by
    subst hmm; subst hc
    have ex := he x (by simp [Op.operands])
    have ey := he y (by simp [Op.operands])
    rw [hx] at ex
    rw [hy] at ey
    obtain ⟨a1, a2, a3, a4, a5⟩ := i
    simp only at hi
    subst hi
    simp only [astep, aIndex, ht, he', ex, ey, liveAt, hm]
    exact ⟨hz, hzm, trivial, hK _ _ _ _ ⟨rfl, rfl, rfl, rfl⟩⟩) h
end
end Go.Abs
end
end
section
section
namespace Go.Abs
open Go.RowKit
section
variable {P : Program} {T : TypeId → Option TI} {F0 : Nat → Prop} {w0 w : World} {E : Env} {mem : List Blk} {clock : Nat}
theorem WOk.holeArr {w' : World} (h : WOk F0 w0 E w mem clock) {r k : Nat} (hr : mem[r]? = some (.hole k)) (hk : k ≤ clock) (ety : TypeId) (esz cap : Nat) (es : List (List Dat)) (hesz : 0 < esz) (hes : ∀ e, e ∈ es → e.length = esz) (hcap : es.length ≤ cap) (hmax : cap ≤ maxLen)
    (hbel : Bel w0.heap.size w w') (hold : ∀ i, i < w.heap.size → w'.heap[i]? = w.heap[i]?)
    (hc : cap = 0 ∨ ∃ c, w'.heap[w.heap.size]? = some (.cells c ety (0, 0)) ∧ c.size = cap * esz ∧ (∀ v ∈ c, v.oneCell' = true) ∧ ∀ (i j : Nat) e v x, es[i]? = some e → e[j]? = some x → c[i * esz + j]? = some v → DRep E.F w v x) :
    let E' := E.upd r w.heap.size cap k
    WOk F0 w0 E' w' (mem.set r (.arr k ety esz es)) clock ∧ EnvLe E w E' w' := by
  intro E'
  have hf := h.fresh
  have hv : E.ver r < k := h.mem.ok r _ hr
  have hle : EnvLe E w E' w' := Env.upd_le _ _ _ _ hv (fun i hi => hold i (h.FN i hi))
  refine h.turnV r _ _ k _ _ hv (Nat.le_refl _) hk (set_turn r _) hbel (fun i hi _ => hold i hi) (fun s x _ hx hh => hf.2 s x hx hh) hf.1 ?_
  refine ⟨by simp [Env.upd], hesz, hes, by simpa [Env.upd] using hcap, by simpa [Env.upd] using hmax, ?_⟩
  rcases hc with hc | ⟨c, h1, h2, h0, h3⟩
  · exact .inl (by simp [Env.upd, hc])
  · refine .inr ⟨by simp [Env.upd]; exact h.le0, by simp only [Env.upd, if_true]; exact hf.1, c, by simp only [Env.upd, if_true]; exact h1, by simpa [Env.upd] using h2, h0, fun i j e v x a b d => (h3 i j e v x a b d).le hle⟩
end
section
variable {P : Program} {T : TypeId → Option TI} {F0 : Nat → Prop} {w0 : World}
variable {dr : Bool} {ops rest : List Oper} {K : St → Prop} {n : Nat} {sl : List (Nat × SVal)} {mem : List Blk} {ck : Nat} {df : List (FuncId × List Cell)} {acc : List Nat}
variable {d : Tmp} {op : Op} {ty : TypeId} {pos : String} {aft : Array Edge} {g : Option (Nat × Bool)}
theorem h_appE [tc : TC P T] (r : Nat) {t e : TypeId} {x y : Operand} {i ei : TI} {u : SVal} {ys : List (List Dat)} {k : Nat} {mem' : List Blk} (h : Reg P F0 w0 dr ops K rest ⟨n, (d, .c (.arr r k ys.length)) :: sl, mem', ck, df⟩ (kindL r false :: acc)) (hsz : ∀ el ∈ ys, el.length = ei.size) (hl : ys.length ≤ maxLen) (hby : ys.length * ei.bytes ≤ 140737488355328) (hm : mem[r]? = some (.hole k) := by exact rfl) (hk : k ≤ ck := by omega) (hw : GW ops g sl := by first | exact trivial | exact rfl)
    (hx : evS sl x = .c .emp := by exact rfl) (hy : evS sl y = u := by exact (rfl : _ = SVal.c _)) (hs : srcOf u = some ys := by exact rfl) (ht : T t = some i := by exact rfl) (hi : i.desc = .slice e := by exact rfl) (hei : T e = some ei := by exact rfl) (hkk : (Nat.blt 0 ei.size && Nat.beq ei.zero.length ei.size) = true := by exact rfl) (hm' : mem.set r (.arr k e ei.size ys) = mem' := by exact rfl) :
    Reg P F0 w0 dr ops K (⟨some d, .call ⟨.builtin .append, #[x, y], #[t, t]⟩, ty, pos, aft, g⟩ :: rest) ⟨n, sl, mem, ck, df⟩ acc := by
  subst hm'
  refine at4 hw hm hk (fun M c hM hc => doesM fun E w ρ hw' hρ => ?_) h
  have e1 := hρ x (by simp [Op.operands, Call.operands])
  have e2 := hρ y (by simp [Op.operands, Call.operands])
  rw [hx] at e1; rw [hy] at e2
  have hrep := src_rep e2 hs
  simp only [Bool.and_eq_true, Nat.beq_eq, Nat.ble_eq, Nat.blt, Nat.succ_le_iff] at hkk
  obtain ⟨a, ha⟩ : ∃ a, ρ x = .slice a 0 0 := by
    generalize ρ x = q at e1
    cases e1 with | c hs => cases hs with | emp a => exact ⟨a, rfl⟩
  obtain ⟨v', w', cap, q1, q2, q3, q4, q5, q6, q7⟩ := append_fresh tc.ok hw' (ty := ty) ht hi hei hkk.2 hsz hl hby hrep a
  have hq := hw'.holeArr hM hc e ei.size cap ys hkk.1 hsz q2 q3 q4 q5 q7
  refine ⟨v', w', _, by simp [execOp, resolve, invoke, builtin, ha, q1], hq.2, hq.1, .c (.arr r k ys.length v' ?_ (by simp [Env.upd]) (fun _ => ?_))⟩
  · rcases q6 with ⟨_, b, rfl⟩ | ⟨_, rfl⟩ <;> rfl
  · rcases q6 with ⟨h5, b, rfl⟩ | ⟨h5, rfl⟩
    · exact .inl ⟨by simp [Env.upd, h5], by omega, b, rfl⟩
    · exact .inr ⟨by simp [Env.upd]; exact h5, by simp [Env.upd]⟩
/-! Fields and cells of one box. -/
theorem h_fieldB [tc : TC P T] {s : TypeId} {f : Nat} {x : Operand} {i j : TI} {fs : List (Nat × TypeId)} {off : Nat} {ft : TypeId} {r k o : Nat} {cs : List Cell} (h : Reg P F0 w0 dr ops K rest ⟨n, (d, .c (.bp r k (o + off))) :: sl, mem, ck, df⟩ (kindL r true :: acc)) (hw : GW ops g sl := by first | exact trivial | exact rfl) (hx : evS sl x = .c (.bp r k o) := by exact rfl) (hs : T s = some i := by exact rfl) (hi : i.desc = .struct fs := by exact rfl) (hf : fs[f]? = some (off, ft) := by exact rfl) (hj : T ft = some j := by exact rfl) (hz : decide (j.size ≠ 0) = true := by exact rfl) (hm : mem[r]? = some (.box k cs) := by exact rfl) :
    Reg P F0 w0 dr ops K (⟨some d, .fieldAddr s x f, ty, pos, aft, g⟩ :: rest) ⟨n, sl, mem, ck, df⟩ acc :=
  at4r hw hm (fun mem ck hm => Does.of tc.ok fun τ he hmm hc Kk hK => by
    subst hmm; subst hc
    have ex := he x (by simp [Op.operands])
    rw [hx] at ex
    obtain ⟨a1, a2, a3, a4, a5⟩ := i
    simp only at hi
    subst hi
    simp only [astep, aField, hs, hf, hj, ex, liveAt, hm]
    exact ⟨by simpa using hz, trivial, hK _ _ _ _ ⟨rfl, rfl, rfl, rfl⟩⟩) h
theorem h_loadB1 [tc : TC P T] {t : TypeId} {x : Operand} {i : TI} {r k o : Nat} {cs : List Cell} {y : Cell} (h : Reg P F0 w0 dr ops K rest ⟨n, (d, .c y) :: sl, mem, ck, df⟩ (kindL r true :: acc)) (hw : GW ops g sl := by first | exact trivial | exact rfl) (hx : evS sl x = .c (.bp r k o) := by exact rfl) (ht : T t = some i := by exact rfl) (ha : i.desc.agg = false := by exact rfl) (hs : i.size = 1 := by exact rfl) (hm : mem[r]? = some (.box k cs) := by exact rfl) (hy : cs[o]? = some y := by exact rfl) :
    Reg P F0 w0 dr ops K (⟨some d, .load t x, ty, pos, aft, g⟩ :: rest) ⟨n, sl, mem, ck, df⟩ acc :=
  at4r hw hm (fun mem ck hm => Does.of tc.ok fun τ he hmm hc Kk hK => by
    subst hmm; subst hc
    have ex := he x (by simp [Op.operands])
    rw [hx] at ex
    have hlt := lt_of_getElem? hy
    have e1 : (cs.drop o).take 1 = [y] := by
      rw [List.drop_eq_getElem_cons hlt]
      rw [List.getElem?_eq_getElem hlt] at hy
      simp at hy
      simp [hy]
    simp only [astep, aLoad, ht, ex, ha, hs, hm]
    refine ⟨.inr trivial, trivial, hlt, ?_⟩
    rw [e1]
    exact hK _ _ _ _ ⟨rfl, rfl, rfl, rfl⟩) h
end
end Go.Abs
end
end
end
section
section
namespace Go.Abs
open Go.RowKit
section
variable {F : Nat → Prop} {w : World}
theorem DRep.ex_sl {v : Value} {es : List (List Dat)} (h : DRep F w v (.ex es)) : DRep F w v (.sl es) := by
  cases h with
  | exn a => exact .emp a 0
  | ex _ b off size u hF hmax hsz hc hd => exact .sl es b off es.length size u hF (Nat.le_refl _) hmax hsz hc hd
theorem DRep.sl_ex {a : Option Addr} {m : Nat} {es : List (List Dat)} (h : DRep F w (.slice a m m) (.sl es)) : DRep F w (.slice a m m) (.ex es) := by
  cases h with
  | emp a cap => exact .exn a
  | sl _ b off cap size u hF hcap hmax hsz hc hd => exact .ex es b off size u hF hmax hsz hc hd
theorem DRep.ex_inv {v : Value} {es : List (List Dat)} (h : DRep F w v (.ex es)) : ∃ a, v = .slice a es.length es.length := by
  cases h with
  | exn a => exact ⟨a, rfl⟩
  | ex _ b off size u hF hmax hsz hc hd => exact ⟨_, rfl⟩
end
section
variable {P : Program} {T : TypeId → Option TI} {F0 : Nat → Prop} {w0 : World}
variable {dr : Bool} {ops rest : List Oper} {K : St → Prop} {n : Nat} {sl : List (Nat × SVal)} {mem : List Blk} {ck : Nat} {df : List (FuncId × List Cell)} {acc : List Nat}
variable {d : Tmp} {op : Op} {ty : TypeId} {pos : String} {aft : Array Edge} {g : Option (Nat × Bool)}
theorem s_moveE {x : Operand} {es : List (List Dat)} (h : Reg P F0 w0 dr ops K rest ⟨n, (d, .c (.d (.sl es))) :: sl, mem, ck, df⟩ (0 :: acc)) (hw : GW ops g sl := by first | exact trivial | exact rfl) (hx : evS sl x = .c (.d (.ex es)) := by exact rfl) :
    Reg P F0 w0 dr ops K (⟨some d, .move x, ty, pos, aft, g⟩ :: rest) ⟨n, sl, mem, ck, df⟩ acc :=
  at0 hw (does0 fun E w ρ hρ => by
    have e1 := hρ x (by simp [Op.operands])
    rw [hx] at e1
    exact ⟨ρ x, by simp [execOp], .c (.d e1.d_inv.ex_sl)⟩) h
theorem s_makeC [tc : TC P T] {t e : TypeId} {l c : Operand} {i ei : TI} {k k' : IntKind} {z : Int} {m : Nat} {zd : List Dat}
    (h : ∀ b, Reg P F0 w0 dr ops K rest ⟨n, (d, .c (.arr mem.length (ck + 1) m)) :: sl, mem ++ [.arrc (ck + 1) e ei.size (List.replicate m zd) b m], ck + 1, df⟩ (2 :: acc)) (h0 : 0 ≤ z) (hm : z.toNat = m) (hmx : z ≤ 9223372036854775807) (hby : (ei.bytes : Int) * z ≤ 140737488355328) (hzd : dats (ei.zero.map valCell) = some zd) (hdr : dr = false := by exact rfl) (hw : GW ops g sl := by first | exact trivial | exact rfl)
    (hl : evS sl l = .c (.d (.lit (.int k z))) := by exact rfl) (hc : evS sl c = .c (.d (.lit (.int k' z))) := by exact rfl) (ht : T t = some i := by exact rfl) (hi : i.desc = .slice e := by exact rfl) (hei : T e = some ei := by exact rfl) (hk : (Nat.blt 0 ei.size && Nat.beq ei.zero.length ei.size) = true := by exact rfl) :
    Reg P F0 w0 dr ops K (⟨some d, .makeSlice t l c, ty, pos, aft, g⟩ :: rest) ⟨n, sl, mem, ck, df⟩ acc := by
  subst hm
  refine at2r (R := fun v m' c' df' => (∃ b, v = .c (.arr mem.length (ck + 1) z.toNat) ∧ m' = mem ++ [.arrc (ck + 1) e ei.size (List.replicate z.toNat zd) b z.toNat] ∧ c' = ck + 1) ∧ df' = []) hdr hw (doesR fun E w ρ hw' hρ => ?_) ?_
  · have e1 := hρ l (by simp [Op.operands])
    have e2 := hρ c (by simp [Op.operands])
    rw [hl] at e1; rw [hc] at e2
    have e1 := e1.lit_inv
    have e2 := e2.lit_inv
    simp only [Bool.and_eq_true, Nat.beq_eq, Nat.ble_eq, Nat.blt, Nat.succ_le_iff] at hk
    have hu : P.underlying t = some (.slice e) := by have := (tc.ok t i ht).desc; rw [hi] at this; exact this
    obtain ⟨fi, zv, hi1, hi2, hi3, hi4, hi5⟩ := (tc.ok e ei hei).info
    have hr := run_make (P := P) w t e fi zv hu hi1 hi4 k k' z z h0 (Int.le_refl _) (by rw [hi3]; omega) hmx
    rw [hi2] at hr
    have hzlen := dats_len hzd
    have hzs : zv.cells.size = ei.size := by rw [hi5]; simpa using hk.2
    have hn := hw'.newArr (w' := w.alloc (.cells (madeCells zv.cells (z.toNat * ei.size)) e)) e ei.size z.toNat (List.replicate z.toNat zd) hk.1 (fun e' he' => by rw [List.eq_of_mem_replicate he', hzlen]; simpa using hk.2) (by simp) (by simp [maxLen]; omega)
      ((Bel.refl _ w).alloc hw'.le0 _) (fun i hi => Bel.heap_alloc w _ i hi) (.inr ⟨_, Go.heap_alloc_new w _, by simp [size_madeCells], fun v hv => (tc.ok e ei hei).ones v (by have := mem_madeCells (by omega) hv; rw [hi5] at this; simpa using this), fun i j e' v x q1 q2 q3 => by
        have hi := lt_of_getElem? q1
        simp only [List.length_replicate] at hi
        rw [List.getElem?_replicate, if_pos hi] at q1
        simp only [Option.some.injEq] at q1
        subst q1
        have hj := lt_of_getElem? q2
        rw [hzlen] at hj
        simp only [List.length_map, hk.2] at hj
        have hlt : i * ei.size + j < z.toNat * ei.size := by
          have : (i + 1) * ei.size ≤ z.toNat * ei.size := Nat.mul_le_mul_right _ (by omega)
          rw [Nat.add_mul, Nat.one_mul] at this
          omega
        have hmod : (i * ei.size + j) % ei.size = j := by rw [Nat.mul_comm, Nat.mul_add_mod, Nat.mod_eq_of_lt hj]
        have hget : (madeCells zv.cells (z.toNat * ei.size))[i * ei.size + j]? = zv.cells[j]? := by
          unfold madeCells
          rw [Array.getElem?_map]
          have hjs : j < zv.cells.size := by rw [hzs]; exact hj
          simp only [Array.getElem?_range, hlt, if_true, Option.map_some, hzs, hmod]
          rw [getElem!_pos zv.cells j hjs, Array.getElem?_eq_getElem hjs]
        rw [hget, hi5] at q3
        exact dats_rep (E := E) (v := v) hzd (fun y hy => zero_rep (tc.ok e ei hei) j v y q3 hy) q2⟩)
    have hr2 : (mem ++ [Blk.arr (ck + 1) e ei.size (List.replicate z.toNat zd)])[mem.length]? = some (.arr (ck + 1) e ei.size (List.replicate z.toNat zd)) := by simp
    have hq := hn.1.toArrc hr2
    simp only [Env.upd, if_true] at hq
    rw [show (mem ++ [Blk.arr (ck + 1) e ei.size (List.replicate z.toNat zd)]).set mem.length (.arrc (ck + 1) e ei.size (List.replicate z.toNat zd) w.heap.size z.toNat) = mem ++ [.arrc (ck + 1) e ei.size (List.replicate z.toNat zd) w.heap.size z.toNat] by simp] at hq
    refine ⟨.slice (some ⟨w.heap.size, 0, none⟩) z.toNat z.toNat, _, _, _, _, _, by simp [execOp, e1, e2, hr], hn.2, hq, .c (.arr mem.length (ck + 1) z.toNat _ rfl (by simp [Env.upd]) (fun _ => ?_)), w.heap.size, rfl, rfl, rfl⟩
    rcases Nat.eq_zero_or_pos z.toNat with hm0 | hm0
    · exact .inl ⟨by simp [Env.upd, hm0], hm0, some ⟨w.heap.size, 0, none⟩, by rw [hm0]⟩
    · exact .inr ⟨by simp [Env.upd]; omega, by simp [Env.upd]⟩
  · rintro v m' c' df' ⟨⟨b, rfl, rfl, rfl⟩, rfl⟩
    exact h b
theorem s_indexC [tc : TC P T] {t e : TypeId} {x y : Operand} {i ei : TI} {kk : IntKind} {z : Int} {m r k esz b c : Nat} {ety : TypeId} {es : List (List Dat)} (h : Reg P F0 w0 dr ops K rest ⟨n, (d, .c (.ap r k ei.size z.toNat 0)) :: sl, mem, ck, df⟩ (1 :: acc)) (hz : 0 ≤ z) (hzm : z < (m : Int)) (hm : mem[r]? = some (.arrc k ety esz es b c)) (hw : GW ops g sl := by first | exact trivial | exact rfl)
    (hx : evS sl x = .c (.arr r k m) := by exact rfl) (hy : evS sl y = .c (.d (.lit (.int kk z))) := by exact rfl) (ht : T t = some i := by exact rfl) (hi : i.desc = .slice e := by exact rfl) (hei : T e = some ei := by exact rfl) :
    Reg P F0 w0 dr ops K (⟨some d, .indexAddr t x y, ty, pos, aft, g⟩ :: rest) ⟨n, sl, mem, ck, df⟩ acc := by
  refine at1g hw hm (fun mem ck hm => doesM fun E w ρ hw' hρ => ?_) h
  have e1 := hρ x (by simp [Op.operands])
  have e2 := hρ y (by simp [Op.operands])
  rw [hx] at e1; rw [hy] at e2
  have e2 := e2.lit_inv
  obtain ⟨⟨o1, o2, o3, o4, o5, o6⟩, _, _⟩ := hw'.mem.ok r _ hm
  have hu : P.underlying t = some (.slice e) := by have := (tc.ok t i ht).desc; rw [hi] at this; exact this
  have hsz := (tc.ok e ei hei).sizeOf (w := w)
  rcases e1.arr_inv o1 with ⟨_, q, _⟩ | ⟨hcp, hq⟩
  · omega
  refine ⟨.pointer (some ⟨E.blk r, z.toNat * ei.size, none⟩), w, E, ?_, EnvLe.refl _ _, hw', .c (.ap r k ei.size z.toNat 0 _ rfl (by omega) (fun _ => rfl))⟩
  simp [execOp, e2, hq, Instr.indexAt, asIntOf, run_underlying hu, hz, hzm, hsz, Addr.add_lit]
theorem s_storeC [tc : TC P T] {t : TypeId} {x y : Operand} {i : TI} {r k esz j o b c : Nat} {ety : TypeId} {es es' : List (List Dat)} {e e' : List Dat} {v : SVal} {cs : List Cell} {ds : List Dat} {mem' : List Blk} (h : Reg P F0 w0 dr ops K rest ⟨n, sl, mem', ck, df⟩ (2 :: acc)) (hm : mem[r]? = some (.arrc k ety esz es b c)) (hj : es[j]? = some e) (hw : GW ops g sl := by first | exact trivial | exact rfl) (hx : evS sl x = .c (.ap r k esz j o) := by exact rfl) (hy : evS sl y = v := by first | exact (rfl : _ = SVal.c _) | exact (rfl : _ = SVal.agg _) | exact rfl) (hc : v.cells = some cs := by exact rfl) (hds : dats cs = some ds := by exact rfl) (ht : T t = some i := by exact rfl) (hl : cs.length = i.size := by exact rfl) (hs : decide (o + i.size ≤ esz) = true := by exact rfl) (he' : e.take o ++ ds ++ e.drop (o + i.size) = e' := by exact rfl) (hes : es.set j e' = es' := by exact rfl) (hm' : mem.set r (.arrc k ety esz es' b c) = mem' := by exact rfl) :
    Reg P F0 w0 dr ops K (⟨none, .store t x y, ty, pos, aft, g⟩ :: rest) ⟨n, sl, mem, ck, df⟩ acc := by
  subst hm'; subst hes; subst he'
  refine at2n (df' := []) hw (doesU fun E w ρ hw' hρ => ?_) h
  have e1 := hρ x (by simp [Op.operands])
  have e2 := hρ y (by simp [Op.operands])
  rw [hx] at e1; rw [hy] at e2
  obtain ⟨_, o7, o8⟩ := hw'.mem.ok r _ hm
  have hla : aStore T ⟨0, [], mem.set r (.arr k ety esz es), ck, []⟩ t (.c (.ap r k esz j o)) v fun τ => τ.mem = mem.set r (.arr k ety esz (es.set j (e.take o ++ ds ++ e.drop (o + i.size)))) := by
    simp only [aStore, ht, hc, set_here hm, hds]
    exact ⟨hl, trivial, trivial, by simpa using hs, there_intro hj (by simp)⟩
  obtain ⟨w', mem', q1, q2, q3, q4⟩ := store_ok (P := P) tc.ok (σ := ⟨0, [], mem.set r (.arr k ety esz es), ck, []⟩) (hw'.toArr hm) e1 e2 hla
  simp only at q4
  subst q4
  have hr2 : (mem.set r (Blk.arr k ety esz (es.set j (e.take o ++ ds ++ e.drop (o + i.size)))))[r]? = some (.arr k ety esz (es.set j (e.take o ++ ds ++ e.drop (o + i.size)))) := set_here hm
  have hq := q3.toArrc hr2
  rw [List.set_set, o7, o8] at hq
  exact ⟨w', E, by simp [execOp, q1], q2, hq⟩
theorem s_appEx [tc : TC P T] {t e : TypeId} {x y : Operand} {u : SVal} {i ei : TI} {es ys : List (List Dat)} {r m : Nat} {mem' : List Blk} (h : Reg P F0 w0 dr ops K rest ⟨n, (d, .c (.arr r (ck + 1) m)) :: sl, mem', ck + 1, df⟩ (2 :: acc)) (hpos : 0 < ys.length) (hm : es.length + ys.length = m) (hsz : ∀ el ∈ es, el.length = ei.size) (hsy : ∀ el ∈ ys, el.length = ei.size) (hl : m ≤ maxLen) (hby : m * ei.bytes ≤ 140737488355328)
    (hw : GW ops g sl := by first | exact trivial | exact rfl) (hx : evS sl x = .c (.d (.ex es)) := by exact rfl) (hy : evS sl y = u := by exact (rfl : _ = SVal.c _)) (hs : srcOf u = some ys := by exact rfl) (ht : T t = some i := by exact rfl) (hi : i.desc = .slice e := by exact rfl) (hei : T e = some ei := by exact rfl) (hk : (Nat.blt 0 ei.size && Nat.beq ei.zero.length ei.size) = true := by exact rfl) (hr : mem.length = r := by exact rfl) (hm' : mem ++ [.arr (ck + 1) e ei.size (es ++ ys)] = mem' := by exact rfl) :
    Reg P F0 w0 dr ops K (⟨some d, .call ⟨.builtin .append, #[x, y], #[t, t]⟩, ty, pos, aft, g⟩ :: rest) ⟨n, sl, mem, ck, df⟩ acc := by
  subst hm'; subst hr; subst hm
  refine at2 (df' := []) hw (doesM fun E w ρ hw' hρ => ?_) h
  have e1 := hρ x (by simp [Op.operands, Call.operands])
  have e2 := hρ y (by simp [Op.operands, Call.operands])
  rw [hx] at e1; rw [hy] at e2
  have hrep := src_rep e2 hs
  have e1 := e1.d_inv
  simp only [Bool.and_eq_true, Nat.beq_eq, Nat.ble_eq, Nat.blt, Nat.succ_le_iff] at hk
  have hu : P.underlying t = some (.slice e) := by have := (tc.ok t i ht).desc; rw [hi] at this; exact this
  have hall : ∀ el ∈ es ++ ys, el.length = ei.size := fun el hel => by
    rcases List.mem_append.1 hel with q | q
    · exact hsz el q
    · exact hsy el q
  obtain ⟨a, ha⟩ := e1.ex_inv
  by_cases hne : es = []
  · subst hne
    obtain ⟨v', w', cap, q1, q2, q3, q4, q5, q6, q7⟩ := append_fresh tc.ok hw' (ty := ty) ht hi hei hk.2 hsy (by simpa using hl) (by simpa using hby) hrep a
    rw [List.length_nil] at ha
    have hq := hw'.newArr e ei.size cap ys hk.1 hsy q2 q3 q4 q5 q7
    refine ⟨v', w', _, by simp [execOp, resolve, invoke, builtin, ha, q1], hq.2, hq.1, .c (.arr mem.length (ck + 1) _ v' ?_ (by simp [Env.upd]) (fun _ => ?_))⟩
    · rcases q6 with ⟨_, b, rfl⟩ | ⟨_, rfl⟩ <;> rfl
    · rcases q6 with ⟨h5, b, rfl⟩ | ⟨h5, rfl⟩
      · exact .inl ⟨by simp [Env.upd, h5], by simp; omega, b, rfl⟩
      · exact .inr ⟨by simp [Env.upd]; exact h5, by simp [Env.upd]⟩
  · have hney : ys ≠ [] := fun q => by rw [q] at hpos; simp at hpos
    obtain ⟨fi, z, hi1, hi2, hi3, hi4, hi5⟩ := (tc.ok e ei hei).info
    have hz : z.cells.size = ei.size := by rw [hi5]; simpa using hk.2
    have hz1 : ∀ v ∈ z.cells, v.oneCell' = true := fun v hv => (tc.ok e ei hei).ones v (by rw [hi5] at hv; simpa using hv)
    obtain ⟨b1, off1, cap1, olds, hv1, hol, hoc, ho1, hoflat⟩ := e1.ex_sl.flat hsz hne
    obtain ⟨b, off, cap, news, hv2, hnl, hnc, hn1, hflat⟩ := hrep.flat hsy hney
    rw [ha] at hv1
    injection hv1 with ha1 ha2 ha3
    subst ha1; subst ha3
    have hjl : (olds ++ news).length = (es.length + ys.length) * ei.size := by rw [List.length_append, hol, hnl, Nat.add_mul]
    obtain ⟨gcap, hg, hge, hgm, c', hc1, hc2, hc0, hc3⟩ := grown_block (w := w) (e := e) (old := es.length) hz hjl hl hz1 (fun v hv => by
      rcases List.mem_append.1 hv with hv | hv
      · exact ho1 v hv
      · exact hn1 v hv)
    have h63 : ((es.length + ys.length : Nat) : Int) ≤ 9223372036854775807 := by simp only [maxLen] at hl; omega
    have hrun := run_append_grow (P := P) w t ty e fi z hu hi1 hi4 ⟨b1, off1, none⟩ es.length es.length olds (by rw [hi2]; exact hol) hoc ⟨b, off, none⟩ ys.length cap news (by rw [hi2]; exact hnl) hnc (by omega) h63 (by rw [hi3]; exact growslice_fits (by omega) hby)
    have happ : olds.toArray ++ news.toArray = (olds ++ news).toArray := by simp
    rw [happ, ← hg] at hrun
    have hnw := hw'.newArr (w' := w.drew.alloc (.cells ((olds ++ news).toArray ++ Builtin.zeroCells z.cells (gcap - (es.length + ys.length))) e)) e ei.size gcap (es ++ ys) hk.1 hall (by simp; omega) hgm (below_growth w _ hw'.le0) (fun i hi => by rw [Bel.heap_alloc w.drew _ i hi]; rfl)
      (.inr ⟨c', hc1, hc2, hc0, fun i j e' v' x' q1 q2 q3 => by
        exact Flat.join hol hsz hsy hnl hoflat hflat i j e' v' x' q1 q2 (by rw [← hc3]; simpa using q3)⟩)
    exact ⟨.slice (some ⟨w.heap.size, 0, none⟩) (es.length + ys.length) gcap, _, _, by simp [execOp, resolve, invoke, builtin, ha, hv2, hrun], hnw.2, hnw.1, .c (.arr mem.length (ck + 1) _ _ rfl (by simp [Env.upd]) (fun _ => .inr ⟨by simp [Env.upd]; omega, by simp [Env.upd]⟩))⟩
end
section
variable {P : Program} {T : TypeId → Option TI} {B : Base} {Q : Ex → St → Prop} {n : Nat} {sl : List (Nat × SVal)} {mem : List Blk} {ck : Nat} {df : List (FuncId × List Cell)}
theorem s_freezeC (t : Nat) {r k m b cc : Nat} {ety : TypeId} {esz : Nat} {es : List (List Dat)} {m1 : List Blk} {c : Code} (h : ARun P B c ⟨n, (t, .c (.d (.ex es))) :: sl, m1, ck, df⟩ Q) (hm : mem[r]? = some (.arrc k ety esz es b cc)) (hl : es.length = m) (hc : cc = m) (ht : look sl t = .c (.arr r k m) := by exact rfl) (hm1 : mem.set r .dead = m1 := by exact rfl) : ARun P B c ⟨n, sl, mem, ck, df⟩ Q := by
  subst hm1; subst hl; subst hc
  rintro a w ⟨E, ⟨hw, hsz, hdf, hsl⟩, hle⟩
  have e1 : SRep E w (a.tmps.getD t undef) (.c (.arr r k es.length)) := by rw [← ht]; exact hsl t
  obtain ⟨o1, o2, o3⟩ := hw.mem.ok r _ hm
  have hwA := hw.toArr hm
  have hf := hwA.freeze r k ety esz es (set_here hm)
  rw [List.set_set] at hf
  refine h a w ⟨_, ⟨hf.1, hsz, hdf.le hf.2, slots_put (fun s => (hsl s).le hf.2) ?_⟩, hle.trans hf.2⟩
  have hv := arr_dat (F := fun i => E.F i ∨ (i = E.blk r ∧ E.cap r ≠ 0)) hwA (set_here hm) (Nat.le_refl _) e1.cell_of (fun b hb => .inl hb) (fun hz => .inr ⟨rfl, hz⟩)
  rw [List.take_length] at hv
  rcases e1.arr_inv o1.1 with ⟨q1, q2, q3, q4⟩ | ⟨q1, q2⟩
  · rw [q4] at hv ⊢
    exact .c (.d hv.sl_ex)
  · rw [q2, o2] at hv ⊢
    exact .c (.d hv.sl_ex)
end
def DLe (x y : Dat) : Prop := ∀ (F : Nat → Prop) (w : World) (v : Value), DRep F w v x → DRep F w v y
def DLs : List Dat → List Dat → Prop
  | [], [] => True
  | x :: xs, y :: ys => DLe x y ∧ DLs xs ys
  | _, _ => False
def PLe : PV → PV → Prop
  | .one x, .one y => DLe x y
  | .agg xs, .agg ys => DLs xs ys
  | _, _ => False
def PLs : List PV → List PV → Prop
  | [], [] => True
  | x :: xs, y :: ys => PLe x y ∧ PLs xs ys
  | _, _ => False
theorem DLe.rfl {x : Dat} : DLe x x := fun _ _ _ h => h
theorem DLe.ex (es : List (List Dat)) : DLe (.ex es) (.sl es) := fun _ _ _ h => h.ex_sl
theorem DLs.get : ∀ {xs ys : List Dat}, DLs xs ys → xs.length = ys.length ∧ ∀ (i : Nat) (y : Dat), ys[i]? = some y → ∃ x, xs[i]? = some x ∧ DLe x y
  | [], [], _ => ⟨_root_.rfl, by simp⟩
  | x :: xs, y :: ys, h => by
    obtain ⟨h1, h2⟩ := DLs.get h.2
    refine ⟨by simp [h1], fun i z hz => ?_⟩
    cases i with
    | zero => simp at hz; subst hz; exact ⟨x, _root_.rfl, h.1⟩
    | succ i => exact h2 i z (by simpa using hz)
  | [], _ :: _, h => h.elim
  | _ :: _, [], h => h.elim
theorem PLe.rep {p q : PV} (h : PLe p q) {E : Env} {w : World} {v : Value} (hv : SRep E w v p.s) : SRep E w v q.s := by
  cases p with
  | one x =>
    cases q with
    | one y => cases hv with | c hv => exact .c (.d (h _ _ _ hv.d_of))
    | agg ys => exact h.elim
  | agg xs =>
    cases q with
    | one y => exact h.elim
    | agg ys =>
      cases hv with | agg _ vs hl hd =>
      obtain ⟨h1, h2⟩ := DLs.get h
      refine .agg _ vs (by simp at hl ⊢; omega) (fun i v x hv hx => ?_)
      rw [List.getElem?_map] at hx
      cases hy : ys[i]? with
      | none => rw [hy] at hx; cases hx
      | some y =>
        rw [hy] at hx
        simp at hx
        subst hx
        obtain ⟨x, hx, hle⟩ := h2 i y hy
        have := hd i v (.d x) hv (by rw [List.getElem?_map, hx]; exact _root_.rfl)
        exact .d (hle _ _ _ this.d_of)
theorem PLs.get : ∀ {xs ys : List PV}, PLs xs ys → xs.length = ys.length ∧ ∀ (i : Nat) (y : PV), ys[i]? = some y → ∃ x, xs[i]? = some x ∧ PLe x y
  | [], [], _ => ⟨_root_.rfl, by simp⟩
  | x :: xs, y :: ys, h => by
    obtain ⟨h1, h2⟩ := PLs.get h.2
    refine ⟨by simp [h1], fun i z hz => ?_⟩
    cases i with
    | zero => simp at hz; subst hz; exact ⟨x, _root_.rfl, h.1⟩
    | succ i => exact h2 i z (by simpa using hz)
  | [], _ :: _, h => h.elim
  | _ :: _, [], h => h.elim
theorem PCall.args {P : Program} {f : FuncId} {as bs : List PV} {r : PRes} (hp : PCall P f bs r) (ha : PLs as bs) : PCall P f as r := by
  obtain ⟨h1, h2⟩ := PLs.get ha
  refine ⟨hp.1, fun F w vs hF hl hv => hp.2 F w vs hF (by omega) fun i v x hi hx => ?_⟩
  obtain ⟨y, hy, hle⟩ := h2 i x hx
  exact hle.rep (hv i v y hi hy)
theorem PCall.res {P : Program} {f : FuncId} {as : List PV} {x y : PV} (hp : PCall P f as (.v x)) (ha : PLe x y) : PCall P f as (.v y) := by
  refine ⟨hp.1, fun F w vs hF hl hv => Calls.mono (hp.2 F w vs hF hl hv) fun e w' he => ?_⟩
  obtain ⟨v, h1, h2, h3⟩ := he
  exact ⟨v, h1, h2, ha.rep h3⟩
end Go.Abs
end
end
end
