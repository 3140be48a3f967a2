/-
  Each operation over the abstract view follows the machine's own.
-/
import Derived.Test.YtlacmjfgaehhkaaAbsC
namespace Go.Abs
open Go.RowKit

section
variable {P : Program} {T : TypeId → Option TI} {F0 : Nat → Prop} {w0 w : World} {E : Env} {mem : List Blk} {clock : Nat}

theorem SRep.lit_inv {v u : Value} (h : SRep E w v (.c (.d (.lit u)))) : v = u := by
  cases h with | c h => cases h with | d h => cases h with | lit _ _ => rfl

theorem TOk.isAgg {t : TypeId} {i : TI} (h : TOk P t i) : (isAgg t).run P w = .ok i.desc.agg w := by
  have hd := h.desc
  cases hi : i.desc <;> rw [hi] at hd <;> simp only [TDOk] at hd
  · simp [Go.isAgg, run_underlying hd, TD.agg]
  · simp [Go.isAgg, run_underlying hd, TD.agg]
  · simp [Go.isAgg, run_underlying hd, TD.agg]
  · obtain ⟨fs, hd, _⟩ := hd; simp [Go.isAgg, run_underlying hd, TD.agg]
  · simp [Go.isAgg, run_underlying hd, TD.agg]
  · simp [Go.isAgg, run_underlying hd, TD.agg]
  · obtain ⟨d, hd, hn⟩ := hd
    simp only [Go.isAgg, Sem.run_bind, run_underlying hd, Result.andThen_ok, TD.agg]
    cases d <;> first | rfl | exact hn.elim

theorem TOk.sizeOf {t : TypeId} {i : TI} (h : TOk P t i) : (sizeOf t).run P w = .ok i.size w := by
  obtain ⟨f, z, h1, h2, _⟩ := h.info
  simp [Go.sizeOf, typeInfo, h1, h2]

theorem run_loadAt {t : TypeId} {i : TI} (h : TOk P t i) (ha : i.desc.agg = true ∨ i.size = 1) (vs : List Value) (hl : vs.length = i.size) (b off : Nat)
    (hc : ∀ (j : Nat) v, vs[j]? = some v → w.cell? ⟨b, off + j, none⟩ = some v) :
    ∃ v, (Instr.loadAt t (.pointer (some ⟨b, off, none⟩))).run P w = .ok v w ∧ ((i.desc.agg = true ∧ v = .agg vs.toArray) ∨ (i.desc.agg = false ∧ vs = [v])) := by
  cases hag : i.desc.agg with
  | true =>
    have hr := run_loadCells_list (P := P) w ⟨b, off, none⟩ vs (fun j v hv => by rw [Addr.add_lit]; exact hc j v hv)
    refine ⟨.agg vs.toArray, ?_, .inl ⟨rfl, rfl⟩⟩
    rw [hl] at hr
    simp [Instr.loadAt, Instr.sureAddr, loadVar, h.isAgg, hag, h.sizeOf, hr]
  | false =>
    have h1 : i.size = 1 := by rcases ha with ha | ha <;> simp_all
    match vs, hl with
    | [v], _ =>
      have hv := hc 0 v rfl
      refine ⟨v, ?_, .inr ⟨rfl, rfl⟩⟩
      simp [Instr.loadAt, Instr.sureAddr, loadVar, h.isAgg, hag]
      simp at hv
      simp [hv]
    | [], hl => simp [h1] at hl
    | _ :: _ :: _, hl => simp [h1] at hl

theorem oneOr_rep {agg : Bool} {v : Value} {vs : List Value} {cs : List Cell} (hl : vs.length = cs.length)
    (hd : ∀ (j : Nat) v x, vs[j]? = some v → cs[j]? = some x → CRep E w v x) (h : (agg = true ∧ v = .agg vs.toArray) ∨ (agg = false ∧ vs = [v])) : SRep E w v (oneOr agg cs) := by
  rcases h with ⟨rfl, rfl⟩ | ⟨rfl, rfl⟩
  · exact .agg cs vs hl hd
  · match cs, hl with
    | [x], _ => exact .c (hd 0 v x rfl rfl)

theorem cell_of_block {b j : Nat} {c : Array Value} {ety : TypeId} {fr : Nat × Nat} (h : w.heap[b]? = some (.cells c ety fr)) : w.cell? ⟨b, j, none⟩ = c[j]? := by
  simp [World.cell?, h]

theorem getElem?_window {α : Type} (l : List α) (o n j : Nat) : ((l.drop o).take n)[j]? = if j < n then l[o + j]? else none := by
  rw [List.getElem?_take]
  split
  · rw [List.getElem?_drop]
  · rfl

theorem length_window {α : Type} (l : List α) (o n : Nat) (h : o + n ≤ l.length) : ((l.drop o).take n).length = n := by
  simp; omega

theorem load_ok (hT : TypesOk P T) {σ : St} (h : WOk F0 w0 E w σ.mem σ.clock) {t : TypeId} {u : Value} {x : SVal} (hx : SRep E w u x) {V : SVal → Prop} (hl : aLoad T σ t x V) :
    ∃ v s, (Instr.loadAt t u).run P w = .ok v w ∧ SRep E w v s ∧ V s := by
  unfold aLoad at hl
  split at hl
  · exact hl.elim
  · rename_i i hi
    have ht := hT t i hi
    obtain ⟨ha, hl⟩ := hl
    split at hl
    · rename_i r k o
      split at hl
      · rename_i k' cs hm
        obtain ⟨rfl, hlen, hV⟩ := hl
        obtain ⟨h1, _, _, c, ety, h4, h5, h6⟩ := h.mem.ok r _ hm
        have hu : u = .pointer (some ⟨E.blk r, o, none⟩) := by cases hx with | c hx => cases hx with | bp _ _ _ _ _ _ hh => exact hh h1
        subst hu
        obtain ⟨v, hr, hv⟩ := run_loadAt ht ha ((c.toList.drop o).take i.size) (length_window _ _ _ (by simp; omega)) (E.blk r) o (fun j v hv => by
          rw [cell_of_block h4]
          rw [getElem?_window] at hv
          split at hv
          · simpa using hv
          · cases hv)
        refine ⟨v, _, hr, oneOr_rep ?_ (fun j v x hv hx => ?_) hv, hV⟩
        · rw [length_window _ _ _ (by simp; omega), length_window _ _ _ hlen]
        · rw [getElem?_window] at hv hx
          split at hv
          · rename_i hj
            rw [if_pos hj] at hx
            exact h6 (o + j) v x (by simpa using hv) hx
          · cases hv
      · exact hl.elim
    · rename_i e o
      obtain ⟨hlen, hV⟩ := hl
      cases hx with | c hx => cases hx with | fp _ _ b off us hF hc hd =>
      obtain ⟨v, hr, hv⟩ := run_loadAt ht ha ((List.range i.size).map fun j => us (o + j)) (by simp) b (off + o) (fun j v hv => by
        simp only [List.getElem?_map] at hv
        by_cases hj : j < i.size
        · simp [hj] at hv
          rw [Nat.add_assoc, hc (o + j) (by omega), hv]
        · simp [hj] at hv)
      refine ⟨v, _, hr, oneOr_rep ?_ (fun j v x hv hx => ?_) hv, hV⟩
      · simp; omega
      · simp only [List.getElem?_map] at hv
        by_cases hj : j < i.size
        · simp [hj] at hv
          rw [List.getElem?_map, getElem?_window, if_pos hj] at hx
          cases hee : e[o + j]? with
          | none => rw [hee] at hx; cases hx
          | some y =>
            rw [hee] at hx
            simp at hx
            subst hx; subst hv
            exact .d (hd (o + j) y hee)
        · simp [hj] at hv
    · rename_i r k esz n o
      split at hl
      · rename_i k' ety esz' es hm
        obtain ⟨rfl, rfl, hl⟩ := hl
        obtain ⟨e, he, hlen, hV⟩ := there_of hl
        obtain ⟨h1, hpos, hsz, hcap, _, h6⟩ := h.mem.ok r _ hm
        have hu : u = .pointer (some ⟨E.blk r, n * esz' + o, none⟩) := by cases hx with | c hx => cases hx with | ap _ _ _ _ _ _ _ _ hh => exact hh h1
        subst hu
        have hn := lt_of_getElem? he
        have hel : e.length = esz' := hsz e (List.mem_of_getElem? he)
        rcases h6 with h6 | ⟨_, _, c, h4, h5, h6⟩
        · omega
        have hfit : n * esz' + esz' ≤ c.size := by
          rw [h5]
          have : (n + 1) * esz' ≤ E.cap r * esz' := Nat.mul_le_mul_right _ (by omega)
          rw [Nat.add_mul, Nat.one_mul] at this
          exact this
        obtain ⟨v, hr, hv⟩ := run_loadAt ht ha ((c.toList.drop (n * esz' + o)).take i.size) (length_window _ _ _ (by simp; omega)) (E.blk r) (n * esz' + o) (fun j v hv => by
          rw [cell_of_block h4]
          rw [getElem?_window] at hv
          split at hv
          · simpa using hv
          · cases hv)
        refine ⟨v, _, hr, oneOr_rep ?_ (fun j v x hv hx => ?_) hv, hV⟩
        · rw [length_window _ _ _ (by simp; omega)]; simp; omega
        · rw [getElem?_window] at hv
          split at hv
          · rename_i hj
            rw [List.getElem?_map, getElem?_window, if_pos hj] at hx
            cases hee : e[o + j]? with
            | none => rw [hee] at hx; cases hx
            | some y =>
              rw [hee] at hx
              simp at hx
              subst hx
              exact .d (h6 n (o + j) e v y he hee (by rw [← Nat.add_assoc]; simpa using hv))
          · cases hv
      · exact hl.elim
    · exact hl.elim

theorem SRep.cellsOf {v : Value} {s : SVal} {cs : List Cell} (h : SRep E w v s) (hc : s.cells = some cs) :
    v.cells.size = cs.length ∧ (∀ u ∈ v.cells.toList, u.oneCell' = true) ∧ ∀ (j : Nat) u x, v.cells[j]? = some u → cs[j]? = some x → CRep E w u x := by
  cases h with
  | c h =>
    simp only [SVal.cells, Option.some.injEq] at hc
    subst hc
    have h1 := h.one
    have hv : v.cells = #[v] := by cases v <;> first | rfl | (simp [Value.oneCell'] at h1)
    rw [hv]
    refine ⟨rfl, fun u hu => by simp at hu; subst hu; exact h1, fun j u x hu hx => ?_⟩
    cases j with
    | zero => simp at hu hx; subst hu; subst hx; exact h
    | succ j => simp at hx
  | agg xs vs hl hd =>
    simp only [SVal.cells, Option.some.injEq] at hc
    subst hc
    refine ⟨by simpa [Value.cells] using hl, fun u hu => ?_, fun j u x hu hx => hd j u x (by simpa [Value.cells] using hu) hx⟩
    obtain ⟨j, hj⟩ := List.mem_iff_getElem?.1 (show u ∈ vs by simpa [Value.cells] using hu)
    have hlt := lt_of_getElem? hj
    exact (hd j u (xs[j]'(by omega)) hj (List.getElem?_eq_getElem _)).one
  | tup => simp [SVal.cells] at hc
  | und => simp [SVal.cells] at hc
  | junk => simp [SVal.cells] at hc

/-- One entry is written in place. -/
theorem WOk.poke {w' : World} (h : WOk F0 w0 E w mem clock) (r : Nat) (ob nb : Blk) (hr : mem[r]? = some ob) (hh : ob.has E r) (hhn : nb.has E r → ob.has E r)
    (hbel : Below w0.heap.size w w') (hheap : ∀ i, i ≠ E.blk r → w'.heap[i]? = w.heap[i]?)
    (hnew : EnvLe E w E w' → BlkOk w0.heap.size E w' r nb) : WOk F0 w0 E w' (mem.set r nb) clock ∧ EnvLe E w E w' := by
  have ho := h.mem.ok r ob hr
  have hlt := ho.lt hh
  have hle : EnvLe E w E w' := ⟨fun _ hk => hk, fun k hk => hheap k (fun e => hlt.2.2 (e ▸ hk)), fun _ => Nat.le_refl _, fun _ _ => ⟨rfl, rfl⟩⟩
  refine ⟨⟨h.below.trans hbel, h.base, fun i hi => ⟨Nat.lt_of_lt_of_le (h.F i hi).1 hbel.size, (h.F i hi).2⟩, ⟨h.mem.clock, fun s x hx => ?_, fun s s' x x' hx hx' h1 h2 hne => ?_⟩⟩, hle⟩
  · rcases set_turn r _ s x hx with ⟨rfl, rfl⟩ | ⟨e, hx0⟩
    · exact hnew hle
    · have ho' := h.mem.ok s x hx0
      exact ho'.le hle (fun _ => rfl) (fun hs => hheap _ (fun q => h.mem.apart s r x ob hx0 hr hs hh e q)) (fun hs => (ho'.lt hs).2.2)
  · rcases set_turn r _ s x hx with ⟨rfl, rfl⟩ | ⟨e, hx0⟩
    · rcases set_turn s _ s' x' hx' with ⟨rfl, rfl⟩ | ⟨e', hx0'⟩
      · exact absurd rfl hne
      · exact h.mem.apart s s' ob x' hr hx0' (hhn h1) h2 hne
    · rcases set_turn r _ s' x' hx' with ⟨rfl, rfl⟩ | ⟨e', hx0'⟩
      · exact h.mem.apart s s' x ob hx0 hr h1 (hhn h2) hne
      · exact h.mem.apart s s' x x' hx0 hx0' h1 h2 hne

theorem below_setRow {n0 : Nat} (w : World) (g : Nat) (cs : Array Value) (h : n0 ≤ g) : Below n0 w (w.setRow g cs) :=
  ⟨rfl, rfl, rfl, by simp, fun k hk => setRow_other w g k cs (by omega)⟩

theorem run_storeAt {t : TypeId} {i : TI} (h : TOk P t i) (v : Value) (hv : v.cells.size = i.size) (h1 : ∀ u ∈ v.cells.toList, u.oneCell' = true) (b off : Nat) (c : Array Value) (ety : TypeId)
    (hb : w.heap[b]? = some (.cells c ety (0, 0))) (hfit : off + i.size ≤ c.size) :
    (Instr.storeAt t (.pointer (some ⟨b, off, none⟩)) v).run P w = .ok () (w.setRow b (c.toList.take off ++ v.cells.toList ++ c.toList.drop (off + i.size)).toArray) := by
  have hst := run_storeCells_at P b off ety v.cells.toList 0 c w hb (by simp [hv]; omega) h1
  simp only [Nat.add_zero, Array.length_toList, hv] at hst
  simp [Instr.storeAt, Instr.sureAddr, storeVar, h.sizeOf, hv, hst]

theorem getElem?_splice {α : Type} {l m : List α} {o j : Nat} (ho : o + m.length ≤ l.length) :
    (l.take o ++ m ++ l.drop (o + m.length))[j]? = if j < o then l[j]? else if j < o + m.length then m[j - o]? else l[j]? := by
  have e1 : (List.take o l).length = o := by simp; omega
  have e2 : (List.take o l ++ m).length = o + m.length := by simp; omega
  rw [List.getElem?_append, e2]
  by_cases h2 : j < o + m.length
  · rw [if_pos h2, List.getElem?_append, e1]
    by_cases h1 : j < o
    · rw [if_pos h1, if_pos h1, List.getElem?_take, if_pos h1]
    · rw [if_neg h1, if_neg h1, if_pos h2]
  · rw [if_neg h2, if_neg (show ¬ j < o by omega), if_neg h2, List.getElem?_drop]
    congr 1
    omega

theorem length_splice {α : Type} {l m : List α} {o : Nat} (ho : o + m.length ≤ l.length) : (l.take o ++ m ++ l.drop (o + m.length)).length = l.length := by
  simp; omega

theorem dats_len : ∀ {cs : List Cell} {ds : List Dat}, dats cs = some ds → ds.length = cs.length
  | [], ds, h => by simp [dats] at h; subst h; rfl
  | c :: cs, ds, h => by
    simp only [dats] at h
    split at h
    · rename_i x xs hx hxs
      simp at h
      subst h
      simp [dats_len hxs]
    · cases h

theorem CRep.dat {v : Value} {c : Cell} {x : Dat} (h : CRep E w v c) (hx : c.dat = some x) : DRep E.F w v x := by
  cases h <;> simp [Cell.dat] at hx
  · subst hx; assumption
  · subst hx; exact .emp _ _

theorem dats_rep : ∀ {cs : List Cell} {ds : List Dat} {j : Nat} {v : Value} {x : Dat}, dats cs = some ds → (∀ y, cs[j]? = some y → CRep E w v y) → ds[j]? = some x → DRep E.F w v x
  | [], ds, j, v, x, h, _, hx => by simp [dats] at h; subst h; simp at hx
  | c :: cs, ds, j, v, x, h, hc, hx => by
    simp only [dats] at h
    split at h
    · rename_i y ys hy hys
      simp at h
      subst h
      cases j with
      | zero => simp at hx; subst hx; exact (hc c rfl).dat hy
      | succ j => exact dats_rep hys (fun y hy => hc y (by simpa using hy)) (by simpa using hx)
    · cases h

theorem store_ok (hT : TypesOk P T) {σ : St} (h : WOk F0 w0 E w σ.mem σ.clock) {t : TypeId} {u v : Value} {x y : SVal} (hx : SRep E w u x) (hy : SRep E w v y) {K : St → Prop} (hl : aStore T σ t x y K) :
    ∃ w' mem', (Instr.storeAt t u v).run P w = .ok () w' ∧ EnvLe E w E w' ∧ WOk F0 w0 E w' mem' σ.clock ∧ K { σ with mem := mem' } := by
  unfold aStore at hl
  split at hl
  · rename_i i cs hi hcs
    have ht := hT t i hi
    obtain ⟨hsize, hl⟩ := hl
    obtain ⟨hc1, hc2, hc3⟩ := hy.cellsOf hcs
    have hvl : v.cells.toList.length = i.size := by simp [hc1, hsize]
    split at hl
    · rename_i r k o
      split at hl
      · rename_i k' cs0 hm
        obtain ⟨rfl, hlen, hK⟩ := hl
        have ho := h.mem.ok r _ hm
        obtain ⟨h1, h2, h3, c, ety, h4, h5, h6⟩ := ho
        have hu : u = .pointer (some ⟨E.blk r, o, none⟩) := by cases hx with | c hx => cases hx with | bp _ _ _ _ _ _ hh => exact hh h1
        subst hu
        have hr := run_storeAt (P := P) (w := w) ht v (by omega) hc2 (E.blk r) o c ety h4 (by omega)
        have hp := h.poke (w' := w.setRow (E.blk r) (c.toList.take o ++ v.cells.toList ++ c.toList.drop (o + i.size)).toArray) r _ (.box k' (cs0.take o ++ cs ++ cs0.drop (o + i.size))) hm trivial (fun _ => trivial) (below_setRow w _ _ h2) (fun i hi => setRow_other w _ i _ hi) (fun hle => by
          refine ⟨h1, h2, h3, _, ety, setRow_heap w _ c _ ety _ h4, ?_, fun j v' x' hv' hx' => ?_⟩
          · have e1 := length_splice (l := c.toList) (m := v.cells.toList) (o := o) (by simp; omega)
            have e2 := length_splice (l := cs0) (m := cs) (o := o) (by omega)
            rw [hvl] at e1
            rw [hsize] at e2
            simp only [List.size_toArray, e1, e2, Array.length_toList, h5]
          · have e1 := getElem?_splice (l := c.toList) (m := v.cells.toList) (o := o) (j := j) (by simp; omega)
            have e2 := getElem?_splice (l := cs0) (m := cs) (o := o) (j := j) (by omega)
            rw [hvl] at e1
            rw [hsize] at e2
            simp only [List.getElem?_toArray] at hv'
            rw [e1] at hv'
            rw [e2] at hx'
            by_cases a1 : j < o
            · rw [if_pos a1] at hv' hx'
              exact (h6 j v' x' (by simpa using hv') hx').le hle
            · rw [if_neg a1] at hv' hx'
              by_cases a2 : j < o + i.size
              · rw [if_pos a2] at hv' hx'
                exact (hc3 (j - o) v' x' (by simpa using hv') hx').le hle
              · rw [if_neg a2] at hv' hx'
                exact (h6 j v' x' (by simpa using hv') hx').le hle)
        exact ⟨_, _, hr, hp.2, hp.1, hK⟩
      · exact hl.elim
    · rename_i r k esz n o
      split at hl
      · rename_i k' ety esz' es ds hm hds
        obtain ⟨rfl, rfl, hlen, hl⟩ := hl
        obtain ⟨e, he, hK⟩ := there_of hl
        have ho := h.mem.ok r _ hm
        obtain ⟨h1, hpos, hsz, hcap, hmax, h6⟩ := ho
        have hu : u = .pointer (some ⟨E.blk r, n * esz' + o, none⟩) := by cases hx with | c hx => cases hx with | ap _ _ _ _ _ _ _ _ hh => exact hh h1
        subst hu
        have hn := lt_of_getElem? he
        have hel : e.length = esz' := hsz e (List.mem_of_getElem? he)
        have hdl := dats_len hds
        rcases h6 with h6 | ⟨h2, h3, c, h4, h5, h6⟩
        · omega
        have hfit : n * esz' + esz' ≤ c.size := by
          rw [h5]
          have : (n + 1) * esz' ≤ E.cap r * esz' := Nat.mul_le_mul_right _ (by omega)
          rw [Nat.add_mul, Nat.one_mul] at this
          exact this
        have hcapr : E.cap r ≠ 0 := by omega
        have hr := run_storeAt (P := P) (w := w) ht v (by omega) hc2 (E.blk r) (n * esz' + o) c ety h4 (by omega)
        have hp := h.poke (w' := w.setRow (E.blk r) (c.toList.take (n * esz' + o) ++ v.cells.toList ++ c.toList.drop (n * esz' + o + i.size)).toArray) r _ (.arr k' ety esz' (es.set n (e.take o ++ ds ++ e.drop (o + i.size)))) hm hcapr (fun q => q) (below_setRow w _ _ h2) (fun i hi => setRow_other w _ i _ hi) (fun hle => by
          have e2 := length_splice (l := e) (m := ds) (o := o) (by omega)
          refine ⟨h1, hpos, fun e' he' => ?_, by simpa using hcap, hmax, .inr ⟨h2, h3, _, setRow_heap w _ c _ ety _ h4, ?_, fun i' j' e' v' x' q1 q2 q3 => ?_⟩⟩
          · rcases List.mem_or_eq_of_mem_set he' with q | q
            · exact hsz e' q
            · subst q; rw [show i.size = ds.length by omega, e2, hel]
          · have e1 := length_splice (l := c.toList) (m := v.cells.toList) (o := n * esz' + o) (by simp; omega)
            rw [hvl] at e1
            simp only [List.size_toArray, e1, Array.length_toList, h5]
          · have e1 := getElem?_splice (l := c.toList) (m := v.cells.toList) (o := n * esz' + o) (j := i' * esz' + j') (by simp; omega)
            rw [hvl] at e1
            simp only [List.getElem?_toArray] at q3
            rw [e1] at q3
            by_cases hin : i' = n
            · subst hin
              rw [List.getElem?_set_self (by omega)] at q1
              simp only [Option.some.injEq] at q1
              subst q1
              have e3 := getElem?_splice (l := e) (m := ds) (o := o) (j := j') (by omega)
              rw [show ds.length = i.size by omega] at e3
              rw [e3] at q2
              by_cases a1 : j' < o
              · rw [if_pos a1] at q2
                rw [if_pos (by omega)] at q3
                exact (h6 i' j' e v' x' he q2 (by simpa using q3)).le hle
              · rw [if_neg a1] at q2
                rw [if_neg (by omega)] at q3
                by_cases a2 : j' < o + i.size
                · rw [if_pos a2] at q2
                  rw [if_pos (by omega)] at q3
                  have q3' : v.cells[j' - o]? = some v' := by
                    rw [show i' * esz' + j' - (i' * esz' + o) = j' - o by omega] at q3
                    simpa using q3
                  exact (dats_rep (v := v') hds (fun y hy => hc3 (j' - o) v' y q3' hy) q2).le hle
                · rw [if_neg a2] at q2
                  rw [if_neg (by omega)] at q3
                  exact (h6 i' j' e v' x' he q2 (by simpa using q3)).le hle
            · rw [List.getElem?_set_ne (fun q => hin q.symm)] at q1
              have hj : j' < esz' := by have := lt_of_getElem? q2; rw [hsz e' (List.mem_of_getElem? q1)] at this; exact this
              have hneq : ¬ (n * esz' + o ≤ i' * esz' + j' ∧ i' * esz' + j' < n * esz' + o + i.size) := by
                rintro ⟨a1, a2⟩
                rcases Nat.lt_or_gt_of_ne hin with hlt | hgt
                · have : (i' + 1) * esz' ≤ n * esz' := Nat.mul_le_mul_right _ hlt
                  rw [Nat.add_mul, Nat.one_mul] at this
                  omega
                · have : (n + 1) * esz' ≤ i' * esz' := Nat.mul_le_mul_right _ hgt
                  rw [Nat.add_mul, Nat.one_mul] at this
                  omega
              have q3' : c.toList[i' * esz' + j']? = some v' := by
                by_cases a1 : i' * esz' + j' < n * esz' + o
                · rw [if_pos a1] at q3; exact q3
                · rw [if_neg a1, if_neg (by omega)] at q3; exact q3
              exact (h6 i' j' e' v' x' q1 q2 (by simpa using q3')).le hle)
        exact ⟨_, _, hr, hp.2, hp.1, hK⟩
      · exact hl.elim
    · exact hl.elim
  · exact hl.elim
end
end Go.Abs
