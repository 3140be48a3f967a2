/-
  Makes, literals, arithmetic and function values over the abstract view.
-/
import Derived.Test.YtlacmjfgaehhkaaAbsG
namespace Go.Abs
open Go.RowKit

section
variable {P : Program} {T : TypeId → Option TI} {F0 : Nat → Prop} {w0 w : World} {E : Env} {mem : List Blk} {clock : Nat}

theorem valCell_rep {v : Value} (h : v.oneCell' = true) : CRep E w v (valCell v) := by
  unfold valCell
  split
  · exact .emp _
  · exact .d (.lit v h)

theorem zero_rep {P : Program} {t : TypeId} {i : TI} (h : TOk P t i) : ∀ (j : Nat) v x, i.zero.toArray[j]? = some v → (i.zero.map valCell)[j]? = some x → CRep E w v x := by
  intro j v x hv hx
  rw [List.getElem?_map] at hx
  have hv' : i.zero[j]? = some v := by simpa using hv
  rw [hv'] at hx
  simp at hx
  subst hx
  exact valCell_rep (h.ones v (List.mem_of_getElem? hv'))

theorem make_ok (hT : TypesOk P T) {σ : St} (h : WOk F0 w0 E w σ.mem σ.clock) {t : TypeId} {u v : Value} {l c : SVal} (hl : SRep E w u l) (hc : SRep E w v c) {dst : Option Tmp} {K : St → Prop} (hk : aMake T σ t l c dst K) :
    ∃ v' w' E' mem' clock' x, (Instr.makeSlice t u v).run P w = .ok v' w' ∧ EnvLe E w E' w' ∧ WOk F0 w0 E' w' mem' clock' ∧ SRep E' w' v' x ∧ K ({ σ with mem := mem', clock := clock' }.putO dst x) := by
  unfold aMake at hk
  split at hk
  · rename_i e _ kn n km m ht
    have hu : P.underlying t = some (.slice e) := (hT t _ ht).desc
    have e1 := hl.lit_inv
    have e2 := hc.lit_inv
    subst e1; subst e2
    split at hk
    · rename_i ei hei
      split at hk
      · rename_i z hz
        obtain ⟨hpos, hzl, h0, hnm, h63, hb, hK⟩ := hk
        obtain ⟨fi, zv, hi1, hi2, hi3, hi4, hi5⟩ := (hT e ei hei).info
        have hr := run_make (P := P) w t e fi zv hu hi1 hi4 kn km n m h0 hnm (by rw [hi3]; exact hb) h63
        rw [hi2] at hr
        have hzlen := dats_len hz
        have hzs : zv.cells.size = ei.size := by rw [hi5]; simpa using hzl
        have hn := h.newArr (w' := w.alloc (.cells (madeCells zv.cells (m.toNat * ei.size)) e)) e ei.size m.toNat (List.replicate n.toNat z) hpos (fun e he => by rw [List.eq_of_mem_replicate he, hzlen]; simpa using hzl) (by simp; omega) (by simp [maxLen]; omega)
          ((Below.refl _ w).alloc h.le0 _) (fun i hi => Below.heap_alloc w _ i hi) (.inr ⟨_, Go.heap_alloc_new w _, by simp [size_madeCells], fun i j e v x q1 q2 q3 => by
            have hi := lt_of_getElem? q1
            simp only [List.length_replicate] at hi
            rw [List.getElem?_replicate, if_pos hi] at q1
            simp only [Option.some.injEq] at q1
            subst q1
            have hj := lt_of_getElem? q2
            rw [hzlen] at hj
            simp only [List.length_map, hzl] at hj
            have hlt : i * ei.size + j < m.toNat * ei.size := by
              have : (i + 1) * ei.size ≤ m.toNat * ei.size := Nat.mul_le_mul_right _ (by omega)
              rw [Nat.add_mul, Nat.one_mul] at this
              omega
            have hmod : (i * ei.size + j) % ei.size = j := by rw [Nat.mul_comm, Nat.mul_add_mod, Nat.mod_eq_of_lt hj]
            have hget : (madeCells zv.cells (m.toNat * ei.size))[i * ei.size + j]? = zv.cells[j]? := by
              unfold madeCells
              rw [Array.getElem?_map]
              have hjs : j < zv.cells.size := by rw [hzs]; exact hj
              simp only [Array.getElem?_range, hlt, if_true, Option.map_some, hzs, hmod]
              rw [getElem!_pos zv.cells j hjs, Array.getElem?_eq_getElem hjs]
            rw [hget, hi5] at q3
            exact dats_rep (E := E) (v := v) hz (fun y hy => zero_rep (hT e ei hei) j v y q3 hy) q2⟩)
        refine ⟨_, _, E.upd σ.mem.length w.heap.size m.toNat (σ.clock + 1), _, _, _, hr, hn.2, hn.1, .c (.arr σ.mem.length (σ.clock + 1) n.toNat _ rfl (by simp [Env.upd]) (fun _ => ?_)), hK⟩
        rcases Nat.eq_zero_or_pos m.toNat with hm0 | hm0
        · have hn0 : n.toNat = 0 := by omega
          exact .inl ⟨by simp [Env.upd, hm0], hn0, some ⟨w.heap.size, 0, none⟩, by rw [hn0, hm0]⟩
        · exact .inr ⟨by simp [Env.upd]; omega, by simp [Env.upd]⟩
      · exact hk.elim
    · exact hk.elim
  · exact hk.elim

theorem foldl_set (off : Nat) : ∀ (l : List Value) (k : Nat) (cs : Array Value), off + k + l.length ≤ cs.size →
    ((l.zipIdx k).foldl (fun (cs : Array Value) (p : Value × Nat) => cs.setIfInBounds (off + p.2) p.1) cs).size = cs.size ∧
    ∀ q, ((l.zipIdx k).foldl (fun (cs : Array Value) (p : Value × Nat) => cs.setIfInBounds (off + p.2) p.1) cs)[q]? = if off + k ≤ q ∧ q < off + k + l.length then l[q - (off + k)]? else cs[q]?
  | [], k, cs, _ => by simp; intros; omega
  | v :: l, k, cs, h => by
    simp only [List.length_cons] at h
    have ih := foldl_set off l (k + 1) (cs.setIfInBounds (off + k) v) (by simp; omega)
    simp only [List.zipIdx_cons, List.foldl_cons]
    refine ⟨by rw [ih.1]; simp, fun q => ?_⟩
    rw [ih.2 q]
    simp only [List.length_cons]
    by_cases h1 : q = off + k
    · subst h1
      rw [if_neg (by omega), if_pos (by omega)]
      have : off + k < cs.size := by omega
      simp [this]
    · by_cases h2 : off + (k + 1) ≤ q ∧ q < off + (k + 1) + l.length
      · rw [if_pos h2, if_pos (by omega)]
        rw [show q - (off + k) = q - (off + (k + 1)) + 1 by omega, List.getElem?_cons_succ]
      · rw [if_neg h2, if_neg (by omega)]
        rw [Array.getElem?_setIfInBounds_ne (by omega)]

theorem fill_step (place : Nat → Option (Nat × Nat)) (cells : Array Value) (i off size : Nat) (v : Value) (rest : List (Nat × Value)) (hp : place i = some (off, size)) (hv : v.cells.size = size) (hfit : off + size ≤ cells.size) :
    ∃ cells' : Array Value, Instr.fill place cells ((i, v) :: rest) = Instr.fill place cells' rest ∧ cells'.size = cells.size ∧ cells'.toList = cells.toList.take off ++ v.cells.toList ++ cells.toList.drop (off + size) := by
  have hf := foldl_set off v.cells.toList 0 cells (by simp; omega)
  simp only [Nat.add_zero, Array.length_toList] at hf
  refine ⟨(v.cells.toList.zipIdx 0).foldl (fun (cs : Array Value) (p : Value × Nat) => cs.setIfInBounds (off + p.2) p.1) cells, ?_, hf.1, ?_⟩
  · rw [Instr.fill]
    simp only [hp]
    rw [if_neg (by simp; omega)]
    congr 1
    rw [← Array.foldl_toList, Array.toList_zipIdx]
  · apply List.ext_getElem?
    intro q
    have e := getElem?_splice (l := cells.toList) (m := v.cells.toList) (o := off) (j := q) (by simp; omega)
    rw [Array.length_toList, hv] at e
    rw [e, Array.getElem?_toList, hf.2 q]
    by_cases h1 : q < off
    · rw [if_neg (by omega), if_pos h1, Array.getElem?_toList]
    · rw [if_neg h1]
      by_cases h2 : q < off + size
      · rw [if_pos h2, if_pos (by omega)]
      · rw [if_neg h2, if_neg (by omega), Array.getElem?_toList]

theorem build_fill (hT : TypesOk P T) {σ : St} {ρ : Operand → Value} (hρ : ∀ x, SRep E w (ρ x) (σ.ev x)) (fs : List (Nat × TypeId)) (place : Nat → Option (Nat × Nat))
    (hplace : ∀ i off ft j, fs[i]? = some (off, ft) → T ft = some j → place i = some (off, j.size)) :
    ∀ (parts : List (Nat × Operand)) (cs cs' : List Cell) (cells : Array Value), fillC T σ fs parts cs = some cs' → cells.size = cs.length →
      (∀ (j : Nat) v x, cells[j]? = some v → cs[j]? = some x → CRep E w v x) →
      ∃ cells', Instr.fill place cells (parts.map fun p => (p.1, ρ p.2)) = some cells' ∧ cells'.size = cs'.length ∧ ∀ (j : Nat) v x, cells'[j]? = some v → cs'[j]? = some x → CRep E w v x
  | [], cs, cs', cells, h, hl, hc => by
    simp only [fillC, Option.some.injEq] at h
    subst h
    exact ⟨cells, by simp [Instr.fill], hl, hc⟩
  | (i, x) :: rest, cs, cs', cells, h, hl, hc => by
    simp only [fillC] at h
    split at h
    · rename_i off ft ns hf hns
      split at h
      · rename_i j hj
        split at h
        · rename_i hcond
          obtain ⟨hn, hfit⟩ := hcond
          obtain ⟨hc1, _, hc3⟩ := (hρ x).cellsOf hns
          obtain ⟨cells1, hs1, hs2, hs3⟩ := fill_step place cells i off j.size (ρ x) (rest.map fun p => (p.1, ρ p.2)) (hplace i off ft j hf hj) (by omega) (by omega)
          have e2 := length_splice (l := cs) (m := ns) (o := off) hfit
          obtain ⟨cells', q1, q2, q3⟩ := build_fill hT hρ fs place hplace rest _ cs' cells1 h (by rw [hs2, e2, hl]) (fun q v y hv hy => by
            have hv' : cells1.toList[q]? = some v := by simpa using hv
            rw [hs3] at hv'
            have e1 := getElem?_splice (l := cells.toList) (m := (ρ x).cells.toList) (o := off) (j := q) (by simp; omega)
            have e3 := getElem?_splice (l := cs) (m := ns) (o := off) (j := q) hfit
            have hvl : (ρ x).cells.toList.length = j.size := by simp; omega
            rw [hvl] at e1
            rw [hn] at e3
            rw [e1] at hv'
            rw [hn, e3] at hy
            by_cases a1 : q < off
            · rw [if_pos a1] at hv' hy
              exact hc q v y (by simpa using hv') hy
            · rw [if_neg a1] at hv' hy
              by_cases a2 : q < off + j.size
              · rw [if_pos a2] at hv' hy
                exact hc3 (q - off) v y (by simpa using hv') hy
              · rw [if_neg a2] at hv' hy
                exact hc q v y (by simpa using hv') hy)
          exact ⟨cells', by rw [List.map_cons, hs1]; exact q1, q2, q3⟩
        · cases h
      · cases h
    · cases h

theorem mapM_places (hT : TypesOk P T) : ∀ (l : List Field), (∀ f ∈ l, ∃ j, T f.type = some j) →
    (l.mapM (fun f => do pure (f.offset, ← sizeOf f.type) : Field → Sem (Nat × Nat))).run P w = .ok (l.map fun f => (f.offset, ((T f.type).map (·.size)).getD 0)) w
  | [], _ => by simp
  | f :: l, h => by
    obtain ⟨j, hj⟩ := h f (by simp)
    have ih := mapM_places hT l (fun f hf => h f (by simp [hf]))
    have hs := (hT f.type j hj).sizeOf (w := w)
    simp only [List.mapM_cons, Sem.run_bind, hs, Result.andThen_ok, Sem.run_pure, ih, hj, List.map_cons, Option.map_some, Option.getD_some]

theorem build_ok (hT : TypesOk P T) {σ : St} {t : TypeId} {ρ : Operand → Value} (hρ : ∀ x, SRep E w (ρ x) (σ.ev x)) {parts : Array (Nat × Operand)} {V : SVal → Prop}
    (hl : aBuild T σ t parts.toList V) :
    ∃ v y, (Instr.build t (parts.map fun (i, x) => (i, ρ x))).run P w = .ok v w ∧ SRep E w v y ∧ V y := by
  unfold aBuild at hl
  split at hl
  · rename_i _ _ zero fs _ ht
    obtain ⟨hall, hl⟩ := hl
    split at hl
    · rename_i cs hcs
      have htt := hT t _ ht
      obtain ⟨fields, hu, hfs⟩ := htt.desc
      obtain ⟨fi, z, hi1, hi2, hi3, hi4, hi5⟩ := htt.info
      have hfall : ∀ f ∈ fields.toList, ∃ j, T f.type = some j := fun f hf => Option.isSome_iff_exists.1 (List.all_eq_true.1 hall (f.offset, f.type) (by rw [← hfs]; exact List.mem_map.2 ⟨f, hf, rfl⟩))
      have hpl := mapM_places (w := w) hT fields.toList hfall
      have hplA : (fields.mapM (fun f => do pure (f.offset, ← sizeOf f.type) : Field → Sem (Nat × Nat))).run P w = .ok (fields.toList.map fun f => (f.offset, ((T f.type).map (·.size)).getD 0)).toArray w := by
        rw [Array.mapM_eq_mapM_toList]
        simp only [Sem.run_map, hpl, Result.andThen_ok]
      obtain ⟨cells', q1, q2, q3⟩ := build_fill hT hρ fs (fun i => (fields.toList.map fun f => (f.offset, ((T f.type).map (·.size)).getD 0)).toArray[i]?) (fun i off ft j hf hj => by
          rw [← hfs, List.getElem?_map] at hf
          cases hq : fields.toList[i]? with
          | none => rw [hq] at hf; cases hf
          | some fl =>
            rw [hq] at hf
            simp at hf
            obtain ⟨rfl, rfl⟩ := hf
            have hq' : fields[i]? = some fl := by simpa using hq
            simp [hq', hj]) parts.toList _ cs zero.toArray hcs (by simp) (zero_rep htt)
      refine ⟨.agg cells', .agg cs, ?_, ?_, hl⟩
      · have hmap : (parts.map fun (i, x) => (i, ρ x)).toList = parts.toList.map fun p => (p.1, ρ p.2) := by simp
        simp only [Instr.build, zeroValue, typeInfo, Sem.run_bind, run_program, Result.andThen_ok, hi1, Sem.run_pure, hi4, run_underlying hu, hplA, hi5, hmap]
        rw [q1]
        rfl
      · have := SRep.agg (E := E) (w := w) cs cells'.toList (by simpa using q2) (fun i v x hv hx => q3 i v x (by simpa using hv) hx)
        simpa using this
    · exact hl.elim
  · exact hl.elim
end
end Go.Abs
