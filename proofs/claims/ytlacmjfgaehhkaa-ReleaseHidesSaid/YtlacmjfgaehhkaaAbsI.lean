/-
  Literals of slices, arithmetic and function values over the abstract view.
-/
import Derived.Test.YtlacmjfgaehhkaaAbsH
namespace Go.Abs
open Go.RowKit

section
variable {P : Program} {T : TypeId → Option TI} {F0 : Nat → Prop} {w0 w : World} {E : Env} {mem : List Blk} {clock : Nat}

theorem parts_fill {σ : St} {ρ : Operand → Value} (hρ : ∀ x, SRep E w (ρ x) (σ.ev x)) (size : Nat) :
    ∀ (parts : List (Nat × Operand)) (k : Nat) (es : List (List Dat)) (cells : Array Value), partsOf σ size parts k = some es → (k + parts.length) * size ≤ cells.size →
      ∃ cells', Instr.fill (fun i => some (i * size, size)) cells (parts.map fun p => (p.1, ρ p.2)) = some cells' ∧ cells'.size = cells.size ∧ es.length = parts.length ∧ (∀ e, e ∈ es → e.length = size) ∧
        (∀ q, q < k * size → cells'[q]? = cells[q]?) ∧ (∀ (i j : Nat) e v x, es[i]? = some e → e[j]? = some x → cells'[(k + i) * size + j]? = some v → DRep E.F w v x)
  | [], k, es, cells, h, hl => by
    simp only [partsOf, Option.some.injEq] at h
    subst h
    exact ⟨cells, by simp [Instr.fill], rfl, rfl, by simp, fun _ _ => rfl, fun _ _ _ _ _ q => by simp at q⟩
  | (i, x) :: rest, k, es, cells, h, hl => by
    simp only [partsOf] at h
    split at h
    · rename_i hik
      subst hik
      split at h
      · rename_i cs hcs
        split at h
        · rename_i ds r hds hr
          split at h
          · rename_i hsz
            simp only [Option.some.injEq] at h
            subst h
            simp only [List.length_cons] at hl
            have hl' : (i + 1 + rest.length) * size ≤ cells.size := by rw [show i + 1 + rest.length = i + (rest.length + 1) by omega]; exact hl
            have hfit : i * size + size ≤ cells.size := by
              have : (i + 1) * size ≤ (i + 1 + rest.length) * size := Nat.mul_le_mul_right _ (by omega)
              rw [Nat.add_mul, Nat.one_mul] at this
              omega
            obtain ⟨hc1, _, hc3⟩ := (hρ x).cellsOf hcs
            have hdl := dats_len hds
            obtain ⟨cells1, hs1, hs2, hs3⟩ := fill_step (fun i => some (i * size, size)) cells i (i * size) size (ρ x) (rest.map fun p => (p.1, ρ p.2)) rfl (by omega) hfit
            obtain ⟨cells', q1, q2, q3, q4, q5, q6⟩ := parts_fill hρ size rest (i + 1) r cells1 hr (by rw [hs2]; exact hl')
            have hvl : (ρ x).cells.toList.length = size := by simp; omega
            have hget : ∀ q, cells1[q]? = if q < i * size then cells[q]? else if q < i * size + size then (ρ x).cells[q - i * size]? else cells[q]? := by
              intro q
              have e1 := getElem?_splice (l := cells.toList) (m := (ρ x).cells.toList) (o := i * size) (j := q) (by rw [hvl]; simpa using hfit)
              rw [hvl] at e1
              rw [← Array.getElem?_toList, hs3, e1]
              simp
            refine ⟨cells', by rw [List.map_cons, hs1]; exact q1, by rw [q2, hs2], by simp [q3], fun e he => ?_, fun q hq => ?_, fun i' j e v y a1 a2 a3 => ?_⟩
            · simp only [List.mem_cons] at he
              rcases he with rfl | he
              · exact hsz
              · exact q4 e he
            · rw [q5 q (by rw [Nat.add_mul]; omega), hget q, if_pos hq]
            · cases i' with
              | zero =>
                simp only [List.getElem?_cons_zero, Option.some.injEq] at a1
                subst a1
                have hj : j < size := by have := lt_of_getElem? a2; omega
                simp only [Nat.add_zero] at a3
                rw [q5 _ (by rw [Nat.add_mul]; omega), hget, if_neg (by omega), if_pos (by omega), show i * size + j - i * size = j by omega] at a3
                exact dats_rep (E := E) (v := v) hds (fun z hz => hc3 j v z a3 hz) a2
              | succ i' =>
                rw [show i + (i' + 1) = i + 1 + i' by omega] at a3
                exact q6 i' j e v y (by simpa using a1) a2 a3
          · cases h
        · cases h
      · cases h
    · cases h

theorem buildSlice_ok (hT : TypesOk P T) {σ : St} (h : WOk F0 w0 E w σ.mem σ.clock) {t : TypeId} {len : Nat} {ρ : Operand → Value} (hρ : ∀ x, SRep E w (ρ x) (σ.ev x)) {parts : Array (Nat × Operand)} {V : SVal → Prop}
    (hl : aBuildSlice T σ t len parts.toList V) :
    ∃ v w' E' y, (Instr.buildSlice t len (parts.map fun (i, x) => (i, ρ x))).run P w = .ok v w' ∧ EnvLe E w E' w' ∧ WOk F0 w0 E' w' σ.mem σ.clock ∧ SRep E' w' v y ∧ V y := by
  unfold aBuildSlice at hl
  split at hl
  · rename_i e _ ht
    have hu : P.underlying t = some (.slice e) := (hT t _ ht).desc
    split at hl
    · rename_i ei hei
      have hsz := (hT e ei hei).sizeOf (w := w)
      have hmap : (parts.map fun (i, x) => (i, ρ x)).toList = parts.toList.map fun p => (p.1, ρ p.2) := by simp
      split at hl
      · obtain ⟨hp, hV⟩ := hl
        have hlat := h.later (w' := w.alloc (.cells #[] e)) ((Below.refl _ w).alloc (Nat.le_refl _) _) (fun _ => False) (fun _ q => q.elim)
        refine ⟨.slice (some ⟨w.heap.size, 0, none⟩) 0 0, _, _, _, ?_, hlat.2, hlat.1, .c (.emp _), hV⟩
        simp only [Instr.buildSlice, Sem.run_bind, run_underlying hu, Result.andThen_ok, hsz, Nat.zero_mul, hmap, hp]
        simp [Instr.fill, newRow, Array.range_zero']
      · rename_i n
        obtain ⟨hpos, hzl, hlim, hpl, hl⟩ := hl
        split at hl
        · rename_i es hes
          obtain ⟨fi, z, hi1, hi2, hi3, hi4, hi5⟩ := (hT e ei hei).info
          obtain ⟨cells', q1, q2, q3, q4, q5, q6⟩ := parts_fill hρ ei.size parts.toList 0 es ((Array.range ((n + 1) * ei.size)).map (z.cells[· % z.cells.size]!)) hes (by simp [hpl])
          have hnz : (n + 1) * ei.size ≠ 0 := by
            have : 0 < (n + 1) * ei.size := Nat.mul_pos (by omega) hpos
            omega
          have hlat := h.later (w' := w.alloc (.cells cells' e)) ((Below.refl _ w).alloc (Nat.le_refl _) _) (fun k => k = w.heap.size) (fun k q => by subst q; simp)
          refine ⟨.slice (some ⟨w.heap.size, 0, none⟩) es.length (n + 1), _, _, _, ?_, hlat.2, hlat.1, .c (.d (.sl es w.heap.size 0 (n + 1) ei.size (fun i j => cells'.getD (i * ei.size + j) undef) (.inr rfl) (by omega) ?_ q4 ?_ ?_)), hl⟩
          · simp only [Instr.buildSlice, Sem.run_bind, run_underlying hu, Result.andThen_ok, hsz, hmap]
            rw [if_neg (show ¬ (n + 1) * ei.size > 2 ^ 24 by omega)]
            simp only [Sem.run_pure, Result.andThen_ok, if_neg hnz, Sem.run_bind, zeroValue, typeInfo, run_program, hi1, hi4]
            rw [q1]
            simp only [Sem.run_bind, newRow, run_newObj, Result.andThen_ok, Sem.run_pure, World.alloc_eq]
            rw [q3, hpl]
          · simp only [maxLen]
            have h1 : n + 1 ≤ (n + 1) * ei.size := Nat.le_mul_of_pos_right _ hpos
            omega
          · intro i j hi hj
            have hlt : i * ei.size + j < cells'.size := by
              rw [q2]
              simp only [Array.size_map, Array.size_range]
              have : (i + 1) * ei.size ≤ (n + 1) * ei.size := Nat.mul_le_mul_right _ (by omega)
              rw [Nat.add_mul, Nat.one_mul] at this
              omega
            simp only [Nat.zero_add]
            rw [World.cell?_alloc_new]
            simp [hlt]
          · intro i j el x a1 a2
            have hj : j < ei.size := by have := lt_of_getElem? a2; rw [q4 el (List.mem_of_getElem? a1)] at this; exact this
            have hi := lt_of_getElem? a1
            have hlt : i * ei.size + j < cells'.size := by
              rw [q2]
              simp only [Array.size_map, Array.size_range]
              have : (i + 1) * ei.size ≤ (n + 1) * ei.size := Nat.mul_le_mul_right _ (by omega)
              rw [Nat.add_mul, Nat.one_mul] at this
              omega
            have := q6 i j el (cells'.getD (i * ei.size + j) undef) x a1 a2 (by simp [hlt])
            exact this.le hlat.2
        · exact hl.elim
    · exact hl.elim
  · exact hl.elim

theorem litsOf_rep : ∀ {xs : List Cell} {us vs : List Value}, litsOf xs = some us → vs.length = xs.length → (∀ (i : Nat) v x, vs[i]? = some v → xs[i]? = some x → CRep E w v x) → vs = us
  | [], us, vs, h, hl, _ => by
    simp only [litsOf, Option.some.injEq] at h
    subst h
    exact List.eq_nil_of_length_eq_zero hl
  | c :: xs, us, vs, h, hl, hd => by
    unfold litsOf at h
    split at h
    · rename_i hq; cases hq
    · rename_i v cs hq
      injection hq with e1 e2
      subst e1; subst e2
      split at h
      · rename_i ws hws
        simp only [Option.some.injEq] at h
        subst h
        match vs, hl with
        | u :: vs, hl =>
          have h0 := hd 0 u _ rfl rfl
          have hu : u = v := by cases h0 with | d h0 => cases h0; rfl
          subst hu
          have hrec := litsOf_rep (vs := vs) hws (by simpa using hl) (fun i v x hv hx => hd (i + 1) v x (by simpa using hv) (by simpa using hx))
          rw [hrec]
      · cases h
    · cases h

theorem run_equal_bool {t : TypeId} (hu : P.underlying t = some .bool) (a b : Bool) : (Op.equal t (.bool a) (.bool b)).run P w = .ok (a == b) w := by
  have h : ∀ d, (Op.equalIn (d + 1) t (.bool a) (.bool b)).run P w = .ok (a == b) w := fun d => by simp [Op.equalIn, run_underlying hu]
  exact h 9999

theorem run_and (k : IntKind) (a b : Int) : (Op.intBits .and k a b).run P w = .ok (.int k (andInt k a b)) w := rfl

theorem bin_ok (hT : TypesOk P T) {op : BinOp} {t : TypeId} {u v : Value} {x y : SVal} (xo yo : Operand) (hx : SRep E w u x) (hy : SRep E w v y) {V : SVal → Prop} (hl : aBin T op t x y V) :
    ∃ r s, (do eqGuard op t xo yo u v; binOp op t u v : Sem Value).run P w = .ok r w ∧ SRep E w r s ∧ V s := by
  unfold aBin at hl
  split at hl
  · rename_i k a k' b
    have e1 := hx.lit_inv
    have e2 := hy.lit_inv
    subst e1; subst e2
    obtain ⟨rfl, hl⟩ := hl
    have hg : (eqGuard op t xo yo (.int k a) (.int k b)).run P w = .ok () w := by cases op <;> simp [eqGuard]
    by_cases hop : op = .and
    · subst hop
      simp only [aInt] at hl
      refine ⟨.int k (andInt k a b), _, ?_, .c (.d (.lit _ rfl)), hl⟩
      simp only [Sem.run_bind, hg, Result.andThen_ok, binOp, ne_eq, not_true_eq_false, if_false]
      exact run_and k a b
    cases op <;> simp only [aInt] at hl <;> first
      | exact absurd rfl hop
      | exact hl.elim
      | exact ⟨_, _, by simp [hg, binOp, Op.intArith, Op.intCmp], .c (.d (.lit _ rfl)), hl⟩
      | exact ⟨_, _, by simp [hg, binOp, Op.intDiv, hl.1], .c (.d (.lit _ rfl)), hl.2⟩
  · rename_i a b
    have e1 := hx.lit_inv
    have e2 := hy.lit_inv
    subst e1; subst e2
    have hg : (eqGuard op t xo yo (.string a) (.string b)).run P w = .ok () w := by cases op <;> simp [eqGuard]
    cases op <;> simp only [aStr] at hl <;> first
      | exact hl.elim
      | exact ⟨_, _, by simp [hg, binOp, Op.stringOp], .c (.d (.lit _ rfl)), hl⟩
      | (have hm : ¬ (((a.size + b.size : Nat) : Int) > IntKind.i64.max) := by
          have := hl.1
          simp only [maxLen] at this
          simp [IntKind.max, IntKind.bits]
          omega
         exact ⟨_, _, by simp only [Sem.run_bind, hg, Result.andThen_ok, binOp, Op.stringOp, if_neg hm, Sem.run_pure], .c (.d (.lit _ rfl)), hl.2⟩)
  · rename_i a b
    have e1 := hx.lit_inv
    have e2 := hy.lit_inv
    subst e1; subst e2
    split at hl
    · rename_i ht
      have hu : P.underlying t = some .bool := (hT t _ ht).desc
      have hg : (eqGuard op t xo yo (.bool a) (.bool b)).run P w = .ok () w := by cases op <;> simp [eqGuard]
      split at hl
      · exact ⟨_, _, by simp only [Sem.run_bind, hg, Result.andThen_ok, binOp, run_equal_bool hu, Sem.run_pure], .c (.d (.lit _ rfl)), hl⟩
      · exact ⟨_, _, by simp only [Sem.run_bind, hg, Result.andThen_ok, binOp, run_equal_bool hu, Sem.run_pure], .c (.d (.lit _ rfl)), hl⟩
      · exact hl.elim
    · exact hl.elim
  · rename_i xs ys
    split at hl
    · rename_i i us vs ht hus hvs
      obtain ⟨heq, h1, h2, hl⟩ := hl
      cases hx with | agg _ us' hl1 hd1 =>
      cases hy with | agg _ vs' hl2 hd2 =>
      have e1 := litsOf_rep hus hl1 hd1
      have e2 := litsOf_rep hvs hl2 hd2
      subst e1; subst e2
      have hq := (hT t i ht).eqv heq w xo yo us' vs' h1 h2
      split at hl
      · exact ⟨_, _, hq.1, .c (.d (.lit _ rfl)), hl⟩
      · exact ⟨_, _, hq.2, .c (.d (.lit _ rfl)), hl⟩
      · exact hl.elim
    · exact hl.elim
  · exact hl.elim

theorem un_ok {op : UnOp} {u : Value} {x : SVal} (hx : SRep E w u x) {V : SVal → Prop} (hl : aUn op x V) : ∃ r s, (Op.unary op u).run P w = .ok r w ∧ SRep E w r s ∧ V s := by
  unfold aUn at hl
  split at hl
  · have e1 := hx.lit_inv
    subst e1
    exact ⟨_, _, by simp [Op.unary], .c (.d (.lit _ rfl)), hl⟩
  · have e1 := hx.lit_inv
    subst e1
    exact ⟨_, _, by simp only [Op.unary, Op.intArith, Sem.run_pure], .c (.d (.lit _ rfl)), hl⟩
  · exact hl.elim

theorem TOk.under {t : TypeId} {i : TI} (h : TOk P t i) : ∃ d, P.underlying t = some d := by
  have hd := h.desc
  cases hi : i.desc <;> rw [hi] at hd <;> simp only [TDOk] at hd
  · exact ⟨_, hd⟩
  · exact ⟨_, hd⟩
  · exact ⟨_, hd⟩
  · obtain ⟨fs, hd, _⟩ := hd; exact ⟨_, hd⟩
  · exact ⟨_, hd⟩
  · exact ⟨_, hd⟩
  · obtain ⟨d, hd, _⟩ := hd; exact ⟨_, hd⟩

theorem conv_ok (hT : TypesOk P T) {s t : TypeId} {u : Value} {x : SVal} (hx : SRep E w u x) {V : SVal → Prop} (hl : aConv T s t x V) : ∃ r y, (convert s t u).run P w = .ok r w ∧ SRep E w r y ∧ V y := by
  unfold aConv at hl
  split at hl
  · rename_i k _ _ _ hs ht
    have hu : P.underlying t = some (.int k) := (hT t _ ht).desc
    obtain ⟨d, hd⟩ := (hT s _ hs).under
    have e1 := hx.lit_inv
    subst e1
    refine ⟨_, _, ?_, .c (.d (.lit _ rfl)), hl⟩
    simp only [convert, Sem.run_bind, run_underlying hd, Result.andThen_ok, run_underlying hu, Conv.intToInt, Sem.run_pure]
  · exact hl.elim

theorem capsOf_rep {σ : St} {ρ : Operand → Value} (hρ : ∀ x, SRep E w (ρ x) (σ.ev x)) : ∀ {xs : List Operand} {cs : List Cell}, capsOf σ xs = some cs →
    xs.length = cs.length ∧ ∀ (i : Nat) v c, (xs.map ρ)[i]? = some v → cs[i]? = some c → CRep E w v c
  | [], cs, h => by
    simp only [capsOf, Option.some.injEq] at h
    subst h
    exact ⟨rfl, by simp⟩
  | x :: xs, cs, h => by
    simp only [capsOf] at h
    split at h
    · rename_i c r hc hr
      simp only [Option.some.injEq] at h
      subst h
      obtain ⟨h1, h2⟩ := capsOf_rep hρ hr
      refine ⟨by simp [h1], fun i v d hv hd => ?_⟩
      cases i with
      | zero =>
        simp at hv hd
        subst hv; subst hd
        have := hρ x
        rw [hc] at this
        generalize ρ x = vx at this
        cases this with | c q => exact q
      | succ i => exact h2 i v d (by simpa using hv) (by simpa using hd)
    · cases h

theorem func_ok {σ : St} {ρ : Operand → Value} (hρ : ∀ x, SRep E w (ρ x) (σ.ev x)) {fn : Fn} {first captured : Array Operand} {V : SVal → Prop} (hl : aFunc σ fn first.toList captured.toList V) :
    ∃ r y, (Instr.makeFunc fn (first.map ρ) (captured.map ρ)).run P w = .ok r w ∧ SRep E w r y ∧ V y := by
  unfold aFunc at hl
  split at hl
  · rename_i f h1 h2
    have e1 : first = #[] := by simpa using h1
    have e2 : captured = #[] := by simpa using h2
    subst e1; subst e2
    exact ⟨_, _, by simp [Instr.makeFunc], .c (.d (.lit _ rfl)), hl⟩
  · rename_i f h1 _
    have e1 : first = #[] := by simpa using h1
    subst e1
    split at hl
    · rename_i cs hcs
      obtain ⟨q1, q2⟩ := capsOf_rep hρ hcs
      have hm : captured.map ρ = (captured.toList.map ρ).toArray := by apply Array.ext'; simp
      have hrun : (Instr.makeFunc (.func f) ((#[] : Array Operand).map ρ) (captured.map ρ)).run P w = .ok (.func (.func f) #[] (captured.toList.map ρ).toArray) w := by
        rw [hm]; simp only [Array.map_empty, Instr.makeFunc, Sem.run_pure]
      split at hl
      · rename_i ds hds
        have hdl := dats_len hds
        refine ⟨_, _, hrun, .c (.d (.clo f ds (captured.toList.map ρ) (by simp; simp at q1; omega) (fun i v x hv hx => ?_))), hl⟩
        exact dats_rep hds (fun y hy => q2 i v y hv hy) hx
      · exact ⟨_, _, hrun, .c (.clo f cs (captured.toList.map ρ) (by simpa using q1) q2), hl⟩
    · exact hl.elim
  · exact hl.elim

/-- Which function a value calls. -/
theorem callee_rep {u : Value} {x : SVal} (hx : SRep E w u x) {g : FuncId} {caps : List Cell} (h : calleeOf x = some (g, caps)) :
    ∃ vs : List Value, u = .func (.func g) #[] vs.toArray ∧ vs.length = caps.length ∧ ∀ (i : Nat) v c, vs[i]? = some v → caps[i]? = some c → CRep E w v c := by
  unfold calleeOf at h
  split at h
  · rename_i f first cs
    have e1 := hx.lit_inv
    subst e1
    split at h
    · rename_i hq
      simp at h
      obtain ⟨rfl, rfl⟩ := h
      obtain ⟨h1, h2⟩ := hq
      have e1 : first = #[] := by simpa using h1
      have e2 : cs = #[] := by simpa using h2
      subst e1; subst e2
      exact ⟨[], rfl, rfl, by simp⟩
    · cases h
  · rename_i f ds
    simp at h
    obtain ⟨rfl, rfl⟩ := h
    cases hx with | c hx => cases hx with | d hx => cases hx with | clo _ _ vs hl hd =>
    refine ⟨vs, rfl, by simpa using hl, fun i v c hv hc => ?_⟩
    rw [List.getElem?_map] at hc
    cases hq : ds[i]? with
    | none => rw [hq] at hc; cases hc
    | some y =>
      rw [hq] at hc
      simp at hc
      subst hc
      exact .d (hd i v y hv hq)
  · simp at h
    obtain ⟨rfl, rfl⟩ := h
    cases hx with | c hx => cases hx with | clo _ _ vs hl hd => exact ⟨vs, rfl, hl, hd⟩
  · cases h
end
end Go.Abs
