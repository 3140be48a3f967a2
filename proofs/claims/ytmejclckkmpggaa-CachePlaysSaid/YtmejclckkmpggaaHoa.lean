/-
  An append to an empty literal that fills a hole, in a region of open order; fields and cells of one box.
-/
import Derived.Test.YtmejclckkmpggaaHol
section
namespace Go.Abs
open Go.RowKit
section
variable {P : Program} {T : TypeId → Option TI} {F0 : Nat → Prop} {w0 w : World} {E : Env} {mem : List Blk} {clock : Nat}

theorem WOk.holeArr {w' : World} (h : WOk F0 w0 E w mem clock) {r k : Nat} (hr : mem[r]? = some (.hole k)) (hk : k ≤ clock) (ety : TypeId) (esz cap : Nat) (es : List (List Dat)) (hesz : 0 < esz) (hes : ∀ e, e ∈ es → e.length = esz) (hcap : es.length ≤ cap) (hmax : cap ≤ maxLen)
    (hbel : Bel w0.heap.size w w') (hold : ∀ i, i < w.heap.size → w'.heap[i]? = w.heap[i]?)
    (hc : cap = 0 ∨ ∃ c, w'.heap[w.heap.size]? = some (.cells c ety (0, 0)) ∧ c.size = cap * esz ∧ (∀ v ∈ c, v.oneCell' = true) ∧ ∀ (i j : Nat) e v x, es[i]? = some e → e[j]? = some x → c[i * esz + j]? = some v → DRep E.F w v x) :
    let E' := E.upd r w.heap.size cap k
    WOk F0 w0 E' w' (mem.set r (.arr k ety esz es)) clock ∧ EnvLe E w E' w' := by
  intro E'
  have hf := h.fresh
  have hv : E.ver r < k := h.mem.ok r _ hr
  have hle : EnvLe E w E' w' := Env.upd_le _ _ _ _ hv (fun i hi => hold i (h.FN i hi))
  refine h.turnV r _ _ k _ _ hv (Nat.le_refl _) hk (set_turn r _) hbel (fun i hi _ => hold i hi) (fun s x _ hx hh => hf.2 s x hx hh) hf.1 ?_
  refine ⟨by simp [Env.upd], hesz, hes, by simpa [Env.upd] using hcap, by simpa [Env.upd] using hmax, ?_⟩
  rcases hc with hc | ⟨c, h1, h2, h0, h3⟩
  · exact .inl (by simp [Env.upd, hc])
  · refine .inr ⟨by simp [Env.upd]; exact h.le0, by simp only [Env.upd, if_true]; exact hf.1, c, by simp only [Env.upd, if_true]; exact h1, by simpa [Env.upd] using h2, h0, fun i j e v x a b d => (h3 i j e v x a b d).le hle⟩

theorem append_fresh (hT : TypesOk P T) (h : WOk F0 w0 E w mem clock) {t ty e : TypeId} {i ei : TI} {v : Value} {ys : List (List Dat)} (ht : T t = some i) (hi : i.desc = .slice e) (hei : T e = some ei) (hzl : ei.zero.length = ei.size) (hyl : ∀ el ∈ ys, el.length = ei.size) (hm : ys.length ≤ maxLen) (hb : ys.length * ei.bytes ≤ 140737488355328) (hrep : DRep E.F w v (.sl ys)) (a : Option Addr) :
    ∃ v' w' cap, (Builtin.append_ #[t, t] ty #[.slice a 0 0, v]).run P w = .ok v' w' ∧ ys.length ≤ cap ∧ cap ≤ maxLen ∧ Bel w0.heap.size w w' ∧ (∀ i, i < w.heap.size → w'.heap[i]? = w.heap[i]?) ∧
      ((cap = 0 ∧ ∃ b, v' = .slice b 0 0) ∨ (0 < cap ∧ v' = .slice (some ⟨w.heap.size, 0, none⟩) ys.length cap)) ∧
      (cap = 0 ∨ ∃ c, w'.heap[w.heap.size]? = some (.cells c e (0, 0)) ∧ c.size = cap * ei.size ∧ (∀ v ∈ c, v.oneCell' = true) ∧ ∀ (i j : Nat) e v x, ys[i]? = some e → e[j]? = some x → c[i * ei.size + j]? = some v → DRep E.F w v x) := by
  have hu : P.underlying t = some (.slice e) := by have := (hT t i ht).desc; rw [hi] at this; exact this
  obtain ⟨fi, z, hi1, hi2, hi3, hi4, hi5⟩ := (hT e ei hei).info
  have hz : z.cells.size = ei.size := by rw [hi5]; simpa using hzl
  have hz1 : ∀ v ∈ z.cells, v.oneCell' = true := fun v hv => (hT e ei hei).ones v (by rw [hi5] at hv; simpa using hv)
  by_cases hne : ys = []
  · subst hne
    rcases hrep.sl_inv with ⟨_, b, c, rfl⟩ | ⟨b, off, cap, size, us, rfl, _⟩
    · exact ⟨_, w, 0, run_append_nothing hu hi1 a b 0 0 c (Nat.le_refl _), Nat.le_refl _, by simp [maxLen], Bel.refl _ _, fun _ _ => rfl, .inl ⟨rfl, a, rfl⟩, .inl rfl⟩
    · exact ⟨_, w, 0, run_append_nothing hu hi1 a _ 0 0 cap (Nat.le_refl _), Nat.le_refl _, by simp [maxLen], Bel.refl _ _, fun _ _ => rfl, .inl ⟨rfl, a, rfl⟩, .inl rfl⟩
  · obtain ⟨b, off, cap, news, rfl, hnl, hnc, hn1, hflat⟩ := hrep.flat hyl hne
    have hlp : 0 < ys.length := by rcases Nat.eq_zero_or_pos ys.length with h0 | h0; exact absurd (List.eq_nil_of_length_eq_zero h0) hne; exact h0
    have h63 : ((0 + ys.length : Nat) : Int) ≤ 9223372036854775807 := by simp only [maxLen] at hm; omega
    obtain ⟨gcap, hg, hge, hgm, c, hc1, hc2, hc0, hc3⟩ := grown_block (w := w) (e := e) (old := 0) hz hnl hm hz1 hn1
    have hr : (Builtin.append_ #[t, t] ty #[.slice a 0 0, .slice (some ⟨b, off, none⟩) ys.length cap]).run P w =
        .ok (.slice (some ⟨w.heap.size, 0, none⟩) ys.length gcap) (w.drew.alloc (.cells (news.toArray ++ Builtin.zeroCells z.cells (gcap - ys.length)) e)) := by
      cases a with
      | none =>
        have := run_append_nil (P := P) w t ty e fi z hu hi1 hi4 ⟨b, off, none⟩ ys.length cap news (by rw [hi2]; exact hnl) hnc hlp (by omega) (by rw [hi3]; omega)
        rw [hg]; exact this
      | some a =>
        have := run_append_grow (P := P) w t ty e fi z hu hi1 hi4 a 0 0 [] (by simp) (by simp) ⟨b, off, none⟩ ys.length cap news (by rw [hi2]; exact hnl) hnc (by omega) h63
          (by rw [hi3]; exact growslice_fits (by omega) (by simpa using hb))
        simp only [Nat.zero_add, Array.empty_append] at this
        rw [hg]; exact this
    refine ⟨_, _, gcap, hr, hge, hgm, below_growth w _ h.le0, fun i hi => by rw [Bel.heap_alloc w.drew _ i hi]; rfl, .inr ⟨by omega, rfl⟩, .inr ⟨c, hc1, hc2, hc0, fun i j e' v' x' q1 q2 q3 => ?_⟩⟩
    have hj := Flat.join (A := []) (rest := (Builtin.zeroCells z.cells (gcap - ys.length)).toList) (olds := []) (by simp) (by simp) hyl hnl (fun _ _ _ _ _ q => by simp at q) hflat
    simp only [List.nil_append] at hj
    exact hj i j e' v' x' q1 q2 (by rw [← hc3]; simpa using q3)
end
section
variable {P : Program} {T : TypeId → Option TI} {F0 : Nat → Prop} {w0 : World}
variable {dr : Bool} {ops rest : List Oper} {K : St → Prop} {n : Nat} {sl : List (Nat × SVal)} {mem : List Blk} {ck : Nat} {df : List (FuncId × List Cell)} {acc : List Nat}
variable {d : Tmp} {op : Op} {ty : TypeId} {pos : String} {aft : Array Edge} {g : Option (Nat × Bool)}

/-- An append to an empty literal that fills a hole. -/
theorem h_appE [tc : TC P T] (r : Nat) {t e : TypeId} {x y : Operand} {i ei : TI} {u : SVal} {ys : List (List Dat)} {k : Nat} {mem' : List Blk} (h : Reg P F0 w0 dr ops K rest ⟨n, (d, .c (.arr r k ys.length)) :: sl, mem', ck, df⟩ (kindL r false :: acc)) (hsz : ∀ el ∈ ys, el.length = ei.size) (hl : ys.length ≤ maxLen) (hby : ys.length * ei.bytes ≤ 140737488355328) (hm : mem[r]? = some (.hole k) := by exact rfl) (hk : k ≤ ck := by omega) (hw : GW ops g sl := by first | exact trivial | exact rfl)
    (hx : evS sl x = .c .emp := by exact rfl) (hy : evS sl y = u := by exact (rfl : _ = SVal.c _)) (hs : srcOf u = some ys := by exact rfl) (ht : T t = some i := by exact rfl) (hi : i.desc = .slice e := by exact rfl) (hei : T e = some ei := by exact rfl) (hkk : (Nat.blt 0 ei.size && Nat.beq ei.zero.length ei.size) = true := by exact rfl) (hm' : mem.set r (.arr k e ei.size ys) = mem' := by exact rfl) :
    Reg P F0 w0 dr ops K (⟨some d, .call ⟨.builtin .append, #[x, y], #[t, t]⟩, ty, pos, aft, g⟩ :: rest) ⟨n, sl, mem, ck, df⟩ acc := by
  subst hm'
  refine at4 hw hm hk (fun M c hM hc => doesM fun E w ρ hw' hρ => ?_) h
  have e1 := hρ x (by simp [Op.operands, Call.operands])
  have e2 := hρ y (by simp [Op.operands, Call.operands])
  rw [hx] at e1; rw [hy] at e2
  have hrep := src_rep e2 hs
  simp only [Bool.and_eq_true, Nat.beq_eq, Nat.ble_eq, Nat.blt, Nat.succ_le_iff] at hkk
  obtain ⟨a, ha⟩ : ∃ a, ρ x = .slice a 0 0 := by
    generalize ρ x = q at e1
    cases e1 with | c hs => cases hs with | emp a => exact ⟨a, rfl⟩
  obtain ⟨v', w', cap, q1, q2, q3, q4, q5, q6, q7⟩ := append_fresh tc.ok hw' (ty := ty) ht hi hei hkk.2 hsz hl hby hrep a
  have hq := hw'.holeArr hM hc e ei.size cap ys hkk.1 hsz q2 q3 q4 q5 q7
  refine ⟨v', w', _, by simp [execOp, resolve, invoke, builtin, ha, q1], hq.2, hq.1, .c (.arr r k ys.length v' ?_ (by simp [Env.upd]) (fun _ => ?_))⟩
  · rcases q6 with ⟨_, b, rfl⟩ | ⟨_, rfl⟩ <;> rfl
  · rcases q6 with ⟨h5, b, rfl⟩ | ⟨h5, rfl⟩
    · exact .inl ⟨by simp [Env.upd, h5], by omega, b, rfl⟩
    · exact .inr ⟨by simp [Env.upd]; exact h5, by simp [Env.upd]⟩

/-! Fields and cells of one box. -/
theorem h_fieldB [tc : TC P T] {s : TypeId} {f : Nat} {x : Operand} {i j : TI} {fs : List (Nat × TypeId)} {off : Nat} {ft : TypeId} {r k o : Nat} {cs : List Cell} (h : Reg P F0 w0 dr ops K rest ⟨n, (d, .c (.bp r k (o + off))) :: sl, mem, ck, df⟩ (kindL r true :: acc)) (hw : GW ops g sl := by first | exact trivial | exact rfl) (hx : evS sl x = .c (.bp r k o) := by exact rfl) (hs : T s = some i := by exact rfl) (hi : i.desc = .struct fs := by exact rfl) (hf : fs[f]? = some (off, ft) := by exact rfl) (hj : T ft = some j := by exact rfl) (hz : decide (j.size ≠ 0) = true := by exact rfl) (hm : mem[r]? = some (.box k cs) := by exact rfl) :
    Reg P F0 w0 dr ops K (⟨some d, .fieldAddr s x f, ty, pos, aft, g⟩ :: rest) ⟨n, sl, mem, ck, df⟩ acc :=
  at4r hw hm (fun mem ck hm => Does.of tc.ok fun τ he hmm hc Kk hK => by
    subst hmm; subst hc
    have ex := he x (by simp [Op.operands])
    rw [hx] at ex
    obtain ⟨a1, a2, a3, a4, a5⟩ := i
    simp only at hi
    subst hi
    simp only [astep, aField, hs, hf, hj, ex, liveAt, hm]
    exact ⟨by simpa using hz, trivial, hK _ _ _ _ ⟨rfl, rfl, rfl, rfl⟩⟩) h

theorem h_loadB1 [tc : TC P T] {t : TypeId} {x : Operand} {i : TI} {r k o : Nat} {cs : List Cell} {y : Cell} (h : Reg P F0 w0 dr ops K rest ⟨n, (d, .c y) :: sl, mem, ck, df⟩ (kindL r true :: acc)) (hw : GW ops g sl := by first | exact trivial | exact rfl) (hx : evS sl x = .c (.bp r k o) := by exact rfl) (ht : T t = some i := by exact rfl) (ha : i.desc.agg = false := by exact rfl) (hs : i.size = 1 := by exact rfl) (hm : mem[r]? = some (.box k cs) := by exact rfl) (hy : cs[o]? = some y := by exact rfl) :
    Reg P F0 w0 dr ops K (⟨some d, .load t x, ty, pos, aft, g⟩ :: rest) ⟨n, sl, mem, ck, df⟩ acc :=
  at4r hw hm (fun mem ck hm => Does.of tc.ok fun τ he hmm hc Kk hK => by
    subst hmm; subst hc
    have ex := he x (by simp [Op.operands])
    rw [hx] at ex
    have hlt := lt_of_getElem? hy
    have e1 : (cs.drop o).take 1 = [y] := by
      rw [List.drop_eq_getElem_cons hlt]
      rw [List.getElem?_eq_getElem hlt] at hy
      simp at hy
      simp [hy]
    simp only [astep, aLoad, ht, ex, ha, hs, hm]
    refine ⟨.inr trivial, trivial, hlt, ?_⟩
    rw [e1]
    exact hK _ _ _ _ ⟨rfl, rfl, rfl, rfl⟩) h
end
end Go.Abs
end
