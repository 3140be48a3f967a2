/-
  Aggregates, plain: states of sums of bags.
-/
import Derived.Test.YtojfhaoleedmkaaGreatDex
import Derived.Test.YtojfhaoleedmkaaGreatAgk
import Derived.Test.YtojfhaoleedmkaaGreatTab
section
section
section
namespace Go.Abs
open Go.RowKit
variable {P : Program} {T : TypeId → Option TI} {F0 : Nat → Prop} {w0 : World}
variable {dr : Bool} {ops rest : List Oper} {K : St → Prop} {n : Nat} {sl : List (Nat × SVal)} {mem : List Blk} {ck : Nat} {df : List (FuncId × List Cell)} {acc : List Nat}
variable {d : Tmp} {op : Op} {ty : TypeId} {pos : String} {aft : Array Edge} {g : Option (Nat × Bool)}
theorem h_makeH [tc : TC P T] (r : Nat) {t e : TypeId} {l c : Operand} {i ei : TI} {k k' : IntKind} {z : Int} {m kk : Nat} {zd : List Dat} {mem' : List Blk}
    (h : Reg P F0 w0 dr ops K rest ⟨n, (d, .c (.arr r kk m)) :: sl, mem', ck, df⟩ (kindL r false :: acc)) (h0 : 0 ≤ z) (hm : z.toNat = m) (hmx : z ≤ 9223372036854775807) (hby : (ei.bytes : Int) * z ≤ 140737488355328) (hzd : dats (ei.zero.map valCell) = some zd) (hh : mem[r]? = some (.hole kk)) (hle : kk ≤ ck) (hw : GW ops g sl := by first | exact trivial | exact rfl)
    (hl : evS sl l = .c (.d (.lit (.int k z))) := by exact rfl) (hc : evS sl c = .c (.d (.lit (.int k' z))) := by exact rfl) (ht : T t = some i := by exact rfl) (hi : i.desc = .slice e := by exact rfl) (hei : T e = some ei := by exact rfl) (hk : (Nat.blt 0 ei.size && Nat.beq ei.zero.length ei.size) = true := by exact rfl) (hm' : mem.set r (.arr kk e ei.size (List.replicate m zd)) = mem' := by exact rfl) :
    Reg P F0 w0 dr ops K (⟨some d, .makeSlice t l c, ty, pos, aft, g⟩ :: rest) ⟨n, sl, mem, ck, df⟩ acc := by
  subst hm; subst hm'
  refine at4 hw hh hle (fun M ck hM hcc => doesM fun E w ρ hw' hρ => ?_) h
  have e1 := hρ l (by simp [Op.operands])
  have e2 := hρ c (by simp [Op.operands])
  rw [hl] at e1; rw [hc] at e2
  have e1 := e1.lit_inv
  have e2 := e2.lit_inv
  simp only [Bool.and_eq_true, Nat.beq_eq, Nat.ble_eq, Nat.blt, Nat.succ_le_iff] at hk
  have hu : P.underlying t = some (.slice e) := by have := (tc.ok t i ht).desc; rw [hi] at this; exact this
  obtain ⟨fi, zv, hi1, hi2, hi3, hi4, hi5⟩ := (tc.ok e ei hei).info
  have hr := run_make (P := P) w t e fi zv hu hi1 hi4 k k' z z h0 (Int.le_refl _) (by rw [hi3]; omega) hmx
  rw [hi2] at hr
  have hzlen := dats_len hzd
  have hzs : zv.cells.size = ei.size := by rw [hi5]; simpa using hk.2
  have hn := hw'.holeArr (w' := w.alloc (.cells (madeCells zv.cells (z.toNat * ei.size)) e)) hM hcc e ei.size z.toNat (List.replicate z.toNat zd) hk.1 (fun e' he' => by rw [List.eq_of_mem_replicate he', hzlen]; simpa using hk.2) (by simp) (by simp [maxLen]; omega)
    ((Bel.refl _ w).alloc hw'.le0 _) (fun i hi => Bel.heap_alloc w _ i hi) (.inr ⟨_, Go.heap_alloc_new w _, by simp [size_madeCells], fun v hv => (tc.ok e ei hei).ones v (by have := mem_madeCells (by omega) hv; rw [hi5] at this; simpa using this), fun i j e' v x q1 q2 q3 => by
      have hi := lt_of_getElem? q1
      simp only [List.length_replicate] at hi
      rw [List.getElem?_replicate, if_pos hi] at q1
      simp only [Option.some.injEq] at q1
      subst q1
      have hj := lt_of_getElem? q2
      rw [hzlen] at hj
      simp only [List.length_map, hk.2] at hj
      have hlt : i * ei.size + j < z.toNat * ei.size := by
        have : (i + 1) * ei.size ≤ z.toNat * ei.size := Nat.mul_le_mul_right _ (by omega)
        rw [Nat.add_mul, Nat.one_mul] at this
        omega
      have hmod : (i * ei.size + j) % ei.size = j := by rw [Nat.mul_comm, Nat.mul_add_mod, Nat.mod_eq_of_lt hj]
      have hget : (madeCells zv.cells (z.toNat * ei.size))[i * ei.size + j]? = zv.cells[j]? := by
        unfold madeCells
        rw [Array.getElem?_map]
        have hjs : j < zv.cells.size := by rw [hzs]; exact hj
        simp only [Array.getElem?_range, hlt, if_true, Option.map_some, hzs, hmod]
        rw [getElem!_pos zv.cells j hjs, Array.getElem?_eq_getElem hjs]
      rw [hget, hi5] at q3
      exact dats_rep (E := E) (v := v) hzd (fun y hy => zero_rep (tc.ok e ei hei) j v y q3 hy) q2⟩)
  refine ⟨.slice (some ⟨w.heap.size, 0, none⟩) z.toNat z.toNat, _, _, by simp [execOp, e1, e2, hr], hn.2, hn.1, .c (.arr r kk z.toNat _ rfl (by simp [Env.upd]) (fun _ => ?_))⟩
  rcases Nat.eq_zero_or_pos z.toNat with hm0 | hm0
  · exact .inl ⟨by simp [Env.upd, hm0], hm0, some ⟨w.heap.size, 0, none⟩, by rw [hm0]⟩
  · exact .inr ⟨by simp [Env.upd]; omega, by simp [Env.upd]⟩
theorem h_storeA [tc : TC P T] {t : TypeId} {x y : Operand} {i : TI} {r k esz j o : Nat} {ety : TypeId} {es es' : List (List Dat)} {e e' : List Dat} {v : SVal} {cs : List Cell} {ds : List Dat} {mem' : List Blk} (h : Reg P F0 w0 dr ops K rest ⟨n, sl, mem', ck, df⟩ (kindL r false :: acc)) (hw : GW ops g sl := by first | exact trivial | exact rfl) (hx : evS sl x = .c (.ap r k esz j o) := by exact rfl) (hy : evS sl y = v := by first | exact (rfl : _ = SVal.c _) | exact (rfl : _ = SVal.agg _) | exact rfl) (hc : v.cells = some cs := by exact rfl) (hds : dats cs = some ds := by exact rfl) (ht : T t = some i := by exact rfl) (hl : cs.length = i.size := by exact rfl) (hm : mem[r]? = some (.arr k ety esz es) := by exact rfl) (hs : decide (o + i.size ≤ esz) = true := by exact rfl) (hj : es[j]? = some e) (he' : e.take o ++ ds ++ e.drop (o + i.size) = e' := by exact rfl) (hes : es.set j e' = es' := by exact rfl) (hm' : mem.set r (.arr k ety esz es') = mem' := by exact rfl) : Reg P F0 w0 dr ops K (⟨none, .store t x y, ty, pos, aft, g⟩ :: rest) ⟨n, sl, mem, ck, df⟩ acc := by
  subst hm'; subst hes; subst he'
  exact at4n (v := .junk) hw hm (fun M c hM => Does.of tc.ok fun τ he hmm hck Kk hK => by
    subst hmm; subst hck
    have ex := he x (by simp [Op.operands])
    have ey := he y (by simp [Op.operands])
    rw [hx] at ex
    rw [hy] at ey
    simp only [astep, aStore, ht, ex, ey, hc, hM, hds]
    exact ⟨hl, trivial, trivial, by simpa using hs, there_intro hj (hK _ _ _ _ ⟨rfl, rfl, rfl, rfl⟩)⟩) h
theorem h_indexA [tc : TC P T] {t e : TypeId} {x y : Operand} {i ei : TI} {kk : IntKind} {z : Int} {r k m esz j : Nat} {ety : TypeId} {es : List (List Dat)}  (h : Reg P F0 w0 dr ops K rest ⟨n, (d, .c (.ap r k esz j 0)) :: sl, mem, ck, df⟩ (kindL r true :: acc)) (hw : GW ops g sl := by first | exact trivial | exact rfl) (hx : evS sl x = .c (.arr r k m) := by exact rfl) (hy : evS sl y = .c (.d (.lit (.int kk z))) := by exact rfl) (ht : T t = some i := by exact rfl) (hi : i.desc = .slice e := by exact rfl) (he' : T e = some ei := by exact rfl) (hm : mem[r]? = some (.arr k ety esz es) := by exact rfl) (hsz : esz = ei.size := by exact rfl) (hz : 0 ≤ z := by omega) (hzm : z < (m : Int) := by omega) (hml : m ≤ es.length := by first | omega | exact Nat.le_refl _ | (simp only [List.length_map, List.length_take, List.length_append, List.length_cons, List.length_nil, List.length_set, List.length_drop, List.length_replicate]; omega)) (hj : z.toNat = j := by first | exact Int.toNat_natCast _ | exact rfl) : Reg P F0 w0 dr ops K (⟨some d, .indexAddr t x y, ty, pos, aft, g⟩ :: rest) ⟨n, sl, mem, ck, df⟩ acc :=
  at4r hw hm (fun mem ck hm => Does.of tc.ok fun τ he hmm hc Kk hK => by
    subst hmm; subst hc; subst hj
    have ex := he x (by simp [Op.operands])
    have ey := he y (by simp [Op.operands])
    rw [hx] at ex
    rw [hy] at ey
    obtain ⟨a1, a2, a3, a4, a5⟩ := i
    simp only at hi
    subst hi
    simp only [astep, aIndex, ht, he', ex, ey, hm]
    exact ⟨hz, hzm, trivial, hsz, hml, hK _ _ _ _ ⟨rfl, rfl, rfl, rfl⟩⟩) h
variable {B : Base} {Q : Ex → St → Prop}
theorem s_freezeB (s o r : Nat) {k0 k m : Nat} {ety : TypeId} {esz : Nat} {es es1 : List (List Dat)} {cs : List Cell} {m1 : List Blk} {c : Code} (h : ARun P B c ⟨n, sl, m1, ck, df⟩ Q) (hs : mem[s]? = some (.box k0 cs)) (ho : cs[o]? = some (.arr r k m)) (hm : mem[r]? = some (.arr k ety esz es)) (hl : m ≤ es.length) (hes : es.take m = es1) (hm1 : (mem.set r .dead).set s (.box k0 (cs.set o (.d (.sl es1)))) = m1) : ARun P B c ⟨n, sl, mem, ck, df⟩ Q := by
  subst hes; subst hm1
  rintro a w ⟨E, ⟨hw, hsz', hdf, hsl⟩, hle⟩
  have hf := hw.freeze r k ety esz es hm
  have hsr : s ≠ r := by
    rintro rfl
    rw [hs] at hm; cases hm
  have hs' : (mem.set r .dead)[s]? = some (.box k0 cs) := by rw [List.getElem?_set_ne (Ne.symm hsr)]; exact hs
  obtain ⟨p1, p2, p3, cc, ety', p4, p5, p6⟩ := hf.1.mem.ok s _ hs'
  obtain ⟨q1, q2, q3, cd, ety'', q4, q5, q6⟩ := hw.mem.ok s _ hs
  have hcc : cd = cc := by
    have p4' : w.heap[E.blk s]? = some (.cells cc ety' (0, 0)) := p4
    rw [q4] at p4'
    simp only [Option.some.injEq, Obj.cells.injEq] at p4'
    exact p4'.1
  subst hcc
  refine h a w ⟨_, ⟨hf.1.swap s _ _ hs' (fun q => q) ⟨p1, p2, p3, cd, ety', p4, by simpa using p5, fun j v x hj hx => ?_⟩, hsz', hdf.le hf.2, fun s => (hsl s).le hf.2⟩, hle.trans hf.2⟩
  by_cases hjo : j = o
  · subst hjo
    rw [List.getElem?_set_self (lt_of_getElem? ho)] at hx
    simp only [Option.some.injEq] at hx
    subst hx
    exact .d (arr_dat (F := fun i => E.F i ∨ (i = E.blk r ∧ E.cap r ≠ 0)) hw hm hl (q6 j v _ hj ho) (fun b hb => .inl hb) (fun hz => .inr ⟨rfl, hz⟩))
  · rw [List.getElem?_set_ne (Ne.symm hjo)] at hx
    exact p6 j v x hj hx
theorem WOk.freezeV {E : Env} {w : World} (h : WOk F0 w0 E w mem ck) (r k : Nat) (cs : List Cell) (hr : mem[r]? = some (.box k cs)) :
    let E' : Env := { E with F := fun i => E.F i ∨ i = E.blk r }
    WOk F0 w0 E' w (mem.set r .dead) ck ∧ EnvLe E w E' w := by
  intro E'
  have ho := h.mem.ok r _ hr
  have hle : EnvLe E w E' w := ⟨fun _ hk => .inl hk, fun k hk => rfl, fun _ => Nat.le_refl _, fun _ _ => ⟨rfl, rfl⟩, fun _ hk => ⟨hk, rfl⟩⟩
  have hlt := ho.lt (show Blk.has E r (.box k cs) from trivial)
  refine ⟨⟨h.below, fun k hk => .inl (h.base k hk), fun i hi => ?_, ⟨h.mem.clock, fun s x hx => ?_, fun s s' x x' hx hx' h1 h2 hne => ?_⟩, fun k hk => ⟨(h.N k hk).1, ?_⟩⟩, hle⟩
  · rcases hi with hi | rfl
    · exact h.F i hi
    · exact ⟨hlt.1, .inr hlt.2.1⟩
  · rcases set_turn r _ s x hx with ⟨rfl, rfl⟩ | ⟨e, hx0⟩
    · trivial
    · have ho' := h.mem.ok s x hx0
      refine ho'.le hle (fun _ => rfl) (fun _ => rfl) (fun hh => ?_)
      rintro ((hk | hk) | hk)
      · exact (ho'.lt hh).2.2 (.inl hk)
      · exact h.mem.apart s r x _ hx0 hr hh (show Blk.has E r (.box k cs) from trivial) e hk
      · exact (ho'.lt hh).2.2 (.inr hk)
  · rcases set_turn r _ s x hx with ⟨rfl, rfl⟩ | ⟨e, hx0⟩
    · exact h1.elim
    · rcases set_turn r _ s' x' hx' with ⟨rfl, rfl⟩ | ⟨e', hx0'⟩
      · exact h2.elim
      · refine h.mem.apart s s' x x' hx0 hx0' ?_ ?_ hne
        · cases x <;> exact h1
        · cases x' <;> exact h2
  · rintro (h1 | rfl)
    · exact (h.N k hk).2 h1
    · exact hlt.2.2 (.inr hk)
theorem s_freezeV (t : Nat) {r k : Nat} {cs : List Cell} {ds : List Dat} {m1 : List Blk} {c : Code} (h : ARun P B c ⟨n, (t, .c (.fp ds 0)) :: sl, m1, ck, df⟩ Q) (ht : look sl t = .c (.bp r k 0) := by exact rfl) (hm : mem[r]? = some (.box k cs) := by exact rfl) (hds : dats cs = some ds := by exact rfl) (hm1 : mem.set r .dead = m1 := by exact rfl) : ARun P B c ⟨n, sl, mem, ck, df⟩ Q := by
  subst hm1
  rintro a w ⟨E, ⟨hw, hsz, hdf, hsl⟩, hle⟩
  have e1 : SRep E w (a.tmps.getD t undef) (.c (.bp r k 0)) := by rw [← ht]; exact hsl t
  obtain ⟨o1, o2, o3, cc, ety, o4, o5, o6⟩ := hw.mem.ok r _ hm
  have hf := hw.freezeV r k cs hm
  refine h a w ⟨_, ⟨hf.1, hsz, hdf.le hf.2, slots_put (fun s => (hsl s).le hf.2) ?_⟩, hle.trans hf.2⟩
  have hv : a.tmps.getD t undef = .pointer (some ⟨E.blk r, 0 + 0, none⟩) := by
    generalize a.tmps.getD t undef = q at e1
    cases e1 with | c q => cases q with | bp _ _ _ _ _ _ hh => exact hh o1
  rw [hv]
  have hdl := dats_len hds
  refine .c (.fp ds 0 (E.blk r) 0 (fun j => cc.getD j undef) (.inr rfl) (fun j hj => ?_) (fun j x hx => ?_))
  · rw [cell_of_block o4, Nat.zero_add]
    have : j < cc.size := by omega
    rw [Array.getElem?_eq_getElem this, Array.getD_eq_getD_getElem?, Array.getElem?_eq_getElem this]; rfl
  · have hj := lt_of_getElem? hx
    have : j < cc.size := by omega
    refine (dats_rep (E := E) (w := w) (v := cc.getD j undef) hds (fun y hy => o6 j _ y ?_ hy) hx).le hf.2
    rw [Array.getD_eq_getD_getElem?, Array.getElem?_eq_getElem this]; rfl
theorem fh_cellA {r1 r : SVal} {mem1 m1 : List Blk} {a t rr k : Nat} {i : TI} {cs : List Cell} (hd : defersOk P df) (h : memIn mem m1) (ha : AM (.agg cs) r) (hk : keptL mem mem1 0) (hl : look sl a = .c (.bp rr k 0)) (hmm : mem[rr]? = some (.box k cs)) (ht : T t = some i) (hag : i.desc.agg = true) (hsz : cs.length = i.size) (hr : r1.up id (actV mem) = r) (hm : upL id (actV mem) mem1 0 = m1) : kont P B (finM P T [.cell a t] (fun r m _ => HR m mem1 r r1)) [] .ret ⟨n, sl, mem, ck, df⟩ := by
  refine ⟨hd, ?_⟩
  simp only [resM, resVal, St.get, hl, aLoad, ht, hag, hmm]
  refine ⟨.inl trivial, trivial, by omega, ?_⟩
  rw [List.drop_zero, ← hsz, List.take_length]
  exact hr_mk hm hr h ha hk
end Go.Abs
end
end
section
section
namespace Go.Abs
open Go.RowKit
section
variable {P : Program} {B : Base} {n : Nat} {sl : List (Nat × SVal)} {mem : List Blk} {ck : Nat} {df : List (FuncId × List Cell)} {Q : Ex → St → Prop}
theorem tick_rel {a : Act} {w : World} (h : Rel B ⟨n, sl, mem, ck, df⟩ a w) : Rel B ⟨n, sl, mem, ck + 1, df⟩ a w := by
  obtain ⟨E, ⟨h1, h2, h3, h4⟩, hB⟩ := h
  exact ⟨E, ⟨⟨h1.below, h1.base, h1.F, ⟨fun r => Nat.le_succ_of_le (h1.mem.clock r), h1.mem.ok, h1.mem.apart⟩, h1.N⟩, h2, h3, h4⟩, hB⟩
theorem k_tick {c : Code} (h : ARun P B c ⟨n, sl, mem, ck + 1, df⟩ Q) : ARun P B c ⟨n, sl, mem, ck, df⟩ Q :=
  k_turn (τ := ⟨n, sl, mem, ck + 1, df⟩) rfl (fun _ _ hr => tick_rel hr) h
theorem k_ver (r : Nat) {k : Nat} {ety : TypeId} {esz : Nat} {es : List (List Dat)} {c : Code} (h : k ≤ ck → ARun P B c ⟨n, sl, mem, ck, df⟩ Q) (hm : mem[r]? = some (.arr k ety esz es) := by exact rfl) : ARun P B c ⟨n, sl, mem, ck, df⟩ Q := by
  intro a w hr
  refine h ?_ a w hr
  obtain ⟨E, ⟨h1, _⟩, _⟩ := hr
  have h2 : E.ver r = k := (h1.mem.ok r _ hm).1
  have h3 : E.ver r ≤ ck := h1.mem.clock r
  omega
end
section
variable {P : Program} {T : TypeId → Option TI} {F0 : Nat → Prop} {w0 : World}
variable {dr : Bool} {ops rest : List Oper} {K : St → Prop} {n : Nat} {sl : List (Nat × SVal)} {mem : List Blk} {ck : Nat} {df : List (FuncId × List Cell)} {acc : List Nat}
variable {d : Tmp} {op : Op} {ty : TypeId} {pos : String} {aft : Array Edge} {g : Option (Nat × Bool)}
theorem h_appA [tc : TC P T] (r kn : Nat) {t e : TypeId} {x y : Operand} {i ei : TI} {u : SVal} {ys es es' : List (List Dat)} {k j m : Nat} {mem' : List Blk} (h : Reg P F0 w0 dr ops K rest ⟨n, (d, .c (.arr r kn m)) :: sl, mem', ck, df⟩ (kindL r false :: acc)) (hkn : kn ≤ ck) (hlt : k < kn) (hj : j ≤ es.length) (hl : j + ys.length = m) (hmx : m ≤ maxLen) (hby : m * ei.bytes ≤ 140737488355328) (hsz : ∀ el ∈ ys, el.length = ei.size) (hes : es.take j ++ ys = es') (hm : mem[r]? = some (.arr k e ei.size es) := by exact rfl) (hw : GW ops g sl := by first | exact trivial | exact rfl)
    (hx : evS sl x = .c (.arr r k j) := by exact rfl) (hy : evS sl y = u := by exact (rfl : _ = SVal.c _)) (hs : srcOf u = some ys := by exact rfl) (ht : T t = some i := by exact rfl) (hi : i.desc = .slice e := by exact rfl) (hei : T e = some ei := by exact rfl) (hkk : Nat.beq ei.zero.length ei.size = true := by exact rfl) (hm' : mem.set r (.arr kn e ei.size es') = mem' := by exact rfl) :
    Reg P F0 w0 dr ops K (⟨some d, .call ⟨.builtin .append, #[x, y], #[t, t]⟩, ty, pos, aft, g⟩ :: rest) ⟨n, sl, mem, ck, df⟩ acc := by
  subst hm'; subst hes; subst hl
  refine at4 hw hm hkn (fun M c hM hc => doesM fun E w ρ hw' hρ => ?_) h
  have e1 := hρ x (by simp [Op.operands, Call.operands])
  have e2 := hρ y (by simp [Op.operands, Call.operands])
  rw [hx] at e1; rw [hy] at e2
  have hrep := src_rep e2 hs
  have hv : E.ver r < kn := by have := (hw'.mem.ok r _ hM).1; omega
  have hs1 : CRep E w (ρ x) (.arr r k j) := by
    generalize ρ x = vx at e1
    cases e1 with | c h => exact h
  obtain ⟨v', w', E', q1, q2, q3, q4⟩ := append_own tc.ok (ty := ty) hw' ht hi hei (by simpa using hkk) hsz hrep hM hs1 hj hmx hby hv (Nat.le_refl _) hc
  exact ⟨v', w', E', by simp [execOp, resolve, invoke, builtin, q1], q2, q3, .c q4⟩
end
end Go.Abs
end
end
end
section
section
section
namespace Go.Proofs.YtojfhaoleedmkaaGreat
open Go.Abs Go.RowKit
attribute [local irreducible] ARun kont MCall PCall HCall resVal SF CF CFs defersOk slotsIn memIn fin finM VLe
set_option linter.unusedSimpArgs false
set_option maxRecDepth 100000
set_option maxHeartbeats 4000000
def intsD (l : List Int) : Dat := .sl (l.map fun n => [.lit (.int .i64 n)])
theorem idxI_c (g : FuncId) (p : Int → Bool) (hg : ∀ e : Int, PCall Tryz.prog g [.one (.lit (.int .i64 e))] (.v (.one (.lit (.bool (p e)))))) (b : List Int) :
    ∃ k : Int, (0 ≤ k ↔ b.any p = true) ∧ PCall Tryz.prog 147 [.one (intsD b), .one (.lit (.func (.func g) #[] #[]))] (.v (.one (.lit (.int .i64 k)))) := by
  have key : ∀ K : Int, (∀ i e, b[i]? = some e → p e = true → (b.take i).all (fun e => !p e) = true → K = i) → (b.all (fun e => !p e) = true → K = -1) →
      PCall Tryz.prog 147 [.one (intsD b), .one (.lit (.func (.func g) #[] #[]))] (.v (.one (.lit (.int .i64 K)))) := by
    intro K hK1 hK2
    refine pcallN hT Tryz.func147 Tryz.ntmps147 [.tmp 4] fun B => ?_
    refine k_len 0 rfl fun hlr => ?_
    simp only [List.length_map, maxLen] at hlr
    repeat' (first | refine ks ?_ | refine ko ?_ | refine s_indexD ?_ (hel := (by first | exact rfl)) | refine f_ret1 def_nil ?_ | refine t_tmp ?_)
    refine s_lp (X := Nat) [4, 5, 8, 9, 10, 11, 12, 13, 14, 15, 16, 17, 18] (fun x => x ≤ b.length ∧ (b.take x).all (fun e => !p e) = true) (fun x lz => (8, (.c (.d (.lit (.int .i64 x))))) :: lz) (fun x => []) (fun x => b.length - x) (0) ?_ ?_ ?_ ?_
    repeat' (first | exact slots_nil | refine kw ?_ | exact memIn_nil | omega)
    · exact ⟨by simp, by simp⟩
    rintro i c ⟨hi, hinv⟩
    by_cases hlt : i < b.length
    · have hv : b[i]? = some b[i] := List.getElem?_eq_getElem hlt
      generalize b[i] = e at hv
      have htk : ∀ f : Int → Bool, (b.take (i + 1)).all f = ((b.take i).all f && f e) := fun f => by rw [List.take_add_one, hv, List.all_append]; simp
      have hge := hg e
      have hk1 := hK1 i e hv
      cases hp : p e
      · rw [hp] at hge
        repeat' (first | refine ks ?_ | refine ko ?_ | refine s_indexD ?_ (hel := (by first | exact idx_map hv (by omega) | exact hv | exact rfl)) | refine s_call (hge) ?_ | refine f_ret1 def_nil ?_ | refine t_tmp ?_)
        (apply s_round (i + 1); all_goals (try dsimp only); all_goals (try (repeat' (first | exact slots_nil | refine kw ?_ | exact memIn_nil | omega))))
        exact ⟨by omega, by rw [htk, hinv, hp]; rfl⟩
      · rw [hp] at hge
        rw [hk1 hp hinv]
        repeat' (first | refine ks ?_ | refine ko ?_ | refine s_indexD ?_ (hel := (by first | exact idx_map hv (by omega) | exact hv | exact rfl)) | refine s_call (hge) ?_ | refine f_ret1 def_nil ?_ | refine t_tmp ?_)
        all_goals rfl
    · have hie : i = b.length := by omega
      subst hie
      rw [List.take_length] at hinv
      rw [hK2 hinv]
      repeat' (first | refine ks ?_ | refine ko ?_ | refine s_indexD ?_ (hel := (by first | exact rfl)) | refine f_ret1 def_nil ?_ | refine t_tmp ?_)
      all_goals rfl
  cases hf : b.findIdx? p with
  | none =>
    refine ⟨-1, ?_, key (-1) (fun i e he hp _ => ?_) (fun _ => rfl)⟩
    · have : b.any p = false := by
        rw [List.any_eq_false]
        intro x hx
        have := List.findIdx?_eq_none_iff.1 hf x hx
        simpa using this
      rw [this]; simp
    · have := List.findIdx?_eq_none_iff.1 hf e (List.mem_of_getElem? he)
      rw [hp] at this; cases this
  | some j =>
    obtain ⟨hj, hpj, hlt⟩ := List.findIdx?_eq_some_iff_getElem.1 hf
    refine ⟨j, ?_, key j (fun i e he hp hall => ?_) (fun hall => ?_)⟩
    · have : b.any p = true := List.any_eq_true.2 ⟨_, List.getElem_mem hj, hpj⟩
      rw [this]; simp
    · obtain ⟨hil, hie⟩ := List.getElem?_eq_some_iff.1 he
      rcases Nat.lt_trichotomy i j with h | h | h
      · exact absurd (by rw [hie]; exact hp) (hlt i h)
      · rw [h]
      · have hm : b[j] ∈ b.take i := by
          rw [List.mem_take_iff_getElem]
          exact ⟨j, by omega, rfl⟩
        have := List.all_eq_true.1 hall _ hm
        rw [hpj] at this; cases this
    · have := List.all_eq_true.1 hall _ (List.getElem_mem hj)
      rw [hpj] at this; cases this
theorem containsI_c (g : FuncId) (p : Int → Bool) (hg : ∀ e : Int, PCall Tryz.prog g [.one (.lit (.int .i64 e))] (.v (.one (.lit (.bool (p e)))))) (b : List Int) :
    PCall Tryz.prog 112 [.one (intsD b), .one (.lit (.func (.func g) #[] #[]))] (.v (.one (.lit (.bool (b.any p))))) := by
  obtain ⟨k, hk, hc⟩ := idxI_c g p hg b
  refine pcallN hT Tryz.func112 Tryz.ntmps112 [.tmp 4] fun B => ?_
  repeat' (first | refine ks ?_ | refine ko ?_ | refine s_call (hc) ?_ | refine f_ret1 def_nil ?_ | refine t_tmp ?_)
  refine congrArg Dat.lit (congrArg Value.bool ?_)
  rw [Bool.eq_iff_iff, decide_eq_true_eq]
  exact hk
structure Sta where
  key : List Val
  count : Int
  sums : List Int
  some : List Int
def Sta.d (s : Sta) : List Dat := [rowD s.key, .lit (.int .i64 s.count), intsD s.sums, intsD s.some]
def Sta.x (s : Sta) : List Dat := [rowX s.key, .lit (.int .i64 s.count), intsD s.sums, intsD s.some]
def stsD (l : List Sta) : Dat := .sl (l.map Sta.d)
def Sta.zero (s : Sta) : Bool := decide (s.count = 0) && !(s.sums.any fun n => decide (n ≠ 0)) && !(s.some.any fun n => decide (n ≠ 0))
theorem isOther_c (n : Int) : PCall Tryz.prog 111 [.one (.lit (.int .i64 n))] (.v (.one (.lit (.bool (decide (n ≠ 0)))))) := by
  refine pcallN hT Tryz.func111 Tryz.ntmps111 [.tmp 2] fun B => ?_
  repeat' (first | refine ks ?_ | refine ko ?_ | refine f_ret1 def_nil ?_ | refine t_tmp ?_)
  all_goals (refine congrArg Dat.lit (congrArg Value.bool ?_); by_cases h : n = 0 <;> simp [h])
theorem isZero_c (s : Sta) : PCall Tryz.prog 63 [.agg s.d] (.v (.one (.lit (.bool s.zero)))) := by
  have h1 := containsI_c 111 _ isOther_c s.sums
  have h2 := containsI_c 111 _ isOther_c s.some
  by_cases hc : s.count = 0
  · have e1 : s.zero = (!(s.sums.any fun n => decide (n ≠ 0)) && !(s.some.any fun n => decide (n ≠ 0))) := by unfold Sta.zero; rw [decide_eq_true hc, Bool.true_and]
    cases hs : s.sums.any fun n => decide (n ≠ 0) with
    | true =>
      rw [hs] at h1 e1
      rw [e1]
      refine pcallN hT Tryz.func63 Tryz.ntmps63 [.tmp 2] fun B => ?_
      repeat' (first | refine ks ?_ | refine ko ?_ | refine s_call (h1) ?_ | refine s_kT ?_ | refine s_kF ?_ | refine f_ret1 def_nil ?_ | refine t_tmp ?_)
      all_goals rfl
    | false =>
      rw [hs] at h1 e1
      rw [e1, Bool.not_false, Bool.true_and]
      generalize (s.some.any fun n => decide (n ≠ 0)) = q at h2
      refine pcallN hT Tryz.func63 Tryz.ntmps63 [.tmp 2] fun B => ?_
      repeat' (first | refine ks ?_ | refine ko ?_ | refine s_call (h1) ?_ | refine s_call (h2) ?_ | refine s_kT ?_ | refine s_kF ?_ | refine f_ret1 def_nil ?_ | refine t_tmp ?_)
      all_goals rfl
  · have e1 : s.zero = false := by unfold Sta.zero; rw [decide_eq_false hc, Bool.false_and, Bool.false_and]
    rw [e1]
    refine pcallN hT Tryz.func63 Tryz.ntmps63 [.tmp 2] fun B => ?_
    repeat' (first | refine ks ?_ | refine ko ?_ | refine s_kT ?_ | refine s_kF ?_ | refine f_ret1 def_nil ?_ | refine t_tmp ?_)
    all_goals rfl
def exactE (l : List Agg) : Bool := l.all fun x => decide (x.func = 0 ∨ x.func = 1)
theorem exact_c (l : List Agg) (hl : l.length ≤ 100000) : PCall Tryz.prog 32 [.one (aggD l)] (.v (.one (.lit (.bool (exactE l))))) := by
  refine pcallN hT Tryz.func32 Tryz.ntmps32 [.tmp 2] fun B => ?_
  repeat' (first | refine ks ?_ | refine ko ?_ | refine s_indexD ?_ (hel := (by first | exact rfl)) | refine s_kT ?_ | refine s_kF ?_ | refine f_ret1 def_nil ?_ | refine t_tmp ?_)
  refine s_lp (X := Nat) [2, 4, 7, 8, 9, 10, 11, 12, 13, 14, 15, 16, 17, 18, 19] (fun x => x ≤ l.length ∧ (l.take x).all (fun x => decide (x.func = 0 ∨ x.func = 1)) = true) (fun x lz => (7, (.c (.d (.lit (.int .i64 x))))) :: lz) (fun x => []) (fun x => l.length - x) (0) ?_ ?_ ?_ ?_
  repeat' (first | exact slots_nil | refine kw ?_ | exact memIn_nil | omega)
  · exact ⟨by simp, by simp⟩
  rintro i c ⟨hi, hinv⟩
  by_cases hlt : i < l.length
  · have hv : l[i]? = some l[i] := List.getElem?_eq_getElem hlt
    generalize l[i] = y at hv
    have hv2 : (l.map Agg.d)[i]? = some y.d := by rw [List.getElem?_map, hv]; rfl
    by_cases h0 : y.func = 0
    · repeat' (first | refine ks ?_ | refine ko ?_ | refine s_indexD ?_ (hel := (by first | exact idx_map hv2 (by omega) | exact hv2 | exact rfl)) | refine s_kT ?_ | refine s_kF ?_ | refine f_ret1 def_nil ?_ | refine t_tmp ?_)
      (apply s_round (i + 1); all_goals (try dsimp only); all_goals (try (repeat' (first | exact slots_nil | refine kw ?_ | exact memIn_nil | omega))))
      exact ⟨by omega, take_all (fun x : Agg => decide (x.func = 0 ∨ x.func = 1)) hv hinv (by simp [h0])⟩
    · by_cases h1 : y.func = 1
      · repeat' (first | refine ks ?_ | refine ko ?_ | refine s_indexD ?_ (hel := (by first | exact idx_map hv2 (by omega) | exact hv2 | exact rfl)) | refine s_kT ?_ | refine s_kF ?_ | refine f_ret1 def_nil ?_ | refine t_tmp ?_)
        (apply s_round (i + 1); all_goals (try dsimp only); all_goals (try (repeat' (first | exact slots_nil | refine kw ?_ | exact memIn_nil | omega))))
        exact ⟨by omega, take_all (fun x : Agg => decide (x.func = 0 ∨ x.func = 1)) hv hinv (by simp [h1])⟩
      · rw [exactE, not_all (fun x : Agg => decide (x.func = 0 ∨ x.func = 1)) hv (by simp [h0, h1])]
        repeat' (first | refine ks ?_ | refine ko ?_ | refine s_indexD ?_ (hel := (by first | exact idx_map hv2 (by omega) | exact hv2 | exact rfl)) | refine s_kT ?_ | refine s_kF ?_ | refine f_ret1 def_nil ?_ | refine t_tmp ?_)
        all_goals rfl
  · rw [take_ge (show l.length ≤ i by omega)] at hinv
    rw [exactE, hinv]
    repeat' (first | refine ks ?_ | refine ko ?_ | refine s_indexD ?_ (hel := (by first | exact rfl)) | refine s_kT ?_ | refine s_kF ?_ | refine f_ret1 def_nil ?_ | refine t_tmp ?_)
    all_goals rfl
end Go.Proofs.YtojfhaoleedmkaaGreat
end
section
namespace Go.Proofs.YtojfhaoleedmkaaGreat
open Go.Abs Go.RowKit
attribute [local irreducible] ARun kont MCall PCall HCall resVal SF CF CFs defersOk slotsIn memIn fin finM VLe
set_option linter.unusedSimpArgs false
set_option maxRecDepth 100000
set_option maxHeartbeats 4000000
def suE (es : List Entry) (x : Agg) : Int := if x.func = 1 then sumV (valsE x es) else 0
def coE (es : List Entry) (x : Agg) : Int := if x.func = 1 then cntV (valsE x es) else 0
def nE (es : List Entry) : Int := (es.map Entry.count).sum
def stE (ag : List Agg) (g : List Val × List Entry) : Sta := ⟨g.1, nE g.2, ag.map (suE g.2), ag.map (coE g.2)⟩
theorem nE_snoc {es : List Entry} {i : Nat} {y : Entry} (h : es[i]? = some y) : nE (es.take (i + 1)) = nE (es.take i) + y.count := by unfold nE; rw [take_snoc' h]; simp
theorem nE_bd {es : List Entry} (hl : es.length ≤ 4096) (hc : ∀ e ∈ es, -262144 ≤ e.count ∧ e.count ≤ 262144) (i : Nat) : -1073741824 ≤ nE (es.take i) ∧ nE (es.take i) ≤ 1073741824 := by
  have h1 := sum_bd (f := Entry.count) (M := 262144) (l := es.take i) fun x hx => (by have := hc x (List.mem_of_mem_take hx); omega)
  have h2 : (es.take i).length ≤ 4096 := by simp; omega
  unfold nE; omega
def filE (f : Agg → Int) (ag : List Agg) (k : Nat) : List (List Dat) := ((ag.take k).map fun x => [Dat.lit (.int .i64 (f x))]) ++ List.replicate (ag.length - k) [Dat.lit (.int .i64 0)]
theorem filE_len (f : Agg → Int) {ag : List Agg} {k : Nat} (h : k ≤ ag.length) : (filE f ag k).length = ag.length := by simp [filE]; omega
theorem filE_rep {ag : List Agg} {k : Nat} (h : k < ag.length) : List.replicate (ag.length - k) [Dat.lit (.int .i64 0)] = [Dat.lit (.int .i64 0)] :: List.replicate (ag.length - (k + 1)) [Dat.lit (.int .i64 0)] := by
  rw [show ag.length - k = (ag.length - (k + 1)) + 1 by omega, List.replicate_succ]
theorem filE_get (f : Agg → Int) {ag : List Agg} {k : Nat} (h : k < ag.length) : (filE f ag k)[k]? = some [Dat.lit (.int .i64 0)] := by
  unfold filE
  rw [filE_rep h, List.getElem?_append_right (by simp; omega)]
  simp [Nat.min_eq_left (Nat.le_of_lt h)]
theorem filE_set (f : Agg → Int) {ag : List Agg} {k : Nat} {x : Agg} (h : ag[k]? = some x) : (filE f ag k).set k [Dat.lit (.int .i64 (f x))] = filE f ag (k + 1) := by
  have hk := lt_of_getElem? h
  unfold filE
  rw [filE_rep hk, List.set_append_right _ _ (by simp; omega), take_snoc' h]
  simp [Nat.min_eq_left (Nat.le_of_lt hk)]
theorem filE_same (f : Agg → Int) {ag : List Agg} {k : Nat} {x : Agg} (h : ag[k]? = some x) (hf : f x = 0) : filE f ag k = filE f ag (k + 1) := by
  rw [← filE_set f h, hf]
  refine List.ext_getElem? fun i => ?_
  rw [List.getElem?_set]
  split
  · rename_i q; subst q
    rw [if_pos (by rw [filE_len f (Nat.le_of_lt (lt_of_getElem? h))]; exact lt_of_getElem? h)]
    exact filE_get f (lt_of_getElem? h)
  · rfl
theorem filE_full (f : Agg → Int) (ag : List Agg) : filE f ag ag.length = (ag.map f).map fun n => [Dat.lit (.int .i64 n)] := by simp [filE, Function.comp_def]
theorem filE_zero (f : Agg → Int) (ag : List Agg) : filE f ag 0 = List.replicate ag.length [Dat.lit (.int .i64 0)] := by simp [filE]
theorem state_x (g : List Val × List Entry) (ag : List Agg) (hl : g.2.length ≤ 4096) (hc : ∀ e ∈ g.2, -262144 ≤ e.count ∧ e.count ≤ 262144) (hal : ag.length ≤ 10000) : PCall Tryz.prog 62 [.agg (grD g), .one (aggD ag)] (.v (.agg (stE ag g).x)) := by
  refine pcallN hT Tryz.func62 Tryz.ntmps62 [.cell 4 90] fun B => ?_
  repeat' (first | refine h_loadB1 (dr := true) ?_ | refine h_fieldB (dr := true) ?_ | refine h_storeB (dr := true) ?_ | refine s_allocH 4 ?_ | refine k_hole 2 ?_ | refine k_hole 3 ?_ | refine k_hole 4 ?_ | (refine h_makeH 2 (ei := ti2) (m := ag.length) (z := (ag.length : Int)) (zd := [Dat.lit (.int .i64 0)]) ?_ (by omega) (by omega) (by omega) (by simp only [ti2]; omega) (by exact rfl) (by exact rfl) (by omega)) | (refine h_makeH 3 (ei := ti2) (m := ag.length) (z := (ag.length : Int)) (zd := [Dat.lit (.int .i64 0)]) ?_ (by omega) (by omega) (by omega) (by simp only [ti2]; omega) (by exact rfl) (by exact rfl) (by omega)) | refine ks ?_ | refine ko ?_ | refine s_indexD ?_ (hel := (by first | exact rfl)) | refine f_ret1 def_nil ?_ | refine t_cellG ?_ | exact cfs_nil | refine cfs_cons ?_ ?_ | refine cf_d ?_)
  refine s_lp (X := Nat) [7, 22, 23, 24, 25, 26, 27, 28, 29, 30, 31, 32] (fun x => x ≤ g.2.length) (fun x lz => (22, (.c (.d (.lit (.int .i64 x))))) :: lz) (fun x => [.box 1 [.d (rowX g.1), .d (bagD g.2)], .box 2 [.emp, .d (.lit (.int .i64 0)), .emp, .emp], .arr 3 2 1 (List.replicate ag.length [Dat.lit (.int .i64 0)]), .arr 4 2 1 (List.replicate ag.length [Dat.lit (.int .i64 0)]), .box 5 [.d (rowX g.1), .d (.lit (.int .i64 (nE (g.2.take x)))), .arr 2 3 ag.length, .arr 3 4 ag.length]]) (fun x => g.2.length - x) (0) ?_ ?_ ?_ ?_
  repeat' (first | exact slots_nil | refine kw ?_ | exact memIn_nil | refine kv ?_ ?_ | omega)
  rintro i c hi
  by_cases hlt : i < g.2.length
  · have hv : g.2[i]? = some g.2[i] := List.getElem?_eq_getElem hlt
    generalize g.2[i] = y at hv
    have e1 := nE_snoc hv
    have b1 := nE_bd hl hc i
    have b2 := nE_bd hl hc (i + 1)
    rw [e1] at b2
    repeat' (first | refine ks ?_ | refine ko ?_ | refine s_indexD ?_ (hel := (by first | exact idx_map hv (by omega) | exact hv | exact rfl)) | refine f_ret1 def_nil ?_ | refine t_cellG ?_ | exact cfs_nil | refine cfs_cons ?_ ?_ | refine cf_d ?_)
    (apply s_round (i + 1); all_goals (try dsimp only); all_goals (try (repeat' (first | exact slots_nil | refine kw ?_ | exact memIn_nil | refine kv ?_ ?_ | omega))))
    all_goals (rw [e1])
  · obtain rfl : i = g.2.length := by omega
    rw [take_ge (Nat.le_refl _)]
    repeat' (first | refine ks ?_ | refine ko ?_ | refine s_indexD ?_ (hel := (by first | exact rfl)) | refine f_ret1 def_nil ?_ | refine t_cellG ?_ | exact cfs_nil | refine cfs_cons ?_ ?_ | refine cf_d ?_)
    have z1 := filE_zero (suE g.2) ag
    have z2 := filE_zero (coE g.2) ag
    refine s_lp (X := Nat) [8, 9, 35, 36, 37, 38, 39, 40, 41, 42, 43, 44, 45, 46, 47, 48, 49, 50, 51, 52, 53, 54, 55, 56, 57, 58] (fun x => x ≤ ag.length) (fun x lz => (35, (.c (.d (.lit (.int .i64 x))))) :: lz) (fun x => [.box 1 [.d (rowX g.1), .d (bagD g.2)], .box 2 [.emp, .d (.lit (.int .i64 0)), .emp, .emp], .arr 3 2 1 (filE (suE g.2) ag x), .arr 4 2 1 (filE (coE g.2) ag x), .box 5 [.d (rowX g.1), .d (.lit (.int .i64 (nE g.2))), .arr 2 3 ag.length, .arr 3 4 ag.length]]) (fun x => ag.length - x) (0) ?_ ?_ ?_ ?_
    repeat' (first | exact slots_nil | refine kw ?_ | exact memIn_nil | refine kv ?_ ?_ | omega)
    rintro k c2 hk
    by_cases hkl : k < ag.length
    · have hy : ag[k]? = some ag[k] := List.getElem?_eq_getElem hkl
      generalize ag[k] = y at hy
      have hy2 : (ag.map Agg.d)[k]? = some y.d := by rw [List.getElem?_map, hy]; rfl
      have l1 := filE_len (suE g.2) hk
      have l2 := filE_len (coE g.2) hk
      by_cases hf : y.func = 1
      · have hvc := values_c g y hl
        have hsc := aggSum_c (valsE y g.2) (vals_bnd hl hc)
        have q1 := filE_set (suE g.2) hy
        have q2 := filE_set (coE g.2) hy
        have r1 := filE_get (suE g.2) hkl
        have r2 := filE_get (coE g.2) hkl
        rw [show suE g.2 y = sumV (valsE y g.2) from if_pos hf] at q1
        rw [show coE g.2 y = cntV (valsE y g.2) from if_pos hf] at q2
        generalize filE (suE g.2) ag k = A1 at q1 r1 l1 ⊢
        generalize filE (coE g.2) ag k = A2 at q2 r2 l2 ⊢
        repeat' (first | refine h_loadB1 (dr := true) ?_ | refine h_loadBA (dr := true) ?_ | refine h_fieldB (dr := true) ?_ | refine h_indexA (dr := true) ?_ | refine h_storeA (dr := true) ?_ (hj := (by first | exact r1 | exact r2)) (hes := (by first | exact q1 | exact q2)) | refine ks ?_ | refine ko ?_ | refine s_indexD ?_ (hel := (by first | exact idx_map hy2 (by omega) | exact idx_map r1 (by omega) | exact idx_map r2 (by omega) | exact hy2 | exact r1 | exact r2 | exact rfl)) | refine s_call (hvc) ?_ | refine s_call (hsc) ?_ | refine f_ret1 def_nil ?_ | refine t_cellG ?_ | exact cfs_nil | refine cfs_cons ?_ ?_ | refine cf_d ?_)
        (apply s_round (k + 1); all_goals (try dsimp only); all_goals (try (repeat' (first | exact slots_nil | refine kw ?_ | exact memIn_nil | refine kv ?_ ?_ | omega))))
      · have q1 := filE_same (suE g.2) hy (if_neg hf)
        have q2 := filE_same (coE g.2) hy (if_neg hf)
        rw [q1, q2]
        repeat' (first | refine ks ?_ | refine ko ?_ | refine s_indexD ?_ (hel := (by first | exact idx_map hy2 (by omega) | exact hy2 | exact rfl)) | refine f_ret1 def_nil ?_ | refine t_cellG ?_ | exact cfs_nil | refine cfs_cons ?_ ?_ | refine cf_d ?_)
        (apply s_round (k + 1); all_goals (try dsimp only); all_goals (try (repeat' (first | exact slots_nil | refine kw ?_ | exact memIn_nil | refine kv ?_ ?_ | omega))))
    · obtain rfl : k = ag.length := by omega
      rw [filE_full, filE_full]
      refine s_freezeB 4 2 2 ?_ rfl rfl rfl (by simp) (take_ge (by simp)) rfl
      refine s_freezeB 4 3 3 ?_ rfl rfl rfl (by simp) (take_ge (by simp)) rfl
      repeat' (first | refine ks ?_ | refine ko ?_ | refine s_indexD ?_ (hel := (by first | exact rfl)) | refine f_ret1 def_nil ?_ | refine t_cellG ?_ | exact cfs_nil | refine cfs_cons ?_ ?_ | refine cf_d ?_)
      all_goals rfl
end Go.Proofs.YtojfhaoleedmkaaGreat
end
end
section
section
section
namespace Go.Proofs.YtojfhaoleedmkaaGreat
open Go.Abs Go.RowKit
attribute [local irreducible] ARun kont MCall PCall HCall resVal SF CF CFs defersOk slotsIn memIn fin finM VLe
set_option linter.unusedSimpArgs false
set_option maxRecDepth 100000
set_option maxHeartbeats 4000000
theorem state_c (g : List Val × List Entry) (ag : List Agg) (hl : g.2.length ≤ 4096) (hc : ∀ e ∈ g.2, -262144 ≤ e.count ∧ e.count ≤ 262144) (hal : ag.length ≤ 10000) : PCall Tryz.prog 62 [.agg (grD g), .one (aggD ag)] (.v (.agg (stE ag g).d)) :=
  (state_x g ag hl hc hal).res ⟨rowX_le _, .rfl, .rfl, .rfl, trivial⟩
def nzS (s : Sta) : Bool := !s.zero
def statesE (b : List Entry) (keys : List Itm) (ag : List Agg) : List Sta × Int :=
  if bagValid b = true ∧ keys.length + ag.length ≤ 8 ∧ exactE ag = true then (((grpE b (keyE keys)).map (stE ag)).filter nzS, 0) else ([], 1)
theorem aggStates1_d : DeferOk Tryz.prog 60 0 := by
  refine ⟨⟨_, Tryz.func60, by kernel_rfl, by kernel_rfl⟩, fun vs w hl => ?_⟩
  match vs, hl with
  | [], _ =>
    refine callsD_of_wpS Tryz.func60 rfl fun c₀ cs hu => ?_
    apply wpS_region
    simp [wpOpsS, go_sem, recoverD, hu, Tryz.ntmps60, Exit.thenS]
    cases c₀
    simp_all [bodyPostS, results, Tryz.results60]
theorem states_c (b : List Entry) (keys : List Itm) (ag : List Agg) (hkl : keys.length ≤ 10000) (hal : ag.length ≤ 10000) : PCall Tryz.prog 21 [.one (bagD b), .one (itmD keys), .one (aggD ag)] (.tup [.one (stsD (statesE b keys ag).1), .one (.lit (.int .i64 (statesE b keys ag).2))]) := by
  have hx := exact_c ag (by omega)
  have hv := bagValid_c b
  by_cases hkl2 : keys.length + ag.length ≤ 8
  · by_cases hxa : exactE ag = true
    · rw [hxa] at hx
      by_cases hbv : bagValid b = true
      · rw [hbv] at hv
        have hK : CleanK b (keyE keys) := fun e _ => keyE_clean keys e.row
        obtain ⟨hbl, hbm⟩ := valid_mem hbv
        have he : statesE b keys ag = (((grpE b (keyE keys)).map (stE ag)).filter nzS, 0) := if_pos ⟨hbv, hkl2, hxa⟩
        rw [he]
        have hg := groups_c b keys hbl (by omega)
        have hgl := grpE_len b _ hK
        have hgm : ∀ g ∈ grpE b (keyE keys), g.2.length ≤ 4096 ∧ (∀ e ∈ g.2, -262144 ≤ e.count ∧ e.count ≤ 262144) := fun g hg => by
          obtain ⟨_, h2⟩ := grpE_mem hK hg
          refine ⟨?_, fun e he => ?_⟩
          · have := List.length_filter_le (atK (keyE keys) g.1) b
            rw [h2]; omega
          · rw [h2] at he; exact (hbm e (List.mem_filter.1 he).1).2.1
        clear he
        generalize grpE b (keyE keys) = G at hg hgl hgm
        refine pcallN hT Tryz.func21 Tryz.ntmps21 [.tmp 6, .tmp 7] fun B => ?_
        repeat' (first | refine ks ?_ | refine ko ?_ | refine s_indexD ?_ (hel := (by first | exact rfl)) | refine s_call (hx) ?_ | refine s_call (hv) ?_ | refine s_call (hg) ?_ | refine s_kT ?_ | refine s_kF ?_ | refine f_ret2 (by repeat (first | exact def_nil | refine def_cons aggStates1_d ?_)) ?_ ?_ | refine t_tmp ?_ | refine t_tmpE ?_)
        refine s_own 8 90 4 ?_
        refine s_lp (X := Nat × Nat) [8, 10, 11, 32, 33, 34, 35, 36, 37, 38, 39, 40, 41, 42, 43, 44, 45, 46] (fun x => x.1 ≤ G.length) (fun x lz => (32, (.c (.d (.lit (.int .i64 x.1))))) :: (8, .c (.arr 0 x.2 (((G.take x.1).map (stE ag)).filter nzS).length)) :: lz) (fun x => [.arr x.2 90 4 ((((G.take x.1).map (stE ag)).filter nzS).map Sta.d)]) (fun x => G.length - x.1) ((0, 1)) ?_ ?_ ?_ ?_
        repeat' (first | exact slots_nil | refine kw ?_ | refine kv ?_ ?_ | exact memIn_nil | omega)
        rintro ⟨i, v⟩ c0 hi
        dsimp only at hi ⊢
        by_cases hlt : i < G.length
        · have hg1 : G[i]? = some G[i] := List.getElem?_eq_getElem hlt
          have hgi := hgm _ (List.getElem_mem hlt)
          generalize G[i] = g at hg1 hgi
          have hg2 : (G.map grD)[i]? = some (grD g) := by rw [List.getElem?_map, hg1]; rfl
          have hsc := state_c g ag hgi.1 hgi.2 hal
          have hz := isZero_c (stE ag g)
          have hsn : ((G.take (i + 1)).map (stE ag)).filter nzS = ((G.take i).map (stE ag)).filter nzS ++ if nzS (stE ag g) = true then [stE ag g] else [] := by
            rw [take_snoc' hg1, List.map_append, List.filter_append]
            congr 1
            rw [List.map_singleton, List.filter_cons]; rfl
          have hAl : (((G.take i).map (stE ag)).filter nzS).length ≤ i := Nat.le_trans (List.length_filter_le _ _) (by simp; omega)
          generalize ((G.take i).map (stE ag)).filter nzS = A at hsn hAl ⊢
          cases hq : (stE ag g).zero with
          | true =>
            rw [hq] at hz
            rw [show nzS (stE ag g) = false by unfold nzS; rw [hq]; rfl, if_neg (by decide), List.append_nil] at hsn
            rw [← hsn]
            repeat' (first | refine ks ?_ | refine ko ?_ | refine s_indexD ?_ (hel := (by first | exact idx_map hg2 (by omega) | exact hg2 | exact rfl)) | refine s_call (hsc) ?_ | refine s_call (hz) ?_ | refine s_kT ?_ | refine s_kF ?_ | refine f_ret2 def_nil ?_ ?_ | refine t_tmp ?_ | refine t_tmpE ?_)
            (apply s_round ((i + 1, v)); all_goals (try dsimp only); all_goals (try (repeat' (first | exact slots_nil | refine kw ?_ | refine kv ?_ ?_ | exact memIn_nil | omega))))
          | false =>
            rw [hq] at hz
            rw [show nzS (stE ag g) = true by unfold nzS; rw [hq]; rfl, if_pos rfl] at hsn
            have hl2 : (A ++ [stE ag g]).length = A.length + 1 := by simp
            have hm2 : (A ++ [stE ag g]).map Sta.d = A.map Sta.d ++ [(stE ag g).d] := by simp
            repeat' (first | refine ks ?_ | refine ko ?_ | refine s_indexD ?_ (hel := (by first | exact idx_map hg2 (by omega) | exact hg2 | exact rfl)) | refine s_call (hsc) ?_ | refine s_call (hz) ?_ | refine s_kT ?_ | refine s_kF ?_ | refine f_ret2 def_nil ?_ ?_ | refine t_tmp ?_ | refine t_tmpE ?_)
            (apply s_round ((i + 1, c0 + 3)); all_goals (try dsimp only); all_goals (try (repeat' (first | exact slots_nil | refine kw ?_ | refine kv ?_ ?_ | exact memIn_nil | omega))))
            all_goals rw [hsn]
            all_goals first
              | (rw [hm2]; rfl)
              | (rw [hl2]; rfl)
        · obtain rfl : i = G.length := by omega
          rw [take_ge (Nat.le_refl _)]
          generalize (G.map (stE ag)).filter nzS = A
          refine s_freeze (r := 0) (m := A.length) (es := A.map Sta.d) 8 ?_
          repeat' (first | refine ks ?_ | refine ko ?_ | refine s_indexD ?_ (hel := (by first | exact rfl)) | refine s_kT ?_ | refine s_kF ?_ | refine f_ret2 (by repeat (first | exact def_nil | refine def_cons aggStates1_d ?_)) ?_ ?_ | refine t_tmp ?_ | refine t_tmpE ?_)
          all_goals rfl
      · have he : statesE b keys ag = ([], 1) := if_neg fun h => hbv h.1
        rw [he]
        rw [show bagValid b = false by simpa using hbv] at hv
        refine pcallN hT Tryz.func21 Tryz.ntmps21 [.tmp 6, .tmp 7] fun B => ?_
        repeat' (first | refine ks ?_ | refine ko ?_ | refine s_indexD ?_ (hel := (by first | exact rfl)) | refine s_call (hx) ?_ | refine s_call (hv) ?_ | refine s_kT ?_ | refine s_kF ?_ | refine f_ret2 (by repeat (first | exact def_nil | refine def_cons aggStates1_d ?_)) ?_ ?_ | refine t_tmp ?_ | refine t_tmpE ?_)
        all_goals rfl
    · have he : statesE b keys ag = ([], 1) := if_neg fun h => hxa h.2.2
      rw [he]
      rw [show exactE ag = false by simpa using hxa] at hx
      refine pcallN hT Tryz.func21 Tryz.ntmps21 [.tmp 6, .tmp 7] fun B => ?_
      repeat' (first | refine ks ?_ | refine ko ?_ | refine s_indexD ?_ (hel := (by first | exact rfl)) | refine s_call (hx) ?_ | refine s_call (hv) ?_ | refine s_kT ?_ | refine s_kF ?_ | refine f_ret2 (by repeat (first | exact def_nil | refine def_cons aggStates1_d ?_)) ?_ ?_ | refine t_tmp ?_ | refine t_tmpE ?_)
      all_goals rfl
  · have he : statesE b keys ag = ([], 1) := if_neg fun h => hkl2 h.2.1
    rw [he]
    refine pcallN hT Tryz.func21 Tryz.ntmps21 [.tmp 6, .tmp 7] fun B => ?_
    repeat' (first | refine ks ?_ | refine ko ?_ | refine s_indexD ?_ (hel := (by first | exact rfl)) | refine s_call (hx) ?_ | refine s_call (hv) ?_ | refine s_kT ?_ | refine s_kF ?_ | refine f_ret2 (by repeat (first | exact def_nil | refine def_cons aggStates1_d ?_)) ?_ ?_ | refine t_tmp ?_ | refine t_tmpE ?_)
    all_goals rfl
end Go.Proofs.YtojfhaoleedmkaaGreat
end
section
namespace Go.Proofs.YtojfhaoleedmkaaGreat
open Go.Abs Go.RowKit
attribute [local irreducible] ARun kont MCall PCall HCall resVal SF CF CFs defersOk slotsIn memIn fin finM VLe
set_option linter.unusedSimpArgs false
set_option maxRecDepth 100000
set_option maxHeartbeats 4000000
def litsE (l : List Int) : List (List Dat) := l.map fun n => [.lit (.int .i64 n)]
theorem clone64_h (l : List Int) (hl : l.length ≤ 100000) : HCall Tryz.prog 152 [.c (.d (intsD l))] [] (.c (.arr 0 1 l.length)) [.arr 1 2 1 (litsE l)] := by
  by_cases hne : l = []
  · subst hne
    refine hcallN hT Tryz.func152 Tryz.ntmps152 [.tmp 2] fun B => ?_
    repeat' (first | ((with_reducible (refine is_retC ?_)); refine s_own 2 2 1 ?_) | refine ks ?_ | refine ko ?_ | refine s_if rfl (fun hb => ?_) (fun hb => ?_) | refine s_eqNil (fun b hnil => ?_) | refine fh_ret1 def_nil ?_ ?_ | exact memIn_nil | refine memIn_same ?_ | exact am_same)
    all_goals first
      | (simp; done)
      | rfl
  · have hpos : 0 < l.length := List.length_pos_iff.2 hne
    refine hcallN hT Tryz.func152 Tryz.ntmps152 [.tmp 2] fun B => ?_
    repeat' (first | refine ks ?_ | refine ko ?_ | refine s_if rfl (fun hb => ?_) (fun hb => ?_) | refine s_eqNil (fun b hnil => ?_) | refine fh_ret1 def_nil ?_ ?_ | exact memIn_nil | refine memIn_same ?_ | exact am_same)
    all_goals first
      | (exfalso; exact hne (by simpa using hnil hb))
      | (simp; done)
      | rfl
theorem cloneS_h (s : Sta) (hk : s.key.length ≤ 1000000) (h1 : s.sums.length ≤ 100000) (h2 : s.some.length ≤ 100000) : HCall Tryz.prog 121 [.agg (s.d.map .d)] [] (.agg [.d (rowD s.key), .d (.lit (.int .i64 s.count)), .arr 2 1 s.sums.length, .arr 3 1 s.some.length]) [.dead, .dead, .arr 1 2 1 (litsE s.sums), .arr 1 2 1 (litsE s.some)] := by
  have hc := clone_c s.key hk
  have c1 := clone64_h s.sums h1
  have c2 := clone64_h s.some h2
  refine hcallN hT Tryz.func121 Tryz.ntmps121 [.cell 2 90] fun B => ?_
  repeat' (first | refine s_freezeV 1 ?_ | refine ks ?_ | refine ko ?_ | refine s_call (hc) ?_ | refine s_callH [] (c1) ?_ | refine s_callH [] (c2) ?_ | exact memIn_nil | refine memIn_same ?_ | refine memIn_dead ?_ | exact am_same)
  refine fh_cellA (m1 := [.dead, .dead, .arr (0 + 1 + 1 + 1) 2 1 (litsE s.sums), .arr (0 + 1 + 1 + 1 + 1) 2 1 (litsE s.some)]) def_nil ?_ am_same (by repeat' (first | exact trivial | refine And.intro rfl ?_ | refine And.intro trivial ?_)) rfl rfl rfl rfl rfl rfl rfl
  repeat' (first | exact memIn_nil | refine memIn_same ?_ | refine memIn_dead ?_ | omega)
end Go.Proofs.YtojfhaoleedmkaaGreat
end
end
section
section
namespace Go.Proofs.YtojfhaoleedmkaaGreat
open Go.Abs Go.RowKit
set_option linter.unusedSimpArgs false
set_option maxRecDepth 100000
theorem bytes_inj {a b : ByteArray} (h : a.toList = b.toList) : a = b := by
  rw [ByteArray.toList_eq, ByteArray.toList_eq] at h
  cases a; cases b
  simp only at h
  congr
  exact Array.toList_inj.1 h
theorem sv_iff {a b : Val} : sameVal a b = true ↔ a = b := by
  refine ⟨fun h => ?_, fun h => by rw [h]; exact sameVal_refl _⟩
  simp only [sameVal, Bool.and_eq_true, beq_iff_eq] at h
  obtain ⟨h1, h2, h3⟩ := h
  have := bytes_inj h3
  cases a; cases b; simp_all
theorem sr_iff : ∀ {r s : List Val}, sameRow r s = true ↔ r = s
  | [], [] => by simp [sameRow]
  | a :: x, b :: y => by simp [sameRow, sv_iff, sr_iff (r := x) (s := y)]
  | [], _ :: _ => by simp [sameRow]
  | _ :: _, [] => by simp [sameRow]
end Go.Proofs.YtojfhaoleedmkaaGreat
end
section
namespace Go.Proofs.YtojfhaoleedmkaaGreat
open Go.Abs Go.RowKit
set_option linter.unusedSimpArgs false
set_option maxRecDepth 100000
def w64 (z : Int) : Int := IntKind.i64.wrap z
def plusS (s t : Sta) : Sta := ⟨s.key, w64 (s.count + t.count), List.zipWith (fun x y => w64 (x + y)) s.sums t.sums, List.zipWith (fun x y => w64 (x + y)) s.some t.some⟩
def mergeS : List Sta → List Sta → List Sta
  | [], d => d
  | g, [] => g
  | x :: g, y :: d => if rowCmp x.key y.key < 0 then x :: mergeS g (y :: d) else if 0 < rowCmp x.key y.key then y :: mergeS (x :: g) d else plusS x y :: mergeS g d
termination_by g d => g.length + d.length
theorem mergeS_nil (a : List Sta) : mergeS a [] = a := by cases a <;> simp [mergeS]
theorem mergeS_nil' (b : List Sta) : mergeS [] b = b := by simp [mergeS]
def sR (x y : Sta) : Prop := rowCmp x.key y.key < 0
def clS (l : List Sta) : Prop := ∀ s ∈ l, rowClean s.key
def atR (kf : List Val → List Val) (k : List Val) (f : List Val → Int) (r : List Val) : Int := if rowCmp (kf r) k = 0 then f r else 0
def suR (x : Agg) (r : List Val) : Int := if x.func = 1 then (if (evE x.expr r).kind = 1 then (evE x.expr r).int else 0) else 0
def coR (x : Agg) (r : List Val) : Int := if x.func = 1 then (if (evE x.expr r).kind = 1 then 1 else 0) else 0
def stT (ag : List Agg) (kf : List Val → List Val) (b : List Entry) (k : List Val) : Sta :=
  ⟨k, wS (atR kf k fun _ => 1) b, ag.map fun x => wS (atR kf k (suR x)) b, ag.map fun x => wS (atR kf k (coR x)) b⟩
def stsE (ag : List Agg) (kf : List Val → List Val) (b : List Entry) : List Sta := ((keysE b kf).map (stT ag kf b)).filter nzS
def sml (n : Int) : Prop := -4611686018427387904 ≤ n ∧ n ≤ 4611686018427387903
def SmlS (s : Sta) : Prop := sml s.count ∧ (∀ n ∈ s.sums, sml n) ∧ ∀ n ∈ s.some, sml n
end Go.Proofs.YtojfhaoleedmkaaGreat
end
end
end
end
