/-
  A make that fills a hole, in a region of open order.
-/
import Derived.Test.YtojfhaoleedmkaaGreatHoa
import Derived.Test.YtojfhaoleedmkaaGreatDex
section
namespace Go.Abs
open Go.RowKit
variable {P : Program} {T : TypeId → Option TI} {F0 : Nat → Prop} {w0 : World}
variable {dr : Bool} {ops rest : List Oper} {K : St → Prop} {n : Nat} {sl : List (Nat × SVal)} {mem : List Blk} {ck : Nat} {df : List (FuncId × List Cell)} {acc : List Nat}
variable {d : Tmp} {op : Op} {ty : TypeId} {pos : String} {aft : Array Edge} {g : Option (Nat × Bool)}
theorem h_makeH [tc : TC P T] (r : Nat) {t e : TypeId} {l c : Operand} {i ei : TI} {k k' : IntKind} {z : Int} {m kk : Nat} {zd : List Dat} {mem' : List Blk}
    (h : Reg P F0 w0 dr ops K rest ⟨n, (d, .c (.arr r kk m)) :: sl, mem', ck, df⟩ (kindL r false :: acc)) (h0 : 0 ≤ z) (hm : z.toNat = m) (hmx : z ≤ 9223372036854775807) (hby : (ei.bytes : Int) * z ≤ 140737488355328) (hzd : dats (ei.zero.map valCell) = some zd) (hh : mem[r]? = some (.hole kk)) (hle : kk ≤ ck) (hw : GW ops g sl := by first | exact trivial | exact rfl)
    (hl : evS sl l = .c (.d (.lit (.int k z))) := by exact rfl) (hc : evS sl c = .c (.d (.lit (.int k' z))) := by exact rfl) (ht : T t = some i := by exact rfl) (hi : i.desc = .slice e := by exact rfl) (hei : T e = some ei := by exact rfl) (hk : (Nat.blt 0 ei.size && Nat.beq ei.zero.length ei.size) = true := by exact rfl) (hm' : mem.set r (.arr kk e ei.size (List.replicate m zd)) = mem' := by exact rfl) :
    Reg P F0 w0 dr ops K (⟨some d, .makeSlice t l c, ty, pos, aft, g⟩ :: rest) ⟨n, sl, mem, ck, df⟩ acc := by
  subst hm; subst hm'
  refine at4 hw hh hle (fun M ck hM hcc => doesM fun E w ρ hw' hρ => ?_) h
  have e1 := hρ l (by simp [Op.operands])
  have e2 := hρ c (by simp [Op.operands])
  rw [hl] at e1; rw [hc] at e2
  have e1 := e1.lit_inv
  have e2 := e2.lit_inv
  simp only [Bool.and_eq_true, Nat.beq_eq, Nat.ble_eq, Nat.blt, Nat.succ_le_iff] at hk
  have hu : P.underlying t = some (.slice e) := by have := (tc.ok t i ht).desc; rw [hi] at this; exact this
  obtain ⟨fi, zv, hi1, hi2, hi3, hi4, hi5⟩ := (tc.ok e ei hei).info
  have hr := run_make (P := P) w t e fi zv hu hi1 hi4 k k' z z h0 (Int.le_refl _) (by rw [hi3]; omega) hmx
  rw [hi2] at hr
  have hzlen := dats_len hzd
  have hzs : zv.cells.size = ei.size := by rw [hi5]; simpa using hk.2
  have hn := hw'.holeArr (w' := w.alloc (.cells (madeCells zv.cells (z.toNat * ei.size)) e)) hM hcc e ei.size z.toNat (List.replicate z.toNat zd) hk.1 (fun e' he' => by rw [List.eq_of_mem_replicate he', hzlen]; simpa using hk.2) (by simp) (by simp [maxLen]; omega)
    ((Bel.refl _ w).alloc hw'.le0 _) (fun i hi => Bel.heap_alloc w _ i hi) (.inr ⟨_, Go.heap_alloc_new w _, by simp [size_madeCells], fun v hv => (tc.ok e ei hei).ones v (by have := mem_madeCells (by omega) hv; rw [hi5] at this; simpa using this), fun i j e' v x q1 q2 q3 => by
      have hi := lt_of_getElem? q1
      simp only [List.length_replicate] at hi
      rw [List.getElem?_replicate, if_pos hi] at q1
      simp only [Option.some.injEq] at q1
      subst q1
      have hj := lt_of_getElem? q2
      rw [hzlen] at hj
      simp only [List.length_map, hk.2] at hj
      have hlt : i * ei.size + j < z.toNat * ei.size := by
        have : (i + 1) * ei.size ≤ z.toNat * ei.size := Nat.mul_le_mul_right _ (by omega)
        rw [Nat.add_mul, Nat.one_mul] at this
        omega
      have hmod : (i * ei.size + j) % ei.size = j := by rw [Nat.mul_comm, Nat.mul_add_mod, Nat.mod_eq_of_lt hj]
      have hget : (madeCells zv.cells (z.toNat * ei.size))[i * ei.size + j]? = zv.cells[j]? := by
        unfold madeCells
        rw [Array.getElem?_map]
        have hjs : j < zv.cells.size := by rw [hzs]; exact hj
        simp only [Array.getElem?_range, hlt, if_true, Option.map_some, hzs, hmod]
        rw [getElem!_pos zv.cells j hjs, Array.getElem?_eq_getElem hjs]
      rw [hget, hi5] at q3
      exact dats_rep (E := E) (v := v) hzd (fun y hy => zero_rep (tc.ok e ei hei) j v y q3 hy) q2⟩)
  refine ⟨.slice (some ⟨w.heap.size, 0, none⟩) z.toNat z.toNat, _, _, by simp [execOp, e1, e2, hr], hn.2, hn.1, .c (.arr r kk z.toNat _ rfl (by simp [Env.upd]) (fun _ => ?_))⟩
  rcases Nat.eq_zero_or_pos z.toNat with hm0 | hm0
  · exact .inl ⟨by simp [Env.upd, hm0], hm0, some ⟨w.heap.size, 0, none⟩, by rw [hm0]⟩
  · exact .inr ⟨by simp [Env.upd]; omega, by simp [Env.upd]⟩
theorem h_storeA [tc : TC P T] {t : TypeId} {x y : Operand} {i : TI} {r k esz j o : Nat} {ety : TypeId} {es es' : List (List Dat)} {e e' : List Dat} {v : SVal} {cs : List Cell} {ds : List Dat} {mem' : List Blk} (h : Reg P F0 w0 dr ops K rest ⟨n, sl, mem', ck, df⟩ (kindL r false :: acc)) (hw : GW ops g sl := by first | exact trivial | exact rfl) (hx : evS sl x = .c (.ap r k esz j o) := by exact rfl) (hy : evS sl y = v := by first | exact (rfl : _ = SVal.c _) | exact (rfl : _ = SVal.agg _) | exact rfl) (hc : v.cells = some cs := by exact rfl) (hds : dats cs = some ds := by exact rfl) (ht : T t = some i := by exact rfl) (hl : cs.length = i.size := by exact rfl) (hm : mem[r]? = some (.arr k ety esz es) := by exact rfl) (hs : decide (o + i.size ≤ esz) = true := by exact rfl) (hj : es[j]? = some e) (he' : e.take o ++ ds ++ e.drop (o + i.size) = e' := by exact rfl) (hes : es.set j e' = es' := by exact rfl) (hm' : mem.set r (.arr k ety esz es') = mem' := by exact rfl) : Reg P F0 w0 dr ops K (⟨none, .store t x y, ty, pos, aft, g⟩ :: rest) ⟨n, sl, mem, ck, df⟩ acc := by
  subst hm'; subst hes; subst he'
  exact at4n (v := .junk) hw hm (fun M c hM => Does.of tc.ok fun τ he hmm hck Kk hK => by
    subst hmm; subst hck
    have ex := he x (by simp [Op.operands])
    have ey := he y (by simp [Op.operands])
    rw [hx] at ex
    rw [hy] at ey
    simp only [astep, aStore, ht, ex, ey, hc, hM, hds]
    exact ⟨hl, trivial, trivial, by simpa using hs, there_intro hj (hK _ _ _ _ ⟨rfl, rfl, rfl, rfl⟩)⟩) h
theorem h_indexA [tc : TC P T] {t e : TypeId} {x y : Operand} {i ei : TI} {kk : IntKind} {z : Int} {r k m esz j : Nat} {ety : TypeId} {es : List (List Dat)}  (h : Reg P F0 w0 dr ops K rest ⟨n, (d, .c (.ap r k esz j 0)) :: sl, mem, ck, df⟩ (kindL r true :: acc)) (hw : GW ops g sl := by first | exact trivial | exact rfl) (hx : evS sl x = .c (.arr r k m) := by exact rfl) (hy : evS sl y = .c (.d (.lit (.int kk z))) := by exact rfl) (ht : T t = some i := by exact rfl) (hi : i.desc = .slice e := by exact rfl) (he' : T e = some ei := by exact rfl) (hm : mem[r]? = some (.arr k ety esz es) := by exact rfl) (hsz : esz = ei.size := by exact rfl) (hz : 0 ≤ z := by omega) (hzm : z < (m : Int) := by omega) (hml : m ≤ es.length := by first | omega | exact Nat.le_refl _ | (simp only [List.length_map, List.length_take, List.length_append, List.length_cons, List.length_nil, List.length_set, List.length_drop, List.length_replicate]; omega)) (hj : z.toNat = j := by first | exact Int.toNat_natCast _ | exact rfl) : Reg P F0 w0 dr ops K (⟨some d, .indexAddr t x y, ty, pos, aft, g⟩ :: rest) ⟨n, sl, mem, ck, df⟩ acc :=
  at4r hw hm (fun mem ck hm => Does.of tc.ok fun τ he hmm hc Kk hK => by
    subst hmm; subst hc; subst hj
    have ex := he x (by simp [Op.operands])
    have ey := he y (by simp [Op.operands])
    rw [hx] at ex
    rw [hy] at ey
    obtain ⟨a1, a2, a3, a4, a5⟩ := i
    simp only at hi
    subst hi
    simp only [astep, aIndex, ht, he', ex, ey, hm]
    exact ⟨hz, hzm, trivial, hsz, hml, hK _ _ _ _ ⟨rfl, rfl, rfl, rfl⟩⟩) h
variable {B : Base} {Q : Ex → St → Prop}
theorem s_freezeB (s o r : Nat) {k0 k m : Nat} {ety : TypeId} {esz : Nat} {es es1 : List (List Dat)} {cs : List Cell} {m1 : List Blk} {c : Code} (h : ARun P B c ⟨n, sl, m1, ck, df⟩ Q) (hs : mem[s]? = some (.box k0 cs)) (ho : cs[o]? = some (.arr r k m)) (hm : mem[r]? = some (.arr k ety esz es)) (hl : m ≤ es.length) (hes : es.take m = es1) (hm1 : (mem.set r .dead).set s (.box k0 (cs.set o (.d (.sl es1)))) = m1) : ARun P B c ⟨n, sl, mem, ck, df⟩ Q := by
  subst hes; subst hm1
  rintro a w ⟨E, ⟨hw, hsz', hdf, hsl⟩, hle⟩
  have hf := hw.freeze r k ety esz es hm
  have hsr : s ≠ r := by
    rintro rfl
    rw [hs] at hm; cases hm
  have hs' : (mem.set r .dead)[s]? = some (.box k0 cs) := by rw [List.getElem?_set_ne (Ne.symm hsr)]; exact hs
  obtain ⟨p1, p2, p3, cc, ety', p4, p5, p6⟩ := hf.1.mem.ok s _ hs'
  obtain ⟨q1, q2, q3, cd, ety'', q4, q5, q6⟩ := hw.mem.ok s _ hs
  have hcc : cd = cc := by
    have p4' : w.heap[E.blk s]? = some (.cells cc ety' (0, 0)) := p4
    rw [q4] at p4'
    simp only [Option.some.injEq, Obj.cells.injEq] at p4'
    exact p4'.1
  subst hcc
  refine h a w ⟨_, ⟨hf.1.swap s _ _ hs' (fun q => q) ⟨p1, p2, p3, cd, ety', p4, by simpa using p5, fun j v x hj hx => ?_⟩, hsz', hdf.le hf.2, fun s => (hsl s).le hf.2⟩, hle.trans hf.2⟩
  by_cases hjo : j = o
  · subst hjo
    rw [List.getElem?_set_self (lt_of_getElem? ho)] at hx
    simp only [Option.some.injEq] at hx
    subst hx
    exact .d (arr_dat (F := fun i => E.F i ∨ (i = E.blk r ∧ E.cap r ≠ 0)) hw hm hl (q6 j v _ hj ho) (fun b hb => .inl hb) (fun hz => .inr ⟨rfl, hz⟩))
  · rw [List.getElem?_set_ne (Ne.symm hjo)] at hx
    exact p6 j v x hj hx
theorem WOk.freezeV {E : Env} {w : World} (h : WOk F0 w0 E w mem ck) (r k : Nat) (cs : List Cell) (hr : mem[r]? = some (.box k cs)) :
    let E' : Env := { E with F := fun i => E.F i ∨ i = E.blk r }
    WOk F0 w0 E' w (mem.set r .dead) ck ∧ EnvLe E w E' w := by
  intro E'
  have ho := h.mem.ok r _ hr
  have hle : EnvLe E w E' w := ⟨fun _ hk => .inl hk, fun k hk => rfl, fun _ => Nat.le_refl _, fun _ _ => ⟨rfl, rfl⟩, fun _ hk => ⟨hk, rfl⟩⟩
  have hlt := ho.lt (show Blk.has E r (.box k cs) from trivial)
  refine ⟨⟨h.below, fun k hk => .inl (h.base k hk), fun i hi => ?_, ⟨h.mem.clock, fun s x hx => ?_, fun s s' x x' hx hx' h1 h2 hne => ?_⟩, fun k hk => ⟨(h.N k hk).1, ?_⟩⟩, hle⟩
  · rcases hi with hi | rfl
    · exact h.F i hi
    · exact ⟨hlt.1, .inr hlt.2.1⟩
  · rcases set_turn r _ s x hx with ⟨rfl, rfl⟩ | ⟨e, hx0⟩
    · trivial
    · have ho' := h.mem.ok s x hx0
      refine ho'.le hle (fun _ => rfl) (fun _ => rfl) (fun hh => ?_)
      rintro ((hk | hk) | hk)
      · exact (ho'.lt hh).2.2 (.inl hk)
      · exact h.mem.apart s r x _ hx0 hr hh (show Blk.has E r (.box k cs) from trivial) e hk
      · exact (ho'.lt hh).2.2 (.inr hk)
  · rcases set_turn r _ s x hx with ⟨rfl, rfl⟩ | ⟨e, hx0⟩
    · exact h1.elim
    · rcases set_turn r _ s' x' hx' with ⟨rfl, rfl⟩ | ⟨e', hx0'⟩
      · exact h2.elim
      · refine h.mem.apart s s' x x' hx0 hx0' ?_ ?_ hne
        · cases x <;> exact h1
        · cases x' <;> exact h2
  · rintro (h1 | rfl)
    · exact (h.N k hk).2 h1
    · exact hlt.2.2 (.inr hk)
theorem s_freezeV (t : Nat) {r k : Nat} {cs : List Cell} {ds : List Dat} {m1 : List Blk} {c : Code} (h : ARun P B c ⟨n, (t, .c (.fp ds 0)) :: sl, m1, ck, df⟩ Q) (ht : look sl t = .c (.bp r k 0) := by exact rfl) (hm : mem[r]? = some (.box k cs) := by exact rfl) (hds : dats cs = some ds := by exact rfl) (hm1 : mem.set r .dead = m1 := by exact rfl) : ARun P B c ⟨n, sl, mem, ck, df⟩ Q := by
  subst hm1
  rintro a w ⟨E, ⟨hw, hsz, hdf, hsl⟩, hle⟩
  have e1 : SRep E w (a.tmps.getD t undef) (.c (.bp r k 0)) := by rw [← ht]; exact hsl t
  obtain ⟨o1, o2, o3, cc, ety, o4, o5, o6⟩ := hw.mem.ok r _ hm
  have hf := hw.freezeV r k cs hm
  refine h a w ⟨_, ⟨hf.1, hsz, hdf.le hf.2, slots_put (fun s => (hsl s).le hf.2) ?_⟩, hle.trans hf.2⟩
  have hv : a.tmps.getD t undef = .pointer (some ⟨E.blk r, 0 + 0, none⟩) := by
    generalize a.tmps.getD t undef = q at e1
    cases e1 with | c q => cases q with | bp _ _ _ _ _ _ hh => exact hh o1
  rw [hv]
  have hdl := dats_len hds
  refine .c (.fp ds 0 (E.blk r) 0 (fun j => cc.getD j undef) (.inr rfl) (fun j hj => ?_) (fun j x hx => ?_))
  · rw [cell_of_block o4, Nat.zero_add]
    have : j < cc.size := by omega
    rw [Array.getElem?_eq_getElem this, Array.getD_eq_getD_getElem?, Array.getElem?_eq_getElem this]; rfl
  · have hj := lt_of_getElem? hx
    have : j < cc.size := by omega
    refine (dats_rep (E := E) (w := w) (v := cc.getD j undef) hds (fun y hy => o6 j _ y ?_ hy) hx).le hf.2
    rw [Array.getD_eq_getD_getElem?, Array.getElem?_eq_getElem this]; rfl
theorem fh_cellA {r1 r : SVal} {mem1 m1 : List Blk} {a t rr k : Nat} {i : TI} {cs : List Cell} (hd : defersOk P df) (h : memIn mem m1) (ha : AM (.agg cs) r) (hk : keptL mem mem1 0) (hl : look sl a = .c (.bp rr k 0)) (hmm : mem[rr]? = some (.box k cs)) (ht : T t = some i) (hag : i.desc.agg = true) (hsz : cs.length = i.size) (hr : r1.up id (actV mem) = r) (hm : upL id (actV mem) mem1 0 = m1) : kont P B (finM P T [.cell a t] (fun r m _ => HR m mem1 r r1)) [] .ret ⟨n, sl, mem, ck, df⟩ := by
  refine ⟨hd, ?_⟩
  simp only [resM, resVal, St.get, hl, aLoad, ht, hag, hmm]
  refine ⟨.inl trivial, trivial, by omega, ?_⟩
  rw [List.drop_zero, ← hsz, List.take_length]
  exact hr_mk hm hr h ha hk
end Go.Abs
end
