/-
  Arrays of the call's own whose place and capacity are known: slices of them are literal values, and several slices of one array can be held at once.
-/
import Derived.Test.YtmejclckkmpggaaByt
import Derived.Lib.Overlaps
import Derived.Lib.AppendZerosOnto
section
namespace Go.Abs
open Go.RowKit
section
variable {P : Program} {T : TypeId → Option TI} {F0 : Nat → Prop} {w0 w : World} {E : Env} {mem : List Blk} {ck : Nat}

/-- One entry is seen in another way. -/
theorem WOk.swap (h : WOk F0 w0 E w mem ck) (r : Nat) (ob nb : Blk) (hr : mem[r]? = some ob) (hhn : nb.has E r → ob.has E r) (hnew : BlkOk w0.heap.size E w r nb) : WOk F0 w0 E w (mem.set r nb) ck := by
  refine ⟨h.below, h.base, h.F, ⟨h.mem.clock, fun s x hx => ?_, fun s s' x x' hx hx' h1 h2 hne => ?_⟩, h.N⟩
  · rcases set_turn r _ s x hx with ⟨rfl, rfl⟩ | ⟨e, hx0⟩
    · exact hnew
    · exact h.mem.ok s x hx0
  · rcases set_turn r _ s x hx with ⟨rfl, rfl⟩ | ⟨e, hx0⟩
    · rcases set_turn s _ s' x' hx' with ⟨rfl, rfl⟩ | ⟨e', hx0'⟩
      · exact absurd rfl hne
      · exact h.mem.apart s s' ob x' hr hx0' (hhn h1) h2 hne
    · rcases set_turn r _ s' x' hx' with ⟨rfl, rfl⟩ | ⟨e', hx0'⟩
      · exact h.mem.apart s s' x ob hx0 hr h1 (hhn h2) hne
      · exact h.mem.apart s s' x x' hx0 hx0' h1 h2 hne

theorem set_here {α : Type} {l : List α} {r : Nat} {x y : α} (h : l[r]? = some x) : (l.set r y)[r]? = some y := List.getElem?_set_self (lt_of_getElem? h)

theorem WOk.toArr (h : WOk F0 w0 E w mem ck) {r k b c : Nat} {ety : TypeId} {esz : Nat} {es : List (List Dat)} (hr : mem[r]? = some (.arrc k ety esz es b c)) : WOk F0 w0 E w (mem.set r (.arr k ety esz es)) ck :=
  h.swap r _ _ hr (fun q => q) (h.mem.ok r _ hr).1

theorem WOk.toArrc (h : WOk F0 w0 E w mem ck) {r k : Nat} {ety : TypeId} {esz : Nat} {es : List (List Dat)} (hr : mem[r]? = some (.arr k ety esz es)) : WOk F0 w0 E w (mem.set r (.arrc k ety esz es (E.blk r) (E.cap r))) ck :=
  h.swap r _ _ hr (fun q => q) ⟨h.mem.ok r _ hr, rfl, rfl⟩

/-- A pinned array's slice from its begin, seen as the array's own handle. -/
theorem WOk.handle (h : WOk F0 w0 E w mem ck) {r k b c m : Nat} {ety : TypeId} {esz : Nat} {es : List (List Dat)} (hr : mem[r]? = some (.arrc k ety esz es b c)) (hc : 0 < c) : CRep E w (.slice (some ⟨b, 0, none⟩) m c) (.arr r k m) := by
  obtain ⟨h1, h2, h3⟩ := h.mem.ok r _ hr
  refine .arr r k m _ rfl (by rw [h1.1]; exact Nat.le_refl _) fun _ => .inr ⟨by omega, ?_⟩
  rw [h2, h3]

/-- What a pinned array's block holds. -/
theorem WOk.cells (h : WOk F0 w0 E w mem ck) {r k b c : Nat} {ety : TypeId} {esz : Nat} {es : List (List Dat)} (hr : mem[r]? = some (.arrc k ety esz es b c)) (hc : 0 < c) :
    E.ver r = k ∧ 0 < esz ∧ (∀ e ∈ es, e.length = esz) ∧ es.length ≤ c ∧ c ≤ maxLen ∧ w0.heap.size ≤ b ∧ ¬ (E.F b ∨ E.N b) ∧ E.blk r = b ∧ E.cap r = c ∧
      ∃ cur, w.heap[b]? = some (.cells cur ety (0, 0)) ∧ cur.size = c * esz ∧ (∀ v ∈ cur, v.oneCell' = true) ∧ Flat (DRep E.F w) esz es cur.toList := by
  obtain ⟨⟨h1, h2, h3, h4, h5, h6⟩, h7, h8⟩ := h.mem.ok r _ hr
  rcases h6 with h6 | ⟨g1, g2, cur, g3, g4, g5, g6⟩
  · omega
  · refine ⟨h1, h2, h3, by omega, by omega, by rw [← h8]; exact g1, by rw [← h8]; exact g2, h8, h7, cur, by rw [← h8]; exact g3, by rw [g4, h7], g5, fun i j e v x q1 q2 q3 => g6 i j e v x q1 q2 (by simpa using q3)⟩

theorem Flat.splice {D : Value → Dat → Prop} {esz o : Nat} {es ys : List (List Dat)} {cur news : List Value} (h1 : Flat D esz es cur) (h2 : Flat D esz ys news) (hes : ∀ e ∈ es, e.length = esz) (hys : ∀ e ∈ ys, e.length = esz)
    (hnl : news.length = ys.length * esz) (ho : o ≤ es.length) (hfit : o * esz + news.length ≤ cur.length) :
    Flat D esz (es.take o ++ ys ++ es.drop (o + ys.length)) (cur.take (o * esz) ++ news ++ cur.drop (o * esz + news.length)) := by
  intro i j e v x q1 q2 q3
  rw [getElem?_splice hfit] at q3
  have hjlt : ∀ {e' : List Dat}, e'.length = esz → e'[j]? = some x → j < esz := fun he hx => by have := lt_of_getElem? hx; omega
  rw [List.getElem?_append, List.getElem?_append] at q1
  have l1 : (es.take o).length = o := by simp; omega
  have l2 : (es.take o ++ ys).length = o + ys.length := by simp; omega
  rw [l1, l2] at q1
  split at q1
  · rename_i hi2
    split at q1
    · rename_i hi
      rw [List.getElem?_take, if_pos hi] at q1
      have hj := hjlt (hes e (List.mem_of_getElem? q1)) q2
      have hm : (i + 1) * esz ≤ o * esz := Nat.mul_le_mul_right _ hi
      rw [Nat.add_mul, Nat.one_mul] at hm
      rw [if_pos (by omega)] at q3
      exact h1 i j e v x q1 q2 q3
    · rename_i hi
      have hj := hjlt (hys e (List.mem_of_getElem? q1)) q2
      have hm : (i - o + 1) * esz ≤ ys.length * esz := Nat.mul_le_mul_right _ (by omega)
      have hm2 : i * esz = (i - o) * esz + o * esz := by rw [← Nat.add_mul]; congr 1; omega
      rw [Nat.add_mul, Nat.one_mul] at hm
      rw [if_neg (by omega), if_pos (by omega)] at q3
      exact h2 (i - o) j e v x q1 q2 (by rw [show (i - o) * esz + j = i * esz + j - o * esz by omega]; exact q3)
  · rename_i hi
    rw [List.getElem?_drop] at q1
    have e1 : o + ys.length + (i - (o + ys.length)) = i := by omega
    rw [e1] at q1
    have hm : (o + ys.length) * esz ≤ i * esz := Nat.mul_le_mul_right _ (by omega)
    rw [Nat.add_mul] at hm
    rw [if_neg (by omega), if_neg (by omega)] at q3
    exact h1 i j e v x q1 q2 q3

/-- Elements are written over a pinned array, at a place. -/
theorem WOk.writeAt (h : WOk F0 w0 E w mem ck) {r k b c o : Nat} {ety : TypeId} {esz : Nat} {es ys : List (List Dat)} (hr : mem[r]? = some (.arrc k ety esz es b c)) (hc : 0 < c) {cur : Array Value} (hcur : w.heap[b]? = some (.cells cur ety (0, 0)))
    {news : List Value} (hnl : news.length = ys.length * esz) (hys : ∀ e ∈ ys, e.length = esz) (hn1 : ∀ v ∈ news, v.oneCell' = true) (hfl : Flat (DRep E.F w) esz ys news) (ho : o ≤ es.length) (hoc : o + ys.length ≤ c) :
    WOk F0 w0 E (w.setRow b (cur.toList.take (o * esz) ++ news ++ cur.toList.drop (o * esz + news.length)).toArray) (mem.set r (.arrc k ety esz (es.take o ++ ys ++ es.drop (o + ys.length)) b c)) ck ∧
      EnvLe E w E (w.setRow b (cur.toList.take (o * esz) ++ news ++ cur.toList.drop (o * esz + news.length)).toArray) := by
  obtain ⟨h1, h2, h3, h4, h5, h6, h7, h8, h9, cur', g1, g2, g3, g4⟩ := h.cells hr hc
  rw [hcur] at g1
  simp only [Option.some.injEq, Obj.cells.injEq] at g1
  obtain ⟨rfl, _, _⟩ := g1
  have hfit : o * esz + news.length ≤ cur.toList.length := by
    rw [hnl, ← Nat.add_mul, show cur.toList.length = c * esz by rw [Array.length_toList, g2]]; exact Nat.mul_le_mul_right _ hoc
  refine h.poke r _ _ hr (show E.cap r ≠ 0 by omega) (fun q => q) (below_setRow w _ _ h6) (fun i hi => setRow_other w _ i _ (by rw [← h8]; exact hi)) fun hle => ?_
  refine ⟨⟨h1, h2, fun e he => ?_, ?_, by rw [h9]; exact h5, .inr ⟨by rw [h8]; exact h6, by rw [h8]; exact h7, _, by rw [h8]; exact setRow_heap w _ cur _ ety _ hcur, ?_, fun v hv => ?_, fun i j e v x q1 q2 q3 => ?_⟩⟩, h9, h8⟩
  · rcases List.mem_append.1 he with he | he
    · rcases List.mem_append.1 he with he | he
      · exact h3 e (List.mem_of_mem_take he)
      · exact hys e he
    · exact h3 e (List.mem_of_mem_drop he)
  · rw [h9]; simp; omega
  · have := length_splice (l := cur.toList) (m := news) (o := o * esz) hfit
    rw [List.size_toArray, this, h9, Array.length_toList, g2]
  · exact ones_splice g3 hn1 (by simpa using hv)
  · exact (Flat.splice g4 hfl h3 hys hnl ho hfit i j e v x q1 q2 (by simpa using q3)).le hle

/-- Elements of a pinned array, as cells. -/
theorem Flat.window {D : Value → Dat → Prop} {esz o m : Nat} {es : List (List Dat)} {cur : List Value} (h : Flat D esz es cur) (hes : ∀ e ∈ es, e.length = esz) : Flat D esz ((es.drop o).take m) ((cur.drop (o * esz)).take (m * esz)) := by
  intro i j e v x q1 q2 q3
  rw [List.getElem?_take] at q1 q3
  split at q1
  · split at q3
    · rw [List.getElem?_drop] at q1 q3
      exact h (o + i) j e v x q1 q2 (by rw [← q3]; congr 1; rw [Nat.add_mul]; omega)
    · cases q3
  · cases q1

/-- The source of a copy: cells somewhere. -/
structure From (E : Env) (w : World) (esz : Nat) (u : Value) (m : Nat) (ys : List (List Dat)) (news : List Value) : Prop where
  src : ∃ a n c, u = .slice (some a) n c ∧ m ≤ n ∧ ∀ j v, news[j]? = some v → w.cell? (a.add j) = some v
  len : news.length = ys.length * esz
  m : ys.length = m
  sz : ∀ e ∈ ys, e.length = esz
  one : ∀ v ∈ news, v.oneCell' = true
  fl : Flat (DRep E.F w) esz ys news

theorem From.data {v : Value} {ys : List (List Dat)} (h : DRep E.F w v (.sl ys)) {esz : Nat} (hy : ∀ e ∈ ys, e.length = esz) (hne : ys ≠ []) : ∃ news, From E w esz v ys.length ys news ∧ ∃ a c, v = .slice (some a) ys.length c := by
  obtain ⟨b, off, cap, news, rfl, h1, h2, h3, h4⟩ := h.flat hy hne
  exact ⟨news, ⟨⟨_, _, _, rfl, Nat.le_refl _, h2⟩, h1, rfl, hy, h3, h4⟩, _, _, rfl⟩

theorem WOk.fromOwn (h : WOk F0 w0 E w mem ck) {r k b c i m n c' : Nat} {ety : TypeId} {esz : Nat} {es : List (List Dat)} (hr : mem[r]? = some (.arrc k ety esz es b c)) (hc : 0 < c) (hi : i + m ≤ es.length) (hmn : m ≤ n) :
    ∃ news, From E w esz (.slice (some ⟨b, i * esz, none⟩) n c') m ((es.drop i).take m) news := by
  obtain ⟨h1, h2, h3, h4, h5, h6, h7, h8, h9, cur, g1, g2, g3, g4⟩ := h.cells hr hc
  have hcl : (i + m) * esz ≤ cur.toList.length := by rw [Array.length_toList, g2]; exact Nat.mul_le_mul_right _ (by omega)
  rw [Nat.add_mul] at hcl
  refine ⟨(cur.toList.drop (i * esz)).take (m * esz), ⟨⟨_, _, _, rfl, hmn, fun j v hv => ?_⟩, ?_, by simp; omega, fun e he => h3 e (List.mem_of_mem_drop (List.mem_of_mem_take he)), fun v hv => g3 v (by simpa using List.mem_of_mem_drop (List.mem_of_mem_take hv)), g4.window h3⟩⟩
  · rw [Addr.add_lit, cell_of_block g1]
    rw [List.getElem?_take] at hv
    split at hv
    · rw [List.getElem?_drop] at hv; simpa using hv
    · cases hv
  · rw [length_window _ _ _ hcl, List.length_take, List.length_drop, Nat.min_eq_left (by omega)]

theorem WOk.fromOwn0 (h : WOk F0 w0 E w mem ck) {r k b c i m n off c' : Nat} {ety : TypeId} {esz : Nat} {es : List (List Dat)} (hr : mem[r]? = some (.arrc k ety esz es b c)) (hc : 0 < c) (hi : i + m ≤ es.length) (hmn : m ≤ n) (ho : m = 0 ∨ off = i * esz) :
    ∃ news, From E w esz (.slice (some ⟨b, off, none⟩) n c') m ((es.drop i).take m) news := by
  rcases ho with rfl | rfl
  · exact ⟨[], ⟨⟨_, _, _, rfl, by omega, fun j v hv => by simp at hv⟩, by simp, by simp, by simp, by simp, fun i j e v x q1 _ _ => by simp at q1⟩⟩
  · exact h.fromOwn hr hc hi hmn

/-- A copy onto a pinned array. -/
theorem WOk.copy (h : WOk F0 w0 E w mem ck) (hT : TypesOk P T) {t t' e ty : TypeId} {i ei : TI} (ht : T t = some i) (hi : i.desc = .slice e) (hei : T e = some ei) {r k b c o m dl dc : Nat} {ety : TypeId} {es ys : List (List Dat)} (hr : mem[r]? = some (.arrc k ety ei.size es b c)) (hc : 0 < c)
    {u : Value} {news : List Value} (hf : From E w ei.size u m ys news) (hm : ∀ a n c, u = .slice (some a) n c → m = Nat.min n dl) (ho : o ≤ es.length) (hoc : o + m ≤ c) :
    ∃ w', (Builtin.copy_ #[t, t'] ty #[.slice (some ⟨b, o * ei.size, none⟩) dl dc, u]).run P w = .ok (.int .i64 m) w' ∧ EnvLe E w E w' ∧ WOk F0 w0 E w' (mem.set r (.arrc k ety ei.size (es.take o ++ ys ++ es.drop (o + m)) b c)) ck := by
  obtain ⟨h1, h2, h3, h4, h5, h6, h7, h8, h9, cur, g1, g2, g3, g4⟩ := h.cells hr hc
  obtain ⟨⟨a, n, c', rfl, hmn, hsrc⟩, f2, rfl, f4, f5, f6⟩ := hf
  obtain ⟨fi, z, hi1, hi2, hi3, hi4, hi5⟩ := (hT e ei hei).info
  have hu : P.underlying t = some (.slice e) := by have := (hT t i ht).desc; rw [hi] at this; exact this
  have hwr := h.writeAt hr hc g1 f2 f4 f5 f6 ho hoc
  have hfit : o * ei.size + news.length ≤ cur.size := by rw [f2, ← Nat.add_mul, g2]; exact Nat.mul_le_mul_right _ hoc
  refine ⟨_, ?_, hwr.2, hwr.1⟩
  have hst := run_storeCells_at P b (o * ei.size) ety news 0 cur w g1 (by simpa using hfit) f5
  change _ = Result.ok (goInt ys.length) _
  simp [Builtin.copy_, run_underlying hu, Builtin.lenOf, Builtin.firstCells, sizeOf, typeInfo, hi1, hi2, ← hm a n c' rfl, ← f2, run_loadCells_list (P := P) w a news hsrc, hst]
end

theorem bndS_inv {E : Env} {w : World} {d : Nat} {sl : List (Nat × SVal)} {ρ : Operand → Value} {lo : Option Operand} {l : Int} (h : bndS sl d lo = some l) (hρ : ∀ x, lo = some x → SRep E w (ρ x) (evS sl x)) :
    (lo = none ∧ l = d) ∨ ∃ x k, lo = some x ∧ ρ x = .int k l := by
  cases lo with
  | none => simp [bndS] at h; exact .inl ⟨rfl, h.symm⟩
  | some x =>
    simp only [bndS] at h
    have hx := hρ x rfl
    split at h
    · rename_i q
      rw [q] at hx
      simp only [Option.some.injEq] at h
      subst h
      exact .inr ⟨x, _, rfl, hx.lit_inv⟩
    · cases h

section
variable {P : Program} {T : TypeId → Option TI} {F0 : Nat → Prop} {w0 : World}
variable {dr : Bool} {ops rest : List Oper} {K : St → Prop} {n : Nat} {sl : List (Nat × SVal)} {mem : List Blk} {ck : Nat} {df : List (FuncId × List Cell)} {acc : List Nat}
variable {d : Tmp} {op : Op} {ty : TypeId} {pos : String} {aft : Array Edge} {g : Option (Nat × Bool)}

theorem s_capL [tc : TC P T] {t e : TypeId} {i : TI} {x : Operand} {a : Option Addr} {m c : Nat}
    (h : Reg P F0 w0 dr ops K rest ⟨n, (d, .c (.d (.lit (.int .i64 c)))) :: sl, mem, ck, df⟩ (0 :: acc)) (hw : GW ops g sl := by first | exact trivial | exact rfl) (hx : evS sl x = .c (.d (.lit (.slice a m c))) := by exact rfl) (ht : T t = some i := by exact rfl) (hi : i.desc = .slice e := by exact rfl) :
    Reg P F0 w0 dr ops K (⟨some d, .call ⟨.builtin .cap, #[x], #[t]⟩, ty, pos, aft, g⟩ :: rest) ⟨n, sl, mem, ck, df⟩ acc :=
  at0 hw (does0 fun E w ρ hρ => by
    have e1 := hρ x (by simp [Op.operands, Call.operands])
    rw [hx] at e1
    have e1 := e1.lit_inv
    have hu : P.underlying t = some (.slice e) := by have := (tc.ok t i ht).desc; rw [hi] at this; exact this
    refine ⟨.int .i64 c, ?_, .c (.d (.lit _ rfl))⟩
    simp [execOp, resolve, invoke, builtin, e1, Builtin.cap_, run_underlying hu, goInt]) h

theorem s_lenL [tc : TC P T] {t e : TypeId} {i : TI} {x : Operand} {a : Option Addr} {m c : Nat}
    (h : Reg P F0 w0 dr ops K rest ⟨n, (d, .c (.d (.lit (.int .i64 m)))) :: sl, mem, ck, df⟩ (0 :: acc)) (hw : GW ops g sl := by first | exact trivial | exact rfl) (hx : evS sl x = .c (.d (.lit (.slice a m c))) := by exact rfl) (ht : T t = some i := by exact rfl) (hi : i.desc = .slice e := by exact rfl) :
    Reg P F0 w0 dr ops K (⟨some d, .call ⟨.builtin .len, #[x], #[t]⟩, ty, pos, aft, g⟩ :: rest) ⟨n, sl, mem, ck, df⟩ acc :=
  at0 hw (does0 fun E w ρ hρ => by
    have e1 := hρ x (by simp [Op.operands, Call.operands])
    rw [hx] at e1
    have e1 := e1.lit_inv
    have hu : P.underlying t = some (.slice e) := by have := (tc.ok t i ht).desc; rw [hi] at this; exact this
    refine ⟨.int .i64 m, ?_, .c (.d (.lit _ rfl))⟩
    simp [execOp, resolve, invoke, builtin, e1, Builtin.len_, run_underlying hu, goInt]) h

/-- A slice of a literal slice. -/
theorem s_sliceL [tc : TC P T] {t e : TypeId} {i ei : TI} {x : Operand} {lo hi : Option Operand} {a b : Int} {bl off off' m c m' c' : Nat}
    (h : Reg P F0 w0 dr ops K rest ⟨n, (d, .c (.d (.lit (.slice (some ⟨bl, off', none⟩) m' c')))) :: sl, mem, ck, df⟩ (0 :: acc)) (ha : 0 ≤ a) (hab : a ≤ b) (hb : b ≤ (c : Int)) (ho : off' = if c = a.toNat then off else off + a.toNat * ei.size) (hm' : m' = b.toNat - a.toNat) (hc' : c' = c - a.toNat) (hw : GW ops g sl := by first | exact trivial | exact rfl) (hx : evS sl x = .c (.d (.lit (.slice (some ⟨bl, off, none⟩) m c))) := by exact rfl) (ht : T t = some i := by exact rfl) (hi' : i.desc = .slice e := by exact rfl) (hei : T e = some ei := by exact rfl)
    (hlo : bndS sl 0 lo = some a := by exact rfl) (hhi : bndS sl m hi = some b := by exact rfl) :
    Reg P F0 w0 dr ops K (⟨some d, .slice t x lo hi none, ty, pos, aft, g⟩ :: rest) ⟨n, sl, mem, ck, df⟩ acc :=
  at0 hw (does0 fun E w ρ hρ => by
    subst hm'; subst hc'; subst ho
    have e1 := hρ x (by simp [Op.operands])
    rw [hx] at e1
    have e1 := e1.lit_inv
    have hu : P.underlying t = some (.slice e) := by have := (tc.ok t i ht).desc; rw [hi'] at this; exact this
    have hsz := (tc.ok e ei hei).sizeOf (w := w)
    have hbd : (Instr.sliceBounds true m c (lo.map ρ) (hi.map ρ) none).run P w = .ok (a.toNat, b.toNat, c) w := by
      rcases bndS_inv (ρ := ρ) (E := E) (w := w) hhi (fun y hy => hρ y (by subst hy; simp [Op.operands])) with ⟨rfl, rfl⟩ | ⟨y, k, rfl, hy⟩
      · rcases bndS_inv (ρ := ρ) (E := E) (w := w) hlo (fun y hy => hρ y (by subst hy; simp [Op.operands])) with ⟨rfl, rfl⟩ | ⟨y, k', rfl, hy⟩
        · simp [Instr.sliceBounds]
        · have : (0 : Int) ≤ a ∧ a ≤ (m : Int) := ⟨ha, hab⟩
          simp [Instr.sliceBounds, Instr.sliceBound, hy, asIntOf, this]
      · have hcc : (0 : Int) ≤ b ∧ b ≤ (c : Int) := ⟨by omega, hb⟩
        rcases bndS_inv (ρ := ρ) (E := E) (w := w) hlo (fun y hy => hρ y (by subst hy; simp [Op.operands])) with ⟨rfl, rfl⟩ | ⟨z, k', rfl, hz⟩
        · simp [Instr.sliceBounds, Instr.sliceBound, hy, asIntOf, hcc]
        · have : (0 : Int) ≤ a ∧ a ≤ (b.toNat : Int) := ⟨ha, by omega⟩
          simp only [Int.ofNat_toNat] at this
          have hm : max b 0 = b := by omega
          rw [hm] at this
          simp [Instr.sliceBounds, Instr.sliceBound, hy, hz, asIntOf, hcc, this, hm]
    refine ⟨_, ?_, .c (.d (.lit _ rfl))⟩
    have : (Instr.sliceAt t (ρ x) (lo.map ρ) (hi.map ρ) none).run P w = .ok (.slice (some ⟨bl, if c = a.toNat then off else off + a.toNat * ei.size, none⟩) (b.toNat - a.toNat) (c - a.toNat)) w := by
      rw [e1]
      simp only [Instr.sliceAt, Instr.slice, Sem.run_bind, run_underlying hu, Result.andThen_ok, hbd, hsz]
      split <;> simp_all [Addr.add_lit]
    simp [execOp, this]) h

/-- The same, with a bound of the capacity. -/
theorem s_sliceM [tc : TC P T] {t e : TypeId} {i ei : TI} {x y z mx : Operand} {a b q : Int} {bl off off' m c m' c' : Nat}
    (h : Reg P F0 w0 dr ops K rest ⟨n, (d, .c (.d (.lit (.slice (some ⟨bl, off', none⟩) m' c')))) :: sl, mem, ck, df⟩ (0 :: acc)) (ha : 0 ≤ a) (hab : a ≤ b) (hb : b ≤ q) (hqc : q ≤ (c : Int)) (ho : off' = if q.toNat = a.toNat then off else off + a.toNat * ei.size) (hm' : m' = b.toNat - a.toNat) (hc' : c' = q.toNat - a.toNat) (hw : GW ops g sl := by first | exact trivial | exact rfl) (hx : evS sl x = .c (.d (.lit (.slice (some ⟨bl, off, none⟩) m c))) := by exact rfl) (ht : T t = some i := by exact rfl) (hi' : i.desc = .slice e := by exact rfl) (hei : T e = some ei := by exact rfl)
    (hlo : bndS sl 0 (some y) = some a := by exact rfl) (hhi : bndS sl m (some z) = some b := by exact rfl) (hmx : bndS sl c (some mx) = some q := by exact rfl) :
    Reg P F0 w0 dr ops K (⟨some d, .slice t x (some y) (some z) (some mx), ty, pos, aft, g⟩ :: rest) ⟨n, sl, mem, ck, df⟩ acc :=
  at0 hw (does0 fun E w ρ hρ => by
    subst hm'; subst hc'; subst ho
    have e1 := hρ x (by simp [Op.operands])
    rw [hx] at e1
    have e1 := e1.lit_inv
    have hu : P.underlying t = some (.slice e) := by have := (tc.ok t i ht).desc; rw [hi'] at this; exact this
    have hsz := (tc.ok e ei hei).sizeOf (w := w)
    have hbd : (Instr.sliceBounds true m c (some (ρ y)) (some (ρ z)) (some (ρ mx))).run P w = .ok (a.toNat, b.toNat, q.toNat) w := by
      rcases bndS_inv (ρ := ρ) (E := E) (w := w) hlo (fun u hu => hρ u (by cases hu; simp [Op.operands])) with ⟨q1, _⟩ | ⟨_, k1, q1, hy⟩
      · cases q1
      cases q1
      rcases bndS_inv (ρ := ρ) (E := E) (w := w) hhi (fun u hu => hρ u (by cases hu; simp [Op.operands])) with ⟨q1, _⟩ | ⟨_, k2, q1, hz⟩
      · cases q1
      cases q1
      rcases bndS_inv (ρ := ρ) (E := E) (w := w) hmx (fun u hu => hρ u (by cases hu; simp [Op.operands])) with ⟨q1, _⟩ | ⟨_, k3, q1, hm⟩
      · cases q1
      cases q1
      obtain ⟨a', rfl⟩ := Int.eq_ofNat_of_zero_le ha
      obtain ⟨b', rfl⟩ := Int.eq_ofNat_of_zero_le (show 0 ≤ b by omega)
      obtain ⟨q', rfl⟩ := Int.eq_ofNat_of_zero_le (show 0 ≤ q by omega)
      have g1 : (0 : Int) ≤ (q' : Int) ∧ (q' : Int) ≤ (c : Int) := ⟨by omega, hqc⟩
      have g2 : (0 : Int) ≤ (b' : Int) ∧ (b' : Int) ≤ (q' : Int) := ⟨by omega, hb⟩
      have g3 : (0 : Int) ≤ (a' : Int) ∧ (a' : Int) ≤ (b' : Int) := ⟨by omega, hab⟩
      simp [Instr.sliceBounds, Instr.sliceBound, hy, hz, hm, asIntOf, g1.2, Int.ofNat_le.1 g2.2, Int.ofNat_le.1 g3.2]
    refine ⟨_, ?_, .c (.d (.lit _ rfl))⟩
    have : (Instr.sliceAt t (ρ x) (some (ρ y)) (some (ρ z)) (some (ρ mx))).run P w = .ok (.slice (some ⟨bl, if q.toNat = a.toNat then off else off + a.toNat * ei.size, none⟩) (b.toNat - a.toNat) (q.toNat - a.toNat)) w := by
      rw [e1]
      simp only [Instr.sliceAt, Instr.slice, Sem.run_bind, run_underlying hu, Result.andThen_ok, hbd, hsz]
      split <;> simp_all [Addr.add_lit]
    simp [execOp, this]) h

/-- Copy data onto a pinned array. -/
theorem s_copyD [tc : TC P T] {t t' e ety : TypeId} {i ei : TI} {x y : Operand} {r k b c o off dl dc : Nat} {es es' ys : List (List Dat)} {mem' : List Blk}
    (h : Reg P F0 w0 dr ops K rest ⟨n, (d, .c (.d (.lit (.int .i64 ys.length)))) :: sl, mem', ck, df⟩ (2 :: acc)) (hm : mem[r]? = some (.arrc k ety ei.size es b c)) (hne : ys ≠ []) (hdl : ys.length ≤ dl) (ho : o ≤ es.length) (hoc : o + ys.length ≤ c) (hys : ∀ z ∈ ys, z.length = ei.size) (hoff : off = o * ei.size) (hes : es.take o ++ ys ++ es.drop (o + ys.length) = es') (hw : GW ops g sl := by first | exact trivial | exact rfl)
    (hx : evS sl x = .c (.d (.lit (.slice (some ⟨b, off, none⟩) dl dc))) := by exact rfl) (hy : evS sl y = .c (.d (.sl ys)) := by exact rfl) (ht : T t = some i := by exact rfl) (hi : i.desc = .slice e := by exact rfl) (hei : T e = some ei := by exact rfl) (hm' : mem.set r (.arrc k ety ei.size es' b c) = mem' := by repeat' (first | exact nfNil rfl | apply nfCons rfl)) :
    Reg P F0 w0 dr ops K (⟨some d, .call ⟨.builtin .copy, #[x, y], #[t, t']⟩, ty, pos, aft, g⟩ :: rest) ⟨n, sl, mem, ck, df⟩ acc := by
  subst hm'; subst hes; subst hoff
  refine at2 (df' := []) hw (doesM fun E w ρ hw' hρ => ?_) h
  have e1 := hρ x (by simp [Op.operands, Call.operands])
  have e2 := hρ y (by simp [Op.operands, Call.operands])
  rw [hx] at e1; rw [hy] at e2
  have e1 := e1.lit_inv
  have hyp : 0 < ys.length := by cases ys with | nil => exact absurd rfl hne | cons _ _ => simp
  obtain ⟨news, hf, a, c', ha⟩ := From.data e2.d_inv hys hne
  obtain ⟨w', q1, q2, q3⟩ := hw'.copy tc.ok ht hi hei (t' := t') (ty := ty) (dl := dl) (dc := dc) hm (by omega) hf (fun a' n' c'' hq => by
    rw [ha] at hq; injection hq with _ q2 _; subst q2; exact (Nat.min_eq_left hdl).symm) ho hoc
  exact ⟨_, w', E, by simp [execOp, resolve, invoke, builtin, e1, q1], q2, q3, .c (.d (.lit _ rfl))⟩

/-- Copy from a pinned array onto one, perhaps the same. -/
theorem s_copyL [tc : TC P T] {t t' e ety ety2 : TypeId} {i ei : TI} {x y : Operand} {r k b c o off dl dc r2 k2 b2 c2 o2 off2 sn sc m : Nat} {es es' es2 : List (List Dat)} {mem' : List Blk}
    (h : Reg P F0 w0 dr ops K rest ⟨n, (d, .c (.d (.lit (.int .i64 m)))) :: sl, mem', ck, df⟩ (2 :: acc)) (hm : mem[r]? = some (.arrc k ety ei.size es b c)) (hm2 : mem[r2]? = some (.arrc k2 ety2 ei.size es2 b2 c2)) (hmin : m = Nat.min sn dl) (ho : o ≤ es.length) (hoc : o + m ≤ c) (hc2 : 0 < c2) (hc : 0 < c) (ho2 : o2 + m ≤ es2.length) (hoff : off = o * ei.size) (hoff2 : off2 = o2 * ei.size) (hes : es.take o ++ (es2.drop o2).take m ++ es.drop (o + m) = es') (hw : GW ops g sl := by first | exact trivial | exact rfl)
    (hx : evS sl x = .c (.d (.lit (.slice (some ⟨b, off, none⟩) dl dc))) := by exact rfl) (hy : evS sl y = .c (.d (.lit (.slice (some ⟨b2, off2, none⟩) sn sc))) := by exact rfl) (ht : T t = some i := by exact rfl) (hi : i.desc = .slice e := by exact rfl) (hei : T e = some ei := by exact rfl) (hm' : mem.set r (.arrc k ety ei.size es' b c) = mem' := by repeat' (first | exact nfNil rfl | apply nfCons rfl)) :
    Reg P F0 w0 dr ops K (⟨some d, .call ⟨.builtin .copy, #[x, y], #[t, t']⟩, ty, pos, aft, g⟩ :: rest) ⟨n, sl, mem, ck, df⟩ acc := by
  subst hm'; subst hes; subst hoff; subst hoff2
  refine at2 (df' := []) hw (doesM fun E w ρ hw' hρ => ?_) h
  have e1 := hρ x (by simp [Op.operands, Call.operands])
  have e2 := hρ y (by simp [Op.operands, Call.operands])
  rw [hx] at e1; rw [hy] at e2
  have e1 := e1.lit_inv
  have e2 := e2.lit_inv
  obtain ⟨news, hf⟩ := hw'.fromOwn (c' := sc) hm2 hc2 ho2 (show m ≤ sn by rw [hmin]; exact Nat.min_le_left _ _)
  obtain ⟨w', q1, q2, q3⟩ := hw'.copy tc.ok ht hi hei (t' := t') (ty := ty) (dl := dl) (dc := dc) hm hc hf (fun a' n' c'' hq => by
    injection hq with _ q2 _; subst q2; exact hmin) ho hoc
  exact ⟨_, w', E, by simp [execOp, resolve, invoke, builtin, e1, e2, q1], q2, q3, .c (.d (.lit _ rfl))⟩

theorem run_overlaps_own {P : Program} (w : World) (tS tR e : TypeId) (ht : P.underlying tS = some (.slice e)) (size : Nat) (hz : ∀ w, (Go.sizeOf e).run P w = .ok size w)
    (a b : Addr) (la ca lb cb : Nat) (hne : a.block ≠ b.block) (tA tB : TypeId) (kA kB : Nat) (hsa : w.shape? a.block = some (tA, kA)) (hkA : kA ≠ 0) (hsb : w.shape? b.block = some (tB, kB))
    (hfb : w.frozen? b = false) (hfe : w.frozen? { block := b.block, off := kB } = false) :
    (Extern.SlicesOverlaps.overlaps #[tS, tS] #[tR] #[.slice (some a) la ca, .slice (some b) lb cb]).run P w = .ok (.bool false) w := by
  have hnb' : (a.block == b.block) = false := by simpa using hne
  delta Extern.SlicesOverlaps.overlaps Extern.SlicesOverlaps.overlaps.match_4
  simp only [List.size_toArray, List.length_cons, List.length_nil, dite_true, eq_self, Array.getLit, List.getElem_toArray, List.getElem_cons_zero, List.getElem_cons_succ]
  by_cases h0 : la = 0 ∨ lb = 0 ∨ size = 0
  · simp [run_underlying ht, hz, h0]
  · cases kA with
    | zero => exact absurd rfl hkA
    | succ kA =>
      cases hfa : w.frozen? a <;> cases hfx : w.frozen? { block := a.block, off := kA + 1 } <;>
        simp [run_underlying ht, hz, h0, hnb', frozen, noView, viewAt, mayBeOne, stringish, shape, Sem.run, hsa, hsb, hfb, hfe, hfa, hfx]

theorem shape_of_cell {w : World} {b o : Nat} {v : Value} (h : w.cell? ⟨b, o, none⟩ = some v) : ∃ t k, w.shape? b = some (t, k) ∧ k ≠ 0 := by
  unfold World.cell? at h
  unfold World.shape?
  split at h
  · rename_i c t fr q
    rw [q]
    refine ⟨t, c.size, rfl, fun e => ?_⟩
    have := (Array.getElem?_eq_some_iff.1 h).1
    omega
  · cases h

/-- A pinned array lies apart from data. -/
theorem s_overlaps [tc : TC P T] {f : Operand} {fid : FuncId} {fn : Func} {t e ety tR : TypeId} {i ei : TI} {x y : Operand} {ats : Array TypeId} {r k b c off dl dc : Nat} {es ys : List (List Dat)}
    (h : Reg P F0 w0 dr ops K rest ⟨n, (d, .c (.d (.lit (.bool false)))) :: sl, mem, ck, df⟩ (1 :: acc)) (hm : mem[r]? = some (.arrc k ety ei.size es b c)) (hc : 0 < c) (hne : ys ≠ []) (hys : ∀ z ∈ ys, z.length = ei.size) (hes : 0 < ei.size)
    (hfn : P.funcs[fid]? = some fn) (hname : (fn.name == "runtime.NumGoroutine") = false) (hb : fn.body.isNone = true) (hnx : Extern.findNext fn = none) (he : Extern.find fn = some (Extern.SlicesOverlaps.overlaps #[t, t] #[tR])) (hw : GW ops g sl := by first | exact trivial | exact rfl) (hf : evS sl f = .c (.d (.lit (.func (.func fid) #[] #[]))) := by exact rfl)
    (hx : evS sl x = .c (.d (.sl ys)) := by exact rfl) (hy : evS sl y = .c (.d (.lit (.slice (some ⟨b, off, none⟩) dl dc))) := by exact rfl) (ht : T t = some i := by exact rfl) (hi : i.desc = .slice e := by exact rfl) (hei : T e = some ei := by exact rfl) :
    Reg P F0 w0 dr ops K (⟨some d, .call ⟨.value f, #[x, y], ats⟩, ty, pos, aft, g⟩ :: rest) ⟨n, sl, mem, ck, df⟩ acc := by
  refine at1g hw hm (fun mem ck hm => doesM fun E w ρ hw' hρ => ?_) h
  have e0 := hρ f (by simp [Op.operands, Call.operands])
  have e1 := hρ x (by simp [Op.operands, Call.operands])
  have e2 := hρ y (by simp [Op.operands, Call.operands])
  rw [hf] at e0; rw [hx] at e1; rw [hy] at e2
  have e0 := e0.lit_inv
  have e2 := e2.lit_inv
  obtain ⟨h1, h2, h3, h4, h5, h6, h7, h8, h9, cur, g1, g2, g3, g4⟩ := hw'.cells hm hc
  have hu : P.underlying t = some (.slice e) := by have := (tc.ok t i ht).desc; rw [hi] at this; exact this
  rcases e1.d_inv.sl_inv with ⟨q, _⟩ | ⟨b1, off1, cap1, size1, us, e1', hF1, _, _, hsz1, hcell, _⟩
  · exact absurd q hne
  obtain ⟨z0, hz0⟩ : ∃ z0, ys[0]? = some z0 := by cases ys with | nil => exact absurd rfl hne | cons z l => exact ⟨z, rfl⟩
  have hs1 : size1 = ei.size := by rw [← hsz1 z0 (List.mem_of_getElem? hz0), hys z0 (List.mem_of_getElem? hz0)]
  have hl1 := lt_of_getElem? hz0
  obtain ⟨tA, kA, hsa, hkA⟩ := shape_of_cell (hcell 0 0 hl1 (by omega))
  have hne' : b1 ≠ b := fun q => h7 (.inl (q ▸ hF1))
  have hov := run_overlaps_own (P := P) w t tR e hu ei.size (fun w => (tc.ok e ei hei).sizeOf) ⟨b1, off1, none⟩ ⟨b, off, none⟩ ys.length cap1 dl dc hne' tA ety kA cur.size hsa hkA (by simp [World.shape?, g1]) (by simp [World.frozen?, g1]) (by simp [World.frozen?, g1])
  have hrun : (callFunc fid #[ρ x, ρ y]).run P w = .ok (.value (.bool false)) w := by
    rw [run_callFunc_extern hfn hname hb hnx he, e1', e2, hov]
    rfl
  exact ⟨_, w, E, by simp only [execOp, Sem.run_bind, resolve, e0, Deferred.ofValue, Sem.run_pure, Result.andThen_ok, invoke, Array.empty_append]; simp [hrun], EnvLe.refl _ _, hw', .c (.d (.lit _ rfl))⟩

/-- An append to a slice of a pinned array, from its begin. -/
theorem s_appL [tc : TC P T] {t e : TypeId} {i : TI} {x y : Operand} {u : SVal} {ys es es' : List (List Dat)} {r k b c j m esz bts : Nat} {ze : List Value} {de : TD} {eq : Bool}
    (h : ∀ b' c', 0 < c' → m ≤ c' → c' ≤ maxLen → Reg P F0 w0 dr ops K rest ⟨n, (d, .c (.d (.lit (.slice (some ⟨b', 0, none⟩) m c')))) :: sl, mem.set r (.arrc (ck + 1) e esz es' b' c'), ck + 1, df⟩ (2 :: acc)) (hm : mem[r]? = some (.arrc k e esz es b c)) (hc : 0 < c) (hj : j ≤ es.length) (hmp : 0 < m) (hl : j + ys.length = m) (hmx : (m : Int) ≤ 9223372036854775807) (hby : m * bts ≤ 140737488355328) (hsz : ∀ el ∈ ys, el.length = esz) (hes : es.take j ++ ys = es') (hdr : dr = false := by exact rfl) (hw : GW ops g sl := by first | exact trivial | exact rfl)
    (hx : evS sl x = .c (.d (.lit (.slice (some ⟨b, 0, none⟩) j c))) := by exact rfl) (hy : evS sl y = u := by exact (rfl : _ = SVal.c _)) (hs : srcOf u = some ys := by exact rfl) (ht : T t = some i := by exact rfl) (hi : i.desc = .slice e := by exact rfl) (hei : T e = some ⟨esz, bts, ze, de, eq⟩ := by exact rfl) (hk : (Nat.blt 0 esz && Nat.beq ze.length esz) = true := by exact rfl) :
    Reg P F0 w0 dr ops K (⟨some d, .call ⟨.builtin .append, #[x, y], #[t, t]⟩, ty, pos, aft, g⟩ :: rest) ⟨n, sl, mem, ck, df⟩ acc := by
  subst hl; subst hes
  refine at2r (R := fun v m' c' df' => (∃ b' c'', 0 < c'' ∧ j + ys.length ≤ c'' ∧ c'' ≤ maxLen ∧ v = .c (.d (.lit (.slice (some ⟨b', 0, none⟩) (j + ys.length) c''))) ∧ m' = mem.set r (.arrc (ck + 1) e esz (es.take j ++ ys) b' c'') ∧ c' = ck + 1) ∧ df' = []) hdr hw (doesR fun E w ρ hw' hρ => ?_) ?_
  · have e1 := hρ x (by simp [Op.operands, Call.operands])
    have e2 := hρ y (by simp [Op.operands, Call.operands])
    rw [hx] at e1; rw [hy] at e2
    have e1 := e1.lit_inv
    obtain ⟨a1, a2, a3, a4, a5⟩ := i
    simp only at hi
    subst hi
    simp only [Bool.and_eq_true, Nat.beq_eq, Nat.ble_eq, Nat.blt, Nat.succ_le_iff] at hk
    have hs1 : SRep E w (ρ x) (.c (.arr r k j)) := by rw [e1]; exact .c (hw'.handle hm hc)
    have hla : aAppend T ⟨0, [], mem.set r (.arr k e esz es), ck, []⟩ t (.c (.arr r k j)) u (some 0) fun τ => τ.mem = mem.set r (.arr (ck + 1) e esz (es.take j ++ ys)) ∧ τ.clock = ck + 1 ∧ τ.slots = [(0, .c (.arr r (ck + 1) (j + ys.length)))] := by
      simp only [aAppend, ht, hei, hs, set_here hm, List.set_set]
      exact ⟨hk.1, hk.2, hsz, trivial, trivial, trivial, hj, by simp only [maxLen]; omega, hby, rfl, rfl, rfl⟩
    obtain ⟨v', w', E', mem', clock', x', q1, q2, q3, q4, q5, q6, q7⟩ := append_ok (P := P) (ty := ty) tc.ok (σ := ⟨0, [], mem.set r (.arr k e esz es), ck, []⟩) (hw'.toArr hm) hs1 e2 hla
    simp only [St.putO, St.put] at q5 q6 q7
    subst q5; subst q6
    simp only [List.cons.injEq, Prod.mk.injEq, true_and, and_true] at q7
    subst q7
    have hr2 : (mem.set r (Blk.arr (ck + 1) e esz (es.take j ++ ys)))[r]? = some (.arr (ck + 1) e esz (es.take j ++ ys)) := set_here hm
    have ho := q3.mem.ok r _ hr2
    rcases q4.arr_inv ho.1 with ⟨_, q, _⟩ | ⟨hcp, rfl⟩
    · omega
    · have hla2 : (es.take j ++ ys).length = j + ys.length := by simp; omega
      have h4 := ho.2.2.2.1
      have h5 := ho.2.2.2.2.1
      have hq := q3.toArrc hr2
      rw [List.set_set] at hq
      exact ⟨_, w', E', _, _, _, by simp [execOp, resolve, invoke, builtin, q1], q2, hq, .c (.d (.lit _ rfl)), E'.blk r, E'.cap r, hcp, by omega, h5, rfl, rfl, rfl⟩
  · rintro v m' c' df' ⟨⟨b', c'', h1, h2, h3, rfl, rfl, rfl⟩, rfl⟩
    exact h b' c'' h1 h2 h3

/-- The same, into room that is there, out of a pinned array. -/
theorem s_appIn [tc : TC P T] {t e ety2 : TypeId} {i ei : TI} {x y : Operand} {r k b c o r2 k2 b2 c2 o2 off2 sc m q : Nat} {es es' es2 : List (List Dat)} {mem' : List Blk}
    (h : Reg P F0 w0 dr ops K rest ⟨n, (d, .c (.d (.lit (.slice (some ⟨b, 0, none⟩) q c)))) :: sl, mem', ck, df⟩ (2 :: acc)) (hm : mem[r]? = some (.arrc k e ei.size es b c)) (hm2 : mem[r2]? = some (.arrc k2 ety2 ei.size es2 b2 c2)) (ho : o ≤ es.length) (hoc : o + m ≤ c) (hc2 : 0 < c2) (hc : 0 < c) (ho2 : o2 + m ≤ es2.length) (hoff2 : m = 0 ∨ off2 = o2 * ei.size) (hes : es.take o ++ (es2.drop o2).take m ++ es.drop (o + m) = es') (hq : q = o + m) (hw : GW ops g sl := by first | exact trivial | exact rfl)
    (hx : evS sl x = .c (.d (.lit (.slice (some ⟨b, 0, none⟩) o c))) := by exact rfl) (hy : evS sl y = .c (.d (.lit (.slice (some ⟨b2, off2, none⟩) m sc))) := by exact rfl) (ht : T t = some i := by exact rfl) (hi : i.desc = .slice e := by exact rfl) (hei : T e = some ei := by exact rfl) (hm' : mem.set r (.arrc k e ei.size es' b c) = mem' := by repeat' (first | exact nfNil rfl | apply nfCons rfl)) :
    Reg P F0 w0 dr ops K (⟨some d, .call ⟨.builtin .append, #[x, y], #[t, t]⟩, ty, pos, aft, g⟩ :: rest) ⟨n, sl, mem, ck, df⟩ acc := by
  subst hm'; subst hes; subst hq
  refine at2 (df' := []) hw (doesM fun E w ρ hw' hρ => ?_) h
  have e1 := hρ x (by simp [Op.operands, Call.operands])
  have e2 := hρ y (by simp [Op.operands, Call.operands])
  rw [hx] at e1; rw [hy] at e2
  have e1 := e1.lit_inv
  have e2 := e2.lit_inv
  obtain ⟨news, hf⟩ := hw'.fromOwn0 (c' := sc) hm2 hc2 ho2 (Nat.le_refl _) hoff2
  obtain ⟨h1, h2, h3, h4, h5, h6, h7, h8, h9, cur, g1, g2, g3, g4⟩ := hw'.cells hm hc
  obtain ⟨⟨a, n', c', ha, hmn, hsrc⟩, f2, f3, f4, f5, f6⟩ := hf
  injection ha with ha1 ha2 ha3
  injection ha1 with ha1
  subst ha1; subst ha2; subst ha3
  obtain ⟨fi, z, hi1, hi2, hi3, hi4, hi5⟩ := (tc.ok e ei hei).info
  have hu : P.underlying t = some (.slice e) := by have := (tc.ok t i ht).desc; rw [hi] at this; exact this
  rw [f3] at f2
  have hwr := hw'.writeAt hm hc g1 (by rw [f3]; exact f2) f4 f5 f6 ho (by rw [f3]; exact hoc)
  rw [f3] at hwr
  have hfit : o * ei.size + news.length ≤ cur.size := by rw [f2, ← Nat.add_mul, g2]; exact Nat.mul_le_mul_right _ hoc
  have hrun := run_append_room (P := P) w t ty e fi hu hi1 b o c cur (by
    have := g1
    exact this) ⟨b2, off2, none⟩ m sc news (by rw [hi2]; exact f2) hsrc f5 hoc (by rw [hi2]; exact hfit)
  rw [hi2] at hrun
  exact ⟨_, _, E, by simp [execOp, resolve, invoke, builtin, e1, e2, hrun], hwr.2, hwr.1, .c (.d (.lit _ rfl))⟩

/-- An append of zeros that makes a new array; the old one stays. -/
theorem s_appZ [tc : TC P T] {t t' e : TypeId} {kn kq : IntKind} {i i' ei : TI} {x y : Operand} {r k b c j r' m : Nat} {z : Int} {es es' : List (List Dat)} {zd : List Dat}
    (h : ∀ b' c', 0 < c' → m ≤ c' → c' ≤ maxLen → Reg P F0 w0 dr ops K rest ⟨n, (d, .c (.d (.lit (.slice (some ⟨b', 0, none⟩) m c')))) :: sl, mem ++ [.arrc (ck + 1) e ei.size es' b' c'], ck + 1, df⟩ (2 :: acc)) (hm : mem[r]? = some (.arrc k e ei.size es b c)) (hc : 0 < c) (hj : j ≤ es.length) (hz : 0 < z) (hl : j + z.toNat = m) (hg : c < m) (hmx : (m : Int) ≤ 9223372036854775807) (hby : m * ei.bytes ≤ 140737488355328) (hzd : dats (ei.zero.map valCell) = some zd) (hes : es.take j ++ List.replicate z.toNat zd = es') (hdr : dr = false := by exact rfl) (hw : GW ops g sl := by first | exact trivial | exact rfl)
    (hx : evS sl x = .c (.d (.lit (.slice (some ⟨b, 0, none⟩) j c))) := by exact rfl) (hy : evS sl y = .c (.d (.lit (.int kq z))) := by exact rfl) (ht : T t = some i := by exact rfl) (hi : i.desc = .slice e := by exact rfl) (ht' : T t' = some i' := by exact rfl) (hi' : i'.desc = .int kn := by exact rfl) (hei : T e = some ei := by exact rfl) (hk : (Nat.blt 0 ei.size && Nat.beq ei.zero.length ei.size) = true := by exact rfl) :
    Reg P F0 w0 dr ops K (⟨some d, .call ⟨.builtin .append, #[x, y], #[t, t']⟩, ty, pos, aft, g⟩ :: rest) ⟨n, sl, mem, ck, df⟩ acc := by
  subst hl; subst hes
  refine at2r (R := fun v m' c' df' => (∃ b' c'', 0 < c'' ∧ j + z.toNat ≤ c'' ∧ c'' ≤ maxLen ∧ v = .c (.d (.lit (.slice (some ⟨b', 0, none⟩) (j + z.toNat) c''))) ∧ m' = mem ++ [.arrc (ck + 1) e ei.size (es.take j ++ List.replicate z.toNat zd) b' c''] ∧ c' = ck + 1) ∧ df' = []) hdr hw (doesR fun E w ρ hw' hρ => ?_) ?_
  · have e1 := hρ x (by simp [Op.operands, Call.operands])
    have e2 := hρ y (by simp [Op.operands, Call.operands])
    rw [hx] at e1; rw [hy] at e2
    have e1 := e1.lit_inv
    have e2 := e2.lit_inv
    simp only [Bool.and_eq_true, Nat.beq_eq, Nat.ble_eq, Nat.blt, Nat.succ_le_iff] at hk
    obtain ⟨h1, h2, h3, h4, h5, h6, h7, h8, h9, cur, g1, g2, g3, g4⟩ := hw'.cells hm hc
    have hTe := tc.ok e ei hei
    obtain ⟨fi, zz, hi1, hi2, hi3, hi4, hi5⟩ := hTe.info
    have hu : P.underlying t = some (.slice e) := by have := (tc.ok t i ht).desc; rw [hi] at this; exact this
    have hu' : P.underlying t' = some (.int kn) := by have := (tc.ok t' i' ht').desc; rw [hi'] at this; exact this
    have hzc : zz.cells.size = ei.size := by rw [hi5]; simpa using hk.2
    have hz1 : ∀ v ∈ zz.cells, v.oneCell' = true := fun v hv => hTe.ones v (by rw [hi5] at hv; simpa using hv)
    have hzz : z = (z.toNat : Int) := by omega
    have hnc : j * ei.size ≤ cur.size := by rw [g2]; exact Nat.mul_le_mul_right _ (by omega)
    have hlo : (cur.toList.take (j * ei.size)).length = j * ei.size := by simp; omega
    have hold : (Builtin.firstCells fi.size j (.slice (some ⟨b, 0, none⟩) j c)).run P w.drew = .ok (cur.toList.take (j * ei.size)).toArray w.drew := by
      rw [hi2]
      exact run_firstCells_some w.drew ei.size j ⟨b, 0, none⟩ j c _ hlo (fun q v hv => by
        rw [Addr.add_lit, show w.drew.cell? ⟨b, 0 + q, none⟩ = w.cell? ⟨b, 0 + q, none⟩ from rfl, cell_of_block g1]
        rw [List.getElem?_take] at hv
        split at hv
        · simpa using hv
        · cases hv)
    have hby' : z.toNat * ei.bytes ≤ 140737488355328 := Nat.le_trans (Nat.mul_le_mul_right _ (by omega)) hby
    have hr := Lib.run_append_grow_zeros (P := P) w t t' ty e fi zz kq kn hu hu' hi1 hi4 (some ⟨b, 0, none⟩) j c _ hold z.toNat (by omega) (by rw [hi2]; exact hk.1) hg (by omega) (by rw [hi3]; omega) (by rw [hi3]; exact growslice_fits hg hby)
    rw [← hzz] at hr
    have hzl : (Builtin.zeroCells zz.cells z.toNat).toList.length = z.toNat * ei.size := by rw [Array.length_toList, size_zeroCells, hzc]
    obtain ⟨gcap, hgc, hge, hgm, cc, q1, q2, q0, q3⟩ := grown_block (w := w) (e := e) (old := c) (z := zz) (esz := ei.size) (need := j + z.toNat) (cells := cur.toList.take (j * ei.size) ++ (Builtin.zeroCells zz.cells z.toNat).toList) hzc (by rw [List.length_append, hlo, hzl, Nat.add_mul]) (by simp only [maxLen]; omega) hz1 (fun v hv => by
      rcases List.mem_append.1 hv with hv | hv
      · exact g3 v (by simpa using List.mem_of_mem_take hv)
      · exact hz1 v (mem_zeroCells (by simpa using hv)))
    have happ : (cur.toList.take (j * ei.size)).toArray ++ Builtin.zeroCells zz.cells z.toNat = (cur.toList.take (j * ei.size) ++ (Builtin.zeroCells zz.cells z.toNat).toList).toArray := by simp
    rw [happ, ← hgc] at hr
    have hzdl : zd.length = ei.size := by have := dats_len hzd; rw [this]; simpa using hk.2
    have hrepl : ∀ el ∈ List.replicate z.toNat zd, el.length = ei.size := fun el hel => by rw [List.eq_of_mem_replicate hel]; exact hzdl
    have hflz : Flat (DRep E.F w) ei.size (List.replicate z.toNat zd) (Builtin.zeroCells zz.cells z.toNat).toList := by
      intro p q el v xx r1 r2 r3
      have hp : p < z.toNat := by have := lt_of_getElem? r1; simpa using this
      rw [List.getElem?_replicate, if_pos hp] at r1
      simp only [Option.some.injEq] at r1
      subst r1
      have hq : q < ei.size := by have := lt_of_getElem? r2; omega
      have hlt : p * ei.size + q < z.toNat * ei.size := by
        have : (p + 1) * ei.size ≤ z.toNat * ei.size := Nat.mul_le_mul_right _ hp
        rw [Nat.add_mul, Nat.one_mul] at this; omega
      rw [Array.getElem?_toList] at r3
      unfold Builtin.zeroCells at r3
      rw [Array.getElem?_map, Array.getElem?_range, hzc, if_pos hlt] at r3
      simp only [Option.map_some, Option.some.injEq] at r3
      have hmod : (p * ei.size + q) % ei.size = q := by rw [Nat.mul_comm, Nat.mul_add_mod, Nat.mod_eq_of_lt hq]
      rw [hmod] at r3
      have hzq : ei.zero.toArray[q]? = some v := by
        rw [← hi5, Array.getElem?_eq_getElem (by omega), ← r3, getElem!_pos zz.cells q (by omega)]
      exact dats_rep hzd (fun y hy => zero_rep (E := E) (w := w) hTe q v y hzq hy) r2
    have hfl : Flat (DRep E.F w) ei.size (es.take j) (cur.toList.take (j * ei.size)) := by
      have := Flat.window (o := 0) (m := j) g4 h3
      simpa using this
    have hnw := hw'.newArr (w' := w.drew.alloc (.cells ((cur.toList.take (j * ei.size) ++ (Builtin.zeroCells zz.cells z.toNat).toList).toArray ++ Builtin.zeroCells zz.cells (gcap - (j + z.toNat))) e)) e ei.size gcap (es.take j ++ List.replicate z.toNat zd) hk.1 (fun el hel => by
        rcases List.mem_append.1 hel with hel | hel
        · exact h3 el (List.mem_of_mem_take hel)
        · exact hrepl el hel) (by simp; omega) hgm (below_growth w _ hw'.le0) (fun i hi => by rw [Bel.heap_alloc w.drew _ i hi]; rfl)
      (.inr ⟨cc, q1, q2, q0, fun p q el v xx r1 r2 r3 => by
        exact Flat.join (A := es.take j) (B := List.replicate z.toNat zd) (rest := (Builtin.zeroCells zz.cells (gcap - (j + z.toNat))).toList) (by rw [hlo, List.length_take, Nat.min_eq_left hj]) (fun el hel => h3 el (List.mem_of_mem_take hel)) hrepl (by rw [hzl]; simp) hfl hflz p q el v xx r1 r2 (by rw [← q3]; simpa using r3)⟩)
    have hr2 : (mem ++ [Blk.arr (ck + 1) e ei.size (es.take j ++ List.replicate z.toNat zd)])[mem.length]? = some (.arr (ck + 1) e ei.size (es.take j ++ List.replicate z.toNat zd)) := by simp
    have hq := hnw.1.toArrc hr2
    simp only [Env.upd, if_true] at hq
    rw [show (mem ++ [Blk.arr (ck + 1) e ei.size (es.take j ++ List.replicate z.toNat zd)]).set mem.length (.arrc (ck + 1) e ei.size (es.take j ++ List.replicate z.toNat zd) w.heap.size gcap) = mem ++ [.arrc (ck + 1) e ei.size (es.take j ++ List.replicate z.toNat zd) w.heap.size gcap] by simp] at hq
    exact ⟨_, _, _, _, _, _, by simp [execOp, resolve, invoke, builtin, e1, e2, hr], hnw.2, hq, .c (.d (.lit _ rfl)), w.heap.size, gcap, by omega, hge, hgm, rfl, rfl, rfl⟩
  · rintro v m' c' df' ⟨⟨b', c'', h1, h2, h3, rfl, rfl, rfl⟩, rfl⟩
    exact h b' c'' h1 h2 h3

/-- What lies behind a place is cleared, and forgotten. -/
theorem s_clearL [tc : TC P T] {t e ety : TypeId} {i ei : TI} {x : Operand} {r k b c o off m sc : Nat} {es es' : List (List Dat)} {mem' : List Blk}
    (h : Reg P F0 w0 dr ops K rest ⟨n, sl, mem', ck, df⟩ (2 :: acc)) (hm : mem[r]? = some (.arrc k ety ei.size es b c)) (hc : 0 < c) (ho : o ≤ es.length) (hoc : o + m ≤ c) (hoff : m = 0 ∨ off = o * ei.size) (hes : es.take o = es') (hw : GW ops g sl := by first | exact trivial | exact rfl)
    (hx : evS sl x = .c (.d (.lit (.slice (some ⟨b, off, none⟩) m sc))) := by exact rfl) (ht : T t = some i := by exact rfl) (hi : i.desc = .slice e := by exact rfl) (hei : T e = some ei := by exact rfl) (hk : (Nat.blt 0 ei.size && Nat.beq ei.zero.length ei.size) = true := by exact rfl) (hm' : mem.set r (.arrc k ety ei.size es' b c) = mem' := by repeat' (first | exact nfNil rfl | apply nfCons rfl)) :
    Reg P F0 w0 dr ops K (⟨none, .call ⟨.builtin .clear, #[x], #[t]⟩, ty, pos, aft, g⟩ :: rest) ⟨n, sl, mem, ck, df⟩ acc := by
  subst hm'; subst hes
  refine at2n (df' := []) (v := .junk) hw (doesM fun E w ρ hw' hρ => ?_) h
  have e1 := hρ x (by simp [Op.operands, Call.operands])
  rw [hx] at e1
  have e1 := e1.lit_inv
  simp only [Bool.and_eq_true, Nat.beq_eq, Nat.ble_eq, Nat.blt, Nat.succ_le_iff] at hk
  obtain ⟨h1, h2, h3, h4, h5, h6, h7, h8, h9, cur, g1, g2, g3, g4⟩ := hw'.cells hm hc
  have hTe := tc.ok e ei hei
  obtain ⟨fi, zz, hi1, hi2, hi3, hi4, hi5⟩ := hTe.info
  have hu : P.underlying t = some (.slice e) := by have := (tc.ok t i ht).desc; rw [hi] at this; exact this
  have hzc : zz.cells.size = ei.size := by rw [hi5]; simpa using hk.2
  have hz1 : ∀ v ∈ zz.cells, v.oneCell' = true := fun v hv => hTe.ones v (by rw [hi5] at hv; simpa using hv)
  have hcut : ∀ {w' : World} {cur' : Array Value}, (EnvLe E w E w' → w'.heap[b]? = some (.cells cur' ety (0, 0)) → cur'.size = c * ei.size → (∀ v ∈ cur', v.oneCell' = true) → (∀ q, q < o * ei.size → cur'[q]? = cur[q]?) → BlkOk w0.heap.size E w' r (.arrc k ety ei.size (es.take o) b c)) := by
    intro w' cur' hle q1 q2 q3 q4
    refine ⟨⟨h1, h2, fun el hel => h3 el (List.mem_of_mem_take hel), by rw [h9]; simp; omega, by rw [h9]; exact h5, .inr ⟨by rw [h8]; exact h6, by rw [h8]; exact h7, cur', by rw [h8]; exact q1, by rw [q2, h9], q3, fun i j el v xx r1 r2 r3 => ?_⟩⟩, h9, h8⟩
    rw [List.getElem?_take] at r1
    split at r1
    · rename_i hio
      have hj : j < ei.size := by have := lt_of_getElem? r2; rw [h3 el (List.mem_of_getElem? r1)] at this; exact this
      have : (i + 1) * ei.size ≤ o * ei.size := Nat.mul_le_mul_right _ hio
      rw [Nat.add_mul, Nat.one_mul] at this
      rw [q4 _ (by omega)] at r3
      exact (g4 i j el v xx r1 r2 (by simpa using r3)).le hle
    · cases r1
  rcases Nat.eq_zero_or_pos m with rfl | hmp
  · refine ⟨.tuple #[], w, E, by simp [execOp, resolve, invoke, builtin, e1, Builtin.clear_, run_underlying hu], EnvLe.refl _ _, ?_, .junk _⟩
    exact hw'.swap r _ _ hm (fun q => q) (hcut (EnvLe.refl _ _) g1 g2 g3 (fun _ _ => rfl))
  · have hoff : off = o * ei.size := by
      rcases hoff with q | q
      · omega
      · exact q
    subst hoff
    have hzl : (Builtin.zeroCells zz.cells m).toList.length = m * ei.size := by rw [Array.length_toList, size_zeroCells, hzc]
    have hfit : o * ei.size + (Builtin.zeroCells zz.cells m).toList.length ≤ cur.toList.length := by
      rw [hzl, ← Nat.add_mul, Array.length_toList, g2]; exact Nat.mul_le_mul_right _ hoc
    have hst := run_storeCells_at P b (o * ei.size) ety (Builtin.zeroCells zz.cells m).toList 0 cur w g1 (by simpa using hfit) (fun v hv => hz1 v (mem_zeroCells (by simpa using hv)))
    simp only [Nat.add_zero] at hst
    have hp := hw'.poke (w' := w.setRow b (cur.toList.take (o * ei.size) ++ (Builtin.zeroCells zz.cells m).toList ++ cur.toList.drop (o * ei.size + (Builtin.zeroCells zz.cells m).toList.length)).toArray) r _ (.arrc k ety ei.size (es.take o) b c) hm (show E.cap r ≠ 0 by omega) (fun q => q) (below_setRow w _ _ h6) (fun i hi => setRow_other w _ i _ (by rw [← h8]; exact hi)) fun hle => hcut hle (setRow_heap w _ cur _ ety _ g1) (by
        have := length_splice (l := cur.toList) (m := (Builtin.zeroCells zz.cells m).toList) (o := o * ei.size) hfit
        rw [List.size_toArray, this, Array.length_toList, g2]) (fun v hv => ones_splice (m := (Builtin.zeroCells zz.cells m).toList) g3 (fun v hv => hz1 v (mem_zeroCells (Array.mem_toList_iff.1 hv))) (List.mem_toArray.1 hv)) (fun q hq => by
        rw [List.getElem?_toArray, getElem?_splice hfit, if_pos hq, Array.getElem?_toList])
    have hz0 : (zeroValue e).run P w = .ok zz w := by simp [zeroValue, typeInfo, hi1, hi4]
    have hrun : (Builtin.clear_ #[t] ty #[.slice (some ⟨b, o * ei.size, none⟩) m sc]).run P w = .ok (.tuple #[]) (w.setRow b (cur.toList.take (o * ei.size) ++ (Builtin.zeroCells zz.cells m).toList ++ cur.toList.drop (o * ei.size + (Builtin.zeroCells zz.cells m).toList.length)).toArray) := by
      cases m with
      | zero => omega
      | succ m => simp [Builtin.clear_, run_underlying hu, hz0, hst]
    exact ⟨.tuple #[], _, E, by simp [execOp, resolve, invoke, builtin, e1, hrun], hp.2, hp.1, .junk _⟩
end

section
variable {P : Program} {T : TypeId → Option TI} {B : Base} {Q : Ex → St → Prop} {n : Nat} {sl : List (Nat × SVal)} {mem : List Blk} {ck : Nat} {df : List (FuncId × List Cell)}

theorem slots_put {E : Env} {w : World} {tm : Nat → Value} {t : Nat} {v : SVal} (h : ∀ s, SRep E w (tm s) (look sl s)) (hv : SRep E w (tm t) v) : ∀ s, SRep E w (tm s) (look ((t, v) :: sl) s) := by
  intro s
  rw [look_put]
  split
  · rename_i q; subst q; exact hv
  · exact h s

/-- An array is pinned: it is empty, or its place and its capacity are named. -/
theorem s_pin (t : Nat) {r k m : Nat} {ety : TypeId} {esz : Nat} {es : List (List Dat)} {c : Code} (ht : look sl t = .c (.arr r k m)) (hm : mem[r]? = some (.arr k ety esz es))
    (h0 : es = [] → m = 0 → ARun P B c ⟨n, (t, .c .emp) :: sl, mem, ck, df⟩ Q)
    (h1 : ∀ b c', 0 < c' → es.length ≤ c' → c' ≤ maxLen → ARun P B c ⟨n, (t, .c (.d (.lit (.slice (some ⟨b, 0, none⟩) m c')))) :: sl, mem.set r (.arrc k ety esz es b c'), ck, df⟩ Q) : ARun P B c ⟨n, sl, mem, ck, df⟩ Q := by
  rintro a w ⟨E, ⟨hw, hsz, hdf, hsl⟩, hle⟩
  have e1 : SRep E w (a.tmps.getD t undef) (.c (.arr r k m)) := by rw [← ht]; exact hsl t
  have ho := hw.mem.ok r _ hm
  rcases e1.arr_inv ho.1 with ⟨q1, q2, aa, q3⟩ | ⟨q1, q2⟩
  · have hes : es = [] := by
      have := ho.2.2.2.1
      exact List.eq_nil_of_length_eq_zero (by omega)
    exact h0 hes q2 a w ⟨E, ⟨hw, hsz, hdf, slots_put hsl (by rw [q3]; exact .c (.emp _))⟩, hle⟩
  · exact h1 (E.blk r) (E.cap r) q1 ho.2.2.2.1 ho.2.2.2.2.1 a w ⟨E, ⟨hw.toArrc hm, hsz, hdf, slots_put hsl (by rw [q2]; exact .c (.d (.lit _ rfl)))⟩, hle⟩

/-- A pinned array is let go to its handle. -/
theorem s_unpin (t : Nat) {r k b c' m : Nat} {ety : TypeId} {esz : Nat} {es : List (List Dat)} {m1 : List Blk} {c : Code} (h : ARun P B c ⟨n, (t, .c (.arr r k m)) :: sl, m1, ck, df⟩ Q) (hm : mem[r]? = some (.arrc k ety esz es b c')) (hc : 0 < c') (ht : look sl t = .c (.d (.lit (.slice (some ⟨b, 0, none⟩) m c'))) := by exact rfl)
    (hm1 : mem.set r (.arr k ety esz es) = m1 := by repeat' (first | exact nfNil rfl | apply nfCons rfl)) : ARun P B c ⟨n, sl, mem, ck, df⟩ Q := by
  subst hm1
  rintro a w ⟨E, ⟨hw, hsz, hdf, hsl⟩, hle⟩
  have e1 : SRep E w (a.tmps.getD t undef) (.c (.d (.lit (.slice (some ⟨b, 0, none⟩) m c')))) := by rw [← ht]; exact hsl t
  have e2 := e1.lit_inv
  exact h a w ⟨E, ⟨hw.toArr hm, hsz, hdf, slots_put hsl (by rw [e2]; exact .c (hw.handle hm hc))⟩, hle⟩

/-- A pinned array takes another entry's place. -/
theorem s_mv (r r' : Nat) {k b c' : Nat} {ety : TypeId} {esz : Nat} {es : List (List Dat)} {m1 : List Blk} {c : Code} (h : ARun P B c ⟨n, sl, m1, ck + 1, df⟩ Q) (hm : mem[r']? = some (.arrc k ety esz es b c')) (hc : 0 < c') (hm1 : (mem.set r' .dead).set r (.arrc (ck + 1) ety esz es b c') = m1 := by repeat' (first | exact nfNil rfl | apply nfCons rfl)) : ARun P B c ⟨n, sl, mem, ck, df⟩ Q := by
  subst hm1
  rintro a w ⟨E, ⟨hw, hsz, hdf, hsl⟩, hle⟩
  obtain ⟨h1, h2, h3, h4, h5, h6, h7, h8, h9, cur, g1, g2, g3, g4⟩ := hw.cells hm hc
  have hd : WOk B.F0 B.w0 E w (mem.set r' .dead) ck := hw.drop fun s x hx hl => by
    rcases set_turn r' _ s x hx with ⟨rfl, rfl⟩ | ⟨_, hx0⟩
    · exact hl.elim
    · exact hx0
  have ht := hd.turn (w' := w) r b c' (ck + 1) (.arrc (ck + 1) ety esz es b c') _ (Nat.lt_succ_self ck) (Nat.le_refl _) (set_turn r _) (Bel.refl _ _) (fun _ _ _ => rfl) (fun s x hs hx hh => by
    rcases set_turn r' _ s x hx with ⟨rfl, rfl⟩ | ⟨hs', hx0⟩
    · exact hh.elim
    · rw [← h8]; exact hw.mem.apart s r' x _ hx0 hm hh (show E.cap r' ≠ 0 by omega) hs') h7 (by
    refine ⟨⟨by simp [Env.upd], h2, h3, by simp only [Env.upd, if_true]; exact h4, by simp only [Env.upd, if_true]; exact h5, .inr ⟨by simp only [Env.upd, if_true]; exact h6, by simp only [Env.upd, if_true]; exact h7, cur, by simp only [Env.upd, if_true]; exact g1, by simp only [Env.upd, if_true]; exact g2, g3, fun i j e v x q1 q2 q3 => ?_⟩⟩, by simp [Env.upd], by simp [Env.upd]⟩
    exact g4 i j e v x q1 q2 (by simpa using q3))
  exact h a w ⟨_, ⟨ht.1, hsz, hdf.le ht.2, fun s => (hsl s).le ht.2⟩, hle.trans ht.2⟩
end
end Go.Abs
end
