/-
  Arrays of the call's own whose place and capacity are known: slices of them are literal values, and several slices of one array can be held at once.
-/
import Derived.Test.YtmpgmjlanngkfaaGreatTypes
import Derived.Lib.Overlaps
import Derived.Lib.AppendZerosOnto
section
namespace Go.Abs
open Go.RowKit
variable {b c c' esz k m r : Nat} {e ety t : TypeId} {es : List (List Dat)} {i : TI} {x : Operand}
section
variable {P : Program} {T : TypeId → Option TI} {F0 : Nat → Prop} {w0 w : World} {E : Env} {mem : List Blk} {ck : Nat}
theorem WOk.swap (h : WOk F0 w0 E w mem ck) (r : Nat) (ob nb : Blk) (hr : mem[r]? = some ob) (hhn : nb.has E r → ob.has E r) (hnew : BlkOk w0.heap.size E w r nb) : WOk F0 w0 E w (mem.set r nb) ck := by
 refine ⟨h.below, h.base, h.F, ⟨h.mem.clock, fun s x hx => ?_, fun s s' x x' hx hx' h1 h2 hne => ?_⟩, h.N⟩
 ·rcases A7 r _ s x hx with ⟨rfl, rfl⟩ | ⟨e, hx0⟩
  ·exact hnew
  ·exact h.mem.ok s x hx0
 ·rcases A7 r _ s x hx with ⟨rfl, rfl⟩ | ⟨e, hx0⟩
  ·rcases A7 s _ s' x' hx' with ⟨rfl, rfl⟩ | ⟨e', hx0'⟩
   ·exact absurd rfl hne
   ·exact h.mem.apart s s' ob x' hr hx0' (hhn h1) h2 hne
  ·rcases A7 r _ s' x' hx' with ⟨rfl, rfl⟩ | ⟨e', hx0'⟩
   ·exact h.mem.apart s s' x ob hx0 hr h1 (hhn h2) hne
   ·exact h.mem.apart s s' x x' hx0 hx0' h1 h2 hne
theorem BC {α : Type} {l : List α} {x y : α} (h : l[r]? = some x) : (l.set r y)[r]? = some y := I7 (lt_of_getElem? h)
theorem WOk.toArr (h : WOk F0 w0 E w mem ck) (hr : mem[r]? = some (.arrc k ety esz es b c)) : WOk F0 w0 E w (mem.set r (.arr k ety esz es)) ck :=
 h.swap r _ _ hr (fun q => q) (h.mem.ok r _ hr).1
theorem WOk.toArrc (h : WOk F0 w0 E w mem ck) (hr : mem[r]? = some (.arr k ety esz es)) : WOk F0 w0 E w (mem.set r (.arrc k ety esz es (E.blk r) (E.cap r))) ck :=
 h.swap r _ _ hr (fun q => q) ⟨h.mem.ok r _ hr, rfl, rfl⟩
theorem WOk.handle (h : WOk F0 w0 E w mem ck) (hr : mem[r]? = some (.arrc k ety esz es b c)) (hc : 0 < c) : CRep E w (.slice (some ⟨b, 0, none⟩) m c) (.arr r k m) := by
 obtain ⟨h1, h2, h3⟩ := h.mem.ok r _ hr
 refine .arr r k m _ rfl (by rw [h1.1]; exact Nat.le_refl _) fun _ => .inr ⟨by omega, ?_⟩
 rw [h2, h3]
theorem WOk.cells (h : WOk F0 w0 E w mem ck) (hr : mem[r]? = some (.arrc k ety esz es b c)) (hc : 0 < c) :
  E.ver r = k ∧ 0 < esz ∧ (∀ e ∈ es, e.length = esz) ∧ es.length ≤ c ∧ c ≤ maxLen ∧ w0.heap.size ≤ b ∧ ¬ (E.F b ∨ E.N b) ∧ E.blk r = b ∧ E.cap r = c ∧
   ∃ cur, w.heap[b]? = some (.cells cur ety (0, 0)) ∧ cur.size = c * esz ∧ (∀ v ∈ cur, v.oneCell' = true) ∧ Flat (DRep E.F w) esz es cur.toList := by
 obtain ⟨⟨h1, h2, h3, h4, h5, h6⟩, h7, h8⟩ := h.mem.ok r _ hr
 rcases h6 with h6 | ⟨g1, g2, cur, g3, g4, g5, g6⟩
 ·omega
 ·refine ⟨h1, h2, h3, by omega, by omega, by rw [← h8]; exact g1, by rw [← h8]; exact g2, h8, h7, cur, by rw [← h8]; exact g3, by rw [g4, h7], g5, fun i j e v x q1 q2 q3 => g6 i j e v x q1 q2 (by simpa using q3)⟩
structure From (E : Env) (w : World) (esz : Nat) (u : Value) (m : Nat) (ys : List (List Dat)) (news : List Value) : Prop where
 src : ∃ a n c, u = .slice (some a) n c ∧ m ≤ n ∧ ∀ j v, news[j]? = some v → w.cell? (a.add j) = some v
 len : news.length = ys.length * esz
 m : ys.length = m
 sz : ∀ e ∈ ys, e.length = esz
 one : ∀ v ∈ news, v.oneCell' = true
 fl : Flat (DRep E.F w) esz ys news
theorem From.data {v : Value} {ys : List (List Dat)} (h : DRep E.F w v (.sl ys)) (hy : ∀ e ∈ ys, e.length = esz) (hne : ys ≠ []) : ∃ news, From E w esz v ys.length ys news ∧ ∃ a c, v = .slice (some a) ys.length c := by
 obtain ⟨b, off, cap, news, rfl, h1, h2, h3, h4⟩ := h.flat hy hne
 exact ⟨news, ⟨⟨_, _, _, rfl, Nat.le_refl _, h2⟩, h1, rfl, hy, h3, h4⟩, _, _, rfl⟩
end
theorem Js {E : Env} {w : World} {d : Nat} {sl : List (Nat × SVal)} {ρ : Operand → Value} {lo : Option Operand} {l : Int} (h : HQ sl d lo = some l) (hρ : ∀ x, lo = some x → SRep E w (ρ x) (AH sl x)) :
   (lo = none ∧ l = d) ∨ ∃ x k, lo = some x ∧ ρ x = .int k l := by
 cases lo with
 | none => simp [HQ] at h; exact .inl ⟨rfl, h.symm⟩
 | some x =>
   simp only [HQ] at h
   have hx := hρ x rfl
   split at h
   · rename_i q
     rw [q] at hx
     simp only [Option.some.injEq] at h
     subst h
     exact .inr ⟨x, _, rfl, hx.lit_inv⟩
   · cases h
section
variable {P : Program} {T : TypeId → Option TI} {F0 : Nat → Prop} {w0 : World}
variable {dr : Bool} {ops rest : List Oper} {K : St → Prop} {n : Nat} {sl : List (Nat × SVal)} {mem : List Blk} {ck : Nat} {df : List (FuncId × List Cell)} {acc : List Nat}
variable {d : Tmp} {op : Op} {ty : TypeId} {pos : String} {aft : Array Edge} {g : Option (Nat × Bool)}
theorem Yf [tc : TC P T] {a : Option Addr} 
  (h : Reg P F0 w0 dr ops K rest ⟨n, (d, .c (.d (.lit (.int .i64 m)))) :: sl, mem, ck, df⟩ (0 :: acc)) (hw : GW ops g sl := by first | exact trivial | exact rfl) (hx : AH sl x = .c (.d (.lit (.slice a m c))) := by exact rfl) (ht : T t = some i := by exact rfl) (hi : i.desc = .slice e := by exact rfl) :
  Reg P F0 w0 dr ops K (⟨some d, .call ⟨.builtin .len, #[x], #[t]⟩, ty, pos, aft, g⟩ :: rest) ⟨n, sl, mem, ck, df⟩ acc :=
 FD hw (Hk fun E w ρ hρ => by
  have e1 := hρ x (by simp [Op.operands, Call.operands])
  rw [hx] at e1
  have e1 := e1.lit_inv
  have hu : P.underlying t = some (.slice e) := by have := (tc.ok t i ht).desc; rw [hi] at this; exact this
  refine ⟨.int .i64 m, ?_, .c (.d (.lit _ rfl))⟩
  simp [execOp, resolve, invoke, builtin, e1, Builtin.len_, run_underlying hu, goInt]) h
theorem MY [tc : TC P T] {ei : TI} {lo hi : Option Operand} {a b : Int} {bl off off' m' : Nat}
  (h : Reg P F0 w0 dr ops K rest ⟨n, (d, .c (.d (.lit (.slice (some ⟨bl, off', none⟩) m' c')))) :: sl, mem, ck, df⟩ (0 :: acc)) (ha : 0 ≤ a) (hab : a ≤ b) (hb : b ≤ (c : Int)) (ho : off' = if c = a.toNat then off else off + a.toNat * ei.size) (hm' : m' = b.toNat - a.toNat) (hc' : c' = c - a.toNat) (hw : GW ops g sl := by first | exact trivial | exact rfl) (hx : AH sl x = .c (.d (.lit (.slice (some ⟨bl, off, none⟩) m c))) := by exact rfl) (ht : T t = some i := by exact rfl) (hi' : i.desc = .slice e := by exact rfl) (hei : T e = some ei := by exact rfl)
  (hlo : HQ sl 0 lo = some a := by exact rfl) (hhi : HQ sl m hi = some b := by exact rfl) :
  Reg P F0 w0 dr ops K (⟨some d, .slice t x lo hi none, ty, pos, aft, g⟩ :: rest) ⟨n, sl, mem, ck, df⟩ acc :=
 FD hw (Hk fun E w ρ hρ => by
  subst hm'; subst hc'; subst ho
  have e1 := hρ x (by simp [Op.operands])
  rw [hx] at e1
  have e1 := e1.lit_inv
  have hu : P.underlying t = some (.slice e) := by have := (tc.ok t i ht).desc; rw [hi'] at this; exact this
  have hsz := (tc.ok e ei hei).sizeOf (w := w)
  have hbd : (Instr.sliceBounds true m c (lo.map ρ) (hi.map ρ) none).run P w = .ok (a.toNat, b.toNat, c) w := by
    rcases Js (ρ := ρ) (E := E) (w := w) hhi (fun y hy => hρ y (by subst hy; simp [Op.operands])) with ⟨rfl, rfl⟩ | ⟨y, k, rfl, hy⟩
    ·rcases Js (ρ := ρ) (E := E) (w := w) hlo (fun y hy => hρ y (by subst hy; simp [Op.operands])) with ⟨rfl, rfl⟩ | ⟨y, k', rfl, hy⟩
     ·simp [Instr.sliceBounds]
     ·have : (0 : Int) ≤ a ∧ a ≤ (m : Int) := ⟨ha, hab⟩
      simp [Instr.sliceBounds, Instr.sliceBound, hy, asIntOf, this]
    ·have hcc : (0 : Int) ≤ b ∧ b ≤ (c : Int) := ⟨by omega, hb⟩
     rcases Js (ρ := ρ) (E := E) (w := w) hlo (fun y hy => hρ y (by subst hy; simp [Op.operands])) with ⟨rfl, rfl⟩ | ⟨z, k', rfl, hz⟩
     ·simp [Instr.sliceBounds, Instr.sliceBound, hy, asIntOf, hcc]
     ·have : (0 : Int) ≤ a ∧ a ≤ (b.toNat : Int) := ⟨ha, by omega⟩
      simp only [Int.ofNat_toNat] at this
      have hm : max b 0 = b := by omega
      rw [hm] at this
      simp [Instr.sliceBounds, Instr.sliceBound, hy, hz, asIntOf, hcc, this, hm]
  refine ⟨_, ?_, .c (.d (.lit _ rfl))⟩
  have : (Instr.sliceAt t (ρ x) (lo.map ρ) (hi.map ρ) none).run P w = .ok (.slice (some ⟨bl, if c = a.toNat then off else off + a.toNat * ei.size, none⟩) (b.toNat - a.toNat) (c - a.toNat)) w := by
    rw [e1]
    simp only [Instr.sliceAt, Instr.slice, Sem.run_bind, run_underlying hu, Result.andThen_ok, hbd, hsz]
    split <;> simp_all [Addr.add_lit]
  simp [execOp, this]) h
theorem b9 [tc : TC P T] {y : Operand} {u : SVal} {ys es' : List (List Dat)} {j bts : Nat} {ze : List Value} {de : TD} {eq : Bool}
  (h : ∀ b' c', 0 < c' → m ≤ c' → c' ≤ maxLen → Reg P F0 w0 dr ops K rest ⟨n, (d, .c (.d (.lit (.slice (some ⟨b', 0, none⟩) m c')))) :: sl, mem.set r (.arrc (ck + 1) e esz es' b' c'), ck + 1, df⟩ (2 :: acc)) (hm : mem[r]? = some (.arrc k e esz es b c)) (hc : 0 < c) (hj : j ≤ es.length) (hmp : 0 < m) (hl : j + ys.length = m) (hmx : (m : Int) ≤ 9223372036854775807) (hby : m * bts ≤ 140737488355328) (hsz : ∀ el ∈ ys, el.length = esz) (hes : es.take j ++ ys = es') (hdr : dr = false := by exact rfl) (hw : GW ops g sl := by first | exact trivial | exact rfl)
  (hx : AH sl x = .c (.d (.lit (.slice (some ⟨b, 0, none⟩) j c))) := by exact rfl) (hy : AH sl y = u := by exact (rfl : _ = SVal.c _)) (hs : Ft u = some ys := by exact rfl) (ht : T t = some i := by exact rfl) (hi : i.desc = .slice e := by exact rfl) (hei : T e = some ⟨esz, bts, ze, de, eq⟩ := by exact rfl) (hk : (Nat.blt 0 esz && Nat.beq ze.length esz) = true := by exact rfl) :
  Reg P F0 w0 dr ops K (⟨some d, .call ⟨.builtin .append, #[x, y], #[t, t]⟩, ty, pos, aft, g⟩ :: rest) ⟨n, sl, mem, ck, df⟩ acc := by
 subst hl; subst hes
 refine VR (R := fun v m' c' df' => (∃ b' c'', 0 < c'' ∧ j + ys.length ≤ c'' ∧ c'' ≤ maxLen ∧ v = .c (.d (.lit (.slice (some ⟨b', 0, none⟩) (j + ys.length) c''))) ∧ m' = mem.set r (.arrc (ck + 1) e esz (es.take j ++ ys) b' c'') ∧ c' = ck + 1) ∧ df' = []) hdr hw (QB fun E w ρ hw' hρ => ?_) ?_
 ·have e1 := hρ x (by simp [Op.operands, Call.operands])
  have e2 := hρ y (by simp [Op.operands, Call.operands])
  rw [hx] at e1; rw [hy] at e2
  have e1 := e1.lit_inv
  obtain ⟨a1, a2, a3, a4, a5⟩ := i
  simp only at hi
  subst hi
  simp only [Bi, QN, LG, Nat.blt, Sh] at hk
  have hs1 : SRep E w (ρ x) (.c (.arr r k j)) := by rw [e1]; exact .c (hw'.handle hm hc)
  have hla : D1 T ⟨0, [], mem.set r (.arr k e esz es), ck, []⟩ t (.c (.arr r k j)) u (some 0) fun τ => τ.mem = mem.set r (.arr (ck + 1) e esz (es.take j ++ ys)) ∧ τ.clock = ck + 1 ∧ τ.slots = [(0, .c (.arr r (ck + 1) (j + ys.length)))] := by
    simp only [D1, ht, hei, hs, BC hm, WS]
    exact ⟨hk.1, hk.2, hsz, trivial, trivial, trivial, hj, by simp only [maxLen]; omega, hby, rfl, rfl, rfl⟩
  obtain ⟨v', w', E', mem', clock', x', q1, q2, q3, q4, q5, q6, q7⟩ := KF (P := P) (ty := ty) tc.ok (σ := ⟨0, [], mem.set r (.arr k e esz es), ck, []⟩) (hw'.toArr hm) hs1 e2 hla
  simp only [St.putO, St.put] at q5 q6 q7
  subst q5; subst q6
  simp only [U4, Gk, true_and, and_true] at q7
  subst q7
  have hr2 : (mem.set r (Blk.arr (ck + 1) e esz (es.take j ++ ys)))[r]? = some (.arr (ck + 1) e esz (es.take j ++ ys)) := BC hm
  have ho := q3.mem.ok r _ hr2
  rcases q4.arr_inv ho.1 with ⟨_, q, _⟩ | ⟨hcp, rfl⟩
  · omega
  · have hla2 : (es.take j ++ ys).length = j + ys.length := by simp; omega
    have h4 := ho.2.2.2.1
    have h5 := ho.2.2.2.2.1
    have hq := q3.toArrc hr2
    rw [WS] at hq
    exact ⟨_, w', E', _, _, _, by simp [execOp, resolve, invoke, builtin, q1], q2, hq, .c (.d (.lit _ rfl)), E'.blk r, E'.cap r, hcp, by omega, h5, rfl, rfl, rfl⟩
 ·rintro v m' c' df' ⟨⟨b', c'', h1, h2, h3, rfl, rfl, rfl⟩, rfl⟩
  exact h b' c'' h1 h2 h3
theorem S4 [tc : TC P T] {ei : TI} {o off sc : Nat} {es' : List (List Dat)} {mem' : List Blk}
  (h : Reg P F0 w0 dr ops K rest ⟨n, sl, mem', ck, df⟩ (2 :: acc)) (hm : mem[r]? = some (.arrc k ety ei.size es b c)) (hc : 0 < c) (ho : o ≤ es.length) (hoc : o + m ≤ c) (hoff : m = 0 ∨ off = o * ei.size) (hes : es.take o = es') (hw : GW ops g sl := by first | exact trivial | exact rfl)
  (hx : AH sl x = .c (.d (.lit (.slice (some ⟨b, off, none⟩) m sc))) := by exact rfl) (ht : T t = some i := by exact rfl) (hi : i.desc = .slice e := by exact rfl) (hei : T e = some ei := by exact rfl) (hk : (Nat.blt 0 ei.size && Nat.beq ei.zero.length ei.size) = true := by exact rfl) (hm' : mem.set r (.arrc k ety ei.size es' b c) = mem' := by repeat' (first | exact AT rfl | apply Az rfl)) :
  Reg P F0 w0 dr ops K (⟨none, .call ⟨.builtin .clear, #[x], #[t]⟩, ty, pos, aft, g⟩ :: rest) ⟨n, sl, mem, ck, df⟩ acc := by
 subst hm'; subst hes
 refine G6 (df' := []) (v := .junk) hw (Bx fun E w ρ hw' hρ => ?_) h
 have e1 := hρ x (by simp [Op.operands, Call.operands])
 rw [hx] at e1
 have e1 := e1.lit_inv
 simp only [Bi, QN, LG, Nat.blt, Sh] at hk
 obtain ⟨h1, h2, h3, h4, h5, h6, h7, h8, h9, cur, g1, g2, g3, g4⟩ := hw'.cells hm hc
 have hTe := tc.ok e ei hei
 obtain ⟨fi, zz, hi1, hi2, hi3, hi4, hi5⟩ := hTe.info
 have hu : P.underlying t = some (.slice e) := by have := (tc.ok t i ht).desc; rw [hi] at this; exact this
 have hzc : zz.cells.size = ei.size := by rw [hi5]; simpa using hk.2
 have hz1 : ∀ v ∈ zz.cells, v.oneCell' = true := fun v hv => hTe.ones v (by rw [hi5] at hv; simpa using hv)
 have hcut : ∀ {w' : World} {cur' : Array Value}, (EnvLe E w E w' → w'.heap[b]? = some (.cells cur' ety (0, 0)) → cur'.size = c * ei.size → (∀ v ∈ cur', v.oneCell' = true) → (∀ q, q < o * ei.size → cur'[q]? = cur[q]?) → BlkOk w0.heap.size E w' r (.arrc k ety ei.size (es.take o) b c)) := by
  intro w' cur' hle q1 q2 q3 q4
  refine ⟨⟨h1, h2, fun el hel => h3 el (IS hel), by rw [h9]; simp; omega, by rw [h9]; exact h5, .inr ⟨by rw [h8]; exact h6, by rw [h8]; exact h7, cur', by rw [h8]; exact q1, by rw [q2, h9], q3, fun i j el v xx r1 r2 r3 => ?_⟩⟩, h9, h8⟩
  rw [LD] at r1
  split at r1
  · rename_i hio
    have hj : j < ei.size := by have := lt_of_getElem? r2; rw [h3 el (Cl r1)] at this; exact this
    have : (i + 1) * ei.size ≤ o * ei.size := Gb _ hio
    rw [EO, Hw] at this
    rw [q4 _ (by omega)] at r3
    exact (g4 i j el v xx r1 r2 (by simpa using r3)).le hle
  · cases r1
 rcases WN m with rfl | hmp
 ·refine ⟨.tuple #[], w, E, by simp [execOp, resolve, invoke, builtin, e1, Builtin.clear_, run_underlying hu], EnvLe.refl _ _, ?_, .junk _⟩
  exact hw'.swap r _ _ hm (fun q => q) (hcut (EnvLe.refl _ _) g1 g2 g3 (fun _ _ => rfl))
 ·have hoff : off = o * ei.size := by
    rcases hoff with q | q
    · omega
    · exact q
  subst hoff
  have hzl : (Builtin.zeroCells zz.cells m).toList.length = m * ei.size := by rw [Se, size_zeroCells, hzc]
  have hfit : o * ei.size + (Builtin.zeroCells zz.cells m).toList.length ≤ cur.toList.length := by
    rw [hzl, ← EO, Se, g2]; exact Gb _ hoc
  have hst := run_storeCells_at P b (o * ei.size) ety (Builtin.zeroCells zz.cells m).toList 0 cur w g1 (by simpa using hfit) (fun v hv => hz1 v (Ek (by simpa using hv)))
  simp only [Nat.add_zero] at hst
  have hp := hw'.poke (w' := w.setRow b (cur.toList.take (o * ei.size) ++ (Builtin.zeroCells zz.cells m).toList ++ cur.toList.drop (o * ei.size + (Builtin.zeroCells zz.cells m).toList.length)).toArray) r _ (.arrc k ety ei.size (es.take o) b c) hm (show E.cap r ≠ 0 by omega) (fun q => q) (Ck w _ _ h6) (fun i hi => setRow_other w _ i _ (by rw [← h8]; exact hi)) fun hle => hcut hle (setRow_heap w _ cur _ ety _ g1) (by
      have := Bd (l := cur.toList) (m := (Builtin.zeroCells zz.cells m).toList) (o := o * ei.size) hfit
      rw [Vb, this, Se, g2]) (fun v hv => C8 (m := (Builtin.zeroCells zz.cells m).toList) g3 (fun v hv => hz1 v (Ek (Array.mem_toList_iff.1 hv))) (List.mem_toArray.1 hv)) (fun q hq => by
      rw [U0, getElem?_splice hfit, if_pos hq, I9])
  have hz0 : (zeroValue e).run P w = .ok zz w := by simp [zeroValue, typeInfo, hi1, hi4]
  have hrun : (Builtin.clear_ #[t] ty #[.slice (some ⟨b, o * ei.size, none⟩) m sc]).run P w = .ok (.tuple #[]) (w.setRow b (cur.toList.take (o * ei.size) ++ (Builtin.zeroCells zz.cells m).toList ++ cur.toList.drop (o * ei.size + (Builtin.zeroCells zz.cells m).toList.length)).toArray) := by
    cases m with
    | zero => omega
    | succ m => simp [Builtin.clear_, run_underlying hu, hz0, hst]
  exact ⟨.tuple #[], _, E, by simp [execOp, resolve, invoke, builtin, e1, hrun], hp.2, hp.1, .junk _⟩
end
section
variable {P : Program} {T : TypeId → Option TI} {B : Base} {Q : Ex → St → Prop} {n : Nat} {sl : List (Nat × SVal)} {mem : List Blk} {ck : Nat} {df : List (FuncId × List Cell)}
theorem EB {E : Env} {w : World} {tm : Nat → Value} {t : Nat} {v : SVal} (h : ∀ s, SRep E w (tm s) (look sl s)) (hv : SRep E w (tm t) v) : ∀ s, SRep E w (tm s) (look ((t, v) :: sl) s) := by
 intro s
 rw [Bg]
 split
 ·rename_i q; subst q; exact hv
 ·exact h s
theorem Z8 (t : Nat) {c : Code} (ht : look sl t = .c (.arr r k m)) (hm : mem[r]? = some (.arr k ety esz es))
  (h0 : es = [] → m = 0 → ARun P B c ⟨n, (t, .c .emp) :: sl, mem, ck, df⟩ Q)
  (h1 : ∀ b c', 0 < c' → es.length ≤ c' → c' ≤ maxLen → ARun P B c ⟨n, (t, .c (.d (.lit (.slice (some ⟨b, 0, none⟩) m c')))) :: sl, mem.set r (.arrc k ety esz es b c'), ck, df⟩ Q) : ARun P B c ⟨n, sl, mem, ck, df⟩ Q := by
 rintro a w ⟨E, ⟨hw, hsz, hdf, hsl⟩, hle⟩
 have e1 : SRep E w (a.tmps.getD t undef) (.c (.arr r k m)) := by rw [← ht]; exact hsl t
 have ho := hw.mem.ok r _ hm
 rcases e1.arr_inv ho.1 with ⟨q1, q2, aa, q3⟩ | ⟨q1, q2⟩
 ·have hes : es = [] := by
    have := ho.2.2.2.1
    exact WK (by omega)
  exact h0 hes q2 a w ⟨E, ⟨hw, hsz, hdf, EB hsl (by rw [q3]; exact .c (.emp _))⟩, hle⟩
 ·exact h1 (E.blk r) (E.cap r) q1 ho.2.2.2.1 ho.2.2.2.2.1 a w ⟨E, ⟨hw.toArrc hm, hsz, hdf, EB hsl (by rw [q2]; exact .c (.d (.lit _ rfl)))⟩, hle⟩
theorem VE (t : Nat) {m1 : List Blk} {c : Code} (h : ARun P B c ⟨n, (t, .c (.arr r k m)) :: sl, m1, ck, df⟩ Q) (hm : mem[r]? = some (.arrc k ety esz es b c')) (hc : 0 < c') (ht : look sl t = .c (.d (.lit (.slice (some ⟨b, 0, none⟩) m c'))) := by exact rfl)
  (hm1 : mem.set r (.arr k ety esz es) = m1 := by repeat' (first | exact AT rfl | apply Az rfl)) : ARun P B c ⟨n, sl, mem, ck, df⟩ Q := by
 subst hm1
 rintro a w ⟨E, ⟨hw, hsz, hdf, hsl⟩, hle⟩
 have e1 : SRep E w (a.tmps.getD t undef) (.c (.d (.lit (.slice (some ⟨b, 0, none⟩) m c')))) := by rw [← ht]; exact hsl t
 have e2 := e1.lit_inv
 exact h a w ⟨E, ⟨hw.toArr hm, hsz, hdf, EB hsl (by rw [e2]; exact .c (hw.handle hm hc))⟩, hle⟩
theorem ca (r r' : Nat) {m1 : List Blk} {c : Code} (h : ARun P B c ⟨n, sl, m1, ck + 1, df⟩ Q) (hm : mem[r']? = some (.arrc k ety esz es b c')) (hc : 0 < c') (hm1 : (mem.set r' .dead).set r (.arrc (ck + 1) ety esz es b c') = m1 := by repeat' (first | exact AT rfl | apply Az rfl)) : ARun P B c ⟨n, sl, mem, ck, df⟩ Q := by
 subst hm1
 rintro a w ⟨E, ⟨hw, hsz, hdf, hsl⟩, hle⟩
 obtain ⟨h1, h2, h3, h4, h5, h6, h7, h8, h9, cur, g1, g2, g3, g4⟩ := hw.cells hm hc
 have hd : WOk B.F0 B.w0 E w (mem.set r' .dead) ck := hw.drop fun s x hx hl => by
  rcases A7 r' _ s x hx with ⟨rfl, rfl⟩ | ⟨_, hx0⟩
  ·exact hl.elim
  ·exact hx0
 have ht := hd.turn (w' := w) r b c' (ck + 1) (.arrc (ck + 1) ety esz es b c') _ (ZB ck) (Nat.le_refl _) (A7 r _) (Bel.refl _ _) (fun _ _ _ => rfl) (fun s x hs hx hh => by
  rcases A7 r' _ s x hx with ⟨rfl, rfl⟩ | ⟨hs', hx0⟩
  ·exact hh.elim
  ·rw [← h8]; exact hw.mem.apart s r' x _ hx0 hm hh (show E.cap r' ≠ 0 by omega) hs') h7 (by
  refine ⟨⟨by simp [Env.upd], h2, h3, by simp only [Env.upd, if_true]; exact h4, by simp only [Env.upd, if_true]; exact h5, .inr ⟨by simp only [Env.upd, if_true]; exact h6, by simp only [Env.upd, if_true]; exact h7, cur, by simp only [Env.upd, if_true]; exact g1, by simp only [Env.upd, if_true]; exact g2, g3, fun i j e v x q1 q2 q3 => ?_⟩⟩, by simp [Env.upd], by simp [Env.upd]⟩
  exact g4 i j e v x q1 q2 (by simpa using q3))
 exact h a w ⟨_, ⟨ht.1, hsz, hdf.le ht.2, fun s => (hsl s).le ht.2⟩, hle.trans ht.2⟩
end
end Go.Abs
end
