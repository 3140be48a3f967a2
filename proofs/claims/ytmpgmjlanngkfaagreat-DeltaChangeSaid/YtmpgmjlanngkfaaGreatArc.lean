/-
  Arrays of the call's own whose place and capacity are known: slices of them are literal values, and several slices of one array can be held at once.
-/
import Derived.Test.YtmpgmjlanngkfaaGreatTypes
import Derived.Lib.Overlaps
import Derived.Lib.AppendZerosOnto
section
namespace Go.Abs
open Go.RowKit
variable {b c c' i6 k m r : Nat} {e iX t : TypeId} {es : List (List Dat)} {i : TI} {x : Operand}
section
variable {P : Program} {T : TypeId → Option TI} {F0 : Nat → Prop} {w0 w : World} {E : Env} {mem : List Blk} {ck : Nat}
theorem WOk.swap (h : WOk F0 w0 E w mem ck) (r : Nat) (ob nb : Blk) (hr : mem[r]? = some ob) (sP : nb.has E r → ob.has E r) (jV : BlkOk w0.heap.size E w r nb) : WOk F0 w0 E w (mem.set r nb) ck := by
 refine ⟨h.below, h.base, h.F, ⟨h.mem.clock, fun s x hx => ?_, fun s s' x x' hx kL h1 h2 j2 => ?_⟩, h.N⟩
 ·rcases Bj r _ s x hx with ⟨rfl, rfl⟩ | ⟨e, jj⟩
  ·exact jV
  ·exact h.mem.ok s x jj
 ·rcases Bj r _ s x hx with ⟨rfl, rfl⟩ | ⟨e, jj⟩
  ·rcases Bj s _ s' x' kL with ⟨rfl, rfl⟩ | ⟨e', jW⟩
   ·exact absurd rfl j2
   ·exact h.mem.apart s s' ob x' hr jW (sP h1) h2 j2
  ·rcases Bj r _ s' x' kL with ⟨rfl, rfl⟩ | ⟨e', jW⟩
   ·exact h.mem.apart s s' x ob jj hr h1 (sP h2) j2
   ·exact h.mem.apart s s' x x' jj jW h1 h2 j2
theorem BV {α : Type} {l : List α} {x y : α} (h : l[r]? = some x) : (l.set r y)[r]? = some y := J5 (lt_of_getElem? h)
theorem WOk.toArr (h : WOk F0 w0 E w mem ck) (hr : mem[r]? = some (.arrc k iX i6 es b c)) : WOk F0 w0 E w (mem.set r (.arr k iX i6 es)) ck :=
 h.swap r _ _ hr (fun q => q) (h.mem.ok r _ hr).1
theorem WOk.toArrc (h : WOk F0 w0 E w mem ck) (hr : mem[r]? = some (.arr k iX i6 es)) : WOk F0 w0 E w (mem.set r (.arrc k iX i6 es (E.blk r) (E.cap r))) ck :=
 h.swap r _ _ hr (fun q => q) ⟨h.mem.ok r _ hr, rfl, rfl⟩
theorem WOk.handle (h : WOk F0 w0 E w mem ck) (hr : mem[r]? = some (.arrc k iX i6 es b c)) (hc : 0 < c) : CRep E w (.slice (some ⟨b, 0, none⟩) m c) (.arr r k m) := by
 obtain ⟨h1, h2, h3⟩ := h.mem.ok r _ hr
 refine .arr r k m _ rfl (by rw [h1.1]; exact Nat.le_refl _) fun _ => .inr ⟨by omega, ?_⟩
 rw [h2, h3]
theorem WOk.cells (h : WOk F0 w0 E w mem ck) (hr : mem[r]? = some (.arrc k iX i6 es b c)) (hc : 0 < c) :
  E.ver r = k ∧ 0 < i6 ∧ (∀ e ∈ es, e.length = i6) ∧ es.length ≤ c ∧ c ≤ maxLen ∧ w0.heap.size ≤ b ∧ ¬ (E.F b ∨ E.N b) ∧ E.blk r = b ∧ E.cap r = c ∧
   ∃ cur, w.heap[b]? = some (.cells cur iX (0, 0)) ∧ cur.size = c * i6 ∧ (∀ v ∈ cur, v.oneCell' = true) ∧ Flat (DRep E.F w) i6 es cur.toList := by
 obtain ⟨⟨h1, h2, h3, h4, h5, h6⟩, h7, h8⟩ := h.mem.ok r _ hr
 rcases h6 with h6 | ⟨g1, g2, cur, g3, g4, g5, g6⟩
 ·omega
 ·refine ⟨h1, h2, h3, by omega, by omega, by rw [← h8]; exact g1, by rw [← h8]; exact g2, h8, h7, cur, by rw [← h8]; exact g3, by rw [g4, h7], g5, fun i j e v x q1 q2 q3 => g6 i j e v x q1 q2 (by simpa using q3)⟩
structure From (E : Env) (w : World) (i6 : Nat) (u : Value) (m : Nat) (ys : List (List Dat)) (news : List Value) : Prop where
 src : ∃ a n c, u = .slice (some a) n c ∧ m ≤ n ∧ ∀ j v, news[j]? = some v → w.cell? (a.add j) = some v
 len : news.length = ys.length * i6
 m : ys.length = m
 sz : ∀ e ∈ ys, e.length = i6
 one : ∀ v ∈ news, v.oneCell' = true
 fl : Flat (DRep E.F w) i6 ys news
theorem From.data {v : Value} {ys : List (List Dat)} (h : DRep E.F w v (.sl ys)) (hy : ∀ e ∈ ys, e.length = i6) (j2 : ys ≠ []) : ∃ news, From E w i6 v ys.length ys news ∧ ∃ a c, v = .slice (some a) ys.length c := by
 obtain ⟨b, off, cap, news, rfl, h1, h2, h3, h4⟩ := h.flat hy j2
 exact ⟨news, ⟨⟨_, _, _, rfl, Nat.le_refl _, h2⟩, h1, rfl, hy, h3, h4⟩, _, _, rfl⟩
end
theorem KN {E : Env} {w : World} {d : Nat} {sl : List (Nat × SVal)} {ρ : Operand → Value} {lo : Option Operand} {l : Int} (h : Jg sl d lo = some l) (hρ : ∀ x, lo = some x → SRep E w (ρ x) (AH sl x)) :
   (lo = none ∧ l = d) ∨ ∃ x k, lo = some x ∧ ρ x = .int k l := by
 cases lo with
 | none => simp [Jg] at h; exact .inl ⟨rfl, h.symm⟩
 | some x =>
   simp only [Jg] at h
   have hx := hρ x rfl
   split at h
   · rename_i q
     rw [q] at hx
     simp only [Option.some.injEq] at h
     subst h
     exact .inr ⟨x, _, rfl, hx.lit_inv⟩
   · cases h
section
variable {P : Program} {T : TypeId → Option TI} {F0 : Nat → Prop} {w0 : World}
variable {dr : Bool} {ops rest : List Oper} {K : St → Prop} {n : Nat} {sl : List (Nat × SVal)} {mem : List Blk} {ck : Nat} {df : List (FuncId × List Cell)} {acc : List Nat}
variable {d : Tmp} {op : Op} {ty : TypeId} {pos : String} {iU : Array Edge} {g : Option (Nat × Bool)}
theorem NI [tc : TC P T] {a : Option Addr} 
  (h : Reg P F0 w0 dr ops K rest ⟨n, (d, .c (.d (.lit (.int .i64 m)))) :: sl, mem, ck, df⟩ (0 :: acc)) (hw : GW ops g sl := by first | exact trivial | exact rfl) (hx : AH sl x = .c (.d (.lit (.slice a m c))) := by exact rfl) (ht : T t = some i := by exact rfl) (hi : i.desc = .slice e := by exact rfl) :
  Reg P F0 w0 dr ops K (⟨some d, .call ⟨.builtin .len, #[x], #[t]⟩, ty, pos, iU, g⟩ :: rest) ⟨n, sl, mem, ck, df⟩ acc :=
 Gp hw (HO fun E w ρ hρ => by
  have e1 := hρ x (by simp [Op.operands, Call.operands])
  rw [hx] at e1
  have e1 := e1.lit_inv
  have hu : P.underlying t = some (.slice e) := by have := (tc.ok t i ht).desc; rw [hi] at this; exact this
  refine ⟨.int .i64 m, ?_, .c (.d (.lit _ rfl))⟩
  simp [execOp, resolve, invoke, builtin, e1, Builtin.len_, run_underlying hu, goInt]) h
theorem GC [tc : TC P T] {ei : TI} {lo hi : Option Operand} {a b : Int} {bl off nH m' : Nat}
  (h : Reg P F0 w0 dr ops K rest ⟨n, (d, .c (.d (.lit (.slice (some ⟨bl, nH, none⟩) m' c')))) :: sl, mem, ck, df⟩ (0 :: acc)) (ha : 0 ≤ a) (lZ : a ≤ b) (hb : b ≤ (c : Int)) (ho : nH = if c = a.toNat then off else off + a.toNat * ei.size) (iZ : m' = b.toNat - a.toNat) (qf : c' = c - a.toNat) (hw : GW ops g sl := by first | exact trivial | exact rfl) (hx : AH sl x = .c (.d (.lit (.slice (some ⟨bl, off, none⟩) m c))) := by exact rfl) (ht : T t = some i := by exact rfl) (nX : i.desc = .slice e := by exact rfl) (jg : T e = some ei := by exact rfl)
  (lr : Jg sl 0 lo = some a := by exact rfl) (ry : Jg sl m hi = some b := by exact rfl) :
  Reg P F0 w0 dr ops K (⟨some d, .slice t x lo hi none, ty, pos, iU, g⟩ :: rest) ⟨n, sl, mem, ck, df⟩ acc :=
 Gp hw (HO fun E w ρ hρ => by
  subst iZ; subst qf; subst ho
  have e1 := hρ x (by simp [Op.operands])
  rw [hx] at e1
  have e1 := e1.lit_inv
  have hu : P.underlying t = some (.slice e) := by have := (tc.ok t i ht).desc; rw [nX] at this; exact this
  have j3 := (tc.ok e ei jg).sizeOf (w := w)
  have qg : (Instr.sliceBounds true m c (lo.map ρ) (hi.map ρ) none).run P w = .ok (a.toNat, b.toNat, c) w := by
    rcases KN (ρ := ρ) (E := E) (w := w) ry (fun y hy => hρ y (by subst hy; simp [Op.operands])) with ⟨rfl, rfl⟩ | ⟨y, k, rfl, hy⟩
    ·rcases KN (ρ := ρ) (E := E) (w := w) lr (fun y hy => hρ y (by subst hy; simp [Op.operands])) with ⟨rfl, rfl⟩ | ⟨y, k', rfl, hy⟩
     ·simp [Instr.sliceBounds]
     ·have : (0 : Int) ≤ a ∧ a ≤ (m : Int) := ⟨ha, lZ⟩
      simp [Instr.sliceBounds, Instr.sliceBound, hy, asIntOf, this]
    ·have su : (0 : Int) ≤ b ∧ b ≤ (c : Int) := ⟨by omega, hb⟩
     rcases KN (ρ := ρ) (E := E) (w := w) lr (fun y hy => hρ y (by subst hy; simp [Op.operands])) with ⟨rfl, rfl⟩ | ⟨z, k', rfl, hz⟩
     ·simp [Instr.sliceBounds, Instr.sliceBound, hy, asIntOf, su]
     ·have : (0 : Int) ≤ a ∧ a ≤ (b.toNat : Int) := ⟨ha, by omega⟩
      simp only [Int.ofNat_toNat] at this
      have hm : max b 0 = b := by omega
      rw [hm] at this
      simp [Instr.sliceBounds, Instr.sliceBound, hy, hz, asIntOf, su, this, hm]
  refine ⟨_, ?_, .c (.d (.lit _ rfl))⟩
  have : (Instr.sliceAt t (ρ x) (lo.map ρ) (hi.map ρ) none).run P w = .ok (.slice (some ⟨bl, if c = a.toNat then off else off + a.toNat * ei.size, none⟩) (b.toNat - a.toNat) (c - a.toNat)) w := by
    rw [e1]
    simp only [Instr.sliceAt, Instr.slice, Sem.run_bind, run_underlying hu, Result.andThen_ok, qg, j3]
    split <;> simp_all [Addr.add_lit]
  simp [execOp, this]) h
theorem gz [tc : TC P T] {y : Operand} {u : SVal} {ys ji : List (List Dat)} {j qh : Nat} {ze : List Value} {de : TD} {eq : Bool}
  (h : ∀ b' c', 0 < c' → m ≤ c' → c' ≤ maxLen → Reg P F0 w0 dr ops K rest ⟨n, (d, .c (.d (.lit (.slice (some ⟨b', 0, none⟩) m c')))) :: sl, mem.set r (.arrc (ck + 1) e i6 ji b' c'), ck + 1, df⟩ (2 :: acc)) (hm : mem[r]? = some (.arrc k e i6 es b c)) (hc : 0 < c) (hj : j ≤ es.length) (sv : 0 < m) (hl : j + ys.length = m) (mG : (m : Int) ≤ 9223372036854775807) (lp : m * qh ≤ 140737488355328) (j3 : ∀ el ∈ ys, el.length = i6) (j6 : es.take j ++ ys = ji) (kV : dr = false := by exact rfl) (hw : GW ops g sl := by first | exact trivial | exact rfl)
  (hx : AH sl x = .c (.d (.lit (.slice (some ⟨b, 0, none⟩) j c))) := by exact rfl) (hy : AH sl y = u := by exact (rfl : _ = SVal.c _)) (hs : Gh u = some ys := by exact rfl) (ht : T t = some i := by exact rfl) (hi : i.desc = .slice e := by exact rfl) (jg : T e = some ⟨i6, qh, ze, de, eq⟩ := by exact rfl) (hk : (Nat.blt 0 i6 && Nat.beq ze.length i6) = true := by exact rfl) :
  Reg P F0 w0 dr ops K (⟨some d, .call ⟨.builtin .append, #[x, y], #[t, t]⟩, ty, pos, iU, g⟩ :: rest) ⟨n, sl, mem, ck, df⟩ acc := by
 subst hl; subst j6
 refine Yu (R := fun v m' c' jx => (∃ b' rz, 0 < rz ∧ j + ys.length ≤ rz ∧ rz ≤ maxLen ∧ v = .c (.d (.lit (.slice (some ⟨b', 0, none⟩) (j + ys.length) rz))) ∧ m' = mem.set r (.arrc (ck + 1) e i6 (es.take j ++ ys) b' rz) ∧ c' = ck + 1) ∧ jx = []) kV hw (Tc fun E w ρ j0 hρ => ?_) ?_
 ·have e1 := hρ x (by simp [Op.operands, Call.operands])
  have e2 := hρ y (by simp [Op.operands, Call.operands])
  rw [hx] at e1; rw [hy] at e2
  have e1 := e1.lit_inv
  obtain ⟨a1, a2, a3, a4, a5⟩ := i
  simp only at hi
  subst hi
  simp only [BM, Sd, Md, Nat.blt, Tq] at hk
  have lu : SRep E w (ρ x) (.c (.arr r k j)) := by rw [e1]; exact .c (j0.handle hm hc)
  have si : EZ T ⟨0, [], mem.set r (.arr k e i6 es), ck, []⟩ t (.c (.arr r k j)) u (some 0) fun τ => τ.mem = mem.set r (.arr (ck + 1) e i6 (es.take j ++ ys)) ∧ τ.clock = ck + 1 ∧ τ.slots = [(0, .c (.arr r (ck + 1) (j + ys.length)))] := by
    simp only [EZ, ht, jg, hs, BV hm, ZH]
    exact ⟨hk.1, hk.2, j3, trivial, trivial, trivial, hj, by simp only [maxLen]; omega, lp, rfl, rfl, rfl⟩
  obtain ⟨v', w', E', f', iY, x', q1, q2, q3, q4, q5, q6, q7⟩ := Mf (P := P) (ty := ty) tc.ok (σ := ⟨0, [], mem.set r (.arr k e i6 es), ck, []⟩) (j0.toArr hm) lu e2 si
  simp only [St.putO, St.put] at q5 q6 q7
  subst q5; subst q6
  simp only [XV, HK, true_and, and_true] at q7
  subst q7
  have pL : (mem.set r (Blk.arr (ck + 1) e i6 (es.take j ++ ys)))[r]? = some (.arr (ck + 1) e i6 (es.take j ++ ys)) := BV hm
  have ho := q3.mem.ok r _ pL
  rcases q4.arr_inv ho.1 with ⟨_, q, _⟩ | ⟨lD, rfl⟩
  · omega
  · have yD : (es.take j ++ ys).length = j + ys.length := by simp; omega
    have h4 := ho.2.2.2.1
    have h5 := ho.2.2.2.2.1
    have hq := q3.toArrc pL
    rw [ZH] at hq
    exact ⟨_, w', E', _, _, _, by simp [execOp, resolve, invoke, builtin, q1], q2, hq, .c (.d (.lit _ rfl)), E'.blk r, E'.cap r, lD, by omega, h5, rfl, rfl, rfl⟩
 ·rintro v m' c' jx ⟨⟨b', rz, h1, h2, h3, rfl, rfl, rfl⟩, rfl⟩
  exact h b' rz h1 h2 h3
theorem OY [tc : TC P T] {ei : TI} {o off sc : Nat} {ji : List (List Dat)} {f' : List Blk}
  (h : Reg P F0 w0 dr ops K rest ⟨n, sl, f', ck, df⟩ (2 :: acc)) (hm : mem[r]? = some (.arrc k iX ei.size es b c)) (hc : 0 < c) (ho : o ≤ es.length) (vg : o + m ≤ c) (rA : m = 0 ∨ off = o * ei.size) (j6 : es.take o = ji) (hw : GW ops g sl := by first | exact trivial | exact rfl)
  (hx : AH sl x = .c (.d (.lit (.slice (some ⟨b, off, none⟩) m sc))) := by exact rfl) (ht : T t = some i := by exact rfl) (hi : i.desc = .slice e := by exact rfl) (jg : T e = some ei := by exact rfl) (hk : (Nat.blt 0 ei.size && Nat.beq ei.zero.length ei.size) = true := by exact rfl) (iZ : mem.set r (.arrc k iX ei.size ji b c) = f' := by repeat' (first | exact A6 rfl | apply AG rfl)) :
  Reg P F0 w0 dr ops K (⟨none, .call ⟨.builtin .clear, #[x], #[t]⟩, ty, pos, iU, g⟩ :: rest) ⟨n, sl, mem, ck, df⟩ acc := by
 subst iZ; subst j6
 refine IE (jx := []) (v := .junk) hw (BF fun E w ρ j0 hρ => ?_) h
 have e1 := hρ x (by simp [Op.operands, Call.operands])
 rw [hx] at e1
 have e1 := e1.lit_inv
 simp only [BM, Sd, Md, Nat.blt, Tq] at hk
 obtain ⟨h1, h2, h3, h4, h5, h6, h7, h8, h9, cur, g1, g2, g3, g4⟩ := j0.cells hm hc
 have x4 := tc.ok e ei jg
 obtain ⟨fi, zz, k6, kr, jb, kG, kq⟩ := x4.info
 have hu : P.underlying t = some (.slice e) := by have := (tc.ok t i ht).desc; rw [hi] at this; exact this
 have yE : zz.cells.size = ei.size := by rw [kq]; simpa using hk.2
 have lj : ∀ v ∈ zz.cells, v.oneCell' = true := fun v hv => x4.ones v (by rw [kq] at hv; simpa using hv)
 have tj : ∀ {w' : World} {ou : Array Value}, (EnvLe E w E w' → w'.heap[b]? = some (.cells ou iX (0, 0)) → ou.size = c * ei.size → (∀ v ∈ ou, v.oneCell' = true) → (∀ q, q < o * ei.size → ou[q]? = cur[q]?) → BlkOk w0.heap.size E w' r (.arrc k iX ei.size (es.take o) b c)) := by
  intro w' ou hle q1 q2 q3 q4
  refine ⟨⟨h1, h2, fun el jo => h3 el (I0 jo), by rw [h9]; simp; omega, by rw [h9]; exact h5, .inr ⟨by rw [h8]; exact h6, by rw [h8]; exact h7, ou, by rw [h8]; exact q1, by rw [q2, h9], q3, fun i j el v xx r1 r2 r3 => ?_⟩⟩, h9, h8⟩
  rw [Mc] at r1
  split at r1
  · rename_i yF
    have hj : j < ei.size := by have := lt_of_getElem? r2; rw [h3 el (Cb r1)] at this; exact this
    have : (i + 1) * ei.size ≤ o * ei.size := HJ _ yF
    rw [Gg, Kf] at this
    rw [q4 _ (by omega)] at r3
    exact (g4 i j el v xx r1 r2 (by simpa using r3)).le hle
  · cases r1
 rcases ZB m with rfl | sv
 ·refine ⟨.tuple #[], w, E, by simp [execOp, resolve, invoke, builtin, e1, Builtin.clear_, run_underlying hu], EnvLe.refl _ _, ?_, .junk _⟩
  exact j0.swap r _ _ hm (fun q => q) (tj (EnvLe.refl _ _) g1 g2 g3 (fun _ _ => rfl))
 ·have rA : off = o * ei.size := by
    rcases rA with q | q
    · omega
    · exact q
  subst rA
  have mE : (Builtin.zeroCells zz.cells m).toList.length = m * ei.size := by rw [U2, size_zeroCells, yE]
  have j8 : o * ei.size + (Builtin.zeroCells zz.cells m).toList.length ≤ cur.toList.length := by
    rw [mE, ← Gg, U2, g2]; exact HJ _ vg
  have kp := run_storeCells_at P b (o * ei.size) iX (Builtin.zeroCells zz.cells m).toList 0 cur w g1 (by simpa using j8) (fun v hv => lj v (Fg (by simpa using hv)))
  simp only [Nat.add_zero] at kp
  have hp := j0.poke (w' := w.setRow b (cur.toList.take (o * ei.size) ++ (Builtin.zeroCells zz.cells m).toList ++ cur.toList.drop (o * ei.size + (Builtin.zeroCells zz.cells m).toList.length)).toArray) r _ (.arrc k iX ei.size (es.take o) b c) hm (show E.cap r ≠ 0 by omega) (fun q => q) (CO w _ _ h6) (fun i hi => setRow_other w _ i _ (by rw [← h8]; exact hi)) fun hle => tj hle (setRow_heap w _ cur _ iX _ g1) (by
      have := By (l := cur.toList) (m := (Builtin.zeroCells zz.cells m).toList) (o := o * ei.size) j8
      rw [XT, this, U2, g2]) (fun v hv => DR (m := (Builtin.zeroCells zz.cells m).toList) g3 (fun v hv => lj v (Fg (Array.mem_toList_iff.1 hv))) (List.mem_toArray.1 hv)) (fun q hq => by
      rw [XM, getElem?_splice j8, if_pos hq, LV])
  have lY : (zeroValue e).run P w = .ok zz w := by simp [zeroValue, typeInfo, k6, kG]
  have j7 : (Builtin.clear_ #[t] ty #[.slice (some ⟨b, o * ei.size, none⟩) m sc]).run P w = .ok (.tuple #[]) (w.setRow b (cur.toList.take (o * ei.size) ++ (Builtin.zeroCells zz.cells m).toList ++ cur.toList.drop (o * ei.size + (Builtin.zeroCells zz.cells m).toList.length)).toArray) := by
    cases m with
    | zero => omega
    | succ m => simp [Builtin.clear_, run_underlying hu, lY, kp]
  exact ⟨.tuple #[], _, E, by simp [execOp, resolve, invoke, builtin, e1, j7], hp.2, hp.1, .junk _⟩
end
section
variable {P : Program} {T : TypeId → Option TI} {B : Base} {Q : Ex → St → Prop} {n : Nat} {sl : List (Nat × SVal)} {mem : List Blk} {ck : Nat} {df : List (FuncId × List Cell)}
theorem Fu {E : Env} {w : World} {tm : Nat → Value} {t : Nat} {v : SVal} (h : ∀ s, SRep E w (tm s) (look sl s)) (hv : SRep E w (tm t) v) : ∀ s, SRep E w (tm s) (look ((t, v) :: sl) s) := by
 intro s
 rw [BB]
 split
 ·rename_i q; subst q; exact hv
 ·exact h s
theorem ZQ (t : Nat) {c : Code} (ht : look sl t = .c (.arr r k m)) (hm : mem[r]? = some (.arr k iX i6 es))
  (h0 : es = [] → m = 0 → ARun P B c ⟨n, (t, .c .emp) :: sl, mem, ck, df⟩ Q)
  (h1 : ∀ b c', 0 < c' → es.length ≤ c' → c' ≤ maxLen → ARun P B c ⟨n, (t, .c (.d (.lit (.slice (some ⟨b, 0, none⟩) m c')))) :: sl, mem.set r (.arrc k iX i6 es b c'), ck, df⟩ Q) : ARun P B c ⟨n, sl, mem, ck, df⟩ Q := by
 rintro a w ⟨E, ⟨hw, j3, ml, jy⟩, hle⟩
 have e1 : SRep E w (a.tmps.getD t undef) (.c (.arr r k m)) := by rw [← ht]; exact jy t
 have ho := hw.mem.ok r _ hm
 rcases e1.arr_inv ho.1 with ⟨q1, q2, aa, q3⟩ | ⟨q1, q2⟩
 ·have j6 : es = [] := by
    have := ho.2.2.2.1
    exact XP (by omega)
  exact h0 j6 q2 a w ⟨E, ⟨hw, j3, ml, Fu jy (by rw [q3]; exact .c (.emp _))⟩, hle⟩
 ·exact h1 (E.blk r) (E.cap r) q1 ho.2.2.2.1 ho.2.2.2.2.1 a w ⟨E, ⟨hw.toArrc hm, j3, ml, Fu jy (by rw [q2]; exact .c (.d (.lit _ rfl)))⟩, hle⟩
theorem Sp (t : Nat) {m1 : List Blk} {c : Code} (h : ARun P B c ⟨n, (t, .c (.arr r k m)) :: sl, m1, ck, df⟩ Q) (hm : mem[r]? = some (.arrc k iX i6 es b c')) (hc : 0 < c') (ht : look sl t = .c (.d (.lit (.slice (some ⟨b, 0, none⟩) m c'))) := by exact rfl)
  (lq : mem.set r (.arr k iX i6 es) = m1 := by repeat' (first | exact A6 rfl | apply AG rfl)) : ARun P B c ⟨n, sl, mem, ck, df⟩ Q := by
 subst lq
 rintro a w ⟨E, ⟨hw, j3, ml, jy⟩, hle⟩
 have e1 : SRep E w (a.tmps.getD t undef) (.c (.d (.lit (.slice (some ⟨b, 0, none⟩) m c')))) := by rw [← ht]; exact jy t
 have e2 := e1.lit_inv
 exact h a w ⟨E, ⟨hw.toArr hm, j3, ml, Fu jy (by rw [e2]; exact .c (hw.handle hm hc))⟩, hle⟩
theorem gA (r r' : Nat) {m1 : List Blk} {c : Code} (h : ARun P B c ⟨n, sl, m1, ck + 1, df⟩ Q) (hm : mem[r']? = some (.arrc k iX i6 es b c')) (hc : 0 < c') (lq : (mem.set r' .dead).set r (.arrc (ck + 1) iX i6 es b c') = m1 := by repeat' (first | exact A6 rfl | apply AG rfl)) : ARun P B c ⟨n, sl, mem, ck, df⟩ Q := by
 subst lq
 rintro a w ⟨E, ⟨hw, j3, ml, jy⟩, hle⟩
 obtain ⟨h1, h2, h3, h4, h5, h6, h7, h8, h9, cur, g1, g2, g3, g4⟩ := hw.cells hm hc
 have hd : WOk B.F0 B.w0 E w (mem.set r' .dead) ck := hw.drop fun s x hx hl => by
  rcases Bj r' _ s x hx with ⟨rfl, rfl⟩ | ⟨_, jj⟩
  ·exact hl.elim
  ·exact jj
 have ht := hd.turn (w' := w) r b c' (ck + 1) (.arrc (ck + 1) iX i6 es b c') _ (dI ck) (Nat.le_refl _) (Bj r _) (Bel.refl _ _) (fun _ _ _ => rfl) (fun s x hs hx hh => by
  rcases Bj r' _ s x hx with ⟨rfl, rfl⟩ | ⟨kE, jj⟩
  ·exact hh.elim
  ·rw [← h8]; exact hw.mem.apart s r' x _ jj hm hh (show E.cap r' ≠ 0 by omega) kE) h7 (by
  refine ⟨⟨by simp [Env.upd], h2, h3, by simp only [Env.upd, if_true]; exact h4, by simp only [Env.upd, if_true]; exact h5, .inr ⟨by simp only [Env.upd, if_true]; exact h6, by simp only [Env.upd, if_true]; exact h7, cur, by simp only [Env.upd, if_true]; exact g1, by simp only [Env.upd, if_true]; exact g2, g3, fun i j e v x q1 q2 q3 => ?_⟩⟩, by simp [Env.upd], by simp [Env.upd]⟩
  exact g4 i j e v x q1 q2 (by simpa using q3))
 exact h a w ⟨_, ⟨ht.1, j3, ml.le ht.2, fun s => (jy s).le ht.2⟩, hle.trans ht.2⟩
end
end Go.Abs
end
