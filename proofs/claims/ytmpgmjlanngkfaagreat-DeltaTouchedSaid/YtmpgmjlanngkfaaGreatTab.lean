/-
  The tape: valid bags.
-/
import Derived.Test.YtmpgmjlanngkfaaGreatMrg
import Derived.Test.YtmpgmjlanngkfaaGreatRowc
import Derived.Test.YtmpgmjlanngkfaaGreatTny
section
namespace Go.Proofs.YtmpgmjlanngkfaaGreat
open Go.Abs Go.RowKit
attribute [local irreducible] ARun Aq MCall PCall HCall Am SF CF CFs Af Al Ap B5 AW VLe
set_option linter.unusedSimpArgs false
set_option maxRecDepth 100000
set_option maxHeartbeats 4000000
variable {s : Int}
theorem OZ : DeferOk Tryz.prog 46 0 := by
 refine ⟨⟨_, Tryz.func46, by kernel_rfl, by kernel_rfl⟩, fun vs w hl => ?_⟩
 match vs, hl with
 | [], _ =>
   refine callsD_of_wpS Tryz.func46 rfl fun c₀ cs hu => ?_
   apply wpS_region
   simp [wpOpsS, go_sem, recoverD, hu, Tryz.ntmps46, Exit.thenS]
   cases c₀
   simp_all [bodyPostS, results, Tryz.results46]
theorem FV : DeferOk Tryz.prog 94 0 := by
 refine ⟨⟨_, Tryz.func94, by kernel_rfl, by kernel_rfl⟩, fun vs w hl => ?_⟩
 match vs, hl with
 | [], _ =>
   refine callsD_of_wpS Tryz.func94 rfl fun c₀ cs hu => ?_
   apply wpS_region
   simp [wpOpsS, go_sem, recoverD, hu, Tryz.ntmps94, Exit.thenS]
   cases c₀
   simp_all [bodyPostS, results, Tryz.results94]
def Bj (s : Int) (a b : List Entry) : List Entry × Int := if Aj a ∧ Aj b then AQ (mergeE a (b.map (sc s))) else ([], 1)
theorem PW (a b : List Entry) : PC 19 [.one (Ao a), .one (Ao b)] (.tup [.one (Ao (Bj 1 a b).1), .one (.lit (.int .i64 (Bj 1 a b).2))]) := by
 have h1 := Cb a
 have h2 := Cb b
 by_cases ha : Aj a = true
 ·by_cases hb : Aj b = true
  ·have hm := Oi a b 1 (.inl rfl) ha hb
   have he : Bj 1 a b = AQ (mergeE a (b.map (sc 1))) := if_pos ⟨ha, hb⟩
   rw [he]
   generalize AQ (mergeE a (b.map (sc 1))) = R at hm
   obtain ⟨r, er⟩ := R
   dsimp only at hm ⊢
   rw [ha] at h1
   rw [hb] at h2
   refine Ad hT Tryz.func19 Tryz.ntmps19 [.tmp 4, .tmp 5] fun B => ?_
   repeat' first | refine kz ?_ | refine Aa (h1) ?_ | refine Aa (h2) ?_ | refine Aa (hm) ?_ | refine Ar (by repeat (first | exact Ac | refine Ah OZ ?_)) ?_ ?_ | refine kf ?_ | fail
   all_goals rfl
  ·have he : Bj 1 a b = ([], 1) := if_neg (fun q => hb q.2)
   rw [he]
   rw [ha] at h1
   rw [show Aj b = false by simpa using hb] at h2
   refine Ad hT Tryz.func19 Tryz.ntmps19 [.tmp 4, .tmp 5] fun B => ?_
   repeat' first | refine kz ?_ | refine Aa (h1) ?_ | refine Aa (h2) ?_ | refine Ar (by repeat (first | exact Ac | refine Ah OZ ?_)) ?_ ?_ | refine kf ?_ | fail
   all_goals rfl
 ·have he : Bj 1 a b = ([], 1) := if_neg (fun q => ha q.1)
  rw [he]
  rw [show Aj a = false by simpa using ha] at h1
  refine Ad hT Tryz.func19 Tryz.ntmps19 [.tmp 4, .tmp 5] fun B => ?_
  repeat' first | refine kz ?_ | refine Aa (h1) ?_ | refine Aa (h2) ?_ | refine Ar (by repeat (first | exact Ac | refine Ah OZ ?_)) ?_ ?_ | refine kf ?_ | fail
  all_goals rfl
theorem Jw (a b : List Entry) : PC 45 [.one (Ao a), .one (Ao b)] (.tup [.one (Ao (Bj (-1) a b).1), .one (.lit (.int .i64 (Bj (-1) a b).2))]) := by
 have h1 := Cb a
 have h2 := Cb b
 by_cases ha : Aj a = true
 ·by_cases hb : Aj b = true
  ·have hm := Oi a b (-1) (.inr rfl) ha hb
   have he : Bj (-1) a b = AQ (mergeE a (b.map (sc (-1)))) := if_pos ⟨ha, hb⟩
   rw [he]
   generalize AQ (mergeE a (b.map (sc (-1)))) = R at hm
   obtain ⟨r, er⟩ := R
   dsimp only at hm ⊢
   rw [ha] at h1
   rw [hb] at h2
   refine Ad hT Tryz.func45 Tryz.ntmps45 [.tmp 4, .tmp 5] fun B => ?_
   repeat' first | refine kz ?_ | refine Aa (h1) ?_ | refine Aa (h2) ?_ | refine Aa (hm) ?_ | refine Ar (by repeat (first | exact Ac | refine Ah FV ?_)) ?_ ?_ | refine kf ?_ | fail
   all_goals rfl
  ·have he : Bj (-1) a b = ([], 1) := if_neg (fun q => hb q.2)
   rw [he]
   rw [ha] at h1
   rw [show Aj b = false by simpa using hb] at h2
   refine Ad hT Tryz.func45 Tryz.ntmps45 [.tmp 4, .tmp 5] fun B => ?_
   repeat' first | refine kz ?_ | refine Aa (h1) ?_ | refine Aa (h2) ?_ | refine Ar (by repeat (first | exact Ac | refine Ah FV ?_)) ?_ ?_ | refine kf ?_ | fail
   all_goals rfl
 ·have he : Bj (-1) a b = ([], 1) := if_neg (fun q => ha q.1)
  rw [he]
  rw [show Aj a = false by simpa using ha] at h1
  refine Ad hT Tryz.func45 Tryz.ntmps45 [.tmp 4, .tmp 5] fun B => ?_
  repeat' first | refine kz ?_ | refine Aa (h1) ?_ | refine Aa (h2) ?_ | refine Ar (by repeat (first | exact Ac | refine Ah FV ?_)) ?_ ?_ | refine kf ?_ | fail
  all_goals rfl
theorem Us (s : Int) (l : List Entry) (r : List Val) : AZ (l.map (sc s)) r = s * AZ l r := by
 induction l with
 | nil => simp [AZ]
 | cons e l ih =>
   simp only [List.map_cons, AZ, ih, Int.mul_add]
   congr 1
   show (if Ai e.row r = 0 then s * e.count else 0) = _
   split <;> simp
theorem QM (hs : s = 1 ∨ s = -1) {l : List Entry} (h : Sorted l) : Sorted (l.map (sc s)) := by
 refine ⟨?_, fun e he => ?_, fun e he => ?_⟩
 ·rw [X3]; exact h.up
 ·obtain ⟨x, hx, rfl⟩ := List.mem_map.1 he
  have := h.nz x hx
  show s * x.count ≠ 0
  rcases hs with rfl | rfl <;> omega
 ·obtain ⟨x, hx, rfl⟩ := List.mem_map.1 he
  exact h.cl x hx
theorem QN (hs : s = 1 ∨ s = -1) {M : Int} {l : List Entry} (h : A6 M l) : A6 M (l.map (sc s)) := fun e he => by
 obtain ⟨x, hx, rfl⟩ := List.mem_map.1 he
 have := h x hx
 show -M ≤ s * x.count ∧ s * x.count ≤ M
 rcases hs with rfl | rfl <;> omega
theorem Jx (hs : s = 1 ∨ s = -1) {a b : List Entry} {M N : Int} (ha : Aj a = true) (hb : Aj b = true) (wa : A6 M a) (wb : A6 N b) (hM : 0 ≤ M) (hN : 0 ≤ N) (hMN : M + N ≤ 262144) (hl : a.length + b.length ≤ 4096) :
  (Bj s a b).2 = 0 ∧ Aj (Bj s a b).1 = true ∧ A6 (M + N) (Bj s a b).1 ∧ (Bj s a b).1.length ≤ a.length + b.length ∧ ∀ r, AZ (Bj s a b).1 r = AZ a r + s * AZ b r := by
 have he : Bj s a b = AQ (mergeE a (b.map (sc s))) := if_pos ⟨ha, hb⟩
 have hsa := A3 ha
 have hsb := QM hs (A3 hb)
 have hw := ET hM hN a (b.map (sc s)) wa (QN hs wb)
 have hlen := Fv a (b.map (sc s))
 rw [BT] at hlen
 have hso := GY _ _ hsa hsb
 have hfit : AQ (mergeE a (b.map (sc s))) = (mergeE a (b.map (sc s)), 0) := by
  rw [AQ, if_neg (by omega), if_pos]
  refine Ec.2 fun e he => ?_
  have := hw e he
  simp only [AH, BO, decide_eq_true_eq]
  omega
 rw [he, hfit]
 refine ⟨rfl, ?_, hw, hlen, fun r => by rw [IV, Us]⟩
 simp only [Aj, BO, decide_eq_true_eq]
 refine ⟨by omega, Gr (fun e hm => ?_) hso.up (by simp)⟩
 obtain ⟨x, hx, hr⟩ := Dz _ _ e hm
 have hrow : A7 e.row = true := by
  rw [← hr]
  rcases hx with hx | hx
  · exact ((AG ha).2 x hx).1
  · obtain ⟨y, hy, rfl⟩ := List.mem_map.1 hx
    exact ((AG hb).2 y hy).1
 have hcw := hw e hm
 simp only [Entry.ok, AH, BO, decide_eq_true_eq]
 exact ⟨⟨hrow, by omega, by omega⟩, hso.nz e hm⟩
end Go.Proofs.YtmpgmjlanngkfaaGreat
end
section
namespace Go.Abs
open Go.RowKit
section
variable {P : Program} {T : TypeId → Option TI} {F0 : Nat → Prop} {w0 w : World} {E : Env} {mem : List Blk} {clock : Nat}
theorem WOk.holeArr {w' : World} (h : WOk F0 w0 E w mem clock) {r k : Nat} (hr : mem[r]? = some (.hole k)) (hk : k ≤ clock) (ety : TypeId) (esz cap : Nat) (es : List (List Dat)) (hesz : 0 < esz) (hes : ∀ e, e ∈ es → e.length = esz) (hcap : es.length ≤ cap) (hmax : cap ≤ maxLen)
  (hbel : Bel w0.heap.size w w') (hold : ∀ i, i < w.heap.size → w'.heap[i]? = w.heap[i]?)
  (hc : cap = 0 ∨ ∃ c, w'.heap[w.heap.size]? = some (.cells c ety (0, 0)) ∧ c.size = cap * esz ∧ (∀ v ∈ c, v.oneCell' = true) ∧ ∀ (i j : Nat) e v x, es[i]? = some e → e[j]? = some x → c[i * esz + j]? = some v → DRep E.F w v x) :
  let E' := E.upd r w.heap.size cap k
  WOk F0 w0 E' w' (mem.set r (.arr k ety esz es)) clock ∧ EnvLe E w E' w' := by
 intro E'
 have hf := h.fresh
 have hv : E.ver r < k := h.mem.ok r _ hr
 have hle : EnvLe E w E' w' := Env.upd_le _ _ _ _ hv (fun i hi => hold i (h.FN i hi))
 refine h.turnV r _ _ k _ _ hv (Nat.le_refl _) hk (AX r _) hbel (fun i hi _ => hold i hi) (fun s x _ hx hh => hf.2 s x hx hh) hf.1 ?_
 refine ⟨by simp [Env.upd], hesz, hes, by simpa [Env.upd] using hcap, by simpa [Env.upd] using hmax, ?_⟩
 rcases hc with hc | ⟨c, h1, h2, h0, h3⟩
 ·exact .inl (by simp [Env.upd, hc])
 ·refine .inr ⟨by simp [Env.upd]; exact h.le0, by simp only [Env.upd, if_true]; exact hf.1, c, by simp only [Env.upd, if_true]; exact h1, by simpa [Env.upd] using h2, h0, fun i j e v x a b d => (h3 i j e v x a b d).le hle⟩
end
section
variable {P : Program} {T : TypeId → Option TI} {F0 : Nat → Prop} {w0 : World}
variable {dr : Bool} {ops rest : List Oper} {K : St → Prop} {n : Nat} {sl : List (Nat × SVal)} {mem : List Blk} {ck : Nat} {df : List (FuncId × List Cell)} {acc : List Nat}
variable {d : Tmp} {op : Op} {ty : TypeId} {pos : String} {aft : Array Edge} {g : Option (Nat × Bool)}
theorem Oc [tc : TC P T] {s : TypeId} {f : Nat} {x : Operand} {i j : TI} {fs : List (Nat × TypeId)} {off : Nat} {ft : TypeId} {r k o : Nat} {cs : List Cell} (h : Reg P F0 w0 dr ops K rest ⟨n, (d, .c (.bp r k (o + off))) :: sl, mem, ck, df⟩ (B3 r true :: acc)) (hw : GW ops g sl := by first | exact trivial | exact rfl) (hx : AO sl x = .c (.bp r k o) := by exact rfl) (hs : T s = some i := by exact rfl) (hi : i.desc = .struct fs := by exact rfl) (hf : fs[f]? = some (off, ft) := by exact rfl) (hj : T ft = some j := by exact rfl) (hz : decide (j.size ≠ 0) = true := by exact rfl) (hm : mem[r]? = some (.box k cs) := by exact rfl) :
  Reg P F0 w0 dr ops K (⟨some d, .fieldAddr s x f, ty, pos, aft, g⟩ :: rest) ⟨n, sl, mem, ck, df⟩ acc :=
 SJ hw hm (fun mem ck hm => Does.of tc.ok fun τ he hmm hc Kk hK => by
  subst hmm; subst hc
  have ex := he x (by simp [Op.operands])
  rw [hx] at ex
  obtain ⟨a1, a2, a3, a4, a5⟩ := i
  simp only at hi
  subst hi
  simp only [AP, FP, hs, hf, hj, ex, Dt, hm]
  exact ⟨by simpa using hz, trivial, hK _ _ _ _ ⟨rfl, rfl, rfl, rfl⟩⟩) h
theorem Od [tc : TC P T] {t : TypeId} {x : Operand} {i : TI} {r k o : Nat} {cs : List Cell} {y : Cell} (h : Reg P F0 w0 dr ops K rest ⟨n, (d, .c y) :: sl, mem, ck, df⟩ (B3 r true :: acc)) (hw : GW ops g sl := by first | exact trivial | exact rfl) (hx : AO sl x = .c (.bp r k o) := by exact rfl) (ht : T t = some i := by exact rfl) (ha : i.desc.agg = false := by exact rfl) (hs : i.size = 1 := by exact rfl) (hm : mem[r]? = some (.box k cs) := by exact rfl) (hy : cs[o]? = some y := by exact rfl) :
  Reg P F0 w0 dr ops K (⟨some d, .load t x, ty, pos, aft, g⟩ :: rest) ⟨n, sl, mem, ck, df⟩ acc :=
 SJ hw hm (fun mem ck hm => Does.of tc.ok fun τ he hmm hc Kk hK => by
  subst hmm; subst hc
  have ex := he x (by simp [Op.operands])
  rw [hx] at ex
  have hlt := lt_of_getElem? hy
  have e1 : (cs.drop o).take 1 = [y] := by
   rw [XZ hlt]
   rw [Bi hlt] at hy
   simp at hy
   simp [hy]
  simp only [AP, Dq, ht, ex, ha, hs, hm]
  refine ⟨.inr trivial, trivial, hlt, ?_⟩
  rw [e1]
  exact hK _ _ _ _ ⟨rfl, rfl, rfl, rfl⟩) h
end
end Go.Abs
end
section
namespace Go.Proofs.YtmpgmjlanngkfaaGreat
open Go.Abs Go.RowKit
attribute [local irreducible] ARun Aq MCall PCall HCall Am SF CF CFs Af Al Ap B5 AW VLe
set_option linter.unusedSimpArgs false
set_option maxRecDepth 100000
set_option maxHeartbeats 4000000
theorem Ko : Val.null.valid = true := by decide +kernel
theorem TM {α β : Type} {f g : α → β} {l : List α} {i : Nat} {e : α} (h : l[i]? = some e) : ((l.take i).map f ++ (l.drop i).map g)[i]? = some (g e) := by
 have hlt := lt_of_getElem? h
 rw [LH (by simp; omega), BT, Hn, X6 (by omega), MF, Az h]; rfl
theorem map_set {α β : Type} {f g : α → β} {l : List α} {i : Nat} {e : α} (h : l[i]? = some e) : ((l.take i).map f ++ (l.drop i).map g).set i (f e) = (l.take (i + 1)).map f ++ (l.drop (i + 1)).map g := by
 have hlt := lt_of_getElem? h
 have hl : ((l.take i).map f).length = i := by simp; omega
 rw [Gh f h, Az h, VL _ _ (by omega), hl, MF, G1]; rfl
theorem OD {β : Type} {l : List β} {i : Nat} {v : β} (h : l[i]? = some v) : l.set i v = l := by
 apply QG
 intro j
 by_cases hj : i = j
 ·subst hj; rw [ON (lt_of_getElem? h), h]
 ·rw [OO hj]
theorem OE (t : Tape) : t.short.valid = true := by
 have h : ∀ v ∈ shortVals, v.valid = true := by
   intro v hv
   simp only [shortVals, Dp, List.not_mem_nil, or_false] at hv
   rcases hv with rfl | rfl | rfl | rfl | rfl | rfl
   ·exact Ko
   all_goals exact D2 _
 unfold Tape.short
 rw [OM]
 cases hq : shortVals[(t.nx 6).toNat]? with
 | none => exact Ko
 | some v => exact h v (Df hq)
theorem Xt (t : Tape) : -3 ≤ t.num ∧ t.num ≤ 3 := by
 have h : ∀ z ∈ entNums, -3 ≤ z ∧ z ≤ 3 := by decide
 unfold Tape.num
 rw [OM]
 cases hq : entNums[(t.nx 8).toNat]? with
 | none => decide
 | some v => exact h v (Df hq)
theorem Kp (t : Tape) : ∀ j, ∀ v ∈ (Dn t j).1, v.valid = true
 | 0 => by simp [Dn]
 | j + 1 => by
   intro v hv
   rw [Dn] at hv
   rcases Gn.1 hv with hv | hv
   ·exact Kp t j v hv
   ·obtain rfl := OP.1 hv; exact OE _
theorem Kq (t : Tape) : ∀ j, (Dn t j).1.length = j
 | 0 => rfl
 | j + 1 => by rw [Dn]; simp [Kq t j]
theorem Iw (t : Tape) (w : Nat) (hw : w ≤ 16) : ∀ m, ∀ e ∈ (DA t w m).1, A7 e.row = true ∧ -3 ≤ e.count ∧ e.count ≤ 3
 | 0 => by simp [DA]
 | m + 1 => by
   intro e he
   rw [DA] at he
   rcases Gn.1 he with he | he
   ·exact Iw t w hw m e he
   ·obtain rfl := OP.1 he
    refine ⟨?_, Xt _⟩
    simp only [A7, BO, decide_eq_true_eq, Ec]
    exact ⟨by rw [Kq]; exact hw, Kp _ _⟩
theorem Kr (t : Tape) (w : Nat) : ∀ m, ∀ e ∈ (DA t w m).1, e.row.length = w
 | 0 => by simp [DA]
 | m + 1 => by
   intro e he
   rw [DA] at he
   rcases Gn.1 he with he | he
   ·exact Kr t w m e he
   ·obtain rfl := OP.1 he
    exact Kq _ _
theorem KI (M : Int) (hM : 0 ≤ M) (l : List Entry) : A6 M l → A6 (M * l.length) (sortE l) := by
 induction l using sortE.induct with
 | case1 l h =>
   intro hw
   rw [sortE, dif_pos h]
   intro e he
   have hm := (KB.1 he).1
   have := hw e hm
   have hl : l.length = 1 := by cases l <;> simp at hm h ⊢; omega
   rw [hl]; omega
 | case2 l h ih1 ih2 =>
   intro hw
   rw [sortE, dif_neg h]
   have q1 := ih1 (fun e he => hw e (Ji he))
   have q2 := ih2 (fun e he => hw e (Uc he))
   have p1 := Ys hM (show (0 : Int) ≤ ((l.take (l.length / 2)).length : Int) by omega)
   have p2 := Ys hM (show (0 : Int) ≤ ((l.drop (l.length / 2)).length : Int) by omega)
   refine BX (ET p1 p2 _ _ q1 q2) ?_
   rw [← Int.mul_add]
   refine Int.mul_le_mul_of_nonneg_left ?_ hM
   simp; omega
theorem Ks {l : List Entry} (h : ∀ e ∈ l, A7 e.row = true ∧ -3 ≤ e.count ∧ e.count ≤ 3) (hl : l.length ≤ 1000) : (A9 l).2 = 0 ∧ Aj (A9 l).1 = true ∧ A6 3000 (A9 l).1 ∧ (A9 l).1.length ≤ l.length := by
 have hall : l.all AU = true := Ec.2 fun e he => by
  obtain ⟨h1, h2, h3⟩ := h e he
  simp only [AU, AH, BO, decide_eq_true_eq]
  exact ⟨h1, by omega, by omega⟩
 have hw : A6 (3 * l.length) (sortE l) := KI 3 (by omega) l (fun e he => (h e he).2)
 have hw2 : A6 3000 (sortE l) := BX hw (by omega)
 have hlen := GF l
 have hz : (A9 l).2 = 0 := by
  rw [A9, if_pos hall, AQ, if_neg (by omega), if_pos]
  refine Ec.2 fun e he => ?_
  have := hw2 e he
  simp only [AH, BO, decide_eq_true_eq]
  omega
 obtain ⟨g1, g2, g3, g4⟩ := D8 hz
 rw [g1]
 exact ⟨hz, g3, hw2, hlen⟩
def BD (sg : Bool) (e : Entry) : Entry := if sg = false ∧ e.count < 0 then ⟨e.row, -e.count⟩ else e
end Go.Proofs.YtmpgmjlanngkfaaGreat
end
