/-
  Aggregates, plain: the states of small bags are valid, show their groups, and are corrected by a change.
-/
import Derived.Test.YtmpgmjlanngkfaaGreatExn
import Derived.Test.YtmpgmjlanngkfaaGreatVew
import Derived.Test.YtmpgmjlanngkfaaGreatXca
import Derived.Test.YtmpgmjlanngkfaaGreatAgt
import Derived.Test.YtmpgmjlanngkfaaGreatArc
import Derived.Test.YtmpgmjlanngkfaaGreatDex
import Derived.Test.YtmpgmjlanngkfaaGreatAgs
section
namespace Go.Proofs.YtmpgmjlanngkfaaGreat
open Go.Abs Go.RowKit
set_option linter.unusedSimpArgs false
set_option maxRecDepth 100000
def Z4 (e : List Trm) (r : List Val) : Bool := decide (e.length = 0) || Im e r
theorem SB {a d s : List Entry} {A D w : Nat} (ha : Tiny A w a) (hd : Tiny D w d) (hs : Tiny (A + D) w s) (hn : A + D + A ≤ 4096) (h : ∀ g, wS g s = wS g a + wS g d) : Bj (-1) s a = (d, 0) := by
 obtain ⟨x, h1, h2, h3⟩ := Wr hs ha hn
 rw [h1, QB h2.v hd.v fun g => by rw [h3, h]; omega]
end Go.Proofs.YtmpgmjlanngkfaaGreat
end
section
namespace Go.Proofs.YtmpgmjlanngkfaaGreat
open Go.Abs Go.RowKit
attribute [local irreducible] ARun Aq MCall PCall HCall Am SF CF CFs Af Al Ap B5 AW VLe
set_option linter.unusedSimpArgs false
set_option maxRecDepth 100000
set_option maxHeartbeats 4000000
noncomputable def grE (ag : List Agg) (keys : List Itm) (b : List Entry) (k : List Val) : Entry := ⟨grpRow ag (k, b.filter (I2 (Ax keys) k)), 1⟩
theorem Ow {b : List Entry} {keys : List Itm} {ag : List Agg} (h : AA b = true ∧ keys.length + ag.length ≤ 8) : groupE b keys ag = A9 ((CU b (Ax keys)).map (grE ag keys b)) := by
 unfold groupE EY
 rw [if_pos h, X8]; rfl
theorem Dd {b : List Entry} {keys : List Itm} {k : List Val} (h : k ∈ CU b (Ax keys)) : Au k ∧ k.length = keys.length := by
 have hK : BG b (Ax keys) := fun e _ => AR keys e.row
 obtain ⟨_, h2, h3⟩ := B2 hK
 refine ⟨h2 k h, ?_⟩
 obtain ⟨e, _, rfl⟩ := (h3 k).1 h
 exact E0 ..
end Go.Proofs.YtmpgmjlanngkfaaGreat
end
section
namespace Go.Abs
open Go.RowKit
section
variable {P : Program} {T : TypeId → Option TI} {F0 : Nat → Prop} {w0 : World}
variable {dr : Bool} {ops rest : List Oper} {K : St → Prop} {n : Nat} {sl : List (Nat × SVal)} {mem : List Blk} {ck : Nat} {df : List (FuncId × List Cell)} {acc : List Nat}
variable {d : Tmp} {op : Op} {ty : TypeId} {pos : String} {aft : Array Edge} {g : Option (Nat × Bool)}
theorem E1 [tc : TC P T] {t e : TypeId} {x y : Operand} {i ei : TI} {kk : IntKind} {z : Int} {m c' r k b c off j q : Nat} {ety : TypeId} {es : List (List Dat)} (h : Reg P F0 w0 dr ops K rest ⟨n, (d, .c (.ap r k ei.size q 0)) :: sl, mem, ck, df⟩ (1 :: acc)) (hm : mem[r]? = some (.arrc k ety ei.size es b c)) (hz : 0 ≤ z) (hzm : z < (m : Int)) (ho : off = j * ei.size) (hq : q = j + z.toNat) (hw : GW ops g sl := by first | exact trivial | exact rfl)
  (hx : AO sl x = .c (.d (.lit (.slice (some ⟨b, off, none⟩) m c'))) := by exact rfl) (hy : AO sl y = .c (.d (.lit (.int kk z))) := by exact rfl) (ht : T t = some i := by exact rfl) (hi : i.desc = .slice e := by exact rfl) (hei : T e = some ei := by exact rfl) :
  Reg P F0 w0 dr ops K (⟨some d, .indexAddr t x y, ty, pos, aft, g⟩ :: rest) ⟨n, sl, mem, ck, df⟩ acc := by
 subst ho; subst hq
 refine Ez hw hm (fun mem ck hm => B6 fun E w ρ hw' hρ => ?_) h
 have e1 := hρ x (by simp [Op.operands])
 have e2 := hρ y (by simp [Op.operands])
 rw [hx] at e1; rw [hy] at e2
 have e1 := e1.lit_inv
 have e2 := e2.lit_inv
 obtain ⟨⟨o1, o2, o3, o4, o5, o6⟩, o7, o8⟩ := hw'.mem.ok r _ hm
 have hu : P.underlying t = some (.slice e) := by have := (tc.ok t i ht).desc; rw [hi] at this; exact this
 have hsz := (tc.ok e ei hei).sizeOf (w := w)
 refine ⟨.pointer (some ⟨b, j * ei.size + z.toNat * ei.size, none⟩), w, E, ?_, EnvLe.refl _ _, hw', .c (.ap r k ei.size (j + z.toNat) 0 _ rfl (by omega) (fun _ => by rw [o8, Ff]; rfl))⟩
 simp [execOp, e1, e2, Instr.indexAt, asIntOf, run_underlying hu, hz, hzm, hsz, Addr.add_lit]
theorem Hu [tc : TC P T] {t : TypeId} {x : Operand} {i : TI} {r k esz j o b c : Nat} {ety : TypeId} {es : List (List Dat)} {e : List Dat} {y : Dat} (h : Reg P F0 w0 dr ops K rest ⟨n, (d, .c (.d y)) :: sl, mem, ck, df⟩ (1 :: acc)) (hm : mem[r]? = some (.arrc k ety esz es b c)) (he' : es[j]? = some e) (hw : GW ops g sl := by first | exact trivial | exact rfl)
  (hx : AO sl x = .c (.ap r k esz j o) := by exact rfl) (ht : T t = some i := by exact rfl) (ha : i.desc.agg = false := by exact rfl) (hs : i.size = 1 := by exact rfl) (hy : e[o]? = some y := by exact rfl) :
  Reg P F0 w0 dr ops K (⟨some d, .load t x, ty, pos, aft, g⟩ :: rest) ⟨n, sl, mem, ck, df⟩ acc := by
 refine Ez hw hm (fun mem ck hm => B6 fun E w ρ hw' hρ => ?_) h
 have e1 := hρ x (by simp [Op.operands])
 rw [hx] at e1
 have hlt := lt_of_getElem? hy
 have e2 : (e.drop o).take 1 = [y] := by
  rw [XZ hlt]
  rw [Bi hlt] at hy
  simp at hy
  simp [hy]
 have hla : Dq T ⟨0, [], mem.set r (.arr k ety esz es), ck, []⟩ t (.c (.ap r k esz j o)) fun s => s = .c (.d y) := by
  simp only [Dq, ht, ha, hs, Ej hm]
  refine ⟨.inr trivial, trivial, trivial, Ct he' ⟨hlt, ?_⟩⟩
  rw [e2]; rfl
 obtain ⟨v, s, q1, q2, rfl⟩ := LK (P := P) tc.ok (σ := ⟨0, [], mem.set r (.arr k ety esz es), ck, []⟩) (hw'.toArr hm) e1 hla
 exact ⟨v, w, E, by simp [execOp, q1], EnvLe.refl _ _, hw', q2⟩
end
end Go.Abs
end
section
namespace Go.Proofs.YtmpgmjlanngkfaaGreat
open Go.Abs Go.RowKit
attribute [local irreducible] ARun Aq MCall PCall HCall Am SF CF CFs Af Al Ap B5 AW VLe
set_option linter.unusedSimpArgs false
set_option maxRecDepth 100000
set_option maxHeartbeats 4000000
theorem Qy (l : List Int) : PC 70 [.one (FD l), .one (FD l)] (.v (.one (.lit (.bool true)))) := by
 refine Ad hT Tryz.func70 Tryz.ntmps70 [.tmp 4] fun B => ?_
 refine Hy 0 rfl fun hlr => ?_
 simp only [BT, maxLen] at hlr
 repeat' first | refine kz ?_ | refine As ?_ | refine kf ?_ | fail
 refine AY (X := Nat) ([4, 5] ++ List.range' 11 15) (fun x => x ≤ l.length) (fun x lz => (5, (iC x)) :: lz) (fun x => []) (fun x => l.length - x) (0) ?_ ?_ ?_ ?_
 repeat' first | exact k0 | refine kw ?_ | omega
 rintro i c hi
 by_cases hlt : i < l.length
 ·obtain ⟨e, hv⟩ := gx hlt
  repeat' first | refine kz ?_ | refine AT hv ?_ | refine As ?_ | refine kf ?_ | fail
  apply Ae (i + 1) <;> (try dsimp only) <;> try repeat' first | exact k0 | refine kw ?_ | omega
 ·repeat' first | refine kz ?_ | refine As ?_ | refine kf ?_ | fail
  all_goals rfl
theorem Vs (l : List Sta) : PC 29 [.one (I1 l), .one (I1 l)] (.v (.one (.lit (.bool true)))) := by
 refine Ad hT Tryz.func29 Tryz.ntmps29 [.tmp 4] fun B => ?_
 refine Hy 0 rfl fun hlr => ?_
 simp only [BT, maxLen] at hlr
 repeat' first | refine kz ?_ | refine As ?_ | refine kf ?_ | fail
 refine AY (X := Nat) ([4, 5] ++ List.range' 11 59) (fun x => x ≤ l.length) (fun x lz => (5, (iC x)) :: lz) (fun x => []) (fun x => l.length - x) (0) ?_ ?_ ?_ ?_
 repeat' first | exact k0 | refine kw ?_ | omega
 rintro i c hi
 by_cases hlt : i < l.length
 ·obtain ⟨e, hv⟩ := gx hlt
  have hv2 : (l.map Sta.d)[i]? = some e.d := by rw [Ci, hv]; rfl
  have h1 := Kj e.key e.key
  rw [show Br e.key e.key = true from PI.2 rfl] at h1
  have h2 := Qy e.sums
  have h3 := Qy e.some
  repeat' first | refine kz ?_ | refine AT hv2 ?_ | refine As ?_ | refine Aa (h1) ?_ | refine Aa (h2) ?_ | refine Aa (h3) ?_ | refine kf ?_ | fail
  apply Ae (i + 1) <;> (try dsimp only) <;> try repeat' first | exact k0 | refine kw ?_ | omega
 ·repeat' first | refine kz ?_ | refine As ?_ | refine kf ?_ | fail
  all_goals rfl
def ah (t : Int × Int) : Bool := O8 t.1 4611686018427387904 && O8 t.2 1073741824
def aG (s : Sta) : Bool := (s.sums.zip s.some).all ah && O8 s.count 1073741824
def ai (t : Int × Int) : Bool := decide (t.1 = 0) && decide (t.2 = 0)
def aj (s : Sta) : Bool := (s.sums.zip s.some).all ai && decide (s.count = 0)
def TW (G : List Entry → List Itm → List Agg → List Entry × Int) (v : Vw) (j : List Entry) : List Entry × Int :=
 if v.kind = 1 then G (Bm j v.wher) v.items v.aggs
 else if (Hd (Bm j v.wher) (v.items.map Itm.expr)).2 = 0 then
  (if v.distinct = true then (CD (Hd (Bm j v.wher) (v.items.map Itm.expr)).1, 0) else ((Hd (Bm j v.wher) (v.items.map Itm.expr)).1, 0))
 else ([], (Hd (Bm j v.wher) (v.items.map Itm.expr)).2)
theorem OJ (G : List Entry → List Itm → List Agg → List Entry × Int) (v : Vw) (j : List Entry) (hil : v.items.length ≤ 10000) (hg : v.kind = 1 → PC 90 [.one (Ao (Bm j v.wher)), .one (KC v.items), .one (HW v.aggs)] (B4 (G (Bm j v.wher) v.items v.aggs))) : PC 42 [.agg v.d, .one (Ao j)] (B4 (TW G v j)) := by
 have hw := Me j v.wher
 unfold TW
 generalize Bm j v.wher = W at hw hg ⊢
 by_cases hk : v.kind = 1
 ·rw [if_pos hk]
  have hg := hg hk
  generalize G W v.items v.aggs = x at hg ⊢
  dsimp only [B4] at hg ⊢
  refine Ad hT Tryz.func42 Tryz.ntmps42 [.tmp 4, .tmp 5] fun B => ?_
  repeat' first | refine kz ?_ | refine As ?_ | refine Aa (hw) ?_ | refine Aa (hg) ?_ | refine kh ?_ ?_ | exact ⟨⟩ | fail
  all_goals rfl
 rw [if_neg hk]
 clear hg
 have hm := YN W (v.items.map Itm.expr)
 have hs := RH (Hd W (v.items.map Itm.expr)).1
 have hEl : (v.items.map Itm.expr).length = v.items.length := BT _
 have hEi : ∀ i it, v.items[i]? = some it → (v.items.map Itm.expr)[i]? = some (Itm.expr it) := fun i it h => by rw [Ci, h]; rfl
 generalize Hd W (v.items.map Itm.expr) = m at hm hs ⊢
 obtain ⟨m, e⟩ := m
 generalize v.items.map Itm.expr = E at hm hEl hEi
 dsimp only [B4, Pu] at hm hs ⊢
 refine Ad hT Tryz.func42 Tryz.ntmps42 [.tmp 4, .tmp 5] fun B => ?_
 repeat' first | refine kz ?_ | refine As ?_ | refine Aa (hw) ?_ | refine kh ?_ ?_ | exact ⟨⟩ | fail
 refine CN 7 26 1 ?_
 refine AY (X := Nat × Nat) ([7, 9] ++ List.range' 30 10) (fun x => x.1 ≤ v.items.length) (fun x lz => (7, .c (.arr 1 x.2 (E.take x.1).length)) :: (30, (iC x.1)) :: lz) (fun x => [.box 1 (v.d.map .d), .arr x.2 26 1 ((E.take x.1).map fun s => [BR s])]) (fun x => v.items.length - x.1) ((0, 2)) ?_ ?_ ?_ ?_
 repeat' first | exact k0 | refine kw ?_ | refine kv ?_ ?_ | omega
 rintro ⟨i, k⟩ c0 hi
 dsimp only at hi ⊢
 by_cases hlt : i < v.items.length
 ·obtain ⟨it, hv⟩ := gx hlt
  have htk : E.take (i + 1) = E.take i ++ [it.expr] := by rw [KL, hEi i it hv]; rfl
  have htl : (E.take i).length = i := by simp; omega
  repeat' first | refine kz ?_ | refine AT hv ?_ | refine As ?_ | refine kh ?_ ?_ | exact ⟨⟩ | fail
  apply Ae ((i + 1, _)) <;> (try dsimp only) <;> try repeat' first | exact k0 | refine w1 ?_ | refine Ab ?_ | refine m1 ?_ ?_ | omega
  all_goals (rw [htk]; simp)
 ·have hie : i = E.length := by omega
  subst hie
  rw [PQ]
  by_cases he : e = 0
  ·subst he
   rw [if_pos rfl]
   cases hd : v.distinct
   ·rw [if_neg (by simp)]
    repeat' first | refine A8 7 ?_ (hes := show List.take E.length (E.map fun s => [BR s]) = (E.map fun s => [BR s]) from Ua (by simp)) | refine kz ?_ | refine As ?_ | refine Aa (hm) ?_ | refine Ar Ac ?_ ?_ | refine BB ?_ | refine Cf ?_
    all_goals rfl
   ·rw [if_pos rfl]
    repeat' first | refine A8 7 ?_ (hes := show List.take E.length (E.map fun s => [BR s]) = (E.map fun s => [BR s]) from Ua (by simp)) | refine kz ?_ | refine As ?_ | refine Aa (hm) ?_ | refine Aa (hs) ?_ | refine Ar Ac ?_ ?_ | refine BB ?_ | refine Cf ?_
    all_goals rfl
  ·rw [if_neg he]
   repeat' first | refine A8 7 ?_ (hes := show List.take E.length (E.map fun s => [BR s]) = (E.map fun s => [BR s]) from Ua (by simp)) | refine kz ?_ | refine As ?_ | refine Aa (hm) ?_ | refine Ar Ac ?_ ?_ | refine BB ?_ | refine Cf ?_
   all_goals rfl
end Go.Proofs.YtmpgmjlanngkfaaGreat
end
section
namespace Go.Proofs.YtmpgmjlanngkfaaGreat
open Go.Abs Go.RowKit
set_option linter.unusedSimpArgs false
set_option maxRecDepth 100000
set_option maxHeartbeats 4000000
variable {ag : List Agg} {b : List Entry} {keys : List Itm} {n w : Nat}
theorem TX {f : List Val → Int} {M : Nat} (hf : ∀ r, (f r).natAbs ≤ M) (l : List Entry) : (wS f l).natAbs ≤ M * BE l := by
 induction l with
 | nil => simp [wS, BE]
 | cons e l ih =>
   have h1 : (e.count * f e.row).natAbs ≤ M * e.count.natAbs := by
    rw [Yr, MB]
    exact FO _ (hf e.row)
   rw [wS, BE, Nat.mul_add]
   omega
theorem XV (kf : List Val → List Val) (k : List Val) (x : Agg) (r : List Val) : (I5 kf k (RA x) r).natAbs ≤ 4294967296 := by
 have := KV (E5 x.expr r)
 unfold I5 RA
 repeat' split
 all_goals omega
theorem XW (kf : List Val → List Val) (k : List Val) (x : Agg) (r : List Val) : (I5 kf k (RB x) r).natAbs ≤ 1 := by
 unfold I5 RB
 repeat' split
 all_goals omega
theorem VH (kf : List Val → List Val) (k : List Val) (r : List Val) : (I5 kf k (fun _ => 1) r).natAbs ≤ 1 := by
 unfold I5
 dsimp only
 split <;> omega
theorem TY {kf : List Val → List Val} (h : Tiny n w b) (hn : n ≤ 1000) (k : List Val) : ((D6 ag kf b k).count.natAbs ≤ 1000) ∧ (∀ z ∈ (D6 ag kf b k).sums, z.natAbs ≤ 4294967296000) ∧ ∀ z ∈ (D6 ag kf b k).some, z.natAbs ≤ 1000 := by
 have hs := h.s
 refine ⟨?_, fun z hz => ?_, fun z hz => ?_⟩
 ·have := TX (VH kf k) b
  show (wS _ b).natAbs ≤ 1000
  omega
 ·obtain ⟨x, _, rfl⟩ := List.mem_map.1 hz
  have := TX (XV kf k x) b
  have h2 : 4294967296 * BE b ≤ 4294967296 * 1000 := Nat.mul_le_mul_left _ (by omega)
  omega
 ·obtain ⟨x, _, rfl⟩ := List.mem_map.1 hz
  have := TX (XW kf k x) b
  omega
theorem QC {kf : List Val → List Val} (h : Tiny n w b) (hn : n ≤ 1000) (k : List Val) : Ml (D6 ag kf b k) := by
 obtain ⟨h1, h2, h3⟩ := TY (ag := ag) (kf := kf) h hn k
 refine ⟨by unfold RD; omega, fun z hz => ?_, fun z hz => ?_⟩
 ·have := h2 z hz; unfold RD; omega
 ·have := h3 z hz; unfold RD; omega
theorem OL {ag : List Agg} : ∀ {l : List Sta} {p : Option Sta}, (∀ s ∈ l, Eh ag s = true) → l.Pairwise sR → (∀ q, p = some q → ∀ s ∈ l, sR q s) → goodS ag p l = true
 | [], p, _, _, _ => by rw [goodS.eq_def]
 | e :: l, p, h, hs, hp => by
   obtain ⟨h1, h2⟩ := Fe.1 hs
   have ih := OL (p := some e) (fun s hm => h s (by simp [hm])) h2 (fun q hq => by cases hq; exact h1)
   rw [goodS.eq_def]
   dsimp only
   rw [ih, h e (by simp), Bool.and_true, Bool.true_and]
   cases p with
   | none => rfl
   | some q =>
     have := hp q rfl e (by simp)
     exact decide_eq_true this
theorem VI {f g : Agg → Int} {P : Agg × Int × Int → Bool} (h : ∀ x ∈ ag, P (x, f x, g x) = true) : (ag.zip ((ag.map f).zip (ag.map g))).all P = true := by
 induction ag with
 | nil => rfl
 | cons x ag ih =>
   rw [List.map_cons, List.map_cons, List.zip_cons_cons, List.zip_cons_cons, List.all_cons, h x (by simp), ih fun y hy => h y (by simp [hy])]; rfl
theorem QD (h : Tiny n w b) (hn : n ≤ 1000) (hk : keys.length ≤ 8) : Ei ag (FM ag (Ax keys) b) = true := by
 have hK : BG b (Ax keys) := fun e _ => AR keys e.row
 obtain ⟨u1, u2⟩ := Je (ag := ag) hK
 have hl : (FM ag (Ax keys) b).length ≤ b.length := by
  unfold FM
  refine OQ (PN _ _) ?_
  rw [BT]; exact Gq b _ hK
 have hbl := h.len9
 unfold Ei
 rw [OL (fun s hs => ?_) u1 (by simp), Bool.and_true]
 ·simp only [decide_eq_true_eq]; omega
 ·obtain ⟨hm1, hm2⟩ := KB.1 hs
  obtain ⟨k, hkm, rfl⟩ := List.mem_map.1 hm1
  obtain ⟨q1, q2, q3⟩ := TY (ag := ag) (kf := Ax keys) h hn k
  have hz : (D6 ag (Ax keys) b k).zero = false := by simpa [DR] using hm2
  have hkl := (Dd hkm).2
  have hkv : ∀ v ∈ k, v.valid = true := fun v hv => by
   obtain ⟨_, _, h3⟩ := B2 hK
   obtain ⟨e, _, rfl⟩ := (h3 k).1 hkm
   obtain ⟨it, _, rfl⟩ := List.mem_map.1 hv
   exact E5 ..
  have hr : A7 (D6 ag (Ax keys) b k).key = true := by
   simp only [A7, BO, decide_eq_true_eq, Ec]
   exact ⟨by show k.length ≤ _; omega, hkv⟩
  have hnum : Cm ag (D6 ag (Ax keys) b k) = true := by
   unfold Cm
   rw [hz, show (D6 ag (Ax keys) b k).sums.length = ag.length from BT .., show (D6 ag (Ax keys) b k).some.length = ag.length from BT .., decide_eq_true rfl, (LR _ _).2 (by omega)]
   simp only [Bool.true_and, Bool.not_false]
   refine VI fun x hx => ?_
   have b1 := q2 _ (List.mem_map.2 ⟨x, hx, rfl⟩)
   have b2 := q3 _ (List.mem_map.2 ⟨x, hx, rfl⟩)
   unfold FX
   dsimp only
   rw [(LR _ _).2 (by omega), (LR _ _).2 (by omega), Bool.true_and, Bool.true_and]
   by_cases hf : x.func = 0
   ·have s0 : wS (I5 (Ax keys) k (RA x)) b = 0 := by
     rw [Fb (g := fun _ => 0) fun e _ => ?_, GH]
     unfold I5 RA
     rw [if_neg (show ¬ x.func = 1 by omega)]; simp
    have c0 : wS (I5 (Ax keys) k (RB x)) b = 0 := by
     rw [Fb (g := fun _ => 0) fun e _ => ?_, GH]
     unfold I5 RB
     rw [if_neg (show ¬ x.func = 1 by omega)]; simp
    rw [s0, c0]; simp
   ·simp [hf]
  unfold Eh
  rw [hr, hnum, Bool.and_true, Bool.and_true]
  simp only [decide_eq_true_eq]
  show k.length ≤ 8
  omega
theorem FC (h : Tiny n w b) (h8 : keys.length + ag.length ≤ 8) (hx : EP ag = true) : Bc b keys ag = (FM ag (Ax keys) b, 0) := by
 unfold Bc
 rw [if_pos ⟨h.v, h8, hx⟩, RC]
theorem My {a d s : List Entry} {A D S : Nat} (ha : Tiny A w a) (hd : Tiny D w d) (hs : Tiny S w s) (hA : A ≤ 1000) (hD : D ≤ 1000) (hS : S ≤ 1000) (h8 : keys.length + ag.length ≤ 8) (hx : EP ag = true) (hw : ∀ g, wS g s = wS g a + wS g d) : FY (FM ag (Ax keys) a) d keys ag = (FM ag (Ax keys) s, 0) := by
 have hm := Mn (ag := ag) (kf := Ax keys) hw (fun e _ => AR keys e.row) (fun e _ => AR keys e.row) (fun e _ => AR keys e.row) (QC ha hA) (QC hd hD)
 have ok := QD (ag := ag) (keys := keys) hs hS (by omega)
 have hl := (JM ok).1
 unfold FY
 rw [FC hd h8 hx, hm, if_pos (QD ha hA (by omega)), if_pos rfl, if_pos hl, if_pos ok]
end Go.Proofs.YtmpgmjlanngkfaaGreat
end
