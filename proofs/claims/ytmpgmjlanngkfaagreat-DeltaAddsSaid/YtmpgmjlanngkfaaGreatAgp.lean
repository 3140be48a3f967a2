/-
  Aggregates, plain: groups of entries by key rows, and the values of functions.
-/
import Derived.Test.YtmpgmjlanngkfaaGreatOrd
import Derived.Test.YtmpgmjlanngkfaaGreatSrt
import Derived.Test.YtmpgmjlanngkfaaGreatSum
section
namespace Go.Proofs.YtmpgmjlanngkfaaGreat
open Go.Abs Go.RowKit
set_option linter.unusedSimpArgs false
set_option maxRecDepth 100000
set_option maxHeartbeats 4000000
section
variable {P : Program} {T : TypeId → Option TI} {B : Base} {n : Nat} {sl : List (Nat × SVal)} {mem mem1 m1 : List Blk} {ck : Nat} {df : List (FuncId × List Cell)} {r1 r : SVal}
theorem EL {a t rr k o : Nat} {i : TI} {cs cs1 : List Cell} (hd : Af P df) (h : Ar mem m1) (ha : AM (.agg cs1) r) (hk : JO mem mem1 0 := by repeat' (first | exact trivial | refine And.intro rfl ?_ | refine And.intro trivial ?_)) (hl : Abs.look sl a = .c (.bp rr k o) := by exact rfl) (hmm : mem[rr]? = some (.box k cs) := by exact rfl) (ht : T t = some i := by exact rfl) (hag : i.desc.agg = true := by exact rfl) (hs : decide (o + i.size ≤ cs.length) = true := by exact rfl) (hcs : (cs.drop o).take i.size = cs1 := by repeat' (first | exact AT rfl | apply Az rfl)) (hr : r1.up id (CI mem) = r := by exact rfl) (hm : Hx id (CI mem) mem1 0 = m1 := by repeat' (first | exact AT rfl | apply Az rfl)) : Au P B (AP P T [.cell a t] (fun r m _ => HR m mem1 r r1)) [] .ret ⟨n, sl, mem, ck, df⟩ := by
 subst hcs
 refine ⟨hd, ?_⟩
 simp only [Ri, Ak, St.get, hl, DH, ht, hag, hmm]
 refine ⟨.inl trivial, trivial, by simpa using hs, ?_⟩
 exact Qq hm hr h ha hk
end
attribute [local irreducible] ARun Au MCall PCall HCall Ak SF CF CFs Af Ag Ar fin AP VLe
set_option linter.unusedSimpArgs false
set_option maxRecDepth 100000
set_option maxHeartbeats 4000000
def iD (n : Int) : List Dat := [.lit (.int .i64 n)]
def Dh (l : List Int) : Dat := .sl (l.map iD)
structure Tape where
 l : List Int
 at_ : Nat
structure Tape.ok (t : Tape) : Prop where
 len : t.l.length ≤ 17592186044416
 pos : t.at_ ≤ 4 * t.l.length
def Tape.raw (t : Tape) : Int :=
 let x := t.l.getD (t.at_ % t.l.length) 0
 if 0 < t.at_ / t.l.length then J5 .i64 (Cm .i64 x ((t.at_ / t.l.length : Nat) : Int)) ((t.at_ / t.l.length : Nat) : Int) else x
def Tape.stop (t : Tape) (n : Int) : Prop := n < 2 ∨ t.l.length = 0 ∨ 4 * t.l.length ≤ t.at_
instance (t : Tape) (n : Int) : Decidable (t.stop n) := by unfold Tape.stop; infer_instance
def Tape.nx (t : Tape) (n : Int) : Int := if t.stop n then 0 else ((t.raw).tmod n + n).tmod n
def Tape.go (t : Tape) (n : Int) : Tape := if t.stop n then t else ⟨t.l, t.at_ + 1⟩
theorem Tape.nx_bd (t : Tape) (n : Int) : 0 ≤ t.nx n ∧ (t.nx n < n ∨ t.nx n = 0) := by
 unfold Tape.nx
 split
 ·exact ⟨by omega, .inr rfl⟩
 ·rename_i h
  have hn : 2 ≤ n := by unfold Tape.stop at h; omega
  have h1 : -n < (t.raw).tmod n := Int.lt_tmod_of_pos _ (by omega)
  have h2 : 0 ≤ (t.raw).tmod n + n := by omega
  rw [Int.tmod_eq_emod_of_nonneg h2]
  exact ⟨Int.emod_nonneg _ (by omega), .inl (Int.emod_lt_of_pos _ (by omega))⟩
theorem Tape.ok.go {t : Tape} (h : t.ok) (n : Int) : (t.go n).ok := by
 unfold Tape.go
 split
 ·exact h
 ·rename_i hs
  unfold Tape.stop at hs
  exact ⟨h.len, by have := h.pos; simp only; omega⟩
theorem aD (z : Int) : IntKind.u64.wrap z = z % 18446744073709551616 := by
 simp only [IntKind.wrap, IntKind.signed, IntKind.bits]
 simp
theorem Wz (z : Int) : 0 ≤ IntKind.u64.wrap z := by rw [aD]; omega
theorem WA {z : Int} (h1 : 0 ≤ z) (h2 : z < 18446744073709551616) : IntKind.u64.wrap z = z := by rw [aD]; omega
theorem Ii (t : Tape) (n : Int) (ht : t.ok) (hn : n ≤ 1099511627776) (hn' : -1099511627776 ≤ n) : HC 30 [.c (.bp 0 0 0), .c (.d (.lit (.int .i64 n)))] [(.box 0 [.d (Dh (t).l), .d (.lit (.int .i64 (t).at_))])] (iC (t.nx n)) [(.box 0 [.d (Dh (t.go n).l), .d (.lit (.int .i64 (t.go n).at_))])] := by
 obtain ⟨l, at_⟩ := t
 obtain ⟨hl, hat⟩ := ht
 dsimp only at hl hat
 by_cases h1 : n < 2
 ·have e : (Tape.mk l at_).stop n := .inl h1
  have e1 : (Tape.mk l at_).nx n = 0 := if_pos e
  have e2 : (Tape.mk l at_).go n = ⟨l, at_⟩ := if_pos e
  rw [e1, e2]
  change HCall _ _ _ [.box 0 [.d (Dh l), .d (.lit (.int .i64 at_))]] _ [.box 0 [.d (Dh l), .d (.lit (.int .i64 at_))]]
  refine AI hT Tryz.func30 Tryz.ntmps30 [.tmp 4] fun B => ?_
  repeat' first | refine kz ?_ | refine AN rfl (fun hb => ?_) (fun hb => ?_) | refine Aw ?_ | refine kf ?_ | refine kg ?_ ?_ | exact k0 | refine Ab ?_ | refine T8 rfl ?_
 by_cases h2 : l.length = 0
 ·have e : (Tape.mk l at_).stop n := .inr (.inl h2)
  have e1 : (Tape.mk l at_).nx n = 0 := if_pos e
  have e2 : (Tape.mk l at_).go n = ⟨l, at_⟩ := if_pos e
  rw [e1, e2]
  change HCall _ _ _ [.box 0 [.d (Dh l), .d (.lit (.int .i64 at_))]] _ [.box 0 [.d (Dh l), .d (.lit (.int .i64 at_))]]
  refine AI hT Tryz.func30 Tryz.ntmps30 [.tmp 4] fun B => ?_
  repeat' first | refine kz ?_ | refine AN rfl (fun hb => ?_) (fun hb => ?_) | refine Aw ?_ | refine kf ?_ | refine kg ?_ ?_ | exact k0 | refine Ab ?_ | refine T8 rfl ?_
 by_cases h3 : 4 * l.length ≤ at_
 ·have e : (Tape.mk l at_).stop n := .inr (.inr h3)
  have e1 : (Tape.mk l at_).nx n = 0 := if_pos e
  have e2 : (Tape.mk l at_).go n = ⟨l, at_⟩ := if_pos e
  rw [e1, e2]
  change HCall _ _ _ [.box 0 [.d (Dh l), .d (.lit (.int .i64 at_))]] _ [.box 0 [.d (Dh l), .d (.lit (.int .i64 at_))]]
  refine AI hT Tryz.func30 Tryz.ntmps30 [.tmp 4] fun B => ?_
  repeat' first | refine kz ?_ | refine AN rfl (fun hb => ?_) (fun hb => ?_) | refine Aw ?_ | refine kf ?_ | refine kg ?_ ?_ | exact k0 | refine Ab ?_ | refine T8 rfl ?_
 have e : ¬ (Tape.mk l at_).stop n := by rintro (q | q | q); exact h1 q; exact h2 q; exact h3 q
 have e1 : (Tape.mk l at_).nx n = (((Tape.mk l at_).raw).tmod n + n).tmod n := if_neg e
 have e2 : (Tape.mk l at_).go n = ⟨l, at_ + 1⟩ := if_neg e
 rw [e1, e2]
 have ht1 : (at_ : Int).tmod l.length = ((at_ % l.length : Nat) : Int) := by rw [Int.tmod_eq_emod_of_nonneg (by omega)]; rfl
 have ht2 : (at_ : Int).tdiv l.length = ((at_ / l.length : Nat) : Int) := by rw [Int.tdiv_eq_ediv_of_nonneg (by omega)]; rfl
 have hml : at_ % l.length < l.length := WU _ (by omega)
 have hdl : at_ / l.length ≤ 4 := by
  have : at_ / l.length < 5 := ZO (by omega)
  omega
 have hv : l[at_ % l.length]? = some l[at_ % l.length] := Bh hml
 have hraw : (Tape.mk l at_).raw = if 0 < at_ / l.length then J5 .i64 (Cm .i64 l[at_ % l.length] ((at_ / l.length : Nat) : Int)) ((at_ / l.length : Nat) : Int) else l[at_ % l.length] := by
  unfold Tape.raw
  simp only [PI, hv, Sg]
 rw [hraw]
 generalize l[at_ % l.length] = x at hv
 change HCall _ _ _ [.box 0 [.d (Dh l), .d (.lit (.int .i64 at_))]] _ [.box 0 [.d (Dh l), .d (.lit (.int .i64 (at_ + 1 : Nat)))]]
 refine AI hT Tryz.func30 Tryz.ntmps30 [.tmp 4] fun B => ?_
 have hmn : ∀ y : Int, IntKind.i64.wrap (y.tmod n + n) = y.tmod n + n := fun y => by
  have q1 : -n < y.tmod n := Int.lt_tmod_of_pos _ (by omega)
  have q2 : y.tmod n < n := Int.tmod_lt_of_pos _ (by omega)
  exact BZ (by omega) (by omega)
 repeat' first | refine kz ?_ | refine AN rfl (fun hb => ?_) (fun hb => ?_) | refine AX hv ?_ | refine Aw ?_ | refine UG ?_ (hb := Wz _) | refine kf ?_ | refine kg ?_ ?_ | exact k0 | refine Ab ?_ | refine T8 rfl ?_
 ·rw [hmn, WA (by omega) (by omega), if_pos (by omega)]
 ·rw [hmn, if_neg (by omega)]
def Val.ofText (s : ByteArray) : Val := (Val.mk 2 0 s).clean
theorem Lv (s : ByteArray) : PC 129 [.one (.lit (.string s))] (.v (.agg (Val.ofText s).d)) := by
 have h := GK ⟨2, 0, s⟩
 refine Ac hT Tryz.func129 Tryz.ntmps129 [.cell 2 73] fun B => ?_
 repeat' first | refine kz ?_ | refine Aa (h) ?_ | refine kh ?_ ?_ | exact ⟨⟩ | fail
 all_goals rfl
theorem Xq (l : List Int) (hl : l.length ≤ 17592186044416) : HC 9 [.c (.d (Dh l))] [] (.c (.bp 1 1 0)) [.dead, .box 1 [.d (Dh l), .d (.lit (.int .i64 (0 : Nat)))]] := by
 have hf : List.take l.length (l.map iD) = l.map iD := Ao (by simp)
 refine AI hT Tryz.func9 Tryz.ntmps9 [.tmp 2] fun B => ?_
 repeat' first | refine Ts 5 rfl rfl (by simp) hf rfl ?_ | refine kz ?_ | refine Bb Ae ?_ ?_ | exact k0 | refine Ab ?_
def shortVals : List Val := [Val.null, Val.ofInt 1, Val.ofInt 2, Val.ofInt 3, Val.ofText ⟨#[97]⟩, Val.ofText ⟨#[98]⟩]
def Tape.short (t : Tape) : Val := shortVals.getD (t.nx 6).toNat Val.null
theorem WB (t : Tape) (ht : t.ok) : HC 73 [.c (.bp 0 0 0)] [(.box 0 [.d (Dh (t).l), .d (.lit (.int .i64 (t).at_))])] (.agg (t.short.d.map .d)) [(.box 0 [.d (Dh (t.go 6).l), .d (.lit (.int .i64 (t.go 6).at_))])] := by
 have hn := Ii t 6 ht (by omega) (by omega)
 obtain ⟨b1, b2⟩ := t.nx_bd 6
 have hv : shortVals[(t.nx 6).toNat]? = some t.short := by
  unfold Tape.short
  rw [PI, Bh (by simp [shortVals]; omega)]; rfl
 have hv1 : (shortVals.map Val.d)[(t.nx 6).toNat]? = some t.short.d := by rw [B2, hv]; rfl
 have i1 := EM 1
 have i2 := EM 2
 have i3 := EM 3
 generalize t.nx 6 = z at hn b1 b2 hv hv1
 generalize t.go 6 = t' at hn
 refine AI hT Tryz.func73 Tryz.ntmps73 [.cell 2 73] fun B => ?_
 repeat' first | refine kz ?_ | refine AX hv1 ?_ | refine Aw ?_ | refine Aa (i1) ?_ | refine Aa (i2) ?_ | refine Aa (i3) ?_ | refine Aa (Lv _) ?_ | refine Ah [0] (hn) ?_ | refine EL Ae ?_ ?_ | exact k0 | refine Ab ?_
abbrev tB (t : Tape) : Blk := .box 0 [.d (Dh t.l), .d (.lit (.int .i64 t.at_))]
end Go.Proofs.YtmpgmjlanngkfaaGreat
end
section
namespace Go.Proofs.YtmpgmjlanngkfaaGreat
open Go.Abs Go.RowKit
set_option linter.unusedSimpArgs false
set_option maxRecDepth 100000
variable {acc : List (List Val × List Entry)} {b : List Entry} {e : Entry} {i : Nat} {kf : List Val → List Val}
def kR (a b : List Val) : Prop := Ai a b < 0
theorem X9 (a : List Val) : ¬ kR a a := by unfold kR; rw [rowCmp_ok.refl]; omega
theorem Z3 (a b c : List Val) (h1 : kR a b) (h2 : kR b c) : kR a c := rowCmp_ok.trans _ _ _ h1 h2
def CS (b : List Entry) (kf : List Val → List Val) : Prop := ∀ e ∈ b, AG (kf e.row)
def Vr (kf : List Val → List Val) (k : List Val) (e : Entry) : Bool := decide (Ai (kf e.row) k = 0)
def Dp (b : List Entry) (kf : List Val → List Val) : List (List Val) := (sortE (b.map fun e => ⟨kf e.row, 1⟩)).map Entry.row
def GX (b : List Entry) (kf : List Val → List Val) : List (List Val × List Entry) := (Dp b kf).map fun k => (k, b.filter (Vr kf k))
theorem GY (hk : CS b kf) (he : e ∈ b) {k : List Val} (hc : AG k) : Vr kf k e = true ↔ kf e.row = k := by
 unfold Vr
 rw [decide_eq_true_eq]
 exact ⟨EK (hk e he) hc, fun h => by rw [h]; exact rowCmp_ok.refl _⟩
theorem PY : ∀ (l : List Entry) (r : List Val), (∀ e ∈ l, 0 < e.count) → 0 ≤ A1 l r
 | [], _, _ => WT _
 | e :: l, r, h => by
   have h1 := PY l r (fun x hx => h x (by simp [hx]))
   have h2 := h e (by simp)
   rw [A1]; split <;> omega
theorem MQ : ∀ {l : List Entry} {r : List Val}, (∀ e ∈ l, 0 < e.count) → (∃ e ∈ l, Ai e.row r = 0) → A1 l r ≠ 0
 | [], _, _, h => by obtain ⟨_, h, _⟩ := h; cases h
 | e :: l, r, h, hx => by
   have h1 := PY l r (fun x hx => h x (by simp [hx]))
   have h2 := h e (by simp)
   rw [A1]
   by_cases he : Ai e.row r = 0
   ·rw [if_pos he]; omega
   ·rw [if_neg he]
    obtain ⟨x, hx1, hx2⟩ := hx
    rcases Fb.1 hx1 with rfl | hx1
    ·exact absurd hx2 he
    ·have := MQ (fun y hy => h y (by simp [hy])) ⟨x, hx1, hx2⟩
     omega
theorem Ew (hk : CS b kf) : (Dp b kf).Pairwise kR ∧ (∀ k ∈ Dp b kf, AG k) ∧ ∀ k, k ∈ Dp b kf ↔ ∃ e ∈ b, kf e.row = k := by
 have hcl : ∀ e ∈ b.map fun e : Entry => (⟨kf e.row, 1⟩ : Entry), AG e.row := fun e he => by
  obtain ⟨x, hx, rfl⟩ := List.mem_map.1 he
  exact hk x hx
 obtain ⟨h1, h2⟩ := BX _ hcl
 have hkc : ∀ k ∈ Dp b kf, AG k := fun k hkm => by
  obtain ⟨e, he, rfl⟩ := List.mem_map.1 hkm
  exact h1.cl e he
 refine ⟨by unfold Dp; rw [XQ]; exact h1.up, hkc, fun k => ⟨fun hm => ?_, fun hm => ?_⟩⟩
 ·have hc := hkc k hm
  obtain ⟨e, he, rfl⟩ := List.mem_map.1 hm
  have hz : A1 (sortE (b.map fun e : Entry => (⟨kf e.row, 1⟩ : Entry))) e.row ≠ 0 := by
   rw [DZ (BB h1.up) he (rowCmp_ok.refl _)]; exact h1.nz e he
  rw [h2] at hz
  obtain ⟨x, hx, hr⟩ := I3 hz
  obtain ⟨y, hy, rfl⟩ := List.mem_map.1 hx
  exact ⟨y, hy, EK (hk y hy) hc hr⟩
 ·obtain ⟨e, he, rfl⟩ := hm
  have hz : A1 (b.map fun e : Entry => (⟨kf e.row, 1⟩ : Entry)) (kf e.row) ≠ 0 :=
   MQ (fun x hx => by obtain ⟨y, _, rfl⟩ := List.mem_map.1 hx; exact Int.zero_lt_one) ⟨_, List.mem_map.2 ⟨e, he, rfl⟩, rowCmp_ok.refl _⟩
  rw [← h2] at hz
  obtain ⟨x, hx, hr⟩ := I3 hz
  exact List.mem_map.2 ⟨x, hx, EK (h1.cl x hx) (hk e he) hr⟩
structure GI (b : List Entry) (kf : List Val → List Val) (acc : List (List Val × List Entry)) : Prop where
 nd : acc.Pairwise fun g h => g.1 ≠ h.1
 mem : ∀ g ∈ acc, (∃ e ∈ b, kf e.row = g.1) ∧ g.2 = b.filter (Vr kf g.1)
 all : ∀ e ∈ b, ∃ g ∈ acc, g.1 = kf e.row
theorem Ya (kf : List Val → List Val) : GI [] kf [] := ⟨.nil, fun _ hg => (by cases hg), fun _ he => (by cases he)⟩
theorem BS {α : Type} {l : List α} {x : α} (h : l[i]? = some x) : l.take (i + 1) = l.take i ++ [x] := by rw [IU, h]; rfl
theorem Yb {j : Nat} {es : List Entry} (hk : CS b kf) (h : GI (b.take i) kf acc) (he : b[i]? = some e) (hj : acc[j]? = some (kf e.row, es)) : GI (b.take (i + 1)) kf (acc.set j (kf e.row, es ++ [e])) := by
 have hem : e ∈ b := Cl he
 have hjl := lt_of_getElem? hj
 have hne : ∀ g ∈ acc, g ≠ (kf e.row, es) → g.1 ≠ kf e.row := fun g hg hn hq => by
  obtain ⟨q, hq2⟩ := LC.1 hg
  have hql := lt_of_getElem? hq2
  have hp := WL.1 h.nd
  rw [Bh hjl] at hj
  rw [Bh hql] at hq2
  simp only [Option.some.injEq] at hj hq2
  rcases Nat.lt_trichotomy q j with c | c | c
  ·have := hp q j hql hjl c; rw [hq2, hj] at this; exact this hq
  ·subst c; exact hn (hq2.symm.trans hj)
  ·have := hp j q hjl hql c; rw [hq2, hj] at this; exact this hq.symm
 have hfst : (acc.set j (kf e.row, es ++ [e])).map Prod.fst = acc.map Prod.fst := by
  rw [U7]
  refine PJ fun q => ?_
  rw [bS]
  split
  ·rename_i c; subst c
   rw [BQ, if_pos hjl, B2, hj]; rfl
  ·rfl
 rw [BS he]
 refine ⟨?_, fun g hg => ?_, fun x hx => ?_⟩
 ·have := h.nd
  rw [← XQ (f := Prod.fst) (R := fun a b => a ≠ b)] at this ⊢
  rw [hfst]; exact this
 ·rw [XP]
  obtain ⟨q, hq⟩ := LC.1 hg
  rw [bS] at hq
  split at hq
  ·rename_i c; subst c
   simp only [Option.some.injEq] at hq
   subst hq
   refine ⟨⟨e, by simp, rfl⟩, ?_⟩
   rw [← (h.mem _ (Cl hj)).2, List.filter_cons_of_pos ((GY hk hem (hk e hem)).2 rfl)]; rfl
  ·rename_i c
   have hgm := Cl hq
   have hgk : g.1 ≠ kf e.row := by
    intro hh
    have hql := lt_of_getElem? hq
    have hp := WL.1 h.nd
    rw [Bh hjl] at hj
    rw [Bh hql] at hq
    simp only [Option.some.injEq] at hj hq
    rcases Nat.lt_trichotomy q j with c | c | c
    ·have := hp q j hql hjl c; rw [hq, hj] at this; exact this hh
    ·exact absurd c.symm ‹_›
    ·have := hp j q hjl hql c; rw [hq, hj] at this; exact this hh.symm
   obtain ⟨⟨x, hx, hxe⟩, h2⟩ := h.mem g hgm
   refine ⟨⟨x, by simp [hx], hxe⟩, ?_⟩
   have hxm : x ∈ b := IS hx
   rw [← h2, List.filter_cons_of_neg (fun q => hgk ((GY hk hem (hxe ▸ hk x hxm)).1 q).symm)]; simp
 ·rcases Ej.1 hx with hx | hx
  ·obtain ⟨g, hg, hgk⟩ := h.all x hx
   have : g.1 ∈ (acc.set j (kf e.row, es ++ [e])).map Prod.fst := by rw [hfst]; exact List.mem_map.2 ⟨g, hg, rfl⟩
   obtain ⟨g', hg', hq⟩ := List.mem_map.1 this
   exact ⟨g', hg', hq.trans hgk⟩
  ·rw [IT] at hx; subst hx
   exact ⟨(kf x.row, es ++ [x]), LC.2 ⟨j, by rw [I7 hjl]⟩, rfl⟩
theorem Yc (hk : CS b kf) (h : GI (b.take i) kf acc) (he : b[i]? = some e) (hn : ∀ g ∈ acc, g.1 ≠ kf e.row) : GI (b.take (i + 1)) kf (acc ++ [(kf e.row, [e])]) := by
 have hem : e ∈ b := Cl he
 rw [BS he]
 refine ⟨?_, fun g hg => ?_, fun x hx => ?_⟩
 ·rw [Zu]
  exact ⟨h.nd, List.pairwise_singleton .., fun g hg g' hg' => by rw [IT] at hg'; subst hg'; exact hn g hg⟩
 ·rw [XP]
  rcases Ej.1 hg with hg | hg
  ·obtain ⟨⟨x, hx, hxe⟩, h2⟩ := h.mem g hg
   refine ⟨⟨x, by simp [hx], hxe⟩, ?_⟩
   rw [← h2, List.filter_cons_of_neg (fun q => hn g hg ((GY hk hem (hxe ▸ hk x (IS hx))).1 q).symm)]; simp
  ·rw [IT] at hg; subst hg
   refine ⟨⟨e, by simp, rfl⟩, ?_⟩
   rw [List.filter_cons_of_pos ((GY hk hem (hk e hem)).2 rfl), List.filter_eq_nil_iff.2 fun x hx q => ?_]; rfl
   obtain ⟨g, hg, hgk⟩ := h.all x hx
   exact hn g hg (hgk.trans ((GY hk (IS hx) (hk e hem)).1 q))
 ·rcases Ej.1 hx with hx | hx
  ·obtain ⟨g, hg, hgk⟩ := h.all x hx
   exact ⟨g, by simp [hg], hgk⟩
  ·rw [IT] at hx; subst hx
   exact ⟨(kf x.row, [x]), by simp, rfl⟩
def Gq (g h : List Val × List Entry) : Int := Ai g.1 h.1
theorem grpCmp_ok : CmpOk Gq (fun g => g.1.map Val.clean) := rowCmp_ok.comp Prod.fst
theorem Vs (hk : CS b kf) (h : GI b kf acc) : sortF Gq acc = GX b kf := by
 obtain ⟨k1, k2, k3⟩ := Ew hk
 have hp := BG grpCmp_ok.swo acc
 have hs := Hr grpCmp_ok.swo acc
 have hac : ∀ g ∈ acc, AG g.1 := fun g hg => by
  obtain ⟨⟨e, he, hq⟩, _⟩ := h.mem g hg
  exact hq ▸ hk e he
 have hnd : (sortF Gq acc).Pairwise fun g h => g.1 ≠ h.1 := (hp.pairwise_iff (fun {a b} hab => hab.symm)).2 h.nd
 have h1 : (sortF Gq acc).Pairwise fun g h => kR g.1 h.1 := by
  refine List.Pairwise.imp_of_mem (fun {g g'} hg hg' ⟨q1, q2⟩ => ?_) (hnd.and hs)
  have c1 := hac g (hp.mem_iff.1 hg)
  have c2 := hac g' (hp.mem_iff.1 hg')
  have e0 : Ai g.1 g'.1 ≠ 0 := fun q => q1 (EK c1 c2 q)
  have e1 := rowCmp_ok.anti g.1 g'.1
  have e2 : ¬ Ai g'.1 g.1 < 0 := q2
  show Ai g.1 g'.1 < 0
  omega
 have h2 : (GX b kf).Pairwise fun g h => kR g.1 h.1 := by
  unfold GX; rw [XQ]; exact k1
 refine Er (fun g => X9 g.1) (fun a b c => Z3 a.1 b.1 c.1) h1 h2 fun g => ?_
 rw [hp.mem_iff]
 constructor
 ·intro hg
  obtain ⟨⟨e, he, hq⟩, h3⟩ := h.mem g hg
  exact List.mem_map.2 ⟨g.1, (k3 _).2 ⟨e, he, hq⟩, by rw [← h3]⟩
 ·intro hg
  obtain ⟨k, hkm, rfl⟩ := List.mem_map.1 hg
  obtain ⟨e, he, rfl⟩ := (k3 k).1 hkm
  obtain ⟨g, hg, hgk⟩ := h.all e he
  have := (h.mem g hg).2
  rw [hgk] at this
  rw [← this, ← hgk]; exact hg
def GZ (L : List (Val × Int)) : Int := (L.map Prod.snd).sum
def IJ (L : List (Val × Int)) : Int := (L.map fun x => if x.1.kind = 1 then x.1.int * x.2 else 0).sum
def IK (L : List (Val × Int)) : Int := (L.map fun x => if x.1.kind = 1 then x.2 else 0).sum
def Eu (L : List (Val × Int)) : List (Val × Int) := L.filter fun x => decide (x.1.kind ≠ 0)
def D0 : List (Val × Int) → Int → Val
 | [], _ => Val.null
 | x :: L, i => if i < x.2 then x.1 else D0 L (i - x.2)
def below (L : List (Val × Int)) (v : Val) : Int := (L.map fun x => if x.1.cmp v < 0 then x.2 else 0).sum
def dj (L : List (Val × Int)) (v : Val) : Int := (L.map fun x => if v.cmp x.1 < 0 then 0 else x.2).sum
def MR (L : List (Val × Int)) : Prop := ∀ x ∈ L, 0 < x.2
def dm (L : List (Val × Int)) : Prop := L.Pairwise fun x y => ¬ y.1.cmp x.1 < 0
theorem SO {α : Type} {f : α → Int} {a b : List α} (h : a.Perm b) : (a.map f).sum = (b.map f).sum := by
 induction h with
 | nil => rfl
 | cons x _ ih => simp [ih]
 | swap x y l => simp only [List.map_cons, Sm]; omega
 | trans _ _ i1 i2 => exact i1.trans i2
theorem SP {α : Type} {f g : α → Int} : ∀ {l : List α}, (∀ x ∈ l, f x ≤ g x) → (l.map f).sum ≤ (l.map g).sum
 | [], _ => WT _
 | x :: l, h => by
   have h1 := h x (by simp)
   have h2 := SP (l := l) fun y hy => h y (by simp [hy])
   simp only [List.map_cons, Sm]; omega
theorem MS {α : Type} {f : α → Int} : ∀ {l : List α}, (∀ x ∈ l, f x = 0) → (l.map f).sum = 0
 | [], _ => rfl
 | x :: l, h => by
   have h1 := h x (by simp)
   have h2 := MS (l := l) fun y hy => h y (by simp [hy])
   simp only [List.map_cons, Sm]; omega
theorem PZ {L : List (Val × Int)} (hp : MR L) (hn : L ≠ []) : 0 < GZ L := by
 cases L with
 | nil => exact absurd rfl hn
 | cons x L =>
   have h := SP (f := fun _ => (0 : Int)) (g := Prod.snd) (l := L) fun y hy => by
    have := hp y (by simp [hy]); omega
   rw [MS (f := fun _ : Val × Int => (0 : Int)) (fun _ _ => rfl)] at h
   have := hp x (by simp)
   unfold GZ
   simp only [List.map_cons, Sm]; omega
noncomputable def ascE (L : List (Val × Int)) : List (Val × Int) := sortF (fun x y => x.1.cmp y.1) (Eu L)
noncomputable def foldE (f : Int) (L : List (Val × Int)) : Val :=
 if f = 0 then Val.ofInt (GZ L)
 else if f = 1 then (if IK L = 0 then Val.null else Val.ofInt (IJ L))
 else if f = 2 then (if Eu L = [] then Val.null else D0 (ascE L) 0)
 else if f = 3 then (if Eu L = [] then Val.null else D0 (ascE L) (GZ (Eu L) - 1))
 else if f = 4 then (if Eu L = [] then Val.null else D0 (ascE L) ((GZ (Eu L) - 1) / 2))
 else Val.null
theorem vcmp_ok : CmpOk (fun x y : Val × Int => x.1.cmp y.1) (fun x => x.1.clean) := cmp_ok.comp Prod.fst
theorem Ey (L : List (Val × Int)) : (ascE L).Perm (Eu L) := BG vcmp_ok.swo _
theorem QZ {x : Val × Int} {S : List (Val × Int)} (hp : MR (x :: S)) : D0 (x :: S) 0 = x.1 := by rw [D0, if_pos (hp x (by simp))]
theorem MT : ∀ {S : List (Val × Int)} {x : Val × Int}, MR (S ++ [x]) → D0 (S ++ [x]) (GZ (S ++ [x]) - 1) = x.1
 | [], x, h => by
   have := h x (by simp)
   show (if GZ [x] - 1 < x.2 then x.1 else _) = x.1
   rw [if_pos (by simp [GZ]; omega)]
 | y :: S, x, h => by
   have hp : MR (S ++ [x]) := fun z hz => h z (by rw [List.cons_append]; exact ZP _ hz)
   have ht := PZ hp (by simp)
   have he : GZ (y :: (S ++ [x])) = y.2 + GZ (S ++ [x]) := by simp [GZ]
   rw [List.cons_append, D0, he, if_neg (by omega), show y.2 + GZ (S ++ [x]) - 1 - y.2 = GZ (S ++ [x]) - 1 by omega]
   exact MT hp
end Go.Proofs.YtmpgmjlanngkfaaGreat
end
