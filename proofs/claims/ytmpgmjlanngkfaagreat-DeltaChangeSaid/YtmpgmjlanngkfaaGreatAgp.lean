/-
  Aggregates, plain: groups of entries by key rows, and the values of functions.
-/
import Derived.Test.YtmpgmjlanngkfaaGreatExb
import Derived.Test.YtmpgmjlanngkfaaGreatSum
import Derived.Test.YtmpgmjlanngkfaaGreatSrt
section
namespace Go.Proofs.YtmpgmjlanngkfaaGreat
open Go.Abs Go.RowKit
attribute [local irreducible] ARun Av MCall PCall HCall Ap SF CF CFs Ag Ai As fin AY VLe
set_option linter.unusedSimpArgs false
set_option maxRecDepth 100000
set_option maxHeartbeats 4000000
theorem Dj (n : Int) : PC 207 [.one (.lit (.int .i64 n))] (.v (.agg (Val.ofInt n).d)) := by
 refine Ac hT Tryz.func207 Tryz.ntmps207 [.cell 2 73] fun B => ?_
 repeat' first | refine kz ?_ | refine Aa (IZ ⟨1, n, ⟨#[]⟩⟩) ?_ | refine kh ?_ ?_ | exact ⟨⟩ | fail
 all_goals rfl
theorem C9 (b : Bool) : PC 206 [.one (.lit (.bool b))] (.v (.agg (BO b).d)) := by
 cases b
 ·refine Ac hT Tryz.func206 Tryz.ntmps206 [.cell 2 73] fun B => ?_
  repeat' first | refine kz ?_ | refine Aa (Dj _) ?_ | refine kh ?_ ?_ | exact ⟨⟩ | fail
  all_goals rfl
 ·refine Ac hT Tryz.func206 Tryz.ntmps206 [.cell 2 73] fun B => ?_
  repeat' first | refine kz ?_ | refine Aa (Dj _) ?_ | refine kh ?_ ?_ | exact ⟨⟩ | fail
  all_goals rfl
theorem FC (v : Val) : PC 153 [.agg v.d] (.v (.one (.lit (.bool (QZ v))))) := by
 refine Ac hT Tryz.func153 Tryz.ntmps153 [.tmp 2] fun B => ?_
 repeat' first | refine kz ?_ | refine Al rfl rfl (fun hb => ?_) (fun hb => ?_) | refine kf ?_ | fail
 all_goals (refine congrArg Dat.lit (congrArg Value.bool ?_); rw [Q2]; simp_all [QZ])
theorem Hp (v : Val) : PC 242 [.agg v.d] (.v (.one (.lit (.bool (U7 v))))) := by
 refine Ac hT Tryz.func242 Tryz.ntmps242 [.tmp 2] fun B => ?_
 repeat' first | refine kz ?_ | refine Al rfl rfl (fun hb => ?_) (fun hb => ?_) | refine kf ?_ | fail
 all_goals (refine congrArg Dat.lit (congrArg Value.bool ?_); rw [Q2]; simp_all [U7])
theorem YJ (a b : Val) : PC 204 [.agg a.d, .agg b.d] (.v (.agg (PS a b).d)) := by
 have h1 := Hp a
 have h2 := Hp b
 have h3 := FC a
 have h4 := FC b
 unfold PS
 generalize U7 a = p at *
 generalize U7 b = q at *
 generalize QZ a = r at *
 generalize QZ b = s at *
 have t0 := C9 false
 have t1 := C9 true
 cases p <;> cases q <;> cases r <;> cases s
 all_goals
  refine Ac hT Tryz.func204 Tryz.ntmps204 [.cell 4 73] fun B => ?_
  repeat' first | refine kz ?_ | refine Aa (h1) ?_ | refine Aa (h2) ?_ | refine Aa (h3) ?_ | refine Aa (h4) ?_ | refine Aa (t0) ?_ | refine Aa (t1) ?_ | refine kh ?_ ?_ | exact ⟨⟩ | fail
  all_goals rfl
theorem bW (a b : Val) : PC 205 [.agg a.d, .agg b.d] (.v (.agg (Z7 a b).d)) := by
 have h1 := Hp a
 have h2 := Hp b
 have h3 := FC a
 have h4 := FC b
 unfold Z7
 generalize U7 a = p at *
 generalize U7 b = q at *
 generalize QZ a = r at *
 generalize QZ b = s at *
 have t0 := C9 false
 have t1 := C9 true
 cases p <;> cases q <;> cases r <;> cases s
 all_goals
  refine Ac hT Tryz.func205 Tryz.ntmps205 [.cell 4 73] fun B => ?_
  repeat' first | refine kz ?_ | refine Aa (h1) ?_ | refine Aa (h2) ?_ | refine Aa (h3) ?_ | refine Aa (h4) ?_ | refine Aa (t0) ?_ | refine Aa (t1) ?_ | refine kh ?_ ?_ | exact ⟨⟩ | fail
  all_goals rfl
theorem T7 (op : Int) (a b c : Val) : PC 158 [.one (.lit (.int .i64 op)), .agg a.d, .agg b.d, .agg c.d] (.v (.agg (Kc op a b c).d)) := by
 have h1 := YJ a b
 have h2 := bW a b
 have h3 := FC a
 have h4 := C9 (decide (a.kind = 0))
 unfold Kc
 refine Ac hT Tryz.func158 Tryz.ntmps158 [.cell 8 73] fun B => ?_
 repeat' first | refine kz ?_ | refine Az rfl (fun hb => ?_) (fun hb => ?_) | refine Aa (h1) ?_ | refine Aa (h2) ?_ | refine Aa (h3) ?_ | refine Aa (h4) ?_ | refine kh ?_ ?_ | exact ⟨⟩ | fail
 all_goals simp_all
theorem SN {s : ByteArray} (h : s.size ≤ 32) : Val.ofText s = ⟨2, 0, s⟩ := by
 simp [Val.ofText, Val.clean, Val.valid, h]
theorem Wu {s : ByteArray} (h : 32 < s.size) : Val.ofText s = Val.null := by
 have h' : ¬ s.size ≤ 32 := by omega
 simp [Val.ofText, Val.clean, Val.valid, h']
theorem Wv (op : Int) (a b : Val) (ha : a.valid = true) (hb : b.valid = true) : PC 159 [.one (.lit (.int .i64 op)), .agg a.d, .agg b.d] (.v (.agg (Ct op a b).d)) := by
 have h1 := Dj (a.text.size : Int)
 have la : a.kind = 2 → a.text.size ≤ 32 := fun h => by
  rcases BT ha with h2 | h2 | h2
  ·omega
  ·omega
  ·exact h2.2.1
 have lb : b.kind = 2 → b.text.size ≤ 32 := fun h => by
  rcases BT hb with h2 | h2 | h2
  ·omega
  ·omega
  ·exact h2.2.1
 by_cases ka : a.kind = 2
 ·have la := la ka
  by_cases o9 : op = 9
  ·have e : Ct op a b = Val.ofInt a.text.size := by rw [Ct, if_neg (by omega), if_pos o9]
   rw [e]
   refine Ac hT Tryz.func159 Tryz.ntmps159 [.cell 6 73] fun B => ?_
   repeat' first | refine kz ?_ | refine Aa (h1) ?_ | refine kf ?_ | refine Al rfl rfl (fun hb => ?_) (fun hb => ?_) | exact k0 | refine kg ?_ ?_ | fail
   all_goals rfl
  by_cases o8 : op = 8
  ·by_cases kb : b.kind = 2
   ·have lb := lb kb
    have e : Ct op a b = Val.ofText (a.text ++ b.text) := by rw [Ct, if_neg (by omega), if_neg o9, if_pos ⟨o8, kb⟩]
    rw [e]
    have hz : (a.text ++ b.text).size = a.text.size + b.text.size := ByteArray.size_append
    by_cases hl : a.text.size + b.text.size ≤ 32
    ·rw [SN (by omega)]
     refine Ac hT Tryz.func159 Tryz.ntmps159 [.cell 6 73] fun B => ?_
     repeat' first | refine kz ?_ | refine kf ?_ | refine Al rfl rfl (fun hb => ?_) (fun hb => ?_) | exact k0 | refine kg ?_ ?_ | fail
     all_goals rfl
    ·rw [Wu (by omega)]
     refine Ac hT Tryz.func159 Tryz.ntmps159 [.cell 6 73] fun B => ?_
     repeat' first | refine kz ?_ | refine kf ?_ | refine Al rfl rfl (fun hb => ?_) (fun hb => ?_) | exact k0 | refine kg ?_ ?_ | fail
     all_goals rfl
   ·have e : Ct op a b = Val.null := by rw [Ct, if_neg (by omega), if_neg o9, if_neg (fun q => kb q.2), if_neg (fun q => by omega)]
    rw [e]
    refine Ac hT Tryz.func159 Tryz.ntmps159 [.cell 6 73] fun B => ?_
    repeat' first | refine kz ?_ | refine kf ?_ | refine Al rfl rfl (fun hb => ?_) (fun hb => ?_) | exact k0 | refine kg ?_ ?_ | fail
    all_goals rfl
  by_cases wY : op = 10 ∧ b.kind = 1 ∧ 0 ≤ b.int
  ·obtain ⟨p1, p2, p3⟩ := wY
   have hm : (min b.int a.text.size).toNat ≤ a.text.size := by omega
   have e : Ct op a b = Val.ofText (a.text.extract 0 (min b.int a.text.size).toNat) := by rw [Ct, if_neg (by omega), if_neg o9, if_neg (fun q => o8 q.1), if_pos ⟨p1, p2, p3⟩]
   rw [e, SN (by rw [ByteArray.size_extract]; omega)]
   refine Ac hT Tryz.func159 Tryz.ntmps159 [.cell 6 73] fun B => ?_
   repeat' first | refine kz ?_ | refine kf ?_ | refine Al rfl rfl (fun hb => ?_) (fun hb => ?_) | exact k0 | refine kg ?_ ?_ | fail
   all_goals first | rfl | (rw [show ∀ x y : Int, (if x < y then x else y) = min y x from fun x y => by split <;> omega]; rfl)
  ·have e : Ct op a b = Val.null := by rw [Ct, if_neg (by omega), if_neg o9, if_neg (fun q => o8 q.1), if_neg wY]
   rw [e]
   refine Ac hT Tryz.func159 Tryz.ntmps159 [.cell 6 73] fun B => ?_
   repeat' first | refine kz ?_ | refine kf ?_ | refine Al rfl rfl (fun hb => ?_) (fun hb => ?_) | exact k0 | refine kg ?_ ?_ | fail
   all_goals first | rfl | omega
 ·have e : Ct op a b = Val.null := by rw [Ct, if_pos ka]
  rw [e]
  refine Ac hT Tryz.func159 Tryz.ntmps159 [.cell 6 73] fun B => ?_
  repeat' first | refine kz ?_ | refine kf ?_ | refine Al rfl rfl (fun hb => ?_) (fun hb => ?_) | exact k0 | refine kg ?_ ?_ | fail
  all_goals rfl
theorem PX (a b : Val) : Cy [.int .i64 a.kind, .int .i64 a.int, .string a.text] [.int .i64 b.kind, .int .i64 b.int, .string b.text] = a.same b := by
 simp [Cy, JH, Val.same]
theorem PY (op : Int) (a b : Val) : PC 160 [.one (.lit (.int .i64 op)), .agg a.d, .agg b.d] (.v (.agg (Fz op a b).d)) := by
 have h1 := Jb a b
 by_cases k : a.kind = 0 ∨ a.kind ≠ b.kind
 ·rw [show Fz op a b = Val.null from if_pos k]
  rcases k with k | k
  ·refine Ac hT Tryz.func160 Tryz.ntmps160 [.cell 6 73] fun B => ?_
   repeat' first | refine kz ?_ | refine kf ?_ | refine Al rfl rfl (fun hb => ?_) (fun hb => ?_) | exact k0 | refine kg ?_ ?_ | fail
   all_goals rfl
  ·refine Ac hT Tryz.func160 Tryz.ntmps160 [.cell 6 73] fun B => ?_
   repeat' first | refine kz ?_ | refine kf ?_ | refine Al rfl rfl (fun hb => ?_) (fun hb => ?_) | exact k0 | refine kg ?_ ?_ | fail
   all_goals rfl
 ·have k1 : ¬ a.kind = 0 := fun q => k (.inl q)
  have k2 : a.kind = b.kind := Zz fun q => k (.inr q)
  by_cases o : op = 11
  ·rw [show Fz op a b = BO (a.same b) by rw [Fz, if_neg k, if_pos o], ← PX]
   refine Ac hT Tryz.func160 Tryz.ntmps160 [.cell 6 73] fun B => ?_
   repeat' first | refine kz ?_ | refine Aa (h1) ?_ | refine Aa (C9 _) ?_ | refine kf ?_ | refine Al rfl rfl (fun hb => ?_) (fun hb => ?_) | exact k0 | refine kg ?_ ?_ | fail
   all_goals rfl
  ·rw [show Fz op a b = BO (decide (a.cmp b < 0)) by rw [Fz, if_neg k, if_neg o]]
   refine Ac hT Tryz.func160 Tryz.ntmps160 [.cell 6 73] fun B => ?_
   repeat' first | refine kz ?_ | refine Aa (h1) ?_ | refine Aa (C9 _) ?_ | refine kf ?_ | refine Al rfl rfl (fun hb => ?_) (fun hb => ?_) | exact k0 | refine kg ?_ ?_ | fail
   all_goals rfl
end Go.Proofs.YtmpgmjlanngkfaaGreat
end
section
namespace Go.Proofs.YtmpgmjlanngkfaaGreat
open Go.Abs Go.RowKit
set_option linter.unusedSimpArgs false
set_option maxRecDepth 100000
variable {S : List (Val × Int)} {acc : List (List Val × List Entry)} {b : List Entry} {e : Entry} {i : Nat} {kf : List Val → List Val}
def kR (a b : List Val) : Prop := Aj a b < 0
theorem Vz (a : List Val) : ¬ kR a a := by unfold kR; rw [rowCmp_ok.refl]; omega
theorem VA (a b c : List Val) (h1 : kR a b) (h2 : kR b c) : kR a c := rowCmp_ok.trans _ _ _ h1 h2
def D9 (b : List Entry) (kf : List Val → List Val) : Prop := ∀ e ∈ b, AE (kf e.row)
def Re (kf : List Val → List Val) (k : List Val) (e : Entry) : Bool := decide (Aj (kf e.row) k = 0)
def Dg (b : List Entry) (kf : List Val → List Val) : List (List Val) := (sortE (b.map fun e => ⟨kf e.row, 1⟩)).map Entry.row
def Iv (b : List Entry) (kf : List Val → List Val) : List (List Val × List Entry) := (Dg b kf).map fun k => (k, b.filter (Re kf k))
theorem He (hk : D9 b kf) (he : e ∈ b) {k : List Val} (hc : AE k) : Re kf k e = true ↔ kf e.row = k := by
 unfold Re
 rw [decide_eq_true_eq]
 exact ⟨EV (hk e he) hc, fun h => by rw [h]; exact rowCmp_ok.refl _⟩
theorem Sl : ∀ (l : List Entry) (r : List Val), (∀ e ∈ l, 0 < e.count) → 0 ≤ Bn l r
 | [], _, _ => Int.le_refl _
 | e :: l, r, h => by
   have h1 := Sl l r (fun x hx => h x (by simp [hx]))
   have h2 := h e (by simp)
   rw [Bn]; split <;> omega
theorem OR : ∀ {l : List Entry} {r : List Val}, (∀ e ∈ l, 0 < e.count) → (∃ e ∈ l, Aj e.row r = 0) → Bn l r ≠ 0
 | [], _, _, h => by obtain ⟨_, h, _⟩ := h; cases h
 | e :: l, r, h, hx => by
   have h1 := Sl l r (fun x hx => h x (by simp [hx]))
   have h2 := h e (by simp)
   rw [Bn]
   by_cases he : Aj e.row r = 0
   ·rw [if_pos he]; omega
   ·rw [if_neg he]
    obtain ⟨x, nI, rk⟩ := hx
    rcases FL.1 nI with rfl | nI
    ·exact absurd rk he
    ·have := OR (fun y hy => h y (by simp [hy])) ⟨x, nI, rk⟩
     omega
theorem Hf (hk : D9 b kf) : (Dg b kf).Pairwise kR ∧ (∀ k ∈ Dg b kf, AE k) ∧ ∀ k, k ∈ Dg b kf ↔ ∃ e ∈ b, kf e.row = k := by
 have jz : ∀ e ∈ b.map fun e : Entry => (⟨kf e.row, 1⟩ : Entry), AE e.row := fun e he => by
  obtain ⟨x, hx, rfl⟩ := List.mem_map.1 he
  exact hk x hx
 obtain ⟨h1, h2⟩ := B5 _ jz
 have lQ : ∀ k ∈ Dg b kf, AE k := fun k th => by
  obtain ⟨e, he, rfl⟩ := List.mem_map.1 th
  exact h1.cl e he
 refine ⟨by unfold Dg; rw [dY]; exact h1.up, lQ, fun k => ⟨fun hm => ?_, fun hm => ?_⟩⟩
 ·have hc := lQ k hm
  obtain ⟨e, he, rfl⟩ := List.mem_map.1 hm
  have hz : Bn (sortE (b.map fun e : Entry => (⟨kf e.row, 1⟩ : Entry))) e.row ≠ 0 := by
   rw [G8 (C0 h1.up) he (rowCmp_ok.refl _)]; exact h1.nz e he
  rw [h2] at hz
  obtain ⟨x, hx, hr⟩ := Kr hz
  obtain ⟨y, hy, rfl⟩ := List.mem_map.1 hx
  exact ⟨y, hy, EV (hk y hy) hc hr⟩
 ·obtain ⟨e, he, rfl⟩ := hm
  have hz : Bn (b.map fun e : Entry => (⟨kf e.row, 1⟩ : Entry)) (kf e.row) ≠ 0 :=
   OR (fun x hx => by obtain ⟨y, _, rfl⟩ := List.mem_map.1 hx; exact Int.zero_lt_one) ⟨_, List.mem_map.2 ⟨e, he, rfl⟩, rowCmp_ok.refl _⟩
  rw [← h2] at hz
  obtain ⟨x, hx, hr⟩ := Kr hz
  exact List.mem_map.2 ⟨x, hx, EV (h1.cl x hx) (hk e he) hr⟩
structure GI (b : List Entry) (kf : List Val → List Val) (acc : List (List Val × List Entry)) : Prop where
 nd : acc.Pairwise fun g h => g.1 ≠ h.1
 mem : ∀ g ∈ acc, (∃ e ∈ b, kf e.row = g.1) ∧ g.2 = b.filter (Re kf g.1)
 all : ∀ e ∈ b, ∃ g ∈ acc, g.1 = kf e.row
theorem bw (kf : List Val → List Val) : GI [] kf [] := ⟨.nil, fun _ hg => (by cases hg), fun _ he => (by cases he)⟩
theorem Bp {α : Type} {l : List α} {x : α} (h : l[i]? = some x) : l.take (i + 1) = l.take i ++ [x] := by rw [Gm, h]; rfl
theorem bx {j : Nat} {es : List Entry} (hk : D9 b kf) (h : GI (b.take i) kf acc) (he : b[i]? = some e) (hj : acc[j]? = some (kf e.row, es)) : GI (b.take (i + 1)) kf (acc.set j (kf e.row, es ++ [e])) := by
 have oW : e ∈ b := Cb he
 have ky := lt_of_getElem? hj
 have j2 : ∀ g ∈ acc, g ≠ (kf e.row, es) → g.1 ≠ kf e.row := fun g hg hn hq => by
  obtain ⟨q, kU⟩ := L0.1 hg
  have o0 := lt_of_getElem? kU
  have hp := XQ.1 h.nd
  rw [Bo ky] at hj
  rw [Bo o0] at kU
  simp only [Option.some.injEq] at hj kU
  rcases Nat.lt_trichotomy q j with c | c | c
  ·have := hp q j o0 ky c; rw [kU, hj] at this; exact this hq
  ·subst c; exact hn (kU.symm.trans hj)
  ·have := hp j q ky o0 c; rw [kU, hj] at this; exact this hq.symm
 have ti : (acc.set j (kf e.row, es ++ [e])).map Prod.fst = acc.map Prod.fst := by
  rw [Sb]
  refine Sa fun q => ?_
  rw [gp]
  split
  ·rename_i c; subst c
   rw [BR, if_pos ky, BU, hj]; rfl
  ·rfl
 rw [Bp he]
 refine ⟨?_, fun g hg => ?_, fun x hx => ?_⟩
 ·have := h.nd
  rw [← dY (f := Prod.fst) (R := fun a b => a ≠ b)] at this ⊢
  rw [ti]; exact this
 ·rw [ZC]
  obtain ⟨q, hq⟩ := L0.1 hg
  rw [gp] at hq
  split at hq
  ·rename_i c; subst c
   simp only [Option.some.injEq] at hq
   subst hq
   refine ⟨⟨e, by simp, rfl⟩, ?_⟩
   rw [← (h.mem _ (Cb hj)).2, List.filter_cons_of_pos ((He hk oW (hk e oW)).2 rfl)]; rfl
  ·rename_i c
   have nc := Cb hq
   have pK : g.1 ≠ kf e.row := by
    intro hh
    have o0 := lt_of_getElem? hq
    have hp := XQ.1 h.nd
    rw [Bo ky] at hj
    rw [Bo o0] at hq
    simp only [Option.some.injEq] at hj hq
    rcases Nat.lt_trichotomy q j with c | c | c
    ·have := hp q j o0 ky c; rw [hq, hj] at this; exact this hh
    ·exact absurd c.symm ‹_›
    ·have := hp j q ky o0 c; rw [hq, hj] at this; exact this hh.symm
   obtain ⟨⟨x, hx, qb⟩, h2⟩ := h.mem g nc
   refine ⟨⟨x, by simp [hx], qb⟩, ?_⟩
   have yx : x ∈ b := I0 hx
   rw [← h2, List.filter_cons_of_neg (fun q => pK ((He hk oW (qb ▸ hk x yx)).1 q).symm)]; simp
 ·rcases EY.1 hx with hx | hx
  ·obtain ⟨g, hg, pK⟩ := h.all x hx
   have : g.1 ∈ (acc.set j (kf e.row, es ++ [e])).map Prod.fst := by rw [ti]; exact List.mem_map.2 ⟨g, hg, rfl⟩
   obtain ⟨g', sq, hq⟩ := List.mem_map.1 this
   exact ⟨g', sq, hq.trans pK⟩
  ·rw [Ke] at hx; subst hx
   exact ⟨(kf x.row, es ++ [x]), L0.2 ⟨j, by rw [J5 ky]⟩, rfl⟩
theorem bz (hk : D9 b kf) (h : GI (b.take i) kf acc) (he : b[i]? = some e) (hn : ∀ g ∈ acc, g.1 ≠ kf e.row) : GI (b.take (i + 1)) kf (acc ++ [(kf e.row, [e])]) := by
 have oW : e ∈ b := Cb he
 rw [Bp he]
 refine ⟨?_, fun g hg => ?_, fun x hx => ?_⟩
 ·rw [aV]
  exact ⟨h.nd, dB .., fun g hg g' sq => by rw [Ke] at sq; subst sq; exact hn g hg⟩
 ·rw [ZC]
  rcases EY.1 hg with hg | hg
  ·obtain ⟨⟨x, hx, qb⟩, h2⟩ := h.mem g hg
   refine ⟨⟨x, by simp [hx], qb⟩, ?_⟩
   rw [← h2, List.filter_cons_of_neg (fun q => hn g hg ((He hk oW (qb ▸ hk x (I0 hx))).1 q).symm)]; simp
  ·rw [Ke] at hg; subst hg
   refine ⟨⟨e, by simp, rfl⟩, ?_⟩
   rw [List.filter_cons_of_pos ((He hk oW (hk e oW)).2 rfl), List.filter_eq_nil_iff.2 fun x hx q => ?_]; rfl
   obtain ⟨g, hg, pK⟩ := h.all x hx
   exact hn g hg (pK.trans ((He hk (I0 hx) (hk e oW)).1 q))
 ·rcases EY.1 hx with hx | hx
  ·obtain ⟨g, hg, pK⟩ := h.all x hx
   exact ⟨g, by simp [hg], pK⟩
  ·rw [Ke] at hx; subst hx
   exact ⟨(kf x.row, [x]), by simp, rfl⟩
def HX (g h : List Val × List Entry) : Int := Aj g.1 h.1
theorem grpCmp_ok : CmpOk HX (fun g => g.1.map Val.clean) := rowCmp_ok.comp Prod.fst
theorem X9 (hk : D9 b kf) (h : GI b kf acc) : sortF HX acc = Iv b kf := by
 obtain ⟨k1, k2, k3⟩ := Hf hk
 have hp := Br grpCmp_ok.swo acc
 have hs := Ez grpCmp_ok.swo acc
 have ub : ∀ g ∈ acc, AE g.1 := fun g hg => by
  obtain ⟨⟨e, he, hq⟩, _⟩ := h.mem g hg
  exact hq ▸ hk e he
 have mQ : (sortF HX acc).Pairwise fun g h => g.1 ≠ h.1 := (hp.pairwise_iff (fun {a b} lZ => lZ.symm)).2 h.nd
 have h1 : (sortF HX acc).Pairwise fun g h => kR g.1 h.1 := by
  refine List.Pairwise.imp_of_mem (fun {g g'} hg sq ⟨q1, q2⟩ => ?_) (mQ.and hs)
  have c1 := ub g (hp.mem_iff.1 hg)
  have c2 := ub g' (hp.mem_iff.1 sq)
  have e0 : Aj g.1 g'.1 ≠ 0 := fun q => q1 (EV c1 c2 q)
  have e1 := rowCmp_ok.anti g.1 g'.1
  have e2 : ¬ Aj g'.1 g.1 < 0 := q2
  show Aj g.1 g'.1 < 0
  omega
 have h2 : (Iv b kf).Pairwise fun g h => kR g.1 h.1 := by
  unfold Iv; rw [dY]; exact k1
 refine DN (fun g => Vz g.1) (fun a b c => VA a.1 b.1 c.1) h1 h2 fun g => ?_
 rw [hp.mem_iff]
 constructor
 ·intro hg
  obtain ⟨⟨e, he, hq⟩, h3⟩ := h.mem g hg
  exact List.mem_map.2 ⟨g.1, (k3 _).2 ⟨e, he, hq⟩, by rw [← h3]⟩
 ·intro hg
  obtain ⟨k, th, rfl⟩ := List.mem_map.1 hg
  obtain ⟨e, he, rfl⟩ := (k3 k).1 th
  obtain ⟨g, hg, pK⟩ := h.all e he
  have := (h.mem g hg).2
  rw [pK] at this
  rw [← this, ← pK]; exact hg
def Dx (L : List (Val × Int)) : Int := (L.map Prod.snd).sum
def Gz (L : List (Val × Int)) : Int := (L.map fun x => if x.1.kind = 1 then x.1.int * x.2 else 0).sum
def Gn (L : List (Val × Int)) : Int := (L.map fun x => if x.1.kind = 1 then x.2 else 0).sum
def Cj (L : List (Val × Int)) : List (Val × Int) := L.filter fun x => decide (x.1.kind ≠ 0)
def Cs : List (Val × Int) → Int → Val
 | [], _ => Val.null
 | x :: L, i => if i < x.2 then x.1 else Cs L (i - x.2)
def below (L : List (Val × Int)) (v : Val) : Int := (L.map fun x => if x.1.cmp v < 0 then x.2 else 0).sum
def L3 (L : List (Val × Int)) (v : Val) : Int := (L.map fun x => if v.cmp x.1 < 0 then 0 else x.2).sum
def Ea (L : List (Val × Int)) : Prop := ∀ x ∈ L, 0 < x.2
def NA (L : List (Val × Int)) : Prop := L.Pairwise fun x y => ¬ y.1.cmp x.1 < 0
theorem EJ {α : Type} {f : α → Int} {a b : List α} (h : a.Perm b) : (a.map f).sum = (b.map f).sum := by
 induction h with
 | nil => rfl
 | cons x _ ih => simp [ih]
 | swap x y l => simp only [List.map_cons, Vb]; omega
 | trans _ _ i1 i2 => exact i1.trans i2
theorem NB {α : Type} {f g : α → Int} : ∀ {l : List α}, (∀ x ∈ l, f x ≤ g x) → (l.map f).sum ≤ (l.map g).sum
 | [], _ => Int.le_refl _
 | x :: l, h => by
   have h1 := h x (by simp)
   have h2 := NB (l := l) fun y hy => h y (by simp [hy])
   simp only [List.map_cons, Vb]; omega
theorem Iw {α : Type} {f : α → Int} : ∀ {l : List α}, (∀ x ∈ l, f x = 0) → (l.map f).sum = 0
 | [], _ => rfl
 | x :: l, h => by
   have h1 := h x (by simp)
   have h2 := Iw (l := l) fun y hy => h y (by simp [hy])
   simp only [List.map_cons, Vb]; omega
theorem Ya {L : List (Val × Int)} (hp : Ea L) (v : Val) : 0 ≤ L3 L v := by
 have h := NB (f := fun _ => (0 : Int)) (g := fun x : Val × Int => if v.cmp x.1 < 0 then 0 else x.2) (l := L) fun x hx => by
  have := hp x hx
  split <;> omega
 rw [Iw (f := fun _ : Val × Int => (0 : Int)) (fun _ _ => rfl)] at h
 exact h
theorem Ix {L : List (Val × Int)} (hp : Ea L) (hn : L ≠ []) : 0 < Dx L := by
 cases L with
 | nil => exact absurd rfl hn
 | cons x L =>
   have h := NB (f := fun _ => (0 : Int)) (g := Prod.snd) (l := L) fun y hy => by
    have := hp y (by simp [hy]); omega
   rw [Iw (f := fun _ : Val × Int => (0 : Int)) (fun _ _ => rfl)] at h
   have := hp x (by simp)
   unfold Dx
   simp only [List.map_cons, Vb]; omega
theorem eD {x v w : Val} (h1 : ¬ v.cmp x < 0) (h2 : v.cmp w < 0) : x.cmp w < 0 := by
 have h3 := cmp_ok.anti x v
 by_cases h0 : x.cmp v = 0
 ·exact cmp_ok.left ((cmp_ok.zero x v).1 h0).symm h2
 ·exact cmp_ok.trans _ _ _ (by omega) h2
theorem KH : ∀ {S : List (Val × Int)} {i : Int}, NA S → Ea S → 0 ≤ i → i < Dx S → below S (Cs S i) ≤ i ∧ i < L3 S (Cs S i) ∧ ∃ x ∈ S, x.1 = Cs S i
 | [], i, _, _, h0, h1 => by simp [Dx] at h1; omega
 | x :: L, i, ha, hp, h0, h1 => by
   obtain ⟨uc, wZ⟩ := LW.1 ha
   have tg := hp x (by simp)
   have x3 : Ea L := fun y hy => hp y (by simp [hy])
   have hb : ∀ v, below (x :: L) v = (if x.1.cmp v < 0 then x.2 else 0) + below L v := fun v => by simp [below]
   have hu : ∀ v, L3 (x :: L) v = (if v.cmp x.1 < 0 then 0 else x.2) + L3 L v := fun v => by simp [L3]
   rw [Cs]
   by_cases hi : i < x.2
   ·rw [if_pos hi, hb, hu, cmp_ok.refl, if_neg (by omega), if_neg (by omega)]
    have hz : below L x.1 = 0 := Iw fun y hy => if_neg (uc y hy)
    have := Ya x3 x.1
    exact ⟨by omega, by omega, x, by simp, rfl⟩
   ·rw [if_neg hi]
    have ht : Dx (x :: L) = x.2 + Dx L := by simp [Dx]
    obtain ⟨q1, q2, y, hy, q3⟩ := KH (i := i - x.2) wZ x3 (by omega) (by omega)
    rw [hb, hu]
    refine ⟨?_, ?_, y, by simp [hy], q3⟩
    ·split <;> omega
    ·rw [if_neg (by rw [← q3]; exact uc y hy)]; omega
theorem Yb {S' : List (Val × Int)} (hp : Ea S) (qc : S.Perm S') {i : Int} {v w : Val} (h1 : below S v ≤ i) (h2 : i < L3 S v) (h3 : below S' w ≤ i) (h4 : i < L3 S' w) : v.cmp w = 0 := by
 have e1 : below S' w = below S w := (EJ qc).symm
 have e2 : L3 S' w = L3 S w := (EJ qc).symm
 rw [e1] at h3; rw [e2] at h4
 have key : ∀ a b : Val, a.cmp b < 0 → L3 S a ≤ below S b := fun a b lZ => NB fun x hx => by
  have := hp x hx
  split
  ·split <;> omega
  ·rename_i q
   rw [if_pos (eD q lZ)]; omega
 have h5 := cmp_ok.anti v w
 by_cases c1 : v.cmp w < 0
 ·have := key v w c1; omega
 ·by_cases c2 : w.cmp v < 0
  ·have := key w v c2; omega
  ·omega
theorem OS {S' : List (Val × Int)} {i : Int} (ha : NA S) (qd : NA S') (hp : Ea S) (qc : S.Perm S') (hc : ∀ x ∈ S, x.1.clean = x.1) (h0 : 0 ≤ i) (h1 : i < Dx S) : Cs S i = Cs S' i := by
 have yy : Ea S' := fun x hx => hp x (qc.mem_iff.2 hx)
 have ht : Dx S' = Dx S := (EJ qc).symm
 obtain ⟨a1, a2, x, hx, a3⟩ := KH ha hp h0 h1
 obtain ⟨b1, b2, y, hy, b3⟩ := KH qd yy h0 (by omega)
 have hz := (cmp_ok.zero _ _).1 (Yb hp qc a1 a2 b1 b2)
 rw [← a3, ← b3] at hz ⊢
 rw [hc x hx, hc y (qc.mem_iff.2 hy)] at hz
 exact hz
noncomputable def ascE (L : List (Val × Int)) : List (Val × Int) := sortF (fun x y => x.1.cmp y.1) (Cj L)
noncomputable def foldE (f : Int) (L : List (Val × Int)) : Val :=
 if f = 0 then Val.ofInt (Dx L)
 else if f = 1 then (if Gn L = 0 then Val.null else Val.ofInt (Gz L))
 else if f = 2 then (if Cj L = [] then Val.null else Cs (ascE L) 0)
 else if f = 3 then (if Cj L = [] then Val.null else Cs (ascE L) (Dx (Cj L) - 1))
 else if f = 4 then (if Cj L = [] then Val.null else Cs (ascE L) ((Dx (Cj L) - 1) / 2))
 else Val.null
theorem vcmp_ok : CmpOk (fun x y : Val × Int => x.1.cmp y.1) (fun x => x.1.clean) := cmp_ok.comp Prod.fst
theorem Cv (L : List (Val × Int)) : (ascE L).Perm (Cj L) := Br vcmp_ok.swo _
theorem KI (L : List (Val × Int)) : NA (ascE L) := Ez vcmp_ok.swo _
theorem TB {x : Val × Int} (hp : Ea (x :: S)) : Cs (x :: S) 0 = x.1 := by rw [Cs, if_pos (hp x (by simp))]
theorem OT : ∀ {S : List (Val × Int)} {x : Val × Int}, Ea (S ++ [x]) → Cs (S ++ [x]) (Dx (S ++ [x]) - 1) = x.1
 | [], x, h => by
   have := h x (by simp)
   show (if Dx [x] - 1 < x.2 then x.1 else _) = x.1
   rw [if_pos (by simp [Dx]; omega)]
 | y :: S, x, h => by
   have hp : Ea (S ++ [x]) := fun z hz => h z (by rw [List.cons_append]; exact dT _ hz)
   have ht := Ix hp (by simp)
   have he : Dx (y :: (S ++ [x])) = y.2 + Dx (S ++ [x]) := by simp [Dx]
   rw [List.cons_append, Cs, he, if_neg (by omega), show y.2 + Dx (S ++ [x]) - 1 - y.2 = Dx (S ++ [x]) - 1 by omega]
   exact OT hp
end Go.Proofs.YtmpgmjlanngkfaaGreat
end
