/-
  Aggregates: the state of a group.
-/
import Derived.Test.YtmpgmjlanngkfaaGreatAgk
import Derived.Test.YtmpgmjlanngkfaaGreatTab
import Derived.Test.YtmpgmjlanngkfaaGreatBso
section
namespace Go.Proofs.YtmpgmjlanngkfaaGreat
open Go.Abs Go.RowKit
attribute [local irreducible] ARun Aq MCall PCall HCall Am SF CF CFs Af Al Ap B5 AW VLe
set_option linter.unusedSimpArgs false
set_option maxRecDepth 100000
set_option maxHeartbeats 4000000
variable {ag : List Agg} {k : Nat}
def FD (l : List Int) : Dat := .sl (l.map fun n => [.lit (.int .i64 n)])
theorem WJ (g : FuncId) (p : Int → Bool) (hg : ∀ e : Int, PC g [.one (.lit (.int .i64 e))] (.v (.one (.lit (.bool (p e)))))) (b : List Int) :
   ∃ k : Int, (0 ≤ k ↔ b.any p = true) ∧ PC 178 [.one (FD b), .one (.lit (.func (.func g) #[] #[]))] (.v (.one (.lit (.int .i64 k)))) := by
 have key : ∀ K : Int, (∀ i e, b[i]? = some e → p e = true → (b.take i).all (fun e => !p e) = true → K = i) → (b.all (fun e => !p e) = true → K = -1) →
    PC 178 [.one (FD b), .one (.lit (.func (.func g) #[] #[]))] (.v (.one (.lit (.int .i64 K)))) := by
   intro K hK1 hK2
   refine Ad hT Tryz.func178 Tryz.ntmps178 [.tmp 4] fun B => ?_
   refine Hy 0 rfl fun hlr => ?_
   simp only [BT, maxLen] at hlr
   repeat' first | refine kz ?_ | refine As ?_ | refine kf ?_ | fail
   refine AY (X := Nat) ([4, 5] ++ List.range' 8 11) (fun x => x ≤ b.length ∧ (b.take x).all (fun e => !p e) = true) (fun x lz => (8, (iC x)) :: lz) (fun x => []) (fun x => b.length - x) (0) ?_ ?_ ?_ ?_
   repeat' first | exact k0 | refine kw ?_ | omega
   ·exact ⟨by simp, by simp⟩
   rintro i c ⟨hi, hinv⟩
   by_cases hlt : i < b.length
   ·obtain ⟨e, hv⟩ := gx hlt
    have htk : ∀ f : Int → Bool, (b.take (i + 1)).all f = ((b.take i).all f && f e) := fun f => by rw [KL, hv, List.all_append]; simp
    have hge := hg e
    have hk1 := hK1 i e hv
    cases hp : p e
    ·rw [hp] at hge
     repeat' first | refine kz ?_ | refine AT hv ?_ | refine As ?_ | refine Aa (hge) ?_ | refine kf ?_ | fail
     apply Ae (i + 1) <;> (try dsimp only) <;> try repeat' first | exact k0 | refine kw ?_ | omega
     exact ⟨by omega, by rw [htk, hinv, hp]; rfl⟩
    ·rw [hp] at hge
     rw [hk1 hp hinv]
     repeat' first | refine kz ?_ | refine AT hv ?_ | refine As ?_ | refine Aa (hge) ?_ | refine kf ?_ | fail
     all_goals rfl
   ·have hie : i = b.length := by omega
    subst hie
    rw [PQ] at hinv
    rw [hK2 hinv]
    repeat' first | refine kz ?_ | refine As ?_ | refine kf ?_ | fail
    all_goals rfl
 cases hf : b.findIdx? p with
 | none =>
   refine ⟨-1, ?_, key (-1) (fun i e he hp _ => ?_) (fun _ => rfl)⟩
   ·have : b.any p = false := by
     rw [List.any_eq_false]
     intro x hx
     have := List.findIdx?_eq_none_iff.1 hf x hx
     simpa using this
    rw [this]; simp
   ·have := List.findIdx?_eq_none_iff.1 hf e (Df he)
    rw [hp] at this; cases this
 | some j =>
   obtain ⟨hj, hpj, hlt⟩ := List.findIdx?_eq_some_iff_getElem.1 hf
   refine ⟨j, ?_, key j (fun i e he hp hall => ?_) (fun hall => ?_)⟩
   ·have : b.any p = true := List.any_eq_true.2 ⟨_, Gl hj, hpj⟩
    rw [this]; simp
   ·obtain ⟨hil, hie⟩ := ZV.1 he
    rcases Nat.lt_trichotomy i j with h | h | h
    ·exact absurd (by rw [hie]; exact hp) (hlt i h)
    ·rw [h]
    ·have hm : b[j] ∈ b.take i := by
      rw [List.mem_take_iff_getElem]
      exact ⟨j, by omega, rfl⟩
     have := Ec.1 hall _ hm
     rw [hpj] at this; cases this
   ·have := Ec.1 hall _ (Gl hj)
    rw [hpj] at this; cases this
theorem IF (g : FuncId) (p : Int → Bool) (hg : ∀ e : Int, PC g [.one (.lit (.int .i64 e))] (.v (.one (.lit (.bool (p e)))))) (b : List Int) :
  PC 120 [.one (FD b), .one (.lit (.func (.func g) #[] #[]))] (.v (.one (.lit (.bool (b.any p))))) := by
 obtain ⟨k, hk, hc⟩ := WJ g p hg b
 refine Ad hT Tryz.func120 Tryz.ntmps120 [.tmp 4] fun B => ?_
 repeat' first | refine kz ?_ | refine Aa (hc) ?_ | refine kf ?_ | fail
 refine congrArg Dat.lit (congrArg Value.bool ?_)
 rw [Wu, decide_eq_true_eq]
 exact hk
structure Sta where
 key : List Val
 count : Int
 sums : List Int
 some : List Int
def Sta.d (s : Sta) : List Dat := [BS s.key, .lit (.int .i64 s.count), FD s.sums, FD s.some]
def Sta.x (s : Sta) : List Dat := [D0 s.key, .lit (.int .i64 s.count), FD s.sums, FD s.some]
def I1 (l : List Sta) : Dat := .sl (l.map Sta.d)
def Sta.zero (s : Sta) : Bool := decide (s.count = 0) && !(s.sums.any fun n => decide (n ≠ 0)) && !(s.some.any fun n => decide (n ≠ 0))
theorem KX (n : Int) : PC 119 [.one (.lit (.int .i64 n))] (.v (.one (.lit (.bool (decide (n ≠ 0)))))) := by
 refine Ad hT Tryz.func119 Tryz.ntmps119 [.tmp 2] fun B => ?_
 repeat' first | refine kz ?_ | refine kf ?_ | fail
 all_goals (refine congrArg Dat.lit (congrArg Value.bool ?_); by_cases h : n = 0 <;> simp [h])
theorem Hr (s : Sta) : PC 66 [.agg s.d] (.v (.one (.lit (.bool s.zero)))) := by
 have h1 := IF 119 _ KX s.sums
 have h2 := IF 119 _ KX s.some
 by_cases hc : s.count = 0
 ·have e1 : s.zero = (!(s.sums.any fun n => decide (n ≠ 0)) && !(s.some.any fun n => decide (n ≠ 0))) := by unfold Sta.zero; rw [decide_eq_true hc, Bool.true_and]
  cases hs : s.sums.any fun n => decide (n ≠ 0) with
  | true =>
    rw [hs] at h1 e1
    rw [e1]
    refine Ad hT Tryz.func66 Tryz.ntmps66 [.tmp 2] fun B => ?_
    repeat' first | refine kz ?_ | refine Aa (h1) ?_ | refine kf ?_ | fail
    all_goals rfl
  | false =>
    rw [hs] at h1 e1
    rw [e1, Bool.not_false, Bool.true_and]
    generalize (s.some.any fun n => decide (n ≠ 0)) = q at h2
    refine Ad hT Tryz.func66 Tryz.ntmps66 [.tmp 2] fun B => ?_
    repeat' first | refine kz ?_ | refine Aa (h1) ?_ | refine Aa (h2) ?_ | refine kf ?_ | fail
    all_goals rfl
 ·have e1 : s.zero = false := by unfold Sta.zero; rw [decide_eq_false hc, Bool.false_and, Bool.false_and]
  rw [e1]
  refine Ad hT Tryz.func66 Tryz.ntmps66 [.tmp 2] fun B => ?_
  repeat' first | refine kz ?_ | refine kf ?_ | fail
  all_goals rfl
def EP (l : List Agg) : Bool := l.all fun x => decide (x.func = 0 ∨ x.func = 1)
theorem Uw (l : List Agg) (hl : l.length ≤ 100000) : PC 63 [.one (HW l)] (.v (.one (.lit (.bool (EP l))))) := by
 refine Ad hT Tryz.func63 Tryz.ntmps63 [.tmp 2] fun B => ?_
 repeat' first | refine kz ?_ | refine As ?_ | refine kf ?_ | fail
 refine AY (X := Nat) ([2, 4] ++ List.range' 7 13) (fun x => x ≤ l.length ∧ (l.take x).all (fun x => decide (x.func = 0 ∨ x.func = 1)) = true) (fun x lz => (7, (iC x)) :: lz) (fun x => []) (fun x => l.length - x) (0) ?_ ?_ ?_ ?_
 repeat' first | exact k0 | refine kw ?_ | omega
 ·exact ⟨by simp, by simp⟩
 rintro i c ⟨hi, hinv⟩
 by_cases hlt : i < l.length
 ·obtain ⟨y, hv⟩ := gx hlt
  have hv2 : (l.map Agg.d)[i]? = some y.d := by rw [Ci, hv]; rfl
  by_cases h0 : y.func = 0
  ·repeat' first | refine kz ?_ | refine AT hv2 ?_ | refine As ?_ | refine kf ?_ | fail
   apply Ae (i + 1) <;> (try dsimp only) <;> try repeat' first | exact k0 | refine kw ?_ | omega
   exact ⟨by omega, CY (fun x : Agg => decide (x.func = 0 ∨ x.func = 1)) hv hinv (by simp [h0])⟩
  ·by_cases h1 : y.func = 1
   ·repeat' first | refine kz ?_ | refine AT hv2 ?_ | refine As ?_ | refine kf ?_ | fail
    apply Ae (i + 1) <;> (try dsimp only) <;> try repeat' first | exact k0 | refine kw ?_ | omega
    exact ⟨by omega, CY (fun x : Agg => decide (x.func = 0 ∨ x.func = 1)) hv hinv (by simp [h1])⟩
   ·rw [EP, DC (fun x : Agg => decide (x.func = 0 ∨ x.func = 1)) hv (by simp [h0, h1])]
    repeat' first | refine kz ?_ | refine AT hv2 ?_ | refine As ?_ | refine kf ?_ | fail
    all_goals rfl
 ·rw [Ag (show l.length ≤ i by omega)] at hinv
  rw [EP, hinv]
  repeat' first | refine kz ?_ | refine As ?_ | refine kf ?_ | fail
  all_goals rfl
def Sb (es : List Entry) (x : Agg) : Int := if x.func = 1 then GM (BU x es) else 0
def Sc (es : List Entry) (x : Agg) : Int := if x.func = 1 then GN (BU x es) else 0
def nE (es : List Entry) : Int := (es.map Entry.count).sum
def IG (ag : List Agg) (g : List Val × List Entry) : Sta := ⟨g.1, nE g.2, ag.map (Sb g.2), ag.map (Sc g.2)⟩
theorem Ux {es : List Entry} {i : Nat} {y : Entry} (h : es[i]? = some y) : nE (es.take (i + 1)) = nE (es.take i) + y.count := by unfold nE; rw [Ba h]; simp
theorem VQ {es : List Entry} (hl : es.length ≤ 4096) (hc : ∀ e ∈ es, -262144 ≤ e.count ∧ e.count ≤ 262144) (i : Nat) : -1073741824 ≤ nE (es.take i) ∧ nE (es.take i) ≤ 1073741824 := by
 have h1 := Jy (f := Entry.count) (M := 262144) (l := es.take i) fun x hx => (by have := hc x (Ji hx); omega)
 have h2 : (es.take i).length ≤ 4096 := by simp; omega
 unfold nE; omega
def FW (f : Agg → Int) (ag : List Agg) (k : Nat) : List (List Dat) := ((ag.take k).map fun x => [Dat.lit (.int .i64 (f x))]) ++ List.replicate (ag.length - k) [Dat.lit (.int .i64 0)]
theorem JD (f : Agg → Int) (h : k ≤ ag.length) : (FW f ag k).length = ag.length := by simp [FW]; omega
theorem M3 (h : k < ag.length) : List.replicate (ag.length - k) [Dat.lit (.int .i64 0)] = [Dat.lit (.int .i64 0)] :: List.replicate (ag.length - (k + 1)) [Dat.lit (.int .i64 0)] := by
 rw [show ag.length - k = (ag.length - (k + 1)) + 1 by omega, ZH]
theorem JE (f : Agg → Int) (h : k < ag.length) : (FW f ag k)[k]? = some [Dat.lit (.int .i64 0)] := by
 unfold FW
 rw [M3 h, LH (by simp; omega)]
 simp [X6 (Nat.le_of_lt h)]
theorem JF (f : Agg → Int) {x : Agg} (h : ag[k]? = some x) : (FW f ag k).set k [Dat.lit (.int .i64 (f x))] = FW f ag (k + 1) := by
 have hk := lt_of_getElem? h
 unfold FW
 rw [M3 hk, VL _ _ (by simp; omega), Ba h]
 simp [X6 (Nat.le_of_lt hk)]
theorem KY (f : Agg → Int) {x : Agg} (h : ag[k]? = some x) (hf : f x = 0) : FW f ag k = FW f ag (k + 1) := by
 rw [← JF f h, hf]
 refine QG fun i => ?_
 rw [X4]
 split
 ·rename_i q; subst q
  rw [if_pos (by rw [JD f (Nat.le_of_lt (lt_of_getElem? h))]; exact lt_of_getElem? h)]
  exact JE f (lt_of_getElem? h)
 ·rfl
theorem KZ (f : Agg → Int) (ag : List Agg) : FW f ag ag.length = (ag.map f).map fun n => [Dat.lit (.int .i64 n)] := by simp [FW, Function.comp_def]
theorem K0 (f : Agg → Int) (ag : List Agg) : FW f ag 0 = List.replicate ag.length [Dat.lit (.int .i64 0)] := by simp [FW]
theorem Uy (g : List Val × List Entry) (ag : List Agg) (hl : g.2.length ≤ 4096) (hc : ∀ e ∈ g.2, -262144 ≤ e.count ∧ e.count ≤ 262144) (hal : ag.length ≤ 10000) : PC 65 [.agg (OR g), .one (HW ag)] (.v (.agg (IG ag g).x)) := by
 refine Ad hT Tryz.func65 Tryz.ntmps65 [.cell 4 100] fun B => ?_
 repeat' first | refine Od (dr := true) ?_ | refine Oc (dr := true) ?_ | refine DM (dr := true) ?_ | refine A5 4 ?_ | refine Bz 2 ?_ | refine Bz 3 ?_ | refine Bz 4 ?_ | (refine Qs 2 (ei := Yd) (m := ag.length) (z := (ag.length : Int)) (zd := [Dat.lit (.int .i64 0)]) ?_ (by omega) (by omega) (by omega) (by simp only [Yd]; omega) (by exact rfl) (by exact rfl) (by omega)) | (refine Qs 3 (ei := Yd) (m := ag.length) (z := (ag.length : Int)) (zd := [Dat.lit (.int .i64 0)]) ?_ (by omega) (by omega) (by omega) (by simp only [Yd]; omega) (by exact rfl) (by exact rfl) (by omega)) | refine kz ?_ | refine As ?_ | refine Ay Ac ?_ | refine CZ ?_ | exact k0 | refine Cj ?_ ?_ | refine Ic ?_
 refine AY (X := Nat) ([7] ++ List.range' 22 11) (fun x => x ≤ g.2.length) (fun x lz => (22, (iC x)) :: lz) (fun x => [.box 1 [.d (D0 g.1), .d (Ao g.2)], .box 2 [.emp, .d (.lit (.int .i64 0)), .emp, .emp], .arr 3 2 1 (List.replicate ag.length [Dat.lit (.int .i64 0)]), .arr 4 2 1 (List.replicate ag.length [Dat.lit (.int .i64 0)]), .box 5 [.d (D0 g.1), .d (.lit (.int .i64 (nE (g.2.take x)))), .arr 2 3 ag.length, .arr 3 4 ag.length]]) (fun x => g.2.length - x) (0) ?_ ?_ ?_ ?_
 repeat' first | exact k0 | refine kw ?_ | refine kv ?_ ?_ | omega
 rintro i c hi
 by_cases hlt : i < g.2.length
 ·obtain ⟨y, hv⟩ := gx hlt
  have e1 := Ux hv
  have b1 := VQ hl hc i
  have b2 := VQ hl hc (i + 1)
  rw [e1] at b2
  repeat' first | refine kz ?_ | refine AT hv ?_ | refine As ?_ | refine kh ?_ ?_ | exact ⟨⟩ | fail
  apply Ae (i + 1) <;> (try dsimp only) <;> try repeat' first | exact k0 | refine kw ?_ | refine kv ?_ ?_ | omega
  all_goals (rw [e1])
 ·obtain rfl : i = g.2.length := by omega
  rw [Ag (Nat.le_refl _)]
  repeat' first | refine kz ?_ | refine As ?_ | refine kh ?_ ?_ | exact ⟨⟩ | fail
  have z1 := K0 (Sb g.2) ag
  have z2 := K0 (Sc g.2) ag
  refine AY (X := Nat) ([8, 9] ++ List.range' 35 24) (fun x => x ≤ ag.length) (fun x lz => (35, (iC x)) :: lz) (fun x => [.box 1 [.d (D0 g.1), .d (Ao g.2)], .box 2 [.emp, .d (.lit (.int .i64 0)), .emp, .emp], .arr 3 2 1 (FW (Sb g.2) ag x), .arr 4 2 1 (FW (Sc g.2) ag x), .box 5 [.d (D0 g.1), .d (.lit (.int .i64 (nE g.2))), .arr 2 3 ag.length, .arr 3 4 ag.length]]) (fun x => ag.length - x) (0) ?_ ?_ ?_ ?_
  repeat' first | exact k0 | refine kw ?_ | refine kv ?_ ?_ | omega
  rintro k c2 hk
  by_cases hkl : k < ag.length
  ·obtain ⟨y, hy⟩ := gx hkl
   have hy2 : (ag.map Agg.d)[k]? = some y.d := by rw [Ci, hy]; rfl
   have l1 := JD (Sb g.2) hk
   have l2 := JD (Sc g.2) hk
   by_cases hf : y.func = 1
   ·have hvc := MZ g y hl
    have hsc := MU (BU y g.2) (M0 hl hc)
    have q1 := JF (Sb g.2) hy
    have q2 := JF (Sc g.2) hy
    have r1 := JE (Sb g.2) hkl
    have r2 := JE (Sc g.2) hkl
    rw [show Sb g.2 y = GM (BU y g.2) from if_pos hf] at q1
    rw [show Sc g.2 y = GN (BU y g.2) from if_pos hf] at q2
    generalize FW (Sb g.2) ag k = A1 at q1 r1 l1 ⊢
    generalize FW (Sc g.2) ag k = A2 at q2 r2 l2 ⊢
    repeat' first | refine Od (dr := true) ?_ | refine DL (dr := true) ?_ | refine Oc (dr := true) ?_ | refine Tr (dr := true) ?_ | refine Tq (dr := true) ?_ (hj := (by first | exact r1 | exact r2)) (hes := (by first | exact q1 | exact q2)) | refine kz ?_ | refine AT hy2 ?_ | refine AT r1 ?_ | refine AT r2 ?_ | refine As ?_ | refine Aa (hvc) ?_ | refine Aa (hsc) ?_ | refine Ay Ac ?_ | refine CZ ?_ | exact k0 | refine Cj ?_ ?_ | refine Ic ?_
    apply Ae (k + 1) <;> (try dsimp only) <;> try repeat' first | exact k0 | refine kw ?_ | refine kv ?_ ?_ | omega
   ·have q1 := KY (Sb g.2) hy (if_neg hf)
    have q2 := KY (Sc g.2) hy (if_neg hf)
    rw [q1, q2]
    repeat' first | refine kz ?_ | refine AT hy2 ?_ | refine As ?_ | refine kh ?_ ?_ | exact ⟨⟩ | fail
    apply Ae (k + 1) <;> (try dsimp only) <;> try repeat' first | exact k0 | refine kw ?_ | refine kv ?_ ?_ | omega
  ·obtain rfl : k = ag.length := by omega
   rw [KZ, KZ]
   refine E7 4 2 2 ?_ rfl rfl rfl (by simp) (Ag (by simp)) rfl
   refine E7 4 3 3 ?_ rfl rfl rfl (by simp) (Ag (by simp)) rfl
   repeat' first | refine kz ?_ | refine As ?_ | refine kh ?_ ?_ | exact ⟨⟩ | fail
   all_goals rfl
end Go.Proofs.YtmpgmjlanngkfaaGreat
end
