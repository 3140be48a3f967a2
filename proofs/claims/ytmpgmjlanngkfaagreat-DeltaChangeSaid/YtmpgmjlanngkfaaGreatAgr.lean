/-
  Aggregates: key rows and groups.
-/
import Derived.Test.YtmpgmjlanngkfaaGreatNrm
import Derived.Test.YtmpgmjlanngkfaaGreatExi
import Derived.Test.YtmpgmjlanngkfaaGreatTypes
import Derived.Test.YtmpgmjlanngkfaaGreatAgp
import Derived.Test.YtmpgmjlanngkfaaGreatDex
import Derived.Test.YtmpgmjlanngkfaaGreatSum
import Derived.Test.YtmpgmjlanngkfaaGreatExm
import Derived.Test.YtmpgmjlanngkfaaGreatLaid
section
namespace Go.Proofs.YtmpgmjlanngkfaaGreat
open Go.Abs Go.RowKit
attribute [local irreducible] ARun Av MCall PCall HCall Ap SF CF CFs Ag Ai As fin AY VLe
set_option linter.unusedSimpArgs false
set_option maxRecDepth 100000
set_option maxHeartbeats 4000000
variable {g : List Val × Nat × List Entry} {i : Nat} {k : List Val}
theorem JQ : DeferOk Tryz.prog 106 0 := by
 refine ⟨⟨_, Tryz.func106, by kernel_rfl, by kernel_rfl⟩, fun vs w hl => ?_⟩
 match vs, hl with
 | [], _ =>
   refine callsD_of_wpS Tryz.func106 rfl fun c₀ cs hu => ?_
   apply wpS_region
   simp [wpOpsS, go_sem, recoverD, hu, Tryz.ntmps106, Exit.thenS]
   cases c₀
   simp_all [bodyPostS, results, Tryz.results106]
theorem Rt : Val.null.clean = Val.null := by unfold Val.clean; split <;> rfl
theorem Ww (row : List Val) (col : Int) (h0 : 0 ≤ col) : PC 157 [.one (A0 row), .one (.lit (.int .i64 col))] (.v (.agg (Fs row col).clean.d)) := by
 obtain ⟨k, rfl⟩ := R8 h0
 by_cases hk : k < row.length
 ·have hv : row[k]? = some row[k] := Bo hk
  rw [NH hv]
  generalize row[k] = v at hv
  refine Ac hT Tryz.func157 Tryz.ntmps157 [.cell 4 73] fun B => ?_
  repeat' first | refine kz ?_ | refine AF hv ?_ | refine Ao ?_ | refine Aa (IZ v) ?_ | refine kh ?_ ?_ | exact ⟨⟩ | fail
  all_goals rfl
 ·rw [NG (by omega), Rt]
  refine Ac hT Tryz.func157 Tryz.ntmps157 [.cell 4 73] fun B => ?_
  repeat' first | refine kz ?_ | refine Ao ?_ | refine kh ?_ ?_ | exact ⟨⟩ | fail
  all_goals rfl
def Wx (a b c : Val) : List Cell := (a.d ++ b.d ++ c.d).map .d
theorem YK {vs : List Val} (h : vs.length = i) (v : Val) : ∀ j, FA (vs ++ [v]) j = if j = i then v else FA vs j := fun j => by
 subst h
 unfold FA
 rw [QW, QW]
 split
 ·rename_i hj
  rw [hj, Oy (Nat.le_refl _), Ts]; rfl
 ·by_cases i7 : j < vs.length
  ·rw [Np i7]
  ·rw [XL (by simp; omega), XL (by omega)]
theorem Wy (row : List Val) (e : List Trm) (hl : e.length ≤ 100000) : ∀ (n pos : Nat) (x : Nat × Val) (r : List Trm), pos ≤ e.length → AZ row n (e.drop pos) = some (x, r) → PC 108 [.one (AW e), .one (.lit (.int .i64 pos)), .one (A0 row)] (.tup [.agg x.2.d, .one (.lit (.int .i64 (e.length - r.length : Nat)))]) := by
 intro n
 induction n with
 | zero => intro pos x r _ h; cases h
 | succ n ih =>
   intro pos x r hp hx
   obtain ⟨m, t, l', xs, hm, hd, ht, hs, nI⟩ := C7 hx
   obtain rfl : n = m := by omega
   simp only at hs nI
   have i7 : pos < e.length := by
    have := congrArg List.length hd
    rw [Fm, List.length_cons] at this; omega
   have hv : e[pos]? = some t := by
    have := congrArg (fun l : List Trm => l[0]?) hd
    simpa using this
   have tZ : e.drop (pos + 1) = l' := by
    have := AB hv
    rw [hd] at this; injection this with _ h; exact h.symm
   have h0 : 0 ≤ EP t.op := by
    simp only [C6, BM, decide_eq_true_eq] at ht
    exact ht.1
   have h3 := (II t.op).2
   obtain ⟨k, hk⟩ := R8 h0
   have h2 := N0 t.op
   rw [hk] at h2 hs
   rw [To] at hs
   rw [← tZ] at hs
   have nF : ∀ v ∈ xs.map Prod.snd, v.valid = true := fun v jE => by
    obtain ⟨a, ha, rfl⟩ := List.mem_map.1 jE
    obtain ⟨ss, _, h2, h3⟩ := IK (Q := fun _ a => a.2.valid = true) (fun l a r hh => by
     obtain ⟨s, e, _⟩ := EB row n l a r hh
     exact ⟨s, e, (B2 row n l a r hh).1⟩) hs
    obtain ⟨i, hi, rfl⟩ := aW.1 ha
    have := GQ hs
    exact h3 i ss[i] _ (Bo (by omega)) (Bo hi)
   rw [nI]
   dsimp only
   have hf : Di t = true := by
    simp only [C6, BM, decide_eq_true_eq] at ht
    exact ht.2
   clear hx nI hm hd tZ ht h0
   refine Ac hT Tryz.func108 Tryz.ntmps108 [.cell 6 73, .tmp 7] fun B => ?_
   repeat' first | refine kz ?_ | refine Az rfl (fun hb => ?_) (fun hb => ?_) | refine AF hv ?_ | refine Ao ?_ | refine Aa (h2) ?_ | refine kg ?_ ?_ | refine kf ?_ | exact k0 | fail
   refine AK (X := Nat × Nat × Val × Val × Val) ([9, 11] ++ List.range' 24 13) (fun x => x.1 ≤ k ∧ pos + 1 ≤ x.2.1 ∧ x.2.1 ≤ e.length ∧ ∃ ys, BG (AZ row n) x.1 (e.drop (pos + 1)) = some (ys, e.drop x.2.1) ∧ x.2.2.1 = FA (ys.map Prod.snd) 0 ∧ x.2.2.2.1 = FA (ys.map Prod.snd) 1 ∧ x.2.2.2.2 = FA (ys.map Prod.snd) 2) (fun x lz => (9, (iC x.2.1)) :: (24, (iC x.1)) :: lz) (fun x => [.box 1 (Val.null.d.map .d), .box 2 (t.d.map .d), .box 3 (Wx x.2.2.1 x.2.2.2.1 x.2.2.2.2)]) (fun x => k - x.1) ((0, pos + 1, Val.null, Val.null, Val.null)) ?_ ?_ ?_ ?_
   repeat' first | exact k0 | refine kw ?_ | omega
   ·dsimp only; exact ⟨by omega, by omega, by omega, [], rfl, rfl, rfl, rfl⟩
   rintro ⟨i, en, a, b, c⟩ ck ⟨hi, oq, oa, ys, oP, ha, hb, hc⟩
   dsimp only at hi oq oa oP ha hb hc ⊢
   by_cases pW : i < k
   ·have mO := GQ oP
    obtain ⟨y, r', hq⟩ : ∃ y r', AZ row n (e.drop en) = some (y, r') := by
     cases hq : AZ row n (e.drop en) with
     | none => rw [Hm oP hq k pW] at hs; cases hs
     | some q => exact ⟨q.1, q.2, rfl⟩
    obtain ⟨j, ot, oX, lO⟩ := FB hq
    rw [Fm] at oX
    rw [Tr] at lO
    have jd := ih en y r' oa hq
    have nG : e.length - r'.length = en + j := by
     rw [lO, Fm]; omega
    rw [nG] at jd
    rw [lO] at hq
    have kE := Jl oP hq
    have hp := YK (vs := ys.map Prod.snd) (i := i) (by rw [BR, mO]) y.2
    rw [show ys.map Prod.snd ++ [y.2] = (ys ++ [y]).map Prod.snd by rw [Ag']; rfl] at hp
    have p0 := hp 0
    have p1 := hp 1
    have p2 := hp 2
    clear ih hp hs oP hq lO nG
    generalize ys ++ [y] = zs at kE p0 p1 p2
    generalize y.2 = v at jd p0 p1 p2
    have jb : i = 0 ∨ i = 1 ∨ i = 2 := by omega
    rcases jb with rfl | rfl | rfl
    ·rw [if_pos rfl] at p0
     rw [if_neg (by omega), ← hb] at p1
     rw [if_neg (by omega), ← hc] at p2
     unfold Wx
     repeat' first | refine kz ?_ | refine Az rfl (fun hb => ?_) (fun hb => ?_) | refine AF hv ?_ | refine Ao ?_ | refine Aa (jd) ?_ | refine kg ?_ ?_ | refine kf ?_ | exact k0 | fail
     apply Af ((0 + 1, en + j, v, b, c)) <;> (try dsimp only) <;> try repeat' first | exact k0 | refine kw ?_ | omega
     · exact ⟨by omega, by omega, by omega, zs, kE, p0.symm, p1.symm, p2.symm⟩
    ·rw [if_neg (by omega), ← ha] at p0
     rw [if_pos rfl] at p1
     rw [if_neg (by omega), ← hc] at p2
     unfold Wx
     repeat' first | refine kz ?_ | refine Az rfl (fun hb => ?_) (fun hb => ?_) | refine AF hv ?_ | refine Ao ?_ | refine Aa (jd) ?_ | refine kg ?_ ?_ | refine kf ?_ | exact k0 | fail
     apply Af ((1 + 1, en + j, a, v, c)) <;> (try dsimp only) <;> try repeat' first | exact k0 | refine kw ?_ | omega
     · exact ⟨by omega, by omega, by omega, zs, kE, p0.symm, p1.symm, p2.symm⟩
    ·rw [if_neg (by omega), ← ha] at p0
     rw [if_neg (by omega), ← hb] at p1
     rw [if_pos rfl] at p2
     unfold Wx
     repeat' first | refine kz ?_ | refine Az rfl (fun hb => ?_) (fun hb => ?_) | refine AF hv ?_ | refine Ao ?_ | refine Aa (jd) ?_ | refine kg ?_ ?_ | refine kf ?_ | exact k0 | fail
     apply Af ((2 + 1, en + j, a, b, v)) <;> (try dsimp only) <;> try repeat' first | exact k0 | refine kw ?_ | omega
     · exact ⟨by omega, by omega, by omega, zs, kE, p0.symm, p1.symm, p2.symm⟩
   ·obtain rfl : i = k := by omega
    rw [oP] at hs
    simp only [Option.some.injEq, HK] at hs
    obtain ⟨rfl, rfl⟩ := hs
    have kS : t.op = 1 ∨ t.op = 2 ∨ (t.op = 14 ∨ t.op = 15 ∨ t.op = 16 ∨ t.op = 17 ∨ t.op = 18) ∨ (t.op = 8 ∨ t.op = 9 ∨ t.op = 10) ∨ (t.op = 11 ∨ t.op = 12) ∨ (t.op = 3 ∨ t.op = 13) ∨ (t.op = 4 ∨ t.op = 5 ∨ t.op = 6 ∨ t.op = 7) := by
     unfold EP at hk
     split at hk
     · omega
     split at hk
     · omega
     split at hk
     · omega
     split at hk <;> omega
    have va : a.valid = true := by rw [ha]; exact DA nF 0
    have vb : b.valid = true := by rw [hb]; exact DA nF 1
    have vc : c.valid = true := by rw [hc]; exact DA nF 2
    have mJ : e.length - (e.drop en).length = en := by rw [Fm]; omega
    rw [mJ]
    have hT : Wq t row (ys.map Prod.snd) = if t.op = 1 then t.v else if t.op = 2 then (Fs row t.col).clean else DW t.op a b c := by
     rw [Wq, ← ha, ← hb, ← hc]
    rw [hT]
    clear ih oP ha hb hc nF hT mJ h2 hk
    unfold Wx
    rcases kS with h | h | h | h | h | h | h
    ·rw [if_pos h]
     repeat' first | refine DF (dr := true) ?_ | refine Dk (dr := true) ?_ | refine Cc (dr := true) ?_ | refine Bl 3 ?_ | refine Bl 4 ?_ | refine Bl 5 ?_ | refine BY 3 ?_ | refine BY 4 ?_ | refine BY 5 ?_ | refine kz ?_ | refine Az rfl (fun hb => ?_) (fun hb => ?_) | refine AF hv ?_ | refine Ao ?_ | refine Aw Ad ?_ ?_ | refine Bq ?_ | refine Cl ?_ | exact k0 | refine BX ?_ ?_ | refine HD ?_
     all_goals rfl
    ·rw [if_neg (by omega), if_pos h]
     have rq : 0 ≤ t.col := by
       rw [Di, if_neg (by omega), if_pos h, BM, decide_eq_true_eq] at hf
       exact hf.1
     have h1 := Ww row t.col rq
     repeat' first | refine DF (dr := true) ?_ | refine Dk (dr := true) ?_ | refine Cc (dr := true) ?_ | refine Bl 3 ?_ | refine Bl 4 ?_ | refine Bl 5 ?_ | refine BY 3 ?_ | refine BY 4 ?_ | refine BY 5 ?_ | refine kz ?_ | refine Az rfl (fun hb => ?_) (fun hb => ?_) | refine AF hv ?_ | refine Ao ?_ | refine Aa (h1) ?_ | refine Aw Ad ?_ ?_ | refine Bq ?_ | refine Cl ?_ | exact k0 | refine BX ?_ ?_ | refine HD ?_
     all_goals rfl
    ·rw [if_neg (by omega), if_neg (by omega), show DW t.op a b c = Kc t.op a b c from if_pos h]
     have h1 := T7 t.op a b c
     repeat' first | refine DF (dr := true) ?_ | refine Dk (dr := true) ?_ | refine Cc (dr := true) ?_ | refine Bl 3 ?_ | refine Bl 4 ?_ | refine Bl 5 ?_ | refine BY 3 ?_ | refine BY 4 ?_ | refine BY 5 ?_ | refine kz ?_ | refine Az rfl (fun hb => ?_) (fun hb => ?_) | refine AF hv ?_ | refine Ao ?_ | refine Aa (h1) ?_ | refine Aw Ad ?_ ?_ | refine Bq ?_ | refine Cl ?_ | exact k0 | refine BX ?_ ?_ | refine HD ?_
     all_goals rfl
    ·rw [if_neg (by omega), if_neg (by omega), show DW t.op a b c = Ct t.op a b by rw [DW, if_neg (by omega), if_pos h]]
     have h1 := Wv t.op a b va vb
     repeat' first | refine DF (dr := true) ?_ | refine Dk (dr := true) ?_ | refine Cc (dr := true) ?_ | refine Bl 3 ?_ | refine Bl 4 ?_ | refine Bl 5 ?_ | refine BY 3 ?_ | refine BY 4 ?_ | refine BY 5 ?_ | refine kz ?_ | refine Az rfl (fun hb => ?_) (fun hb => ?_) | refine AF hv ?_ | refine Ao ?_ | refine Aa (h1) ?_ | refine Aw Ad ?_ ?_ | refine Bq ?_ | refine Cl ?_ | exact k0 | refine BX ?_ ?_ | refine HD ?_
     all_goals rfl
    ·rw [if_neg (by omega), if_neg (by omega), show DW t.op a b c = Fz t.op a b by rw [DW, if_neg (by omega), if_neg (by omega), if_pos h]]
     have h1 := PY t.op a b
     repeat' first | refine DF (dr := true) ?_ | refine Dk (dr := true) ?_ | refine Cc (dr := true) ?_ | refine Bl 3 ?_ | refine Bl 4 ?_ | refine Bl 5 ?_ | refine BY 3 ?_ | refine BY 4 ?_ | refine BY 5 ?_ | refine kz ?_ | refine Az rfl (fun hb => ?_) (fun hb => ?_) | refine AF hv ?_ | refine Ao ?_ | refine Aa (h1) ?_ | refine Aw Ad ?_ ?_ | refine Bq ?_ | refine Cl ?_ | exact k0 | refine BX ?_ ?_ | refine HD ?_
     all_goals rfl
    ·rw [if_neg (by omega), if_neg (by omega), show DW t.op a b c = H8 t.op a a by rw [DW, if_neg (by omega), if_neg (by omega), if_neg (by omega), if_pos h]]
     have h1 := JR t.op a a va va
     repeat' first | refine DF (dr := true) ?_ | refine Dk (dr := true) ?_ | refine Cc (dr := true) ?_ | refine Bl 3 ?_ | refine Bl 4 ?_ | refine Bl 5 ?_ | refine BY 3 ?_ | refine BY 4 ?_ | refine BY 5 ?_ | refine kz ?_ | refine Az rfl (fun hb => ?_) (fun hb => ?_) | refine AF hv ?_ | refine Ao ?_ | refine Aa (h1) ?_ | refine Aw Ad ?_ ?_ | refine Bq ?_ | refine Cl ?_ | exact k0 | refine BX ?_ ?_ | refine HD ?_
     all_goals rfl
    ·rw [if_neg (by omega), if_neg (by omega), show DW t.op a b c = H8 t.op a b by rw [DW, if_neg (by omega), if_neg (by omega), if_neg (by omega), if_neg (by omega)]]
     have h1 := JR t.op a b va vb
     repeat' first | refine DF (dr := true) ?_ | refine Dk (dr := true) ?_ | refine Cc (dr := true) ?_ | refine Bl 3 ?_ | refine Bl 4 ?_ | refine Bl 5 ?_ | refine BY 3 ?_ | refine BY 4 ?_ | refine BY 5 ?_ | refine kz ?_ | refine Az rfl (fun hb => ?_) (fun hb => ?_) | refine AF hv ?_ | refine Ao ?_ | refine Aa (h1) ?_ | refine Aw Ad ?_ ?_ | refine Bq ?_ | refine Cl ?_ | exact k0 | refine BX ?_ ?_ | refine HD ?_
     all_goals rfl
theorem GU (e : List Trm) (row : List Val) : PC 57 [.one (AW e), .one (A0 row)] (.v (.agg (EC e row).d)) := by
 have h1 := PW e
 cases hv : Cz e with
 | false =>
   rw [Wt hv]
   rw [hv] at h1
   refine Ac hT Tryz.func57 Tryz.ntmps57 [.cell 4 73] fun B => ?_
   repeat' first | refine kz ?_ | refine Aa (h1) ?_ | refine Bg (by repeat (first | exact Ad | refine Aq JQ ?_)) ?_ | refine kh ?_ ?_ | exact ⟨⟩ | fail
   all_goals rfl
 | true =>
   rw [hv] at h1
   obtain ⟨hl, x, hx⟩ := (DB e row).1 hv
   rw [Ws hv hx]
   have h2 : PC 108 [.one (AW e), .one (.lit (.int .i64 0)), .one (A0 row)] (.tup [.agg x.2.d, .one (.lit (.int .i64 (e.length - ([] : List Trm).length : Nat)))]) := Wy row e (by omega) 16 0 x [] (by omega) hx
   clear hx
   generalize x.2 = v at h2 ⊢
   refine Ac hT Tryz.func57 Tryz.ntmps57 [.cell 4 73] fun B => ?_
   repeat' first | refine kz ?_ | refine Aa (h1) ?_ | refine Aa (h2) ?_ | refine Bg (by repeat (first | exact Ad | refine Aq JQ ?_)) ?_ | refine kh ?_ ?_ | exact ⟨⟩ | fail
   all_goals rfl
theorem T8 (e : List Trm) (row : List Val) : PC 105 [.one (AW e), .one (A0 row)] (.v (.one (.lit (.bool (Fh e row))))) := by
 have h1 := GU e row
 have h2 := FC (EC e row)
 unfold Fh
 generalize EC e row = v at h1 h2 ⊢
 refine Ac hT Tryz.func105 Tryz.ntmps105 [.tmp 4] fun B => ?_
 repeat' first | refine kz ?_ | refine Aa (h1) ?_ | refine Aa (h2) ?_ | refine kf ?_ | fail
 all_goals rfl
structure Itm where
 name : ByteArray
 expr : List Trm
def Itm.d (x : Itm) : List Dat := [.lit (.string x.name), AW x.expr]
def J8 (l : List Itm) : Dat := .sl (l.map Itm.d)
def AQ (keys : List Itm) (row : List Val) : List Val := keys.map fun x => EC x.expr row
theorem B4 (keys : List Itm) (row : List Val) : AE (AQ keys row) := by
 unfold AE AQ
 rw [Sc]
 refine dE fun x _ => ?_
 show (EC x.expr row).clean = EC x.expr row
 rw [Val.clean, if_pos (Ho ..)]
theorem DU (keys : List Itm) (row : List Val) : (AQ keys row).length = keys.length := by simp [AQ]
def Fq (r : List Val) : Dat := .ex (r.map Val.d)
theorem NC (r : List Val) : DLe (Fq r) (A0 r) := DLe.ex _
theorem VB (row : List Val) (keys : List Itm) (hk : keys.length ≤ 100000) : PC 113 [.one (A0 row), .one (J8 keys)] (.v (.one (Fq (AQ keys row)))) := by
 refine Ac hT Tryz.func113 Tryz.ntmps113 [.tmp 4] fun B => ?_
 repeat' first | (refine Yp (ei := UY) (m := keys.length) (z := (keys.length : Int)) (zd := Val.null.d) (fun b => ?_) (by omega) (by omega) (by omega) (by simp only [UY]; omega) (by exact rfl)) | refine kz ?_ | refine Ao ?_ | refine Bg Ad ?_ | refine Bq ?_
 refine AK (X := Nat) ([6, 7] ++ List.range' 13 13) (fun x => x ≤ keys.length) (fun x lz => (13, (iC x)) :: lz) (fun x => [.arrc 1 73 3 ((AQ (keys.take x) row).map Val.d ++ List.replicate (keys.length - x) Val.null.d) b keys.length]) (fun x => keys.length - x) (0) ?_ ?_ ?_ ?_
 repeat' first | exact k0 | refine kw ?_ | omega
 rintro i c hi
 by_cases i7 : i < keys.length
 ·obtain ⟨it, hv⟩ := gx i7
  have qe := GU it.expr row
  have hl : ((AQ (keys.take i) row).map Val.d).length = i := by simp [AQ]; omega
  have lA : ((AQ (keys.take i) row).map Val.d ++ List.replicate (keys.length - i) Val.null.d).set i (EC it.expr row).d = (AQ (keys.take (i + 1)) row).map Val.d ++ List.replicate (keys.length - (i + 1)) Val.null.d := by
   obtain ⟨k, hk⟩ : ∃ k, keys.length - i = k + 1 := ⟨keys.length - i - 1, by omega⟩
   rw [hk, show keys.length - (i + 1) = k by omega, dV, aR _ _ (by omega), hl, Ts, List.set_cons_zero]
   unfold AQ
   rw [Gm, hv]; simp
  have jo : ((AQ (keys.take i) row).map Val.d ++ List.replicate (keys.length - i) Val.null.d)[i]? = some Val.null.d := by
   rw [Oy (by omega), hl, Ts, gd, if_pos (by omega)]
  have nD : ((AQ (keys.take i) row).map Val.d ++ List.replicate (keys.length - i) Val.null.d).length = keys.length := by rw [CR, hl, J6]; omega
  generalize (AQ (keys.take i) row).map Val.d ++ List.replicate (keys.length - i) Val.null.d = A at lA jo nD
  repeat' first | refine kz ?_ | refine AF hv ?_ | refine AF jo ?_ | refine Ao ?_ | refine Aa (qe) ?_ | refine VY (r := 0) (m := keys.length) (z := (i : Int)) ?_ (by omega) (by omega) (by exact rfl) | refine Pd (r := 0) (j := i) (e' := (EC it.expr row).d) (f' := _ :: _) ?_ (by exact rfl) jo (j6 := lA) (iZ := rfl) | refine kf ?_ | fail
  apply Af (i + 1) <;> (try dsimp only) <;> try repeat' first | exact k0 | refine kw ?_ | omega
  all_goals exact FG
 ·have k8 : i = keys.length := by omega
  subst k8
  rw [Ir, Ts, List.replicate_zero, List.append_nil]
  refine TU (r := 0) (m := keys.length) (es := (AQ keys row).map Val.d) 5 ?_ rfl (by rw [BR, DU]) rfl
  repeat' first | refine kz ?_ | refine Ao ?_ | refine kf ?_ | fail
  all_goals rfl
abbrev GL := List (List Val × Nat × List Entry)
def Rf (L : GL) : List (List Val × List Entry) := L.map fun g => (g.1, g.2.2)
def U5 (g : List Val × List Entry) : List Dat := [Fq g.1, Ak g.2]
def eE (l : List (List Val × List Entry)) : Dat := .sl (l.map U5)
def JM (k : List Val) : Value := .string ⟨(Ar k).toArray⟩
def Sm (L : GL) : List (Value × PV) := L.mapIdx fun i g => (JM g.1, .one (.lit (.int .i64 (i : Nat))))
def ND (L : GL) : List (List Cell) := L.mapIdx fun i g => [.d (Fq g.1), .arr (i + 4) g.2.1 g.2.2.length]
def Rg (L : GL) : List Blk := L.map fun g => .arr g.2.1 56 2 (g.2.2.map Entry.d)
theorem TE {a b : List Val} (ha : AE a) (hb : AE b) (h : JM a = JM b) : a = b := by
 unfold JM at h
 injection h with h; injection h with h
 have h' : Ar a = Ar b := by simpa using congrArg Array.toList h
 have := FY h'
 rw [ha, hb] at this; exact this
theorem KJ (L : GL) : ∀ e ∈ Sm L, JW e.1 := fun e he => by
 obtain ⟨i, hi⟩ := L0.1 he
 simp only [Sm, dC, gf] at hi
 obtain ⟨g, _, rfl⟩ := hi
 exact ⟨_, rfl⟩
theorem Yc {L : GL} (h : L[i]? = some g) : (Sm L)[i]? = some (JM g.1, .one (.lit (.int .i64 (i : Nat)))) := by simp [Sm, h]
theorem Yd {L : GL} (hk : AE k) (hL : ∀ g ∈ L, AE g.1) (h : ∀ g ∈ L, g.1 ≠ k) : ∀ e ∈ Sm L, e.1 ≠ JM k := fun e he q => by
 obtain ⟨i, hi⟩ := L0.1 he
 simp only [Sm, dC, gf] at hi
 obtain ⟨g, hg, rfl⟩ := hi
 have hm := Cb hg
 exact h g hm (TE (hL g hm) hk q)
theorem VC (L : GL) (g : List Val × Nat × List Entry) : Sm L ++ [(JM g.1, .one (.lit (.int .i64 (L.length : Nat))))] = Sm (L ++ [g]) := by simp [Sm, List.mapIdx_append]
theorem Ye {L : GL} {j v : Nat} {es ji : List Entry} {v0 : Nat} (h : L[j]? = some (k, v0, es)) : Sm (L.set j (k, v, ji)) = Sm L := by
 refine Sa fun i => ?_
 simp only [Sm, dC, gp]
 split
 ·rename_i q; subst q
  have := lt_of_getElem? h
  rw [if_pos this, h]; rfl
 ·rfl
theorem Yf {L : GL} (h : L[i]? = some g) : (ND L)[i]? = some [.d (Fq g.1), .arr (i + 4) g.2.1 g.2.2.length] := by simp [ND, h]
theorem Iy (L : GL) : (ND L).length = L.length := by simp [ND]
theorem Yg {L : GL} {j v : Nat} {es ji : List Entry} {v0 : Nat} (h : L[j]? = some (k, v0, es)) : (ND L).set j [.d (Fq k), .arr (j + 4) v ji.length] = ND (L.set j (k, v, ji)) := by
 refine Sa fun i => ?_
 simp only [ND, dC, gp, List.length_mapIdx]
 split
 ·rename_i q; subst q
  have := lt_of_getElem? h
  rw [if_pos this, if_pos this]; rfl
 ·rfl
theorem VD (L : GL) (g : List Val × Nat × List Entry) : ND L ++ [[.d (Fq g.1), .arr (L.length + 4) g.2.1 g.2.2.length]] = ND (L ++ [g]) := by simp [ND, List.mapIdx_append]
theorem Sn {L : GL} (h : L[i]? = some g) : (Rg L)[i]? = some (.arr g.2.1 56 2 (g.2.2.map Entry.d)) := by simp [Rg, h]
theorem Yh (L : GL) : (Rg L).length = L.length := by simp [Rg]
theorem Yi (L : GL) (j : Nat) (g : List Val × Nat × List Entry) : (Rg L).set j (.arr g.2.1 56 2 (g.2.2.map Entry.d)) = Rg (L.set j g) := by simp [Rg, Sb]
theorem VE (L : GL) (g : List Val × Nat × List Entry) : Rg L ++ [.arr g.2.1 56 2 (g.2.2.map Entry.d)] = Rg (L ++ [g]) := by simp [Rg]
theorem NF (L : GL) : (Rf L).length = L.length := by simp [Rf]
theorem Yj (L : GL) (j : Nat) (g : List Val × Nat × List Entry) : Rf (L.set j g) = (Rf L).set j (g.1, g.2.2) := by simp [Rf, Sb]
theorem VF (L : GL) (g : List Val × Nat × List Entry) : Rf (L ++ [g]) = Rf L ++ [(g.1, g.2.2)] := by simp [Rf]
theorem VG {α : Type} {l : List α} {n : Nat} {a b : α} (h : n = l.length) : (l ++ [a]).set n b = l ++ [b] := by
 subst h; rw [aR _ _ (Nat.le_refl _), Ts]; rfl
theorem Rh (g h : List Val × List Entry) : PC 116 [.agg (U5 g), .agg (U5 h)] (.v (.one (.lit (.int .i64 (HX g h))))) := by
 unfold HX
 have h : PC 116 [.agg [A0 g.1, Ak g.2], .agg [A0 h.1, Ak h.2]] (.v (.one (.lit (.int .i64 (Aj g.1 h.1))))) := by
  refine Ac hT Tryz.func116 Tryz.ntmps116 [.tmp 4] fun B => ?_
  repeat' first | refine kz ?_ | refine Aa (Bm _ _) ?_ | refine kf ?_ | fail
  all_goals rfl
 exact h.args ⟨⟨NC _, .rfl, trivial⟩, ⟨NC _, .rfl, trivial⟩, trivial⟩
theorem VH (b : List Entry) (keys : List Itm) (oI : b.length ≤ 4096) (nZ : keys.length ≤ 10000) : PC 64 [.one (Ak b), .one (J8 keys)] (.v (.one (eE (Iv b (AQ keys))))) := by
 have hK : D9 b (AQ keys) := fun e _ => B4 keys e.row
 refine Ac hT Tryz.func64 Tryz.ntmps64 [.tmp 4] fun B => ?_
 repeat' first | refine kz ?_ | refine Ao ?_ | refine kh ?_ ?_ | exact ⟨⟩ | fail
 refine bD 5 98 2 ?_ (by decide)
 refine AK (X := Nat × GL × Nat) ([5] ++ List.range' 8 5 ++ List.range' 16 41) (fun x => x.1 ≤ b.length ∧ x.2.1.length ≤ x.1 ∧ GI (b.take x.1) (AQ keys) (Rf x.2.1)) (fun x lz => (16, (iC x.1)) :: (5, .c (.arr 1 x.2.2 x.2.1.length)) :: lz) (fun x => .map 1 9 3 (Sm x.2.1) (List.range x.2.1.length) x.2.1.length :: .arrx x.2.2 98 2 (ND x.2.1) :: .dead :: .dead :: Rg x.2.1) (fun x => b.length - x.1) ((0, [], 2)) ?_ ?_ ?_ ?_
 repeat' first | exact k0 | refine kw ?_ | refine m3 ?_ ?_ ?_ ?_ | omega
 ·exact VO
 ·exact ⟨by simp, by simp, bw _⟩
 rintro ⟨i, L, kx⟩ c ⟨hi, yz, hG⟩
 dsimp only at hi yz hG ⊢
 by_cases i7 : i < b.length
 ·obtain ⟨y, hv⟩ := gx i7
  have ud := VB y.row keys (by omega)
  have mJ : PC 114 [.one (Fq (AQ keys y.row))] _ := (CJ (AQ keys y.row) (by rw [DU]; omega)).args ⟨NC _, trivial⟩
  have lQ := B4 keys y.row
  have yA : ∀ g ∈ L, AE g.1 := fun g hg => by
   obtain ⟨⟨e, _, hq⟩, _⟩ := hG.mem (g.1, g.2.2) (List.mem_map.2 ⟨g, hg, rfl⟩)
   exact hq ▸ B4 keys e.row
  have yB : ∀ g ∈ L, g.2.2.length ≤ 4096 := fun g hg => by
   obtain ⟨_, hq⟩ := hG.mem (g.1, g.2.2) (List.mem_map.2 ⟨g, hg, rfl⟩)
   have h1 := Q1 (Re (AQ keys) g.1) (b.take i)
   have h2 : (b.take i).length ≤ i := by simp; omega
   have kU : g.2.2 = (b.take i).filter (Re (AQ keys) g.1) := hq
   rw [kU]; omega
  by_cases hex : ∃ (j : Nat) (v : Nat) (es : List Entry), L[j]? = some (AQ keys y.row, v, es)
  ·obtain ⟨j, v, es, hj⟩ := hex
   have ky := lt_of_getElem? hj
   have v8 := yB _ (Cb hj)
   dsimp only at v8
   have oK := bx (i := i) hK hG hv (j := j) (es := es) (by simp [Rf, hj])
   generalize AQ keys y.row = key at ud mJ lQ hj oK
   have mF := Yc hj
   have sr := Yf hj
   have jG := Sn hj
   dsimp only at mF sr jG
   repeat' first | refine DI 2 (f' := _ :: _ :: _ :: _ :: _) ?_ (iZ := rfl) | refine EN (f' := _ :: _ :: _ :: _ :: _) ?_ (iZ := rfl) | refine kz ?_ | refine AF hv ?_ | refine Ao ?_ | refine Aa (ud) ?_ | refine Aa (mJ) ?_ | refine Xm mF ⟨_, rfl⟩ (KJ _) ?_ | refine OZ (r := 1) (m := L.length) (z := (j : Int)) (es := ND L) ?_ (by omega) (by omega) (by exact rfl) | refine O0 (r := 1) ?_ (by exact rfl) | refine O1 (r := 1) ?_ (by exact rfl) sr | refine NY (f' := _ :: _ :: _ :: _ :: (Rg L).set j _) ?_ (hm := jG) (iZ := rfl) | refine Mp (r := 1) (o := 1) (f' := _ :: _ :: _ :: _ :: _) ?_ (by exact rfl) sr (by exact dI 1) rfl (iZ := rfl) | refine Bg Ad ?_ | refine H7 rfl rfl ?_ ?_
   have hE := Yg (v := c + 1 + 1) (ji := es ++ [y]) hj
   have hI := Yi L j (key, c + 1 + 1, es ++ [y])
   have hP := Ye (v := c + 1 + 1) (ji := es ++ [y]) hj
   have ve := Yj L j (key, c + 1 + 1, es ++ [y])
   have hlen : L.length = (L.set j (key, c + 1 + 1, es ++ [y])).length := by simp
   rw [CR] at hE
   rw [Ag'] at hI
   have oY : (ND L).set j ([Cell.d (Fq key), Cell.arr (j + 4) v es.length].set 1 (Cell.arr (j + 4) (c + 1 + 1) (es.length + [[A0 y.row, Dat.lit (Value.int .i64 y.count)]].length))) = _ := hE
   have oZ : (Rg L).set j (Blk.arr (c + 1 + 1) 56 2 (es.map Entry.d ++ [[A0 y.row, Dat.lit (Value.int .i64 y.count)]])) = _ := hI
   rw [← ve] at oK
   generalize L.set j (key, c + 1 + 1, es ++ [y]) = L2 at oY oZ hP oK hlen
   rw [oY, oZ, ← hP, hlen]
   apply Af ((i + 1, L2, kx)) <;> (try dsimp only) <;> try repeat' first | exact k0 | refine kw ?_ | refine m3 ?_ ?_ ?_ ?_ | omega
   · exact FG
   · exact ⟨by omega, by omega, oK⟩
  ·have hn : ∀ g ∈ L, g.1 ≠ AQ keys y.row := fun g hg hq => by
     obtain ⟨q, kU⟩ := L0.1 hg
     exact hex ⟨q, g.2.1, g.2.2, by rw [kU, ← hq]⟩
   have oK := bz (i := i) hK hG hv (fun g hg => by
     obtain ⟨x, hx, rfl⟩ := List.mem_map.1 hg
     exact hn x hx)
   have vf := Yd lQ yA hn
   generalize AQ keys y.row = key at ud mJ hn oK vf
   have sr : (ND L ++ [[Cell.d (Fq key), Cell.emp]])[L.length]? = some [Cell.d (Fq key), Cell.emp] := by rw [← Iy L]; simp
   have yC : (ND L ++ [[Cell.d (Fq key), Cell.emp]]).length = L.length + 1 := by simp [Iy]
   repeat' first | refine DI 2 (f' := _ :: _ :: _ :: _ :: _) ?_ (iZ := rfl) | refine EN (f' := _ :: _ :: _ :: _ :: _) ?_ (iZ := rfl) | refine TJ 3 (e := 98) (f' := _ :: _ :: _ :: _ :: _) ?_ (iZ := rfl) | refine kz ?_ | refine AF hv ?_ | refine Ao ?_ | refine Aa (ud) ?_ | refine Aa (mJ) ?_ | refine Xn vf ⟨_, rfl⟩ (KJ _) ?_ | refine bC (r := 1) ?_ (by exact rfl) | refine Qt (f' := _ :: _ :: _ :: _ :: _) vf ⟨_, rfl⟩ (KJ _) ?_ (iZ := rfl) | (refine bB 1 3 (ei := Zw) (cs := [Cell.d (Fq key), Cell.emp]) (m := L.length) (es := ND L) (f' := _ :: _ :: _ :: _ :: _) ?_ (Iy L) (by simp only [maxLen]; omega) (by simp only [Zw]; omega) (by exact rfl) (by exact rfl) (by decide) (iZ := rfl)) | refine OZ (r := 1) (m := L.length + 1) (z := (L.length : Int)) (es := ND L ++ [[Cell.d (Fq key), Cell.emp]]) ?_ (by omega) (by omega) (by exact rfl) | refine O0 (r := 1) ?_ (by exact rfl) | refine O1 (r := 1) ?_ (by exact rfl) sr | refine NW (r := L.length + 4) (f' := _ :: _ :: _ :: _ :: (Rg L ++ [_])) ?_ (hr := by simp [Yh]) (iZ := rfl) | refine Mp (r := 1) (o := 1) (f' := _ :: _ :: _ :: _ :: _) ?_ (by exact rfl) sr (by exact dI 1) rfl (iZ := rfl) | refine Bg Ad ?_ | refine H7 rfl rfl ?_ ?_
   have hE := VD L (key, c + 1 + 1 + 1 + 1, [y])
   have hI := VE L (key, c + 1 + 1 + 1 + 1, [y])
   have hP := VC L (key, c + 1 + 1 + 1 + 1, [y])
   have ve := VF L (key, c + 1 + 1 + 1 + 1, [y])
   have hlen : (L ++ [(key, c + 1 + 1 + 1 + 1, [y])]).length = L.length + 1 := by simp
   have oY : (ND L ++ [[Cell.d (Fq key), Cell.emp]]).set L.length ([Cell.d (Fq key), Cell.emp].set 1 (Cell.arr (L.length + 4) (c + 1 + 1 + 1 + 1) 1)) = _ := (VG (Iy L).symm).trans hE
   have oZ : Rg L ++ [Blk.arr (c + 1 + 1 + 1 + 1) 56 2 [[A0 y.row, Dat.lit (Value.int .i64 y.count)]]] = _ := hI
   have qE : Sm L ++ [(JM key, PV.one (Dat.lit (Value.int .i64 (L.length : Nat))))] = _ := hP
   rw [← ve] at oK
   generalize L ++ [(key, c + 1 + 1 + 1 + 1, [y])] = L2 at oY oZ qE oK hlen
   rw [oY, oZ, qE, ← aY]
   apply Af ((i + 1, L2, c + 1 + 1 + 1)) <;> (try dsimp only) <;> try repeat' first | exact k0 | refine kw ?_ | refine m3 ?_ ?_ ?_ ?_ | omega
   all_goals first
     | (rw [hlen]; done)
     | (rw [hlen]; rfl)
     | exact FG
     | exact ⟨by omega, by omega, oK⟩
     | rfl
 ·obtain rfl : i = b.length := by omega
  rw [Ir] at hG
  have hs := X9 hK hG
  have hS := RM U5 (fun _ => rfl) HX grpCmp_ok.swo 116 (Rf L) (by rw [NF]; omega) (fun g _ h _ => Rh g h)
  have sk := (Br grpCmp_ok.swo (Rf L)).length_eq
  rw [hs] at hS sk
  rw [NF] at hS sk
  refine Yl 4 1 ((Rf L).map U5) ?_ rfl (by decide) (by simp [Iy, NF]) (fun e he => by obtain ⟨g, _, rfl⟩ := List.mem_map.1 he; rfl) (fun q j e x hq hj => ?_) rfl
  ·repeat' first | refine kz ?_ | refine Ao ?_ | refine Ae [1] (hS) ?_ | refine kh ?_ ?_ | exact ⟨⟩ | fail
   all_goals first
     | (simp; omega)
     | (rw [Ah (by simp; omega)]; rfl)
     | rfl
  ·simp only [ND, dC, gf] at hq
   obtain ⟨g, hg, rfl⟩ := hq
   refine ⟨U5 (g.1, g.2.2), ?_⟩
   have h1 : ((Rf L).map U5)[q]? = some (U5 (g.1, g.2.2)) := by simp [Rf, hg]
   match j, hj with
   | 0, hj =>
     simp only [List.getElem?_cons_zero, Option.some.injEq] at hj
     subst hj
     exact ⟨Fq g.1, h1, rfl, rfl⟩
   | 1, hj =>
     simp only [List.getElem?_cons_succ, List.getElem?_cons_zero, Option.some.injEq] at hj
     subst hj
     exact ⟨Ak g.2.2, h1, rfl, by omega, 56, 2, g.2.2.map Entry.d, Sn hg, by simp, by rw [JF (by simp)]; rfl⟩
   | j + 2, hj => simp at hj
end Go.Proofs.YtmpgmjlanngkfaaGreat
end
