/-
  Expressions: the program's evaluation.
-/
import Derived.Test.YtmpgmjlanngkfaaGreatExh
import Derived.Test.YtmpgmjlanngkfaaGreatRowc
section
namespace Go.Proofs.YtmpgmjlanngkfaaGreat
open Go.Abs Go.RowKit
attribute [local irreducible] ARun Aq MCall PCall HCall Am SF CF CFs Af Al Ap B5 AW VLe
set_option linter.unusedSimpArgs false
set_option maxRecDepth 100000
set_option maxHeartbeats 4000000
theorem IK : DeferOk Tryz.prog 106 0 := by
 refine ⟨⟨_, Tryz.func106, by kernel_rfl, by kernel_rfl⟩, fun vs w hl => ?_⟩
 match vs, hl with
 | [], _ =>
   refine callsD_of_wpS Tryz.func106 rfl fun c₀ cs hu => ?_
   apply wpS_region
   simp [wpOpsS, go_sem, recoverD, hu, Tryz.ntmps106, Exit.thenS]
   cases c₀
   simp_all [bodyPostS, results, Tryz.results106]
theorem Ps : Val.null.clean = Val.null := by unfold Val.clean; split <;> rfl
theorem Ta (row : List Val) (col : Int) (h0 : 0 ≤ col) : PC 157 [.one (BS row), .one (.lit (.int .i64 col))] (.v (.agg (T5 row col).clean.d)) := by
 obtain ⟨k, rfl⟩ := T9 h0
 by_cases hk : k < row.length
 ·have hv : row[k]? = some row[k] := Bi hk
  rw [WQ hv]
  generalize row[k] = v at hv
  refine Ad hT Tryz.func157 Tryz.ntmps157 [.cell 4 73] fun B => ?_
  repeat' first | refine kz ?_ | refine AT hv ?_ | refine As ?_ | refine Aa (HP v) ?_ | refine kh ?_ ?_ | exact ⟨⟩ | fail
  all_goals rfl
 ·rw [WO (by omega), Ps]
  refine Ad hT Tryz.func157 Tryz.ntmps157 [.cell 4 73] fun B => ?_
  repeat' first | refine kz ?_ | refine As ?_ | refine kh ?_ ?_ | exact ⟨⟩ | fail
  all_goals rfl
def Tb (a b c : Val) : List Cell := (a.d ++ b.d ++ c.d).map .d
theorem Vb {vs : List Val} {i : Nat} (h : vs.length = i) (v : Val) : ∀ j, J3 (vs ++ [v]) j = if j = i then v else J3 vs j := fun j => by
 subst h
 unfold J3
 rw [OM, OM]
 split
 ·rename_i hj
  rw [hj, LH (Nat.le_refl _), MF]; rfl
 ·by_cases hlt : j < vs.length
  ·rw [LI hlt]
  ·rw [Ub (by simp; omega), Ub (by omega)]
theorem Tc (row : List Val) (e : List Trm) (hl : e.length ≤ 100000) : ∀ (n pos : Nat) (x : Nat × Val) (r : List Trm), pos ≤ e.length → AS row n (e.drop pos) = some (x, r) → PC 108 [.one (BR e), .one (.lit (.int .i64 pos)), .one (BS row)] (.tup [.agg x.2.d, .one (.lit (.int .i64 (e.length - r.length : Nat)))]) := by
 intro n
 induction n with
 | zero => intro pos x r _ h; cases h
 | succ n ih =>
   intro pos x r hp hx
   obtain ⟨m, t, l', xs, hm, hd, ht, hs, hx1⟩ := Dw hx
   obtain rfl : n = m := by omega
   simp only at hs hx1
   have hlt : pos < e.length := by
    have := congrArg List.length hd
    rw [Gm, List.length_cons] at this; omega
   have hv : e[pos]? = some t := by
    have := congrArg (fun l : List Trm => l[0]?) hd
    simpa using this
   have hd2 : e.drop (pos + 1) = l' := by
    have := Az hv
    rw [hd] at this; injection this with _ h; exact h.symm
   have h0 : 0 ≤ FK t.op := by
    simp only [Ep, BO, decide_eq_true_eq] at ht
    exact ht.1
   have h3 := (Mb t.op).2
   obtain ⟨k, hk⟩ := T9 h0
   have h2 := Mc t.op
   rw [hk] at h2 hs
   rw [QH] at hs
   rw [← hd2] at hs
   have hvs : ∀ v ∈ xs.map Prod.snd, v.valid = true := fun v hv' => by
    obtain ⟨a, ha, rfl⟩ := List.mem_map.1 hv'
    obtain ⟨ss, _, h2, h3⟩ := J4 (Q := fun _ a => a.2.valid = true) (fun l a r hh => by
     obtain ⟨s, e, _⟩ := Gx row n l a r hh
     exact ⟨s, e, (CB row n l a r hh).1⟩) hs
    obtain ⟨i, hi, rfl⟩ := Ym.1 ha
    have := HD hs
    exact h3 i ss[i] _ (Bi (by omega)) (Bi hi)
   rw [hx1]
   dsimp only
   have hf : HB t = true := by
    simp only [Ep, BO, decide_eq_true_eq] at ht
    exact ht.2
   clear hx hx1 hm hd hd2 ht h0
   refine Ad hT Tryz.func108 Tryz.ntmps108 [.cell 6 73, .tmp 7] fun B => ?_
   repeat' first | refine kz ?_ | refine AE rfl (fun hb => ?_) (fun hb => ?_) | refine AT hv ?_ | refine As ?_ | refine Aa (h2) ?_ | refine kg ?_ ?_ | refine kf ?_ | exact k0 | fail
   refine AY (X := Nat × Nat × Val × Val × Val) ([9, 11] ++ List.range' 24 13) (fun x => x.1 ≤ k ∧ pos + 1 ≤ x.2.1 ∧ x.2.1 ≤ e.length ∧ ∃ ys, Bx (AS row n) x.1 (e.drop (pos + 1)) = some (ys, e.drop x.2.1) ∧ x.2.2.1 = J3 (ys.map Prod.snd) 0 ∧ x.2.2.2.1 = J3 (ys.map Prod.snd) 1 ∧ x.2.2.2.2 = J3 (ys.map Prod.snd) 2) (fun x lz => (9, (iC x.2.1)) :: (24, (iC x.1)) :: lz) (fun x => [.box 1 (Val.null.d.map .d), .box 2 (t.d.map .d), .box 3 (Tb x.2.2.1 x.2.2.2.1 x.2.2.2.2)]) (fun x => k - x.1) ((0, pos + 1, Val.null, Val.null, Val.null)) ?_ ?_ ?_ ?_
   repeat' first | exact k0 | refine kw ?_ | omega
   ·dsimp only; exact ⟨by omega, by omega, by omega, [], rfl, rfl, rfl, rfl⟩
   rintro ⟨i, en, a, b, c⟩ ck ⟨hi, he1, he2, ys, hys, ha, hb, hc⟩
   dsimp only at hi he1 he2 hys ha hb hc ⊢
   by_cases hik : i < k
   ·have hyl := HD hys
    obtain ⟨y, r', hq⟩ : ∃ y r', AS row n (e.drop en) = some (y, r') := by
     cases hq : AS row n (e.drop en) with
     | none => rw [Ii hys hq k hik] at hs; cases hs
     | some q => exact ⟨q.1, q.2, rfl⟩
    obtain ⟨j, hj1, hj2, hj3⟩ := Ij hq
    rw [Gm] at hj2
    rw [PR] at hj3
    have hcall := ih en y r' he2 hq
    have hrl : e.length - r'.length = en + j := by
     rw [hj3, Gm]; omega
    rw [hrl] at hcall
    rw [hj3] at hq
    have hs' := Lm hys hq
    have hp := Vb (vs := ys.map Prod.snd) (i := i) (by rw [BT, hyl]) y.2
    rw [show ys.map Prod.snd ++ [y.2] = (ys ++ [y]).map Prod.snd by rw [As']; rfl] at hp
    have p0 := hp 0
    have p1 := hp 1
    have p2 := hp 2
    clear ih hp hs hys hq hj3 hrl
    generalize ys ++ [y] = zs at hs' p0 p1 p2
    generalize y.2 = v at hcall p0 p1 p2
    have hi3 : i = 0 ∨ i = 1 ∨ i = 2 := by omega
    rcases hi3 with rfl | rfl | rfl
    ·rw [if_pos rfl] at p0
     rw [if_neg (by omega), ← hb] at p1
     rw [if_neg (by omega), ← hc] at p2
     unfold Tb
     repeat' first | refine kz ?_ | refine AE rfl (fun hb => ?_) (fun hb => ?_) | refine AT hv ?_ | refine As ?_ | refine Aa (hcall) ?_ | refine kg ?_ ?_ | refine kf ?_ | exact k0 | fail
     apply Ae ((0 + 1, en + j, v, b, c)) <;> (try dsimp only) <;> try repeat' first | exact k0 | refine kw ?_ | omega
     · exact ⟨by omega, by omega, by omega, zs, hs', p0.symm, p1.symm, p2.symm⟩
    ·rw [if_neg (by omega), ← ha] at p0
     rw [if_pos rfl] at p1
     rw [if_neg (by omega), ← hc] at p2
     unfold Tb
     repeat' first | refine kz ?_ | refine AE rfl (fun hb => ?_) (fun hb => ?_) | refine AT hv ?_ | refine As ?_ | refine Aa (hcall) ?_ | refine kg ?_ ?_ | refine kf ?_ | exact k0 | fail
     apply Ae ((1 + 1, en + j, a, v, c)) <;> (try dsimp only) <;> try repeat' first | exact k0 | refine kw ?_ | omega
     · exact ⟨by omega, by omega, by omega, zs, hs', p0.symm, p1.symm, p2.symm⟩
    ·rw [if_neg (by omega), ← ha] at p0
     rw [if_neg (by omega), ← hb] at p1
     rw [if_pos rfl] at p2
     unfold Tb
     repeat' first | refine kz ?_ | refine AE rfl (fun hb => ?_) (fun hb => ?_) | refine AT hv ?_ | refine As ?_ | refine Aa (hcall) ?_ | refine kg ?_ ?_ | refine kf ?_ | exact k0 | fail
     apply Ae ((2 + 1, en + j, a, b, v)) <;> (try dsimp only) <;> try repeat' first | exact k0 | refine kw ?_ | omega
     · exact ⟨by omega, by omega, by omega, zs, hs', p0.symm, p1.symm, p2.symm⟩
   ·obtain rfl : i = k := by omega
    rw [hys] at hs
    simp only [Option.some.injEq, MA] at hs
    obtain ⟨rfl, rfl⟩ := hs
    have hop : t.op = 1 ∨ t.op = 2 ∨ (t.op = 14 ∨ t.op = 15 ∨ t.op = 16 ∨ t.op = 17 ∨ t.op = 18) ∨ (t.op = 8 ∨ t.op = 9 ∨ t.op = 10) ∨ (t.op = 11 ∨ t.op = 12) ∨ (t.op = 3 ∨ t.op = 13) ∨ (t.op = 4 ∨ t.op = 5 ∨ t.op = 6 ∨ t.op = 7) := by
     unfold FK at hk
     split at hk
     · omega
     split at hk
     · omega
     split at hk
     · omega
     split at hk <;> omega
    have va : a.valid = true := by rw [ha]; exact Dv hvs 0
    have vb : b.valid = true := by rw [hb]; exact Dv hvs 1
    have vc : c.valid = true := by rw [hc]; exact Dv hvs 2
    have hen : e.length - (e.drop en).length = en := by rw [Gm]; omega
    rw [hen]
    have hT : Yb t row (ys.map Prod.snd) = if t.op = 1 then t.v else if t.op = 2 then (T5 row t.col).clean else Re t.op a b c := by
     rw [Yb, ← ha, ← hb, ← hc]
    rw [hT]
    clear ih hys ha hb hc hvs hT hen h2 hk
    unfold Tb
    rcases hop with h | h | h | h | h | h | h
    ·rw [if_pos h]
     repeat' first | refine Dx (dr := true) ?_ | refine DL (dr := true) ?_ | refine DM (dr := true) ?_ | refine A5 3 ?_ | refine A5 4 ?_ | refine A5 5 ?_ | refine Bz 3 ?_ | refine Bz 4 ?_ | refine Bz 5 ?_ | refine kz ?_ | refine AE rfl (fun hb => ?_) (fun hb => ?_) | refine AT hv ?_ | refine As ?_ | refine Ar Ac ?_ ?_ | refine BB ?_ | refine CZ ?_ | exact k0 | refine Cj ?_ ?_ | refine Ic ?_
     all_goals rfl
    ·rw [if_neg (by omega), if_pos h]
     have hcol : 0 ≤ t.col := by
       rw [HB, if_neg (by omega), if_pos h, BO, decide_eq_true_eq] at hf
       exact hf.1
     have h1 := Ta row t.col hcol
     repeat' first | refine Dx (dr := true) ?_ | refine DL (dr := true) ?_ | refine DM (dr := true) ?_ | refine A5 3 ?_ | refine A5 4 ?_ | refine A5 5 ?_ | refine Bz 3 ?_ | refine Bz 4 ?_ | refine Bz 5 ?_ | refine kz ?_ | refine AE rfl (fun hb => ?_) (fun hb => ?_) | refine AT hv ?_ | refine As ?_ | refine Aa (h1) ?_ | refine Ar Ac ?_ ?_ | refine BB ?_ | refine CZ ?_ | exact k0 | refine Cj ?_ ?_ | refine Ic ?_
     all_goals rfl
    ·rw [if_neg (by omega), if_neg (by omega), show Re t.op a b c = Rc t.op a b c from if_pos h]
     have h1 := Rj t.op a b c
     repeat' first | refine Dx (dr := true) ?_ | refine DL (dr := true) ?_ | refine DM (dr := true) ?_ | refine A5 3 ?_ | refine A5 4 ?_ | refine A5 5 ?_ | refine Bz 3 ?_ | refine Bz 4 ?_ | refine Bz 5 ?_ | refine kz ?_ | refine AE rfl (fun hb => ?_) (fun hb => ?_) | refine AT hv ?_ | refine As ?_ | refine Aa (h1) ?_ | refine Ar Ac ?_ ?_ | refine BB ?_ | refine CZ ?_ | exact k0 | refine Cj ?_ ?_ | refine Ic ?_
     all_goals rfl
    ·rw [if_neg (by omega), if_neg (by omega), show Re t.op a b c = F6 t.op a b by rw [Re, if_neg (by omega), if_pos h]]
     have h1 := S9 t.op a b va vb
     repeat' first | refine Dx (dr := true) ?_ | refine DL (dr := true) ?_ | refine DM (dr := true) ?_ | refine A5 3 ?_ | refine A5 4 ?_ | refine A5 5 ?_ | refine Bz 3 ?_ | refine Bz 4 ?_ | refine Bz 5 ?_ | refine kz ?_ | refine AE rfl (fun hb => ?_) (fun hb => ?_) | refine AT hv ?_ | refine As ?_ | refine Aa (h1) ?_ | refine Ar Ac ?_ ?_ | refine BB ?_ | refine CZ ?_ | exact k0 | refine Cj ?_ ?_ | refine Ic ?_
     all_goals rfl
    ·rw [if_neg (by omega), if_neg (by omega), show Re t.op a b c = KF t.op a b by rw [Re, if_neg (by omega), if_neg (by omega), if_pos h]]
     have h1 := N7 t.op a b
     repeat' first | refine Dx (dr := true) ?_ | refine DL (dr := true) ?_ | refine DM (dr := true) ?_ | refine A5 3 ?_ | refine A5 4 ?_ | refine A5 5 ?_ | refine Bz 3 ?_ | refine Bz 4 ?_ | refine Bz 5 ?_ | refine kz ?_ | refine AE rfl (fun hb => ?_) (fun hb => ?_) | refine AT hv ?_ | refine As ?_ | refine Aa (h1) ?_ | refine Ar Ac ?_ ?_ | refine BB ?_ | refine CZ ?_ | exact k0 | refine Cj ?_ ?_ | refine Ic ?_
     all_goals rfl
    ·rw [if_neg (by omega), if_neg (by omega), show Re t.op a b c = T7 t.op a a by rw [Re, if_neg (by omega), if_neg (by omega), if_neg (by omega), if_pos h]]
     have h1 := IL t.op a a va va
     repeat' first | refine Dx (dr := true) ?_ | refine DL (dr := true) ?_ | refine DM (dr := true) ?_ | refine A5 3 ?_ | refine A5 4 ?_ | refine A5 5 ?_ | refine Bz 3 ?_ | refine Bz 4 ?_ | refine Bz 5 ?_ | refine kz ?_ | refine AE rfl (fun hb => ?_) (fun hb => ?_) | refine AT hv ?_ | refine As ?_ | refine Aa (h1) ?_ | refine Ar Ac ?_ ?_ | refine BB ?_ | refine CZ ?_ | exact k0 | refine Cj ?_ ?_ | refine Ic ?_
     all_goals rfl
    ·rw [if_neg (by omega), if_neg (by omega), show Re t.op a b c = T7 t.op a b by rw [Re, if_neg (by omega), if_neg (by omega), if_neg (by omega), if_neg (by omega)]]
     have h1 := IL t.op a b va vb
     repeat' first | refine Dx (dr := true) ?_ | refine DL (dr := true) ?_ | refine DM (dr := true) ?_ | refine A5 3 ?_ | refine A5 4 ?_ | refine A5 5 ?_ | refine Bz 3 ?_ | refine Bz 4 ?_ | refine Bz 5 ?_ | refine kz ?_ | refine AE rfl (fun hb => ?_) (fun hb => ?_) | refine AT hv ?_ | refine As ?_ | refine Aa (h1) ?_ | refine Ar Ac ?_ ?_ | refine BB ?_ | refine CZ ?_ | exact k0 | refine Cj ?_ ?_ | refine Ic ?_
     all_goals rfl
theorem F8 (e : List Trm) (row : List Val) : PC 57 [.one (BR e), .one (BS row)] (.v (.agg (GX e row).d)) := by
 have h1 := N6 e
 cases hv : ES e with
 | false =>
   rw [Xc hv]
   rw [hv] at h1
   refine Ad hT Tryz.func57 Tryz.ntmps57 [.cell 4 73] fun B => ?_
   repeat' first | refine kz ?_ | refine Aa (h1) ?_ | refine Ay (by repeat (first | exact Ac | refine Ah IK ?_)) ?_ | refine kh ?_ ?_ | exact ⟨⟩ | fail
   all_goals rfl
 | true =>
   rw [hv] at h1
   obtain ⟨hl, x, hx⟩ := (Er e row).1 hv
   rw [Xb hv hx]
   have h2 : PC 108 [.one (BR e), .one (.lit (.int .i64 0)), .one (BS row)] (.tup [.agg x.2.d, .one (.lit (.int .i64 (e.length - ([] : List Trm).length : Nat)))]) := Tc row e (by omega) 16 0 x [] (by omega) hx
   clear hx
   generalize x.2 = v at h2 ⊢
   refine Ad hT Tryz.func57 Tryz.ntmps57 [.cell 4 73] fun B => ?_
   repeat' first | refine kz ?_ | refine Aa (h1) ?_ | refine Aa (h2) ?_ | refine Ay (by repeat (first | exact Ac | refine Ah IK ?_)) ?_ | refine kh ?_ ?_ | exact ⟨⟩ | fail
   all_goals rfl
theorem Rk (e : List Trm) (row : List Val) : PC 105 [.one (BR e), .one (BS row)] (.v (.one (.lit (.bool (Im e row))))) := by
 have h1 := F8 e row
 have h2 := E6 (GX e row)
 unfold Im
 generalize GX e row = v at h1 h2 ⊢
 refine Ad hT Tryz.func105 Tryz.ntmps105 [.tmp 4] fun B => ?_
 repeat' first | refine kz ?_ | refine Aa (h1) ?_ | refine Aa (h2) ?_ | refine kf ?_ | fail
 all_goals rfl
end Go.Proofs.YtmpgmjlanngkfaaGreat
end
