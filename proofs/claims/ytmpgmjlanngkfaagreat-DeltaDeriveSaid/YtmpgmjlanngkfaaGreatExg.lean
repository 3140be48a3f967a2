/-
  Expressions: the program's evaluation.
-/
import Derived.Test.YtmpgmjlanngkfaaGreatExc
import Derived.Test.YtmpgmjlanngkfaaGreatExi
import Derived.Test.YtmpgmjlanngkfaaGreatHoa
section
namespace Go.Proofs.YtmpgmjlanngkfaaGreat
open Go.Abs Go.RowKit
attribute [local irreducible] ARun At MCall PCall HCall Am SF CF CFs Ah Aj Ar fin AW VLe
set_option linter.unusedSimpArgs false
set_option maxRecDepth 100000
set_option maxHeartbeats 4000000
theorem IE : DeferOk Tryz.prog 106 0 := by
 refine ⟨⟨_, Tryz.func106, by kernel_rfl, by kernel_rfl⟩, fun vs w hl => ?_⟩
 match vs, hl with
 | [], _ =>
   refine callsD_of_wpS Tryz.func106 rfl fun c₀ cs hu => ?_
   apply wpS_region
   simp [wpOpsS, go_sem, recoverD, hu, Tryz.ntmps106, Exit.thenS]
   cases c₀
   simp_all [bodyPostS, results, Tryz.results106]
theorem O3 : Val.null.clean = Val.null := by unfold Val.clean; split <;> rfl
theorem Tk (row : List Val) (col : Int) (h0 : 0 ≤ col) : PCall Tryz.prog 157 [.one (AU row), .one (.lit (.int .i64 col))] (.v (.agg (EH row col).clean.d)) := by
 obtain ⟨k, rfl⟩ := Int.eq_ofNat_of_zero_le h0
 by_cases hk : k < row.length
 ·have hv : row[k]? = some row[k] := List.getElem?_eq_getElem hk
  rw [LD hv]
  generalize row[k] = v at hv
  refine Ac hT Tryz.func157 Tryz.ntmps157 [.cell 4 73] fun B => ?_
  repeat' (first | refine kz ?_ | refine kx hv ?_ | refine ki ?_ | refine Aa (HO v) ?_ | refine kf ?_ | exact k0 | refine kg ?_ ?_ | fail)
  all_goals rfl
 ·rw [LC (by omega), O3]
  refine Ac hT Tryz.func157 Tryz.ntmps157 [.cell 4 73] fun B => ?_
  repeat' (first | refine kz ?_ | refine ki ?_ | refine kf ?_ | exact k0 | refine kg ?_ ?_ | fail)
  all_goals rfl
def Tl (a b c : Val) : List Cell := (a.d ++ b.d ++ c.d).map .d
theorem Vq {vs : List Val} {i : Nat} (h : vs.length = i) (v : Val) : ∀ j, EN (vs ++ [v]) j = if j = i then v else EN vs j := fun j => by
 subst h
 unfold EN
 rw [List.getD_eq_getElem?_getD, List.getD_eq_getElem?_getD]
 split
 ·rename_i hj
  rw [hj, List.getElem?_append_right (Nat.le_refl _), Nat.sub_self]; rfl
 ·by_cases hlt : j < vs.length
  ·rw [List.getElem?_append_left hlt]
  ·rw [List.getElem?_eq_none (by simp; omega), List.getElem?_eq_none (by omega)]
theorem Tm (row : List Val) (e : List Trm) (hl : e.length ≤ 100000) : ∀ (n pos : Nat) (x : Nat × Val) (r : List Trm), pos ≤ e.length → AP row n (e.drop pos) = some (x, r) → PCall Tryz.prog 108 [.one (AK e), .one (.lit (.int .i64 pos)), .one (AU row)] (.tup [.agg x.2.d, .one (.lit (.int .i64 (e.length - r.length : Nat)))]) := by
 intro n
 induction n with
 | zero => intro pos x r _ h; cases h
 | succ n ih =>
   intro pos x r hp hx
   obtain ⟨m, t, l', xs, hm, hd, ht, hs, hx1⟩ := CE hx
   obtain rfl : n = m := by omega
   simp only at hs hx1
   have hlt : pos < e.length := by
    have := congrArg List.length hd
    rw [List.length_drop, List.length_cons] at this; omega
   have hv : e[pos]? = some t := by
    have := congrArg (fun l : List Trm => l[0]?) hd
    simpa using this
   have hd2 : e.drop (pos + 1) = l' := by
    have := AD hv
    rw [hd] at this; injection this with _ h; exact h.symm
   have h0 : 0 ≤ D6 t.op := by
    simp only [CD, Bool.and_eq_true, decide_eq_true_eq] at ht
    exact ht.1
   have h3 := (Hu t.op).2
   obtain ⟨k, hk⟩ := Int.eq_ofNat_of_zero_le h0
   have h2 := LS t.op
   rw [hk] at h2 hs
   rw [Int.toNat_natCast] at hs
   rw [← hd2] at hs
   have hvs : ∀ v ∈ xs.map Prod.snd, v.valid = true := fun v hv' => by
    obtain ⟨a, ha, rfl⟩ := List.mem_map.1 hv'
    obtain ⟨ss, _, h2, h3⟩ := Hw (Q := fun _ a => a.2.valid = true) (fun l a r hh => by
     obtain ⟨s, e, _⟩ := DR row n l a r hh
     exact ⟨s, e, (BK row n l a r hh).1⟩) hs
    obtain ⟨i, hi, rfl⟩ := List.mem_iff_getElem.1 ha
    have := FV hs
    exact h3 i ss[i] _ (List.getElem?_eq_getElem (by omega)) (List.getElem?_eq_getElem hi)
   rw [hx1]
   dsimp only
   have hf : CS t = true := by
    simp only [CD, Bool.and_eq_true, decide_eq_true_eq] at ht
    exact ht.2
   clear hx hx1 hm hd hd2 ht h0
   refine Ac hT Tryz.func108 Tryz.ntmps108 [.cell 6 73, .tmp 7] fun B => ?_
   repeat' (first | refine kz ?_ | refine Au rfl (fun hb => ?_) (fun hb => ?_) | refine kx hv ?_ | refine ki ?_ | refine Aa (h2) ?_ | refine kg ?_ ?_ | refine kf ?_ | exact k0 | fail)
   refine AO (X := Nat × Nat × Val × Val × Val) [9, 11, 24, 25, 26, 27, 28, 29, 30, 31, 32, 33, 34, 35, 36] (fun x => x.1 ≤ k ∧ pos + 1 ≤ x.2.1 ∧ x.2.1 ≤ e.length ∧ ∃ ys, Bj (AP row n) x.1 (e.drop (pos + 1)) = some (ys, e.drop x.2.1) ∧ x.2.2.1 = EN (ys.map Prod.snd) 0 ∧ x.2.2.2.1 = EN (ys.map Prod.snd) 1 ∧ x.2.2.2.2 = EN (ys.map Prod.snd) 2) (fun x lz => (9, (.c (.d (.lit (.int .i64 x.2.1))))) :: (24, (.c (.d (.lit (.int .i64 x.1))))) :: lz) (fun x => [.box 1 (Val.null.d.map .d), .box 2 (t.d.map .d), .box 3 (Tl x.2.2.1 x.2.2.2.1 x.2.2.2.2)]) (fun x => k - x.1) ((0, pos + 1, Val.null, Val.null, Val.null)) ?_ ?_ ?_ ?_
   repeat' (first | exact k0 | refine kw ?_ | omega)
   ·dsimp only; exact ⟨by omega, by omega, by omega, [], rfl, rfl, rfl, rfl⟩
   rintro ⟨i, en, a, b, c⟩ ck ⟨hi, he1, he2, ys, hys, ha, hb, hc⟩
   dsimp only at hi he1 he2 hys ha hb hc ⊢
   by_cases hik : i < k
   ·have hyl := FV hys
    obtain ⟨y, r', hq⟩ : ∃ y r', AP row n (e.drop en) = some (y, r') := by
     cases hq : AP row n (e.drop en) with
     | none => rw [Gi hys hq k hik] at hs; cases hs
     | some q => exact ⟨q.1, q.2, rfl⟩
    obtain ⟨j, hj1, hj2, hj3⟩ := EO hq
    rw [List.length_drop] at hj2
    rw [List.drop_drop] at hj3
    have hcall := ih en y r' he2 hq
    have hrl : e.length - r'.length = en + j := by
     rw [hj3, List.length_drop]; omega
    rw [hrl] at hcall
    rw [hj3] at hq
    have hs' := Id hys hq
    have hp := Vq (vs := ys.map Prod.snd) (i := i) (by rw [List.length_map, hyl]) y.2
    rw [show ys.map Prod.snd ++ [y.2] = (ys ++ [y]).map Prod.snd by rw [List.map_append]; rfl] at hp
    have p0 := hp 0
    have p1 := hp 1
    have p2 := hp 2
    clear ih hp hs hys hq hj3 hrl
    generalize ys ++ [y] = zs at hs' p0 p1 p2
    generalize y.2 = v at hcall p0 p1 p2
    have hi3 : i = 0 ∨ i = 1 ∨ i = 2 := by omega
    rcases hi3 with rfl | rfl | rfl
    ·rw [if_pos rfl] at p0
     rw [if_neg (by omega), ← hb] at p1
     rw [if_neg (by omega), ← hc] at p2
     unfold Tl
     repeat' (first | refine kz ?_ | refine Au rfl (fun hb => ?_) (fun hb => ?_) | refine kx hv ?_ | refine ki ?_ | refine Aa (hcall) ?_ | refine kg ?_ ?_ | refine kf ?_ | exact k0 | fail)
     (apply Ae ((0 + 1, en + j, v, b, c)); all_goals (try dsimp only); all_goals (try (repeat' (first | exact k0 | refine kw ?_ | omega))))
     · exact ⟨by omega, by omega, by omega, zs, hs', p0.symm, p1.symm, p2.symm⟩
    ·rw [if_neg (by omega), ← ha] at p0
     rw [if_pos rfl] at p1
     rw [if_neg (by omega), ← hc] at p2
     unfold Tl
     repeat' (first | refine kz ?_ | refine Au rfl (fun hb => ?_) (fun hb => ?_) | refine kx hv ?_ | refine ki ?_ | refine Aa (hcall) ?_ | refine kg ?_ ?_ | refine kf ?_ | exact k0 | fail)
     (apply Ae ((1 + 1, en + j, a, v, c)); all_goals (try dsimp only); all_goals (try (repeat' (first | exact k0 | refine kw ?_ | omega))))
     · exact ⟨by omega, by omega, by omega, zs, hs', p0.symm, p1.symm, p2.symm⟩
    ·rw [if_neg (by omega), ← ha] at p0
     rw [if_neg (by omega), ← hb] at p1
     rw [if_pos rfl] at p2
     unfold Tl
     repeat' (first | refine kz ?_ | refine Au rfl (fun hb => ?_) (fun hb => ?_) | refine kx hv ?_ | refine ki ?_ | refine Aa (hcall) ?_ | refine kg ?_ ?_ | refine kf ?_ | exact k0 | fail)
     (apply Ae ((2 + 1, en + j, a, b, v)); all_goals (try dsimp only); all_goals (try (repeat' (first | exact k0 | refine kw ?_ | omega))))
     · exact ⟨by omega, by omega, by omega, zs, hs', p0.symm, p1.symm, p2.symm⟩
   ·obtain rfl : i = k := by omega
    rw [hys] at hs
    simp only [Option.some.injEq, Prod.mk.injEq] at hs
    obtain ⟨rfl, rfl⟩ := hs
    have hop : t.op = 1 ∨ t.op = 2 ∨ (t.op = 14 ∨ t.op = 15 ∨ t.op = 16 ∨ t.op = 17 ∨ t.op = 18) ∨ (t.op = 8 ∨ t.op = 9 ∨ t.op = 10) ∨ (t.op = 11 ∨ t.op = 12) ∨ (t.op = 3 ∨ t.op = 13) ∨ (t.op = 4 ∨ t.op = 5 ∨ t.op = 6 ∨ t.op = 7) := by
     unfold D6 at hk
     split at hk
     · omega
     split at hk
     · omega
     split at hk
     · omega
     split at hk <;> omega
    have va : a.valid = true := by rw [ha]; exact C7 hvs 0
    have vb : b.valid = true := by rw [hb]; exact C7 hvs 1
    have vc : c.valid = true := by rw [hc]; exact C7 hvs 2
    have hen : e.length - (e.drop en).length = en := by rw [List.length_drop]; omega
    rw [hen]
    have hT : Te t row (ys.map Prod.snd) = if t.op = 1 then t.v else if t.op = 2 then (EH row t.col).clean else Dm t.op a b c := by
     rw [Te, ← ha, ← hb, ← hc]
    rw [hT]
    clear ih hys ha hb hc hvs hT hen h2 hk
    unfold Tl
    rcases hop with h | h | h | h | h | h | h
    ·rw [if_pos h]
     repeat' (first | refine Db (dr := true) ?_ | refine CV (dr := true) ?_ | refine BS (dr := true) ?_ | refine A5 3 ?_ | refine A5 4 ?_ | refine A5 5 ?_ | refine BF 3 ?_ | refine BF 4 ?_ | refine BF 5 ?_ | refine kz ?_ | refine Au rfl (fun hb => ?_) (fun hb => ?_) | refine kx hv ?_ | refine ki ?_ | refine Ay Af ?_ ?_ | refine Bo ?_ | refine Ce ?_ | exact k0 | refine BJ ?_ ?_ | refine GT ?_)
     all_goals rfl
    ·rw [if_neg (by omega), if_pos h]
     have hcol : 0 ≤ t.col := by
       rw [CS, if_neg (by omega), if_pos h, Bool.and_eq_true, decide_eq_true_eq] at hf
       exact hf.1
     have h1 := Tk row t.col hcol
     repeat' (first | refine Db (dr := true) ?_ | refine CV (dr := true) ?_ | refine BS (dr := true) ?_ | refine A5 3 ?_ | refine A5 4 ?_ | refine A5 5 ?_ | refine BF 3 ?_ | refine BF 4 ?_ | refine BF 5 ?_ | refine kz ?_ | refine Au rfl (fun hb => ?_) (fun hb => ?_) | refine kx hv ?_ | refine ki ?_ | refine Aa (h1) ?_ | refine Ay Af ?_ ?_ | refine Bo ?_ | refine Ce ?_ | exact k0 | refine BJ ?_ ?_ | refine GT ?_)
     all_goals rfl
    ·rw [if_neg (by omega), if_neg (by omega), show Dm t.op a b c = IY t.op a b c from if_pos h]
     have h1 := Q3 t.op a b c
     repeat' (first | refine Db (dr := true) ?_ | refine CV (dr := true) ?_ | refine BS (dr := true) ?_ | refine A5 3 ?_ | refine A5 4 ?_ | refine A5 5 ?_ | refine BF 3 ?_ | refine BF 4 ?_ | refine BF 5 ?_ | refine kz ?_ | refine Au rfl (fun hb => ?_) (fun hb => ?_) | refine kx hv ?_ | refine ki ?_ | refine Aa (h1) ?_ | refine Ay Af ?_ ?_ | refine Bo ?_ | refine Ce ?_ | exact k0 | refine BJ ?_ ?_ | refine GT ?_)
     all_goals rfl
    ·rw [if_neg (by omega), if_neg (by omega), show Dm t.op a b c = B5 t.op a b by rw [Dm, if_neg (by omega), if_pos h]]
     have h1 := Tj t.op a b va vb
     repeat' (first | refine Db (dr := true) ?_ | refine CV (dr := true) ?_ | refine BS (dr := true) ?_ | refine A5 3 ?_ | refine A5 4 ?_ | refine A5 5 ?_ | refine BF 3 ?_ | refine BF 4 ?_ | refine BF 5 ?_ | refine kz ?_ | refine Au rfl (fun hb => ?_) (fun hb => ?_) | refine kx hv ?_ | refine ki ?_ | refine Aa (h1) ?_ | refine Ay Af ?_ ?_ | refine Bo ?_ | refine Ce ?_ | exact k0 | refine BJ ?_ ?_ | refine GT ?_)
     all_goals rfl
    ·rw [if_neg (by omega), if_neg (by omega), show Dm t.op a b c = EM t.op a b by rw [Dm, if_neg (by omega), if_neg (by omega), if_pos h]]
     have h1 := NA t.op a b
     repeat' (first | refine Db (dr := true) ?_ | refine CV (dr := true) ?_ | refine BS (dr := true) ?_ | refine A5 3 ?_ | refine A5 4 ?_ | refine A5 5 ?_ | refine BF 3 ?_ | refine BF 4 ?_ | refine BF 5 ?_ | refine kz ?_ | refine Au rfl (fun hb => ?_) (fun hb => ?_) | refine kx hv ?_ | refine ki ?_ | refine Aa (h1) ?_ | refine Ay Af ?_ ?_ | refine Bo ?_ | refine Ce ?_ | exact k0 | refine BJ ?_ ?_ | refine GT ?_)
     all_goals rfl
    ·rw [if_neg (by omega), if_neg (by omega), show Dm t.op a b c = GX t.op a a by rw [Dm, if_neg (by omega), if_neg (by omega), if_neg (by omega), if_pos h]]
     have h1 := IF t.op a a va va
     repeat' (first | refine Db (dr := true) ?_ | refine CV (dr := true) ?_ | refine BS (dr := true) ?_ | refine A5 3 ?_ | refine A5 4 ?_ | refine A5 5 ?_ | refine BF 3 ?_ | refine BF 4 ?_ | refine BF 5 ?_ | refine kz ?_ | refine Au rfl (fun hb => ?_) (fun hb => ?_) | refine kx hv ?_ | refine ki ?_ | refine Aa (h1) ?_ | refine Ay Af ?_ ?_ | refine Bo ?_ | refine Ce ?_ | exact k0 | refine BJ ?_ ?_ | refine GT ?_)
     all_goals rfl
    ·rw [if_neg (by omega), if_neg (by omega), show Dm t.op a b c = GX t.op a b by rw [Dm, if_neg (by omega), if_neg (by omega), if_neg (by omega), if_neg (by omega)]]
     have h1 := IF t.op a b va vb
     repeat' (first | refine Db (dr := true) ?_ | refine CV (dr := true) ?_ | refine BS (dr := true) ?_ | refine A5 3 ?_ | refine A5 4 ?_ | refine A5 5 ?_ | refine BF 3 ?_ | refine BF 4 ?_ | refine BF 5 ?_ | refine kz ?_ | refine Au rfl (fun hb => ?_) (fun hb => ?_) | refine kx hv ?_ | refine ki ?_ | refine Aa (h1) ?_ | refine Ay Af ?_ ?_ | refine Bo ?_ | refine Ce ?_ | exact k0 | refine BJ ?_ ?_ | refine GT ?_)
     all_goals rfl
theorem Hx (e : List Trm) (row : List Val) : PCall Tryz.prog 57 [.one (AK e), .one (AU row)] (.v (.agg (Ek e row).d)) := by
 have h1 := Ny e
 cases hv : Cc e with
 | false =>
   rw [Th hv]
   rw [hv] at h1
   refine Ac hT Tryz.func57 Tryz.ntmps57 [.cell 4 73] fun B => ?_
   repeat' (first | refine kz ?_ | refine Aa (h1) ?_ | refine A4 (by repeat (first | exact Af | refine Aq IE ?_)) ?_ | refine kf ?_ | exact k0 | refine kg ?_ ?_ | fail)
   all_goals rfl
 | true =>
   rw [hv] at h1
   obtain ⟨hl, x, hx⟩ := (C8 e row).1 hv
   rw [Tg hv hx]
   have h2 : PCall Tryz.prog 108 [.one (AK e), .one (.lit (.int .i64 0)), .one (AU row)] (.tup [.agg x.2.d, .one (.lit (.int .i64 (e.length - ([] : List Trm).length : Nat)))]) := Tm row e (by omega) 16 0 x [] (by omega) hx
   clear hx
   generalize x.2 = v at h2 ⊢
   refine Ac hT Tryz.func57 Tryz.ntmps57 [.cell 4 73] fun B => ?_
   repeat' (first | refine kz ?_ | refine Aa (h1) ?_ | refine Aa (h2) ?_ | refine A4 (by repeat (first | exact Af | refine Aq IE ?_)) ?_ | refine kf ?_ | exact k0 | refine kg ?_ ?_ | fail)
   all_goals rfl
theorem Q4 (e : List Trm) (row : List Val) : PCall Tryz.prog 105 [.one (AK e), .one (AU row)] (.v (.one (.lit (.bool (E9 e row))))) := by
 have h1 := Hx e row
 have h2 := EP (Ek e row)
 unfold E9
 generalize Ek e row = v at h1 h2 ⊢
 refine Ac hT Tryz.func105 Tryz.ntmps105 [.tmp 4] fun B => ?_
 repeat' (first | refine kz ?_ | refine Aa (h1) ?_ | refine Aa (h2) ?_ | refine kf ?_ | fail)
 all_goals rfl
end Go.Proofs.YtmpgmjlanngkfaaGreat
end
