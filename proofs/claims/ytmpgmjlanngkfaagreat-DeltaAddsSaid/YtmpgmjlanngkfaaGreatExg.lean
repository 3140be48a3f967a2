/-
  Expressions: the program's evaluation.
-/
import Derived.Test.YtmpgmjlanngkfaaGreatExh
import Derived.Test.YtmpgmjlanngkfaaGreatHol
section
namespace Go.Proofs.YtmpgmjlanngkfaaGreat
open Go.Abs Go.RowKit
attribute [local irreducible] ARun Au MCall PCall HCall Ak SF CF CFs Af Ag Ar fin AP VLe
set_option linter.unusedSimpArgs false
set_option maxRecDepth 100000
set_option maxHeartbeats 4000000
theorem Is : DeferOk Tryz.prog 106 0 := by
 refine ⟨⟨_, Tryz.func106, by kernel_rfl, by kernel_rfl⟩, fun vs w hl => ?_⟩
 match vs, hl with
 | [], _ =>
   refine callsD_of_wpS Tryz.func106 rfl fun c₀ cs hu => ?_
   apply wpS_region
   simp [wpOpsS, go_sem, recoverD, hu, Tryz.ntmps106, Exit.thenS]
   cases c₀
   simp_all [bodyPostS, results, Tryz.results106]
theorem Pc : Val.null.clean = Val.null := by unfold Val.clean; split <;> rfl
theorem TW (row : List Val) (col : Int) (h0 : 0 ≤ col) : PC 157 [.one (BP row), .one (.lit (.int .i64 col))] (.v (.agg (GQ row col).clean.d)) := by
 obtain ⟨k, rfl⟩ := UY h0
 by_cases hk : k < row.length
 ·have hv : row[k]? = some row[k] := Bh hk
  rw [S1 hv]
  generalize row[k] = v at hv
  refine Ac hT Tryz.func157 Tryz.ntmps157 [.cell 4 73] fun B => ?_
  repeat' first | refine kz ?_ | refine AX hv ?_ | refine Aw ?_ | refine Aa (Hu v) ?_ | refine kh ?_ ?_ | exact ⟨⟩ | fail
  all_goals rfl
 ·rw [S0 (by omega), Pc]
  refine Ac hT Tryz.func157 Tryz.ntmps157 [.cell 4 73] fun B => ?_
  repeat' first | refine kz ?_ | refine Aw ?_ | refine kh ?_ ?_ | exact ⟨⟩ | fail
  all_goals rfl
def TX (a b c : Val) : List Cell := (a.d ++ b.d ++ c.d).map .d
theorem V7 {vs : List Val} {i : Nat} (h : vs.length = i) (v : Val) : ∀ j, JK (vs ++ [v]) j = if j = i then v else JK vs j := fun j => by
 subst h
 unfold JK
 rw [PI, PI]
 split
 ·rename_i hj
  rw [hj, LB (Nat.le_refl _), U6]; rfl
 ·by_cases hlt : j < vs.length
  ·rw [Ku hlt]
  ·rw [UZ (by simp; omega), UZ (by omega)]
theorem TY (row : List Val) (e : List Trm) (hl : e.length ≤ 100000) : ∀ (n pos : Nat) (x : Nat × Val) (r : List Trm), pos ≤ e.length → AW row n (e.drop pos) = some (x, r) → PC 108 [.one (Bw e), .one (.lit (.int .i64 pos)), .one (BP row)] (.tup [.agg x.2.d, .one (.lit (.int .i64 (e.length - r.length : Nat)))]) := by
 intro n
 induction n with
 | zero => intro pos x r _ h; cases h
 | succ n ih =>
   intro pos x r hp hx
   obtain ⟨m, t, l', xs, hm, hd, ht, hs, hx1⟩ := CW hx
   obtain rfl : n = m := by omega
   simp only at hs hx1
   have hlt : pos < e.length := by
    have := congrArg List.length hd
    rw [Fo, List.length_cons] at this; omega
   have hv : e[pos]? = some t := by
    have := congrArg (fun l : List Trm => l[0]?) hd
    simpa using this
   have hd2 : e.drop (pos + 1) = l' := by
    have := Ay hv
    rw [hd] at this; injection this with _ h; exact h.symm
   have h0 : 0 ≤ Fj t.op := by
    simp only [DT, Bi, decide_eq_true_eq] at ht
    exact ht.1
   have h3 := (L9 t.op).2
   obtain ⟨k, hk⟩ := UY h0
   have h2 := Ma t.op
   rw [hk] at h2 hs
   rw [QL] at hs
   rw [← hd2] at hs
   have hvs : ∀ v ∈ xs.map Prod.snd, v.valid = true := fun v hv' => by
    obtain ⟨a, ha, rfl⟩ := List.mem_map.1 hv'
    obtain ⟨ss, _, h2, h3⟩ := JL (Q := fun _ a => a.2.valid = true) (fun l a r hh => by
     obtain ⟨s, e, _⟩ := FZ row n l a r hh
     exact ⟨s, e, (Ci row n l a r hh).1⟩) hs
    obtain ⟨i, hi, rfl⟩ := ZQ.1 ha
    have := Ha hs
    exact h3 i ss[i] _ (Bh (by omega)) (Bh hi)
   rw [hx1]
   dsimp only
   have hf : G9 t = true := by
    simp only [DT, Bi, decide_eq_true_eq] at ht
    exact ht.2
   clear hx hx1 hm hd hd2 ht h0
   refine Ac hT Tryz.func108 Tryz.ntmps108 [.cell 6 73, .tmp 7] fun B => ?_
   repeat' first | refine kz ?_ | refine AN rfl (fun hb => ?_) (fun hb => ?_) | refine AX hv ?_ | refine Aw ?_ | refine Aa (h2) ?_ | refine kg ?_ ?_ | refine kf ?_ | exact k0 | fail
   refine A0 (X := Nat × Nat × Val × Val × Val) ([9, 11] ++ List.range' 24 13) (fun x => x.1 ≤ k ∧ pos + 1 ≤ x.2.1 ∧ x.2.1 ≤ e.length ∧ ∃ ys, Bn (AW row n) x.1 (e.drop (pos + 1)) = some (ys, e.drop x.2.1) ∧ x.2.2.1 = JK (ys.map Prod.snd) 0 ∧ x.2.2.2.1 = JK (ys.map Prod.snd) 1 ∧ x.2.2.2.2 = JK (ys.map Prod.snd) 2) (fun x lz => (9, (iC x.2.1)) :: (24, (iC x.1)) :: lz) (fun x => [.box 1 (Val.null.d.map .d), .box 2 (t.d.map .d), .box 3 (TX x.2.2.1 x.2.2.2.1 x.2.2.2.2)]) (fun x => k - x.1) ((0, pos + 1, Val.null, Val.null, Val.null)) ?_ ?_ ?_ ?_
   repeat' first | exact k0 | refine kw ?_ | omega
   ·dsimp only; exact ⟨by omega, by omega, by omega, [], rfl, rfl, rfl, rfl⟩
   rintro ⟨i, en, a, b, c⟩ ck ⟨hi, he1, he2, ys, hys, ha, hb, hc⟩
   dsimp only at hi he1 he2 hys ha hb hc ⊢
   by_cases hik : i < k
   ·have hyl := Ha hys
    obtain ⟨y, r', hq⟩ : ∃ y r', AW row n (e.drop en) = some (y, r') := by
     cases hq : AW row n (e.drop en) with
     | none => rw [HW hys hq k hik] at hs; cases hs
     | some q => exact ⟨q.1, q.2, rfl⟩
    obtain ⟨j, hj1, hj2, hj3⟩ := HX hq
    rw [Fo] at hj2
    rw [U5] at hj3
    have hcall := ih en y r' he2 hq
    have hrl : e.length - r'.length = en + j := by
     rw [hj3, Fo]; omega
    rw [hrl] at hcall
    rw [hj3] at hq
    have hs' := K8 hys hq
    have hp := V7 (vs := ys.map Prod.snd) (i := i) (by rw [BQ, hyl]) y.2
    rw [show ys.map Prod.snd ++ [y.2] = (ys ++ [y]).map Prod.snd by rw [Ah']; rfl] at hp
    have p0 := hp 0
    have p1 := hp 1
    have p2 := hp 2
    clear ih hp hs hys hq hj3 hrl
    generalize ys ++ [y] = zs at hs' p0 p1 p2
    generalize y.2 = v at hcall p0 p1 p2
    have hi3 : i = 0 ∨ i = 1 ∨ i = 2 := by omega
    rcases hi3 with rfl | rfl | rfl
    ·rw [if_pos rfl] at p0
     rw [if_neg (by omega), ← hb] at p1
     rw [if_neg (by omega), ← hc] at p2
     unfold TX
     repeat' first | refine kz ?_ | refine AN rfl (fun hb => ?_) (fun hb => ?_) | refine AX hv ?_ | refine Aw ?_ | refine Aa (hcall) ?_ | refine kg ?_ ?_ | refine kf ?_ | exact k0 | fail
     apply Ad ((0 + 1, en + j, v, b, c)) <;> (try dsimp only) <;> try repeat' first | exact k0 | refine kw ?_ | omega
     · exact ⟨by omega, by omega, by omega, zs, hs', p0.symm, p1.symm, p2.symm⟩
    ·rw [if_neg (by omega), ← ha] at p0
     rw [if_pos rfl] at p1
     rw [if_neg (by omega), ← hc] at p2
     unfold TX
     repeat' first | refine kz ?_ | refine AN rfl (fun hb => ?_) (fun hb => ?_) | refine AX hv ?_ | refine Aw ?_ | refine Aa (hcall) ?_ | refine kg ?_ ?_ | refine kf ?_ | exact k0 | fail
     apply Ad ((1 + 1, en + j, a, v, c)) <;> (try dsimp only) <;> try repeat' first | exact k0 | refine kw ?_ | omega
     · exact ⟨by omega, by omega, by omega, zs, hs', p0.symm, p1.symm, p2.symm⟩
    ·rw [if_neg (by omega), ← ha] at p0
     rw [if_neg (by omega), ← hb] at p1
     rw [if_pos rfl] at p2
     unfold TX
     repeat' first | refine kz ?_ | refine AN rfl (fun hb => ?_) (fun hb => ?_) | refine AX hv ?_ | refine Aw ?_ | refine Aa (hcall) ?_ | refine kg ?_ ?_ | refine kf ?_ | exact k0 | fail
     apply Ad ((2 + 1, en + j, a, b, v)) <;> (try dsimp only) <;> try repeat' first | exact k0 | refine kw ?_ | omega
     · exact ⟨by omega, by omega, by omega, zs, hs', p0.symm, p1.symm, p2.symm⟩
   ·obtain rfl : i = k := by omega
    rw [hys] at hs
    simp only [Option.some.injEq, Gk] at hs
    obtain ⟨rfl, rfl⟩ := hs
    have hop : t.op = 1 ∨ t.op = 2 ∨ (t.op = 14 ∨ t.op = 15 ∨ t.op = 16 ∨ t.op = 17 ∨ t.op = 18) ∨ (t.op = 8 ∨ t.op = 9 ∨ t.op = 10) ∨ (t.op = 11 ∨ t.op = 12) ∨ (t.op = 3 ∨ t.op = 13) ∨ (t.op = 4 ∨ t.op = 5 ∨ t.op = 6 ∨ t.op = 7) := by
     unfold Fj at hk
     split at hk
     · omega
     split at hk
     · omega
     split at hk
     · omega
     split at hk <;> omega
    have va : a.valid = true := by rw [ha]; exact CV hvs 0
    have vb : b.valid = true := by rw [hb]; exact CV hvs 1
    have vc : c.valid = true := by rw [hc]; exact CV hvs 2
    have hen : e.length - (e.drop en).length = en := by rw [Fo]; omega
    rw [hen]
    have hT : ZH t row (ys.map Prod.snd) = if t.op = 1 then t.v else if t.op = 2 then (GQ row t.col).clean else Rl t.op a b c := by
     rw [ZH, ← ha, ← hb, ← hc]
    rw [hT]
    clear ih hys ha hb hc hvs hT hen h2 hk
    unfold TX
    rcases hop with h | h | h | h | h | h | h
    ·rw [if_pos h]
     repeat' first | refine CX (dr := true) ?_ | refine DW (dr := true) ?_ | refine De (dr := true) ?_ | refine A6 3 ?_ | refine A6 4 ?_ | refine A6 5 ?_ | refine BF 3 ?_ | refine BF 4 ?_ | refine BF 5 ?_ | refine kz ?_ | refine AN rfl (fun hb => ?_) (fun hb => ?_) | refine AX hv ?_ | refine Aw ?_ | refine AA Ae ?_ ?_ | refine B7 ?_ | refine Du ?_ | exact k0 | refine CG ?_ ?_ | refine Ky ?_
     all_goals rfl
    ·rw [if_neg (by omega), if_pos h]
     have hcol : 0 ≤ t.col := by
       rw [G9, if_neg (by omega), if_pos h, Bi, decide_eq_true_eq] at hf
       exact hf.1
     have h1 := TW row t.col hcol
     repeat' first | refine CX (dr := true) ?_ | refine DW (dr := true) ?_ | refine De (dr := true) ?_ | refine A6 3 ?_ | refine A6 4 ?_ | refine A6 5 ?_ | refine BF 3 ?_ | refine BF 4 ?_ | refine BF 5 ?_ | refine kz ?_ | refine AN rfl (fun hb => ?_) (fun hb => ?_) | refine AX hv ?_ | refine Aw ?_ | refine Aa (h1) ?_ | refine AA Ae ?_ ?_ | refine B7 ?_ | refine Du ?_ | exact k0 | refine CG ?_ ?_ | refine Ky ?_
     all_goals rfl
    ·rw [if_neg (by omega), if_neg (by omega), show Rl t.op a b c = Rk t.op a b c from if_pos h]
     have h1 := Rq t.op a b c
     repeat' first | refine CX (dr := true) ?_ | refine DW (dr := true) ?_ | refine De (dr := true) ?_ | refine A6 3 ?_ | refine A6 4 ?_ | refine A6 5 ?_ | refine BF 3 ?_ | refine BF 4 ?_ | refine BF 5 ?_ | refine kz ?_ | refine AN rfl (fun hb => ?_) (fun hb => ?_) | refine AX hv ?_ | refine Aw ?_ | refine Aa (h1) ?_ | refine AA Ae ?_ ?_ | refine B7 ?_ | refine Du ?_ | exact k0 | refine CG ?_ ?_ | refine Ky ?_
     all_goals rfl
    ·rw [if_neg (by omega), if_neg (by omega), show Rl t.op a b c = FF t.op a b by rw [Rl, if_neg (by omega), if_pos h]]
     have h1 := TV t.op a b va vb
     repeat' first | refine CX (dr := true) ?_ | refine DW (dr := true) ?_ | refine De (dr := true) ?_ | refine A6 3 ?_ | refine A6 4 ?_ | refine A6 5 ?_ | refine BF 3 ?_ | refine BF 4 ?_ | refine BF 5 ?_ | refine kz ?_ | refine AN rfl (fun hb => ?_) (fun hb => ?_) | refine AX hv ?_ | refine Aw ?_ | refine Aa (h1) ?_ | refine AA Ae ?_ ?_ | refine B7 ?_ | refine Du ?_ | exact k0 | refine CG ?_ ?_ | refine Ky ?_
     all_goals rfl
    ·rw [if_neg (by omega), if_neg (by omega), show Rl t.op a b c = KA t.op a b by rw [Rl, if_neg (by omega), if_neg (by omega), if_pos h]]
     have h1 := NW t.op a b
     repeat' first | refine CX (dr := true) ?_ | refine DW (dr := true) ?_ | refine De (dr := true) ?_ | refine A6 3 ?_ | refine A6 4 ?_ | refine A6 5 ?_ | refine BF 3 ?_ | refine BF 4 ?_ | refine BF 5 ?_ | refine kz ?_ | refine AN rfl (fun hb => ?_) (fun hb => ?_) | refine AX hv ?_ | refine Aw ?_ | refine Aa (h1) ?_ | refine AA Ae ?_ ?_ | refine B7 ?_ | refine Du ?_ | exact k0 | refine CG ?_ ?_ | refine Ky ?_
     all_goals rfl
    ·rw [if_neg (by omega), if_neg (by omega), show Rl t.op a b c = Va t.op a a by rw [Rl, if_neg (by omega), if_neg (by omega), if_neg (by omega), if_pos h]]
     have h1 := It t.op a a va va
     repeat' first | refine CX (dr := true) ?_ | refine DW (dr := true) ?_ | refine De (dr := true) ?_ | refine A6 3 ?_ | refine A6 4 ?_ | refine A6 5 ?_ | refine BF 3 ?_ | refine BF 4 ?_ | refine BF 5 ?_ | refine kz ?_ | refine AN rfl (fun hb => ?_) (fun hb => ?_) | refine AX hv ?_ | refine Aw ?_ | refine Aa (h1) ?_ | refine AA Ae ?_ ?_ | refine B7 ?_ | refine Du ?_ | exact k0 | refine CG ?_ ?_ | refine Ky ?_
     all_goals rfl
    ·rw [if_neg (by omega), if_neg (by omega), show Rl t.op a b c = Va t.op a b by rw [Rl, if_neg (by omega), if_neg (by omega), if_neg (by omega), if_neg (by omega)]]
     have h1 := It t.op a b va vb
     repeat' first | refine CX (dr := true) ?_ | refine DW (dr := true) ?_ | refine De (dr := true) ?_ | refine A6 3 ?_ | refine A6 4 ?_ | refine A6 5 ?_ | refine BF 3 ?_ | refine BF 4 ?_ | refine BF 5 ?_ | refine kz ?_ | refine AN rfl (fun hb => ?_) (fun hb => ?_) | refine AX hv ?_ | refine Aw ?_ | refine Aa (h1) ?_ | refine AA Ae ?_ ?_ | refine B7 ?_ | refine Du ?_ | exact k0 | refine CG ?_ ?_ | refine Ky ?_
     all_goals rfl
theorem Hc (e : List Trm) (row : List Val) : PC 57 [.one (Bw e), .one (BP row)] (.v (.agg (Gc e row).d)) := by
 have h1 := NV e
 cases hv : En e with
 | false =>
   rw [YD hv]
   rw [hv] at h1
   refine Ac hT Tryz.func57 Tryz.ntmps57 [.cell 4 73] fun B => ?_
   repeat' first | refine kz ?_ | refine Aa (h1) ?_ | refine BA (by repeat (first | exact Ae | refine As Is ?_)) ?_ | refine kh ?_ ?_ | exact ⟨⟩ | fail
   all_goals rfl
 | true =>
   rw [hv] at h1
   obtain ⟨hl, x, hx⟩ := (DU e row).1 hv
   rw [YC hv hx]
   have h2 : PC 108 [.one (Bw e), .one (.lit (.int .i64 0)), .one (BP row)] (.tup [.agg x.2.d, .one (.lit (.int .i64 (e.length - ([] : List Trm).length : Nat)))]) := TY row e (by omega) 16 0 x [] (by omega) hx
   clear hx
   generalize x.2 = v at h2 ⊢
   refine Ac hT Tryz.func57 Tryz.ntmps57 [.cell 4 73] fun B => ?_
   repeat' first | refine kz ?_ | refine Aa (h1) ?_ | refine Aa (h2) ?_ | refine BA (by repeat (first | exact Ae | refine As Is ?_)) ?_ | refine kh ?_ ?_ | exact ⟨⟩ | fail
   all_goals rfl
theorem Rr (e : List Trm) (row : List Val) : PC 105 [.one (Bw e), .one (BP row)] (.v (.one (.lit (.bool (H0 e row))))) := by
 have h1 := Hc e row
 have h2 := EE (Gc e row)
 unfold H0
 generalize Gc e row = v at h1 h2 ⊢
 refine Ac hT Tryz.func105 Tryz.ntmps105 [.tmp 4] fun B => ?_
 repeat' first | refine kz ?_ | refine Aa (h1) ?_ | refine Aa (h2) ?_ | refine kf ?_ | fail
 all_goals rfl
end Go.Proofs.YtmpgmjlanngkfaaGreat
end
