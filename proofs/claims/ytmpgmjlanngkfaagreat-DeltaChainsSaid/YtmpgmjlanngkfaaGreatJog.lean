/-
  Algebra: a row is added to the joiner.
-/
import Derived.Test.YtmpgmjlanngkfaaGreatJoh
import Derived.Test.YtmpgmjlanngkfaaGreatJoc
import Derived.Test.YtmpgmjlanngkfaaGreatJof
section
namespace Go.Proofs.YtmpgmjlanngkfaaGreat
open Go.Abs Go.RowKit
attribute [local irreducible] ARun Au MCall PCall HCall Ak SF CF CFs Af Ag Ar fin AP VLe
set_option linter.unusedSimpArgs false
set_option maxRecDepth 100000
set_option maxHeartbeats 4000000
theorem Rw (st : List Lev) (s r : List (Bs × Int)) (st' : List Lev) (s' r' : List (Bs × Int)) (h : closeE [] st.reverse s r = some (st'.reverse, s', r')) (hst : st.length ≤ 100000) (hop : ∀ l ∈ st, l.opened.length ≤ 100000) (hr : r.length ≤ 4096) :
  HC 195 [.c (.bp 0 0 0), .c (.d (CL []))] (jm st s r) (.c (.d (.lit (.bool true)))) (bY st' s' r') := by
 have hcn : ((⟨([] : Bs).toArray⟩ : ByteArray).toList == ({ data := #[] } : ByteArray).toList) = true := by rw [E2]; simp
 refine AI hT Tryz.func195 Tryz.ntmps195 [.tmp 4] fun B => ?_
 repeat' first | refine kz ?_ | refine Aw ?_ | refine kf ?_ | refine kg ?_ ?_ | exact k0 | refine Ab ?_ | refine m1 ?_ ?_
 refine A0 (X := List Lev × List (Bs × Int) × List (Bs × Int) × List (List Dat) × Nat × Nat) ([4, 5] ++ List.range' 7 81) (fun x => closeE [] x.1.reverse x.2.1 x.2.2.1 = some (st'.reverse, s', r') ∧ x.1.length ≤ 100000 ∧ (∀ l ∈ x.1, l.opened.length ≤ 100000) ∧ x.2.2.1.length ≤ 4096) (fun x lz => lz) (fun x => [.box 0 [.arr 1 x.2.2.2.2.1 x.1.length, .mp 2 0, .arr 3 x.2.2.2.2.2 x.2.2.1.length], .arr x.2.2.2.2.1 232 2 (x.1.map Lev.d ++ x.2.2.2.1), .mapb 0 9 2 (x.2.1.map JR), .arr x.2.2.2.2.2 200 2 (x.2.2.1.map F5)]) (fun x => x.1.length) ((st, s, r, [], 0, 0)) ?_ ?_ ?_ ?_
 repeat' first | exact k0 | refine kw ?_ | refine kv ?_ ?_ | omega
 ·simp
 ·exact ⟨h, hst, hop, hr⟩
 rintro ⟨st1, s1, r1, tl, k1, k3⟩ c ⟨hinv, hl1, hop1, hr1⟩
 dsimp only at hinv hl1 hop1 hr1 ⊢
 refine QA 1 st1.length ?_ (show (st1.map Lev.d ++ tl).take st1.length = st1.map Lev.d by rw [bC (by simp)]; exact Mq (by simp))
 rcases Ed st1 with rfl | ⟨st2, l, rfl⟩
 ·simp only [List.reverse_nil, closeE, Option.some.injEq, Gk] at hinv
  obtain ⟨h1, rfl, rfl⟩ := hinv
  have h1 : st' = [] := by simpa using h1.symm
  subst h1
  dsimp only [List.length_nil, List.map_nil]
  repeat' first | refine kz ?_ | refine Aw ?_ | refine kf ?_ | refine kg ?_ ?_ | exact k0 | refine Ab ?_ | refine m1 ?_ ?_
 ·have hl2 : st2.length + 1 ≤ 100000 := by simpa using hl1
  have hlen : (st2 ++ [l]).length = st2.length + 1 := by simp
  have he : ((st2 ++ [l]).map Lev.d)[(((st2 ++ [l]).length : Int) - 1).toNat]? = some l.d := by
    rw [hlen, show (((st2.length + 1 : Nat) : Int) - 1).toNat = st2.length by omega, Ah']; exact He _ _ (by simp)
  have hop2 : ∀ l ∈ st2, l.opened.length ≤ 100000 := fun l hl => hop1 l (by simp [hl])
  have hlo := hop1 l (by simp)
  rw [bO, bG, bI, closeE] at hinv
  rw [if_neg (by simp)] at hinv
  cases hcl : closeLev l.opened s1 r1 with
  | none =>
    rw [hcl] at hinv; cases hinv
  | some q =>
    obtain ⟨s2, r2⟩ := q
    rw [hcl] at hinv
    have hr2 := Dz hcl hr1
    repeat' first | (exfalso; rw [hcn] at hb; cases hb; done) | refine DS (m' := st2.length) ?_ (hm' := by omega) | refine kz ?_ | refine AX he ?_ | refine Aw ?_ | refine JH ?_ | refine Bb Ae ?_ ?_ | exact k0 | refine Ab ?_ | refine m1 ?_ ?_
    refine A0 (X := Nat × List (Bs × Int) × List (Bs × Int) × Nat) ([4, 7, 8] ++ List.range' 52 36) (fun x => closeLev (l.opened.drop x.1) x.2.1 x.2.2.1 = some (s2, r2) ∧ x.1 ≤ l.opened.length ∧ x.2.2.1.length ≤ 4096) (fun x lz => (52, (iC x.1)) :: lz) (fun x => [.box 0 [.arr 1 k1 st2.length, .mp 2 0, .arr 3 x.2.2.2 x.2.2.1.length], .arr k1 232 2 ((st2 ++ [l]).map Lev.d), .mapb 0 9 2 (x.2.1.map JR), .arr x.2.2.2 200 2 (x.2.2.1.map F5)]) (fun x => l.opened.length - x.1) ((0, s1, r1, k3)) ?_ ?_ ?_ ?_
    repeat' first | exact k0 | refine kw ?_ | refine kv ?_ ?_ | omega
    ·exact ⟨by simpa using hcl, by simp, hr1⟩
    rintro ⟨i, s3, r3, k4⟩ c4 ⟨hi3, hin, hr3⟩
    dsimp only at hi3 hin hr3 ⊢
    by_cases hlt : i < l.opened.length
    ·obtain ⟨cc, hv⟩ := gx hlt
     rw [Ay hv, closeLev] at hi3
     rcases BL cc s3 with ⟨i0, v, g1, g2, _, g4, _⟩ | ⟨g1, g2, _, g4, _⟩
     ·rw [g4] at hi3
      by_cases hz : v = 0
      ·have hn : BI cc s3 r3 = r3 := by rw [BI, g2, if_pos hz]
       rw [hn, if_neg (by omega)] at hi3
       repeat' first | refine kz ?_ | refine AX hv ?_ | refine Aw ?_ | refine Cs (Be g1) ⟨_, rfl⟩ (AK _) ?_ | refine B4 (Be g1) ⟨_, rfl⟩ (AK _) ?_ | refine kf ?_ | refine kg ?_ ?_ | exact k0 | refine Ab ?_ | refine m1 ?_ ?_
       rw [Ec]
       generalize s3.eraseIdx i0 = s4 at hi3 ⊢
       apply Ad ((i + 1, s4, r3, k4)) <;> (try dsimp only) <;> try repeat' first | exact k0 | refine kw ?_ | refine kv ?_ ?_ | omega
       exact ⟨hi3, by omega, hr3⟩
      ·have hn : BI cc s3 r3 = r3 ++ [(cc, v)] := by rw [BI, g2, if_neg hz]
       rw [hn] at hi3
       have hl4 : (r3 ++ [(cc, v)]).length = r3.length + 1 := by simp
       have hl5 : r3.length + [[CL cc, Dat.lit (Value.int .i64 v)]].length = (r3 ++ [(cc, v)]).length := by simp
       have hm4 : r3.map F5 ++ [[CL cc, Dat.lit (Value.int .i64 v)]] = (r3 ++ [(cc, v)]).map F5 := by rw [Ah']; rfl
       have hlen3 : ¬ 4096 < (r3 ++ [(cc, v)]).length := fun q => by rw [if_pos q] at hi3; cases hi3
       rw [if_neg hlen3] at hi3
       repeat' first | refine kz ?_ | refine AX hv ?_ | refine Aw ?_ | refine Cs (Be g1) ⟨_, rfl⟩ (AK _) ?_ | refine B4 (Be g1) ⟨_, rfl⟩ (AK _) ?_ | refine kf ?_ | refine kg ?_ ?_ | exact k0 | refine Ab ?_ | refine m1 ?_ ?_
       rw [Ec, hm4, hl5]
       generalize s3.eraseIdx i0 = s4 at hi3 ⊢
       generalize r3 ++ [(cc, v)] = r4 at hi3 hl4 hlen3 ⊢
       apply Ad ((i + 1, s4, r4, c4 + 1)) <;> (try dsimp only) <;> try repeat' first | exact k0 | refine kw ?_ | refine kv ?_ ?_ | omega
       exact ⟨hi3, by omega, by omega⟩
     ·rw [g4] at hi3
      have hn : BI cc s3 r3 = r3 := by rw [BI, g2, if_pos rfl]
      rw [hn, if_neg (by omega)] at hi3
      repeat' first | refine kz ?_ | refine AX hv ?_ | refine Aw ?_ | refine FM (Dy g1) ⟨_, rfl⟩ (AK _) ?_ | refine E4 (Dy g1) ⟨_, rfl⟩ (AK _) ?_ | refine kf ?_ | refine kg ?_ ?_ | exact k0 | refine Ab ?_ | refine m1 ?_ ?_
      apply Ad ((i + 1, s3, r3, k4)) <;> (try dsimp only) <;> try repeat' first | exact k0 | refine kw ?_ | refine kv ?_ ?_ | omega
      exact ⟨hi3, by omega, hr3⟩
    ·have hie : i = l.opened.length := by omega
     subst hie
     rw [XR, closeLev] at hi3
     simp only [Option.some.injEq, Gk] at hi3
     obtain ⟨rfl, rfl⟩ := hi3
     repeat' first | refine kz ?_ | refine Aw ?_ | refine kf ?_ | refine kg ?_ ?_ | exact k0 | refine Ab ?_ | refine m1 ?_ ?_
     apply Ad ((st2, s3, r3, [l.d], k1, k4)) <;> (try dsimp only) <;> try repeat' first | exact k0 | refine kw ?_ | refine kv ?_ ?_ | omega
     ·rw [Ah']; rfl
     ·exact ⟨hinv, by omega, hop2, hr3⟩
theorem Ld (code : Bs) (st : List Lev) (s r : List (Bs × Int)) (st' : List Lev) (s' r' : List (Bs × Int)) (h : closeE code st.reverse s r = some (st'.reverse, s', r')) (hst : st.length ≤ 100000) (hop : ∀ l ∈ st, l.opened.length ≤ 100000) (hr : r.length ≤ 4096) :
  HC 195 [.c (.bp 0 0 0), .c (.d (CL code))] (jm st s r) (.c (.d (.lit (.bool true)))) (bY st' s' r') := by
 by_cases hc : code = []
 ·subst hc; exact Rw st s r st' s' r' h hst hop hr
 ·exact Ug code hc st s r st' s' r' h hst hop hr
theorem Le (code : Bs) (st : List Lev) (s r : List (Bs × Int)) (h : closeE code st.reverse s r = none) (hst : st.length ≤ 100000) (hop : ∀ l ∈ st, l.opened.length ≤ 100000) (hr : r.length ≤ 4096) :
  HC 195 [.c (.bp 0 0 0), .c (.d (CL code))] (jm st s r) (.c (.d (.lit (.bool false)))) [.dead, .dead, .dead, .dead] := by
 by_cases hc : code = []
 ·subst hc; exact Rx st s r h hst hop hr
 ·exact Uh code hc st s r h hst hop hr
def AV (x : Bs × Int) (q : List Bs × List (Bs × Int)) (y : Bs × Int) : List Bs × List (Bs × Int) :=
 (if Pl (x.1 ++ y.1) q.2 then q.1 else q.1 ++ [x.1 ++ y.1], Pm (x.1 ++ y.1) (JT (x.1 ++ y.1) q.2 + x.2 * y.2) q.2)
def YJ (M : Int) (s : List (Bs × Int)) : Prop := ∀ e ∈ s, -M ≤ e.2 ∧ e.2 ≤ M
theorem Ui (a b : Bs) : (⟨a.toArray⟩ : ByteArray) ++ (⟨b.toArray⟩ : ByteArray) = ⟨(a ++ b).toArray⟩ := by
 apply ByteArray.ext
 simp
theorem N1 (x : Bs × Int) (q : List Bs × List (Bs × Int)) (y : Bs × Int) : (AV x q y).1.length ≤ q.1.length + 1 := by
 unfold AV
 split <;> simp
theorem Iu {x : Bs × Int} {q : List Bs × List (Bs × Int)} {y : Bs × Int} {M K : Int} (h : YJ M q.2) (hk : -K ≤ x.2 * y.2 ∧ x.2 * y.2 ≤ K) (hM : 0 ≤ M) : YJ (M + K) (AV x q y).2 := by
 unfold AV
 rcases BL (x.1 ++ y.1) q.2 with ⟨i, v, g1, g2, _, _, g5⟩ | ⟨_, g2, _, _, g5⟩
 ·have hv := h _ (Cl g1)
  simp only [g5, g2]
  intro e he
  rcases Zs he with he | rfl
  ·have := h e he; omega
  ·simp only at hv ⊢; omega
 ·simp only [g5, g2]
  intro e he
  rcases Ej.1 he with he | he
  ·have := h e he; omega
  ·obtain rfl := IT.1 he
   simp only; omega
theorem YK (x : Bs × Int) (ps : List (Bs × Int)) (st : List Lev) (s r : List (Bs × Int)) (h : closeE x.1 st.reverse s r = none) (hst : st.length ≤ 100000) (hop : ∀ l ∈ st, l.opened.length ≤ 100000) (hr : r.length ≤ 4096) :
  HC 194 [.c (.bp 0 0 0), .agg ((F5 x).map .d), .c (.d (.sl (ps.map F5)))] (jm st s r) (.c (.d (.lit (.bool false)))) [.dead, .dead, .dead, .dead] := by
 have hcl := Le x.1 st s r h hst hop hr
 refine AI hT Tryz.func194 Tryz.ntmps194 [.tmp 6] fun B => ?_
 repeat' first | refine kz ?_ | refine Ah [0, 1, 2, 3] (hcl) ?_ | refine kg ?_ ?_ | exact k0 | refine Ab ?_
theorem YL (u : Bs × Int) (ps : List (Bs × Int)) (st : List Lev) (s r : List (Bs × Int)) (st' : List Lev) (s' r' : List (Bs × Int)) (h : closeE u.1 st.reverse s r = some (st'.reverse, s', r')) (hst : st.length ≤ 100000) (hst' : st'.length ≤ 100000) (hop : ∀ l ∈ st, l.opened.length ≤ 100000) (hr : r.length ≤ 4096)
  (hpl : ps.length ≤ 100000) (M : Int) (hM : 0 ≤ M) (hb : YJ M s') (hk : ∀ y ∈ ps, -68719476736 ≤ u.2 * y.2 ∧ u.2 * y.2 ≤ 68719476736) (hMb : M + 68719476736 * ps.length ≤ 2305843009213693952) (hxl : u.1.length ≤ 100000) (hyl : ∀ y ∈ ps, y.1.length ≤ 100000) :
  HC 194 [.c (.bp 0 0 0), .agg ((F5 u).map .d), .c (.d (.sl (ps.map F5)))] (jm st s r) (.c (.d (.lit (.bool true)))) (bY (st' ++ [⟨u.1, (ps.foldl (AV u) ([], s')).1⟩]) (ps.foldl (AV u) ([], s')).2 r') := by
 have hcl := Ld u.1 st s r st' s' r' h hst hop hr
 refine AI hT Tryz.func194 Tryz.ntmps194 [.tmp 6] fun B => ?_
 repeat' first | refine kz ?_ | refine Aw ?_ | refine Ah [0, 1, 2, 3] (hcl) ?_ | refine kg ?_ ?_ | exact k0 | refine Ab ?_ | refine m1 ?_ ?_ | refine m2 ?_ ?_
 refine Cr 7 9 1 ?_
 refine A0 (X := Nat × List Bs × List (Bs × Int) × Nat) ([7] ++ List.range' 9 4 ++ List.range' 20 37) (fun x => x.1 ≤ ps.length ∧ (ps.take x.1).foldl (AV u) ([], s') = (x.2.1, x.2.2.1) ∧ x.2.1.length ≤ x.1 ∧ YJ (M + 68719476736 * x.1) x.2.2.1) (fun x lz => (7, .c (.arr 5 x.2.2.2 x.2.1.length)) :: (20, (iC x.1)) :: lz) (fun x => [.box 0 [.arr 1 2 st'.length, .mp 2 0, .arr 3 2 r'.length], .arr 2 232 2 (st'.map Lev.d), .mapb 0 9 2 (x.2.2.1.map JR), .arr 2 200 2 (r'.map F5), .box 1 [.d (CL u.1), .d (.lit (.int .i64 u.2))], .arr x.2.2.2 9 1 (x.2.1.map fun c => [CL c])]) (fun x => ps.length - x.1) ((0, [], s', 3)) ?_ ?_ ?_ ?_
 repeat' first | exact k0 | refine kw ?_ | refine kv ?_ ?_ | omega
 ·exact ⟨by omega, by simp, by simp, by simpa using hb⟩
 rintro ⟨i, op, s1, k5⟩ c ⟨hi, hinv, hol, hb1⟩
 dsimp only at hi hinv hol hb1 ⊢
 by_cases hlt : i < ps.length
 ·have hv : ps[i]? = some ps[i] := Bh hlt
  have hyk := hk _ (Fp hlt)
  have hyl1 := hyl _ (Fp hlt)
  generalize ps[i] = y at hv hyk hyl1
  have htk : (ps.take (i + 1)).foldl (AV u) ([], s') = AV u (op, s1) y := by rw [IU, hv, List.foldl_append, hinv]; rfl
  have hb2 := Iu (x := u) (q := (op, s1)) (y := y) (K := 68719476736) hb1 hyk (by omega)
  have hcat := Ui u.1 y.1
  have hsz1 := EA u.1
  have hsz2 := EA y.1
  have hbd : -(M + 68719476736 * i) - 1 ≤ JT (u.1 ++ y.1) s1 ∧ JT (u.1 ++ y.1) s1 ≤ M + 68719476736 * i + 1 := by
    rcases BL (u.1 ++ y.1) s1 with ⟨j, v, g1, g2, _⟩ | ⟨_, g2, _⟩
    ·have := hb1 _ (Cl g1); simp only at this; rw [g2]; omega
    ·rw [g2]; omega
  have hmi : M + 68719476736 * i ≤ 2305843009213693952 := by omega
  unfold AV at htk hb2
  rcases BL (u.1 ++ y.1) s1 with ⟨j, v, g1, g2, g3, _, g5⟩ | ⟨g1, g2, g3, _, g5⟩
  · rw [g2] at hbd
    simp only [g2, g3, g5, if_true] at htk hb2
    have g1' := Be g1
    rw [← hcat] at g1'
    repeat' first | refine kz ?_ | refine AX hv ?_ | refine Aw ?_ | refine UA g1' ⟨_, rfl⟩ (AK _) ?_ | refine RN g1' ⟨_, rfl⟩ (AK _) ?_ | refine kg ?_ ?_ | exact k0 | refine Ab ?_ | refine m1 ?_ ?_ | refine m2 ?_ ?_
    rw [hcat, Wh]
    generalize s1.set j (u.1 ++ y.1, v + u.2 * y.2) = s4 at htk hb2 ⊢
    apply Ad ((i + 1, op, s4, k5)) <;> (try dsimp only) <;> try repeat' first | exact k0 | refine kw ?_ | refine kv ?_ ?_ | omega
    exact ⟨by omega, htk, by omega, by have := hb2; rw [show M + 68719476736 * (i : Int) + 68719476736 = M + 68719476736 * ((i + 1 : Nat) : Int) by omega] at this; exact this⟩
  · rw [g2] at hbd
    simp only [g2, g3, g5, if_false, Bool.false_eq_true] at htk hb2
    have g1' := Dy g1
    rw [← hcat] at g1'
    have hl5 : op.length + [[Dat.lit (Value.string ⟨(u.1 ++ y.1).toArray⟩)]].length = (op ++ [u.1 ++ y.1]).length := by simp
    have hm4 : (op.map fun c => [CL c]) ++ [[Dat.lit (Value.string ⟨(u.1 ++ y.1).toArray⟩)]] = (op ++ [u.1 ++ y.1]).map fun c => [CL c] := by rw [Ah']; rfl
    repeat' first | refine kz ?_ | refine AX hv ?_ | refine Aw ?_ | refine RL g1' ⟨_, rfl⟩ (AK _) ?_ | refine RM g1' ⟨_, rfl⟩ (AK _) ?_ | refine kg ?_ ?_ | exact k0 | refine Ab ?_ | refine m1 ?_ ?_ | refine m2 ?_ ?_
    rw [hcat, Uj, hm4, hl5]
    have hol2 : (op ++ [u.1 ++ y.1]).length ≤ i + 1 := by simp; omega
    generalize s1 ++ [(u.1 ++ y.1, 0 + u.2 * y.2)] = s4 at htk hb2 ⊢
    generalize op ++ [u.1 ++ y.1] = op4 at htk hol2 ⊢
    apply Ad ((i + 1, op4, s4, c + 2)) <;> (try dsimp only) <;> try repeat' first | exact k0 | refine kw ?_ | refine kv ?_ ?_ | omega
    exact ⟨by omega, htk, by omega, by have := hb2; rw [show M + 68719476736 * (i : Int) + 68719476736 = M + 68719476736 * ((i + 1 : Nat) : Int) by omega] at this; exact this⟩
 ·have hie : i = ps.length := by omega
  subst hie
  rw [PK] at hinv
  rw [hinv]
  repeat' first | refine Bc 7 ?_ (hes := show (op.map fun c => [CL c]).take op.length = op.map fun c => [CL c] from Mq (by simp)) | refine kz ?_ | refine Aw ?_ | refine Bb Ae ?_ ?_ | exact k0 | refine Ab ?_ | refine m1 ?_ ?_ | refine m2 ?_ ?_
  · simp only [CP, QK]; rfl
  · rw [Ah']; rfl
end Go.Proofs.YtmpgmjlanngkfaaGreat
end
