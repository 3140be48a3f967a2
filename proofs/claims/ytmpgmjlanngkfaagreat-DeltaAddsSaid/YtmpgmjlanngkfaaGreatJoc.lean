/-
  Algebra: the joiner's sums are made final: up to a row, with room.
-/
import Derived.Test.YtmpgmjlanngkfaaGreatJoh
section
namespace Go.Proofs.YtmpgmjlanngkfaaGreat
open Go.Abs Go.RowKit
attribute [local irreducible] ARun Au MCall PCall HCall Ak SF CF CFs Af Ag Ar fin AP VLe
set_option linter.unusedSimpArgs false
set_option maxRecDepth 100000
set_option maxHeartbeats 4000000
theorem Uh (code : Bs) (hc : code ≠ []) (st : List Lev) (s r : List (Bs × Int)) (h : closeE code st.reverse s r = none) (hst : st.length ≤ 100000) (hop : ∀ l ∈ st, l.opened.length ≤ 100000) (hr : r.length ≤ 4096) :
  HC 195 [.c (.bp 0 0 0), .c (.d (CL code))] (jm st s r) (.c (.d (.lit (.bool false)))) [.dead, .dead, .dead, .dead] := by
 have hcn : ((⟨(code : Bs).toArray⟩ : ByteArray).toList == ({ data := #[] } : ByteArray).toList) = false := by rw [E2]; simp [hc]
 refine AI hT Tryz.func195 Tryz.ntmps195 [.tmp 4] fun B => ?_
 repeat' first | refine kz ?_ | refine Aw ?_ | refine Aq rfl rfl (fun hb => ?_) (fun hb => ?_) | refine kg ?_ ?_ | exact k0 | refine Ab ?_ | refine m1 ?_ ?_ | refine AB ?_
 refine A0 (X := List Lev × List (Bs × Int) × List (Bs × Int) × List (List Dat) × Nat × Nat) ([4, 5] ++ List.range' 7 81) (fun x => closeE code x.1.reverse x.2.1 x.2.2.1 = none ∧ x.1.length ≤ 100000 ∧ (∀ l ∈ x.1, l.opened.length ≤ 100000) ∧ x.2.2.1.length ≤ 4096) (fun x lz => lz) (fun x => [.box 0 [.arr 1 x.2.2.2.2.1 x.1.length, .mp 2 0, .arr 3 x.2.2.2.2.2 x.2.2.1.length], .arr x.2.2.2.2.1 232 2 (x.1.map Lev.d ++ x.2.2.2.1), .mapb 0 9 2 (x.2.1.map JR), .arr x.2.2.2.2.2 200 2 (x.2.2.1.map F5)]) (fun x => x.1.length) ((st, s, r, [], 0, 0)) ?_ ?_ ?_ ?_
 repeat' first | exact k0 | refine kw ?_ | refine kv ?_ ?_ | omega
 ·simp
 ·exact ⟨h, hst, hop, hr⟩
 rintro ⟨st1, s1, r1, tl, k1, k3⟩ c ⟨hinv, hl1, hop1, hr1⟩
 dsimp only at hinv hl1 hop1 hr1 ⊢
 refine QA 1 st1.length ?_ (show (st1.map Lev.d ++ tl).take st1.length = st1.map Lev.d by rw [bC (by simp)]; exact Mq (by simp))
 rcases Ed st1 with rfl | ⟨st2, l, rfl⟩
 ·simp only [List.reverse_nil, closeE] at hinv
  cases hinv
 ·have hl2 : st2.length + 1 ≤ 100000 := by simpa using hl1
  have hlen : (st2 ++ [l]).length = st2.length + 1 := by simp
  have he : ((st2 ++ [l]).map Lev.d)[(((st2 ++ [l]).length : Int) - 1).toNat]? = some l.d := by
   rw [hlen, show (((st2.length + 1 : Nat) : Int) - 1).toNat = st2.length by omega, Ah']; exact He _ _ (by simp)
  have hop2 : ∀ l ∈ st2, l.opened.length ≤ 100000 := fun l hl => hop1 l (by simp [hl])
  have hlo := hop1 l (by simp)
  rw [bO, bG, bI, closeE] at hinv
  have hp := MW ⟨code.toArray⟩ ⟨l.code.toArray⟩
  rw [Iq] at hp
  by_cases hcp : l.code.isPrefixOf code = true
  ·rw [if_pos ⟨hc, hcp⟩] at hinv
   cases hinv
  ·rw [if_neg (fun q => hcp q.2)] at hinv
   have hcp : l.code.isPrefixOf code = false := Bool.eq_false_iff.2 hcp
   rw [hcp] at hp
   generalize hcl : closeLev l.opened s1 r1 = q at hinv
   repeat' first | (exfalso; rw [hcn] at hb; cases hb; done) | refine DS (m' := st2.length) ?_ (hm' := by omega) | refine kz ?_ | refine AX he ?_ | refine Aw ?_ | refine Aa (hp) ?_ | refine Aq rfl rfl (fun hb => ?_) (fun hb => ?_) | refine Bb Ae ?_ ?_ | exact k0 | refine Ab ?_ | refine m1 ?_ ?_ | refine AB ?_
   refine A0 (X := Nat × List (Bs × Int) × List (Bs × Int) × Nat) ([4, 7, 8] ++ List.range' 52 36) (fun x => closeLev (l.opened.drop x.1) x.2.1 x.2.2.1 = q ∧ x.1 ≤ l.opened.length ∧ x.2.2.1.length ≤ 4096) (fun x lz => (52, (iC x.1)) :: lz) (fun x => [.box 0 [.arr 1 k1 st2.length, .mp 2 0, .arr 3 x.2.2.2 x.2.2.1.length], .arr k1 232 2 ((st2 ++ [l]).map Lev.d), .mapb 0 9 2 (x.2.1.map JR), .arr x.2.2.2 200 2 (x.2.2.1.map F5)]) (fun x => l.opened.length - x.1) ((0, s1, r1, k3)) ?_ ?_ ?_ ?_
   repeat' first | exact k0 | refine kw ?_ | refine kv ?_ ?_ | omega
   ·exact ⟨by simpa using hcl, by simp, hr1⟩
   rintro ⟨i, s3, r3, k4⟩ c4 ⟨hi3, hin, hr3⟩
   dsimp only at hi3 hin hr3 ⊢
   by_cases hlt : i < l.opened.length
   ·obtain ⟨cc, hv⟩ := gx hlt
    rw [Ay hv, closeLev] at hi3
    rcases BL cc s3 with ⟨i0, v, g1, g2, _, g4, _⟩ | ⟨g1, g2, _, g4, _⟩
    ·rw [g4] at hi3
     by_cases hz : v = 0
     ·have hn : BI cc s3 r3 = r3 := by rw [BI, g2, if_pos hz]
      rw [hn, if_neg (by omega)] at hi3
      repeat' first | refine kz ?_ | refine AX hv ?_ | refine Aw ?_ | refine Cs (Be g1) ⟨_, rfl⟩ (AK _) ?_ | refine B4 (Be g1) ⟨_, rfl⟩ (AK _) ?_ | refine Aq rfl rfl (fun hb => ?_) (fun hb => ?_) | refine kg ?_ ?_ | exact k0 | refine Ab ?_ | refine m1 ?_ ?_ | refine AB ?_
      rw [Ec]
      generalize s3.eraseIdx i0 = s4 at hi3 ⊢
      apply Ad ((i + 1, s4, r3, k4)) <;> (try dsimp only) <;> try repeat' first | exact k0 | refine kw ?_ | refine kv ?_ ?_ | omega
      exact ⟨hi3, by omega, hr3⟩
     ·have hn : BI cc s3 r3 = r3 ++ [(cc, v)] := by rw [BI, g2, if_neg hz]
      rw [hn] at hi3
      have hl4 : (r3 ++ [(cc, v)]).length = r3.length + 1 := by simp
      have hl5 : r3.length + [[CL cc, Dat.lit (Value.int .i64 v)]].length = (r3 ++ [(cc, v)]).length := by simp
      have hm4 : r3.map F5 ++ [[CL cc, Dat.lit (Value.int .i64 v)]] = (r3 ++ [(cc, v)]).map F5 := by rw [Ah']; rfl
      by_cases hlen3 : 4096 < (r3 ++ [(cc, v)]).length
      ·repeat' first | refine kz ?_ | refine AX hv ?_ | refine Aw ?_ | refine Cs (Be g1) ⟨_, rfl⟩ (AK _) ?_ | refine B4 (Be g1) ⟨_, rfl⟩ (AK _) ?_ | refine Aq rfl rfl (fun hb => ?_) (fun hb => ?_) | refine kg ?_ ?_ | exact k0 | refine Ab ?_ | refine m1 ?_ ?_ | refine AB ?_
      rw [if_neg hlen3] at hi3
      repeat' first | refine kz ?_ | refine AX hv ?_ | refine Aw ?_ | refine Cs (Be g1) ⟨_, rfl⟩ (AK _) ?_ | refine B4 (Be g1) ⟨_, rfl⟩ (AK _) ?_ | refine Aq rfl rfl (fun hb => ?_) (fun hb => ?_) | refine kg ?_ ?_ | exact k0 | refine Ab ?_ | refine m1 ?_ ?_ | refine AB ?_
      rw [Ec, hm4, hl5]
      generalize s3.eraseIdx i0 = s4 at hi3 ⊢
      generalize r3 ++ [(cc, v)] = r4 at hi3 hl4 hlen3 ⊢
      apply Ad ((i + 1, s4, r4, c4 + 1)) <;> (try dsimp only) <;> try repeat' first | exact k0 | refine kw ?_ | refine kv ?_ ?_ | omega
      exact ⟨hi3, by omega, by omega⟩
    ·rw [g4] at hi3
     have hn : BI cc s3 r3 = r3 := by rw [BI, g2, if_pos rfl]
     rw [hn, if_neg (by omega)] at hi3
     repeat' first | refine kz ?_ | refine AX hv ?_ | refine Aw ?_ | refine FM (Dy g1) ⟨_, rfl⟩ (AK _) ?_ | refine E4 (Dy g1) ⟨_, rfl⟩ (AK _) ?_ | refine Aq rfl rfl (fun hb => ?_) (fun hb => ?_) | refine kg ?_ ?_ | exact k0 | refine Ab ?_ | refine m1 ?_ ?_ | refine AB ?_
     apply Ad ((i + 1, s3, r3, k4)) <;> (try dsimp only) <;> try repeat' first | exact k0 | refine kw ?_ | refine kv ?_ ?_ | omega
     exact ⟨hi3, by omega, hr3⟩
   ·have hie : i = l.opened.length := by omega
    subst hie
    rw [XR, closeLev] at hi3
    subst hi3
    dsimp only at hinv
    repeat' first | refine kz ?_ | refine Aw ?_ | refine Aq rfl rfl (fun hb => ?_) (fun hb => ?_) | refine kg ?_ ?_ | exact k0 | refine Ab ?_ | refine m1 ?_ ?_ | refine AB ?_
    apply Ad ((st2, s3, r3, [l.d], k1, k4)) <;> (try dsimp only) <;> try repeat' first | exact k0 | refine kw ?_ | refine kv ?_ ?_ | omega
    ·rw [Ah']; rfl
    ·exact ⟨hinv, by omega, hop2, hr3⟩
theorem Ug (code : Bs) (hc : code ≠ []) (st : List Lev) (s r : List (Bs × Int)) (st' : List Lev) (s' r' : List (Bs × Int)) (h : closeE code st.reverse s r = some (st'.reverse, s', r')) (hst : st.length ≤ 100000) (hop : ∀ l ∈ st, l.opened.length ≤ 100000) (hr : r.length ≤ 4096) :
  HC 195 [.c (.bp 0 0 0), .c (.d (CL code))] (jm st s r) (.c (.d (.lit (.bool true)))) (bY st' s' r') := by
 have hcn : ((⟨(code : Bs).toArray⟩ : ByteArray).toList == ({ data := #[] } : ByteArray).toList) = false := by rw [E2]; simp [hc]
 refine AI hT Tryz.func195 Tryz.ntmps195 [.tmp 4] fun B => ?_
 repeat' first | refine kz ?_ | refine Aw ?_ | refine Aq rfl rfl (fun hb => ?_) (fun hb => ?_) | refine kg ?_ ?_ | exact k0 | refine Ab ?_ | refine m1 ?_ ?_
 refine A0 (X := List Lev × List (Bs × Int) × List (Bs × Int) × List (List Dat) × Nat × Nat) ([4, 5] ++ List.range' 7 81) (fun x => closeE code x.1.reverse x.2.1 x.2.2.1 = some (st'.reverse, s', r') ∧ x.1.length ≤ 100000 ∧ (∀ l ∈ x.1, l.opened.length ≤ 100000) ∧ x.2.2.1.length ≤ 4096) (fun x lz => lz) (fun x => [.box 0 [.arr 1 x.2.2.2.2.1 x.1.length, .mp 2 0, .arr 3 x.2.2.2.2.2 x.2.2.1.length], .arr x.2.2.2.2.1 232 2 (x.1.map Lev.d ++ x.2.2.2.1), .mapb 0 9 2 (x.2.1.map JR), .arr x.2.2.2.2.2 200 2 (x.2.2.1.map F5)]) (fun x => x.1.length) ((st, s, r, [], 0, 0)) ?_ ?_ ?_ ?_
 repeat' first | exact k0 | refine kw ?_ | refine kv ?_ ?_ | omega
 ·simp
 ·exact ⟨h, hst, hop, hr⟩
 rintro ⟨st1, s1, r1, tl, k1, k3⟩ c ⟨hinv, hl1, hop1, hr1⟩
 dsimp only at hinv hl1 hop1 hr1 ⊢
 refine QA 1 st1.length ?_ (show (st1.map Lev.d ++ tl).take st1.length = st1.map Lev.d by rw [bC (by simp)]; exact Mq (by simp))
 rcases Ed st1 with rfl | ⟨st2, l, rfl⟩
 ·simp only [List.reverse_nil, closeE, Option.some.injEq, Gk] at hinv
  obtain ⟨h1, rfl, rfl⟩ := hinv
  have h1 : st' = [] := by simpa using h1.symm
  subst h1
  dsimp only [List.length_nil, List.map_nil]
  repeat' first | refine kz ?_ | refine Aw ?_ | refine Aq rfl rfl (fun hb => ?_) (fun hb => ?_) | refine kg ?_ ?_ | exact k0 | refine Ab ?_ | refine m1 ?_ ?_
 ·have hl2 : st2.length + 1 ≤ 100000 := by simpa using hl1
  have hlen : (st2 ++ [l]).length = st2.length + 1 := by simp
  have he : ((st2 ++ [l]).map Lev.d)[(((st2 ++ [l]).length : Int) - 1).toNat]? = some l.d := by
   rw [hlen, show (((st2.length + 1 : Nat) : Int) - 1).toNat = st2.length by omega, Ah']; exact He _ _ (by simp)
  have hop2 : ∀ l ∈ st2, l.opened.length ≤ 100000 := fun l hl => hop1 l (by simp [hl])
  have hlo := hop1 l (by simp)
  rw [bO, bG, bI, closeE] at hinv
  have hp := MW ⟨code.toArray⟩ ⟨l.code.toArray⟩
  rw [Iq] at hp
  by_cases hcp : l.code.isPrefixOf code = true
  ·rw [if_pos ⟨hc, hcp⟩] at hinv
   simp only [Option.some.injEq, Gk] at hinv
   obtain ⟨h1, rfl, rfl⟩ := hinv
   have h1 : st' = st2 ++ [l] := by have := congrArg List.reverse h1; simpa using this.symm
   subst h1
   rw [hcp] at hp
   repeat' first | (exfalso; rw [hcn] at hb; cases hb; done) | refine DS (m' := st2.length) ?_ (hm' := by omega) | refine kz ?_ | refine AX he ?_ | refine Aw ?_ | refine Aa (hp) ?_ | refine Aq rfl rfl (fun hb => ?_) (fun hb => ?_) | refine Bb Ae ?_ ?_ | exact k0 | refine Ab ?_ | refine m1 ?_ ?_
  ·rw [if_neg (fun q => hcp q.2)] at hinv
   have hcp : l.code.isPrefixOf code = false := Bool.eq_false_iff.2 hcp
   rw [hcp] at hp
   cases hcl : closeLev l.opened s1 r1 with
   | none =>
     rw [hcl] at hinv; cases hinv
   | some q =>
     obtain ⟨s2, r2⟩ := q
     rw [hcl] at hinv
     have hr2 := Dz hcl hr1
     repeat' first | (exfalso; rw [hcn] at hb; cases hb; done) | refine DS (m' := st2.length) ?_ (hm' := by omega) | refine kz ?_ | refine AX he ?_ | refine Aw ?_ | refine Aa (hp) ?_ | refine Aq rfl rfl (fun hb => ?_) (fun hb => ?_) | refine Bb Ae ?_ ?_ | exact k0 | refine Ab ?_ | refine m1 ?_ ?_
     refine A0 (X := Nat × List (Bs × Int) × List (Bs × Int) × Nat) ([4, 7, 8] ++ List.range' 52 36) (fun x => closeLev (l.opened.drop x.1) x.2.1 x.2.2.1 = some (s2, r2) ∧ x.1 ≤ l.opened.length ∧ x.2.2.1.length ≤ 4096) (fun x lz => (52, (iC x.1)) :: lz) (fun x => [.box 0 [.arr 1 k1 st2.length, .mp 2 0, .arr 3 x.2.2.2 x.2.2.1.length], .arr k1 232 2 ((st2 ++ [l]).map Lev.d), .mapb 0 9 2 (x.2.1.map JR), .arr x.2.2.2 200 2 (x.2.2.1.map F5)]) (fun x => l.opened.length - x.1) ((0, s1, r1, k3)) ?_ ?_ ?_ ?_
     repeat' first | exact k0 | refine kw ?_ | refine kv ?_ ?_ | omega
     ·exact ⟨by simpa using hcl, by simp, hr1⟩
     rintro ⟨i, s3, r3, k4⟩ c4 ⟨hi3, hin, hr3⟩
     dsimp only at hi3 hin hr3 ⊢
     by_cases hlt : i < l.opened.length
     ·obtain ⟨cc, hv⟩ := gx hlt
      rw [Ay hv, closeLev] at hi3
      rcases BL cc s3 with ⟨i0, v, g1, g2, _, g4, _⟩ | ⟨g1, g2, _, g4, _⟩
      ·rw [g4] at hi3
       by_cases hz : v = 0
       ·have hn : BI cc s3 r3 = r3 := by rw [BI, g2, if_pos hz]
        rw [hn, if_neg (by omega)] at hi3
        repeat' first | refine kz ?_ | refine AX hv ?_ | refine Aw ?_ | refine Cs (Be g1) ⟨_, rfl⟩ (AK _) ?_ | refine B4 (Be g1) ⟨_, rfl⟩ (AK _) ?_ | refine Aq rfl rfl (fun hb => ?_) (fun hb => ?_) | refine kg ?_ ?_ | exact k0 | refine Ab ?_ | refine m1 ?_ ?_
        rw [Ec]
        generalize s3.eraseIdx i0 = s4 at hi3 ⊢
        apply Ad ((i + 1, s4, r3, k4)) <;> (try dsimp only) <;> try repeat' first | exact k0 | refine kw ?_ | refine kv ?_ ?_ | omega
        exact ⟨hi3, by omega, hr3⟩
       ·have hn : BI cc s3 r3 = r3 ++ [(cc, v)] := by rw [BI, g2, if_neg hz]
        rw [hn] at hi3
        have hl4 : (r3 ++ [(cc, v)]).length = r3.length + 1 := by simp
        have hl5 : r3.length + [[CL cc, Dat.lit (Value.int .i64 v)]].length = (r3 ++ [(cc, v)]).length := by simp
        have hm4 : r3.map F5 ++ [[CL cc, Dat.lit (Value.int .i64 v)]] = (r3 ++ [(cc, v)]).map F5 := by rw [Ah']; rfl
        have hlen3 : ¬ 4096 < (r3 ++ [(cc, v)]).length := fun q => by rw [if_pos q] at hi3; cases hi3
        rw [if_neg hlen3] at hi3
        repeat' first | refine kz ?_ | refine AX hv ?_ | refine Aw ?_ | refine Cs (Be g1) ⟨_, rfl⟩ (AK _) ?_ | refine B4 (Be g1) ⟨_, rfl⟩ (AK _) ?_ | refine Aq rfl rfl (fun hb => ?_) (fun hb => ?_) | refine kg ?_ ?_ | exact k0 | refine Ab ?_ | refine m1 ?_ ?_
        rw [Ec, hm4, hl5]
        generalize s3.eraseIdx i0 = s4 at hi3 ⊢
        generalize r3 ++ [(cc, v)] = r4 at hi3 hl4 hlen3 ⊢
        apply Ad ((i + 1, s4, r4, c4 + 1)) <;> (try dsimp only) <;> try repeat' first | exact k0 | refine kw ?_ | refine kv ?_ ?_ | omega
        exact ⟨hi3, by omega, by omega⟩
      ·rw [g4] at hi3
       have hn : BI cc s3 r3 = r3 := by rw [BI, g2, if_pos rfl]
       rw [hn, if_neg (by omega)] at hi3
       repeat' first | refine kz ?_ | refine AX hv ?_ | refine Aw ?_ | refine FM (Dy g1) ⟨_, rfl⟩ (AK _) ?_ | refine E4 (Dy g1) ⟨_, rfl⟩ (AK _) ?_ | refine Aq rfl rfl (fun hb => ?_) (fun hb => ?_) | refine kg ?_ ?_ | exact k0 | refine Ab ?_ | refine m1 ?_ ?_
       apply Ad ((i + 1, s3, r3, k4)) <;> (try dsimp only) <;> try repeat' first | exact k0 | refine kw ?_ | refine kv ?_ ?_ | omega
       exact ⟨hi3, by omega, hr3⟩
     ·have hie : i = l.opened.length := by omega
      subst hie
      rw [XR, closeLev] at hi3
      simp only [Option.some.injEq, Gk] at hi3
      obtain ⟨rfl, rfl⟩ := hi3
      repeat' first | refine kz ?_ | refine Aw ?_ | refine Aq rfl rfl (fun hb => ?_) (fun hb => ?_) | refine kg ?_ ?_ | exact k0 | refine Ab ?_ | refine m1 ?_ ?_
      apply Ad ((st2, s3, r3, [l.d], k1, k4)) <;> (try dsimp only) <;> try repeat' first | exact k0 | refine kw ?_ | refine kv ?_ ?_ | omega
      ·rw [Ah']; rfl
      ·exact ⟨hinv, by omega, hop2, hr3⟩
end Go.Proofs.YtmpgmjlanngkfaaGreat
end
