/-
  Algebra: the joiner's sums are made final: up to a row, with room.
-/
import Derived.Test.YtmpgmjlanngkfaaGreatJod
section
namespace Go.Proofs.YtmpgmjlanngkfaaGreat
open Go.Abs Go.RowKit
attribute [local irreducible] ARun At MCall PCall HCall Am SF CF CFs Ah Aj Ar fin AW VLe
set_option linter.unusedSimpArgs false
set_option maxRecDepth 100000
set_option maxHeartbeats 4000000
theorem TF (code : Bs) (hc : code ≠ []) (st : List Lev) (s r : List (Bs × Int)) (st' : List Lev) (s' r' : List (Bs × Int)) (h : closeE code st.reverse s r = some (st'.reverse, s', r')) (hst : st.length ≤ 100000) (hop : ∀ l ∈ st, l.opened.length ≤ 100000) (hr : r.length ≤ 4096) :
  HCall Tryz.prog 195 [.c (.bp 0 0 0), .c (.d (CY code))] (jm st s r) (.c (.d (.lit (.bool true)))) (ZK st' s' r') := by
 have hcn : ((⟨(code : Bs).toArray⟩ : ByteArray).toList == ({ data := #[] } : ByteArray).toList) = false := by rw [Fd]; simp [hc]
 refine As hT Tryz.func195 Tryz.ntmps195 [.tmp 4] fun B => ?_
 repeat' (first | refine kz ?_ | refine ki ?_ | refine Ai rfl rfl (fun hb => ?_) (fun hb => ?_) | refine kg ?_ ?_ | exact k0 | refine Ab ?_ | refine m1 ?_ ?_)
 refine AO (X := List Lev × List (Bs × Int) × List (Bs × Int) × List (List Dat) × Nat × Nat) [4, 5, 7, 8, 9, 10, 11, 12, 13, 14, 15, 16, 17, 18, 19, 20, 21, 22, 23, 24, 25, 26, 27, 28, 29, 30, 31, 32, 33, 34, 35, 36, 37, 38, 39, 40, 41, 42, 43, 44, 45, 46, 47, 48, 49, 50, 51, 52, 53, 54, 55, 56, 57, 58, 59, 60, 61, 62, 63, 64, 65, 66, 67, 68, 69, 70, 71, 72, 73, 74, 75, 76, 77, 78, 79, 80, 81, 82, 83, 84, 85, 86, 87] (fun x => closeE code x.1.reverse x.2.1 x.2.2.1 = some (st'.reverse, s', r') ∧ x.1.length ≤ 100000 ∧ (∀ l ∈ x.1, l.opened.length ≤ 100000) ∧ x.2.2.1.length ≤ 4096) (fun x lz => lz) (fun x => [.box 0 [.arr 1 x.2.2.2.2.1 x.1.length, .mp 2 0, .arr 3 x.2.2.2.2.2 x.2.2.1.length], .arr x.2.2.2.2.1 232 2 (x.1.map Lev.d ++ x.2.2.2.1), .mapb 0 9 2 (x.2.1.map JP), .arr x.2.2.2.2.2 200 2 (x.2.2.1.map Gr)]) (fun x => x.1.length) ((st, s, r, [], 0, 0)) ?_ ?_ ?_ ?_
 repeat' (first | exact k0 | refine kw ?_ | refine kv ?_ ?_ | omega)
 ·simp
 ·exact ⟨h, hst, hop, hr⟩
 rintro ⟨st1, s1, r1, tl, k1, k3⟩ c ⟨hinv, hl1, hop1, hr1⟩
 dsimp only at hinv hl1 hop1 hr1 ⊢
 refine Qo 1 st1.length ?_ (show (st1.map Lev.d ++ tl).take st1.length = st1.map Lev.d by rw [List.take_append_of_le_length (by simp)]; exact List.take_of_length_le (by simp))
 rcases Ep st1 with rfl | ⟨st2, l, rfl⟩
 ·simp only [List.reverse_nil, closeE, Option.some.injEq, Prod.mk.injEq] at hinv
  obtain ⟨h1, rfl, rfl⟩ := hinv
  have h1 : st' = [] := by simpa using h1.symm
  subst h1
  dsimp only [List.length_nil, List.map_nil]
  repeat' (first | refine kz ?_ | refine ki ?_ | refine Ai rfl rfl (fun hb => ?_) (fun hb => ?_) | refine kg ?_ ?_ | exact k0 | refine Ab ?_ | refine m1 ?_ ?_)
 ·have hl2 : st2.length + 1 ≤ 100000 := by simpa using hl1
  have hlen : (st2 ++ [l]).length = st2.length + 1 := by simp
  have he : ((st2 ++ [l]).map Lev.d)[(((st2 ++ [l]).length : Int) - 1).toNat]? = some l.d := by
   rw [hlen, show (((st2.length + 1 : Nat) : Int) - 1).toNat = st2.length by omega, List.map_append]; exact HA _ _ (by simp)
  have hop2 : ∀ l ∈ st2, l.opened.length ≤ 100000 := fun l hl => hop1 l (by simp [hl])
  have hlo := hop1 l (by simp)
  rw [List.reverse_append, List.reverse_singleton, List.singleton_append, closeE] at hinv
  have hp := MC ⟨code.toArray⟩ ⟨l.code.toArray⟩
  rw [IB] at hp
  by_cases hcp : l.code.isPrefixOf code = true
  ·rw [if_pos ⟨hc, hcp⟩] at hinv
   simp only [Option.some.injEq, Prod.mk.injEq] at hinv
   obtain ⟨h1, rfl, rfl⟩ := hinv
   have h1 : st' = st2 ++ [l] := by have := congrArg List.reverse h1; simpa using this.symm
   subst h1
   rw [hcp] at hp
   repeat' (first | (exfalso; rw [hcn] at hb; cases hb; done) | refine D5 (m' := st2.length) ?_ (hm' := by omega) | refine kz ?_ | refine kx he ?_ | refine ki ?_ | refine Aa (hp) ?_ | refine Ai rfl rfl (fun hb => ?_) (fun hb => ?_) | refine AX Af ?_ ?_ | exact k0 | refine Ab ?_ | refine m1 ?_ ?_)
  ·rw [if_neg (fun q => hcp q.2)] at hinv
   have hcp : l.code.isPrefixOf code = false := Bool.eq_false_iff.2 hcp
   rw [hcp] at hp
   cases hcl : closeLev l.opened s1 r1 with
   | none =>
     rw [hcl] at hinv; cases hinv
   | some q =>
     obtain ⟨s2, r2⟩ := q
     rw [hcl] at hinv
     have hr2 := DM hcl hr1
     repeat' (first | (exfalso; rw [hcn] at hb; cases hb; done) | refine D5 (m' := st2.length) ?_ (hm' := by omega) | refine kz ?_ | refine kx he ?_ | refine ki ?_ | refine Aa (hp) ?_ | refine Ai rfl rfl (fun hb => ?_) (fun hb => ?_) | refine AX Af ?_ ?_ | exact k0 | refine Ab ?_ | refine m1 ?_ ?_)
     refine AO (X := Nat × List (Bs × Int) × List (Bs × Int) × Nat) [4, 7, 8, 52, 53, 54, 55, 56, 57, 58, 59, 60, 61, 62, 63, 64, 65, 66, 67, 68, 69, 70, 71, 72, 73, 74, 75, 76, 77, 78, 79, 80, 81, 82, 83, 84, 85, 86, 87] (fun x => closeLev (l.opened.drop x.1) x.2.1 x.2.2.1 = some (s2, r2) ∧ x.1 ≤ l.opened.length ∧ x.2.2.1.length ≤ 4096) (fun x lz => (52, (.c (.d (.lit (.int .i64 x.1))))) :: lz) (fun x => [.box 0 [.arr 1 k1 st2.length, .mp 2 0, .arr 3 x.2.2.2 x.2.2.1.length], .arr k1 232 2 ((st2 ++ [l]).map Lev.d), .mapb 0 9 2 (x.2.1.map JP), .arr x.2.2.2 200 2 (x.2.2.1.map Gr)]) (fun x => l.opened.length - x.1) ((0, s1, r1, k3)) ?_ ?_ ?_ ?_
     repeat' (first | exact k0 | refine kw ?_ | refine kv ?_ ?_ | omega)
     ·exact ⟨by simpa using hcl, by simp, hr1⟩
     rintro ⟨i, s3, r3, k4⟩ c4 ⟨hi3, hin, hr3⟩
     dsimp only at hi3 hin hr3 ⊢
     by_cases hlt : i < l.opened.length
     ·have hv : l.opened[i]? = some l.opened[i] := List.getElem?_eq_getElem hlt
      generalize l.opened[i] = cc at hv
      rw [AD hv, closeLev] at hi3
      rcases BT cc s3 with ⟨i0, v, g1, g2, _, g4, _⟩ | ⟨g1, g2, _, g4, _⟩
      · rw [g4] at hi3
        by_cases hz : v = 0
        · have hn : BO cc s3 r3 = r3 := by rw [BO, g2, if_pos hz]
          rw [hn, if_neg (by omega)] at hi3
          repeat' (first | refine kz ?_ | refine kx hv ?_ | refine ki ?_ | refine Cx (Bd g1) ⟨_, rfl⟩ (AH _) ?_ | refine Ca (Bd g1) ⟨_, rfl⟩ (AH _) ?_ | refine Ai rfl rfl (fun hb => ?_) (fun hb => ?_) | refine kg ?_ ?_ | exact k0 | refine Ab ?_ | refine m1 ?_ ?_)
          rw [Eo]
          generalize s3.eraseIdx i0 = s4 at hi3 ⊢
          (apply Ae ((i + 1, s4, r3, k4)); all_goals (try dsimp only); all_goals (try (repeat' (first | exact k0 | refine kw ?_ | refine kv ?_ ?_ | omega))))
          exact ⟨hi3, by omega, hr3⟩
        · have hn : BO cc s3 r3 = r3 ++ [(cc, v)] := by rw [BO, g2, if_neg hz]
          rw [hn] at hi3
          have hl4 : (r3 ++ [(cc, v)]).length = r3.length + 1 := by simp
          have hl5 : r3.length + [[CY cc, Dat.lit (Value.int .i64 v)]].length = (r3 ++ [(cc, v)]).length := by simp
          have hm4 : r3.map Gr ++ [[CY cc, Dat.lit (Value.int .i64 v)]] = (r3 ++ [(cc, v)]).map Gr := by rw [List.map_append]; rfl
          have hlen3 : ¬ 4096 < (r3 ++ [(cc, v)]).length := fun q => by rw [if_pos q] at hi3; cases hi3
          rw [if_neg hlen3] at hi3
          repeat' (first | refine kz ?_ | refine kx hv ?_ | refine ki ?_ | refine Cx (Bd g1) ⟨_, rfl⟩ (AH _) ?_ | refine Ca (Bd g1) ⟨_, rfl⟩ (AH _) ?_ | refine Ai rfl rfl (fun hb => ?_) (fun hb => ?_) | refine kg ?_ ?_ | exact k0 | refine Ab ?_ | refine m1 ?_ ?_)
          rw [Eo, hm4, hl5]
          generalize s3.eraseIdx i0 = s4 at hi3 ⊢
          generalize r3 ++ [(cc, v)] = r4 at hi3 hl4 hlen3 ⊢
          (apply Ae ((i + 1, s4, r4, c4 + 1)); all_goals (try dsimp only); all_goals (try (repeat' (first | exact k0 | refine kw ?_ | refine kv ?_ ?_ | omega))))
          exact ⟨hi3, by omega, by omega⟩
      · rw [g4] at hi3
        have hn : BO cc s3 r3 = r3 := by rw [BO, g2, if_pos rfl]
        rw [hn, if_neg (by omega)] at hi3
        repeat' (first | refine kz ?_ | refine kx hv ?_ | refine ki ?_ | refine F3 (DL g1) ⟨_, rfl⟩ (AH _) ?_ | refine Ff (DL g1) ⟨_, rfl⟩ (AH _) ?_ | refine Ai rfl rfl (fun hb => ?_) (fun hb => ?_) | refine kg ?_ ?_ | exact k0 | refine Ab ?_ | refine m1 ?_ ?_)
        (apply Ae ((i + 1, s3, r3, k4)); all_goals (try dsimp only); all_goals (try (repeat' (first | exact k0 | refine kw ?_ | refine kv ?_ ?_ | omega))))
        exact ⟨hi3, by omega, hr3⟩
     ·have hie : i = l.opened.length := by omega
      subst hie
      rw [List.drop_length, closeLev] at hi3
      simp only [Option.some.injEq, Prod.mk.injEq] at hi3
      obtain ⟨rfl, rfl⟩ := hi3
      repeat' (first | refine kz ?_ | refine ki ?_ | refine Ai rfl rfl (fun hb => ?_) (fun hb => ?_) | refine kg ?_ ?_ | exact k0 | refine Ab ?_ | refine m1 ?_ ?_)
      (apply Ae ((st2, s3, r3, [l.d], k1, k4)); all_goals (try dsimp only); all_goals (try (repeat' (first | exact k0 | refine kw ?_ | refine kv ?_ ?_ | omega))))
      · rw [List.map_append]; rfl
      · exact ⟨hinv, by omega, hop2, hr3⟩
end Go.Proofs.YtmpgmjlanngkfaaGreat
end
