/-
  The document's Normalize: lists of entries sorted and summed.
-/
import Derived.Test.YtmpgmjlanngkfaaGreatBag
section
namespace Go.Proofs.YtmpgmjlanngkfaaGreat
open Go.Abs Go.RowKit
attribute [local irreducible] ARun Aq MCall PCall HCall Am SF CF CFs Af Al Ap B5 AW VLe
set_option linter.unusedSimpArgs false
set_option maxRecDepth 100000
set_option maxHeartbeats 4000000
def mergeE : List Entry → List Entry → List Entry
 | [], b => b
 | a, [] => a
 | x :: a, y :: b =>
   if Ai x.row y.row < 0 then x :: mergeE a (y :: b)
   else if 0 < Ai x.row y.row then y :: mergeE (x :: a) b
   else (if x.count + y.count = 0 then [] else [⟨x.row, x.count + y.count⟩]) ++ mergeE a b
 termination_by a b => a.length + b.length
theorem Fv (a b : List Entry) : (mergeE a b).length ≤ a.length + b.length := by
 induction a, b using mergeE.induct with
 | case1 b => simp [mergeE]
 | case2 a h => simp [mergeE]
 | case3 x a y b h ih => rw [mergeE, if_pos h]; simp at ih ⊢; omega
 | case4 x a y b h1 h2 ih => rw [mergeE, if_neg h1, if_pos h2]; simp at ih ⊢; omega
 | case5 x a y b h1 h2 ih => rw [mergeE, if_neg h1, if_neg h2]; simp at ih ⊢; split <;> simp <;> omega
def A6 (M : Int) (l : List Entry) : Prop := ∀ e ∈ l, -M ≤ e.count ∧ e.count ≤ M
theorem BX {M M' : Int} {l : List Entry} (h : A6 M l) (hm : M ≤ M') : A6 M' l := fun e he => by have := h e he; omega
theorem ET {M N : Int} (hM : 0 ≤ M) (hN : 0 ≤ N) (a b : List Entry) : A6 M a → A6 N b → A6 (M + N) (mergeE a b) := by
 induction a, b using mergeE.induct with
 | case1 b => intro _ hb; rw [mergeE]; exact BX hb (by omega)
 | case2 a h => intro ha _; rw [mergeE]; exact BX ha (by omega); exact h
 | case3 x a y b h ih =>
   intro ha hb
   rw [mergeE, if_pos h]
   have := ih (fun e he => ha e (by simp [he])) hb
   intro e he
   rcases Dp.1 he with rfl | he
   ·have := ha e (by simp); omega
   ·exact this e he
 | case4 x a y b h1 h2 ih =>
   intro ha hb
   rw [mergeE, if_neg h1, if_pos h2]
   have := ih ha (fun e he => hb e (by simp [he]))
   intro e he
   rcases Dp.1 he with rfl | he
   ·have := hb e (by simp); omega
   ·exact this e he
 | case5 x a y b h1 h2 ih =>
   intro ha hb
   rw [mergeE, if_neg h1, if_neg h2]
   have := ih (fun e he => ha e (by simp [he])) (fun e he => hb e (by simp [he]))
   intro e he
   rcases Gn.1 he with he | he
   ·have q1 := ha x (by simp)
    have q2 := hb y (by simp)
    split at he
    ·simp at he
    ·simp at he; subst he; simp only; omega
   ·exact this e he
theorem drop_nil {α : Type} {l : List α} {i : Nat} (h : l.length ≤ i) : l.drop i = [] := QF h
theorem Vn (a b : List Entry) (ha : a.length ≤ 100000000) (hb' : b.length ≤ 100000000) (sa : A6 1152921504606846976 a) (sb : A6 1152921504606846976 b) : PC 131 [.one (Ao a), .one (Ao b)] (.v (.one (Ao (mergeE a b)))) := by
 refine Ad hT Tryz.func131 Tryz.ntmps131 [.tmp 4] fun B => ?_
 repeat' first | refine kz ?_ | refine AE rfl (fun hb => ?_) (fun hb => ?_) | refine As ?_ | refine kh ?_ ?_ | exact ⟨⟩ | fail
 refine CN 5 56 2 ?_
 refine AY (X := Nat × Nat × Nat × List Entry) (List.range' 5 87) (fun x => x.1 ≤ a.length ∧ x.2.1 ≤ b.length ∧ x.2.2.2 ++ mergeE (a.drop x.1) (b.drop x.2.1) = mergeE a b) (fun x lz => (5, .c (.arr 0 x.2.2.1 x.2.2.2.length)) :: (6, (iC x.1)) :: (7, (iC x.2.1)) :: lz) (fun x => [.arr x.2.2.1 56 2 (x.2.2.2.map Entry.d)]) (fun x => (a.length - x.1) + (b.length - x.2.1)) ((0, 0, 1, [])) ?_ ?_ ?_ ?_
 repeat' first | exact k0 | refine kw ?_ | refine kv ?_ ?_ | omega
 ·exact ⟨by simp, by simp, by simp⟩
 rintro ⟨i, j, k, out⟩ c ⟨hi, hj, hinv⟩
 dsimp only at hi hj hinv ⊢
 have hol : out.length ≤ a.length + b.length := by
  have := congrArg List.length hinv
  have h2 := Fv a b
  simp at this; omega
 by_cases hlt : i < a.length
 ·have hv : a[i]? = some a[i] := Bi hlt
  obtain ⟨hs1, hs2⟩ := sa _ (Gl hlt)
  generalize a[i] = x at hv hs1 hs2
  rw [Az hv] at hinv
  by_cases hlt2 : j < b.length
  ·have hu : b[j]? = some b[j] := Bi hlt2
   obtain ⟨hs3, hs4⟩ := sb _ (Gl hlt2)
   generalize b[j] = y at hu hs3 hs4
   rw [Az hu, mergeE] at hinv
   repeat' first | refine kz ?_ | refine AE rfl (fun hb => ?_) (fun hb => ?_) | refine AT hv ?_ | refine AT hu ?_ | refine As ?_ | refine Aa (BC _ _) ?_ | refine kh ?_ ?_ | exact ⟨⟩ | fail
   ·apply Ae ((i + 1, j, _, out ++ [x])) <;> (try dsimp only) <;> try repeat' first | exact k0 | refine w1 ?_ | refine Ab ?_ | refine m1 ?_ ?_ | omega
    ·rw [As']; rfl
    ·refine ⟨by omega, by omega, ?_⟩
     rw [if_pos hb] at hinv; rw [← hinv, Az hu, G1]; rfl
   ·apply Ae ((i, j + 1, _, out ++ [y])) <;> (try dsimp only) <;> try repeat' first | exact k0 | refine w1 ?_ | refine Ab ?_ | refine m1 ?_ ?_ | omega
    ·rw [As']; rfl
    ·refine ⟨by omega, by omega, ?_⟩
     rw [if_neg (by omega), if_pos hb] at hinv; rw [← hinv, Az hv, G1]; rfl
   ·apply Ae ((i + 1, j + 1, _, out ++ [⟨x.row, x.count + y.count⟩])) <;> (try dsimp only) <;> try repeat' first | exact k0 | refine w1 ?_ | refine Ab ?_ | refine m1 ?_ ?_ | omega
    ·rw [As']; rfl
    ·refine ⟨by omega, by omega, ?_⟩
     rw [if_neg (by omega), if_neg (by omega), if_neg hb] at hinv; rw [← hinv, G1]
   ·apply Ae ((i + 1, j + 1, _, out)) <;> (try dsimp only) <;> try repeat' first | exact k0 | refine w1 ?_ | refine Ab ?_ | refine m1 ?_ ?_ | omega
    refine ⟨by omega, by omega, ?_⟩
    rw [if_neg (by omega), if_neg (by omega), if_pos hb] at hinv; rw [← hinv]; rfl
  ·rw [drop_nil (show b.length ≤ j by omega), mergeE] at hinv
   ·repeat' first | refine kz ?_ | refine AE rfl (fun hb => ?_) (fun hb => ?_) | refine AT hv ?_ | refine As ?_ | refine Aa (BC _ _) ?_ | refine kh ?_ ?_ | exact ⟨⟩ | fail
    apply Ae ((i + 1, j, _, out ++ [x])) <;> (try dsimp only) <;> try repeat' first | exact k0 | refine w1 ?_ | refine Ab ?_ | refine m1 ?_ ?_ | omega
    ·rw [As']; rfl
    ·refine ⟨by omega, by omega, ?_⟩
     rw [← hinv, drop_nil (show b.length ≤ j by omega), G1]
     cases h : List.drop (i + 1) a <;> simp [mergeE]
   ·simp
 ·by_cases hlt2 : j < b.length
  ·obtain ⟨y, hu⟩ := gx hlt2
   rw [drop_nil (show a.length ≤ i by omega), Az hu, mergeE] at hinv
   repeat' first | refine kz ?_ | refine AE rfl (fun hb => ?_) (fun hb => ?_) | refine AT hu ?_ | refine As ?_ | refine Aa (BC _ _) ?_ | refine kh ?_ ?_ | exact ⟨⟩ | fail
   apply Ae ((i, j + 1, _, out ++ [y])) <;> (try dsimp only) <;> try repeat' first | exact k0 | refine w1 ?_ | refine Ab ?_ | refine m1 ?_ ?_ | omega
   ·rw [As']; rfl
   ·refine ⟨by omega, by omega, ?_⟩
    rw [← hinv, drop_nil (show a.length ≤ i by omega), mergeE, G1]; rfl
  ·rw [drop_nil (show a.length ≤ i by omega), drop_nil (show b.length ≤ j by omega), mergeE, List.append_nil] at hinv
   repeat' first | refine kz ?_ | refine AE rfl (fun hb => ?_) (fun hb => ?_) | refine As ?_ | refine kh ?_ ?_ | exact ⟨⟩ | fail
   ·simp
   ·rw [← hinv, Ag (by simp)]; rfl
def sortE (l : List Entry) : List Entry :=
 if h : l.length ≤ 1 then l.filter (fun e => decide (e.count ≠ 0))
 else mergeE (sortE (l.take (l.length / 2))) (sortE (l.drop (l.length / 2)))
 termination_by l.length
 decreasing_by
  ·simp; omega
  ·simp; omega
theorem GF (l : List Entry) : (sortE l).length ≤ l.length := by
 induction l using sortE.induct with
 | case1 l h => rw [sortE, dif_pos h]; exact PN ..
 | case2 l h ih1 ih2 =>
   rw [sortE, dif_neg h]
   have := Fv (sortE (l.take (l.length / 2))) (sortE (l.drop (l.length / 2)))
   simp at ih1 ih2 ⊢
   omega
theorem D5 (l : List Entry) : A6 262144 l → A6 (262144 * l.length) (sortE l) := by
 induction l using sortE.induct with
 | case1 l h =>
   intro hw
   rw [sortE, dif_pos h]
   intro e he
   have hm := (KB.1 he).1
   have := hw e hm
   have hl : 1 ≤ l.length := by cases l <;> simp at hm ⊢
   omega
 | case2 l h ih1 ih2 =>
   intro hw
   rw [sortE, dif_neg h]
   have q1 := ih1 (fun e he => hw e (Ji he))
   have q2 := ih2 (fun e he => hw e (Uc he))
   refine BX (ET (by omega) (by omega) _ _ q1 q2) ?_
   simp; omega
theorem PD : ∀ (n : Nat) (l : List Entry), l.length ≤ n → l.length ≤ 1000000 → A6 262144 l → PC 77 [.one (Ao l)] (.v (.one (Ao (sortE l)))) := by
 intro n
 induction n with
 | zero =>
   intro l hl _ _
   have : l = [] := VJ (by omega)
   subst this
   refine Ad hT Tryz.func77 Tryz.ntmps77 [.tmp 2] fun B => ?_
   repeat' first | refine kz ?_ | refine AE rfl (fun hb => ?_) (fun hb => ?_) | refine As ?_ | refine kf ?_ | fail
   rw [sortE]; rfl
 | succ n ih =>
   intro l hl hbig hw
   by_cases h1 : l.length ≤ 1
   ·match l, h1 with
    | [], _ =>
      refine Ad hT Tryz.func77 Tryz.ntmps77 [.tmp 2] fun B => ?_
      repeat' first | refine kz ?_ | refine AE rfl (fun hb => ?_) (fun hb => ?_) | refine As ?_ | refine kf ?_ | fail
      rw [sortE]; rfl
    | [e], _ =>
      refine Ad hT Tryz.func77 Tryz.ntmps77 [.tmp 2] fun B => ?_
      repeat' first | refine kz ?_ | refine AE rfl (fun hb => ?_) (fun hb => ?_) | refine As ?_ | refine kf ?_ | fail
      all_goals (rw [sortE, dif_pos (by simp)]; simp [hb] <;> rfl)
   ·have hS := GF
    have e : sortE l = mergeE (sortE (l.take (l.length / 2))) (sortE (l.drop (l.length / 2))) := by rw [sortE, dif_neg h1]
    have w1 : A6 262144 (l.take (l.length / 2)) := fun e he => hw e (Ji he)
    have w2 : A6 262144 (l.drop (l.length / 2)) := fun e he => hw e (Uc he)
    have c1 := ih (l.take (l.length / 2)) (by simp; omega) (by simp; omega) w1
    have c2 := ih (l.drop (l.length / 2)) (by simp; omega) (by simp; omega) w2
    have l1 := hS (l.take (l.length / 2))
    have l2 := hS (l.drop (l.length / 2))
    simp only [Hn, Gm] at l1 l2
    have v1 := D5 _ w1
    have v2 := D5 _ w2
    simp only [Hn, Gm] at v1 v2
    have c3 := Vn (sortE (l.take (l.length / 2))) (sortE (l.drop (l.length / 2))) (by omega) (by omega) (BX v1 (by omega)) (BX v2 (by omega))
    clear ih hS w1 w2 v1 v2 hw
    refine Ad hT Tryz.func77 Tryz.ntmps77 [.tmp 2] fun B => ?_
    repeat' first | refine kz ?_ | refine AE rfl (fun hb => ?_) (fun hb => ?_) | refine As ?_ | refine Aa (c1) ?_ | refine Aa (c2) ?_ | refine Aa (c3) ?_ | refine kf ?_ | fail
    rw [e]
def AQ (l : List Entry) : List Entry × Int := if 4096 < l.length then ([], 8) else if l.all (fun e => AH e.count) then (l, 0) else ([], 9)
theorem Xj (l : List Entry) : PC 76 [.one (Ao l)] (.tup [.one (Ao (AQ l).1), .one (.lit (.int .i64 (AQ l).2))]) := by
 refine Ad hT Tryz.func76 Tryz.ntmps76 [.tmp 2, .tmp 3] fun B => ?_
 repeat' first | refine kz ?_ | refine AE rfl (fun hb => ?_) (fun hb => ?_) | refine As ?_ | refine kh ?_ ?_ | exact ⟨⟩ | fail
 all_goals try (first | (rw [AQ, if_pos (by omega)]; rfl) | (rw [AQ, if_pos (by omega)]))
 have hl : l.length ≤ 4096 := by omega
 refine AY (X := Nat) ([2, 3, 4] ++ List.range' 8 13) (fun x => x ≤ l.length ∧ (l.take x).all (fun e => AH e.count) = true) (fun x lz => (4, (iC x)) :: lz) (fun x => []) (fun x => l.length - x) (0) ?_ ?_ ?_ ?_
 repeat' first | exact k0 | refine kw ?_ | omega
 ·exact ⟨by simp, by simp⟩
 rintro i c ⟨hi, hinv⟩
 by_cases hlt : i < l.length
 ·obtain ⟨e, hv⟩ := gx hlt
  repeat' first | refine kz ?_ | refine AE rfl (fun hb => ?_) (fun hb => ?_) | refine AT hv ?_ | refine As ?_ | refine Aa (E2 _) ?_ | refine kh ?_ ?_ | exact ⟨⟩ | fail
  ·rw [AQ, if_neg (by omega), DC (fun e : Entry => AH e.count) hv hb]; rfl
  ·rw [AQ, if_neg (by omega), DC (fun e : Entry => AH e.count) hv hb]; rfl
  ·apply Ae (i + 1) <;> (try dsimp only) <;> try repeat' first | exact k0 | refine kw ?_ | omega
   exact ⟨by omega, CY (fun e : Entry => AH e.count) hv hinv hb⟩
 ·rw [Ag (by omega)] at hinv
  repeat' first | refine kz ?_ | refine AE rfl (fun hb => ?_) (fun hb => ?_) | refine As ?_ | refine kh ?_ ?_ | exact ⟨⟩ | fail
  all_goals (rw [AQ, if_neg (by omega), hinv]; rfl)
def AU (e : Entry) : Bool := A7 e.row && AH e.count
def A9 (l : List Entry) : List Entry × Int := if l.all AU then AQ (sortE l) else ([], 1)
theorem IQ (l : List Entry) (hlen : l.length ≤ 1000000) : PC 33 [.one (Ao l)] (.tup [.one (Ao (A9 l).1), .one (.lit (.int .i64 (A9 l).2))]) := by
 refine Ad hT Tryz.func33 Tryz.ntmps33 [.tmp 2, .tmp 3] fun B => ?_
 repeat' first | refine kz ?_ | refine AE rfl (fun hb => ?_) (fun hb => ?_) | refine As ?_ | refine Av rfl rfl (fun hb => ?_) (fun hb => ?_) | refine kh ?_ ?_ | exact ⟨⟩ | fail
 refine AY (X := Nat) (List.range' 2 25) (fun x => x ≤ l.length ∧ (l.take x).all AU = true) (fun x lz => (4, (iC x)) :: lz) (fun x => []) (fun x => l.length - x) (0) ?_ ?_ ?_ ?_
 repeat' first | exact k0 | refine kw ?_ | omega
 ·exact ⟨by simp, by simp⟩
 rintro i c ⟨hi, hinv⟩
 by_cases hlt : i < l.length
 ·obtain ⟨e, hv⟩ := gx hlt
  repeat' first | refine kz ?_ | refine AE rfl (fun hb => ?_) (fun hb => ?_) | refine AT hv ?_ | refine As ?_ | refine Aa (E2 _) ?_ | refine Aa (EU _) ?_ | refine Av rfl rfl (fun hb => ?_) (fun hb => ?_) | refine kh ?_ ?_ | exact ⟨⟩ | fail
  all_goals first
   | (rw [A9, DC AU hv (by simp_all [AU])]; rfl)
   | ((apply Ae (i + 1); all_goals (try dsimp only); all_goals (try (repeat' (first | exact k0 | refine kw ?_ | omega)))); exact ⟨by omega, CY AU hv hinv (by simp_all [AU])⟩)
 ·rw [Ag (by omega)] at hinv
  have hw : A6 262144 l := by
   intro e he
   have := Ec.1 hinv e he
   simp [AU, AH] at this
   omega
  repeat' first | refine kz ?_ | refine AE rfl (fun hb => ?_) (fun hb => ?_) | refine As ?_ | refine Aa (PD l.length l (Nat.le_refl _) hlen hw) ?_ | refine Aa (Xj _) ?_ | refine Av rfl rfl (fun hb => ?_) (fun hb => ?_) | refine kh ?_ ?_ | exact ⟨⟩ | fail
  all_goals (rw [A9, hinv]; rfl)
end Go.Proofs.YtmpgmjlanngkfaaGreat
end
