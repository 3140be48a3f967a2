/-
  The document's Normalize: lists of entries sorted and summed.
-/
import Derived.Test.YtmpgmjlanngkfaaGreatOrd
section
namespace Go.Proofs.YtmpgmjlanngkfaaGreat
open Go.Abs Go.RowKit
attribute [local irreducible] ARun Au MCall PCall HCall Ak SF CF CFs Af Ag Ar fin AP VLe
set_option linter.unusedSimpArgs false
set_option maxRecDepth 100000
set_option maxHeartbeats 4000000
def mergeE : List Entry → List Entry → List Entry
 | [], b => b
 | a, [] => a
 | x :: a, y :: b =>
   if Ai x.row y.row < 0 then x :: mergeE a (y :: b)
   else if 0 < Ai x.row y.row then y :: mergeE (x :: a) b
   else (if x.count + y.count = 0 then [] else [⟨x.row, x.count + y.count⟩]) ++ mergeE a b
 termination_by a b => a.length + b.length
theorem E5 (a b : List Entry) : (mergeE a b).length ≤ a.length + b.length := by
 induction a, b using mergeE.induct with
 | case1 b => simp [mergeE]
 | case2 a h => simp [mergeE]
 | case3 x a y b h ih => rw [mergeE, if_pos h]; simp at ih ⊢; omega
 | case4 x a y b h1 h2 ih => rw [mergeE, if_neg h1, if_pos h2]; simp at ih ⊢; omega
 | case5 x a y b h1 h2 ih => rw [mergeE, if_neg h1, if_neg h2]; simp at ih ⊢; split <;> simp <;> omega
def A2 (M : Int) (l : List Entry) : Prop := ∀ e ∈ l, -M ≤ e.count ∧ e.count ≤ M
theorem BD {M M' : Int} {l : List Entry} (h : A2 M l) (hm : M ≤ M') : A2 M' l := fun e he => by have := h e he; omega
theorem Ep {M N : Int} (hM : 0 ≤ M) (hN : 0 ≤ N) (a b : List Entry) : A2 M a → A2 N b → A2 (M + N) (mergeE a b) := by
 induction a, b using mergeE.induct with
 | case1 b => intro _ hb; rw [mergeE]; exact BD hb (by omega)
 | case2 a h => intro ha _; rw [mergeE]; exact BD ha (by omega); exact h
 | case3 x a y b h ih =>
   intro ha hb
   rw [mergeE, if_pos h]
   have := ih (fun e he => ha e (by simp [he])) hb
   intro e he
   rcases Fb.1 he with rfl | he
   ·have := ha e (by simp); omega
   ·exact this e he
 | case4 x a y b h1 h2 ih =>
   intro ha hb
   rw [mergeE, if_neg h1, if_pos h2]
   have := ih ha (fun e he => hb e (by simp [he]))
   intro e he
   rcases Fb.1 he with rfl | he
   ·have := hb e (by simp); omega
   ·exact this e he
 | case5 x a y b h1 h2 ih =>
   intro ha hb
   rw [mergeE, if_neg h1, if_neg h2]
   have := ih (fun e he => ha e (by simp [he])) (fun e he => hb e (by simp [he]))
   intro e he
   rcases Ej.1 he with he | he
   ·have q1 := ha x (by simp)
    have q2 := hb y (by simp)
    split at he
    ·simp at he
    ·simp at he; subst he; simp only; omega
   ·exact this e he
theorem drop_nil {α : Type} {l : List α} {i : Nat} (h : l.length ≤ i) : l.drop i = [] := Sd h
theorem Wt (a b : List Entry) (ha : a.length ≤ 100000000) (hb' : b.length ≤ 100000000) (sa : A2 1152921504606846976 a) (sb : A2 1152921504606846976 b) : PC 131 [.one (Am a), .one (Am b)] (.v (.one (Am (mergeE a b)))) := by
 refine Ac hT Tryz.func131 Tryz.ntmps131 [.tmp 4] fun B => ?_
 repeat' first | refine kz ?_ | refine AN rfl (fun hb => ?_) (fun hb => ?_) | refine Aw ?_ | refine kh ?_ ?_ | exact ⟨⟩ | fail
 refine Cr 5 56 2 ?_
 refine A0 (X := Nat × Nat × Nat × List Entry) (List.range' 5 87) (fun x => x.1 ≤ a.length ∧ x.2.1 ≤ b.length ∧ x.2.2.2 ++ mergeE (a.drop x.1) (b.drop x.2.1) = mergeE a b) (fun x lz => (5, .c (.arr 0 x.2.2.1 x.2.2.2.length)) :: (6, (iC x.1)) :: (7, (iC x.2.1)) :: lz) (fun x => [.arr x.2.2.1 56 2 (x.2.2.2.map Entry.d)]) (fun x => (a.length - x.1) + (b.length - x.2.1)) ((0, 0, 1, [])) ?_ ?_ ?_ ?_
 repeat' first | exact k0 | refine kw ?_ | refine kv ?_ ?_ | omega
 ·exact ⟨by simp, by simp, by simp⟩
 rintro ⟨i, j, k, out⟩ c ⟨hi, hj, hinv⟩
 dsimp only at hi hj hinv ⊢
 have hol : out.length ≤ a.length + b.length := by
  have := congrArg List.length hinv
  have h2 := E5 a b
  simp at this; omega
 by_cases hlt : i < a.length
 ·have hv : a[i]? = some a[i] := Bh hlt
  obtain ⟨hs1, hs2⟩ := sa _ (Fp hlt)
  generalize a[i] = x at hv hs1 hs2
  rw [Ay hv] at hinv
  by_cases hlt2 : j < b.length
  ·have hu : b[j]? = some b[j] := Bh hlt2
   obtain ⟨hs3, hs4⟩ := sb _ (Fp hlt2)
   generalize b[j] = y at hu hs3 hs4
   rw [Ay hu, mergeE] at hinv
   repeat' first | refine kz ?_ | refine AN rfl (fun hb => ?_) (fun hb => ?_) | refine AX hv ?_ | refine AX hu ?_ | refine Aw ?_ | refine Aa (Bu _ _) ?_ | refine kh ?_ ?_ | exact ⟨⟩ | fail
   ·apply Ad ((i + 1, j, _, out ++ [x])) <;> (try dsimp only) <;> try repeat' first | exact k0 | refine w1 ?_ | refine Ab ?_ | refine m1 ?_ ?_ | omega
    ·rw [Ah']; rfl
    ·refine ⟨by omega, by omega, ?_⟩
     rw [if_pos hb] at hinv; rw [← hinv, Ay hu, GR]; rfl
   ·apply Ad ((i, j + 1, _, out ++ [y])) <;> (try dsimp only) <;> try repeat' first | exact k0 | refine w1 ?_ | refine Ab ?_ | refine m1 ?_ ?_ | omega
    ·rw [Ah']; rfl
    ·refine ⟨by omega, by omega, ?_⟩
     rw [if_neg (by omega), if_pos hb] at hinv; rw [← hinv, Ay hv, GR]; rfl
   ·apply Ad ((i + 1, j + 1, _, out ++ [⟨x.row, x.count + y.count⟩])) <;> (try dsimp only) <;> try repeat' first | exact k0 | refine w1 ?_ | refine Ab ?_ | refine m1 ?_ ?_ | omega
    ·rw [Ah']; rfl
    ·refine ⟨by omega, by omega, ?_⟩
     rw [if_neg (by omega), if_neg (by omega), if_neg hb] at hinv; rw [← hinv, GR]
   ·apply Ad ((i + 1, j + 1, _, out)) <;> (try dsimp only) <;> try repeat' first | exact k0 | refine w1 ?_ | refine Ab ?_ | refine m1 ?_ ?_ | omega
    refine ⟨by omega, by omega, ?_⟩
    rw [if_neg (by omega), if_neg (by omega), if_pos hb] at hinv; rw [← hinv]; rfl
  ·rw [drop_nil (show b.length ≤ j by omega), mergeE] at hinv
   ·repeat' first | refine kz ?_ | refine AN rfl (fun hb => ?_) (fun hb => ?_) | refine AX hv ?_ | refine Aw ?_ | refine Aa (Bu _ _) ?_ | refine kh ?_ ?_ | exact ⟨⟩ | fail
    apply Ad ((i + 1, j, _, out ++ [x])) <;> (try dsimp only) <;> try repeat' first | exact k0 | refine w1 ?_ | refine Ab ?_ | refine m1 ?_ ?_ | omega
    ·rw [Ah']; rfl
    ·refine ⟨by omega, by omega, ?_⟩
     rw [← hinv, drop_nil (show b.length ≤ j by omega), GR]
     cases h : List.drop (i + 1) a <;> simp [mergeE]
   ·simp
 ·by_cases hlt2 : j < b.length
  ·obtain ⟨y, hu⟩ := gx hlt2
   rw [drop_nil (show a.length ≤ i by omega), Ay hu, mergeE] at hinv
   repeat' first | refine kz ?_ | refine AN rfl (fun hb => ?_) (fun hb => ?_) | refine AX hu ?_ | refine Aw ?_ | refine Aa (Bu _ _) ?_ | refine kh ?_ ?_ | exact ⟨⟩ | fail
   apply Ad ((i, j + 1, _, out ++ [y])) <;> (try dsimp only) <;> try repeat' first | exact k0 | refine w1 ?_ | refine Ab ?_ | refine m1 ?_ ?_ | omega
   ·rw [Ah']; rfl
   ·refine ⟨by omega, by omega, ?_⟩
    rw [← hinv, drop_nil (show a.length ≤ i by omega), mergeE, GR]; rfl
  ·rw [drop_nil (show a.length ≤ i by omega), drop_nil (show b.length ≤ j by omega), mergeE, List.append_nil] at hinv
   repeat' first | refine kz ?_ | refine AN rfl (fun hb => ?_) (fun hb => ?_) | refine Aw ?_ | refine kh ?_ ?_ | exact ⟨⟩ | fail
   ·simp
   ·rw [← hinv, Ao (by simp)]; rfl
def sortE (l : List Entry) : List Entry :=
 if h : l.length ≤ 1 then l.filter (fun e => decide (e.count ≠ 0))
 else mergeE (sortE (l.take (l.length / 2))) (sortE (l.drop (l.length / 2)))
 termination_by l.length
 decreasing_by
  ·simp; omega
  ·simp; omega
theorem F6 (l : List Entry) : (sortE l).length ≤ l.length := by
 induction l using sortE.induct with
 | case1 l h => rw [sortE, dif_pos h]; exact Sl ..
 | case2 l h ih1 ih2 =>
   rw [sortE, dif_neg h]
   have := E5 (sortE (l.take (l.length / 2))) (sortE (l.drop (l.length / 2)))
   simp at ih1 ih2 ⊢
   omega
theorem DB (l : List Entry) : A2 262144 l → A2 (262144 * l.length) (sortE l) := by
 induction l using sortE.induct with
 | case1 l h =>
   intro hw
   rw [sortE, dif_pos h]
   intro e he
   have hm := (Ms.1 he).1
   have := hw e hm
   have hl : 1 ≤ l.length := by cases l <;> simp at hm ⊢
   omega
 | case2 l h ih1 ih2 =>
   intro hw
   rw [sortE, dif_neg h]
   have q1 := ih1 (fun e he => hw e (IS he))
   have q2 := ih2 (fun e he => hw e (U1 he))
   refine BD (Ep (by omega) (by omega) _ _ q1 q2) ?_
   simp; omega
theorem Pv : ∀ (n : Nat) (l : List Entry), l.length ≤ n → l.length ≤ 1000000 → A2 262144 l → PC 77 [.one (Am l)] (.v (.one (Am (sortE l)))) := by
 intro n
 induction n with
 | zero =>
   intro l hl _ _
   have : l = [] := WK (by omega)
   subst this
   refine Ac hT Tryz.func77 Tryz.ntmps77 [.tmp 2] fun B => ?_
   repeat' first | refine kz ?_ | refine AN rfl (fun hb => ?_) (fun hb => ?_) | refine Aw ?_ | refine kf ?_ | fail
   rw [sortE]; rfl
 | succ n ih =>
   intro l hl hbig hw
   by_cases h1 : l.length ≤ 1
   ·match l, h1 with
    | [], _ =>
      refine Ac hT Tryz.func77 Tryz.ntmps77 [.tmp 2] fun B => ?_
      repeat' first | refine kz ?_ | refine AN rfl (fun hb => ?_) (fun hb => ?_) | refine Aw ?_ | refine kf ?_ | fail
      rw [sortE]; rfl
    | [e], _ =>
      refine Ac hT Tryz.func77 Tryz.ntmps77 [.tmp 2] fun B => ?_
      repeat' first | refine kz ?_ | refine AN rfl (fun hb => ?_) (fun hb => ?_) | refine Aw ?_ | refine kf ?_ | fail
      all_goals (rw [sortE, dif_pos (by simp)]; simp [hb] <;> rfl)
   ·have hS := F6
    have e : sortE l = mergeE (sortE (l.take (l.length / 2))) (sortE (l.drop (l.length / 2))) := by rw [sortE, dif_neg h1]
    have w1 : A2 262144 (l.take (l.length / 2)) := fun e he => hw e (IS he)
    have w2 : A2 262144 (l.drop (l.length / 2)) := fun e he => hw e (U1 he)
    have c1 := ih (l.take (l.length / 2)) (by simp; omega) (by simp; omega) w1
    have c2 := ih (l.drop (l.length / 2)) (by simp; omega) (by simp; omega) w2
    have l1 := hS (l.take (l.length / 2))
    have l2 := hS (l.drop (l.length / 2))
    simp only [GN, Fo] at l1 l2
    have v1 := DB _ w1
    have v2 := DB _ w2
    simp only [GN, Fo] at v1 v2
    have c3 := Wt (sortE (l.take (l.length / 2))) (sortE (l.drop (l.length / 2))) (by omega) (by omega) (BD v1 (by omega)) (BD v2 (by omega))
    clear ih hS w1 w2 v1 v2 hw
    refine Ac hT Tryz.func77 Tryz.ntmps77 [.tmp 2] fun B => ?_
    repeat' first | refine kz ?_ | refine AN rfl (fun hb => ?_) (fun hb => ?_) | refine Aw ?_ | refine Aa (c1) ?_ | refine Aa (c2) ?_ | refine Aa (c3) ?_ | refine kf ?_ | fail
    rw [e]
def AS (l : List Entry) : List Entry × Int := if 4096 < l.length then ([], 8) else if l.all (fun e => Av e.count) then (l, 0) else ([], 9)
theorem YR (l : List Entry) : PC 76 [.one (Am l)] (.tup [.one (Am (AS l).1), .one (.lit (.int .i64 (AS l).2))]) := by
 refine Ac hT Tryz.func76 Tryz.ntmps76 [.tmp 2, .tmp 3] fun B => ?_
 repeat' first | refine kz ?_ | refine AN rfl (fun hb => ?_) (fun hb => ?_) | refine Aw ?_ | refine kh ?_ ?_ | exact ⟨⟩ | fail
 all_goals try (first | (rw [AS, if_pos (by omega)]; rfl) | (rw [AS, if_pos (by omega)]))
 have hl : l.length ≤ 4096 := by omega
 refine A0 (X := Nat) ([2, 3, 4] ++ List.range' 8 13) (fun x => x ≤ l.length ∧ (l.take x).all (fun e => Av e.count) = true) (fun x lz => (4, (iC x)) :: lz) (fun x => []) (fun x => l.length - x) (0) ?_ ?_ ?_ ?_
 repeat' first | exact k0 | refine kw ?_ | omega
 ·exact ⟨by simp, by simp⟩
 rintro i c ⟨hi, hinv⟩
 by_cases hlt : i < l.length
 ·obtain ⟨e, hv⟩ := gx hlt
  repeat' first | refine kz ?_ | refine AN rfl (fun hb => ?_) (fun hb => ?_) | refine AX hv ?_ | refine Aw ?_ | refine Aa (EC _) ?_ | refine kh ?_ ?_ | exact ⟨⟩ | fail
  ·rw [AS, if_neg (by omega), Ee (fun e : Entry => Av e.count) hv hb]; rfl
  ·rw [AS, if_neg (by omega), Ee (fun e : Entry => Av e.count) hv hb]; rfl
  ·apply Ad (i + 1) <;> (try dsimp only) <;> try repeat' first | exact k0 | refine kw ?_ | omega
   exact ⟨by omega, Dg (fun e : Entry => Av e.count) hv hinv hb⟩
 ·rw [Ao (by omega)] at hinv
  repeat' first | refine kz ?_ | refine AN rfl (fun hb => ?_) (fun hb => ?_) | refine Aw ?_ | refine kh ?_ ?_ | exact ⟨⟩ | fail
  all_goals (rw [AS, if_neg (by omega), hinv]; rfl)
def AU (e : Entry) : Bool := AD e.row && Av e.count
def A4 (l : List Entry) : List Entry × Int := if l.all AU then AS (sortE l) else ([], 1)
theorem Ix (l : List Entry) (hlen : l.length ≤ 1000000) : PC 33 [.one (Am l)] (.tup [.one (Am (A4 l).1), .one (.lit (.int .i64 (A4 l).2))]) := by
 refine Ac hT Tryz.func33 Tryz.ntmps33 [.tmp 2, .tmp 3] fun B => ?_
 repeat' first | refine kz ?_ | refine AN rfl (fun hb => ?_) (fun hb => ?_) | refine Aw ?_ | refine Aq rfl rfl (fun hb => ?_) (fun hb => ?_) | refine kh ?_ ?_ | exact ⟨⟩ | fail
 refine A0 (X := Nat) (List.range' 2 25) (fun x => x ≤ l.length ∧ (l.take x).all AU = true) (fun x lz => (4, (iC x)) :: lz) (fun x => []) (fun x => l.length - x) (0) ?_ ?_ ?_ ?_
 repeat' first | exact k0 | refine kw ?_ | omega
 ·exact ⟨by simp, by simp⟩
 rintro i c ⟨hi, hinv⟩
 by_cases hlt : i < l.length
 ·obtain ⟨e, hv⟩ := gx hlt
  repeat' first | refine kz ?_ | refine AN rfl (fun hb => ?_) (fun hb => ?_) | refine AX hv ?_ | refine Aw ?_ | refine Aa (EC _) ?_ | refine Aa (Et _) ?_ | refine Aq rfl rfl (fun hb => ?_) (fun hb => ?_) | refine kh ?_ ?_ | exact ⟨⟩ | fail
  all_goals first
   | (rw [A4, Ee AU hv (by simp_all [AU])]; rfl)
   | ((apply Ad (i + 1); all_goals (try dsimp only); all_goals (try (repeat' (first | exact k0 | refine kw ?_ | omega)))); exact ⟨by omega, Dg AU hv hinv (by simp_all [AU])⟩)
 ·rw [Ao (by omega)] at hinv
  have hw : A2 262144 l := by
   intro e he
   have := CN.1 hinv e he
   simp [AU, Av] at this
   omega
  repeat' first | refine kz ?_ | refine AN rfl (fun hb => ?_) (fun hb => ?_) | refine Aw ?_ | refine Aa (Pv l.length l (Nat.le_refl _) hlen hw) ?_ | refine Aa (YR _) ?_ | refine Aq rfl rfl (fun hb => ?_) (fun hb => ?_) | refine kh ?_ ?_ | exact ⟨⟩ | fail
  all_goals (rw [A4, hinv]; rfl)
end Go.Proofs.YtmpgmjlanngkfaaGreat
end
