/-
  The document's Normalize: lists of entries sorted and summed.
-/
import Derived.Test.YtmpgmjlanngkfaaGreatTyB
section
namespace Go.Proofs.YtmpgmjlanngkfaaGreat
open Go.Abs Go.RowKit
attribute [local irreducible] ARun At MCall PCall HCall Am SF CF CFs Ah Aj Ar fin AW VLe
set_option linter.unusedSimpArgs false
set_option maxRecDepth 100000
def mergeE : List Entry → List Entry → List Entry
 | [], b => b
 | a, [] => a
 | x :: a, y :: b =>
   if Ak x.row y.row < 0 then x :: mergeE a (y :: b)
   else if 0 < Ak x.row y.row then y :: mergeE (x :: a) b
   else (if x.count + y.count = 0 then [] else [⟨x.row, x.count + y.count⟩]) ++ mergeE a b
 termination_by a b => a.length + b.length
theorem G5 (a b : List Entry) : (mergeE a b).length ≤ a.length + b.length := by
 induction a, b using mergeE.induct with
 | case1 b => simp [mergeE]
 | case2 a h => simp [mergeE]
 | case3 x a y b h ih => rw [mergeE, if_pos h]; simp at ih ⊢; omega
 | case4 x a y b h1 h2 ih => rw [mergeE, if_neg h1, if_pos h2]; simp at ih ⊢; omega
 | case5 x a y b h1 h2 ih => rw [mergeE, if_neg h1, if_neg h2]; simp at ih ⊢; split <;> simp <;> omega
def A6 (M : Int) (l : List Entry) : Prop := ∀ e ∈ l, -M ≤ e.count ∧ e.count ≤ M
theorem BC {M M' : Int} {l : List Entry} (h : A6 M l) (hm : M ≤ M') : A6 M' l := fun e he => by have := h e he; omega
theorem EA {M N : Int} (hM : 0 ≤ M) (hN : 0 ≤ N) (a b : List Entry) : A6 M a → A6 N b → A6 (M + N) (mergeE a b) := by
 induction a, b using mergeE.induct with
 | case1 b => intro _ hb; rw [mergeE]; exact BC hb (by omega)
 | case2 a h => intro ha _; rw [mergeE]; exact BC ha (by omega); exact h
 | case3 x a y b h ih =>
   intro ha hb
   rw [mergeE, if_pos h]
   have := ih (fun e he => ha e (by simp [he])) hb
   intro e he
   rcases List.mem_cons.1 he with rfl | he
   ·have := ha e (by simp); omega
   ·exact this e he
 | case4 x a y b h1 h2 ih =>
   intro ha hb
   rw [mergeE, if_neg h1, if_pos h2]
   have := ih ha (fun e he => hb e (by simp [he]))
   intro e he
   rcases List.mem_cons.1 he with rfl | he
   ·have := hb e (by simp); omega
   ·exact this e he
 | case5 x a y b h1 h2 ih =>
   intro ha hb
   rw [mergeE, if_neg h1, if_neg h2]
   have := ih (fun e he => ha e (by simp [he])) (fun e he => hb e (by simp [he]))
   intro e he
   rcases List.mem_append.1 he with he | he
   ·have q1 := ha x (by simp)
    have q2 := hb y (by simp)
    split at he
    ·simp at he
    ·simp at he; subst he; simp only; omega
   ·exact this e he
theorem drop_nil {α : Type} {l : List α} {i : Nat} (h : l.length ≤ i) : l.drop i = [] := List.drop_eq_nil_of_le h
theorem Qp (a b : List Entry) (ha : a.length ≤ 100000000) (hb' : b.length ≤ 100000000) (sa : A6 1152921504606846976 a) (sb : A6 1152921504606846976 b) : PCall Tryz.prog 131 [.one (Ap a), .one (Ap b)] (.v (.one (Ap (mergeE a b)))) := by
 refine Ac hT Tryz.func131 Tryz.ntmps131 [.tmp 4] fun B => ?_
 repeat' (first | refine kz ?_ | refine Au rfl (fun hb => ?_) (fun hb => ?_) | refine ki ?_ | refine kf ?_ | refine kg ?_ ?_ | fail)
 refine BA 5 56 2 ?_
 refine AO (X := Nat × Nat × Nat × List Entry) [5, 6, 7, 8, 9, 10, 11, 12, 13, 14, 15, 16, 17, 18, 19, 20, 21, 22, 23, 24, 25, 26, 27, 28, 29, 30, 31, 32, 33, 34, 35, 36, 37, 38, 39, 40, 41, 42, 43, 44, 45, 46, 47, 48, 49, 50, 51, 52, 53, 54, 55, 56, 57, 58, 59, 60, 61, 62, 63, 64, 65, 66, 67, 68, 69, 70, 71, 72, 73, 74, 75, 76, 77, 78, 79, 80, 81, 82, 83, 84, 85, 86, 87, 88, 89, 90, 91] (fun x => x.1 ≤ a.length ∧ x.2.1 ≤ b.length ∧ x.2.2.2 ++ mergeE (a.drop x.1) (b.drop x.2.1) = mergeE a b) (fun x lz => (5, .c (.arr 0 x.2.2.1 x.2.2.2.length)) :: (6, (.c (.d (.lit (.int .i64 x.1))))) :: (7, (.c (.d (.lit (.int .i64 x.2.1))))) :: lz) (fun x => [.arr x.2.2.1 56 2 (x.2.2.2.map Entry.d)]) (fun x => (a.length - x.1) + (b.length - x.2.1)) ((0, 0, 1, [])) ?_ ?_ ?_ ?_
 repeat' (first | exact k0 | refine kw ?_ | refine kv ?_ ?_ | omega)
 ·exact ⟨by simp, by simp, by simp⟩
 rintro ⟨i, j, k, out⟩ c ⟨hi, hj, hinv⟩
 dsimp only at hi hj hinv ⊢
 have hol : out.length ≤ a.length + b.length := by
  have := congrArg List.length hinv
  have h2 := G5 a b
  simp at this; omega
 by_cases hlt : i < a.length
 ·have hv : a[i]? = some a[i] := List.getElem?_eq_getElem hlt
  obtain ⟨hs1, hs2⟩ := sa _ (List.getElem_mem hlt)
  generalize a[i] = x at hv hs1 hs2
  rw [AD hv] at hinv
  by_cases hlt2 : j < b.length
  ·have hu : b[j]? = some b[j] := List.getElem?_eq_getElem hlt2
   obtain ⟨hs3, hs4⟩ := sb _ (List.getElem_mem hlt2)
   generalize b[j] = y at hu hs3 hs4
   rw [AD hu, mergeE] at hinv
   repeat' (first | refine kz ?_ | refine Au rfl (fun hb => ?_) (fun hb => ?_) | refine kx hv ?_ | refine kx hu ?_ | refine ki ?_ | refine Aa (Bb _ _) ?_ | refine kf ?_ | refine kg ?_ ?_ | fail)
   · (apply Ae ((i + 1, j, _, out ++ [x])); all_goals (try dsimp only); all_goals (try (repeat' (first | exact k0 | refine w1 ?_ | refine Ab ?_ | refine m1 ?_ ?_ | omega))))
     · rw [List.map_append]; rfl
     · refine ⟨by omega, by omega, ?_⟩
       rw [if_pos hb] at hinv; rw [← hinv, AD hu, List.append_assoc]; rfl
   · (apply Ae ((i, j + 1, _, out ++ [y])); all_goals (try dsimp only); all_goals (try (repeat' (first | exact k0 | refine w1 ?_ | refine Ab ?_ | refine m1 ?_ ?_ | omega))))
     · rw [List.map_append]; rfl
     · refine ⟨by omega, by omega, ?_⟩
       rw [if_neg (by omega), if_pos hb] at hinv; rw [← hinv, AD hv, List.append_assoc]; rfl
   · (apply Ae ((i + 1, j + 1, _, out ++ [⟨x.row, x.count + y.count⟩])); all_goals (try dsimp only); all_goals (try (repeat' (first | exact k0 | refine w1 ?_ | refine Ab ?_ | refine m1 ?_ ?_ | omega))))
     · rw [List.map_append]; rfl
     · refine ⟨by omega, by omega, ?_⟩
       rw [if_neg (by omega), if_neg (by omega), if_neg hb] at hinv; rw [← hinv, List.append_assoc]
   · (apply Ae ((i + 1, j + 1, _, out)); all_goals (try dsimp only); all_goals (try (repeat' (first | exact k0 | refine w1 ?_ | refine Ab ?_ | refine m1 ?_ ?_ | omega))))
     refine ⟨by omega, by omega, ?_⟩
     rw [if_neg (by omega), if_neg (by omega), if_pos hb] at hinv; rw [← hinv]; rfl
  ·rw [drop_nil (show b.length ≤ j by omega), mergeE] at hinv
   · repeat' (first | refine kz ?_ | refine Au rfl (fun hb => ?_) (fun hb => ?_) | refine kx hv ?_ | refine ki ?_ | refine Aa (Bb _ _) ?_ | refine kf ?_ | refine kg ?_ ?_ | fail)
     (apply Ae ((i + 1, j, _, out ++ [x])); all_goals (try dsimp only); all_goals (try (repeat' (first | exact k0 | refine w1 ?_ | refine Ab ?_ | refine m1 ?_ ?_ | omega))))
     · rw [List.map_append]; rfl
     · refine ⟨by omega, by omega, ?_⟩
       rw [← hinv, drop_nil (show b.length ≤ j by omega), List.append_assoc]
       cases h : List.drop (i + 1) a <;> simp [mergeE]
   · simp
 ·by_cases hlt2 : j < b.length
  ·have hu : b[j]? = some b[j] := List.getElem?_eq_getElem hlt2
   generalize b[j] = y at hu
   rw [drop_nil (show a.length ≤ i by omega), AD hu, mergeE] at hinv
   repeat' (first | refine kz ?_ | refine Au rfl (fun hb => ?_) (fun hb => ?_) | refine kx hu ?_ | refine ki ?_ | refine Aa (Bb _ _) ?_ | refine kf ?_ | refine kg ?_ ?_ | fail)
   (apply Ae ((i, j + 1, _, out ++ [y])); all_goals (try dsimp only); all_goals (try (repeat' (first | exact k0 | refine w1 ?_ | refine Ab ?_ | refine m1 ?_ ?_ | omega))))
   · rw [List.map_append]; rfl
   · refine ⟨by omega, by omega, ?_⟩
     rw [← hinv, drop_nil (show a.length ≤ i by omega), mergeE, List.append_assoc]; rfl
  ·rw [drop_nil (show a.length ≤ i by omega), drop_nil (show b.length ≤ j by omega), mergeE, List.append_nil] at hinv
   repeat' (first | refine kz ?_ | refine Au rfl (fun hb => ?_) (fun hb => ?_) | refine ki ?_ | refine kf ?_ | refine kg ?_ ?_ | fail)
   · simp
   · rw [← hinv, Ag (by simp)]; rfl
def sortE (l : List Entry) : List Entry :=
 if h : l.length ≤ 1 then l.filter (fun e => decide (e.count ≠ 0))
 else mergeE (sortE (l.take (l.length / 2))) (sortE (l.drop (l.length / 2)))
 termination_by l.length
 decreasing_by
  ·simp; omega
  ·simp; omega
theorem Lb (l : List Entry) : (sortE l).length ≤ l.length := by
 induction l using sortE.induct with
 | case1 l h => rw [sortE, dif_pos h]; exact List.length_filter_le ..
 | case2 l h ih1 ih2 =>
   rw [sortE, dif_neg h]
   have := G5 (sortE (l.take (l.length / 2))) (sortE (l.drop (l.length / 2)))
   simp at ih1 ih2 ⊢
   omega
theorem HE (l : List Entry) : A6 262144 l → A6 (262144 * l.length) (sortE l) := by
 induction l using sortE.induct with
 | case1 l h =>
   intro hw
   rw [sortE, dif_pos h]
   intro e he
   have hm := (List.mem_filter.1 he).1
   have := hw e hm
   have hl : 1 ≤ l.length := by cases l <;> simp at hm ⊢
   omega
 | case2 l h ih1 ih2 =>
   intro hw
   rw [sortE, dif_neg h]
   have q1 := ih1 (fun e he => hw e (List.mem_of_mem_take he))
   have q2 := ih2 (fun e he => hw e (List.mem_of_mem_drop he))
   refine BC (EA (by omega) (by omega) _ _ q1 q2) ?_
   simp; omega
theorem XL : ∀ (n : Nat) (l : List Entry), l.length ≤ n → l.length ≤ 1000000 → A6 262144 l → PCall Tryz.prog 77 [.one (Ap l)] (.v (.one (Ap (sortE l)))) := by
 intro n
 induction n with
 | zero =>
   intro l hl _ _
   have : l = [] := List.eq_nil_of_length_eq_zero (by omega)
   subst this
   refine Ac hT Tryz.func77 Tryz.ntmps77 [.tmp 2] fun B => ?_
   repeat' (first | refine kz ?_ | refine Au rfl (fun hb => ?_) (fun hb => ?_) | refine ki ?_ | refine kf ?_ | fail)
   rw [sortE]; rfl
 | succ n ih =>
   intro l hl hbig hw
   by_cases h1 : l.length ≤ 1
   ·match l, h1 with
    | [], _ =>
      refine Ac hT Tryz.func77 Tryz.ntmps77 [.tmp 2] fun B => ?_
      repeat' (first | refine kz ?_ | refine Au rfl (fun hb => ?_) (fun hb => ?_) | refine ki ?_ | refine kf ?_ | fail)
      rw [sortE]; rfl
    | [e], _ =>
      refine Ac hT Tryz.func77 Tryz.ntmps77 [.tmp 2] fun B => ?_
      repeat' (first | refine kz ?_ | refine Au rfl (fun hb => ?_) (fun hb => ?_) | refine ki ?_ | refine kf ?_ | fail)
      all_goals (rw [sortE, dif_pos (by simp)]; simp [hb] <;> rfl)
   ·have hS := Lb
    have e : sortE l = mergeE (sortE (l.take (l.length / 2))) (sortE (l.drop (l.length / 2))) := by rw [sortE, dif_neg h1]
    have w1 : A6 262144 (l.take (l.length / 2)) := fun e he => hw e (List.mem_of_mem_take he)
    have w2 : A6 262144 (l.drop (l.length / 2)) := fun e he => hw e (List.mem_of_mem_drop he)
    have c1 := ih (l.take (l.length / 2)) (by simp; omega) (by simp; omega) w1
    have c2 := ih (l.drop (l.length / 2)) (by simp; omega) (by simp; omega) w2
    have l1 := hS (l.take (l.length / 2))
    have l2 := hS (l.drop (l.length / 2))
    simp only [List.length_take, List.length_drop] at l1 l2
    have v1 := HE _ w1
    have v2 := HE _ w2
    simp only [List.length_take, List.length_drop] at v1 v2
    have c3 := Qp (sortE (l.take (l.length / 2))) (sortE (l.drop (l.length / 2))) (by omega) (by omega) (BC v1 (by omega)) (BC v2 (by omega))
    clear ih hS w1 w2 v1 v2 hw
    refine Ac hT Tryz.func77 Tryz.ntmps77 [.tmp 2] fun B => ?_
    repeat' (first | refine kz ?_ | refine Au rfl (fun hb => ?_) (fun hb => ?_) | refine ki ?_ | refine Aa (c1) ?_ | refine Aa (c2) ?_ | refine Aa (c3) ?_ | refine kf ?_ | fail)
    rw [e]
def A2 (l : List Entry) : List Entry × Int := if 4096 < l.length then ([], 8) else if l.all (fun e => Az e.count) then (l, 0) else ([], 9)
theorem T6 (l : List Entry) : PCall Tryz.prog 76 [.one (Ap l)] (.tup [.one (Ap (A2 l).1), .one (.lit (.int .i64 (A2 l).2))]) := by
 refine Ac hT Tryz.func76 Tryz.ntmps76 [.tmp 2, .tmp 3] fun B => ?_
 repeat' (first | refine kz ?_ | refine Au rfl (fun hb => ?_) (fun hb => ?_) | refine ki ?_ | refine kg ?_ ?_ | refine kf ?_ | fail)
 all_goals try (first | (rw [A2, if_pos (by omega)]; rfl) | (rw [A2, if_pos (by omega)]))
 have hl : l.length ≤ 4096 := by omega
 refine AO (X := Nat) [2, 3, 4, 8, 9, 10, 11, 12, 13, 14, 15, 16, 17, 18, 19, 20] (fun x => x ≤ l.length ∧ (l.take x).all (fun e => Az e.count) = true) (fun x lz => (4, (.c (.d (.lit (.int .i64 x))))) :: lz) (fun x => []) (fun x => l.length - x) (0) ?_ ?_ ?_ ?_
 repeat' (first | exact k0 | refine kw ?_ | omega)
 ·exact ⟨by simp, by simp⟩
 rintro i c ⟨hi, hinv⟩
 by_cases hlt : i < l.length
 ·have hv : l[i]? = some l[i] := List.getElem?_eq_getElem hlt
  generalize l[i] = e at hv
  repeat' (first | refine kz ?_ | refine Au rfl (fun hb => ?_) (fun hb => ?_) | refine kx hv ?_ | refine ki ?_ | refine Aa (Gc _) ?_ | refine kg ?_ ?_ | refine kf ?_ | fail)
  ·rw [A2, if_neg (by omega), DP (fun e : Entry => Az e.count) hv hb]; rfl
  ·rw [A2, if_neg (by omega), DP (fun e : Entry => Az e.count) hv hb]; rfl
  ·(apply Ae (i + 1); all_goals (try dsimp only); all_goals (try (repeat' (first | exact k0 | refine kw ?_ | omega))))
   exact ⟨by omega, Cw (fun e : Entry => Az e.count) hv hinv hb⟩
 ·rw [Ag (by omega)] at hinv
  repeat' (first | refine kz ?_ | refine Au rfl (fun hb => ?_) (fun hb => ?_) | refine ki ?_ | refine kg ?_ ?_ | refine kf ?_ | fail)
  all_goals (rw [A2, if_neg (by omega), hinv]; rfl)
def Be (e : Entry) : Bool := AQ e.row && Az e.count
def Bl (l : List Entry) : List Entry × Int := if l.all Be then A2 (sortE l) else ([], 1)
theorem Eq (l : List Entry) (hlen : l.length ≤ 1000000) : PCall Tryz.prog 33 [.one (Ap l)] (.tup [.one (Ap (Bl l).1), .one (.lit (.int .i64 (Bl l).2))]) := by
 refine Ac hT Tryz.func33 Tryz.ntmps33 [.tmp 2, .tmp 3] fun B => ?_
 repeat' (first | refine kz ?_ | refine Au rfl (fun hb => ?_) (fun hb => ?_) | refine ki ?_ | refine Ai rfl rfl (fun hb => ?_) (fun hb => ?_) | refine kg ?_ ?_ | refine kf ?_ | fail)
 refine AO (X := Nat) [2, 3, 4, 5, 6, 7, 8, 9, 10, 11, 12, 13, 14, 15, 16, 17, 18, 19, 20, 21, 22, 23, 24, 25, 26] (fun x => x ≤ l.length ∧ (l.take x).all Be = true) (fun x lz => (4, (.c (.d (.lit (.int .i64 x))))) :: lz) (fun x => []) (fun x => l.length - x) (0) ?_ ?_ ?_ ?_
 repeat' (first | exact k0 | refine kw ?_ | omega)
 ·exact ⟨by simp, by simp⟩
 rintro i c ⟨hi, hinv⟩
 by_cases hlt : i < l.length
 ·have hv : l[i]? = some l[i] := List.getElem?_eq_getElem hlt
  generalize l[i] = e at hv
  repeat' (first | refine kz ?_ | refine Au rfl (fun hb => ?_) (fun hb => ?_) | refine kx hv ?_ | refine ki ?_ | refine Aa (Gc _) ?_ | refine Aa (ED _) ?_ | refine Ai rfl rfl (fun hb => ?_) (fun hb => ?_) | refine kg ?_ ?_ | refine kf ?_ | fail)
  all_goals first
   | (rw [Bl, DP Be hv (by simp_all [Be])]; rfl)
   | ((apply Ae (i + 1); all_goals (try dsimp only); all_goals (try (repeat' (first | exact k0 | refine kw ?_ | omega)))); exact ⟨by omega, Cw Be hv hinv (by simp_all [Be])⟩)
 ·rw [Ag (by omega)] at hinv
  have hw : A6 262144 l := by
   intro e he
   have := List.all_eq_true.1 hinv e he
   simp [Be, Az] at this
   omega
  repeat' (first | refine kz ?_ | refine Au rfl (fun hb => ?_) (fun hb => ?_) | refine ki ?_ | refine Aa (XL l.length l (Nat.le_refl _) hlen hw) ?_ | refine Aa (T6 _) ?_ | refine Ai rfl rfl (fun hb => ?_) (fun hb => ?_) | refine kg ?_ ?_ | refine kf ?_ | fail)
  all_goals (rw [Bl, hinv]; rfl)
end Go.Proofs.YtmpgmjlanngkfaaGreat
end
