/-
  Sums of entries, in plain terms: what sorting and merging make of a list is the one sorted list with the same sums.
-/
import Derived.Test.YtmpgmjlanngkfaaGreatTap
import Derived.Test.YtmpgmjlanngkfaaGreatMpc
import Derived.Test.YtmpgmjlanngkfaaGreatSrt
section
namespace Go.Proofs.YtmpgmjlanngkfaaGreat
open Go.Abs Go.RowKit
attribute [local irreducible] ARun Av MCall PCall HCall Ap SF CF CFs Ag Ai As fin AY VLe
set_option linter.unusedSimpArgs false
set_option maxRecDepth 100000
set_option maxHeartbeats 4000000
def mergeE : List Entry → List Entry → List Entry
 | [], b => b
 | a, [] => a
 | x :: a, y :: b =>
   if Aj x.row y.row < 0 then x :: mergeE a (y :: b)
   else if 0 < Aj x.row y.row then y :: mergeE (x :: a) b
   else (if x.count + y.count = 0 then [] else [⟨x.row, x.count + y.count⟩]) ++ mergeE a b
 termination_by a b => a.length + b.length
theorem DJ (a b : List Entry) : (mergeE a b).length ≤ a.length + b.length := by
 induction a, b using mergeE.induct with
 | case1 b => simp [mergeE]
 | case2 a h => simp [mergeE]
 | case3 x a y b h ih => rw [mergeE, if_pos h]; simp at ih ⊢; omega
 | case4 x a y b h1 h2 ih => rw [mergeE, if_neg h1, if_pos h2]; simp at ih ⊢; omega
 | case5 x a y b h1 h2 ih => rw [mergeE, if_neg h1, if_neg h2]; simp at ih ⊢; split <;> simp <;> omega
def Ba (M : Int) (l : List Entry) : Prop := ∀ e ∈ l, -M ≤ e.count ∧ e.count ≤ M
theorem Bt {M M' : Int} {l : List Entry} (h : Ba M l) (hm : M ≤ M') : Ba M' l := fun e he => by have := h e he; omega
theorem Fk {M N : Int} (hM : 0 ≤ M) (hN : 0 ≤ N) (a b : List Entry) : Ba M a → Ba N b → Ba (M + N) (mergeE a b) := by
 induction a, b using mergeE.induct with
 | case1 b => intro _ hb; rw [mergeE]; exact Bt hb (by omega)
 | case2 a h => intro ha _; rw [mergeE]; exact Bt ha (by omega); exact h
 | case3 x a y b h ih =>
   intro ha hb
   rw [mergeE, if_pos h]
   have := ih (fun e he => ha e (by simp [he])) hb
   intro e he
   rcases FL.1 he with rfl | he
   ·have := ha e (by simp); omega
   ·exact this e he
 | case4 x a y b h1 h2 ih =>
   intro ha hb
   rw [mergeE, if_neg h1, if_pos h2]
   have := ih ha (fun e he => hb e (by simp [he]))
   intro e he
   rcases FL.1 he with rfl | he
   ·have := hb e (by simp); omega
   ·exact this e he
 | case5 x a y b h1 h2 ih =>
   intro ha hb
   rw [mergeE, if_neg h1, if_neg h2]
   have := ih (fun e he => ha e (by simp [he])) (fun e he => hb e (by simp [he]))
   intro e he
   rcases EY.1 he with he | he
   ·have q1 := ha x (by simp)
    have q2 := hb y (by simp)
    split at he
    ·simp at he
    ·simp at he; subst he; simp only; omega
   ·exact this e he
theorem drop_nil {α : Type} {l : List α} {i : Nat} (h : l.length ≤ i) : l.drop i = [] := R9 h
theorem Oc (a b : List Entry) (ha : a.length ≤ 100000000) (lF : b.length ≤ 100000000) (sa : Ba 1152921504606846976 a) (sb : Ba 1152921504606846976 b) : PC 131 [.one (Ak a), .one (Ak b)] (.v (.one (Ak (mergeE a b)))) := by
 refine Ac hT Tryz.func131 Tryz.ntmps131 [.tmp 4] fun B => ?_
 repeat' first | refine kz ?_ | refine Az rfl (fun hb => ?_) (fun hb => ?_) | refine Ao ?_ | refine kh ?_ ?_ | exact ⟨⟩ | fail
 refine Bv 5 56 2 ?_
 refine AK (X := Nat × Nat × Nat × List Entry) (List.range' 5 87) (fun x => x.1 ≤ a.length ∧ x.2.1 ≤ b.length ∧ x.2.2.2 ++ mergeE (a.drop x.1) (b.drop x.2.1) = mergeE a b) (fun x lz => (5, .c (.arr 0 x.2.2.1 x.2.2.2.length)) :: (6, (iC x.1)) :: (7, (iC x.2.1)) :: lz) (fun x => [.arr x.2.2.1 56 2 (x.2.2.2.map Entry.d)]) (fun x => (a.length - x.1) + (b.length - x.2.1)) ((0, 0, 1, [])) ?_ ?_ ?_ ?_
 repeat' first | exact k0 | refine kw ?_ | refine kv ?_ ?_ | omega
 ·exact ⟨by simp, by simp, by simp⟩
 rintro ⟨i, j, k, out⟩ c ⟨hi, hj, hinv⟩
 dsimp only at hi hj hinv ⊢
 have mP : out.length ≤ a.length + b.length := by
  have := congrArg List.length hinv
  have h2 := DJ a b
  simp at this; omega
 by_cases i7 : i < a.length
 ·have hv : a[i]? = some a[i] := Bo i7
  obtain ⟨lu, om⟩ := sa _ (Fo i7)
  generalize a[i] = x at hv lu om
  rw [AB hv] at hinv
  by_cases jk : j < b.length
  ·have hu : b[j]? = some b[j] := Bo jk
   obtain ⟨pG, uw⟩ := sb _ (Fo jk)
   generalize b[j] = y at hu pG uw
   rw [AB hu, mergeE] at hinv
   repeat' first | refine kz ?_ | refine Az rfl (fun hb => ?_) (fun hb => ?_) | refine AF hv ?_ | refine AF hu ?_ | refine Ao ?_ | refine Aa (Bd _ _) ?_ | refine kh ?_ ?_ | exact ⟨⟩ | fail
   ·apply Af ((i + 1, j, _, out ++ [x])) <;> (try dsimp only) <;> try repeat' first | exact k0 | refine w1 ?_ | refine Ab ?_ | refine m1 ?_ ?_ | omega
    ·rw [Ag']; rfl
    ·refine ⟨by omega, by omega, ?_⟩
     rw [if_pos hb] at hinv; rw [← hinv, AB hu, Hc]; rfl
   ·apply Af ((i, j + 1, _, out ++ [y])) <;> (try dsimp only) <;> try repeat' first | exact k0 | refine w1 ?_ | refine Ab ?_ | refine m1 ?_ ?_ | omega
    ·rw [Ag']; rfl
    ·refine ⟨by omega, by omega, ?_⟩
     rw [if_neg (by omega), if_pos hb] at hinv; rw [← hinv, AB hv, Hc]; rfl
   ·apply Af ((i + 1, j + 1, _, out ++ [⟨x.row, x.count + y.count⟩])) <;> (try dsimp only) <;> try repeat' first | exact k0 | refine w1 ?_ | refine Ab ?_ | refine m1 ?_ ?_ | omega
    ·rw [Ag']; rfl
    ·refine ⟨by omega, by omega, ?_⟩
     rw [if_neg (by omega), if_neg (by omega), if_neg hb] at hinv; rw [← hinv, Hc]
   ·apply Af ((i + 1, j + 1, _, out)) <;> (try dsimp only) <;> try repeat' first | exact k0 | refine w1 ?_ | refine Ab ?_ | refine m1 ?_ ?_ | omega
    refine ⟨by omega, by omega, ?_⟩
    rw [if_neg (by omega), if_neg (by omega), if_pos hb] at hinv; rw [← hinv]; rfl
  ·rw [drop_nil (show b.length ≤ j by omega), mergeE] at hinv
   ·repeat' first | refine kz ?_ | refine Az rfl (fun hb => ?_) (fun hb => ?_) | refine AF hv ?_ | refine Ao ?_ | refine Aa (Bd _ _) ?_ | refine kh ?_ ?_ | exact ⟨⟩ | fail
    apply Af ((i + 1, j, _, out ++ [x])) <;> (try dsimp only) <;> try repeat' first | exact k0 | refine w1 ?_ | refine Ab ?_ | refine m1 ?_ ?_ | omega
    ·rw [Ag']; rfl
    ·refine ⟨by omega, by omega, ?_⟩
     rw [← hinv, drop_nil (show b.length ≤ j by omega), Hc]
     cases h : List.drop (i + 1) a <;> simp [mergeE]
   ·simp
 ·by_cases jk : j < b.length
  ·obtain ⟨y, hu⟩ := gx jk
   rw [drop_nil (show a.length ≤ i by omega), AB hu, mergeE] at hinv
   repeat' first | refine kz ?_ | refine Az rfl (fun hb => ?_) (fun hb => ?_) | refine AF hu ?_ | refine Ao ?_ | refine Aa (Bd _ _) ?_ | refine kh ?_ ?_ | exact ⟨⟩ | fail
   apply Af ((i, j + 1, _, out ++ [y])) <;> (try dsimp only) <;> try repeat' first | exact k0 | refine w1 ?_ | refine Ab ?_ | refine m1 ?_ ?_ | omega
   ·rw [Ag']; rfl
   ·refine ⟨by omega, by omega, ?_⟩
    rw [← hinv, drop_nil (show a.length ≤ i by omega), mergeE, Hc]; rfl
  ·rw [drop_nil (show a.length ≤ i by omega), drop_nil (show b.length ≤ j by omega), mergeE, List.append_nil] at hinv
   repeat' first | refine kz ?_ | refine Az rfl (fun hb => ?_) (fun hb => ?_) | refine Ao ?_ | refine kh ?_ ?_ | exact ⟨⟩ | fail
   ·simp
   ·rw [← hinv, Ah (by simp)]; rfl
def sortE (l : List Entry) : List Entry :=
 if h : l.length ≤ 1 then l.filter (fun e => decide (e.count ≠ 0))
 else mergeE (sortE (l.take (l.length / 2))) (sortE (l.drop (l.length / 2)))
 termination_by l.length
 decreasing_by
  ·simp; omega
  ·simp; omega
theorem Hy (l : List Entry) : (sortE l).length ≤ l.length := by
 induction l using sortE.induct with
 | case1 l h => rw [sortE, dif_pos h]; exact Q1 ..
 | case2 l h mi lU =>
   rw [sortE, dif_neg h]
   have := DJ (sortE (l.take (l.length / 2))) (sortE (l.drop (l.length / 2)))
   simp at mi lU ⊢
   omega
theorem Ev (l : List Entry) : Ba 262144 l → Ba (262144 * l.length) (sortE l) := by
 induction l using sortE.induct with
 | case1 l h =>
   intro hw
   rw [sortE, dif_pos h]
   intro e he
   have hm := (L1.1 he).1
   have := hw e hm
   have hl : 1 ≤ l.length := by cases l <;> simp at hm ⊢
   omega
 | case2 l h mi lU =>
   intro hw
   rw [sortE, dif_neg h]
   have q1 := mi (fun e he => hw e (I0 he))
   have q2 := lU (fun e he => hw e (Tn he))
   refine Bt (Fk (by omega) (by omega) _ _ q1 q2) ?_
   simp; omega
theorem RR : ∀ (n : Nat) (l : List Entry), l.length ≤ n → l.length ≤ 1000000 → Ba 262144 l → PC 77 [.one (Ak l)] (.v (.one (Ak (sortE l)))) := by
 intro n
 induction n with
 | zero =>
   intro l hl _ _
   have : l = [] := XP (by omega)
   subst this
   refine Ac hT Tryz.func77 Tryz.ntmps77 [.tmp 2] fun B => ?_
   repeat' first | refine kz ?_ | refine Az rfl (fun hb => ?_) (fun hb => ?_) | refine Ao ?_ | refine kf ?_ | fail
   rw [sortE]; rfl
 | succ n ih =>
   intro l hl kX hw
   by_cases h1 : l.length ≤ 1
   ·match l, h1 with
    | [], _ =>
      refine Ac hT Tryz.func77 Tryz.ntmps77 [.tmp 2] fun B => ?_
      repeat' first | refine kz ?_ | refine Az rfl (fun hb => ?_) (fun hb => ?_) | refine Ao ?_ | refine kf ?_ | fail
      rw [sortE]; rfl
    | [e], _ =>
      refine Ac hT Tryz.func77 Tryz.ntmps77 [.tmp 2] fun B => ?_
      repeat' first | refine kz ?_ | refine Az rfl (fun hb => ?_) (fun hb => ?_) | refine Ao ?_ | refine kf ?_ | fail
      all_goals (rw [sortE, dif_pos (by simp)]; simp [hb] <;> rfl)
   ·have hS := Hy
    have e : sortE l = mergeE (sortE (l.take (l.length / 2))) (sortE (l.drop (l.length / 2))) := by rw [sortE, dif_neg h1]
    have w1 : Ba 262144 (l.take (l.length / 2)) := fun e he => hw e (I0 he)
    have w2 : Ba 262144 (l.drop (l.length / 2)) := fun e he => hw e (Tn he)
    have c1 := ih (l.take (l.length / 2)) (by simp; omega) (by simp; omega) w1
    have c2 := ih (l.drop (l.length / 2)) (by simp; omega) (by simp; omega) w2
    have l1 := hS (l.take (l.length / 2))
    have l2 := hS (l.drop (l.length / 2))
    simp only [Gu, Fm] at l1 l2
    have v1 := Ev _ w1
    have v2 := Ev _ w2
    simp only [Gu, Fm] at v1 v2
    have c3 := Oc (sortE (l.take (l.length / 2))) (sortE (l.drop (l.length / 2))) (by omega) (by omega) (Bt v1 (by omega)) (Bt v2 (by omega))
    clear ih hS w1 w2 v1 v2 hw
    refine Ac hT Tryz.func77 Tryz.ntmps77 [.tmp 2] fun B => ?_
    repeat' first | refine kz ?_ | refine Az rfl (fun hb => ?_) (fun hb => ?_) | refine Ao ?_ | refine Aa (c1) ?_ | refine Aa (c2) ?_ | refine Aa (c3) ?_ | refine kf ?_ | fail
    rw [e]
def AU (l : List Entry) : List Entry × Int := if 4096 < l.length then ([], 8) else if l.all (fun e => AD e.count) then (l, 0) else ([], 9)
theorem RS (l : List Entry) : PC 76 [.one (Ak l)] (.tup [.one (Ak (AU l).1), .one (.lit (.int .i64 (AU l).2))]) := by
 refine Ac hT Tryz.func76 Tryz.ntmps76 [.tmp 2, .tmp 3] fun B => ?_
 repeat' first | refine kz ?_ | refine Az rfl (fun hb => ?_) (fun hb => ?_) | refine Ao ?_ | refine kh ?_ ?_ | exact ⟨⟩ | fail
 all_goals try (first | (rw [AU, if_pos (by omega)]; rfl) | (rw [AU, if_pos (by omega)]))
 have hl : l.length ≤ 4096 := by omega
 refine AK (X := Nat) ([2, 3, 4] ++ List.range' 8 13) (fun x => x ≤ l.length ∧ (l.take x).all (fun e => AD e.count) = true) (fun x lz => (4, (iC x)) :: lz) (fun x => []) (fun x => l.length - x) (0) ?_ ?_ ?_ ?_
 repeat' first | exact k0 | refine kw ?_ | omega
 ·exact ⟨by simp, by simp⟩
 rintro i c ⟨hi, hinv⟩
 by_cases i7 : i < l.length
 ·obtain ⟨e, hv⟩ := gx i7
  repeat' first | refine kz ?_ | refine Az rfl (fun hb => ?_) (fun hb => ?_) | refine AF hv ?_ | refine Ao ?_ | refine Aa (Dy _) ?_ | refine kh ?_ ?_ | exact ⟨⟩ | fail
  ·rw [AU, if_neg (by omega), Ey (fun e : Entry => AD e.count) hv hb]; rfl
  ·rw [AU, if_neg (by omega), Ey (fun e : Entry => AD e.count) hv hb]; rfl
  ·apply Af (i + 1) <;> (try dsimp only) <;> try repeat' first | exact k0 | refine kw ?_ | omega
   exact ⟨by omega, CX (fun e : Entry => AD e.count) hv hinv hb⟩
 ·rw [Ah (by omega)] at hinv
  repeat' first | refine kz ?_ | refine Az rfl (fun hb => ?_) (fun hb => ?_) | refine Ao ?_ | refine kh ?_ ?_ | exact ⟨⟩ | fail
  all_goals (rw [AU, if_neg (by omega), hinv]; rfl)
def Bb (e : Entry) : Bool := AR e.row && AD e.count
def Bh (l : List Entry) : List Entry × Int := if l.all Bb then AU (sortE l) else ([], 1)
theorem E9 (l : List Entry) (hlen : l.length ≤ 1000000) : PC 33 [.one (Ak l)] (.tup [.one (Ak (Bh l).1), .one (.lit (.int .i64 (Bh l).2))]) := by
 refine Ac hT Tryz.func33 Tryz.ntmps33 [.tmp 2, .tmp 3] fun B => ?_
 repeat' first | refine kz ?_ | refine Az rfl (fun hb => ?_) (fun hb => ?_) | refine Ao ?_ | refine Al rfl rfl (fun hb => ?_) (fun hb => ?_) | refine kh ?_ ?_ | exact ⟨⟩ | fail
 refine AK (X := Nat) (List.range' 2 25) (fun x => x ≤ l.length ∧ (l.take x).all Bb = true) (fun x lz => (4, (iC x)) :: lz) (fun x => []) (fun x => l.length - x) (0) ?_ ?_ ?_ ?_
 repeat' first | exact k0 | refine kw ?_ | omega
 ·exact ⟨by simp, by simp⟩
 rintro i c ⟨hi, hinv⟩
 by_cases i7 : i < l.length
 ·obtain ⟨e, hv⟩ := gx i7
  repeat' first | refine kz ?_ | refine Az rfl (fun hb => ?_) (fun hb => ?_) | refine AF hv ?_ | refine Ao ?_ | refine Aa (Dy _) ?_ | refine Aa (CY _) ?_ | refine Al rfl rfl (fun hb => ?_) (fun hb => ?_) | refine kh ?_ ?_ | exact ⟨⟩ | fail
  all_goals first
   | (rw [Bh, Ey Bb hv (by simp_all [Bb])]; rfl)
   | ((apply Af (i + 1); all_goals (try dsimp only); all_goals (try (repeat' (first | exact k0 | refine kw ?_ | omega)))); exact ⟨by omega, CX Bb hv hinv (by simp_all [Bb])⟩)
 ·rw [Ah (by omega)] at hinv
  have hw : Ba 262144 l := by
   intro e he
   have := Eg.1 hinv e he
   simp [Bb, AD] at this
   omega
  repeat' first | refine kz ?_ | refine Az rfl (fun hb => ?_) (fun hb => ?_) | refine Ao ?_ | refine Aa (RR l.length l (Nat.le_refl _) hlen hw) ?_ | refine Aa (RS _) ?_ | refine Al rfl rfl (fun hb => ?_) (fun hb => ?_) | refine kh ?_ ?_ | exact ⟨⟩ | fail
  all_goals (rw [Bh, hinv]; rfl)
end Go.Proofs.YtmpgmjlanngkfaaGreat
end
section
namespace Go.Proofs.YtmpgmjlanngkfaaGreat
open Go.Abs Go.RowKit
set_option linter.unusedSimpArgs false
theorem GN {a b : Int} (h : Kb a = Kb b) : a % 256 = b % 256 := by
 have h1 := Jj a
 have h2 := Jj b
 rw [h] at h1
 have := h1.trans h2.symm
 simpa [IntKind.wrap, IntKind.bits, IntKind.signed] using this
theorem Km (n : Int) (k : Nat) (z : Int) (hk : k ≤ 64) (hz : (2 : Int) ^ k = z) : CQ .i64 n k = n / z := by
 rw [Za hk, hz]
 exact Int.fdiv_eq_ediv_of_nonneg n (by rw [← hz]; exact Int.le_of_lt (Int.pow_pos (by decide)))
theorem Wn (n : Int) : CQ .i64 n 32 = n / 4294967296 := Km n 32 _ (by decide) rfl
theorem Wo (n : Int) : CQ .i64 n 24 = n / 16777216 := Km n 24 _ (by decide) rfl
theorem Wp (n : Int) : CQ .i64 n 16 = n / 65536 := Km n 16 _ (by decide) rfl
theorem bV (n : Int) : CQ .i64 n 8 = n / 256 := Km n 8 _ (by decide) rfl
theorem Ro {a b : Int} (ha : 0 ≤ a) (qd : a ≤ 8589934592) (hb : 0 ≤ b) (lF : b ≤ 8589934592) {x y : List UInt8} (h : BI a ++ x = BI b ++ y) : a = b ∧ x = y := by
 simp only [BI, List.cons_append, List.nil_append, XV, true_and] at h
 obtain ⟨h1, h2, h3, h4, h5, h6⟩ := h
 have q1 := GN h1
 have q2 := GN h2
 have q3 := GN h3
 have q4 := GN h4
 have q5 := GN h5
 rw [Wn, Wn] at q1
 rw [Wo, Wo] at q2
 rw [Wp, Wp] at q3
 rw [bV, bV] at q4
 exact ⟨by omega, h6⟩
theorem NZ : ∀ {l m x y : List UInt8}, CV l ++ 0 :: 0 :: x = CV m ++ 0 :: 0 :: y → l = m ∧ x = y
 | [], [], x, y, h => by simp [CV] at h; exact ⟨rfl, h⟩
 | [], b :: m, x, y, h => by
   have : CV (b :: m) = EM b ++ CV m := by simp [CV]
   rw [this] at h
   unfold EM at h
   split at h
   ·simp [CV] at h
   ·rename_i hb
    simp [CV] at h
    exact absurd h.1.symm hb
 | a :: l, [], x, y, h => by
   have : CV (a :: l) = EM a ++ CV l := by simp [CV]
   rw [this] at h
   unfold EM at h
   split at h
   ·simp [CV] at h
   ·rename_i hb
    simp [CV] at h
    exact absurd h.1 hb
 | a :: l, b :: m, x, y, h => by
   have e1 : CV (a :: l) = EM a ++ CV l := by simp [CV]
   have e2 : CV (b :: m) = EM b ++ CV m := by simp [CV]
   rw [e1, e2] at h
   by_cases ha : a = 0
   ·by_cases hb : b = 0
    ·subst ha; subst hb
     simp only [EM, if_true, List.cons_append, List.nil_append, XV, true_and] at h
     obtain ⟨q1, q2⟩ := NZ h
     exact ⟨by rw [q1], q2⟩
    ·subst ha
     simp only [EM, if_true, if_neg hb, List.cons_append, List.nil_append, XV] at h
     exact absurd h.1.symm hb
   ·by_cases hb : b = 0
    ·subst hb
     simp only [EM, if_true, if_neg ha, List.cons_append, List.nil_append, XV] at h
     exact absurd h.1 ha
    ·simp only [EM, if_neg ha, if_neg hb, List.cons_append, List.nil_append, XV] at h
     obtain ⟨q1, q2⟩ := NZ h.2
     exact ⟨by rw [h.1, q1], q2⟩
theorem BT {v : Val} (h : v.valid = true) : (v.kind = 0 ∧ v = Val.null) ∨ (v.kind = 1 ∧ -4294967296 ≤ v.int ∧ v.int ≤ 4294967296 ∧ v = ⟨1, v.int, ⟨#[]⟩⟩) ∨ (v.kind = 2 ∧ v.text.size ≤ 32 ∧ v = ⟨2, 0, v.text⟩) := by
 have jP : ∀ b : ByteArray, b.toList = [] → b = ⟨#[]⟩ := fun b hb => Hz (by rw [hb, ByteArray.toList_eq])
 unfold Val.valid at h
 cases v with | mk k n t =>
 simp only at h ⊢
 split at h
 ·rename_i hk
  simp at h
  exact .inl ⟨hk, by rw [Val.null, hk, h.1, jP t h.2]⟩
 ·split at h
  ·rename_i hk
   simp at h
   exact .inr (.inl ⟨hk, h.1.1, h.1.2, by rw [hk, jP t h.2]⟩)
  ·split at h
   ·rename_i hk
    simp at h
    exact .inr (.inr ⟨hk, h.2, by rw [hk, h.1]⟩)
   ·cases h
theorem K5 {v u : Val} (hv : v.valid = true) (hu : u.valid = true) {x y : List UInt8} (h : AT v ++ x = AT u ++ y) : v = u ∧ x = y := by
 rcases BT hv with ⟨kv, ev⟩ | ⟨kv, v1, v2, ev⟩ | ⟨kv, _, ev⟩ <;> rcases BT hu with ⟨ku, eu⟩ | ⟨ku, u1, u2, eu⟩ | ⟨ku, _, eu⟩ <;> simp [AT, kv, ku, BI] at h
 ·exact ⟨by rw [ev, eu], h⟩
 ·have h' : BI (v.int + 4294967296) ++ x = BI (u.int + 4294967296) ++ y := by simp [BI, h]
  obtain ⟨q1, q2⟩ := Ro (by omega) (by omega) (by omega) (by omega) h'
  exact ⟨by rw [ev, eu, show v.int = u.int by omega], q2⟩
 ·obtain ⟨q1, q2⟩ := NZ (by simpa using h)
  refine ⟨?_, q2⟩
  rw [ev, eu, Hz (a := v.text) (b := u.text) (by rw [ByteArray.toList_eq, ByteArray.toList_eq]; exact q1)]
theorem Hl (v : Val) : AT v ≠ [] := by
 unfold AT
 split
 ·simp [BI]
 ·split <;> simp
theorem FY : ∀ {r s : List Val}, Ar r = Ar s → r.map Val.clean = s.map Val.clean
 | [], [], _ => rfl
 | [], b :: s, h => by
   have : Ar (b :: s) = AT b.clean ++ Ar s := by simp [Ar]
   rw [this] at h
   have hl := congrArg List.length h
   have j2 : 0 < (AT b.clean).length := dD.2 (Hl b.clean)
   rw [CR, show (Ar []).length = 0 from rfl] at hl
   omega
 | a :: r, [], h => by
   have : Ar (a :: r) = AT a.clean ++ Ar r := by simp [Ar]
   rw [this] at h
   have hl := congrArg List.length h
   have j2 : 0 < (AT a.clean).length := dD.2 (Hl a.clean)
   rw [CR, show (Ar []).length = 0 from rfl] at hl
   omega
 | a :: r, b :: s, h => by
   have e1 : Ar (a :: r) = AT a.clean ++ Ar r := by simp [Ar]
   have e2 : Ar (b :: s) = AT b.clean ++ Ar s := by simp [Ar]
   rw [e1, e2] at h
   obtain ⟨q1, q2⟩ := K5 (A3 a) (A3 b) h
   rw [List.map_cons, List.map_cons, q1, FY q2]
theorem En (r : List Val) : Ar (r.map Val.clean) = Ar r := by
 have : ∀ v : Val, v.clean.clean = v.clean := fun v => by rw [Val.clean, if_pos (A3 v)]
 simp [Ar, List.flatMap_map, this]
theorem Cm {r s : List Val} : Ar r = Ar s ↔ Aj r s = 0 := by
 rw [rowCmp_ok.zero]
 constructor
 ·exact FY
 ·intro h
  rw [← En r, ← En s, h]
end Go.Proofs.YtmpgmjlanngkfaaGreat
end
section
namespace Go.Abs
open Go.RowKit
section
variable {P : Program} {T : TypeId → Option TI} {F0 : Nat → Prop} {w0 : World}
variable {dr : Bool} {ops rest : List Oper} {K : St → Prop} {n : Nat} {sl : List (Nat × SVal)} {mem : List Blk} {ck : Nat} {df : List (FuncId × List Cell)} {acc : List Nat}
variable {d : Tmp} {op : Op} {ty : TypeId} {pos : String} {iU : Array Edge} {g : Option (Nat × Bool)}
theorem FG {m : List Blk} : As m m := fun _ _ h _ => h
theorem Qm : As [] [.dead] := fun s x h hl => by
 cases s with
 | zero => simp at h; subst h; exact hl.elim
 | succ s => simp at h
def ie (r k : Nat) (es : List (List Dat)) (c : Cell) (y : Dat) : Prop := (∃ m, c = .arr r k m ∧ m ≤ es.length ∧ y = .sl (es.take m)) ∨ c.dat = some y
def CFrs (r k : Nat) (es : List (List Dat)) : List Cell → List Dat → Prop
 | [], [] => True
 | c :: cs, y :: ys => ie r k es c y ∧ CFrs r k es cs ys
 | _, _ => False
theorem CFrs.get {r k : Nat} {es : List (List Dat)} : ∀ {cs : List Cell} {ys : List Dat}, CFrs r k es cs ys → cs.length = ys.length ∧ ∀ (i : Nat) c y, cs[i]? = some c → ys[i]? = some y → ie r k es c y
 | [], [], _ => ⟨rfl, by simp⟩
 | c :: cs, y :: ys, h => by
   obtain ⟨h1, h2⟩ := CFrs.get h.2
   refine ⟨by simp [h1], fun i c' y' hc hy => ?_⟩
   cases i with
   | zero => simp at hc hy; subst hc; subst hy; exact h.1
   | succ i => exact h2 i c' y' (by simpa using hc) (by simpa using hy)
 | [], _ :: _, h => h.elim
 | _ :: _, [], h => h.elim
theorem M3 [tc : TC P T] (r : Nat) {t e : TypeId} {x : Tmp} {i ei : TI} {k i6 : Nat} {iX : TypeId} {es : List (List Dat)} {cs : List Cell} {ds : List Dat} {f' : List Blk} (h : Reg P F0 w0 dr ops K rest ⟨n, (d, .c (.d (.sl [ds]))) :: sl, f', ck, df⟩ (2 :: acc)) (jF : CFrs r k es cs ds) (hm : mem[r]? = some (.arr k iX i6 es) := by exact rfl) (hw : GW ops g sl := by first | exact trivial | exact rfl)
  (hx : AH sl (.tmp x) = .agg cs := by exact rfl) (ht : T t = some i := by exact rfl) (hi : i.desc = .slice e := by exact rfl) (jg : T e = some ei := by exact rfl) (hk : (Nat.blt 0 ei.size && (Nat.beq ei.zero.length ei.size && (Nat.ble ei.size 16777216 && Nat.beq cs.length ei.size))) = true := by exact rfl) (iZ : mem.set r .dead = f' := by repeat' (first | exact A6 rfl | apply AG rfl)) :
  Reg P F0 w0 dr ops K (⟨some d, .buildSlice t 1 #[(0, .tmp x)], ty, pos, iU, g⟩ :: rest) ⟨n, sl, mem, ck, df⟩ acc := by
 subst iZ
 refine U6 (jx := []) hw (fun B σ E a w hF ow he jn je hr hB hd next Q hn => ?_) h
 subst hF; subst ow
 simp only [BM, Sd, Md, Nat.blt, Tq] at hk
 have kW : σ.mem[r]? = some (.arr k iX i6 es) := by rw [jn]; exact hm
 have qS := hr.1.freeze r k iX i6 es kW
 have y6 : SRep E w (a.eval (.tmp x)) (.agg cs) := by
  have := hr.ev (.tmp x)
  rw [he (.tmp x) (by simp [Op.operands]), hx] at this
  exact this
 obtain ⟨jz, hcg⟩ := jF.get
 have hxd : SRep { E with F := fun i => E.F i ∨ (i = E.blk r ∧ E.cap r ≠ 0) } w (a.eval (.tmp x)) (.agg (ds.map .d)) := by
  generalize a.eval (.tmp x) = v at y6
  cases y6 with | agg _ vs hl hv =>
  refine .agg _ vs (by rw [hl, jz]; simp) fun i u y hu hy => ?_
  rw [BU] at hy
  cases hq : ds[i]? with
  | none => rw [hq] at hy; cases hy
  | some z =>
    rw [hq] at hy
    simp only [Option.map_some, Option.some.injEq] at hy
    subst hy
    have i7 : i < cs.length := by rw [jz]; exact lt_of_getElem? hq
    have y7 : cs[i]? = some cs[i] := Bo i7
    have j4 := hv i u _ hu y7
    rcases hcg i _ z y7 hq with ⟨m, h1, h2, rfl⟩ | h1
    ·rw [h1] at j4
     exact .d (Ek hr.1 kW h2 j4 (fun b hb => .inl hb) fun hz => .inr ⟨rfl, hz⟩)
    ·exact .d ((j4.dat h1).mono (fun _ hb => .inl hb) (fun _ _ => rfl))
 have ab' : a.eval (.tmp x) = a.tmps.getD x undef := rfl
 have hρ : ∀ o, SRep { E with F := fun i => E.F i ∨ (i = E.blk r ∧ E.cap r ≠ 0) } w (a.eval o) (St.ev { σ with mem := σ.mem.set r .dead, slots := (x, .agg (ds.map .d)) :: σ.slots } o) := by
  intro o
  cases o with
  | tmp s =>
    simp only [St.ev, St.get, BB]
    split
    ·rename_i q; subst q; exact hxd
    ·exact (hr.ev (.tmp s)).le qS.2
  | const v => exact (hr.ev (.const v)).le qS.2
  | global q => exact (hr.ev (.global q)).le qS.2
  | func q => exact (hr.ev (.func q)).le qS.2
 obtain ⟨a1, a2, a3, a4, a5⟩ := i
 simp only at hi
 subst hi
 obtain ⟨v, w', E', y, q1, q2, q3, q4, q5⟩ := HM (P := P) tc.ok (σ := { σ with mem := σ.mem.set r .dead, slots := (x, .agg (ds.map .d)) :: σ.slots }) qS.1 (t := t) (len := 1) (ρ := a.eval) hρ (parts := #[(0, .tmp x)]) (V := fun y => y = .c (.d (.sl [ds]))) (by
  have tY : Eh (ds.map Cell.d) = some ds := by
    have : ∀ l : List Dat, Eh (l.map Cell.d) = some l := fun l => by
     induction l with
     | nil => rfl
     | cons z l ih => simp [Eh, ih, Cell.dat]
    exact this ds
  simp only [CE, ht, jg, Ei, St.ev, St.get, BB, if_true, SVal.cells, tY]
  refine ⟨hk.1, hk.2.1, by omega, rfl, ?_⟩
  rw [if_pos (by rw [← jz]; exact hk.2.2.2)])
 subst q5
 unfold Oper.wp
 rw [show (execOp a.eval ⟨some d, .buildSlice t 1 #[(0, .tmp x)], ty, pos, iU, g⟩).run P w = .ok (.value v) w' by have uk := q1; simp at uk; simp [execOp, uk]]
 refine hn _ _ _ [] _ _ ⟨rfl, rfl, rfl, rfl⟩ ⟨E', ?_, hB.trans (qS.2.trans q2)⟩
 rw [FH, ← jn, ← je]
 exact hr.putOE (qS.2.trans q2) q3 hd q4
end
end Go.Abs
end
section
namespace Go.Proofs.YtmpgmjlanngkfaaGreat
open Go.Abs Go.RowKit
set_option linter.unusedSimpArgs false
set_option maxRecDepth 100000
variable {l : List Entry} {r s : List Val}
theorem Kq {mem : List Blk} {r k m z : Nat} {iX : TypeId} {es x : List (List Dat)} (hm : mem[r]? = some (.arr k iX z es)) (hl : m ≤ es.length) (hx : es.take m = x) : SFs mem [.c (.arr r k m)] [.one (.sl x)] :=
 ⟨NS hm hl (by rw [hx]), trivial⟩
def eR (a b : Entry) : Prop := Aj a.row b.row < 0
theorem cL (a : Entry) : ¬ eR a a := by unfold eR; rw [rowCmp_ok.refl]; omega
theorem aq (a b c : Entry) (h1 : eR a b) (h2 : eR b c) : eR a c := rowCmp_ok.trans _ _ _ h1 h2
def Bn : List Entry → List Val → Int
 | [], _ => 0
 | e :: l, r => (if Aj e.row r = 0 then e.count else 0) + Bn l r
theorem De (a b : List Entry) (r : List Val) : Bn (a ++ b) r = Bn a r + Bn b r := by
 induction a with
 | nil => simp [Bn]
 | cons e a ih => simp only [List.cons_append, Bn, ih]; omega
theorem Nh {a b : List Entry} (h : a.Perm b) (r : List Val) : Bn a r = Bn b r := by
 induction h with
 | nil => rfl
 | cons x _ ih => simp only [Bn, ih]
 | swap x y l => simp only [Bn]; omega
 | trans _ _ mi lU => exact mi.trans lU
theorem JB (h : ∀ e ∈ l, Aj e.row r ≠ 0) : Bn l r = 0 := by
 induction l with
 | nil => rfl
 | cons e l ih => rw [Bn, if_neg (h e (by simp)), ih (fun x hx => h x (by simp [hx]))]; rfl
def apart (l : List Entry) : Prop := l.Pairwise fun a b => Aj a.row b.row ≠ 0
theorem ED (h : Aj r s = 0) : Aj s r = 0 := (rowCmp_ok.zero _ _).2 ((rowCmp_ok.zero _ _).1 h).symm
theorem Ge {t : List Val} (h : Aj r s = 0) (h2 : Aj s t = 0) : Aj r t = 0 := (rowCmp_ok.zero _ _).2 (((rowCmp_ok.zero _ _).1 h).trans ((rowCmp_ok.zero _ _).1 h2))
theorem Ni (h : Aj r s = 0) (t : List Val) : (Aj r t = 0) ↔ (Aj s t = 0) :=
 ⟨fun q => Ge (ED h) q, fun q => Ge h q⟩
theorem C0 (h : l.Pairwise eR) : apart l := h.imp fun {a b} q => by unfold eR at q; omega
theorem G8 (h : apart l) {e : Entry} (he : e ∈ l) (hr : Aj e.row r = 0) : Bn l r = e.count := by
 induction l with
 | nil => cases he
 | cons x l ih =>
   obtain ⟨h1, h2⟩ := LW.1 h
   rcases FL.1 he with rfl | he
   ·rw [Bn, if_pos hr, JB (fun y hy q => h1 y hy (Ge hr (ED q)))]; omega
   ·rw [Bn, if_neg (fun q => h1 e he (Ge q (ED hr))), ih h2 he]; omega
theorem Kr (h : Bn l r ≠ 0) : ∃ e ∈ l, Aj e.row r = 0 := by
 apply Zz
 intro hn
 exact h (JB fun e he q => hn ⟨e, he, q⟩)
def AE (r : List Val) : Prop := r.map Val.clean = r
theorem EV (hr : AE r) (hs : AE s) (h : Aj r s = 0) : r = s := by
 have := (rowCmp_ok.zero _ _).1 h
 rw [hr, hs] at this; exact this
theorem Bu (h : AR r = true) : AE r := by
 simp only [AR, BM, Eg] at h
 unfold AE
 conv => rhs; rw [← List.map_id r]
 apply dE
 intro v hv
 rw [Val.clean, if_pos (h.2 v hv)]; rfl
structure Sorted (l : List Entry) : Prop where
 up : l.Pairwise eR
 nz : ∀ e ∈ l, e.count ≠ 0
 cl : ∀ e ∈ l, AE e.row
theorem Sorted.unique {s t : List Entry} (hs : Sorted s) (ht : Sorted t) (h : ∀ r, Bn s r = Bn t r) : s = t := by
 have key : ∀ {s t : List Entry}, Sorted s → Sorted t → (∀ r, Bn s r = Bn t r) → ∀ e, e ∈ s → e ∈ t := by
  intro s t hs ht h e he
  have h1 := G8 (C0 hs.up) he (rowCmp_ok.refl e.row)
  have h2 : Bn t e.row ≠ 0 := by rw [← h, h1]; exact hs.nz e he
  obtain ⟨x, hx, hr⟩ := Kr h2
  have h3 := G8 (C0 ht.up) hx hr
  have mc := EV (ht.cl x hx) (hs.cl e he) hr
  have : x = e := by
   cases x; cases e
   simp only at mc h3 h1
   rw [mc] at *
   rw [← h] at h3
   rw [← h3, h1]
  rw [← this]; exact hx
 exact DN cL aq hs.up ht.up fun e => ⟨key hs ht h e, key ht hs (fun r => (h r).symm) e⟩
theorem QK (a b : List Entry) (r : List Val) : Bn (mergeE a b) r = Bn a r + Bn b r := by
 induction a, b using mergeE.induct with
 | case1 b => simp [mergeE, Bn]
 | case2 a h => rw [mergeE]; simp [Bn]; exact h
 | case3 x a y b h ih => rw [mergeE, if_pos h]; simp only [Bn] at ih ⊢; rw [ih]; omega
 | case4 x a y b h1 h2 ih => rw [mergeE, if_neg h1, if_pos h2]; simp only [Bn] at ih ⊢; rw [ih]; omega
 | case5 x a y b h1 h2 ih =>
   rw [mergeE, if_neg h1, if_neg h2, De, ih]
   have h0 : Aj x.row y.row = 0 := by omega
   have hi := Ni h0 r
   simp only [Bn]
   split
   ·rename_i hz
    simp only [Bn]
    by_cases hq : Aj y.row r = 0
    ·rw [if_pos (hi.2 hq), if_pos hq]; omega
    ·rw [if_neg (fun q => hq (hi.1 q)), if_neg hq]; omega
   ·simp only [Bn]
    by_cases hq : Aj y.row r = 0
    ·rw [if_pos (hi.2 hq), if_pos hq]; omega
    ·rw [if_neg (fun q => hq (hi.1 q)), if_neg hq]; omega
theorem DK (a b : List Entry) (e : Entry) : e ∈ mergeE a b → ∃ x, (x ∈ a ∨ x ∈ b) ∧ x.row = e.row := by
 induction a, b using mergeE.induct with
 | case1 b => intro h; rw [mergeE] at h; exact ⟨e, .inr h, rfl⟩
 | case2 a h => intro h'; rw [mergeE] at h'; exact ⟨e, .inl h', rfl⟩; exact h
 | case3 x a y b h ih =>
   intro h'
   rw [mergeE, if_pos h] at h'
   rcases FL.1 h' with rfl | h'
   ·exact ⟨e, .inl (by simp), rfl⟩
   ·obtain ⟨z, hz, q⟩ := ih h'
    exact ⟨z, hz.imp (fun u => by simp [u]) id, q⟩
 | case4 x a y b h1 h2 ih =>
   intro h'
   rw [mergeE, if_neg h1, if_pos h2] at h'
   rcases FL.1 h' with rfl | h'
   ·exact ⟨e, .inr (by simp), rfl⟩
   ·obtain ⟨z, hz, q⟩ := ih h'
    exact ⟨z, hz.imp id (fun u => by simp [u]), q⟩
 | case5 x a y b h1 h2 ih =>
   intro h'
   rw [mergeE, if_neg h1, if_neg h2] at h'
   rcases EY.1 h' with h' | h'
   ·split at h'
    ·cases h'
    ·obtain rfl := Ke.1 h'
     exact ⟨x, .inl (by simp), rfl⟩
   ·obtain ⟨z, hz, q⟩ := ih h'
    exact ⟨z, hz.imp (fun u => by simp [u]) (fun u => by simp [u]), q⟩
theorem Fc {e : Entry} (h : Sorted (e :: l)) : Sorted l := ⟨(LW.1 h.up).2, fun x hx => h.nz x (by simp [hx]), fun x hx => h.cl x (by simp [hx])⟩
theorem Fl (a b : List Entry) : Sorted a → Sorted b → Sorted (mergeE a b) := by
 induction a, b using mergeE.induct with
 | case1 b => intro _ hb; rw [mergeE]; exact hb
 | case2 a h => intro ha _; rw [mergeE]; exact ha; exact h
 | case3 x a y b h ih =>
   intro ha hb
   have q := ih (Fc ha) hb
   rw [mergeE, if_pos h]
   refine ⟨LW.2 ⟨fun z hz => ?_, q.up⟩, fun z hz => ?_, fun z hz => ?_⟩
   ·obtain ⟨u, hu, hr⟩ := DK _ _ z hz
    show Aj x.row z.row < 0
    rw [← hr]
    rcases hu with hu | hu
    ·exact (LW.1 ha.up).1 u hu
    ·rcases FL.1 hu with rfl | hu
     ·exact h
     ·exact rowCmp_ok.trans _ _ _ h ((LW.1 hb.up).1 u hu)
   ·rcases FL.1 hz with rfl | hz
    ·exact ha.nz z (by simp)
    ·exact q.nz z hz
   ·rcases FL.1 hz with rfl | hz
    ·exact ha.cl z (by simp)
    ·exact q.cl z hz
 | case4 x a y b h1 h2 ih =>
   intro ha hb
   have h : Aj y.row x.row < 0 := (rowCmp_ok.anti _ _).2 h2
   have q := ih ha (Fc hb)
   rw [mergeE, if_neg h1, if_pos h2]
   refine ⟨LW.2 ⟨fun z hz => ?_, q.up⟩, fun z hz => ?_, fun z hz => ?_⟩
   ·obtain ⟨u, hu, hr⟩ := DK _ _ z hz
    show Aj y.row z.row < 0
    rw [← hr]
    rcases hu with hu | hu
    ·rcases FL.1 hu with rfl | hu
     ·exact h
     ·exact rowCmp_ok.trans _ _ _ h ((LW.1 ha.up).1 u hu)
    ·exact (LW.1 hb.up).1 u hu
   ·rcases FL.1 hz with rfl | hz
    ·exact hb.nz z (by simp)
    ·exact q.nz z hz
   ·rcases FL.1 hz with rfl | hz
    ·exact hb.cl z (by simp)
    ·exact q.cl z hz
 | case5 x a y b h1 h2 ih =>
   intro ha hb
   have h0 : Aj x.row y.row = 0 := by omega
   have q := ih (Fc ha) (Fc hb)
   rw [mergeE, if_neg h1, if_neg h2]
   split
   ·exact q
   ·rename_i hz
    refine ⟨LW.2 ⟨fun z hz => ?_, q.up⟩, fun z pc => ?_, fun z pc => ?_⟩
    ·obtain ⟨u, hu, hr⟩ := DK _ _ z hz
     show Aj x.row z.row < 0
     rw [← hr]
     rcases hu with hu | hu
     ·exact (LW.1 ha.up).1 u hu
     ·exact rowCmp_ok.left ((rowCmp_ok.zero _ _).1 (ED h0)) ((LW.1 hb.up).1 u hu)
    ·rcases FL.1 pc with rfl | pc
     ·exact hz
     ·exact q.nz z pc
    ·rcases FL.1 pc with rfl | pc
     ·exact ha.cl x (by simp)
     ·exact q.cl z pc
theorem J2 (l : List Entry) (r : List Val) : Bn (l.filter (fun e => decide (e.count ≠ 0))) r = Bn l r := by
 induction l with
 | nil => rfl
 | cons e l ih =>
   rw [ZE]
   split
   ·simp only [Bn, ih]
   ·rename_i h
    have : e.count = 0 := by simpa using h
    simp only [Bn, ih, this]; split <;> omega
theorem B5 (l : List Entry) : (∀ e ∈ l, AE e.row) → Sorted (sortE l) ∧ ∀ r, Bn (sortE l) r = Bn l r := by
 induction l using sortE.induct with
 | case1 l h =>
   intro hc
   rw [sortE, dif_pos h]
   refine ⟨⟨?_, fun e he => by simpa using (L1.1 he).2, fun e he => hc e (L1.1 he).1⟩, J2 l⟩
   match l, h with
   | [], _ => exact .nil
   | [e], _ => exact List.Pairwise.sublist List.filter_sublist (dB _ _)
 | case2 l h mi lU =>
   intro hc
   obtain ⟨a1, a2⟩ := mi (fun e he => hc e (I0 he))
   obtain ⟨b1, b2⟩ := lU (fun e he => hc e (Tn he))
   rw [sortE, dif_neg h]
   refine ⟨Fl _ _ a1 b1, fun r => ?_⟩
   rw [QK, a2, b2, ← De, aT]
def Ed (a b : Entry) : Int := Aj a.row b.row
theorem entCmp_ok : CmpOk Ed (fun e => e.row.map Val.clean) := rowCmp_ok.comp Entry.row
theorem QL (ha : apart l) (hn : ∀ e ∈ l, e.count ≠ 0) (hc : ∀ e ∈ l, AE e.row) : Sorted (sortF Ed l) := by
 have hp := Br entCmp_ok.swo l
 have hs := Ez entCmp_ok.swo l
 refine ⟨?_, fun e he => hn e (hp.mem_iff.1 he), fun e he => hc e (hp.mem_iff.1 he)⟩
 have qd : apart (sortF Ed l) := (hp.symm.pairwise ha (fun {a b} h q => h (ED q)))
 refine (hs.and qd).imp ?_
 rintro a b ⟨h1, h2⟩
 unfold Ed at h1
 have := rowCmp_ok.anti a.row b.row
 show Aj a.row b.row < 0
 omega
theorem LK {b : List Entry} (hl : ∀ e ∈ l, AE e.row) (ha : apart b) (hn : ∀ e ∈ b, e.count ≠ 0) (hc : ∀ e ∈ b, AE e.row) (h : ∀ r, Bn b r = Bn l r) : sortF Ed b = sortE l := by
 obtain ⟨s1, s2⟩ := B5 l hl
 refine (QL ha hn hc).unique s1 fun r => ?_
 rw [s2, ← h, Nh (Br entCmp_ok.swo b)]
end Go.Proofs.YtmpgmjlanngkfaaGreat
end
