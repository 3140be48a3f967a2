/-
  The differences of two releases of groups.
-/
import Derived.Test.YtlacmjfgaehhkaaDii
import Derived.Test.YtlacmjfgaehhkaaLawD
namespace Go.Proofs.Ytlacmjfgaehhkaa
open Go.Abs Go.RowKit
attribute [local irreducible] ARun kont MCall PCall HCall resVal SF CF CFs defersOk slotsIn memIn fin finM VLe
set_option linter.unusedSimpArgs false
set_option maxRecDepth 100000
set_option maxHeartbeats 4000000

/-- The published groups of a count for each group, 0 for none. -/
def lp (f : Nat → Int) (i : Nat) : Option Pub := if f i = 0 then none else some ⟨[Val.ofInt i], f i⟩
def LP (f : Nat → Int) : List Pub := (List.range 40).filterMap (lp f)
def gv (thr : Int) (counts : List Int) (i : Nat) : Int := ((pubG thr counts i).map (·.count)).getD 0

theorem ofInt_inj {i j : Nat} (hi : i < 40) (hj : j < 40) (h : Val.ofInt i = Val.ofInt j) : i = j := by
  rw [ofInt_eq (by omega) (by omega), ofInt_eq (by omega) (by omega)] at h
  injection h with _ h _
  omega
theorem ofInt_clean (n : Int) : (Val.ofInt n).clean = Val.ofInt n := by rw [Val.clean, if_pos (ofInt_valid _)]

theorem key_cmp {i j : Nat} (h : i < j) (hj : j < 40) : rowCmp [Val.ofInt i] [Val.ofInt j] < 0 := by
  have := cmp_int (a := i) (b := j) (by omega) (by omega) (by omega) (by omega) (by omega)
  rw [rowCmp, this]; decide
theorem key_eq {i j : Nat} (hi : i < 40) (hj : j < 40) : rowCmp [Val.ofInt i] [Val.ofInt j] = 0 ↔ i = j := by
  rw [rowCmp_ok.zero]
  simp only [List.map_cons, List.map_nil, ofInt_clean]
  exact ⟨fun h => ofInt_inj hi hj (by injection h), fun h => by rw [h]⟩

theorem LP_mem (f : Nat → Int) (p : Pub) : p ∈ LP f ↔ ∃ i, i < 40 ∧ f i ≠ 0 ∧ p = ⟨[Val.ofInt i], f i⟩ := by
  simp only [LP, List.mem_filterMap, List.mem_range, lp]
  constructor
  · rintro ⟨i, hi, h⟩
    split at h
    · cases h
    · rename_i hf
      injection h with h
      exact ⟨i, hi, hf, h.symm⟩
  · rintro ⟨i, hi, hf, rfl⟩
    exact ⟨i, hi, by rw [if_neg hf]⟩

theorem LP_sorted (f : Nat → Int) : (LP f).Pairwise pR := by
  have hr : (List.range 40).Pairwise fun i j => i < j := List.pairwise_lt_range
  unfold LP
  rw [List.pairwise_filterMap]
  refine (List.Pairwise.and_mem.1 hr).imp ?_
  rintro i j ⟨_, hj, hij⟩ b hb c hc
  unfold lp at hb hc
  split at hb
  · cases hb
  · split at hc
    · cases hc
    · injection hb with hb
      injection hc with hc
      subst hb; subst hc
      exact key_cmp hij (by simpa using hj)

theorem cntP_of_mem {l : List Pub} (hs : l.Pairwise pR) {p : Pub} (hp : p ∈ l) {k : List Val} (hk : rowCmp p.keys k = 0) : cntP l k = p.count := by
  unfold cntP findP
  cases hf : l.find? (fun p => decide (rowCmp p.keys k = 0)) with
  | none => exact absurd hk (by simpa using List.find?_eq_none.1 hf p hp)
  | some q =>
    have hq := List.mem_of_find?_eq_some hf
    have hqk : rowCmp q.keys k = 0 := by simpa using List.find?_some hf
    have hpq : p.keys.map Val.clean = q.keys.map Val.clean := ((rowCmp_ok.zero _ _).1 hk).trans ((rowCmp_ok.zero _ _).1 hqk).symm
    have h0 := (rowCmp_ok.zero p.keys q.keys).2 hpq
    have h1 := (rowCmp_ok.zero q.keys p.keys).2 hpq.symm
    suffices q = p by rw [this]; rfl
    rcases List.mem_iff_getElem.1 hp with ⟨i, hi, rfl⟩
    rcases List.mem_iff_getElem.1 hq with ⟨j, hj, rfl⟩
    rw [List.pairwise_iff_getElem] at hs
    rcases Nat.lt_trichotomy i j with h | h | h
    · have := hs i j hi hj h
      unfold pR at this; omega
    · subst h; rfl
    · have := hs j i hj hi h
      unfold pR at this; omega

theorem cntP_none {l : List Pub} {k : List Val} (h : ∀ p ∈ l, rowCmp p.keys k ≠ 0) : cntP l k = 0 := by
  unfold cntP findP
  have : l.find? (fun p => decide (rowCmp p.keys k = 0)) = none := List.find?_eq_none.2 (fun p hp => by simpa using h p hp)
  rw [this]; rfl

theorem cnt_LP (f : Nat → Int) {i : Nat} (hi : i < 40) : cntP (LP f) [Val.ofInt i] = f i := by
  by_cases h : f i = 0
  · rw [h]
    refine cntP_none fun p hp hk => ?_
    obtain ⟨j, hj, hf, rfl⟩ := (LP_mem f p).1 hp
    obtain rfl := (key_eq hj hi).1 hk
    exact hf h
  · exact cntP_of_mem (LP_sorted f) ((LP_mem f _).2 ⟨i, hi, h, rfl⟩) ((key_eq hi hi).2 rfl)

def Small (f : Nat → Int) : Prop := ∀ i, -2000 ≤ f i ∧ f i ≤ 2000

theorem diffAt_LP {f g : Nat → Int} (hf : Small f) (hg : Small g) {i : Nat} (hi : i < 40) : diffAt (LP f) (LP g) [Val.ofInt i] = g i - f i := by
  unfold diffAt
  have h1 := hf i
  have h2 := hg i
  rw [cnt_LP f hi, cnt_LP g hi, wrap_i64 (by omega) (by omega)]

theorem diff_LP {f g : Nat → Int} (hf : Small f) (hg : Small g) : diffP (LP f) (LP g) = LP (fun i => g i - f i) := by
  obtain ⟨h1, h2⟩ := diffP_mem (LP f) (LP g)
  refine sorted_unique pR_irr pR_tr h2 (LP_sorted _) fun p => ?_
  rw [h1, LP_mem]
  constructor
  · rintro ⟨e, he, hd, rfl⟩
    have : ∃ i : Nat, i < 40 ∧ e.keys = [Val.ofInt i] := by
      rcases List.mem_append.1 he with he | he
      all_goals
        obtain ⟨i, hi, _, rfl⟩ := (LP_mem _ _).1 he
        exact ⟨i, hi, rfl⟩
    obtain ⟨i, hi, hk⟩ := this
    rw [hk, diffAt_LP hf hg hi] at hd ⊢
    refine ⟨i, hi, hd, ?_⟩
    rw [kc, hk]
    simp only [List.map_cons, List.map_nil, ofInt_clean]
  · rintro ⟨i, hi, hd, rfl⟩
    by_cases h : f i = 0
    · refine ⟨⟨[Val.ofInt i], g i⟩, List.mem_append.2 (.inr ((LP_mem _ _).2 ⟨i, hi, by omega, rfl⟩)), ?_⟩
      dsimp only
      rw [diffAt_LP hf hg hi]
      refine ⟨hd, ?_⟩
      rw [kc]
      simp only [List.map_cons, List.map_nil, ofInt_clean]
    · refine ⟨⟨[Val.ofInt i], f i⟩, List.mem_append.2 (.inl ((LP_mem _ _).2 ⟨i, hi, h, rfl⟩)), ?_⟩
      dsimp only
      rw [diffAt_LP hf hg hi]
      refine ⟨hd, ?_⟩
      rw [kc]
      simp only [List.map_cons, List.map_nil, ofInt_clean]

def sumL (I : List Nat) (f : Nat → Int) : Int := I.foldl (fun s i => s + f i) 0

theorem fold_add (f : Nat → Int) : ∀ (I : List Nat) (s : Int), I.foldl (fun s i => s + f i) s = s + sumL I f
  | [], s => by simp [sumL]
  | i :: I, s => by rw [sumL, List.foldl_cons, List.foldl_cons, fold_add f I, fold_add f I (0 + f i)]; omega

theorem lp_fold (f : Nat → Int) (i : Nat) (I : List Nat) (s : Int) : ((i :: I).filterMap (lp f)).foldl (fun s p => IntKind.i64.wrap (s + p.count)) s = (I.filterMap (lp f)).foldl (fun s p => IntKind.i64.wrap (s + p.count)) (if f i = 0 then s else IntKind.i64.wrap (s + f i)) := by
  rw [List.filterMap_cons]
  by_cases h : f i = 0
  · have : lp f i = none := by unfold lp; rw [if_pos h]
    rw [this, if_pos h]
  · have : lp f i = some ⟨[Val.ofInt i], f i⟩ := by unfold lp; rw [if_neg h]
    rw [this, if_neg h, List.foldl_cons]

theorem total_fold {f : Nat → Int} (hf : Small f) (I : List Nat) : ∀ (s : Int), -4000000000 + 2000 * I.length ≤ s → s ≤ 4000000000 - 2000 * I.length → (I.filterMap (lp f)).foldl (fun s p => IntKind.i64.wrap (s + p.count)) s = s + sumL I f := by
  induction I with
  | nil => intro s _ _; simp [sumL]
  | cons i I ih =>
    intro s h1 h2
    have hi := hf i
    simp only [List.length_cons] at h1 h2
    have hs : sumL (i :: I) f = f i + sumL I f := by rw [sumL, List.foldl_cons, fold_add]; omega
    rw [hs, lp_fold]
    split
    · rename_i h
      rw [ih s (by omega) (by omega), h]; omega
    · rw [wrap_i64 (by omega) (by omega), ih (s + f i) (by omega) (by omega)]; omega

theorem total_LP {f : Nat → Int} (hf : Small f) : totalP (LP f) = sumL (List.range 40) f := by
  have := total_fold hf (List.range 40) 0 (by simp) (by simp)
  unfold totalP LP
  rw [this]; omega

theorem sum_sub (f g : Nat → Int) : ∀ I : List Nat, sumL I (fun i => g i - f i) = sumL I g - sumL I f
  | [] => by simp [sumL]
  | i :: I => by
    have h : ∀ h : Nat → Int, sumL (i :: I) h = h i + sumL I h := fun h => by rw [sumL, List.foldl_cons, fold_add]; omega
    rw [h, h, h, sum_sub f g I]; omega

theorem sum_small {f : Nat → Int} (hf : Small f) : ∀ I : List Nat, -2000 * I.length ≤ sumL I f ∧ sumL I f ≤ 2000 * I.length
  | [] => by simp [sumL]
  | i :: I => by
    have hi := hf i
    have ih := sum_small hf I
    have h : sumL (i :: I) f = f i + sumL I f := by rw [sumL, List.foldl_cons, fold_add]; omega
    rw [h]
    simp only [List.length_cons]
    omega

theorem pubG_lp (thr : Int) (ht : 1 ≤ thr) (counts : List Int) (i : Nat) : pubG thr counts i = lp (gv thr counts) i := by
  unfold lp gv
  cases h : pubG thr counts i with
  | none => simp
  | some p =>
    obtain ⟨h1, h2, h3⟩ := pubG_some h
    obtain ⟨t1, _, _⟩ := tmod_round (cnt (counts.getD i 0)) thr ht h3
    have : p.count ≠ 0 := by omega
    simp only [Option.map_some, Option.getD_some, if_neg this]
    rw [← h1]

theorem pubsG_LP (thr : Int) (ht : 1 ≤ thr) (counts : List Int) : pubsG thr counts = LP (gv thr counts) := by
  have e : List.range 40 = List.range (min counts.length 40) ++ List.range' (min counts.length 40) (40 - min counts.length 40) := by
    rw [List.range_eq_range', List.range_eq_range']
    have := List.range'_append (s := 0) (m := min counts.length 40) (n := 40 - min counts.length 40) (step := 1)
    rw [show 0 + 1 * min counts.length 40 = min counts.length 40 by omega, show min counts.length 40 + (40 - min counts.length 40) = 40 by omega] at this
    exact this.symm
  unfold pubsG LP
  rw [e, List.filterMap_append]
  have e2 : (List.range' (min counts.length 40) (40 - min counts.length 40)).filterMap (lp (gv thr counts)) = [] := by
    rw [List.filterMap_eq_nil_iff]
    intro j hj
    rw [List.mem_range'_1] at hj
    rw [← pubG_lp thr ht]
    unfold pubG
    have : counts.getD j 0 = 0 := by
      rw [List.getD_eq_getElem?_getD, List.getElem?_eq_none (by omega)]; rfl
    rw [this, cnt_small (by omega)]
    simp
  rw [e2, List.append_nil]
  exact fm_congr fun i _ => pubG_lp thr ht counts i

theorem gv_bd (thr : Int) (ht : 1 ≤ thr) (counts : List Int) (i : Nat) : 0 ≤ gv thr counts i ∧ gv thr counts i ≤ 1023 := by
  unfold gv
  cases h : pubG thr counts i with
  | none => simp
  | some p =>
    obtain ⟨_, h2, h3⟩ := pubG_some h
    have hb := cnt_bd (counts.getD i 0)
    have := tmod_bd ht h3
    simp only [Option.map_some, Option.getD_some, h2]
    omega

theorem gv_small (thr : Int) (ht : 1 ≤ thr) (counts : List Int) : Small (gv thr counts) := fun i => by
  have := gv_bd thr ht counts i
  omega

theorem gv_dvd (thr : Int) (ht : 1 ≤ thr) (counts : List Int) (i : Nat) : thr ∣ gv thr counts i := by
  unfold gv
  cases h : pubG thr counts i with
  | none => simp
  | some p =>
    obtain ⟨_, h2, h3⟩ := pubG_some h
    obtain ⟨_, t2, _⟩ := tmod_round (cnt (counts.getD i 0)) thr ht h3
    simp only [Option.map_some, Option.getD_some, h2]
    exact Int.dvd_of_tmod_eq_zero t2

theorem sameRow_eq : ∀ {r s : List Val}, sameRow r s = true → r = s
  | [], [], _ => rfl
  | [], _ :: _, h => by cases h
  | _ :: _, [], h => by cases h
  | a :: x, b :: y, h => by
    simp only [sameRow, Bool.and_eq_true] at h
    have : a = b := by
      obtain ⟨h, _⟩ := h
      simp only [sameVal, Bool.and_eq_true, beq_iff_eq] at h
      obtain ⟨h1, h2, h3⟩ := h
      cases a; cases b
      simp only at h1 h2 h3
      rw [h1, h2, bytes_ext h3]
    rw [this, sameRow_eq h.2]
theorem samePub_eq : ∀ {r s : List Pub}, samePub r s = true → r = s
  | [], [], _ => rfl
  | [], _ :: _, h => by cases h
  | _ :: _, [], h => by cases h
  | a :: x, b :: y, h => by
    simp only [samePub, Bool.and_eq_true, beq_iff_eq] at h
    have : a = b := by
      obtain ⟨⟨h1, h2⟩, _⟩ := h
      cases a; cases b
      simp only at h1 h2
      rw [h1, sameRow_eq h2]
    rw [this, samePub_eq h.2]

theorem LP_same (f g : Nat → Int) : samePub (LP f) (LP g) = decide ((LP (fun i => g i - f i)).length = 0) := by
  rw [Bool.eq_iff_iff, decide_eq_true_iff, List.length_eq_zero_iff]
  constructor
  · intro h
    have h := samePub_eq h
    rw [List.eq_nil_iff_forall_not_mem]
    intro p hp
    obtain ⟨i, hi, hne, _⟩ := (LP_mem _ _).1 hp
    have h1 := cnt_LP f hi
    have h2 := cnt_LP g hi
    rw [h] at h1
    apply hne
    omega
  · intro h
    rw [List.eq_nil_iff_forall_not_mem] at h
    have : LP f = LP g := by
      refine fm_congr fun i hi => ?_
      have : f i = g i := by
        have := h ⟨[Val.ofInt i], g i - f i⟩
        rw [LP_mem] at this
        by_cases hq : f i = g i
        · exact hq
        · exact absurd ⟨i, by simpa using hi, by omega, rfl⟩ this
      unfold lp
      rw [this]
    rw [this, samePub_refl]

theorem LP_len (f : Nat → Int) : (LP f).length ≤ 40 := by
  unfold LP
  exact Nat.le_trans (List.length_filterMap_le ..) (by simp)
theorem LP_keys (f : Nat → Int) : ∀ p ∈ LP f, p.keys.length ≤ 4096 := fun p hp => by
  obtain ⟨i, _, _, rfl⟩ := (LP_mem f p).1 hp
  simp
end Go.Proofs.Ytlacmjfgaehhkaa
