/-
  Algebra: what join computes, in plain terms.
-/
import Derived.Test.YtiidgbfdghplhaaGreatJog
namespace Go.Proofs.YtiidgbfdghplhaaGreat
open Go.Abs Go.RowKit
set_option linter.unusedSimpArgs false
set_option maxRecDepth 100000

def keyS (row : List Val) (cs : List Int) : Option Bs := (keyV row cs).map encRow

/-- The partners of a key. -/
def partE (b : List Entry) (on2 : List Int) (key : Bs) : List (Bs × Int) := b.filterMap fun y => if keyS y.row on2 = some key then some (encP y) else none

theorem partE_snoc (b : List Entry) (y : Entry) (on2 : List Int) (key : Bs) : partE (b ++ [y]) on2 key = partE b on2 key ++ (if keyS y.row on2 = some key then [encP y] else []) := by
  unfold partE
  rw [List.filterMap_append]
  congr 1
  by_cases h : keyS y.row on2 = some key <;> simp [h]

theorem partE_mem {b : List Entry} {on2 : List Int} {key : Bs} {q : Bs × Int} (h : q ∈ partE b on2 key) : ∃ y ∈ b, q = encP y ∧ keyS y.row on2 = some key := by
  obtain ⟨y, hy, hq⟩ := List.mem_filterMap.1 h
  split at hq
  · simp only [Option.some.injEq] at hq
    exact ⟨y, hy, hq.symm, by assumption⟩
  · cases hq
theorem partE_len (b : List Entry) (on2 : List Int) (key : Bs) : (partE b on2 key).length ≤ b.length := List.length_filterMap_le ..

abbrev JS := List Lev × List (Bs × Int) × List (Bs × Int)

def stepJ (b : List Entry) (on : List (Int × Int)) (q : JS) (u : Entry) : Option JS :=
  match keyS u.row (on.map Prod.fst) with
  | none => some q
  | some key =>
    if partE b (on.map Prod.snd) key = [] then some q
    else match closeE (encRow u.row) q.1.reverse q.2.1 q.2.2 with
      | none => none
      | some (st', s', r') => some (st'.reverse ++ [⟨encRow u.row, ((partE b (on.map Prod.snd) key).foldl (addStep (encP u)) ([], s')).1⟩], ((partE b (on.map Prod.snd) key).foldl (addStep (encP u)) ([], s')).2, r')

def runJ (b : List Entry) (on : List (Int × Int)) : List Entry → JS → Option JS
  | [], q => some q
  | u :: a, q => match stepJ b on q u with
    | none => none
    | some q' => runJ b on a q'

def finJ (a b : List Entry) (on : List (Int × Int)) : Option (List (Bs × Int)) :=
  match runJ b on a ([], [], []) with
  | none => none
  | some q => match closeE [] q.1.reverse q.2.1 q.2.2 with
    | none => none
    | some (_, _, r) => some r

theorem closeLev_sub : ∀ {cs : List Bs} {s r s' r' : List (Bs × Int)}, closeLev cs s r = some (s', r') → ∀ e ∈ s', e ∈ s
  | [], s, r, s', r', h, e, he => by simp [closeLev] at h; rw [h.1]; exact he
  | c :: cs, s, r, s', r', h, e, he => by
    rw [closeLev] at h
    split at h
    · cases h
    · have h1 := closeLev_sub h e he
      rcases key_cases c s with ⟨i, v, _, _, _, g4, _⟩ | ⟨_, _, _, g4, _⟩
      · rw [g4] at h1; exact (List.eraseIdx_sublist ..).subset h1
      · rw [g4] at h1; exact h1

theorem closeE_sub {code : Bs} : ∀ {st : List Lev} {s r : List (Bs × Int)} {st' : List Lev} {s' r' : List (Bs × Int)}, closeE code st s r = some (st', s', r') → r.length ≤ 4096 → st'.length ≤ st.length ∧ (∀ l ∈ st', l ∈ st) ∧ (∀ e ∈ s', e ∈ s) ∧ r'.length ≤ 4096
  | [], s, r, st', s', r', h, hr => by
    simp only [closeE, Option.some.injEq, Prod.mk.injEq] at h
    obtain ⟨rfl, rfl, rfl⟩ := h
    exact ⟨Nat.le_refl _, fun _ h => h, fun _ h => h, hr⟩
  | l :: st, s, r, st', s', r', h, hr => by
    rw [closeE] at h
    split at h
    · simp only [Option.some.injEq, Prod.mk.injEq] at h
      obtain ⟨rfl, rfl, rfl⟩ := h
      exact ⟨Nat.le_refl _, fun _ h => h, fun _ h => h, hr⟩
    · cases hc : closeLev l.opened s r with
      | none => rw [hc] at h; cases h
      | some q =>
        obtain ⟨s2, r2⟩ := q
        rw [hc] at h
        obtain ⟨h1, h2, h3, h4⟩ := closeE_sub h (closeLev_len hc hr)
        exact ⟨by simp; omega, fun l hl => by simp [h2 l hl], fun e he => closeLev_sub hc e (h3 e he), h4⟩

/-- What holds of the joiner's state behind i rows. -/
structure JOk (i : Nat) (n : Nat) (q : JS) : Prop where
  st : q.1.length ≤ i
  op : ∀ l ∈ q.1, l.opened.length ≤ n
  sm : inB (68719476736 * ((n * i : Nat) : Int)) q.2.1
  rs : q.2.2.length ≤ 4096

theorem fold_ok {u : Bs × Int} {K : Int} : ∀ (ps : List (Bs × Int)) (q : List Bs × List (Bs × Int)) (M : Int), (∀ y ∈ ps, -K ≤ u.2 * y.2 ∧ u.2 * y.2 ≤ K) → 0 ≤ M → 0 ≤ K → inB M q.2 → inB (M + K * ps.length) (ps.foldl (addStep u) q).2 ∧ (ps.foldl (addStep u) q).1.length ≤ q.1.length + ps.length
  | [], q, M, _, _, _, h => ⟨by simpa using h, by simp⟩
  | y :: ps, q, M, hk, hM, hK, h => by
    have h1 := addStep_inB h (hk y (by simp)) hM
    obtain ⟨h2, h3⟩ := fold_ok ps (addStep u q y) (M + K) (fun z hz => hk z (by simp [hz])) (by omega) hK h1
    have h4 := addStep_len u q y
    refine ⟨?_, by simp only [List.foldl_cons, List.length_cons]; omega⟩
    simp only [List.foldl_cons, List.length_cons]
    rw [show M + K * ((ps.length + 1 : Nat) : Int) = M + K + K * (ps.length : Int) by rw [Int.natCast_add, Int.mul_add]; simp; omega]
    exact h2

theorem prod_bd {x y : Int} (hx : -262144 ≤ x ∧ x ≤ 262144) (hy : -262144 ≤ y ∧ y ≤ 262144) : -68719476736 ≤ x * y ∧ x * y ≤ 68719476736 := by
  have h1 : (x * y).natAbs ≤ 262144 * 262144 := by
    rw [Int.natAbs_mul]
    exact Nat.mul_le_mul (by omega) (by omega)
  omega

theorem stepJ_ok {b : List Entry} {on : List (Int × Int)} {q q' : JS} {u : Entry} {i n : Nat} (h : JOk i n q) (hn : b.length ≤ n) (hb : ∀ y ∈ b, -262144 ≤ y.count ∧ y.count ≤ 262144) (hu : -262144 ≤ u.count ∧ u.count ≤ 262144) (hs : stepJ b on q u = some q') : JOk (i + 1) n q' := by
  have hmono : (68719476736 * ((n * i : Nat) : Int)) ≤ 68719476736 * ((n * (i + 1) : Nat) : Int) := by
    have : n * i ≤ n * (i + 1) := Nat.mul_le_mul_left _ (by omega)
    omega
  have hsame : JOk (i + 1) n q := ⟨by have := h.st; omega, h.op, fun e he => by have := h.sm e he; omega, h.rs⟩
  unfold stepJ at hs
  split at hs
  · simp only [Option.some.injEq] at hs; subst hs; exact hsame
  · rename_i key _
    split at hs
    · simp only [Option.some.injEq] at hs; subst hs; exact hsame
    · split at hs
      · cases hs
      · rename_i st' s' r' hc
        simp only [Option.some.injEq] at hs
        subst hs
        obtain ⟨h1, h2, h3, h4⟩ := closeE_sub hc h.rs
        simp only [List.length_reverse] at h1
        have hpl := partE_len b (on.map Prod.snd) key
        have hf := fold_ok (u := encP u) (K := 68719476736) (partE b (on.map Prod.snd) key) ([], s') (68719476736 * ((n * i : Nat) : Int)) (fun y hy => by
          obtain ⟨z, hz, rfl, _⟩ := partE_mem hy
          exact prod_bd hu (hb z hz)) (by omega) (by omega) (fun e he => h.sm e (h3 e he))
        refine ⟨?_, fun l hl => ?_, fun e he => ?_, h4⟩
        · have := h.st; simp only [List.length_append, List.length_reverse, List.length_singleton]; omega
        · rcases List.mem_append.1 hl with hl | hl
          · exact h.op l (List.mem_reverse.1 (h2 l (List.mem_reverse.1 hl)))
          · obtain rfl := List.mem_singleton.1 hl
            have := hf.2; simp only [List.length_nil] at this; simp only; omega
        · have := hf.1 e he
          rw [Nat.mul_add, Nat.mul_one]
          have h5 : ((n * i + n : Nat) : Int) = ((n * i : Nat) : Int) + n := by simp
          rw [h5]
          omega

theorem runJ_split (b : List Entry) (on : List (Int × Int)) : ∀ (l m : List Entry) (q : JS), runJ b on (l ++ m) q = (runJ b on l q).bind fun q' => runJ b on m q'
  | [], m, q => rfl
  | u :: l, m, q => by
    rw [List.cons_append, runJ, runJ]
    cases stepJ b on q u with
    | none => rfl
    | some q' => exact runJ_split b on l m q'

/-- The loop over the rows: behind i of them. -/
theorem runJ_step {a b : List Entry} {on : List (Int × Int)} {q0 : JS} {i : Nat} {u : Entry} {q : JS} (hv : a[i]? = some u) (h : runJ b on (a.take i) q0 = some q) : runJ b on (a.take (i + 1)) q0 = stepJ b on q u ∧ (stepJ b on q u = none → runJ b on a q0 = none) := by
  have e1 : runJ b on (a.take (i + 1)) q0 = stepJ b on q u := by
    rw [List.take_add_one, hv, runJ_split, h]
    simp only [Option.toList_some, Option.bind_some, runJ]
    cases stepJ b on q u <;> rfl
  refine ⟨e1, fun hn => ?_⟩
  rw [← List.take_append_drop (i + 1) a, runJ_split, e1, hn]
  rfl
end Go.Proofs.YtiidgbfdghplhaaGreat
