/-
  AggregateMedian: the law returns true.
-/
import Derived.Test.YtojfhaoleedmkaaGreatLga
import Derived.Test.YtojfhaoleedmkaaGreatRgb
import Derived.Test.YtojfhaoleedmkaaGreatTpo
import Derived.Test.YtojfhaoleedmkaaGreatEqv
namespace Go.Proofs.YtojfhaoleedmkaaGreat
open Go.Abs Go.RowKit
attribute [local irreducible] ARun kont MCall PCall HCall resVal SF CF CFs defersOk slotsIn memIn fin finM VLe
set_option linter.unusedSimpArgs false
set_option maxRecDepth 100000
set_option maxHeartbeats 4000000
theorem key_up {S : List (Val × Int)} (hp : PosC S) {a b : Val} (hab : a.cmp b < 0) : upto S a ≤ below S b := sum_le fun x hx => by
  have := hp x hx
  split
  · split <;> omega
  · rename_i q
    rw [if_pos (le_lt q hab)]; omega
theorem nth_mono {S : List (Val × Int)} (ha : AscV S) (hp : PosC S) {i j : Int} (h0 : 0 ≤ i) (h1 : i ≤ j) (h2 : j < ttl S) : ¬ (nthE S j).cmp (nthE S i) < 0 := fun h => by
  have h3 := key_up hp h
  obtain ⟨a1, _, _⟩ := nth_says ha hp h0 (by omega)
  obtain ⟨_, b2, _⟩ := nth_says ha hp (show 0 ≤ j by omega) h2
  omega
def hiS (S : List (Val × Int)) (v : Val) : Int := (S.map fun x => if x.1.cmp v < 0 then 0 else x.2).sum
theorem hi_below (S : List (Val × Int)) (v : Val) : hiS S v + below S v = ttl S := by
  induction S with
  | nil => rfl
  | cons x S ih =>
    simp only [hiS, below, ttl, List.map_cons, List.sum_cons] at ih ⊢
    split <;> omega
theorem upto_perm {S S' : List (Val × Int)} (h : S.Perm S') (v : Val) : upto S v = upto S' v := sum_perm h
theorem below_perm {S S' : List (Val × Int)} (h : S.Perm S') (v : Val) : below S v = below S' v := sum_perm h
theorem median_says {L : List (Val × Int)} (hp : PosC L) (hn : nnE L ≠ []) : 0 < ttl (nnE L) ∧ ttl (nnE L) ≤ 2 * upto (nnE L) (foldE 4 L) ∧ ttl (nnE L) ≤ 2 * hiS (nnE L) (foldE 4 L) ∧ ¬ (foldE 4 L).cmp (foldE 2 L) < 0 ∧ ¬ (foldE 3 L).cmp (foldE 4 L) < 0 := by
  have hP : PosC (nnE L) := fun x hx => hp x (List.mem_filter.1 hx).1
  have hA : PosC (ascE L) := fun x hx => hP x ((ascE_perm L).mem_iff.1 hx)
  have hpos := ttl_pos hP hn
  have ht : ttl (ascE L) = ttl (nnE L) := sum_perm (ascE_perm L)
  have e4 : foldE 4 L = nthE (ascE L) ((ttl (nnE L) - 1) / 2) := by unfold foldE; rw [if_neg (by decide), if_neg (by decide), if_neg (by decide), if_neg (by decide), if_pos rfl, if_neg hn]
  have e3 : foldE 3 L = nthE (ascE L) (ttl (nnE L) - 1) := by unfold foldE; rw [if_neg (by decide), if_neg (by decide), if_neg (by decide), if_pos rfl, if_neg hn]
  have e2 : foldE 2 L = nthE (ascE L) 0 := by unfold foldE; rw [if_neg (by decide), if_neg (by decide), if_pos rfl, if_neg hn]
  obtain ⟨b1, b2, _⟩ := nth_says (ascE_asc L) hA (show 0 ≤ (ttl (nnE L) - 1) / 2 by omega) (by omega)
  have m1 := nth_mono (ascE_asc L) hA (i := 0) (j := (ttl (nnE L) - 1) / 2) (by omega) (by omega) (by omega)
  have m2 := nth_mono (ascE_asc L) hA (i := (ttl (nnE L) - 1) / 2) (j := ttl (nnE L) - 1) (by omega) (by omega) (by omega)
  rw [← e4] at b1 b2 m1 m2
  rw [← e2] at m1
  rw [← e3] at m2
  rw [below_perm (ascE_perm L)] at b1
  rw [upto_perm (ascE_perm L)] at b2
  have := hi_below (nnE L) (foldE 4 L)
  exact ⟨hpos, by omega, by omega, m1, m2⟩
theorem fold_null {L : List (Val × Int)} (hn : nnE L = []) : foldE 4 L = Val.null ∧ foldE 2 L = Val.null ∧ foldE 3 L = Val.null := by
  refine ⟨?_, ?_, ?_⟩ <;> (unfold foldE; simp [hn])
theorem nn_snoc (f : Val × Int → Int) {L : List (Val × Int)} {i : Nat} {x : Val × Int} (h : L[i]? = some x) : ((nnE (L.take (i + 1))).map f).sum = ((nnE (L.take i)).map f).sum + (if x.1.kind = 0 then 0 else f x) := by
  rw [nnE_snoc h, List.map_append, List.sum_append]
  unfold nnP
  by_cases hk : x.1.kind = 0 <;> simp [hk]
theorem nn_bd {f : Val × Int → Int} {L : List (Val × Int)} (h : Bnd L) (hf : ∀ x ∈ L, -262144 ≤ f x ∧ f x ≤ 262144) (i : Nat) : -1073741824 ≤ ((nnE (L.take i)).map f).sum ∧ ((nnE (L.take i)).map f).sum ≤ 1073741824 := by
  have h1 := sum_bd (f := f) (M := 262144) (l := nnE (L.take i)) fun x hx => (by have := hf x (List.mem_of_mem_take (List.mem_filter.1 hx).1); omega)
  have h2 := nnE_len (L.take i)
  have h3 : (L.take i).length ≤ 4096 := by have := h.1; simp; omega
  omega
def upF (v : Val) (x : Val × Int) : Int := if v.cmp x.1 < 0 then 0 else x.2
def hiF (v : Val) (x : Val × Int) : Int := if x.1.cmp v < 0 then 0 else x.2
theorem lawMedian_c (t : List Int) (ht : t.length ≤ 17592186044416) : PCall Tryz.prog 8 [.one (numD t)] (.v (.one (.lit (.bool true)))) := by
  have hnew := new_h t ht
  have hok := newTape9_ok ht
  obtain ⟨b, t1, ok1, vb, -, lb, -, pb, c1⟩ := bagP_h ⟨t, 0⟩ 1 8 hok (by omega) (by omega)
  have hpe : positiveE b = true := by
    unfold positiveE
    rw [vb, Bool.true_and, List.all_eq_true]
    intro e he
    have := pb e he
    simp; omega
  have f4 := aggFold_c 4 b
  have f2 := aggFold_c 2 b
  have f3 := aggFold_c 3 b
  have hfp : ∀ z, foldP z b = foldE z (vcs b) := fun z => by unfold foldP; rw [if_pos hpe]
  rw [hfp] at f4 f2 f3
  obtain ⟨hB, hP, -, -⟩ := vcs_says hpe
  have hsay : (nnE (vcs b) = [] ∧ foldE 4 (vcs b) = Val.null ∧ foldE 2 (vcs b) = Val.null ∧ foldE 3 (vcs b) = Val.null) ∨ (nnE (vcs b) ≠ [] ∧ 0 < ttl (nnE (vcs b)) ∧ ttl (nnE (vcs b)) ≤ 2 * ((nnE (vcs b)).map (upF (foldE 4 (vcs b)))).sum ∧ ttl (nnE (vcs b)) ≤ 2 * ((nnE (vcs b)).map (hiF (foldE 4 (vcs b)))).sum ∧ ¬ (foldE 4 (vcs b)).cmp (foldE 2 (vcs b)) < 0 ∧ ¬ (foldE 3 (vcs b)).cmp (foldE 4 (vcs b)) < 0) := by
    by_cases hn : nnE (vcs b) = []
    · exact .inl ⟨hn, fold_null hn⟩
    · exact .inr ⟨hn, median_says hP hn⟩
  clear hfp
  generalize foldE 4 (vcs b) = m at f4 hsay
  generalize foldE 2 (vcs b) = lo at f2 hsay
  generalize foldE 3 (vcs b) = hi at f3 hsay
  have hC : ∀ x ∈ vcs b, -262144 ≤ x.2 ∧ x.2 ≤ 262144 := fun x hx => (hB.2 x hx).2
  have hupB : ∀ x ∈ vcs b, -262144 ≤ upF m x ∧ upF m x ≤ 262144 := fun x hx => by have := hC x hx; unfold upF; split <;> omega
  have hhiB : ∀ x ∈ vcs b, -262144 ≤ hiF m x ∧ hiF m x ≤ 262144 := fun x hx => by have := hC x hx; unfold hiF; split <;> omega
  refine pcallN hT Tryz.func8 Tryz.ntmps8 [.tmp 2] fun B => ?_
  repeat' (first | refine s_freezeV 5 ?_ | refine s_freezeV 6 ?_ | refine s_freezeV 7 ?_ | refine ks ?_ | refine ko ?_ | refine s_indexD ?_ (hel := (by first | exact rfl)) | refine s_call (f4) ?_ | refine s_call (f2) ?_ | refine s_call (f3) ?_ | refine s_callH [] (hnew) ?_ | refine s_callH [1] (c1) ?_ | refine s_kT ?_ | refine s_kF ?_ | refine f_ret1 def_nil ?_ | refine t_tmp ?_)
  refine s_lp (X := Nat × Int × Int × Int) [8, 9, 10, 11, 12, 13, 24, 25, 26, 27, 28, 29, 30, 31, 32, 33, 34, 35, 36, 37, 38, 39, 40, 41, 42, 43, 44, 45, 46, 47, 48, 49, 50, 51, 52, 53, 54, 55, 56, 57, 58, 59, 60, 61, 62, 63, 64, 65, 66, 67, 68, 69, 70, 71, 72, 73, 74, 75, 76, 77, 78, 79, 80, 81, 82, 83, 84, 85, 86, 87, 88, 89, 90] (fun x => x.1 ≤ b.length ∧ x.2.1 = ((nnE ((vcs b).take x.1)).map Prod.snd).sum ∧ x.2.2.1 = ((nnE ((vcs b).take x.1)).map (upF m)).sum ∧ x.2.2.2 = ((nnE ((vcs b).take x.1)).map (hiF m)).sum) (fun x lz => (11, (.c (.d (.lit (.int .i64 x.1))))) :: (8, .c (.d (.lit (.int .i64 x.2.1)))) :: (9, .c (.d (.lit (.int .i64 x.2.2.1)))) :: (10, .c (.d (.lit (.int .i64 x.2.2.2)))) :: lz) (fun x => []) (fun x => b.length - x.1) ((0, 0, 0, 0)) ?_ ?_ ?_ ?_
  repeat' (first | exact slots_nil | refine kw ?_ | exact memIn_nil | omega)
  all_goals try (exact ⟨by simp, rfl, rfl, rfl⟩)
  rintro ⟨i, n, l, h⟩ c ⟨hi', hn, hl, hh⟩
  dsimp only at hi' hn hl hh ⊢
  by_cases hlt : i < b.length
  · have hv : b[i]? = some b[i] := List.getElem?_eq_getElem hlt
    generalize b[i] = e at hv
    have hv2 : (b.map Entry.d)[i]? = some e.d := by rw [List.getElem?_map, hv]; rfl
    have g := vcs_get hv
    have n1 := nn_snoc Prod.snd g
    have l1 := nn_snoc (upF m) g
    have h1 := nn_snoc (hiF m) g
    have n2 := nn_bd hB hC i
    have l2 := nn_bd hB hupB i
    have h2 := nn_bd hB hhiB i
    have cb := hC _ (List.mem_of_getElem? g)
    rw [← hn] at n1 n2
    rw [← hl] at l1 l2
    rw [← hh] at h1 h2
    unfold vc upF at l1
    unfold vc hiF at h1
    unfold vc at n1 cb
    dsimp only at n1 l1 h1 cb
    obtain ⟨row, cnt⟩ := e
    dsimp only at n1 l1 h1 cb
    cases row with
    | nil =>
      have hk : (firstV []).kind = 0 := rfl
      rw [if_pos hk, Int.add_zero] at n1 l1 h1
      repeat' (first | refine ks ?_ | refine ko ?_ | refine s_indexD ?_ (hel := (by first | exact idx_map hv2 (by omega) | exact hv2 | exact rfl)) | refine s_kT ?_ | refine s_kF ?_ | refine f_ret1 def_nil ?_ | refine t_tmp ?_)
      (apply s_round ((i + 1, n, l, h)); all_goals (try dsimp only); all_goals (try (repeat' (first | exact slots_nil | refine kw ?_ | exact memIn_nil | omega))))
      all_goals first
        | exact ⟨by omega, n1.symm, l1.symm, h1.symm⟩
        | skip
    | cons v r =>
      have hr : ((v :: r).map Val.d)[0]? = some v.d := rfl
      have hrl : ((v :: r).map Val.d).length = r.length + 1 := by simp
      unfold Entry.d rowD at hv2
      dsimp only at hv2
      generalize (v :: r).map Val.d = M at hr hrl hv2
      have hfv : firstV (v :: r) = v := rfl
      rw [hfv] at n1 l1 h1
      by_cases hk : v.kind = 0
      · rw [if_pos hk, Int.add_zero] at n1 l1 h1
        repeat' (first | refine ks ?_ | refine ko ?_ | refine s_indexD ?_ (hel := (by first | exact idx_map hv2 (by omega) | exact idx_map hr (by omega) | exact hv2 | exact hr | exact rfl)) | refine s_kT ?_ | refine s_kF ?_ | refine f_ret1 def_nil ?_ | refine t_tmp ?_)
        (apply s_round ((i + 1, n, l, h)); all_goals (try dsimp only); all_goals (try (repeat' (first | exact slots_nil | refine kw ?_ | exact memIn_nil | omega))))
        all_goals first
          | exact ⟨by omega, n1.symm, l1.symm, h1.symm⟩
          | skip
      · rw [if_neg hk] at n1 l1 h1
        have hcm := refCompare_c v m
        have anti := cmp_ok.anti v m
        rcases Int.lt_trichotomy (v.cmp m) 0 with hc | hc | hc
        · rw [if_neg (by omega)] at l1
          rw [if_pos hc, Int.add_zero] at h1
          repeat' (first | refine ks ?_ | refine ko ?_ | refine s_indexD ?_ (hel := (by first | exact idx_map hv2 (by omega) | exact idx_map hr (by omega) | exact hv2 | exact hr | exact rfl)) | refine s_call (hcm) ?_ | refine s_kT ?_ | refine s_kF ?_ | refine f_ret1 def_nil ?_ | refine t_tmp ?_)
          (apply s_round ((i + 1, n + cnt, l + cnt, h)); all_goals (try dsimp only); all_goals (try (repeat' (first | exact slots_nil | refine kw ?_ | exact memIn_nil | omega))))
          all_goals first
            | exact ⟨by omega, n1.symm, l1.symm, h1.symm⟩
            | skip
        · rw [if_neg (by omega)] at l1
          rw [if_neg (by omega)] at h1
          repeat' (first | refine ks ?_ | refine ko ?_ | refine s_indexD ?_ (hel := (by first | exact idx_map hv2 (by omega) | exact idx_map hr (by omega) | exact hv2 | exact hr | exact rfl)) | refine s_call (hcm) ?_ | refine s_kT ?_ | refine s_kF ?_ | refine f_ret1 def_nil ?_ | refine t_tmp ?_)
          (apply s_round ((i + 1, n + cnt, l + cnt, h + cnt)); all_goals (try dsimp only); all_goals (try (repeat' (first | exact slots_nil | refine kw ?_ | exact memIn_nil | omega))))
          all_goals first
            | exact ⟨by omega, n1.symm, l1.symm, h1.symm⟩
            | skip
        · rw [if_pos (by omega), Int.add_zero] at l1
          rw [if_neg (by omega)] at h1
          repeat' (first | refine ks ?_ | refine ko ?_ | refine s_indexD ?_ (hel := (by first | exact idx_map hv2 (by omega) | exact idx_map hr (by omega) | exact hv2 | exact hr | exact rfl)) | refine s_call (hcm) ?_ | refine s_kT ?_ | refine s_kF ?_ | refine f_ret1 def_nil ?_ | refine t_tmp ?_)
          (apply s_round ((i + 1, n + cnt, l, h + cnt)); all_goals (try dsimp only); all_goals (try (repeat' (first | exact slots_nil | refine kw ?_ | exact memIn_nil | omega))))
          all_goals first
            | exact ⟨by omega, n1.symm, l1.symm, h1.symm⟩
            | skip
  · have n2 := nn_bd hB hC i
    have l2 := nn_bd hB hupB i
    have h2 := nn_bd hB hhiB i
    rw [← hn] at n2
    rw [← hl] at l2
    rw [← hh] at h2
    rw [take_ge (show (vcs b).length ≤ i by rw [vcs_len]; omega)] at hn hl hh
    rcases hsay with ⟨q1, rfl, rfl, rfl⟩ | ⟨_, q2, q3, q4, q5, q6⟩
    · rw [q1] at hn
      have hn0 : n = 0 := hn
      repeat' (first | refine s_eqAs ?_ | refine ks ?_ | refine ko ?_ | refine s_indexD ?_ (hel := (by first | exact rfl)) | refine s_call (awake09_c) ?_ | refine s_kT ?_ | refine s_kF ?_ | refine f_ret1 def_nil ?_ | refine t_tmp ?_)
      all_goals rfl
    · rw [show ttl (nnE (vcs b)) = n from hn.symm] at q2 q3 q4
      rw [← hl] at q3
      rw [← hh] at q4
      have k1 := refCompare_c lo m
      have k2 := refCompare_c m hi
      have a1 := cmp_ok.anti lo m
      have a2 := cmp_ok.anti m hi
      generalize lo.cmp m = z1 at k1 a1
      generalize m.cmp hi = z2 at k2 a2
      have a3 : z1 ≤ 0 := by omega
      have a4 : z2 ≤ 0 := by omega
      repeat' (first | refine ks ?_ | refine ko ?_ | refine s_indexD ?_ (hel := (by first | exact rfl)) | refine s_call (k1) ?_ | refine s_call (k2) ?_ | refine s_call (awake09_c) ?_ | refine s_kT ?_ | refine s_kF ?_ | refine f_ret1 def_nil ?_ | refine t_tmp ?_)
      all_goals rfl
end Go.Proofs.YtojfhaoleedmkaaGreat
