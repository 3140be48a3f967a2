/-
  Aggregates: States.
-/
import Derived.Test.YtojfhaoleedmkaaGreatAgk
import Derived.Test.YtojfhaoleedmkaaGreatHoa
import Derived.Test.YtojfhaoleedmkaaGreatHom
section
namespace Go.Proofs.YtojfhaoleedmkaaGreat
open Go.Abs Go.RowKit
attribute [local irreducible] ARun kont MCall PCall HCall resVal SF CF CFs defersOk slotsIn memIn fin finM VLe
set_option linter.unusedSimpArgs false
set_option maxRecDepth 100000
set_option maxHeartbeats 4000000
def intsD (l : List Int) : Dat := .sl (l.map fun n => [.lit (.int .i64 n)])
theorem idxI_c (g : FuncId) (p : Int → Bool) (hg : ∀ e : Int, PCall Tryz.prog g [.one (.lit (.int .i64 e))] (.v (.one (.lit (.bool (p e)))))) (b : List Int) :
    ∃ k : Int, (0 ≤ k ↔ b.any p = true) ∧ PCall Tryz.prog 147 [.one (intsD b), .one (.lit (.func (.func g) #[] #[]))] (.v (.one (.lit (.int .i64 k)))) := by
  have key : ∀ K : Int, (∀ i e, b[i]? = some e → p e = true → (b.take i).all (fun e => !p e) = true → K = i) → (b.all (fun e => !p e) = true → K = -1) →
      PCall Tryz.prog 147 [.one (intsD b), .one (.lit (.func (.func g) #[] #[]))] (.v (.one (.lit (.int .i64 K)))) := by
    intro K hK1 hK2
    refine pcallN hT Tryz.func147 Tryz.ntmps147 [.tmp 4] fun B => ?_
    refine k_len 0 rfl fun hlr => ?_
    simp only [List.length_map, maxLen] at hlr
    repeat' (first | refine ks ?_ | refine ko ?_ | refine s_indexD ?_ (hel := (by first | exact rfl)) | refine f_ret1 def_nil ?_ | refine t_tmp ?_)
    refine s_lp (X := Nat) [4, 5, 8, 9, 10, 11, 12, 13, 14, 15, 16, 17, 18] (fun x => x ≤ b.length ∧ (b.take x).all (fun e => !p e) = true) (fun x lz => (8, (.c (.d (.lit (.int .i64 x))))) :: lz) (fun x => []) (fun x => b.length - x) (0) ?_ ?_ ?_ ?_
    repeat' (first | exact slots_nil | refine kw ?_ | exact memIn_nil | omega)
    · exact ⟨by simp, by simp⟩
    rintro i c ⟨hi, hinv⟩
    by_cases hlt : i < b.length
    · have hv : b[i]? = some b[i] := List.getElem?_eq_getElem hlt
      generalize b[i] = e at hv
      have htk : ∀ f : Int → Bool, (b.take (i + 1)).all f = ((b.take i).all f && f e) := fun f => by rw [List.take_add_one, hv, List.all_append]; simp
      have hge := hg e
      have hk1 := hK1 i e hv
      cases hp : p e
      · rw [hp] at hge
        repeat' (first | refine ks ?_ | refine ko ?_ | refine s_indexD ?_ (hel := (by first | exact idx_map hv (by omega) | exact hv | exact rfl)) | refine s_call (hge) ?_ | refine f_ret1 def_nil ?_ | refine t_tmp ?_)
        (apply s_round (i + 1); all_goals (try dsimp only); all_goals (try (repeat' (first | exact slots_nil | refine kw ?_ | exact memIn_nil | omega))))
        exact ⟨by omega, by rw [htk, hinv, hp]; rfl⟩
      · rw [hp] at hge
        rw [hk1 hp hinv]
        repeat' (first | refine ks ?_ | refine ko ?_ | refine s_indexD ?_ (hel := (by first | exact idx_map hv (by omega) | exact hv | exact rfl)) | refine s_call (hge) ?_ | refine f_ret1 def_nil ?_ | refine t_tmp ?_)
        all_goals rfl
    · have hie : i = b.length := by omega
      subst hie
      rw [List.take_length] at hinv
      rw [hK2 hinv]
      repeat' (first | refine ks ?_ | refine ko ?_ | refine s_indexD ?_ (hel := (by first | exact rfl)) | refine f_ret1 def_nil ?_ | refine t_tmp ?_)
      all_goals rfl
  cases hf : b.findIdx? p with
  | none =>
    refine ⟨-1, ?_, key (-1) (fun i e he hp _ => ?_) (fun _ => rfl)⟩
    · have : b.any p = false := by
        rw [List.any_eq_false]
        intro x hx
        have := List.findIdx?_eq_none_iff.1 hf x hx
        simpa using this
      rw [this]; simp
    · have := List.findIdx?_eq_none_iff.1 hf e (List.mem_of_getElem? he)
      rw [hp] at this; cases this
  | some j =>
    obtain ⟨hj, hpj, hlt⟩ := List.findIdx?_eq_some_iff_getElem.1 hf
    refine ⟨j, ?_, key j (fun i e he hp hall => ?_) (fun hall => ?_)⟩
    · have : b.any p = true := List.any_eq_true.2 ⟨_, List.getElem_mem hj, hpj⟩
      rw [this]; simp
    · obtain ⟨hil, hie⟩ := List.getElem?_eq_some_iff.1 he
      rcases Nat.lt_trichotomy i j with h | h | h
      · exact absurd (by rw [hie]; exact hp) (hlt i h)
      · rw [h]
      · have hm : b[j] ∈ b.take i := by
          rw [List.mem_take_iff_getElem]
          exact ⟨j, by omega, rfl⟩
        have := List.all_eq_true.1 hall _ hm
        rw [hpj] at this; cases this
    · have := List.all_eq_true.1 hall _ (List.getElem_mem hj)
      rw [hpj] at this; cases this
theorem containsI_c (g : FuncId) (p : Int → Bool) (hg : ∀ e : Int, PCall Tryz.prog g [.one (.lit (.int .i64 e))] (.v (.one (.lit (.bool (p e)))))) (b : List Int) :
    PCall Tryz.prog 112 [.one (intsD b), .one (.lit (.func (.func g) #[] #[]))] (.v (.one (.lit (.bool (b.any p))))) := by
  obtain ⟨k, hk, hc⟩ := idxI_c g p hg b
  refine pcallN hT Tryz.func112 Tryz.ntmps112 [.tmp 4] fun B => ?_
  repeat' (first | refine ks ?_ | refine ko ?_ | refine s_call (hc) ?_ | refine f_ret1 def_nil ?_ | refine t_tmp ?_)
  refine congrArg Dat.lit (congrArg Value.bool ?_)
  rw [Bool.eq_iff_iff, decide_eq_true_eq]
  exact hk
structure Sta where
  key : List Val
  count : Int
  sums : List Int
  some : List Int
def Sta.d (s : Sta) : List Dat := [rowD s.key, .lit (.int .i64 s.count), intsD s.sums, intsD s.some]
def Sta.x (s : Sta) : List Dat := [rowX s.key, .lit (.int .i64 s.count), intsD s.sums, intsD s.some]
def stsD (l : List Sta) : Dat := .sl (l.map Sta.d)
def Sta.zero (s : Sta) : Bool := decide (s.count = 0) && !(s.sums.any fun n => decide (n ≠ 0)) && !(s.some.any fun n => decide (n ≠ 0))
theorem isOther_c (n : Int) : PCall Tryz.prog 111 [.one (.lit (.int .i64 n))] (.v (.one (.lit (.bool (decide (n ≠ 0)))))) := by
  refine pcallN hT Tryz.func111 Tryz.ntmps111 [.tmp 2] fun B => ?_
  repeat' (first | refine ks ?_ | refine ko ?_ | refine f_ret1 def_nil ?_ | refine t_tmp ?_)
  all_goals (refine congrArg Dat.lit (congrArg Value.bool ?_); by_cases h : n = 0 <;> simp [h])
theorem isZero_c (s : Sta) : PCall Tryz.prog 63 [.agg s.d] (.v (.one (.lit (.bool s.zero)))) := by
  have h1 := containsI_c 111 _ isOther_c s.sums
  have h2 := containsI_c 111 _ isOther_c s.some
  by_cases hc : s.count = 0
  · have e1 : s.zero = (!(s.sums.any fun n => decide (n ≠ 0)) && !(s.some.any fun n => decide (n ≠ 0))) := by unfold Sta.zero; rw [decide_eq_true hc, Bool.true_and]
    cases hs : s.sums.any fun n => decide (n ≠ 0) with
    | true =>
      rw [hs] at h1 e1
      rw [e1]
      refine pcallN hT Tryz.func63 Tryz.ntmps63 [.tmp 2] fun B => ?_
      repeat' (first | refine ks ?_ | refine ko ?_ | refine s_call (h1) ?_ | refine s_kT ?_ | refine s_kF ?_ | refine f_ret1 def_nil ?_ | refine t_tmp ?_)
      all_goals rfl
    | false =>
      rw [hs] at h1 e1
      rw [e1, Bool.not_false, Bool.true_and]
      generalize (s.some.any fun n => decide (n ≠ 0)) = q at h2
      refine pcallN hT Tryz.func63 Tryz.ntmps63 [.tmp 2] fun B => ?_
      repeat' (first | refine ks ?_ | refine ko ?_ | refine s_call (h1) ?_ | refine s_call (h2) ?_ | refine s_kT ?_ | refine s_kF ?_ | refine f_ret1 def_nil ?_ | refine t_tmp ?_)
      all_goals rfl
  · have e1 : s.zero = false := by unfold Sta.zero; rw [decide_eq_false hc, Bool.false_and, Bool.false_and]
    rw [e1]
    refine pcallN hT Tryz.func63 Tryz.ntmps63 [.tmp 2] fun B => ?_
    repeat' (first | refine ks ?_ | refine ko ?_ | refine s_kT ?_ | refine s_kF ?_ | refine f_ret1 def_nil ?_ | refine t_tmp ?_)
    all_goals rfl
def exactE (l : List Agg) : Bool := l.all fun x => decide (x.func = 0 ∨ x.func = 1)
theorem exact_c (l : List Agg) (hl : l.length ≤ 100000) : PCall Tryz.prog 32 [.one (aggD l)] (.v (.one (.lit (.bool (exactE l))))) := by
  refine pcallN hT Tryz.func32 Tryz.ntmps32 [.tmp 2] fun B => ?_
  repeat' (first | refine ks ?_ | refine ko ?_ | refine s_indexD ?_ (hel := (by first | exact rfl)) | refine s_kT ?_ | refine s_kF ?_ | refine f_ret1 def_nil ?_ | refine t_tmp ?_)
  refine s_lp (X := Nat) [2, 4, 7, 8, 9, 10, 11, 12, 13, 14, 15, 16, 17, 18, 19] (fun x => x ≤ l.length ∧ (l.take x).all (fun x => decide (x.func = 0 ∨ x.func = 1)) = true) (fun x lz => (7, (.c (.d (.lit (.int .i64 x))))) :: lz) (fun x => []) (fun x => l.length - x) (0) ?_ ?_ ?_ ?_
  repeat' (first | exact slots_nil | refine kw ?_ | exact memIn_nil | omega)
  · exact ⟨by simp, by simp⟩
  rintro i c ⟨hi, hinv⟩
  by_cases hlt : i < l.length
  · have hv : l[i]? = some l[i] := List.getElem?_eq_getElem hlt
    generalize l[i] = y at hv
    have hv2 : (l.map Agg.d)[i]? = some y.d := by rw [List.getElem?_map, hv]; rfl
    by_cases h0 : y.func = 0
    · repeat' (first | refine ks ?_ | refine ko ?_ | refine s_indexD ?_ (hel := (by first | exact idx_map hv2 (by omega) | exact hv2 | exact rfl)) | refine s_kT ?_ | refine s_kF ?_ | refine f_ret1 def_nil ?_ | refine t_tmp ?_)
      (apply s_round (i + 1); all_goals (try dsimp only); all_goals (try (repeat' (first | exact slots_nil | refine kw ?_ | exact memIn_nil | omega))))
      exact ⟨by omega, take_all (fun x : Agg => decide (x.func = 0 ∨ x.func = 1)) hv hinv (by simp [h0])⟩
    · by_cases h1 : y.func = 1
      · repeat' (first | refine ks ?_ | refine ko ?_ | refine s_indexD ?_ (hel := (by first | exact idx_map hv2 (by omega) | exact hv2 | exact rfl)) | refine s_kT ?_ | refine s_kF ?_ | refine f_ret1 def_nil ?_ | refine t_tmp ?_)
        (apply s_round (i + 1); all_goals (try dsimp only); all_goals (try (repeat' (first | exact slots_nil | refine kw ?_ | exact memIn_nil | omega))))
        exact ⟨by omega, take_all (fun x : Agg => decide (x.func = 0 ∨ x.func = 1)) hv hinv (by simp [h1])⟩
      · rw [exactE, not_all (fun x : Agg => decide (x.func = 0 ∨ x.func = 1)) hv (by simp [h0, h1])]
        repeat' (first | refine ks ?_ | refine ko ?_ | refine s_indexD ?_ (hel := (by first | exact idx_map hv2 (by omega) | exact hv2 | exact rfl)) | refine s_kT ?_ | refine s_kF ?_ | refine f_ret1 def_nil ?_ | refine t_tmp ?_)
        all_goals rfl
  · rw [take_ge (show l.length ≤ i by omega)] at hinv
    rw [exactE, hinv]
    repeat' (first | refine ks ?_ | refine ko ?_ | refine s_indexD ?_ (hel := (by first | exact rfl)) | refine s_kT ?_ | refine s_kF ?_ | refine f_ret1 def_nil ?_ | refine t_tmp ?_)
    all_goals rfl
end Go.Proofs.YtojfhaoleedmkaaGreat
end
section
section
namespace Go.Proofs.YtojfhaoleedmkaaGreat
open Go.Abs Go.RowKit
attribute [local irreducible] ARun kont MCall PCall HCall resVal SF CF CFs defersOk slotsIn memIn fin finM VLe
set_option linter.unusedSimpArgs false
set_option maxRecDepth 100000
set_option maxHeartbeats 4000000
def suE (es : List Entry) (x : Agg) : Int := if x.func = 1 then sumV (valsE x es) else 0
def coE (es : List Entry) (x : Agg) : Int := if x.func = 1 then cntV (valsE x es) else 0
def nE (es : List Entry) : Int := (es.map Entry.count).sum
def stE (ag : List Agg) (g : List Val × List Entry) : Sta := ⟨g.1, nE g.2, ag.map (suE g.2), ag.map (coE g.2)⟩
theorem nE_snoc {es : List Entry} {i : Nat} {y : Entry} (h : es[i]? = some y) : nE (es.take (i + 1)) = nE (es.take i) + y.count := by unfold nE; rw [take_snoc' h]; simp
theorem nE_bd {es : List Entry} (hl : es.length ≤ 4096) (hc : ∀ e ∈ es, -262144 ≤ e.count ∧ e.count ≤ 262144) (i : Nat) : -1073741824 ≤ nE (es.take i) ∧ nE (es.take i) ≤ 1073741824 := by
  have h1 := sum_bd (f := Entry.count) (M := 262144) (l := es.take i) fun x hx => (by have := hc x (List.mem_of_mem_take hx); omega)
  have h2 : (es.take i).length ≤ 4096 := by simp; omega
  unfold nE; omega
def filE (f : Agg → Int) (ag : List Agg) (k : Nat) : List (List Dat) := ((ag.take k).map fun x => [Dat.lit (.int .i64 (f x))]) ++ List.replicate (ag.length - k) [Dat.lit (.int .i64 0)]
theorem filE_len (f : Agg → Int) {ag : List Agg} {k : Nat} (h : k ≤ ag.length) : (filE f ag k).length = ag.length := by simp [filE]; omega
theorem filE_rep {ag : List Agg} {k : Nat} (h : k < ag.length) : List.replicate (ag.length - k) [Dat.lit (.int .i64 0)] = [Dat.lit (.int .i64 0)] :: List.replicate (ag.length - (k + 1)) [Dat.lit (.int .i64 0)] := by
  rw [show ag.length - k = (ag.length - (k + 1)) + 1 by omega, List.replicate_succ]
theorem filE_get (f : Agg → Int) {ag : List Agg} {k : Nat} (h : k < ag.length) : (filE f ag k)[k]? = some [Dat.lit (.int .i64 0)] := by
  unfold filE
  rw [filE_rep h, List.getElem?_append_right (by simp; omega)]
  simp [Nat.min_eq_left (Nat.le_of_lt h)]
theorem filE_set (f : Agg → Int) {ag : List Agg} {k : Nat} {x : Agg} (h : ag[k]? = some x) : (filE f ag k).set k [Dat.lit (.int .i64 (f x))] = filE f ag (k + 1) := by
  have hk := lt_of_getElem? h
  unfold filE
  rw [filE_rep hk, List.set_append_right _ _ (by simp; omega), take_snoc' h]
  simp [Nat.min_eq_left (Nat.le_of_lt hk)]
theorem filE_same (f : Agg → Int) {ag : List Agg} {k : Nat} {x : Agg} (h : ag[k]? = some x) (hf : f x = 0) : filE f ag k = filE f ag (k + 1) := by
  rw [← filE_set f h, hf]
  refine List.ext_getElem? fun i => ?_
  rw [List.getElem?_set]
  split
  · rename_i q; subst q
    rw [if_pos (by rw [filE_len f (Nat.le_of_lt (lt_of_getElem? h))]; exact lt_of_getElem? h)]
    exact filE_get f (lt_of_getElem? h)
  · rfl
theorem filE_full (f : Agg → Int) (ag : List Agg) : filE f ag ag.length = (ag.map f).map fun n => [Dat.lit (.int .i64 n)] := by simp [filE, Function.comp_def]
theorem filE_zero (f : Agg → Int) (ag : List Agg) : filE f ag 0 = List.replicate ag.length [Dat.lit (.int .i64 0)] := by simp [filE]
theorem state_x (g : List Val × List Entry) (ag : List Agg) (hl : g.2.length ≤ 4096) (hc : ∀ e ∈ g.2, -262144 ≤ e.count ∧ e.count ≤ 262144) (hal : ag.length ≤ 10000) : PCall Tryz.prog 62 [.agg (grD g), .one (aggD ag)] (.v (.agg (stE ag g).x)) := by
  refine pcallN hT Tryz.func62 Tryz.ntmps62 [.cell 4 90] fun B => ?_
  repeat' (first | refine h_loadB1 (dr := true) ?_ | refine h_fieldB (dr := true) ?_ | refine h_storeB (dr := true) ?_ | refine s_allocH 4 ?_ | refine k_hole 2 ?_ | refine k_hole 3 ?_ | refine k_hole 4 ?_ | (refine h_makeH 2 (ei := ti2) (m := ag.length) (z := (ag.length : Int)) (zd := [Dat.lit (.int .i64 0)]) ?_ (by omega) (by omega) (by omega) (by simp only [ti2]; omega) (by exact rfl) (by exact rfl) (by omega)) | (refine h_makeH 3 (ei := ti2) (m := ag.length) (z := (ag.length : Int)) (zd := [Dat.lit (.int .i64 0)]) ?_ (by omega) (by omega) (by omega) (by simp only [ti2]; omega) (by exact rfl) (by exact rfl) (by omega)) | refine ks ?_ | refine ko ?_ | refine s_indexD ?_ (hel := (by first | exact rfl)) | refine f_ret1 def_nil ?_ | refine t_cellG ?_ | exact cfs_nil | refine cfs_cons ?_ ?_ | refine cf_d ?_)
  refine s_lp (X := Nat) [7, 22, 23, 24, 25, 26, 27, 28, 29, 30, 31, 32] (fun x => x ≤ g.2.length) (fun x lz => (22, (.c (.d (.lit (.int .i64 x))))) :: lz) (fun x => [.box 1 [.d (rowX g.1), .d (bagD g.2)], .box 2 [.emp, .d (.lit (.int .i64 0)), .emp, .emp], .arr 3 2 1 (List.replicate ag.length [Dat.lit (.int .i64 0)]), .arr 4 2 1 (List.replicate ag.length [Dat.lit (.int .i64 0)]), .box 5 [.d (rowX g.1), .d (.lit (.int .i64 (nE (g.2.take x)))), .arr 2 3 ag.length, .arr 3 4 ag.length]]) (fun x => g.2.length - x) (0) ?_ ?_ ?_ ?_
  repeat' (first | exact slots_nil | refine kw ?_ | exact memIn_nil | refine kv ?_ ?_ | omega)
  rintro i c hi
  by_cases hlt : i < g.2.length
  · have hv : g.2[i]? = some g.2[i] := List.getElem?_eq_getElem hlt
    generalize g.2[i] = y at hv
    have e1 := nE_snoc hv
    have b1 := nE_bd hl hc i
    have b2 := nE_bd hl hc (i + 1)
    rw [e1] at b2
    repeat' (first | refine ks ?_ | refine ko ?_ | refine s_indexD ?_ (hel := (by first | exact idx_map hv (by omega) | exact hv | exact rfl)) | refine f_ret1 def_nil ?_ | refine t_cellG ?_ | exact cfs_nil | refine cfs_cons ?_ ?_ | refine cf_d ?_)
    (apply s_round (i + 1); all_goals (try dsimp only); all_goals (try (repeat' (first | exact slots_nil | refine kw ?_ | exact memIn_nil | refine kv ?_ ?_ | omega))))
    all_goals (rw [e1])
  · obtain rfl : i = g.2.length := by omega
    rw [take_ge (Nat.le_refl _)]
    repeat' (first | refine ks ?_ | refine ko ?_ | refine s_indexD ?_ (hel := (by first | exact rfl)) | refine f_ret1 def_nil ?_ | refine t_cellG ?_ | exact cfs_nil | refine cfs_cons ?_ ?_ | refine cf_d ?_)
    have z1 := filE_zero (suE g.2) ag
    have z2 := filE_zero (coE g.2) ag
    refine s_lp (X := Nat) [8, 9, 35, 36, 37, 38, 39, 40, 41, 42, 43, 44, 45, 46, 47, 48, 49, 50, 51, 52, 53, 54, 55, 56, 57, 58] (fun x => x ≤ ag.length) (fun x lz => (35, (.c (.d (.lit (.int .i64 x))))) :: lz) (fun x => [.box 1 [.d (rowX g.1), .d (bagD g.2)], .box 2 [.emp, .d (.lit (.int .i64 0)), .emp, .emp], .arr 3 2 1 (filE (suE g.2) ag x), .arr 4 2 1 (filE (coE g.2) ag x), .box 5 [.d (rowX g.1), .d (.lit (.int .i64 (nE g.2))), .arr 2 3 ag.length, .arr 3 4 ag.length]]) (fun x => ag.length - x) (0) ?_ ?_ ?_ ?_
    repeat' (first | exact slots_nil | refine kw ?_ | exact memIn_nil | refine kv ?_ ?_ | omega)
    rintro k c2 hk
    by_cases hkl : k < ag.length
    · have hy : ag[k]? = some ag[k] := List.getElem?_eq_getElem hkl
      generalize ag[k] = y at hy
      have hy2 : (ag.map Agg.d)[k]? = some y.d := by rw [List.getElem?_map, hy]; rfl
      have l1 := filE_len (suE g.2) hk
      have l2 := filE_len (coE g.2) hk
      by_cases hf : y.func = 1
      · have hvc := values_c g y hl
        have hsc := aggSum_c (valsE y g.2) (vals_bnd hl hc)
        have q1 := filE_set (suE g.2) hy
        have q2 := filE_set (coE g.2) hy
        have r1 := filE_get (suE g.2) hkl
        have r2 := filE_get (coE g.2) hkl
        rw [show suE g.2 y = sumV (valsE y g.2) from if_pos hf] at q1
        rw [show coE g.2 y = cntV (valsE y g.2) from if_pos hf] at q2
        generalize filE (suE g.2) ag k = A1 at q1 r1 l1 ⊢
        generalize filE (coE g.2) ag k = A2 at q2 r2 l2 ⊢
        repeat' (first | refine h_loadB1 (dr := true) ?_ | refine h_loadBA (dr := true) ?_ | refine h_fieldB (dr := true) ?_ | refine h_indexA (dr := true) ?_ | refine h_storeA (dr := true) ?_ (hj := (by first | exact r1 | exact r2)) (hes := (by first | exact q1 | exact q2)) | refine ks ?_ | refine ko ?_ | refine s_indexD ?_ (hel := (by first | exact idx_map hy2 (by omega) | exact idx_map r1 (by omega) | exact idx_map r2 (by omega) | exact hy2 | exact r1 | exact r2 | exact rfl)) | refine s_call (hvc) ?_ | refine s_call (hsc) ?_ | refine f_ret1 def_nil ?_ | refine t_cellG ?_ | exact cfs_nil | refine cfs_cons ?_ ?_ | refine cf_d ?_)
        (apply s_round (k + 1); all_goals (try dsimp only); all_goals (try (repeat' (first | exact slots_nil | refine kw ?_ | exact memIn_nil | refine kv ?_ ?_ | omega))))
      · have q1 := filE_same (suE g.2) hy (if_neg hf)
        have q2 := filE_same (coE g.2) hy (if_neg hf)
        rw [q1, q2]
        repeat' (first | refine ks ?_ | refine ko ?_ | refine s_indexD ?_ (hel := (by first | exact idx_map hy2 (by omega) | exact hy2 | exact rfl)) | refine f_ret1 def_nil ?_ | refine t_cellG ?_ | exact cfs_nil | refine cfs_cons ?_ ?_ | refine cf_d ?_)
        (apply s_round (k + 1); all_goals (try dsimp only); all_goals (try (repeat' (first | exact slots_nil | refine kw ?_ | exact memIn_nil | refine kv ?_ ?_ | omega))))
    · obtain rfl : k = ag.length := by omega
      rw [filE_full, filE_full]
      refine s_freezeB 4 2 2 ?_ rfl rfl rfl (by simp) (take_ge (by simp)) rfl
      refine s_freezeB 4 3 3 ?_ rfl rfl rfl (by simp) (take_ge (by simp)) rfl
      repeat' (first | refine ks ?_ | refine ko ?_ | refine s_indexD ?_ (hel := (by first | exact rfl)) | refine f_ret1 def_nil ?_ | refine t_cellG ?_ | exact cfs_nil | refine cfs_cons ?_ ?_ | refine cf_d ?_)
      all_goals rfl
end Go.Proofs.YtojfhaoleedmkaaGreat
end
section
namespace Go.Proofs.YtojfhaoleedmkaaGreat
open Go.Abs Go.RowKit
attribute [local irreducible] ARun kont MCall PCall HCall resVal SF CF CFs defersOk slotsIn memIn fin finM VLe
set_option linter.unusedSimpArgs false
set_option maxRecDepth 100000
set_option maxHeartbeats 4000000
theorem state_c (g : List Val × List Entry) (ag : List Agg) (hl : g.2.length ≤ 4096) (hc : ∀ e ∈ g.2, -262144 ≤ e.count ∧ e.count ≤ 262144) (hal : ag.length ≤ 10000) : PCall Tryz.prog 62 [.agg (grD g), .one (aggD ag)] (.v (.agg (stE ag g).d)) :=
  (state_x g ag hl hc hal).res ⟨rowX_le _, .rfl, .rfl, .rfl, trivial⟩
def nzS (s : Sta) : Bool := !s.zero
def statesE (b : List Entry) (keys : List Itm) (ag : List Agg) : List Sta × Int :=
  if bagValid b = true ∧ keys.length + ag.length ≤ 8 ∧ exactE ag = true then (((grpE b (keyE keys)).map (stE ag)).filter nzS, 0) else ([], 1)
theorem aggStates1_d : DeferOk Tryz.prog 60 0 := by
  refine ⟨⟨_, Tryz.func60, by kernel_rfl, by kernel_rfl⟩, fun vs w hl => ?_⟩
  match vs, hl with
  | [], _ =>
    refine callsD_of_wpS Tryz.func60 rfl fun c₀ cs hu => ?_
    apply wpS_region
    simp [wpOpsS, go_sem, recoverD, hu, Tryz.ntmps60, Exit.thenS]
    cases c₀
    simp_all [bodyPostS, results, Tryz.results60]
theorem states_c (b : List Entry) (keys : List Itm) (ag : List Agg) (hkl : keys.length ≤ 10000) (hal : ag.length ≤ 10000) : PCall Tryz.prog 21 [.one (bagD b), .one (itmD keys), .one (aggD ag)] (.tup [.one (stsD (statesE b keys ag).1), .one (.lit (.int .i64 (statesE b keys ag).2))]) := by
  have hx := exact_c ag (by omega)
  have hv := bagValid_c b
  by_cases hkl2 : keys.length + ag.length ≤ 8
  · by_cases hxa : exactE ag = true
    · rw [hxa] at hx
      by_cases hbv : bagValid b = true
      · rw [hbv] at hv
        have hK : CleanK b (keyE keys) := fun e _ => keyE_clean keys e.row
        obtain ⟨hbl, hbm⟩ := valid_mem hbv
        have he : statesE b keys ag = (((grpE b (keyE keys)).map (stE ag)).filter nzS, 0) := if_pos ⟨hbv, hkl2, hxa⟩
        rw [he]
        have hg := groups_c b keys hbl (by omega)
        have hgl := grpE_len b _ hK
        have hgm : ∀ g ∈ grpE b (keyE keys), g.2.length ≤ 4096 ∧ (∀ e ∈ g.2, -262144 ≤ e.count ∧ e.count ≤ 262144) := fun g hg => by
          obtain ⟨_, h2⟩ := grpE_mem hK hg
          refine ⟨?_, fun e he => ?_⟩
          · have := List.length_filter_le (atK (keyE keys) g.1) b
            rw [h2]; omega
          · rw [h2] at he; exact (hbm e (List.mem_filter.1 he).1).2.1
        clear he
        generalize grpE b (keyE keys) = G at hg hgl hgm
        refine pcallN hT Tryz.func21 Tryz.ntmps21 [.tmp 6, .tmp 7] fun B => ?_
        repeat' (first | refine ks ?_ | refine ko ?_ | refine s_indexD ?_ (hel := (by first | exact rfl)) | refine s_call (hx) ?_ | refine s_call (hv) ?_ | refine s_call (hg) ?_ | refine s_kT ?_ | refine s_kF ?_ | refine f_ret2 (by repeat (first | exact def_nil | refine def_cons aggStates1_d ?_)) ?_ ?_ | refine t_tmp ?_ | refine t_tmpE ?_)
        refine s_own 8 90 4 ?_
        refine s_lp (X := Nat × Nat) [8, 10, 11, 32, 33, 34, 35, 36, 37, 38, 39, 40, 41, 42, 43, 44, 45, 46] (fun x => x.1 ≤ G.length) (fun x lz => (32, (.c (.d (.lit (.int .i64 x.1))))) :: (8, .c (.arr 0 x.2 (((G.take x.1).map (stE ag)).filter nzS).length)) :: lz) (fun x => [.arr x.2 90 4 ((((G.take x.1).map (stE ag)).filter nzS).map Sta.d)]) (fun x => G.length - x.1) ((0, 1)) ?_ ?_ ?_ ?_
        repeat' (first | exact slots_nil | refine kw ?_ | refine kv ?_ ?_ | exact memIn_nil | omega)
        rintro ⟨i, v⟩ c0 hi
        dsimp only at hi ⊢
        by_cases hlt : i < G.length
        · have hg1 : G[i]? = some G[i] := List.getElem?_eq_getElem hlt
          have hgi := hgm _ (List.getElem_mem hlt)
          generalize G[i] = g at hg1 hgi
          have hg2 : (G.map grD)[i]? = some (grD g) := by rw [List.getElem?_map, hg1]; rfl
          have hsc := state_c g ag hgi.1 hgi.2 hal
          have hz := isZero_c (stE ag g)
          have hsn : ((G.take (i + 1)).map (stE ag)).filter nzS = ((G.take i).map (stE ag)).filter nzS ++ if nzS (stE ag g) = true then [stE ag g] else [] := by
            rw [take_snoc' hg1, List.map_append, List.filter_append]
            congr 1
            rw [List.map_singleton, List.filter_cons]; rfl
          have hAl : (((G.take i).map (stE ag)).filter nzS).length ≤ i := Nat.le_trans (List.length_filter_le _ _) (by simp; omega)
          generalize ((G.take i).map (stE ag)).filter nzS = A at hsn hAl ⊢
          cases hq : (stE ag g).zero with
          | true =>
            rw [hq] at hz
            rw [show nzS (stE ag g) = false by unfold nzS; rw [hq]; rfl, if_neg (by decide), List.append_nil] at hsn
            rw [← hsn]
            repeat' (first | refine ks ?_ | refine ko ?_ | refine s_indexD ?_ (hel := (by first | exact idx_map hg2 (by omega) | exact hg2 | exact rfl)) | refine s_call (hsc) ?_ | refine s_call (hz) ?_ | refine s_kT ?_ | refine s_kF ?_ | refine f_ret2 def_nil ?_ ?_ | refine t_tmp ?_ | refine t_tmpE ?_)
            (apply s_round ((i + 1, v)); all_goals (try dsimp only); all_goals (try (repeat' (first | exact slots_nil | refine kw ?_ | refine kv ?_ ?_ | exact memIn_nil | omega))))
          | false =>
            rw [hq] at hz
            rw [show nzS (stE ag g) = true by unfold nzS; rw [hq]; rfl, if_pos rfl] at hsn
            have hl2 : (A ++ [stE ag g]).length = A.length + 1 := by simp
            have hm2 : (A ++ [stE ag g]).map Sta.d = A.map Sta.d ++ [(stE ag g).d] := by simp
            repeat' (first | refine ks ?_ | refine ko ?_ | refine s_indexD ?_ (hel := (by first | exact idx_map hg2 (by omega) | exact hg2 | exact rfl)) | refine s_call (hsc) ?_ | refine s_call (hz) ?_ | refine s_kT ?_ | refine s_kF ?_ | refine f_ret2 def_nil ?_ ?_ | refine t_tmp ?_ | refine t_tmpE ?_)
            (apply s_round ((i + 1, c0 + 3)); all_goals (try dsimp only); all_goals (try (repeat' (first | exact slots_nil | refine kw ?_ | refine kv ?_ ?_ | exact memIn_nil | omega))))
            all_goals rw [hsn]
            all_goals first
              | (rw [hm2]; rfl)
              | (rw [hl2]; rfl)
        · obtain rfl : i = G.length := by omega
          rw [take_ge (Nat.le_refl _)]
          generalize (G.map (stE ag)).filter nzS = A
          refine s_freeze (r := 0) (m := A.length) (es := A.map Sta.d) 8 ?_
          repeat' (first | refine ks ?_ | refine ko ?_ | refine s_indexD ?_ (hel := (by first | exact rfl)) | refine s_kT ?_ | refine s_kF ?_ | refine f_ret2 (by repeat (first | exact def_nil | refine def_cons aggStates1_d ?_)) ?_ ?_ | refine t_tmp ?_ | refine t_tmpE ?_)
          all_goals rfl
      · have he : statesE b keys ag = ([], 1) := if_neg fun h => hbv h.1
        rw [he]
        rw [show bagValid b = false by simpa using hbv] at hv
        refine pcallN hT Tryz.func21 Tryz.ntmps21 [.tmp 6, .tmp 7] fun B => ?_
        repeat' (first | refine ks ?_ | refine ko ?_ | refine s_indexD ?_ (hel := (by first | exact rfl)) | refine s_call (hx) ?_ | refine s_call (hv) ?_ | refine s_kT ?_ | refine s_kF ?_ | refine f_ret2 (by repeat (first | exact def_nil | refine def_cons aggStates1_d ?_)) ?_ ?_ | refine t_tmp ?_ | refine t_tmpE ?_)
        all_goals rfl
    · have he : statesE b keys ag = ([], 1) := if_neg fun h => hxa h.2.2
      rw [he]
      rw [show exactE ag = false by simpa using hxa] at hx
      refine pcallN hT Tryz.func21 Tryz.ntmps21 [.tmp 6, .tmp 7] fun B => ?_
      repeat' (first | refine ks ?_ | refine ko ?_ | refine s_indexD ?_ (hel := (by first | exact rfl)) | refine s_call (hx) ?_ | refine s_call (hv) ?_ | refine s_kT ?_ | refine s_kF ?_ | refine f_ret2 (by repeat (first | exact def_nil | refine def_cons aggStates1_d ?_)) ?_ ?_ | refine t_tmp ?_ | refine t_tmpE ?_)
      all_goals rfl
  · have he : statesE b keys ag = ([], 1) := if_neg fun h => hkl2 h.2.1
    rw [he]
    refine pcallN hT Tryz.func21 Tryz.ntmps21 [.tmp 6, .tmp 7] fun B => ?_
    repeat' (first | refine ks ?_ | refine ko ?_ | refine s_indexD ?_ (hel := (by first | exact rfl)) | refine s_call (hx) ?_ | refine s_call (hv) ?_ | refine s_kT ?_ | refine s_kF ?_ | refine f_ret2 (by repeat (first | exact def_nil | refine def_cons aggStates1_d ?_)) ?_ ?_ | refine t_tmp ?_ | refine t_tmpE ?_)
    all_goals rfl
end Go.Proofs.YtojfhaoleedmkaaGreat
end
end
