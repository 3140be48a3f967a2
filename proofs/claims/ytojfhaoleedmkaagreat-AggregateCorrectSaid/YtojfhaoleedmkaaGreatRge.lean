/-
  Aggregates, the document's: Exact, Same, limit, numbers, empty.
-/
import Derived.Test.YtojfhaoleedmkaaGreatAgs
import Derived.Test.YtojfhaoleedmkaaGreatPos
namespace Go.Proofs.YtojfhaoleedmkaaGreat
open Go.Abs Go.RowKit
attribute [local irreducible] ARun kont MCall PCall HCall resVal SF CF CFs defersOk slotsIn memIn fin finM VLe
set_option linter.unusedSimpArgs false
set_option maxRecDepth 100000
set_option maxHeartbeats 4000000
theorem refExact_c (l : List Agg) (hl : l.length ≤ 100000) : PCall Tryz.prog 33 [.one (aggD l)] (.v (.one (.lit (.bool (exactE l))))) := by
  refine pcallN hT Tryz.func33 Tryz.ntmps33 [.tmp 2] fun B => ?_
  repeat' (first | refine ks ?_ | refine ko ?_ | refine s_indexD ?_ (hel := (by first | exact rfl)) | refine s_kT ?_ | refine s_kF ?_ | refine f_ret1 def_nil ?_ | refine t_tmp ?_)
  refine s_lp (X := Nat) [2, 3, 4, 5, 6, 7, 8, 9, 10, 11, 12, 13, 14, 15, 16, 17, 18, 19, 20, 21, 22, 23] (fun x => x ≤ l.length ∧ (l.take x).all (fun x => decide (x.func = 0 ∨ x.func = 1)) = true) (fun x lz => (3, (.c (.d (.lit (.int .i64 x))))) :: lz) (fun x => []) (fun x => l.length - x) (0) ?_ ?_ ?_ ?_
  repeat' (first | exact slots_nil | refine kw ?_ | exact memIn_nil | omega)
  · exact ⟨by simp, by simp⟩
  rintro i c ⟨hi, hinv⟩
  by_cases hlt : i < l.length
  · have hv : l[i]? = some l[i] := List.getElem?_eq_getElem hlt
    generalize l[i] = y at hv
    have hv2 : (l.map Agg.d)[i]? = some y.d := by rw [List.getElem?_map, hv]; rfl
    by_cases h0 : y.func = 0
    · repeat' (first | refine ks ?_ | refine ko ?_ | refine s_indexD ?_ (hel := (by first | exact idx_map hv2 (by omega) | exact hv2 | exact rfl)) | refine s_kT ?_ | refine s_kF ?_ | refine f_ret1 def_nil ?_ | refine t_tmp ?_)
      (apply s_round (i + 1); all_goals (try dsimp only); all_goals (try (repeat' (first | exact slots_nil | refine kw ?_ | exact memIn_nil | omega))))
      exact ⟨by omega, take_all (fun x : Agg => decide (x.func = 0 ∨ x.func = 1)) hv hinv (by simp [h0])⟩
    · by_cases h1 : y.func = 1
      · repeat' (first | refine ks ?_ | refine ko ?_ | refine s_indexD ?_ (hel := (by first | exact idx_map hv2 (by omega) | exact hv2 | exact rfl)) | refine s_kT ?_ | refine s_kF ?_ | refine f_ret1 def_nil ?_ | refine t_tmp ?_)
        (apply s_round (i + 1); all_goals (try dsimp only); all_goals (try (repeat' (first | exact slots_nil | refine kw ?_ | exact memIn_nil | omega))))
        exact ⟨by omega, take_all (fun x : Agg => decide (x.func = 0 ∨ x.func = 1)) hv hinv (by simp [h1])⟩
      · rw [exactE, not_all (fun x : Agg => decide (x.func = 0 ∨ x.func = 1)) hv (by simp [h0, h1])]
        repeat' (first | refine ks ?_ | refine ko ?_ | refine s_indexD ?_ (hel := (by first | exact idx_map hv2 (by omega) | exact hv2 | exact rfl)) | refine s_kT ?_ | refine s_kF ?_ | refine f_ret1 def_nil ?_ | refine t_tmp ?_)
        all_goals rfl
  · rw [take_ge (show l.length ≤ i by omega)] at hinv
    rw [exactE, hinv]
    repeat' (first | refine ks ?_ | refine ko ?_ | refine s_indexD ?_ (hel := (by first | exact rfl)) | refine s_kT ?_ | refine s_kF ?_ | refine f_ret1 def_nil ?_ | refine t_tmp ?_)
    all_goals rfl
theorem sameI_c (l : List Int) : PCall Tryz.prog 67 [.one (intsD l), .one (intsD l)] (.v (.one (.lit (.bool true)))) := by
  refine pcallN hT Tryz.func67 Tryz.ntmps67 [.tmp 4] fun B => ?_
  refine k_len 0 rfl fun hlr => ?_
  simp only [List.length_map, maxLen] at hlr
  repeat' (first | refine ks ?_ | refine ko ?_ | refine s_indexD ?_ (hel := (by first | exact rfl)) | refine f_ret1 def_nil ?_ | refine t_tmp ?_)
  refine s_lp (X := Nat) [4, 5, 11, 12, 13, 14, 15, 16, 17, 18, 19, 20, 21, 22, 23, 24, 25] (fun x => x ≤ l.length) (fun x lz => (5, (.c (.d (.lit (.int .i64 x))))) :: lz) (fun x => []) (fun x => l.length - x) (0) ?_ ?_ ?_ ?_
  repeat' (first | exact slots_nil | refine kw ?_ | exact memIn_nil | omega)
  rintro i c hi
  by_cases hlt : i < l.length
  · have hv : l[i]? = some l[i] := List.getElem?_eq_getElem hlt
    generalize l[i] = e at hv
    repeat' (first | refine ks ?_ | refine ko ?_ | refine s_indexD ?_ (hel := (by first | exact idx_map hv (by omega) | exact hv | exact rfl)) | refine f_ret1 def_nil ?_ | refine t_tmp ?_)
    (apply s_round (i + 1); all_goals (try dsimp only); all_goals (try (repeat' (first | exact slots_nil | refine kw ?_ | exact memIn_nil | omega))))
  · repeat' (first | refine ks ?_ | refine ko ?_ | refine s_indexD ?_ (hel := (by first | exact rfl)) | refine f_ret1 def_nil ?_ | refine t_tmp ?_)
    all_goals rfl
theorem sameG_c (l : List Sta) : PCall Tryz.prog 23 [.one (stsD l), .one (stsD l)] (.v (.one (.lit (.bool true)))) := by
  refine pcallN hT Tryz.func23 Tryz.ntmps23 [.tmp 4] fun B => ?_
  refine k_len 0 rfl fun hlr => ?_
  simp only [List.length_map, maxLen] at hlr
  repeat' (first | refine ks ?_ | refine ko ?_ | refine s_indexD ?_ (hel := (by first | exact rfl)) | refine s_kF ?_ | refine f_ret1 def_nil ?_ | refine t_tmp ?_)
  refine s_lp (X := Nat) [4, 5, 11, 12, 13, 14, 15, 16, 17, 18, 19, 20, 21, 22, 23, 24, 25, 26, 27, 28, 29, 30, 31, 32, 33, 34, 35, 36, 37, 38, 39, 40, 41, 42, 43, 44, 45, 46, 47, 48, 49, 50, 51, 52, 53, 54, 55, 56, 57, 58, 59, 60, 61, 62, 63, 64, 65, 66, 67, 68, 69] (fun x => x ≤ l.length) (fun x lz => (5, (.c (.d (.lit (.int .i64 x))))) :: lz) (fun x => []) (fun x => l.length - x) (0) ?_ ?_ ?_ ?_
  repeat' (first | exact slots_nil | refine kw ?_ | exact memIn_nil | omega)
  rintro i c hi
  by_cases hlt : i < l.length
  · have hv : l[i]? = some l[i] := List.getElem?_eq_getElem hlt
    generalize l[i] = e at hv
    have hv2 : (l.map Sta.d)[i]? = some e.d := by rw [List.getElem?_map, hv]; rfl
    have h1 := same01_c e.key e.key
    rw [show sameRow e.key e.key = true from sr_iff.2 rfl] at h1
    have h2 := sameI_c e.sums
    have h3 := sameI_c e.some
    repeat' (first | refine ks ?_ | refine ko ?_ | refine s_indexD ?_ (hel := (by first | exact idx_map hv2 (by omega) | exact hv2 | exact rfl)) | refine s_call (h1) ?_ | refine s_call (h2) ?_ | refine s_call (h3) ?_ | refine s_kF ?_ | refine f_ret1 def_nil ?_ | refine t_tmp ?_)
    (apply s_round (i + 1); all_goals (try dsimp only); all_goals (try (repeat' (first | exact slots_nil | refine kw ?_ | exact memIn_nil | omega))))
  · repeat' (first | refine ks ?_ | refine ko ?_ | refine s_indexD ?_ (hel := (by first | exact rfl)) | refine s_kF ?_ | refine f_ret1 def_nil ?_ | refine t_tmp ?_)
    all_goals rfl
theorem limit_c (n m : Int) (hm : 0 ≤ m ∧ m ≤ 4611686018427387904) : PCall Tryz.prog 148 [.one (.lit (.int .i64 n)), .one (.lit (.int .i64 m))] (.v (.one (.lit (.bool (inW n m))))) := by
  have hw : IntKind.i64.wrap (-m) = -m := wrap_i64 (by omega) (by omega)
  refine pcallN hT Tryz.func148 Tryz.ntmps148 [.tmp 4] fun B => ?_
  repeat' (first | refine ks ?_ | refine ko ?_ | refine s_split rfl rfl (fun hb => ?_) (fun hb => ?_) | refine f_ret1 def_nil ?_ | refine t_tmp ?_)
  all_goals (refine congrArg Dat.lit (congrArg Value.bool ?_); simp_all [inW]; try omega)
def limP (t : Int × Int) : Bool := inW t.1 4611686018427387904 && inW t.2 1073741824
def limsE (s : Sta) : Bool := (s.sums.zip s.some).all limP && inW s.count 1073741824
theorem zip_get {l m : List Int} {i : Nat} {a b : Int} (ha : l[i]? = some a) (hb : m[i]? = some b) : (l.zip m)[i]? = some (a, b) := by
  rw [List.getElem?_zip_eq_some]; exact ⟨ha, hb⟩
theorem numbers_c (s : Sta) (hl : s.some.length = s.sums.length) (hl2 : s.sums.length ≤ 100000) : PCall Tryz.prog 115 [.agg s.d] (.v (.one (.lit (.bool (limsE s))))) := by
  have hw := limit_c s.count 1073741824 (by omega)
  have hzl : (s.sums.zip s.some).length = s.sums.length := by rw [List.length_zip]; omega
  unfold limsE
  refine pcallN hT Tryz.func115 Tryz.ntmps115 [.tmp 2] fun B => ?_
  repeat' (first | refine ks ?_ | refine ko ?_ | refine s_indexD ?_ (hel := (by first | exact rfl)) | refine f_ret1 def_nil ?_ | refine t_tmp ?_)
  refine s_lp (X := Nat) [2, 3, 4, 5, 6, 7, 8, 9, 10, 11, 12, 13, 14, 15, 16, 17, 18, 19, 20, 21, 22, 23, 24, 25, 26] (fun x => x ≤ s.sums.length ∧ ((s.sums.zip s.some).take x).all limP = true) (fun x lz => (3, (.c (.d (.lit (.int .i64 x))))) :: lz) (fun x => [.box 1 (s.d.map .d)]) (fun x => s.sums.length - x) (0) ?_ ?_ ?_ ?_
  repeat' (first | exact slots_nil | refine kw ?_ | refine kv ?_ ?_ | exact memIn_nil | omega)
  · exact ⟨by simp, by simp⟩
  rintro i c ⟨hi, hinv⟩
  by_cases hlt : i < s.sums.length
  · have hu1 : s.sums[i]? = some (s.sums[i]'(by omega)) := List.getElem?_eq_getElem _
    have hu2 : s.some[i]? = some (s.some[i]'(by omega)) := List.getElem?_eq_getElem _
    generalize s.sums[i]'(by omega) = a at hu1
    generalize s.some[i]'(by omega) = b at hu2
    have ht := zip_get hu1 hu2
    have w1 := limit_c a 4611686018427387904 (by omega)
    have w2 := limit_c b 1073741824 (by omega)
    have hbad : limP (a, b) = false → (s.sums.zip s.some).all limP = false := not_all limP ht
    have hgood : limP (a, b) = true → ((s.sums.zip s.some).take (i + 1)).all limP = true := take_all limP ht hinv
    have htv : limP (a, b) = (inW a 4611686018427387904 && inW b 1073741824) := rfl
    cases q1 : inW a 4611686018427387904 with
    | false =>
      rw [q1] at w1
      rw [hbad (by rw [htv, q1]; rfl), Bool.false_and]
      repeat' (first | refine ks ?_ | refine ko ?_ | refine s_indexD ?_ (hel := (by first | exact idx_map hu1 (by omega) | exact idx_map hu2 (by omega) | exact hu1 | exact hu2 | exact rfl)) | refine s_call (w1) ?_ | refine s_call (w2) ?_ | refine f_ret1 def_nil ?_ | refine t_tmp ?_)
      all_goals rfl
    | true =>
      rw [q1] at w1
      cases q2 : inW b 1073741824 with
      | false =>
        rw [q2] at w2
        rw [hbad (by rw [htv, q1, q2]; rfl), Bool.false_and]
        repeat' (first | refine ks ?_ | refine ko ?_ | refine s_indexD ?_ (hel := (by first | exact idx_map hu1 (by omega) | exact idx_map hu2 (by omega) | exact hu1 | exact hu2 | exact rfl)) | refine s_call (w1) ?_ | refine s_call (w2) ?_ | refine f_ret1 def_nil ?_ | refine t_tmp ?_)
        all_goals rfl
      | true =>
        rw [q2] at w2
        repeat' (first | refine ks ?_ | refine ko ?_ | refine s_indexD ?_ (hel := (by first | exact idx_map hu1 (by omega) | exact idx_map hu2 (by omega) | exact hu1 | exact hu2 | exact rfl)) | refine s_call (w1) ?_ | refine s_call (w2) ?_ | refine f_ret1 def_nil ?_ | refine t_tmp ?_)
        (apply s_round (i + 1); all_goals (try dsimp only); all_goals (try (repeat' (first | exact slots_nil | refine kw ?_ | refine kv ?_ ?_ | exact memIn_nil | omega))))
        all_goals first
          | rfl
          | exact ⟨by omega, hgood (by rw [htv, q1, q2]; rfl)⟩
  · rw [take_ge (show (s.sums.zip s.some).length ≤ i by omega)] at hinv
    rw [hinv, Bool.true_and]
    repeat' (first | refine ks ?_ | refine ko ?_ | refine s_indexD ?_ (hel := (by first | exact rfl)) | refine s_call (hw) ?_ | refine f_ret1 def_nil ?_ | refine t_tmp ?_)
    all_goals rfl
def zerP (t : Int × Int) : Bool := decide (t.1 = 0) && decide (t.2 = 0)
def emptyE (s : Sta) : Bool := (s.sums.zip s.some).all zerP && decide (s.count = 0)
theorem empty_c (s : Sta) (hl : s.some.length = s.sums.length) (hl2 : s.sums.length ≤ 100000) : PCall Tryz.prog 66 [.agg s.d] (.v (.one (.lit (.bool (emptyE s))))) := by
  have hzl : (s.sums.zip s.some).length = s.sums.length := by rw [List.length_zip]; omega
  unfold emptyE
  refine pcallN hT Tryz.func66 Tryz.ntmps66 [.tmp 2] fun B => ?_
  repeat' (first | refine ks ?_ | refine ko ?_ | refine s_indexD ?_ (hel := (by first | exact rfl)) | refine s_kT ?_ | refine s_kF ?_ | refine f_ret1 def_nil ?_ | refine t_tmp ?_)
  refine s_lp (X := Nat) [2, 3, 4, 5, 6, 7, 8, 9, 10, 11, 12, 13, 14, 15, 16, 17, 18, 19, 20, 21, 22, 23, 24, 25, 26, 27, 28, 29, 30, 31] (fun x => x ≤ s.sums.length ∧ ((s.sums.zip s.some).take x).all zerP = true) (fun x lz => (3, (.c (.d (.lit (.int .i64 x))))) :: lz) (fun x => [.box 1 (s.d.map .d)]) (fun x => s.sums.length - x) (0) ?_ ?_ ?_ ?_
  repeat' (first | exact slots_nil | refine kw ?_ | exact memIn_nil | omega)
  · exact ⟨by simp, by simp⟩
  rintro i c ⟨hi, hinv⟩
  by_cases hlt : i < s.sums.length
  · have hu1 : s.sums[i]? = some (s.sums[i]'(by omega)) := List.getElem?_eq_getElem _
    have hu2 : s.some[i]? = some (s.some[i]'(by omega)) := List.getElem?_eq_getElem _
    generalize s.sums[i]'(by omega) = a at hu1
    generalize s.some[i]'(by omega) = b at hu2
    have ht := zip_get hu1 hu2
    have hbad : zerP (a, b) = false → (s.sums.zip s.some).all zerP = false := not_all zerP ht
    have hgood : zerP (a, b) = true → ((s.sums.zip s.some).take (i + 1)).all zerP = true := take_all zerP ht hinv
    by_cases q1 : a = 0
    · by_cases q2 : b = 0
      · subst q1; subst q2
        repeat' (first | refine ks ?_ | refine ko ?_ | refine s_indexD ?_ (hel := (by first | exact idx_map hu1 (by omega) | exact idx_map hu2 (by omega) | exact hu1 | exact hu2 | exact rfl)) | refine s_kT ?_ | refine s_kF ?_ | refine f_ret1 def_nil ?_ | refine t_tmp ?_)
        (apply s_round (i + 1); all_goals (try dsimp only); all_goals (try (repeat' (first | exact slots_nil | refine kw ?_ | exact memIn_nil | omega))))
        all_goals first
          | rfl
          | exact ⟨by omega, hgood rfl⟩
      · rw [hbad (by simp [zerP, q2]), Bool.false_and]
        repeat' (first | refine ks ?_ | refine ko ?_ | refine s_indexD ?_ (hel := (by first | exact idx_map hu1 (by omega) | exact idx_map hu2 (by omega) | exact hu1 | exact hu2 | exact rfl)) | refine s_kT ?_ | refine s_kF ?_ | refine f_ret1 def_nil ?_ | refine t_tmp ?_)
        all_goals rfl
    · rw [hbad (by simp [zerP, q1]), Bool.false_and]
      repeat' (first | refine ks ?_ | refine ko ?_ | refine s_indexD ?_ (hel := (by first | exact idx_map hu1 (by omega) | exact idx_map hu2 (by omega) | exact hu1 | exact hu2 | exact rfl)) | refine s_kT ?_ | refine s_kF ?_ | refine f_ret1 def_nil ?_ | refine t_tmp ?_)
      all_goals rfl
  · rw [take_ge (show (s.sums.zip s.some).length ≤ i by omega)] at hinv
    rw [hinv, Bool.true_and]
    repeat' (first | refine ks ?_ | refine ko ?_ | refine s_indexD ?_ (hel := (by first | exact rfl)) | refine s_kT ?_ | refine s_kF ?_ | refine f_ret1 def_nil ?_ | refine t_tmp ?_)
    all_goals rfl
theorem empty_zero {s : Sta} (hl : s.some.length = s.sums.length) : emptyE s = s.zero := by
  have key : ∀ (l m : List Int), m.length = l.length → ((l.zip m).all zerP = true ↔ (∀ n ∈ l, n = 0) ∧ ∀ n ∈ m, n = 0) := by
    intro l
    induction l with
    | nil => intro m h; obtain rfl := List.length_eq_zero_iff.1 h; simp
    | cons x l ih =>
      intro m h
      cases m with
      | nil => simp at h
      | cons y m =>
        have := ih m (by simpa using h)
        simp only [List.zip_cons_cons, List.all_cons, Bool.and_eq_true, this, zerP, decide_eq_true_eq, List.forall_mem_cons]
        constructor
        · rintro ⟨⟨a, b⟩, c, d⟩; exact ⟨⟨a, c⟩, b, d⟩
        · rintro ⟨⟨a, c⟩, b, d⟩; exact ⟨⟨a, b⟩, c, d⟩
  rw [Bool.eq_iff_iff]
  unfold emptyE Sta.zero
  simp only [Bool.and_eq_true, key _ _ hl, decide_eq_true_eq, Bool.not_eq_true', List.any_eq_false, ne_eq, Decidable.not_not]
  constructor
  · rintro ⟨⟨a, b⟩, c⟩; exact ⟨⟨c, a⟩, b⟩
  · rintro ⟨⟨c, a⟩, b⟩; exact ⟨⟨a, b⟩, c⟩
end Go.Proofs.YtojfhaoleedmkaaGreat
