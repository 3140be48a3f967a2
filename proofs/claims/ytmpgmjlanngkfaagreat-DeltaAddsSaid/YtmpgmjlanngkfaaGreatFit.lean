/-
  The tape's change that fits a bag: some entries are removed, others are added.
-/
import Derived.Test.YtmpgmjlanngkfaaGreatFta
import Derived.Test.YtmpgmjlanngkfaaGreatTex
import Derived.Test.YtmpgmjlanngkfaaGreatLgp
import Derived.Test.YtmpgmjlanngkfaaGreatTkg
import Derived.Test.YtmpgmjlanngkfaaGreatArz
section
namespace Go.Proofs.YtmpgmjlanngkfaaGreat
open Go.Abs Go.RowKit
attribute [local irreducible] ARun kont MCall PCall HCall resVal SF CF CFs defersOk slotsIn memIn fin finM VLe
set_option linter.unusedSimpArgs false
set_option maxRecDepth 100000
set_option maxHeartbeats 4000000
theorem wS_nnF {f : List Val → Int} (hf : ∀ r, 0 ≤ f r) : ∀ {l : List Entry}, (∀ e ∈ l, 0 < e.count) → 0 ≤ wS f l
  | [], _ => Int.le_refl _
  | e :: l, h => by
    have h1 := wS_nnF hf (l := l) fun x hx => h x (by simp [hx])
    have h2 := Int.mul_nonneg (show (0 : Int) ≤ e.count by have := h e (by simp); omega) (hf e.row)
    rw [wS]; omega
theorem bagA_h (t : Tape) (w n : Nat) (ht : t.ok) (hw : w ≤ 16) (hn : n ≤ 999) : ∃ (b : List Entry) (t' : Tape), t'.ok ∧ Tiny (3 * n) w b ∧ (∀ e ∈ b, 0 < e.count) ∧
    ((b = [] ∧ HCall Tryz.prog 11 [.c (.bp 0 0 0), (.c (.d (.lit (.int .i64 (w : Int))))), (.c (.d (.lit (.int .i64 (n : Int))))), .c (.d (.lit (.bool false)))] [(.box 0 [.d (numD (t).l), .d (.lit (.int .i64 (t).at_))])] (.c .emp) [(.box 0 [.d (numD (t').l), .d (.lit (.int .i64 (t').at_))]), .dead]) ∨
    HCall Tryz.prog 11 [.c (.bp 0 0 0), (.c (.d (.lit (.int .i64 (w : Int))))), (.c (.d (.lit (.int .i64 (n : Int))))), .c (.d (.lit (.bool false)))] [(.box 0 [.d (numD (t).l), .d (.lit (.int .i64 (t).at_))])] (.c (.arr 2 1 b.length)) [(.box 0 [.d (numD (t').l), .d (.lit (.int .i64 (t').at_))]), .dead, .arr 1 56 2 (b.map Entry.d)]) := by
  have hent := entries_h t w n ht (by omega) (by omega)
  obtain ⟨b1, b2⟩ := t.nx_bd ((n : Int) + 1)
  have hok1 := ht.go ((n : Int) + 1)
  obtain ⟨i0, hi0⟩ := Int.eq_ofNat_of_zero_le b1
  rw [hi0, Int.toNat_natCast] at hent
  rw [hi0] at b1 b2
  have hxo := entS_ok hok1 w i0
  have hgood := entS_good (t.go ((n : Int) + 1)) w hw i0
  have hwid := entS_wid (t.go ((n : Int) + 1)) w i0
  generalize t.go ((n : Int) + 1) = t1 at hent hok1 hxo hgood hwid
  obtain ⟨hok2, hxl⟩ := hxo
  generalize entS t1 w i0 = E at hent hok2 hxl hgood hwid
  obtain ⟨es, t2⟩ := E
  dsimp only at hent hok2 hxl hgood hwid
  have hxn : es.length ≤ n := by omega
  subst hxl
  have hg2 : ∀ e ∈ es.map (absE false), rowOK e.row = true ∧ -3 ≤ e.count ∧ e.count ≤ 3 := fun e he => by
    obtain ⟨x, hx, rfl⟩ := List.mem_map.1 he
    obtain ⟨g1, g2⟩ := hgood x hx
    unfold absE
    split
    · exact ⟨g1, by simp only; omega⟩
    · exact ⟨g1, g2⟩
  have hsm := norm_small hg2 (by simp; omega)
  have hall : (es.map (absE false)).all entryIn = true := List.all_eq_true.2 fun e he => by
    obtain ⟨h1, h2, h3⟩ := hg2 e he
    simp only [entryIn, countOK, Bool.and_eq_true, decide_eq_true_eq]
    exact ⟨h1, by omega, by omega⟩
  have htn : Tiny (3 * n) w (normE (es.map (absE false))).1 := by
    rw [(norm_good hsm.1).1]
    refine (tiny_of (fun e he => (hg2 e he).1) (fun e he => ?_) (Nat.le_trans (absS_le (n := 3) fun e he => ?_) ?_) (by omega)).1
    · obtain ⟨x, hx, rfl⟩ := List.mem_map.1 he
      have := hwid x hx
      unfold absE
      split <;> exact this
    · have := (hg2 e he).2
      omega
    · rw [List.length_map]
      omega
  have hpos : ∀ e ∈ (normE (es.map (absE false))).1, 0 < e.count := by
    obtain ⟨q1, q2, _, q4⟩ := norm_good hsm.1
    rw [q1]
    intro e he
    have h1 := q4 e.row
    rw [sumK_mem (apart_of_sorted q2.up) he (rowCmp_ok.refl _)] at h1
    have h2 := sumK_ge (r := e.row) (l := es.map (absE false)) fun x hx => by
      obtain ⟨y, _, rfl⟩ := List.mem_map.1 hx
      unfold absE
      split
      · dsimp only; omega
      · rename_i hq
        have : ¬ y.count < 0 := fun h => hq ⟨rfl, h⟩
        omega
    have h3 := q2.nz e he
    omega
  have hL : (es.map (absE false)).length ≤ 1000000 := by simp; omega
  have hnil : nilE (es.map (absE false)) = true → (normE (es.map (absE false))).1 = [] := fun h => by
    rw [(norm_good hsm.1).1, nilE_sort h]
  have hN := fun h => normN_h (es.map (absE false)) h hall
  have hA := fun h => normA_h (es.map (absE false)) h hsm.1 hL
  generalize (normE (es.map (absE false))).1 = rb at htn hpos hnil hA
  refine ⟨rb, t2, hok2, htn, hpos, ?_⟩
  clear hsm hall htn hpos hg2 hL hwid
  have f9 : List.take es.length ((es.map (absE false)).map Entry.d) = (es.map (absE false)).map Entry.d := take_ge (by simp)
  cases hq : nilE (es.map (absE false))
  · have hA := hA hq
    refine .inr ?_
    clear hN hnil hq
    refine hcallN hT Tryz.func11 Tryz.ntmps11 [.tmp 8] fun B => ?_
    repeat' (first | refine ks ?_ | refine ko ?_ | refine s_callH [0] (hent) ?_ | refine kg ?_ ?_ | exact k0 | refine memIn_same ?_ | refine m1 ?_ ?_)
    refine s_lp (X := Nat) [10, 17, 18, 19, 20, 21, 22, 23, 24, 25, 26, 27, 28, 29, 30, 31, 32, 33, 34, 35, 36, 37, 38, 39, 40, 41, 42] (fun x => x ≤ es.length) (fun x lz => (10, (.c (.d (.lit (.int .i64 x))))) :: lz) (fun x => [(.box 0 [.d (numD (t2).l), .d (.lit (.int .i64 (t2).at_))]), .arr 1 56 2 ((es.take x).map (fun e => (absE false e).d) ++ (es.drop x).map Entry.d)]) (fun x => es.length - x) (0) ?_ ?_ ?_ ?_
    repeat' (first | exact slots_nil | refine kw ?_ | exact memIn_nil | refine kv ?_ ?_ | omega)
    rintro i c hi
    by_cases hlt : i < es.length
    · have hv : es[i]? = some es[i] := List.getElem?_eq_getElem hlt
      have hgc := (hgood _ (List.getElem_mem hlt)).2
      generalize es[i] = e at hv hgc
      have hv1 := map_at (f := fun e => (absE false e).d) (g := Entry.d) hv
      have hst := map_set (f := fun e => (absE false e).d) (g := Entry.d) hv
      generalize hA2 : (es.take i).map (fun e => (absE false e).d) ++ (es.drop i).map Entry.d = A at hv1 hst
      by_cases hc : e.count < 0
      · have he : absE false e = ⟨e.row, -e.count⟩ := if_pos ⟨rfl, hc⟩
        simp only [he] at hst
        have hal : A.length = es.length := by rw [← hA2]; simp; omega
        repeat' (first | refine ks ?_ | refine ko ?_ | refine s_loadA1 ?_ (he' := (by first | exact hv1 | exact rfl)) | refine s_storeA ?_ (hj := (by first | exact hv1 | exact rfl)) | refine kg ?_ ?_ | exact k0 | refine memIn_same ?_ | refine m1 ?_ ?_)
        (apply s_round (i + 1); all_goals (try dsimp only); all_goals (try (repeat' (first | exact slots_nil | refine kw ?_ | exact memIn_nil | refine kv ?_ ?_ | omega))))
        exact hst
      · have he : absE false e = e := if_neg fun q => hc q.2
        simp only [he] at hst
        rw [set_same hv1] at hst
        have hal : A.length = es.length := by rw [← hA2]; simp; omega
        repeat' (first | refine ks ?_ | refine ko ?_ | refine s_loadA1 ?_ (he' := (by first | exact hv1 | exact rfl)) | refine s_storeA ?_ (hj := (by first | exact hv1 | exact rfl)) | refine kg ?_ ?_ | exact k0 | refine memIn_same ?_ | refine m1 ?_ ?_)
        (apply s_round (i + 1); all_goals (try dsimp only); all_goals (try (repeat' (first | exact slots_nil | refine kw ?_ | exact memIn_nil | refine kv ?_ ?_ | omega))))
    · rw [take_ge (show es.length ≤ i by omega), List.drop_eq_nil_of_le (by omega), List.map_nil, List.append_nil, show (es.map fun e => (absE false e).d) = (es.map (absE false)).map Entry.d by rw [List.map_map]; rfl]
      have hl1 : (es.map (absE false)).length = es.length := by simp
      have hl2 : ((es.map (absE false)).map Entry.d).length = es.length := by simp
      repeat' (first | refine s_freeze 9 ?_ (hes := f9) | refine ks ?_ | refine ko ?_ | refine s_callH [] (hA) ?_ | refine fh_ret1 def_nil ?_ ?_ | exact memIn_nil | refine memIn_same ?_ | refine m1 ?_ ?_ | exact am_same)
  · have hN := hN hq
    refine .inl ⟨hnil hq, ?_⟩
    clear hA hnil hq
    refine hcallN hT Tryz.func11 Tryz.ntmps11 [.tmp 8] fun B => ?_
    repeat' (first | refine ks ?_ | refine ko ?_ | refine s_callH [0] (hent) ?_ | refine kg ?_ ?_ | exact k0 | refine memIn_same ?_ | refine m1 ?_ ?_)
    refine s_lp (X := Nat) [10, 17, 18, 19, 20, 21, 22, 23, 24, 25, 26, 27, 28, 29, 30, 31, 32, 33, 34, 35, 36, 37, 38, 39, 40, 41, 42] (fun x => x ≤ es.length) (fun x lz => (10, (.c (.d (.lit (.int .i64 x))))) :: lz) (fun x => [(.box 0 [.d (numD (t2).l), .d (.lit (.int .i64 (t2).at_))]), .arr 1 56 2 ((es.take x).map (fun e => (absE false e).d) ++ (es.drop x).map Entry.d)]) (fun x => es.length - x) (0) ?_ ?_ ?_ ?_
    repeat' (first | exact slots_nil | refine kw ?_ | exact memIn_nil | refine kv ?_ ?_ | omega)
    rintro i c hi
    by_cases hlt : i < es.length
    · have hv : es[i]? = some es[i] := List.getElem?_eq_getElem hlt
      have hgc := (hgood _ (List.getElem_mem hlt)).2
      generalize es[i] = e at hv hgc
      have hv1 := map_at (f := fun e => (absE false e).d) (g := Entry.d) hv
      have hst := map_set (f := fun e => (absE false e).d) (g := Entry.d) hv
      generalize hA2 : (es.take i).map (fun e => (absE false e).d) ++ (es.drop i).map Entry.d = A at hv1 hst
      by_cases hc : e.count < 0
      · have he : absE false e = ⟨e.row, -e.count⟩ := if_pos ⟨rfl, hc⟩
        simp only [he] at hst
        have hal : A.length = es.length := by rw [← hA2]; simp; omega
        repeat' (first | refine ks ?_ | refine ko ?_ | refine s_loadA1 ?_ (he' := (by first | exact hv1 | exact rfl)) | refine s_storeA ?_ (hj := (by first | exact hv1 | exact rfl)) | refine kg ?_ ?_ | exact k0 | refine memIn_same ?_ | refine m1 ?_ ?_)
        (apply s_round (i + 1); all_goals (try dsimp only); all_goals (try (repeat' (first | exact slots_nil | refine kw ?_ | exact memIn_nil | refine kv ?_ ?_ | omega))))
        exact hst
      · have he : absE false e = e := if_neg fun q => hc q.2
        simp only [he] at hst
        rw [set_same hv1] at hst
        have hal : A.length = es.length := by rw [← hA2]; simp; omega
        repeat' (first | refine ks ?_ | refine ko ?_ | refine s_loadA1 ?_ (he' := (by first | exact hv1 | exact rfl)) | refine s_storeA ?_ (hj := (by first | exact hv1 | exact rfl)) | refine kg ?_ ?_ | exact k0 | refine memIn_same ?_ | refine m1 ?_ ?_)
        (apply s_round (i + 1); all_goals (try dsimp only); all_goals (try (repeat' (first | exact slots_nil | refine kw ?_ | exact memIn_nil | refine kv ?_ ?_ | omega))))
    · rw [take_ge (show es.length ≤ i by omega), List.drop_eq_nil_of_le (by omega), List.map_nil, List.append_nil, show (es.map fun e => (absE false e).d) = (es.map (absE false)).map Entry.d by rw [List.map_map]; rfl]
      have hl1 : (es.map (absE false)).length = es.length := by simp
      have hl2 : ((es.map (absE false)).map Entry.d).length = es.length := by simp
      repeat' (first | refine s_freeze 9 ?_ (hes := f9) | refine ks ?_ | refine ko ?_ | refine s_callH [] (hN) ?_ | refine fh_ret1 def_nil ?_ ?_ | exact memIn_nil | refine memIn_same ?_ | refine m1 ?_ ?_ | exact am_same)
theorem fits_list {b l0 : List Entry} {A w : Nat} (hb : Tiny A w b) (pb : ∀ e ∈ b, 0 < e.count) (hA : A ≤ 1000000) (t0 : Tape) (ok0 : t0.ok) : ∀ k : Nat, k ≤ b.length → ∃ (f : Nat → List Entry) (ts : Nat → Tape), f 0 = l0 ∧ ts 0 = t0 ∧ (ts k).ok ∧
    (∀ i e, i < k → b[i]? = some e → ∃ (z : Nat) (t2 : Tape), z < 3 ∧ HCall Tryz.prog 30 [.c (.bp 0 0 0), .c (.d (.lit (.int .i64 3)))] [(.box 0 [.d (numD ((ts i)).l), .d (.lit (.int .i64 ((ts i)).at_))])] (.c (.d (.lit (.int .i64 z)))) [(.box 0 [.d (numD (t2).l), .d (.lit (.int .i64 (t2).at_))])] ∧
      ((z ≠ 0 ∧ f (i + 1) = f i ∧ ts (i + 1) = t2) ∨ (z = 0 ∧ ∃ q : Nat, (q : Int) < e.count ∧ f (i + 1) = f i ++ [⟨e.row, -(1 + (q : Int))⟩] ∧ HCall Tryz.prog 30 [.c (.bp 0 0 0), .c (.d (.lit (.int .i64 e.count)))] [(.box 0 [.d (numD (t2).l), .d (.lit (.int .i64 (t2).at_))])] (.c (.d (.lit (.int .i64 q)))) [(.box 0 [.d (numD ((ts (i + 1))).l), .d (.lit (.int .i64 ((ts (i + 1))).at_))])]))) ∧
    (∀ i, i ≤ k → (f i).length ≤ l0.length + i ∧ (∀ e ∈ f i, e ∈ l0 ∨ (rowOK e.row = true ∧ e.row.length = w ∧ -1000000 ≤ e.count ∧ e.count ≤ 0)) ∧ absS (f i) ≤ absS l0 + absS (b.take i) ∧ ∀ g : List Val → Int, (∀ r, 0 ≤ g r) → wS g l0 ≤ wS g (b.take i) + wS g (f i)) := by
  intro k
  induction k with
  | zero =>
    intro _
    refine ⟨fun _ => l0, fun _ => t0, rfl, rfl, ok0, fun i _ hi => by omega, fun i hi => ?_⟩
    obtain rfl : i = 0 := by omega
    exact ⟨by simp, fun e he => .inl he, by simp [absS], fun g _ => by simp [wS]⟩
  | succ k ih =>
    intro hk
    obtain ⟨f, ts, e0, e1, okk, hf, hp⟩ := ih (by omega)
    obtain ⟨z, t2, ok2, hz, n2⟩ := nextE_h (ts k) 3 okk (by omega) (by omega)
    have hv : b[k]? = some b[k] := List.getElem?_eq_getElem (by omega)
    have hme : b[k] ∈ b := List.getElem_mem (by omega)
    have hpe := pb _ hme
    have hae := absS_mem hme
    have hs := hb.s
    have hro := ((valid_mem hb.v).2 _ hme).1
    have hwi := hb.w _ hme
    have htk : b.take (k + 1) = b.take k ++ [b[k]] := by rw [List.take_add_one, hv]; rfl
    generalize b[k] = e at hv hme hpe hae hro hwi htk
    obtain ⟨q1, q2, q3, q4⟩ := hp k (Nat.le_refl _)
    obtain ⟨c, hc⟩ := Int.eq_ofNat_of_zero_le (show 0 ≤ e.count by omega)
    by_cases hz0 : z = 0
    · obtain ⟨q, t3, ok3, hq, n3⟩ := nextE_h t2 c ok2 (by omega) (by omega)
      rw [← hc] at n3
      refine ⟨fun i => if i = k + 1 then f k ++ [⟨e.row, -(1 + (q : Int))⟩] else f i, fun i => if i = k + 1 then t3 else ts i, by simp [e0], by simp [e1], by simp [ok3], fun i x hi hx => ?_, fun i hi => ?_⟩
      · by_cases him : i = k
        · subst him
          rw [hv] at hx
          cases hx
          refine ⟨z, t2, hz, ?_, .inr ⟨hz0, q, by omega, ?_, ?_⟩⟩
          · simp only [show ¬ i = i + 1 by omega, if_false]; exact n2
          · simp only [show ¬ i = i + 1 by omega, if_false, if_true]
          · simp only [if_true]; exact n3
        · have := hf i x (by omega) hx
          simp only [show ¬ i = k + 1 by omega, show ¬ i + 1 = k + 1 by omega, if_false]
          exact this
      · by_cases him : i = k + 1
        · subst him
          simp only [if_true]
          refine ⟨by simp; omega, fun x hx => ?_, ?_, fun g hg => ?_⟩
          · rcases List.mem_append.1 hx with hx | hx
            · exact q2 x hx
            · obtain rfl := List.mem_singleton.1 hx
              exact .inr ⟨hro, hwi, by show (-1000000 : Int) ≤ -(1 + (q : Int)); omega, by show -(1 + (q : Int)) ≤ 0; omega⟩
          · rw [htk, absS_append, absS_append]
            have : (-(1 + (q : Int))).natAbs ≤ e.count.natAbs := by omega
            simp only [absS]; omega
          · have h1 := q4 g hg
            have h2 := Int.mul_nonneg (show (0 : Int) ≤ e.count + -(1 + (q : Int)) by omega) (hg e.row)
            rw [htk, wS_append, wS_append]
            simp only [wS]
            rw [Int.add_mul] at h2
            omega
        · simp only [him, if_false]
          exact hp i (by omega)
    · refine ⟨fun i => if i = k + 1 then f k else f i, fun i => if i = k + 1 then t2 else ts i, by simp [e0], by simp [e1], by simp [ok2], fun i x hi hx => ?_, fun i hi => ?_⟩
      · by_cases him : i = k
        · subst him
          refine ⟨z, t2, hz, ?_, .inl ⟨hz0, ?_, ?_⟩⟩
          · simp only [show ¬ i = i + 1 by omega, if_false]; exact n2
          · simp only [show ¬ i = i + 1 by omega, if_false, if_true]
          · simp only [if_true]
        · have := hf i x (by omega) hx
          simp only [show ¬ i = k + 1 by omega, show ¬ i + 1 = k + 1 by omega, if_false]
          exact this
      · by_cases him : i = k + 1
        · subst him
          simp only [if_true]
          refine ⟨by omega, q2, ?_, fun g hg => ?_⟩
          · rw [htk, absS_append]; omega
          · have h1 := q4 g hg
            have h2 := Int.mul_nonneg (show (0 : Int) ≤ e.count by omega) (hg e.row)
            rw [htk, wS_append]
            simp only [wS]
            omega
        · simp only [him, if_false]
          exact hp i (by omega)
theorem fitting_h (t : Tape) (b : List Entry) (A w : Nat) (ht : t.ok) (hb : Tiny A w b) (pb : ∀ e ∈ b, 0 < e.count) (hw : w ≤ 16) (hA : A ≤ 1000) : ∃ (d : List Entry) (t' : Tape), t'.ok ∧ Tiny (12 + A) w d ∧ (∀ g : List Val → Int, (∀ r, 0 ≤ g r) → 0 ≤ wS g b + wS g d) ∧ HCall Tryz.prog 16 [.c (.bp 0 0 0), .c (.d (bagD b)), (.c (.d (.lit (.int .i64 (w : Int)))))] [(.box 0 [.d (numD (t).l), .d (.lit (.int .i64 (t).at_))])] (.c (.d (bagD d))) [(.box 0 [.d (numD (t').l), .d (.lit (.int .i64 (t').at_))])] := by
  obtain ⟨l0, t1, ok1, T0, p0, hbag⟩ := bagA_h t w 4 ht hw (by omega)
  obtain ⟨f, ts, e0, e1, okn, hf, hp⟩ := fits_list (l0 := l0) hb pb (by omega) t1 ok1 b.length (Nat.le_refl _)
  have hlb := hb.len9
  have hl0 := T0.len9
  have hfl : ∀ i, i ≤ b.length → (f i).length ≤ 2000 := fun i hi => by have := (hp i hi).1; omega
  obtain ⟨q1, q2, q3, q4⟩ := hp b.length (Nat.le_refl _)
  rw [take_ge (Nat.le_refl _)] at q3 q4
  have hs0 := T0.s
  have hsb := hb.s
  have hrow : ∀ e ∈ f b.length, rowOK e.row = true ∧ e.row.length = w := fun e he => by
    rcases q2 e he with h | h
    · exact ⟨((valid_mem T0.v).2 e h).1, T0.w e h⟩
    · exact ⟨h.1, h.2.1⟩
  have hs : absS (f b.length) ≤ 12 + A := by omega
  obtain ⟨t1', t2'⟩ := tiny_of (fun e he => (hrow e he).1) (fun e he => (hrow e he).2) hs (by omega)
  have hlen := (valid_mem t1'.v).1
  have hN : normE (f b.length) = (sortE (f b.length), 0) := by
    have hall : (f b.length).all entryIn = true := List.all_eq_true.2 fun e he => by
      have h1 := absS_mem he
      simp only [entryIn, countOK, Bool.and_eq_true, decide_eq_true_eq]
      exact ⟨(hrow e he).1, by omega, by omega⟩
    rw [normE, if_pos hall, fitsE, if_neg (by omega), if_pos]
    refine List.all_eq_true.2 fun e he => ?_
    have h1 := t2' e he
    simp only [countOK, Bool.and_eq_true, decide_eq_true_eq]
    omega
  refine ⟨sortE (f b.length), ts b.length, okn, t1', fun g hg => ?_, ?_⟩
  · rw [wS_sortE _ _ fun e he => rowOK_clean (hrow e he).1]
    have h1 := q4 g hg
    have h2 := wS_nnF hg p0
    omega
  have hnc := normalize_c (f b.length) (by have := hfl b.length (Nat.le_refl _); omega)
  rw [hN] at hnc
  dsimp only at hnc
  generalize sortE (f b.length) = D at hnc
  have hcnt : ∀ e ∈ b, -1000000 ≤ e.count ∧ e.count ≤ 1000000 := fun e he => by have := absS_mem he; omega
  clear hp q1 q2 q3 q4 hs0 hsb hrow hs t1' t2' hlen hN hb T0 p0 hl0 okn
  have hbl : b.length ≤ 1000 := by omega
  subst e0
  rw [← e1] at hbag
  rcases hbag with ⟨hnil, cb⟩ | cb
  · have hl0 : (f 0).length = 0 := by rw [hnil]; rfl
    refine hcallN hT Tryz.func16 Tryz.ntmps16 [.tmp 6] fun B => ?_
    repeat' (first | refine ks ?_ | refine ko ?_ | refine s_indexD ?_ (hel := (by first | exact rfl)) | refine s_callH [0] (cb) ?_ | refine kg ?_ ?_ | exact k0 | refine memIn_same ?_ | refine m1 ?_ ?_)
    refine s_own 7 56 2 ?_
    refine s_lp (X := Nat × Nat × Tape) [7, 8, 14, 15, 16, 17, 18, 19, 20, 21, 22, 23, 24, 25, 26, 27, 28, 29, 30, 31, 32, 33, 34, 35, 36, 37, 38, 39, 40] (fun x => x.1 ≤ b.length ∧ x.2.2 = ts x.1) (fun x lz => (7, .c (.arr 2 x.2.1 (f x.1).length)) :: (8, (.c (.d (.lit (.int .i64 x.1))))) :: lz) (fun x => [(.box 0 [.d (numD (x.2.2).l), .d (.lit (.int .i64 (x.2.2).at_))]), .dead, .arr x.2.1 56 2 ((f x.1).map Entry.d)]) (fun x => b.length - x.1) ((0, 2, ts 0)) ?_ ?_ ?_ ?_
    repeat' (first | exact slots_nil | refine kw ?_ | refine kv ?_ ?_ | exact memIn_nil | omega)
    all_goals try (first | rfl | exact ⟨Nat.zero_le _, rfl⟩ | (dsimp only; rw [hnil]; rfl))
    rintro ⟨i, v, T'⟩ c ⟨hi, hT'⟩
    dsimp only at hi hT' ⊢
    by_cases hlt : i < b.length
    · have hv : b[i]? = some b[i] := List.getElem?_eq_getElem hlt
      have hce := hcnt _ (List.getElem_mem hlt)
      have hfi := hfl i hi
      generalize b[i] = e at hv hce
      obtain ⟨z, t2, hz, n2, hst⟩ := hf i e hlt hv
      rw [← hT'] at n2
      clear hf hfl hnc
      have hdl : ((f i).map Entry.d).length = (f i).length := List.length_map _
      rcases hst with ⟨hz0, hfs, hts⟩ | ⟨rfl, q, hq, hfs, n3⟩
      · repeat' (first | refine ks ?_ | refine ko ?_ | refine s_indexD ?_ (hel := (by first | exact rfl)) | refine s_callH [0] (n2) ?_ | refine kg ?_ ?_ | exact k0 | refine memIn_same ?_ | refine m1 ?_ ?_)
        (apply s_round ((i + 1, v, t2)); all_goals (try dsimp only); all_goals (try (repeat' (first | exact slots_nil | refine kw ?_ | refine kv ?_ ?_ | exact memIn_nil | omega))))
        all_goals first
          | exact ⟨by omega, hts.symm⟩
          | (rw [hfs]; done)
          | (rw [hfs])
          | skip
      · have hs : (f i).map Entry.d ++ [[rowD e.row, .lit (.int .i64 (-(1 + (q : Int))))]] = (f (i + 1)).map Entry.d := by rw [hfs]; simp [Entry.d]
        have hl2 : (f (i + 1)).length = (f i).length + 1 := by rw [hfs]; simp
        generalize hZ : (f (i + 1)).map Entry.d = Z at hs
        generalize hq2 : ts (i + 1) = T2 at n3
        generalize (f i).map Entry.d = A at hs hdl ⊢
        generalize (f i).length = m at hfi hdl hl2 ⊢
        refine k_ver 2 fun hr => ?_
        refine k_tick ?_
        repeat' (first | refine s_callL (dr := true) 0 n3 ?_ | (refine h_appA (dr := true) (ei := ti56) (k := v) (es := A) (ys := [[rowD e.row, .lit (.int .i64 (-(1 + (q : Int))))]]) (es' := Z) 2 (c + 1) (j := m) (m := m + 1) ?_ (by omega) (by omega) (by omega) rfl (by simp only [maxLen]; omega) (by simp only [ti56]; omega) (sized_cons rfl sized_nil) (by rw [take_ge (by omega)]; exact hs)) | refine ks ?_ | refine ko ?_ | refine s_indexD ?_ (hel := (by first | exact idx_map hv (by omega) | exact hv | exact rfl)) | refine s_callH [0] (n2) ?_ | refine fh_ret1 def_nil ?_ ?_ | exact memIn_nil | refine memIn_same ?_ | refine m1 ?_ ?_ | exact am_same)
        (apply s_round ((i + 1, c + 1, T2)); all_goals (try dsimp only); all_goals (try (repeat' (first | exact slots_nil | refine kw ?_ | refine kv ?_ ?_ | exact memIn_nil | omega))))
        all_goals first
          | exact ⟨by omega, hq2.symm⟩
          | exact hZ.symm
          | (rw [hl2])
          | skip
    · obtain rfl : i = b.length := by omega
      rw [hT']
      have hdl : ((f b.length).map Entry.d).length = (f b.length).length := List.length_map _
      clear hf hfl
      generalize f b.length = L at hnc hdl ⊢
      repeat' (first | refine s_freeze (r := 2) (m := L.length) (es1 := L.map Entry.d) 7 ?_ (hl := by omega) (hes := take_ge (by omega)) | refine ks ?_ | refine ko ?_ | refine s_indexD ?_ (hel := (by first | exact rfl)) | refine s_call (hnc) ?_ | refine fh_ret1 def_nil ?_ ?_ | exact memIn_nil | refine memIn_same ?_ | refine m1 ?_ ?_ | exact am_same)
      all_goals rfl
  · skip
    refine hcallN hT Tryz.func16 Tryz.ntmps16 [.tmp 6] fun B => ?_
    repeat' (first | refine ks ?_ | refine ko ?_ | refine s_indexD ?_ (hel := (by first | exact rfl)) | refine s_callH [0] (cb) ?_ | refine kg ?_ ?_ | exact k0 | refine memIn_same ?_ | refine m1 ?_ ?_)
    refine s_lp (X := Nat × Nat × Tape) [7, 8, 14, 15, 16, 17, 18, 19, 20, 21, 22, 23, 24, 25, 26, 27, 28, 29, 30, 31, 32, 33, 34, 35, 36, 37, 38, 39, 40] (fun x => x.1 ≤ b.length ∧ x.2.2 = ts x.1) (fun x lz => (7, .c (.arr 2 x.2.1 (f x.1).length)) :: (8, (.c (.d (.lit (.int .i64 x.1))))) :: lz) (fun x => [(.box 0 [.d (numD (x.2.2).l), .d (.lit (.int .i64 (x.2.2).at_))]), .dead, .arr x.2.1 56 2 ((f x.1).map Entry.d)]) (fun x => b.length - x.1) ((0, 1, ts 0)) ?_ ?_ ?_ ?_
    repeat' (first | exact slots_nil | refine kw ?_ | refine kv ?_ ?_ | exact memIn_nil | omega)
    all_goals try (first | rfl | exact ⟨Nat.zero_le _, rfl⟩ | (dsimp only; rw [hnil]; rfl))
    rintro ⟨i, v, T'⟩ c ⟨hi, hT'⟩
    dsimp only at hi hT' ⊢
    by_cases hlt : i < b.length
    · have hv : b[i]? = some b[i] := List.getElem?_eq_getElem hlt
      have hce := hcnt _ (List.getElem_mem hlt)
      have hfi := hfl i hi
      generalize b[i] = e at hv hce
      obtain ⟨z, t2, hz, n2, hst⟩ := hf i e hlt hv
      rw [← hT'] at n2
      clear hf hfl hnc
      have hdl : ((f i).map Entry.d).length = (f i).length := List.length_map _
      rcases hst with ⟨hz0, hfs, hts⟩ | ⟨rfl, q, hq, hfs, n3⟩
      · repeat' (first | refine ks ?_ | refine ko ?_ | refine s_indexD ?_ (hel := (by first | exact rfl)) | refine s_callH [0] (n2) ?_ | refine kg ?_ ?_ | exact k0 | refine memIn_same ?_ | refine m1 ?_ ?_)
        (apply s_round ((i + 1, v, t2)); all_goals (try dsimp only); all_goals (try (repeat' (first | exact slots_nil | refine kw ?_ | refine kv ?_ ?_ | exact memIn_nil | omega))))
        all_goals first
          | exact ⟨by omega, hts.symm⟩
          | (rw [hfs]; done)
          | (rw [hfs])
          | skip
      · have hs : (f i).map Entry.d ++ [[rowD e.row, .lit (.int .i64 (-(1 + (q : Int))))]] = (f (i + 1)).map Entry.d := by rw [hfs]; simp [Entry.d]
        have hl2 : (f (i + 1)).length = (f i).length + 1 := by rw [hfs]; simp
        generalize hZ : (f (i + 1)).map Entry.d = Z at hs
        generalize hq2 : ts (i + 1) = T2 at n3
        generalize (f i).map Entry.d = A at hs hdl ⊢
        generalize (f i).length = m at hfi hdl hl2 ⊢
        refine k_ver 2 fun hr => ?_
        refine k_tick ?_
        repeat' (first | refine s_callL (dr := true) 0 n3 ?_ | (refine h_appA (dr := true) (ei := ti56) (k := v) (es := A) (ys := [[rowD e.row, .lit (.int .i64 (-(1 + (q : Int))))]]) (es' := Z) 2 (c + 1) (j := m) (m := m + 1) ?_ (by omega) (by omega) (by omega) rfl (by simp only [maxLen]; omega) (by simp only [ti56]; omega) (sized_cons rfl sized_nil) (by rw [take_ge (by omega)]; exact hs)) | refine ks ?_ | refine ko ?_ | refine s_indexD ?_ (hel := (by first | exact idx_map hv (by omega) | exact hv | exact rfl)) | refine s_callH [0] (n2) ?_ | refine fh_ret1 def_nil ?_ ?_ | exact memIn_nil | refine memIn_same ?_ | refine m1 ?_ ?_ | exact am_same)
        (apply s_round ((i + 1, c + 1, T2)); all_goals (try dsimp only); all_goals (try (repeat' (first | exact slots_nil | refine kw ?_ | refine kv ?_ ?_ | exact memIn_nil | omega))))
        all_goals first
          | exact ⟨by omega, hq2.symm⟩
          | exact hZ.symm
          | (rw [hl2])
          | skip
    · obtain rfl : i = b.length := by omega
      rw [hT']
      have hdl : ((f b.length).map Entry.d).length = (f b.length).length := List.length_map _
      clear hf hfl
      generalize f b.length = L at hnc hdl ⊢
      repeat' (first | refine s_freeze (r := 2) (m := L.length) (es1 := L.map Entry.d) 7 ?_ (hl := by omega) (hes := take_ge (by omega)) | refine ks ?_ | refine ko ?_ | refine s_indexD ?_ (hel := (by first | exact rfl)) | refine s_call (hnc) ?_ | refine fh_ret1 def_nil ?_ ?_ | exact memIn_nil | refine memIn_same ?_ | refine m1 ?_ ?_ | exact am_same)
      all_goals rfl
end Go.Proofs.YtmpgmjlanngkfaaGreat
end
