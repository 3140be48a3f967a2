/-
  The tape's bag of rows with positive multiplicities.
-/
import Derived.Test.YtojfhaoleedmkaaGreatTab
namespace Go.Proofs.YtojfhaoleedmkaaGreat
open Go.Abs Go.RowKit
attribute [local irreducible] ARun kont MCall PCall HCall resVal SF CF CFs defersOk slotsIn memIn fin finM VLe
set_option linter.unusedSimpArgs false
set_option maxRecDepth 100000
set_option maxHeartbeats 4000000
theorem sumK_ge {r : List Val} : ∀ {l : List Entry}, (∀ e ∈ l, 0 ≤ e.count) → 0 ≤ sumK l r
  | [], _ => Int.le_refl _
  | e :: l, h => by
    have h1 := sumK_ge (r := r) (l := l) fun x hx => h x (by simp [hx])
    have h2 := h e (by simp)
    rw [sumK]; split <;> omega
theorem bagP_h (t : Tape) (w n : Nat) (ht : t.ok) (hw : w ≤ 16) (hn : n ≤ 999) : ∃ (b : List Entry) (t' : Tape), t'.ok ∧ bagValid b = true ∧ within 3000 b ∧ b.length ≤ n ∧ Tiny (3 * n) w b ∧ (∀ e ∈ b, 0 < e.count) ∧ HCall Tryz.prog 12 [.c (.bp 0 0 0), (.c (.d (.lit (.int .i64 (w : Int))))), (.c (.d (.lit (.int .i64 (n : Int))))), .c (.d (.lit (.bool false)))] [(.box 0 [.d (numD (t).l), .d (.lit (.int .i64 (t).at_))])] (.c (.d (bagD b))) [(.box 0 [.d (numD (t').l), .d (.lit (.int .i64 (t').at_))])] := by
  have hent := entries_h t w n ht (by omega) (by omega)
  obtain ⟨b1, b2⟩ := t.nx_bd ((n : Int) + 1)
  have hok1 := ht.go ((n : Int) + 1)
  obtain ⟨i0, hi0⟩ := Int.eq_ofNat_of_zero_le b1
  rw [hi0, Int.toNat_natCast] at hent
  rw [hi0] at b1 b2
  have hxo := entS_ok hok1 w i0
  have hgood := entS_good (t.go ((n : Int) + 1)) w hw i0
  have hwid := entS_wid (t.go ((n : Int) + 1)) w i0
  generalize t.go ((n : Int) + 1) = t1 at hent hok1 hxo hgood hwid
  obtain ⟨hok2, hxl⟩ := hxo
  generalize entS t1 w i0 = E at hent hok2 hxl hgood hwid
  obtain ⟨es, t2⟩ := E
  dsimp only at hent hok2 hxl hgood hwid
  have hxn : es.length ≤ n := by omega
  subst hxl
  have hg2 : ∀ e ∈ es.map (absE false), rowOK e.row = true ∧ -3 ≤ e.count ∧ e.count ≤ 3 := fun e he => by
    obtain ⟨x, hx, rfl⟩ := List.mem_map.1 he
    obtain ⟨g1, g2⟩ := hgood x hx
    unfold absE
    split
    · exact ⟨g1, by simp only; omega⟩
    · exact ⟨g1, g2⟩
  have hsm := norm_small hg2 (by simp; omega)
  have htn : Tiny (3 * n) w (normE (es.map (absE false))).1 := by
    rw [(norm_good hsm.1).1]
    refine (tiny_of (fun e he => (hg2 e he).1) (fun e he => ?_) (Nat.le_trans (absS_le (n := 3) fun e he => ?_) ?_) (by omega)).1
    · obtain ⟨x, hx, rfl⟩ := List.mem_map.1 he
      have := hwid x hx
      unfold absE
      split <;> exact this
    · have := (hg2 e he).2
      omega
    · rw [List.length_map]
      omega
  have hpos : ∀ e ∈ (normE (es.map (absE false))).1, 0 < e.count := by
    obtain ⟨q1, q2, _, q4⟩ := norm_good hsm.1
    rw [q1]
    intro e he
    have h1 := q4 e.row
    rw [sumK_mem (apart_of_sorted q2.up) he (rowCmp_ok.refl _)] at h1
    have h2 := sumK_ge (r := e.row) (l := es.map (absE false)) fun x hx => by
      obtain ⟨y, _, rfl⟩ := List.mem_map.1 hx
      unfold absE
      split
      · dsimp only; omega
      · rename_i hq
        have : ¬ y.count < 0 := fun h => hq ⟨rfl, h⟩
        omega
    have h3 := q2.nz e he
    omega
  rw [List.length_map] at hsm
  have hnc := normalize_c (es.map (absE false)) (by simp; omega)
  generalize normE (es.map (absE false)) = R at hsm hnc htn hpos
  obtain ⟨rb, re⟩ := R
  dsimp only at hsm hnc htn hpos
  refine ⟨rb, t2, hok2, hsm.2.1, hsm.2.2.1, by omega, htn, hpos, ?_⟩
  have f9 : List.take es.length ((es.map (absE false)).map Entry.d) = (es.map (absE false)).map Entry.d := take_ge (by simp)
  refine hcallN hT Tryz.func12 Tryz.ntmps12 [.tmp 8] fun B => ?_
  repeat' (first | refine ks ?_ | refine ko ?_ | refine s_callH [0] (hent) ?_ | refine fh_ret1 def_nil ?_ ?_ | exact memIn_nil | refine memIn_same ?_ | refine m1 ?_ ?_ | exact am_same)
  refine s_lp (X := Nat) [10, 17, 18, 19, 20, 21, 22, 23, 24, 25, 26, 27, 28, 29, 30, 31, 32, 33, 34, 35, 36, 37, 38, 39, 40, 41, 42] (fun x => x ≤ es.length) (fun x lz => (10, (.c (.d (.lit (.int .i64 x))))) :: lz) (fun x => [(.box 0 [.d (numD (t2).l), .d (.lit (.int .i64 (t2).at_))]), .arr 1 49 2 ((es.take x).map (fun e => (absE false e).d) ++ (es.drop x).map Entry.d)]) (fun x => es.length - x) (0) ?_ ?_ ?_ ?_
  repeat' (first | exact slots_nil | refine kw ?_ | exact memIn_nil | refine kv ?_ ?_ | omega)
  rintro i c hi
  by_cases hlt : i < es.length
  · have hv : es[i]? = some es[i] := List.getElem?_eq_getElem hlt
    have hgc := (hgood _ (List.getElem_mem hlt)).2
    generalize es[i] = e at hv hgc
    have hv1 := map_at (f := fun e => (absE false e).d) (g := Entry.d) hv
    have hst := map_set (f := fun e => (absE false e).d) (g := Entry.d) hv
    generalize hA : (es.take i).map (fun e => (absE false e).d) ++ (es.drop i).map Entry.d = A at hv1 hst
    by_cases hc : e.count < 0
    · have he : absE false e = ⟨e.row, -e.count⟩ := if_pos ⟨rfl, hc⟩
      simp only [he] at hst
      have hal : A.length = es.length := by rw [← hA]; simp; omega
      repeat' (first | refine ks ?_ | refine ko ?_ | refine s_loadA1 ?_ (he' := (by first | exact hv1 | exact rfl)) | refine s_storeA ?_ (hj := (by first | exact hv1 | exact rfl)) | refine fh_ret1 def_nil ?_ ?_ | exact memIn_nil | refine memIn_same ?_ | refine m1 ?_ ?_ | exact am_same)
      (apply s_round (i + 1); all_goals (try dsimp only); all_goals (try (repeat' (first | exact slots_nil | refine kw ?_ | exact memIn_nil | refine kv ?_ ?_ | omega))))
      exact hst
    · have he : absE false e = e := if_neg fun q => hc q.2
      simp only [he] at hst
      rw [set_same hv1] at hst
      have hal : A.length = es.length := by rw [← hA]; simp; omega
      repeat' (first | refine ks ?_ | refine ko ?_ | refine s_loadA1 ?_ (he' := (by first | exact hv1 | exact rfl)) | refine s_storeA ?_ (hj := (by first | exact hv1 | exact rfl)) | refine fh_ret1 def_nil ?_ ?_ | exact memIn_nil | refine memIn_same ?_ | refine m1 ?_ ?_ | exact am_same)
      (apply s_round (i + 1); all_goals (try dsimp only); all_goals (try (repeat' (first | exact slots_nil | refine kw ?_ | exact memIn_nil | refine kv ?_ ?_ | omega))))
  · rw [take_ge (show es.length ≤ i by omega), List.drop_eq_nil_of_le (by omega), List.map_nil, List.append_nil, show (es.map fun e => (absE false e).d) = (es.map (absE false)).map Entry.d by rw [List.map_map]; rfl]
    have hl1 : (es.map (absE false)).length = es.length := by simp
    have hl2 : ((es.map (absE false)).map Entry.d).length = es.length := by simp
    repeat' (first | refine s_freeze 9 ?_ (hes := f9) | refine ks ?_ | refine ko ?_ | refine s_call (hnc) ?_ | refine fh_ret1 def_nil ?_ ?_ | exact memIn_nil | refine memIn_same ?_ | refine m1 ?_ ?_ | exact am_same)
end Go.Proofs.YtojfhaoleedmkaaGreat
