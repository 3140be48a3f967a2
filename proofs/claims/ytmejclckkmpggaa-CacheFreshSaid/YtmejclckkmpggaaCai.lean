/-
  The cache: slices.Insert and slices.Delete on the cache's own list.
-/
import Derived.Test.YtmejclckkmpggaaCae
import Derived.Test.YtmejclckkmpggaaArc
namespace Go.Proofs.Ytmejclckkmpggaa
open Go.Abs Go.RowKit
attribute [local irreducible] ARun kont MCall PCall HCall resVal SF CF CFs defersOk slotsIn memIn fin finM VLe
set_option linter.unusedSimpArgs false
set_option maxRecDepth 100000
set_option maxHeartbeats 4000000

theorem is_retC {P : Program} {B : Base} {σ : St} {Q : Ex → St → Prop} (h : ARun P B .ret σ Q) : ARun P B .ret σ Q := h
theorem off_zero (c s : Nat) : 0 = if c = Int.toNat 0 then 0 else 0 + Int.toNat 0 * s := by simp

theorem del_h (l : List Cach) (i : Nat) (hi : i < l.length) (hl : l.length ≤ 1000) : HCall Try.prog 51 [.c (.arr 0 0 l.length), (.c (.d (.lit (.int .i64 i)))), .c (.d (.lit (.int .i64 ((i : Int) + 1))))] [.arr 0 46 5 (l.map Cach.d)] (.c (.arr 0 1 (l.length - 1))) [.arr 1 46 5 ((l.take i ++ l.drop (i + 1)).map Cach.d)] := by
  have hlen : (l.map Cach.d).length = l.length := by simp
  have hK : ((l.map Cach.d).take i ++ ((l.map Cach.d).drop (i + 1)).take (l.length - (i + 1)) ++ (l.map Cach.d).drop (i + (l.length - (i + 1)))).take (l.length - 1) = (l.take i ++ l.drop (i + 1)).map Cach.d := by
    rw [List.take_left' (by simp; omega), take_ge (show ((l.map Cach.d).drop (i + 1)).length ≤ l.length - (i + 1) by simp)]; simp
  have hKl : l.length - 1 ≤ ((l.map Cach.d).take i ++ ((l.map Cach.d).drop (i + 1)).take (l.length - (i + 1)) ++ (l.map Cach.d).drop (i + (l.length - (i + 1)))).length := by simp; omega
  refine hcallN hT Try.func51 Try.ntmps51 [.tmp 6] fun B => ?_
  refine s_pin 0 rfl rfl (fun h _ => absurd (congrArg List.length h) (by simp; omega)) ?_
  intro b c' hc hlc hcm
  rw [hlen] at hlc
  simp only [List.set_cons_zero]
  repeat' (first | (refine s_mv 0 0 ?_ (by exact rfl) hc; refine s_unpin 6 (r := 0) ?_ (by exact rfl) hc) | (with_reducible (first | refine k_seq ?_ | refine k_skip ?_ | refine k_ret ?_ | refine n_seq ?_)) | refine s_reg ?_ | refine s_ifF ?_ | refine r_end ?_ | refine s_endD ?_ | refine s_move ?_ | refine s_assign ?_ | refine s_int ?_ | refine s_lenL ?_ | refine s_sliceM ?_ ?_ ?_ ?_ ?_ rfl rfl rfl | refine s_sliceL (a := 0) (b := (i : Int)) (c := c') (off' := 0) (m' := i) (c' := c') ?_ (by omega) (by omega) (by omega) (off_zero _ _) (by omega) (by omega) | refine s_sliceL (a := (i : Int) + 1) (b := (l.length : Int)) (c := c') (m' := l.length - (i + 1)) (c' := c' - (i + 1)) ?_ (by omega) (by omega) (by omega) rfl (by omega) (by omega) | refine s_sliceL (a := ((l.length - 1 : Nat) : Int)) (b := (l.length : Int)) (c := c') (m' := 1) (c' := c' - (l.length - 1)) ?_ (by omega) (by omega) (by omega) rfl (by omega) (by omega) | (refine s_appIn (ei := ti46) (r := 0) (r2 := 0) (c := c') (o := i) (o2 := i + 1) (m := l.length - (i + 1)) (q := l.length - 1) ?_ (by exact rfl) (by exact rfl) (by rw [hlen]; omega) (by omega) hc hc (by rw [hlen]; omega) ?_ (by exact rfl) (by omega)) | refine s_clearL (ei := ti46) (r := 0) (c := c') (o := l.length - 1) (m := 1) ?_ (by exact rfl) hc (by exact hKl) (by omega) ?_ (by exact hK) | refine fh_ret1 def_nil ?_ ?_ | exact memIn_nil | refine memIn_same ?_ | exact am_same)
  all_goals first
    | omega
    | (refine .inr ?_; rw [if_neg (by omega)]; simp; done)
    | (by_cases hz : l.length - (i + 1) = 0
       · exact .inl hz
       · refine .inr ?_; rw [if_neg (by omega)]; simp)

theorem zeroC : ∃ zd, dats (ti46.zero.map valCell) = some zd := ⟨_, rfl⟩
theorem off_ne {c s : Nat} {a : Int} {i : Nat} (ha : a = i) (h : i < c) : i * s = if c = a.toNat then 0 else 0 + a.toNat * s := by
  subst ha; rw [if_neg (by omega)]; simp

theorem ins_h (l : List Cach) (i : Nat) (hi : i ≤ l.length) (hl : l.length ≤ 1000) (x : Cach) : HCall Try.prog 53 [.c (.arr 0 0 l.length), (.c (.d (.lit (.int .i64 i)))), .c (.d (.sl [x.d]))] [.arr 0 46 5 (l.map Cach.d)] (.c (.arr 0 1 (l.length + 1))) [.arr 1 46 5 ((l.take i ++ x :: l.drop i).map Cach.d)] := by
  by_cases hne : l = []
  · subst hne
    obtain rfl : i = 0 := by simpa using hi
    exact ins0_h x
  have hpos : 0 < l.length := List.length_pos_iff.2 hne
  have hlen : (l.map Cach.d).length = l.length := by simp
  obtain ⟨zd, hzd⟩ := zeroC
  have hx1 : ([x.d] : List (List Dat)).length = 1 := rfl
  have hxs : ∀ z ∈ [x.d], z.length = ti46.size := fun z hz => by rw [List.mem_singleton.1 hz]; rfl
  have hby : (l.length + 1) * ti46.bytes ≤ 140737488355328 := by simp only [ti46]; omega
  refine hcallN hT Try.func53 Try.ntmps53 [.tmp 6] fun B => ?_
  refine s_pin 0 rfl rfl (fun h _ => absurd (congrArg List.length h) (by simp; omega)) ?_
  intro b c' hc hlc hcm
  rw [hlen] at hlc
  simp only [List.set_cons_zero]
  by_cases hil : i = l.length
  · subst hil
    have hK : (l.map Cach.d).take l.length ++ [x.d] = (l.take l.length ++ x :: l.drop l.length).map Cach.d := by
      rw [List.take_of_length_le (by simp), List.take_of_length_le (Nat.le_refl _), List.drop_of_length_le (Nat.le_refl _)]; simp
    repeat' (first | refine s_unpin 6 (r := 0) ?_ (by exact rfl) (by assumption) | refine s_eqIs ?_ | (with_reducible (first | refine k_seq ?_ | refine k_skip ?_ | refine k_ret ?_ | refine n_seq ?_ | refine r_seq ?_)) | refine s_reg ?_ | refine s_ifT ?_ | refine s_ifF ?_ | refine r_end ?_ | refine s_endD ?_ | refine s_move ?_ | refine s_assign ?_ | refine s_int ?_ | refine s_lenD ?_ | refine s_not ?_ | refine s_lenL ?_ | refine s_sliceL (a := (l.length : Int)) (b := (l.length : Int)) (c := c') (m' := 0) (c' := c' - l.length) ?_ (by omega) (by omega) (by omega) rfl (by omega) (by omega) | refine s_appL (r := 0) (j := l.length) (m := l.length + 1) (esz := ti46.size) (bts := ti46.bytes) (ys := [x.d]) (fun b2 c2 hc2 hlc2 hcm2 => ?_) (by exact rfl) hc (by omega) (by omega) rfl (by omega) hby hxs (by exact hK) | refine fh_ret1 def_nil ?_ ?_ | exact memIn_nil | refine memIn_same ?_ | exact am_same)
  · have hin : i < l.length := by omega
    have hKL : ∀ L : List (List Dat), L = l.map Cach.d → L.take i ++ x.d :: L.drop i = (l.take i ++ x :: l.drop i).map Cach.d := fun L h => by subst h; simp
    obtain ⟨L, hL⟩ : ∃ L, L = l.map Cach.d := ⟨_, rfl⟩
    have hK := hKL L hL
    have hLl : L.length = l.length := by rw [hL]; simp
    rw [← hL, ← hK]
    clear hK hKL
    by_cases hcap : l.length < c'
    · -- in place
      obtain ⟨L1, hL1⟩ : ∃ L1, L1 = L.take (i + 1) ++ (L.drop i).take (l.length - i) ++ L.drop (i + 1 + (l.length - i)) := ⟨_, rfl⟩
      have hL1l : L1.length = l.length + 1 := by rw [hL1]; simp; omega
      have hL2 : L1.take i ++ [x.d] ++ L1.drop (i + [x.d].length) = L.take i ++ x.d :: L.drop i := by
        rw [hL1, hx1, List.drop_of_length_le (show L.length ≤ i + 1 + (l.length - i) by omega), List.append_nil, List.drop_left' (by simp; omega), take_ge (show (L.drop i).length ≤ l.length - i by simp; omega), List.take_append_of_le_length (by simp; omega), List.take_take, Nat.min_eq_left (by omega)]
        simp
      repeat' (first | (refine s_mv 0 0 ?_ (by exact rfl) hc; refine s_unpin 6 (r := 0) ?_ (by exact rfl) hc) | (with_reducible (first | refine k_seq ?_ | refine k_skip ?_ | refine k_ret ?_ | refine n_seq ?_ | refine r_seq ?_)) | refine s_reg ?_ | refine s_ifT ?_ | refine s_ifF ?_ | refine r_end ?_ | refine s_endD ?_ | refine s_move ?_ | refine s_assign ?_ | refine s_int ?_ | refine s_lenD ?_ | refine s_not ?_ | refine s_lenL ?_ | refine s_capL ?_ | refine s_sliceL (a := (i : Int)) (b := (l.length : Int)) (c := c') (off' := i * ti46.size) (m' := l.length - i) (c' := c' - i) ?_ (by omega) (by omega) (by omega) (off_ne rfl (by omega)) (by omega) (by omega) | refine s_sliceL (a := 0) (b := (l.length : Int) + 1) (c := c') (off' := 0) (m' := l.length + 1) (c' := c') ?_ (by omega) (by omega) (by omega) (off_zero _ _) (by omega) (by omega) | refine s_sliceL (a := (i : Int) + 1) (b := ((l.length + 1 : Nat) : Int)) (c := c') (off' := (i + 1) * ti46.size) (m' := l.length - i) (c' := c' - (i + 1)) ?_ (by omega) (by omega) (by omega) (off_ne (by omega) (by omega)) (by omega) (by omega) | refine s_sliceL (a := (i : Int)) (b := ((l.length + 1 : Nat) : Int)) (c := c') (off' := i * ti46.size) (m' := l.length + 1 - i) (c' := c' - i) ?_ (by omega) (by omega) (by omega) (off_ne rfl (by omega)) (by omega) (by omega) | refine s_overlaps (fid := 83) (t := 37) (tR := 4) (ei := ti46) (r := 0) (ys := [x.d]) ?_ (by exact rfl) hc (by simp) hxs (by decide) Try.func83 (by kernel_rfl) (by kernel_rfl) (by kernel_rfl) (by kernel_rfl) | (refine s_copyL (ei := ti46) (r := 0) (r2 := 0) (o := i + 1) (o2 := i) (m := l.length - i) (sn := l.length + 1 - i) (dl := l.length - i) ?_ (by exact rfl) (by exact rfl) (by show _ = min _ _; omega) (by omega) (by omega) hc hc (by omega) rfl rfl (by exact hL1.symm)) | refine s_copyD (ei := ti46) (r := 0) (o := i) (ys := [x.d]) (dl := l.length + 1 - i) ?_ (by exact rfl) (by simp) (by omega) (by omega) (by omega) hxs rfl (by exact hL2) | refine fh_ret1 def_nil ?_ ?_ | exact memIn_nil | refine memIn_same ?_ | exact am_same)
    · -- growing
      have hcl : c' = l.length := by omega
      have hzt : ((l.length : Int) + 1 - i).toNat = l.length + 1 - i := by omega
      have hzl : ∀ k, (List.replicate k zd).length = k := fun k => by simp
      obtain ⟨Z, hZ⟩ : ∃ Z, Z = L.take i ++ List.replicate ((l.length : Int) + 1 - i).toNat zd := ⟨_, rfl⟩
      have hZl : Z.length = l.length + 1 := by rw [hZ, hzt]; simp; omega
      obtain ⟨Y, hY⟩ : ∃ Y, Y = Z.take i ++ [x.d] ++ Z.drop (i + [x.d].length) := ⟨_, rfl⟩
      have hYl : Y.length = l.length + 1 := by rw [hY, hx1]; simp; omega
      have hYi : Y.take (i + 1) = L.take i ++ [x.d] := by
        rw [hY, List.take_append_of_le_length (by simp; omega), List.take_of_length_le (by simp; omega), hZ, List.take_append_of_le_length (by simp; omega), List.take_take, Nat.min_self]
      have hX : Y.take (i + 1) ++ (L.drop i).take (l.length - i) ++ Y.drop (i + 1 + (l.length - i)) = L.take i ++ x.d :: L.drop i := by
        rw [hYi, take_ge (show (L.drop i).length ≤ l.length - i by simp; omega), List.drop_of_length_le (show Y.length ≤ i + 1 + (l.length - i) by omega)]; simp
      repeat' (first | (refine s_mv 0 1 ?_ (by exact rfl) (by assumption); refine s_unpin 6 (r := 0) ?_ (by exact rfl) (by assumption)) | (with_reducible (first | refine k_seq ?_ | refine k_skip ?_ | refine k_ret ?_ | refine n_seq ?_ | refine r_seq ?_)) | refine s_reg ?_ | refine s_ifT ?_ | refine s_ifF ?_ | refine r_end ?_ | refine s_endD ?_ | refine s_move ?_ | refine s_assign ?_ | refine s_int ?_ | refine s_lenD ?_ | refine s_not ?_ | refine s_lenL ?_ | refine s_capL ?_ | refine s_appZ (ei := ti46) (r' := 0) (r := 0) (j := i) (z := (l.length : Int) + 1 - i) (c := c') (m := l.length + 1) (fun b2 c2 hc2 hlc2 hcm2 => ?_) (by exact rfl) hc (by omega) (by omega) (by omega) (by omega) (by omega) hby hzd hZ.symm | refine s_sliceL (a := (i : Int)) (b := (l.length : Int)) (c := c') (off' := i * ti46.size) (m' := l.length - i) (c' := c' - i) ?_ (by omega) (by omega) (by omega) (off_ne rfl (by omega)) (by omega) (by omega) | refine s_sliceL (a := 0) (b := (i : Int)) (c := c') (off' := 0) (m' := i) (c' := c') ?_ (by omega) (by omega) (by omega) (off_zero _ _) (by omega) (by omega) | refine s_sliceL (a := (i : Int)) (b := ((l.length + 1 : Nat) : Int)) (c := c2) (off' := i * ti46.size) (m' := l.length + 1 - i) (c' := c2 - i) ?_ (by omega) (by omega) (by omega) (off_ne rfl (by omega)) (by omega) (by omega) | refine s_sliceL (a := (i : Int) + 1) (b := ((l.length + 1 : Nat) : Int)) (c := c2) (off' := (i + 1) * ti46.size) (m' := l.length - i) (c' := c2 - (i + 1)) ?_ (by omega) (by omega) (by omega) (off_ne (by omega) (by omega)) (by omega) (by omega) | refine s_copyD (ei := ti46) (r := 1) (o := i) (ys := [x.d]) (dl := l.length + 1 - i) ?_ (by exact rfl) (by simp) (by omega) (by omega) (by omega) hxs rfl (by exact hY.symm) | (refine s_copyL (ei := ti46) (r := 1) (r2 := 0) (o := i + 1) (o2 := i) (m := l.length - i) (sn := l.length - i) (dl := l.length - i) ?_ (by exact rfl) (by exact rfl) (by show _ = min _ _; omega) (by omega) (by omega) hc hc2 (by omega) rfl rfl (by exact hX)) | refine fh_ret1 def_nil ?_ ?_ | exact memIn_nil | refine memIn_same ?_ | exact am_same)
end Go.Proofs.Ytmejclckkmpggaa
