/-
  The tape: SpoilBag.
-/
import Derived.Test.YtojfhaoleedmkaaGreatTab
section
section
namespace Go.Proofs.YtojfhaoleedmkaaGreat
open Go.Abs Go.RowKit
attribute [local irreducible] ARun kont MCall PCall HCall resVal SF CF CFs defersOk slotsIn memIn fin finM VLe
set_option linter.unusedSimpArgs false
set_option maxRecDepth 100000
set_option maxHeartbeats 4000000
def txts : List ByteArray := [⟨#[97]⟩, ⟨#[98]⟩, ⟨#[]⟩, ⟨#[97, 98]⟩, ⟨#[97, 32, 98]⟩, ⟨#[120, 0, 121]⟩, ⟨#[255, 34, 92]⟩, ⟨#[98, 32, 97, 32, 98]⟩, ⟨#[108, 111, 110, 103, 32, 116, 101, 120, 116, 32, 111, 102, 32, 116, 104, 105, 114, 116, 121, 45, 116, 119, 111, 32, 98, 121, 116, 101, 115, 32, 105, 116]⟩, ⟨#[66]⟩]
def sD (s : ByteArray) : List Dat := [.lit (.string s)]
def ints : List Int := [0, 1, 2, 3, -1, -2, 7, 100, 4294967296, -4294967296, 5, 4]
def Tape.text (t : Tape) : Val := Val.ofText (txts.getD (t.nx 10).toNat ⟨#[]⟩)
def Tape.int (t : Tape) : Val := Val.ofInt (ints.getD (t.nx 12).toNat 0)
theorem text_h (t : Tape) (ht : t.ok) : HCall Tryz.prog 129 [.c (.bp 0 0 0)] [(.box 0 [.d (numD (t).l), .d (.lit (.int .i64 (t).at_))])] (.agg (t.text.d.map .d)) [(.box 0 [.d (numD (t.go 10).l), .d (.lit (.int .i64 (t.go 10).at_))])] := by
  have hn := next_h t 10 ht (by omega) (by omega)
  obtain ⟨b1, b2⟩ := t.nx_bd 10
  have hv : txts[(t.nx 10).toNat]? = some (txts.getD (t.nx 10).toNat ⟨#[]⟩) := by
    rw [List.getD_eq_getElem?_getD, List.getElem?_eq_getElem (by simp [txts]; omega)]; rfl
  have hv1 : (txts.map sD)[(t.nx 10).toNat]? = some (sD (txts.getD (t.nx 10).toNat ⟨#[]⟩)) := by rw [List.getElem?_map, hv]; rfl
  have hr := refText_c (txts.getD (t.nx 10).toNat ⟨#[]⟩)
  change PCall _ _ _ (.v (.agg t.text.d)) at hr
  generalize txts.getD (t.nx 10).toNat ⟨#[]⟩ = s at hv hv1 hr
  generalize t.nx 10 = z at hn b1 b2 hv hv1
  generalize t.go 10 = t' at hn
  refine hcallN hT Tryz.func129 Tryz.ntmps129 [.cell 2 53] fun B => ?_
  repeat' (first | refine ks ?_ | refine ko ?_ | refine s_indexD ?_ (hel := (by first | exact idx_map hv1 (by omega) | exact hv1 | exact rfl)) | refine s_call (hr) ?_ | refine s_callH [0] (hn) ?_ | refine fh_cellG def_nil ?_ ?_ | exact memIn_nil | refine memIn_same ?_ | exact am_same)
theorem int_h (t : Tape) (ht : t.ok) : HCall Tryz.prog 130 [.c (.bp 0 0 0)] [(.box 0 [.d (numD (t).l), .d (.lit (.int .i64 (t).at_))])] (.agg (t.int.d.map .d)) [(.box 0 [.d (numD (t.go 12).l), .d (.lit (.int .i64 (t.go 12).at_))])] := by
  have hn := next_h t 12 ht (by omega) (by omega)
  obtain ⟨b1, b2⟩ := t.nx_bd 12
  have hv : ints[(t.nx 12).toNat]? = some (ints.getD (t.nx 12).toNat 0) := by
    rw [List.getD_eq_getElem?_getD, List.getElem?_eq_getElem (by simp [ints]; omega)]; rfl
  have hv1 : (ints.map iD)[(t.nx 12).toNat]? = some (iD (ints.getD (t.nx 12).toNat 0)) := by rw [List.getElem?_map, hv]; rfl
  have hr := refInt_c (ints.getD (t.nx 12).toNat 0)
  change PCall _ _ _ (.v (.agg t.int.d)) at hr
  generalize ints.getD (t.nx 12).toNat 0 = s at hv hv1 hr
  generalize t.nx 12 = z at hn b1 b2 hv hv1
  generalize t.go 12 = t' at hn
  refine hcallN hT Tryz.func130 Tryz.ntmps130 [.cell 2 53] fun B => ?_
  repeat' (first | refine ks ?_ | refine ko ?_ | refine s_indexD ?_ (hel := (by first | exact idx_map hv1 (by omega) | exact hv1 | exact rfl)) | refine s_call (hr) ?_ | refine s_callH [0] (hn) ?_ | refine fh_cellG def_nil ?_ ?_ | exact memIn_nil | refine memIn_same ?_ | exact am_same)
def Tape.val (t : Tape) : Val × Tape :=
  if t.nx 5 = 0 then (Val.null, t.go 5)
  else if t.nx 5 = 1 ∨ t.nx 5 = 2 then ((t.go 5).text, (t.go 5).go 10)
  else ((t.go 5).int, (t.go 5).go 12)
theorem value_h (t : Tape) (ht : t.ok) : HCall Tryz.prog 91 [.c (.bp 0 0 0)] [(.box 0 [.d (numD (t).l), .d (.lit (.int .i64 (t).at_))])] (.agg (t.val.1.d.map .d)) [(.box 0 [.d (numD (t.val.2).l), .d (.lit (.int .i64 (t.val.2).at_))])] := by
  have hn := next_h t 5 ht (by omega) (by omega)
  obtain ⟨b1, b2⟩ := t.nx_bd 5
  have h1 := text_h (t.go 5) (ht.go 5)
  have h2 := int_h (t.go 5) (ht.go 5)
  by_cases hz : t.nx 5 = 0
  · have e : t.val = (Val.null, t.go 5) := if_pos hz
    rw [e]
    rw [hz] at hn
    generalize t.go 5 = t' at hn
    refine hcallN hT Tryz.func91 Tryz.ntmps91 [.cell 2 53] fun B => ?_
    repeat' (first | refine ks ?_ | refine ko ?_ | refine s_if rfl (fun hb => ?_) (fun hb => ?_) | refine s_callH [0] (hn) ?_ | refine fh_cellG def_nil ?_ ?_ | exact memIn_nil | refine memIn_same ?_ | exact am_same)
  · by_cases ho : t.nx 5 = 1 ∨ t.nx 5 = 2
    · have e : t.val = ((t.go 5).text, (t.go 5).go 10) := by rw [Tape.val, if_neg hz, if_pos ho]
      rw [e]
      generalize t.nx 5 = z at hn hz ho b1 b2
      generalize t.go 5 = t' at hn h1
      refine hcallN hT Tryz.func91 Tryz.ntmps91 [.cell 2 53] fun B => ?_
      repeat' (first | refine ks ?_ | refine ko ?_ | refine s_if rfl (fun hb => ?_) (fun hb => ?_) | refine s_callH [0] (hn) ?_ | refine s_callH [0] (h1) ?_ | refine fh_cellG def_nil ?_ ?_ | exact memIn_nil | refine memIn_same ?_ | exact am_same)
    · have e : t.val = ((t.go 5).int, (t.go 5).go 12) := by rw [Tape.val, if_neg hz, if_neg ho]
      rw [e]
      generalize t.nx 5 = z at hn hz ho b1 b2
      generalize t.go 5 = t' at hn h2
      refine hcallN hT Tryz.func91 Tryz.ntmps91 [.cell 2 53] fun B => ?_
      repeat' (first | refine ks ?_ | refine ko ?_ | refine s_if rfl (fun hb => ?_) (fun hb => ?_) | refine s_callH [0] (hn) ?_ | refine s_callH [0] (h2) ?_ | refine fh_cellG def_nil ?_ ?_ | exact memIn_nil | refine memIn_same ?_ | exact am_same)
end Go.Proofs.YtojfhaoleedmkaaGreat
end
section
namespace Go.Proofs.YtojfhaoleedmkaaGreat
open Go.Abs Go.RowKit
attribute [local irreducible] ARun kont MCall PCall HCall resVal SF CF CFs defersOk slotsIn memIn fin finM VLe
set_option linter.unusedSimpArgs false
set_option maxRecDepth 100000
set_option maxHeartbeats 4000000
theorem val_ok {t : Tape} (h : t.ok) : t.val.2.ok := by
  unfold Tape.val
  split
  · exact h.go 5
  · split
    · exact (h.go 5).go 10
    · exact (h.go 5).go 12
def rowV (t : Tape) : Nat → List Val × Tape
  | 0 => ([], t)
  | j + 1 => ((rowV t j).1 ++ [(rowV t j).2.val.1], (rowV t j).2.val.2)
theorem rowV_ok {t : Tape} (h : t.ok) : ∀ j, (rowV t j).2.ok ∧ (rowV t j).1.length = j
  | 0 => ⟨h, rfl⟩
  | j + 1 => by
    obtain ⟨h1, h2⟩ := rowV_ok h j
    exact ⟨val_ok h1, by rw [rowV]; simp [h2]⟩
theorem row_h (t : Tape) (n : Nat) (ht : t.ok) (hn : n ≤ 1000) : ∃ (r : List Val) (t' : Tape), t'.ok ∧ r.length ≤ n ∧ HCall Tryz.prog 45 [.c (.bp 0 0 0), (.c (.d (.lit (.int .i64 (n : Int)))))] [(.box 0 [.d (numD (t).l), .d (.lit (.int .i64 (t).at_))])] (.c (.arr 1 1 r.length)) [(.box 0 [.d (numD (t').l), .d (.lit (.int .i64 (t').at_))]), .arr 1 53 3 (r.map Val.d)] := by
  have hnx := next_h t ((n : Int) + 1) ht (by omega) (by omega)
  obtain ⟨b1, b2⟩ := t.nx_bd ((n : Int) + 1)
  have ht1 := ht.go ((n : Int) + 1)
  obtain ⟨i, hi⟩ := Int.eq_ofNat_of_zero_le b1
  rw [hi] at hnx b1 b2
  generalize t.go ((n : Int) + 1) = t1 at hnx ht1
  obtain ⟨o1, o2⟩ := rowV_ok ht1 i
  refine ⟨(rowV t1 i).1, (rowV t1 i).2, o1, by omega, ?_⟩
  rw [o2]
  have hin : i ≤ 1000 := by omega
  refine hcallN hT Tryz.func45 Tryz.ntmps45 [.tmp 4] fun B => ?_
  repeat' (first | refine ks ?_ | refine ko ?_ | refine s_callH [0] (hnx) ?_ | refine fh_ret1 def_nil ?_ ?_ | exact memIn_nil | refine memIn_same ?_ | refine m1 ?_ ?_ | exact am_same)
  refine s_own 5 53 3 ?_
  refine s_lp (X := Nat × Nat) [5, 6, 11, 12, 13, 14, 15, 16, 17, 18, 19] (fun x => x.1 ≤ i) (fun x lz => (5, .c (.arr 1 x.2 x.1)) :: (6, (.c (.d (.lit (.int .i64 ((i - x.1 : Nat) : Int)))))) :: lz) (fun x => [(.box 0 [.d (numD ((rowV t1 x.1).2).l), .d (.lit (.int .i64 ((rowV t1 x.1).2).at_))]), .arr x.2 53 3 ((rowV t1 x.1).1.map Val.d)]) (fun x => i - x.1) ((0, 2)) ?_ ?_ ?_ ?_
  repeat' (first | exact slots_nil | refine kw ?_ | exact memIn_nil | refine kv ?_ ?_ | omega)
  rintro ⟨m, k⟩ c hm
  dsimp only at hm ⊢
  obtain ⟨hok, hlen⟩ := rowV_ok ht1 m
  by_cases hlt : m < i
  · have hv := value_h (rowV t1 m).2 hok
    repeat' (first | refine ks ?_ | refine ko ?_ | refine s_callH [0] (hv) ?_ | refine fh_ret1 def_nil ?_ ?_ | exact memIn_nil | refine memIn_same ?_ | refine m1 ?_ ?_ | exact am_same)
    (apply s_round ((m + 1, _)); all_goals (try dsimp only); all_goals (try (repeat' (first | exact slots_nil | refine w1 ?_ | exact memIn_nil | refine memIn_same ?_ | refine m1 ?_ ?_ | omega))))
    rw [rowV, List.map_append]; rfl
  · obtain rfl : m = i := by omega
    repeat' (first | refine ks ?_ | refine ko ?_ | refine fh_ret1 def_nil ?_ ?_ | exact memIn_nil | refine memIn_same ?_ | refine m1 ?_ ?_ | exact am_same)
end Go.Proofs.YtojfhaoleedmkaaGreat
end
end
section
namespace Go.Proofs.YtojfhaoleedmkaaGreat
open Go.Abs Go.RowKit
attribute [local irreducible] ARun kont MCall PCall HCall resVal SF CF CFs defersOk slotsIn memIn fin finM VLe
set_option linter.unusedSimpArgs false
set_option maxRecDepth 100000
set_option maxHeartbeats 4000000
theorem set_freeze {b : List Entry} {i : Nat} (e : Entry) : List.take b.length ((b.map Entry.d).set i e.d) = (b.set i e).map Entry.d := by
  rw [List.map_set]; exact take_ge (by simp)
theorem spoil_h (t : Tape) (b : List Entry) (ht : t.ok) (hb : b.length ≤ 1000) : ∃ (b' : List Entry) (t' : Tape), t'.ok ∧ b'.length ≤ b.length + 1 ∧ HCall Tryz.prog 15 [.c (.bp 0 0 0), .c (.d (bagD b))] [(.box 0 [.d (numD (t).l), .d (.lit (.int .i64 (t).at_))])] (.c (.d (bagD b'))) [(.box 0 [.d (numD (t').l), .d (.lit (.int .i64 (t').at_))])] := by
  by_cases h0 : b.length = 0
  · obtain ⟨r, t', ok', hr, hc⟩ := row_h t 2 ht (by omega)
    have hf : List.take r.length (r.map Val.d) = r.map Val.d := take_ge (by simp)
    refine ⟨[⟨r, 0⟩], t', ok', by simp, ?_⟩
    refine hcallN hT Tryz.func15 Tryz.ntmps15 [.tmp 4] fun B => ?_
    repeat' (first | refine r_freeze 14 rfl rfl (by simp) hf rfl ?_ | refine ks ?_ | refine ko ?_ | refine s_indexD ?_ (hel := (by first | exact rfl)) | refine s_callH [0] (hc) ?_ | refine fh_ret1 def_nil ?_ ?_ | exact memIn_nil | refine memIn_same ?_ | exact am_same)
  have hn1 := next_h t (b.length : Int) ht (by omega) (by omega)
  obtain ⟨p1, p2⟩ := t.nx_bd (b.length : Int)
  have ok1 := ht.go (b.length : Int)
  obtain ⟨i, hi⟩ := Int.eq_ofNat_of_zero_le p1
  rw [hi] at hn1 p1 p2
  generalize t.go (b.length : Int) = t1 at hn1 ok1
  have hil : i < b.length := by omega
  have hv : b[i]? = some b[i] := List.getElem?_eq_getElem hil
  generalize b[i] = e at hv
  have hv1 : (b.map Entry.d)[i]? = some e.d := by rw [List.getElem?_map, hv]; rfl
  have hn2 := next_h t1 6 ok1 (by omega) (by omega)
  obtain ⟨q1, q2⟩ := t1.nx_bd 6
  have ok2 := ok1.go 6
  generalize t1.nx 6 = z at hn2 q1 q2
  generalize t1.go 6 = t2 at hn2 ok2
  have f5 : List.take b.length ((b.map Entry.d).set i (Entry.d ⟨e.row, 0⟩)) = (b.set i ⟨e.row, 0⟩).map Entry.d := set_freeze ⟨e.row, 0⟩
  by_cases z0 : z = 0
  · refine ⟨b.set i ⟨e.row, 0⟩, t2, ok2, by simp, ?_⟩
    refine hcallN hT Tryz.func15 Tryz.ntmps15 [.tmp 4] fun B => ?_
    repeat' (first | refine s_freeze 5 ?_ (hes := f5) | refine ks ?_ | refine ko ?_ | refine s_loadAA ?_ (he' := (by first | exact hv1 | exact rfl)) | refine s_indexD ?_ (hel := (by first | exact idx_map hv1 (by omega) | exact hv1 | exact rfl)) | refine s_callH [0] (hn1) ?_ | refine s_callH [0] (hn2) ?_ | refine s_storeA ?_ (hj := (by first | exact hv1 | exact rfl)) | refine fh_ret1 def_nil ?_ ?_ | exact memIn_nil | refine memIn_same ?_ | exact am_same)
  by_cases z1 : z = 1
  · have hn3 := next_h t2 3 ok2 (by omega) (by omega)
    obtain ⟨r1, r2⟩ := t2.nx_bd 3
    have ok3 := ok2.go 3
    generalize t2.nx 3 = y at hn3 r1 r2
    generalize t2.go 3 = t3 at hn3 ok3
    obtain ⟨v, hw⟩ : ∃ v, (([262144, 262145, -262145] : List Int).map iD)[y.toNat]? = some (iD v) := by
      have hq : y.toNat < ([262144, 262145, -262145] : List Int).length := by simp; omega
      exact ⟨([262144, 262145, -262145] : List Int)[y.toNat], by rw [List.getElem?_map, List.getElem?_eq_getElem hq]; rfl⟩
    have f5 : List.take b.length ((b.map Entry.d).set i (Entry.d ⟨e.row, v⟩)) = (b.set i ⟨e.row, v⟩).map Entry.d := set_freeze ⟨e.row, v⟩
    refine ⟨b.set i ⟨e.row, v⟩, t3, ok3, by simp, ?_⟩
    refine hcallN hT Tryz.func15 Tryz.ntmps15 [.tmp 4] fun B => ?_
    repeat' (first | refine s_freeze 5 ?_ (hes := f5) | refine ks ?_ | refine ko ?_ | refine s_loadAA ?_ (he' := (by first | exact hv1 | exact hw | exact rfl)) | refine s_indexD ?_ (hel := (by first | exact idx_map hv1 (by omega) | exact idx_map hw (by omega) | exact hv1 | exact hw | exact rfl)) | refine s_callH [0] (hn1) ?_ | refine s_callH [0] (hn2) ?_ | refine s_callH [0] (hn3) ?_ | refine s_storeA ?_ (hj := (by first | exact hv1 | exact hw | exact rfl)) | refine fh_ret1 def_nil ?_ ?_ | exact memIn_nil | refine memIn_same ?_ | exact am_same)
  by_cases z2 : z = 2
  · have hf : List.take (b.length + [e.d].length) (b.map Entry.d ++ [e.d]) = (b ++ [e]).map Entry.d := by
      rw [List.map_append]; exact take_ge (by simp)
    refine ⟨b ++ [e], t2, ok2, by simp, ?_⟩
    refine hcallN hT Tryz.func15 Tryz.ntmps15 [.tmp 4] fun B => ?_
    repeat' (first | refine r_freeze 56 rfl rfl (by simp) hf rfl ?_ | refine ks ?_ | refine ko ?_ | refine s_loadAA ?_ (he' := (by first | exact hv1 | exact rfl)) | refine s_indexD ?_ (hel := (by first | exact idx_map hv1 (by omega) | exact hv1 | exact rfl)) | refine s_callH [0] (hn1) ?_ | refine s_callH [0] (hn2) ?_ | refine s_storeA ?_ (hj := (by first | exact hv1 | exact rfl)) | refine fh_ret1 def_nil ?_ ?_ | exact memIn_nil | refine memIn_same ?_ | exact am_same)
  by_cases z3 : z = 3
  · have f5 : List.take b.length ((b.map Entry.d).set i (Entry.d ⟨[⟨1, 1, ⟨#[120]⟩⟩], e.count⟩)) = (b.set i ⟨[⟨1, 1, ⟨#[120]⟩⟩], e.count⟩).map Entry.d := set_freeze _
    refine ⟨b.set i ⟨[⟨1, 1, ⟨#[120]⟩⟩], e.count⟩, t2, ok2, by simp, ?_⟩
    refine hcallN hT Tryz.func15 Tryz.ntmps15 [.tmp 4] fun B => ?_
    repeat' (first | refine s_freeze 5 ?_ (hes := f5) | refine ks ?_ | refine ko ?_ | refine s_loadAA ?_ (he' := (by first | exact hv1 | exact rfl)) | refine s_indexD ?_ (hel := (by first | exact idx_map hv1 (by omega) | exact hv1 | exact rfl)) | refine s_callH [0] (hn1) ?_ | refine s_callH [0] (hn2) ?_ | refine s_storeA ?_ (hj := (by first | exact hv1 | exact rfl)) | refine fh_ret1 def_nil ?_ ?_ | exact memIn_nil | refine memIn_same ?_ | exact am_same)
  by_cases z4 : z = 4
  · have hv0' : b[0]? = some b[0] := List.getElem?_eq_getElem (by omega)
    generalize b[0] = e0 at hv0'
    have hv0 : (b.map Entry.d)[0]? = some e0.d := by rw [List.getElem?_map, hv0']; rfl
    have hs0 : ((b.map Entry.d).set i e0.d)[0]? = some e0.d := by
      by_cases hq : i = 0
      · subst hq; rw [List.getElem?_set_self (by simpa using hil)]
      · rw [List.getElem?_set_ne hq]; exact hv0
    have f5 : List.take b.length (((b.map Entry.d).set i e0.d).set 0 e.d) = ((b.set i e0).set 0 e).map Entry.d := by
      rw [List.map_set, List.map_set]; exact take_ge (by simp)
    refine ⟨(b.set i e0).set 0 e, t2, ok2, by simp, ?_⟩
    refine hcallN hT Tryz.func15 Tryz.ntmps15 [.tmp 4] fun B => ?_
    repeat' (first | refine s_freeze 5 ?_ (hes := f5) | refine ks ?_ | refine ko ?_ | refine s_loadAA ?_ (he' := (by first | exact hv1 | exact hv0 | exact hs0 | exact rfl)) | refine s_indexD ?_ (hel := (by first | exact idx_map hv1 (by omega) | exact idx_map hv0 (by omega) | exact idx_map hs0 (by omega) | exact hv1 | exact hv0 | exact hs0 | exact rfl)) | refine s_callH [0] (hn1) ?_ | refine s_callH [0] (hn2) ?_ | refine s_storeA ?_ (hj := (by first | exact hv1 | exact hv0 | exact hs0 | exact rfl)) | refine fh_ret1 def_nil ?_ ?_ | exact memIn_nil | refine memIn_same ?_ | exact am_same)
  have hn3 := next_h t2 2 ok2 (by omega) (by omega)
  obtain ⟨r1, r2⟩ := t2.nx_bd 2
  have ok3 := ok2.go 2
  obtain ⟨k, hk⟩ := Int.eq_ofNat_of_zero_le r1
  rw [hk] at hn3 r1 r2
  generalize t2.go 2 = t3 at hn3 ok3
  have hf : List.take (16 + k) (List.replicate (16 + k) Val.null.d) = (List.replicate (16 + k) Val.null).map Val.d := by
    rw [List.map_replicate]; exact take_ge (by simp)
  have f6 : List.take b.length ((b.map Entry.d).set i (Entry.d ⟨List.replicate (16 + k) Val.null, e.count⟩)) = (b.set i ⟨List.replicate (16 + k) Val.null, e.count⟩).map Entry.d := set_freeze _
  refine ⟨b.set i ⟨List.replicate (16 + k) Val.null, e.count⟩, t3, ok3, by simp, ?_⟩
  refine hcallN hT Tryz.func15 Tryz.ntmps15 [.tmp 4] fun B => ?_
  repeat' (first | refine r_freeze 28 rfl rfl (by simp) hf rfl ?_ | refine s_freeze 5 ?_ (hes := f6) | refine ks ?_ | refine ko ?_ | refine s_loadAA ?_ (he' := (by first | exact hv1 | exact rfl)) | refine s_indexD ?_ (hel := (by first | exact idx_map hv1 (by omega) | exact hv1 | exact rfl)) | refine s_callH [0] (hn1) ?_ | refine s_callH [0] (hn2) ?_ | refine s_callH [0] (hn3) ?_ | refine s_storeA ?_ (hj := (by first | exact hv1 | exact rfl)) | refine fh_ret1 def_nil ?_ ?_ | exact memIn_nil | refine memIn_same ?_ | exact am_same)
end Go.Proofs.YtojfhaoleedmkaaGreat
end
