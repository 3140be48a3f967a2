/-
  The tape: SpoilBag.
-/
import Derived.Test.YtgfachlcocjdbaaSpq
namespace Go.Proofs.Ytgfachlcocjdbaa
open Go.Abs Go.RowKit
attribute [local irreducible] ARun kont MCall PCall HCall resVal SF CF CFs defersOk slotsIn memIn fin finM VLe
set_option linter.unusedSimpArgs false
set_option maxRecDepth 100000
set_option maxHeartbeats 4000000

theorem set_freeze {b : List Entry} {i : Nat} (e : Entry) : List.take b.length ((b.map Entry.d).set i e.d) = (b.set i e).map Entry.d := by
  rw [List.map_set]; exact take_ge (by simp)

theorem spoil_h (t : Tape) (b : List Entry) (ht : t.ok) (hb : b.length ≤ 1000) : ∃ (b' : List Entry) (t' : Tape), t'.ok ∧ b'.length ≤ b.length + 1 ∧ HCall Try.prog 14 [.c (.bp 0 0 0), .c (.d (bagD b))] [(.box 0 [.d (numD (t).l), .d (.lit (.int .i64 (t).at_))])] (.c (.d (bagD b'))) [(.box 0 [.d (numD (t').l), .d (.lit (.int .i64 (t').at_))])] := by
  by_cases h0 : b.length = 0
  · obtain ⟨r, t', ok', hr, hc⟩ := row_h t 2 ht (by omega)
    have hf : List.take r.length (r.map Val.d) = r.map Val.d := take_ge (by simp)
    refine ⟨[⟨r, 0⟩], t', ok', by simp, ?_⟩
    refine hcallN hT Try.func14 Try.ntmps14 [.tmp 4] fun B => ?_
    repeat' (first | refine r_freeze 14 rfl rfl (by simp) hf rfl ?_ | (with_reducible (first | refine k_seq ?_ | refine k_block ?_ | refine k_skip ?_ | refine k_ret ?_ | refine n_seq ?_ | refine n_block ?_ | refine r_seq ?_ | refine r_block ?_)) | refine s_reg ?_ | refine s_ifT ?_ | refine s_ifF ?_ | refine r_end ?_ | refine s_endD ?_ | refine s_move ?_ | refine s_assign ?_ | refine s_int ?_ | refine s_loadF1 ?_ | refine s_indexD ?_ (hel := (by first | exact rfl)) | refine s_indexA ?_ | refine s_fieldA ?_ | refine s_callH [0] (hc) ?_ | refine s_lenA ?_ | refine s_appE ?_ | refine s_appA ?_ | refine s_bslice0 ?_ | refine s_bslice ?_ | refine s_build ?_ | refine s_make ?_ | refine fh_ret1 def_nil ?_ ?_ | exact memIn_nil | refine memIn_same ?_ | exact am_same)
  have hn1 := next_h t (b.length : Int) ht (by omega) (by omega)
  obtain ⟨p1, p2⟩ := t.nx_bd (b.length : Int)
  have ok1 := ht.go (b.length : Int)
  obtain ⟨i, hi⟩ := Int.eq_ofNat_of_zero_le p1
  rw [hi] at hn1 p1 p2
  generalize t.go (b.length : Int) = t1 at hn1 ok1
  have hil : i < b.length := by omega
  have hv : b[i]? = some b[i] := List.getElem?_eq_getElem hil
  generalize b[i] = e at hv
  have hv1 : (b.map Entry.d)[i]? = some e.d := by rw [List.getElem?_map, hv]; rfl
  have hn2 := next_h t1 6 ok1 (by omega) (by omega)
  obtain ⟨q1, q2⟩ := t1.nx_bd 6
  have ok2 := ok1.go 6
  generalize t1.nx 6 = z at hn2 q1 q2
  generalize t1.go 6 = t2 at hn2 ok2
  have f5 : List.take b.length ((b.map Entry.d).set i (Entry.d ⟨e.row, 0⟩)) = (b.set i ⟨e.row, 0⟩).map Entry.d := set_freeze ⟨e.row, 0⟩
  by_cases z0 : z = 0
  · refine ⟨b.set i ⟨e.row, 0⟩, t2, ok2, by simp, ?_⟩
    refine hcallN hT Try.func14 Try.ntmps14 [.tmp 4] fun B => ?_
    repeat' (first | refine s_freeze 5 ?_ (hes := f5) | (with_reducible (first | refine k_seq ?_ | refine k_block ?_ | refine k_skip ?_ | refine k_ret ?_ | refine n_seq ?_ | refine n_block ?_ | refine r_seq ?_ | refine r_block ?_)) | refine s_reg ?_ | refine s_ifT ?_ | refine s_ifF ?_ | refine r_end ?_ | refine s_endD ?_ | refine s_move ?_ | refine s_assign ?_ | refine s_int ?_ | refine s_loadF1 ?_ | refine s_loadAA ?_ (he' := (by first | exact hv1 | exact rfl)) | refine s_indexD ?_ (hel := (by first | exact idx_map hv1 (by omega) | exact hv1 | exact rfl)) | refine s_indexA ?_ | refine s_fieldA ?_ | refine s_callH [0] (hn1) ?_ | refine s_callH [0] (hn2) ?_ | refine s_lenA ?_ | refine s_appE ?_ | refine s_appA ?_ | refine s_storeA ?_ (hj := (by first | exact hv1 | exact rfl)) | refine s_bslice0 ?_ | refine s_bslice ?_ | refine s_build ?_ | refine s_make ?_ | refine fh_ret1 def_nil ?_ ?_ | exact memIn_nil | refine memIn_same ?_ | exact am_same)
  by_cases z1 : z = 1
  · have hn3 := next_h t2 3 ok2 (by omega) (by omega)
    obtain ⟨r1, r2⟩ := t2.nx_bd 3
    have ok3 := ok2.go 3
    generalize t2.nx 3 = y at hn3 r1 r2
    generalize t2.go 3 = t3 at hn3 ok3
    obtain ⟨v, hw⟩ : ∃ v, (([262144, 262145, -262145] : List Int).map iD)[y.toNat]? = some (iD v) := by
      have hq : y.toNat < ([262144, 262145, -262145] : List Int).length := by simp; omega
      exact ⟨([262144, 262145, -262145] : List Int)[y.toNat], by rw [List.getElem?_map, List.getElem?_eq_getElem hq]; rfl⟩
    have f5 : List.take b.length ((b.map Entry.d).set i (Entry.d ⟨e.row, v⟩)) = (b.set i ⟨e.row, v⟩).map Entry.d := set_freeze ⟨e.row, v⟩
    refine ⟨b.set i ⟨e.row, v⟩, t3, ok3, by simp, ?_⟩
    refine hcallN hT Try.func14 Try.ntmps14 [.tmp 4] fun B => ?_
    repeat' (first | refine s_freeze 5 ?_ (hes := f5) | (with_reducible (first | refine k_seq ?_ | refine k_block ?_ | refine k_skip ?_ | refine k_ret ?_ | refine n_seq ?_ | refine n_block ?_ | refine r_seq ?_ | refine r_block ?_)) | refine s_reg ?_ | refine s_ifT ?_ | refine s_ifF ?_ | refine r_end ?_ | refine s_endD ?_ | refine s_move ?_ | refine s_assign ?_ | refine s_int ?_ | refine s_loadF1 ?_ | refine s_loadAA ?_ (he' := (by first | exact hv1 | exact hw | exact rfl)) | refine s_indexD ?_ (hel := (by first | exact idx_map hv1 (by omega) | exact idx_map hw (by omega) | exact hv1 | exact hw | exact rfl)) | refine s_indexA ?_ | refine s_fieldA ?_ | refine s_callH [0] (hn1) ?_ | refine s_callH [0] (hn2) ?_ | refine s_callH [0] (hn3) ?_ | refine s_lenA ?_ | refine s_appE ?_ | refine s_appA ?_ | refine s_storeA ?_ (hj := (by first | exact hv1 | exact hw | exact rfl)) | refine s_bslice0 ?_ | refine s_bslice ?_ | refine s_build ?_ | refine s_make ?_ | refine fh_ret1 def_nil ?_ ?_ | exact memIn_nil | refine memIn_same ?_ | exact am_same)
  by_cases z2 : z = 2
  · have hf : List.take (b.length + [e.d].length) (b.map Entry.d ++ [e.d]) = (b ++ [e]).map Entry.d := by
      rw [List.map_append]; exact take_ge (by simp)
    refine ⟨b ++ [e], t2, ok2, by simp, ?_⟩
    refine hcallN hT Try.func14 Try.ntmps14 [.tmp 4] fun B => ?_
    repeat' (first | refine r_freeze 56 rfl rfl (by simp) hf rfl ?_ | (with_reducible (first | refine k_seq ?_ | refine k_block ?_ | refine k_skip ?_ | refine k_ret ?_ | refine n_seq ?_ | refine n_block ?_ | refine r_seq ?_ | refine r_block ?_)) | refine s_reg ?_ | refine s_ifT ?_ | refine s_ifF ?_ | refine r_end ?_ | refine s_endD ?_ | refine s_move ?_ | refine s_assign ?_ | refine s_int ?_ | refine s_loadF1 ?_ | refine s_loadAA ?_ (he' := (by first | exact hv1 | exact rfl)) | refine s_indexD ?_ (hel := (by first | exact idx_map hv1 (by omega) | exact hv1 | exact rfl)) | refine s_indexA ?_ | refine s_fieldA ?_ | refine s_callH [0] (hn1) ?_ | refine s_callH [0] (hn2) ?_ | refine s_lenA ?_ | refine s_appE ?_ | refine s_appA ?_ | refine s_storeA ?_ (hj := (by first | exact hv1 | exact rfl)) | refine s_bslice0 ?_ | refine s_bslice ?_ | refine s_build ?_ | refine s_make ?_ | refine fh_ret1 def_nil ?_ ?_ | exact memIn_nil | refine memIn_same ?_ | exact am_same)
  by_cases z3 : z = 3
  · have f5 : List.take b.length ((b.map Entry.d).set i (Entry.d ⟨[⟨1, 1, ⟨#[120]⟩⟩], e.count⟩)) = (b.set i ⟨[⟨1, 1, ⟨#[120]⟩⟩], e.count⟩).map Entry.d := set_freeze _
    refine ⟨b.set i ⟨[⟨1, 1, ⟨#[120]⟩⟩], e.count⟩, t2, ok2, by simp, ?_⟩
    refine hcallN hT Try.func14 Try.ntmps14 [.tmp 4] fun B => ?_
    repeat' (first | refine s_freeze 5 ?_ (hes := f5) | (with_reducible (first | refine k_seq ?_ | refine k_block ?_ | refine k_skip ?_ | refine k_ret ?_ | refine n_seq ?_ | refine n_block ?_ | refine r_seq ?_ | refine r_block ?_)) | refine s_reg ?_ | refine s_ifT ?_ | refine s_ifF ?_ | refine r_end ?_ | refine s_endD ?_ | refine s_move ?_ | refine s_assign ?_ | refine s_int ?_ | refine s_loadF1 ?_ | refine s_loadAA ?_ (he' := (by first | exact hv1 | exact rfl)) | refine s_indexD ?_ (hel := (by first | exact idx_map hv1 (by omega) | exact hv1 | exact rfl)) | refine s_indexA ?_ | refine s_fieldA ?_ | refine s_callH [0] (hn1) ?_ | refine s_callH [0] (hn2) ?_ | refine s_lenA ?_ | refine s_appE ?_ | refine s_appA ?_ | refine s_storeA ?_ (hj := (by first | exact hv1 | exact rfl)) | refine s_bslice0 ?_ | refine s_bslice ?_ | refine s_build ?_ | refine s_make ?_ | refine fh_ret1 def_nil ?_ ?_ | exact memIn_nil | refine memIn_same ?_ | exact am_same)
  by_cases z4 : z = 4
  · have hv0' : b[0]? = some b[0] := List.getElem?_eq_getElem (by omega)
    generalize b[0] = e0 at hv0'
    have hv0 : (b.map Entry.d)[0]? = some e0.d := by rw [List.getElem?_map, hv0']; rfl
    have hs0 : ((b.map Entry.d).set i e0.d)[0]? = some e0.d := by
      by_cases hq : i = 0
      · subst hq; rw [List.getElem?_set_self (by simpa using hil)]
      · rw [List.getElem?_set_ne hq]; exact hv0
    have f5 : List.take b.length (((b.map Entry.d).set i e0.d).set 0 e.d) = ((b.set i e0).set 0 e).map Entry.d := by
      rw [List.map_set, List.map_set]; exact take_ge (by simp)
    refine ⟨(b.set i e0).set 0 e, t2, ok2, by simp, ?_⟩
    refine hcallN hT Try.func14 Try.ntmps14 [.tmp 4] fun B => ?_
    repeat' (first | refine s_freeze 5 ?_ (hes := f5) | (with_reducible (first | refine k_seq ?_ | refine k_block ?_ | refine k_skip ?_ | refine k_ret ?_ | refine n_seq ?_ | refine n_block ?_ | refine r_seq ?_ | refine r_block ?_)) | refine s_reg ?_ | refine s_ifT ?_ | refine s_ifF ?_ | refine r_end ?_ | refine s_endD ?_ | refine s_move ?_ | refine s_assign ?_ | refine s_int ?_ | refine s_loadF1 ?_ | refine s_loadAA ?_ (he' := (by first | exact hv1 | exact hv0 | exact hs0 | exact rfl)) | refine s_indexD ?_ (hel := (by first | exact idx_map hv1 (by omega) | exact idx_map hv0 (by omega) | exact idx_map hs0 (by omega) | exact hv1 | exact hv0 | exact hs0 | exact rfl)) | refine s_indexA ?_ | refine s_fieldA ?_ | refine s_callH [0] (hn1) ?_ | refine s_callH [0] (hn2) ?_ | refine s_lenA ?_ | refine s_appE ?_ | refine s_appA ?_ | refine s_storeA ?_ (hj := (by first | exact hv1 | exact hv0 | exact hs0 | exact rfl)) | refine s_bslice0 ?_ | refine s_bslice ?_ | refine s_build ?_ | refine s_make ?_ | refine fh_ret1 def_nil ?_ ?_ | exact memIn_nil | refine memIn_same ?_ | exact am_same)
  have hn3 := next_h t2 2 ok2 (by omega) (by omega)
  obtain ⟨r1, r2⟩ := t2.nx_bd 2
  have ok3 := ok2.go 2
  obtain ⟨k, hk⟩ := Int.eq_ofNat_of_zero_le r1
  rw [hk] at hn3 r1 r2
  generalize t2.go 2 = t3 at hn3 ok3
  have hf : List.take (16 + k) (List.replicate (16 + k) Val.null.d) = (List.replicate (16 + k) Val.null).map Val.d := by
    rw [List.map_replicate]; exact take_ge (by simp)
  have f6 : List.take b.length ((b.map Entry.d).set i (Entry.d ⟨List.replicate (16 + k) Val.null, e.count⟩)) = (b.set i ⟨List.replicate (16 + k) Val.null, e.count⟩).map Entry.d := set_freeze _
  refine ⟨b.set i ⟨List.replicate (16 + k) Val.null, e.count⟩, t3, ok3, by simp, ?_⟩
  refine hcallN hT Try.func14 Try.ntmps14 [.tmp 4] fun B => ?_
  repeat' (first | refine r_freeze 28 rfl rfl (by simp) hf rfl ?_ | refine s_freeze 5 ?_ (hes := f6) | (with_reducible (first | refine k_seq ?_ | refine k_block ?_ | refine k_skip ?_ | refine k_ret ?_ | refine n_seq ?_ | refine n_block ?_ | refine r_seq ?_ | refine r_block ?_)) | refine s_reg ?_ | refine s_ifT ?_ | refine s_ifF ?_ | refine r_end ?_ | refine s_endD ?_ | refine s_move ?_ | refine s_assign ?_ | refine s_int ?_ | refine s_loadF1 ?_ | refine s_loadAA ?_ (he' := (by first | exact hv1 | exact rfl)) | refine s_indexD ?_ (hel := (by first | exact idx_map hv1 (by omega) | exact hv1 | exact rfl)) | refine s_indexA ?_ | refine s_fieldA ?_ | refine s_callH [0] (hn1) ?_ | refine s_callH [0] (hn2) ?_ | refine s_callH [0] (hn3) ?_ | refine s_lenA ?_ | refine s_appE ?_ | refine s_appA ?_ | refine s_storeA ?_ (hj := (by first | exact hv1 | exact rfl)) | refine s_bslice0 ?_ | refine s_bslice ?_ | refine s_build ?_ | refine s_make ?_ | refine fh_ret1 def_nil ?_ ?_ | exact memIn_nil | refine memIn_same ?_ | exact am_same)
end Go.Proofs.Ytgfachlcocjdbaa
