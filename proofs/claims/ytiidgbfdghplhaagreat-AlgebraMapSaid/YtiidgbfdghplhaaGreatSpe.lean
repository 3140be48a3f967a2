/-
  The tape: SpoilExpr.
-/
import Derived.Test.YtiidgbfdghplhaaGreatSme
namespace Go.Proofs.YtiidgbfdghplhaaGreat
open Go.Abs Go.RowKit
attribute [local irreducible] ARun kont MCall PCall HCall resVal SF CF CFs defersOk slotsIn memIn fin finM VLe
set_option linter.unusedSimpArgs false
set_option maxRecDepth 100000
set_option maxHeartbeats 4000000

theorem setT_freeze {b : List Trm} {i : Nat} (e : Trm) : List.take b.length ((b.map Trm.d).set i e.d) = (b.set i e).map Trm.d := by
  rw [List.map_set]; exact take_ge (by simp)

theorem spoilE_h (t : Tape) (b : List Trm) (ht : t.ok) (hb : b.length ≤ 100000) : ∃ (b' : List Trm) (t' : Tape), t'.ok ∧ b'.length ≤ b.length + 1 ∧ HCall Tryz.prog 17 [.c (.bp 0 0 0), .c (.d (exprD b))] [(.box 0 [.d (numD (t).l), .d (.lit (.int .i64 (t).at_))])] (.c (.d (exprD b'))) [(.box 0 [.d (numD (t').l), .d (.lit (.int .i64 (t').at_))])] := by
  have f0 : List.take b.length (b.map Trm.d) = b.map Trm.d := take_ge (by simp)
  by_cases h0 : b.length = 0
  · refine ⟨b, t, ht, by omega, ?_⟩
    refine hcallN hT Tryz.func17 Tryz.ntmps17 [.tmp 4] fun B => ?_
    repeat' (first | refine s_freeze 5 ?_ (hes := f0) | (with_reducible (first | refine k_seq ?_ | refine k_block ?_ | refine k_skip ?_ | refine k_ret ?_ | refine n_seq ?_ | refine n_block ?_ | refine r_seq ?_ | refine r_block ?_)) | refine s_reg ?_ | refine s_ifT ?_ | refine s_ifF ?_ | refine r_end ?_ | refine s_move ?_ | refine s_assign ?_ | refine s_int ?_ | refine s_indexA ?_ | refine s_fieldA ?_ | refine s_lenD ?_ | refine s_lenA ?_ | refine s_appE ?_ | refine s_appA ?_ | refine s_bslice0 ?_ | refine s_bslice ?_ | refine s_build ?_ | refine s_sliceD ?_ | refine fh_ret1 def_nil ?_ ?_ | exact memIn_nil | refine memIn_same ?_ | exact am_same)
  obtain ⟨i, t1, ok1, hil, hn1⟩ := nextE_h t b.length ht (by omega) (by omega)
  have hv : b[i]? = some b[i] := List.getElem?_eq_getElem hil
  generalize b[i] = e at hv
  have hv1 : (b.map Trm.d)[i]? = some e.d := by rw [List.getElem?_map, hv]; rfl
  obtain ⟨z, t2, ok2, hz, hn2⟩ := nextE_h t1 7 ok1 (by omega) (by omega)
  by_cases z0 : z = 0
  · obtain ⟨v, t3, ok3, _, hn3⟩ := nextE_h t2 21 ok2 (by omega) (by omega)
    have f5 := setT_freeze (b := b) (i := i) ⟨(v : Int) - 1, e.v, e.col⟩
    refine ⟨b.set i ⟨(v : Int) - 1, e.v, e.col⟩, t3, ok3, by simp, ?_⟩
    refine hcallN hT Tryz.func17 Tryz.ntmps17 [.tmp 4] fun B => ?_
    repeat' (first | refine s_freeze 5 ?_ (hes := f5) | (with_reducible (first | refine k_seq ?_ | refine k_block ?_ | refine k_skip ?_ | refine k_ret ?_ | refine n_seq ?_ | refine n_block ?_ | refine r_seq ?_ | refine r_block ?_)) | refine s_reg ?_ | refine s_ifT ?_ | refine s_ifF ?_ | refine r_end ?_ | refine s_move ?_ | refine s_assign ?_ | refine s_int ?_ | refine s_loadAA ?_ (he' := (by first | exact hv1 | exact rfl)) | refine s_indexA ?_ | refine s_fieldA ?_ | refine s_callH [0] (hn1) ?_ | refine s_callH [0] (hn2) ?_ | refine s_callH [0] (hn3) ?_ | refine s_lenD ?_ | refine s_lenA ?_ | refine s_appE ?_ | refine s_appA ?_ | refine s_storeA ?_ (hj := (by first | exact hv1 | exact rfl)) | refine s_bslice0 ?_ | refine s_bslice ?_ | refine s_build ?_ | refine s_sliceD ?_ | refine fh_ret1 def_nil ?_ ?_ | exact memIn_nil | refine memIn_same ?_ | exact am_same)
  by_cases z1 : z = 1
  · have hvc := value_h t2 ok2
    have ok3 := val_ok ok2
    have f5 := setT_freeze (b := b) (i := i) ⟨e.op, t2.val.1, e.col⟩
    refine ⟨b.set i ⟨e.op, t2.val.1, e.col⟩, t2.val.2, ok3, by simp, ?_⟩
    generalize t2.val = q at hvc f5
    obtain ⟨w, t3⟩ := q
    dsimp only at hvc f5 ⊢
    refine hcallN hT Tryz.func17 Tryz.ntmps17 [.tmp 4] fun B => ?_
    repeat' (first | refine s_freeze 5 ?_ (hes := f5) | (with_reducible (first | refine k_seq ?_ | refine k_block ?_ | refine k_skip ?_ | refine k_ret ?_ | refine n_seq ?_ | refine n_block ?_ | refine r_seq ?_ | refine r_block ?_)) | refine s_reg ?_ | refine s_ifT ?_ | refine s_ifF ?_ | refine r_end ?_ | refine s_move ?_ | refine s_assign ?_ | refine s_int ?_ | refine s_loadAA ?_ (he' := (by first | exact hv1 | exact rfl)) | refine s_indexA ?_ | refine s_fieldA ?_ | refine s_callH [0] (hn1) ?_ | refine s_callH [0] (hn2) ?_ | refine s_callH [0] (hvc) ?_ | refine s_lenD ?_ | refine s_lenA ?_ | refine s_appE ?_ | refine s_appA ?_ | refine s_storeA ?_ (hj := (by first | exact hv1 | exact rfl)) | refine s_bslice0 ?_ | refine s_bslice ?_ | refine s_build ?_ | refine s_sliceD ?_ | refine fh_ret1 def_nil ?_ ?_ | exact memIn_nil | refine memIn_same ?_ | exact am_same)
  by_cases z2 : z = 2
  · obtain ⟨v, t3, ok3, _, hn3⟩ := nextE_h t2 5 ok2 (by omega) (by omega)
    have f5 := setT_freeze (b := b) (i := i) ⟨e.op, e.v, (v : Int) - 1⟩
    refine ⟨b.set i ⟨e.op, e.v, (v : Int) - 1⟩, t3, ok3, by simp, ?_⟩
    refine hcallN hT Tryz.func17 Tryz.ntmps17 [.tmp 4] fun B => ?_
    repeat' (first | refine s_freeze 5 ?_ (hes := f5) | (with_reducible (first | refine k_seq ?_ | refine k_block ?_ | refine k_skip ?_ | refine k_ret ?_ | refine n_seq ?_ | refine n_block ?_ | refine r_seq ?_ | refine r_block ?_)) | refine s_reg ?_ | refine s_ifT ?_ | refine s_ifF ?_ | refine r_end ?_ | refine s_move ?_ | refine s_assign ?_ | refine s_int ?_ | refine s_loadAA ?_ (he' := (by first | exact hv1 | exact rfl)) | refine s_indexA ?_ | refine s_fieldA ?_ | refine s_callH [0] (hn1) ?_ | refine s_callH [0] (hn2) ?_ | refine s_callH [0] (hn3) ?_ | refine s_lenD ?_ | refine s_lenA ?_ | refine s_appE ?_ | refine s_appA ?_ | refine s_storeA ?_ (hj := (by first | exact hv1 | exact rfl)) | refine s_bslice0 ?_ | refine s_bslice ?_ | refine s_build ?_ | refine s_sliceD ?_ | refine fh_ret1 def_nil ?_ ?_ | exact memIn_nil | refine memIn_same ?_ | exact am_same)
  by_cases z3 : z = 3
  · refine ⟨b.drop 1, t2, ok2, by simp; omega, ?_⟩
    refine hcallN hT Tryz.func17 Tryz.ntmps17 [.tmp 4] fun B => ?_
    repeat' (first | refine s_freeze 5 ?_ (hes := f0) | (with_reducible (first | refine k_seq ?_ | refine k_block ?_ | refine k_skip ?_ | refine k_ret ?_ | refine n_seq ?_ | refine n_block ?_ | refine r_seq ?_ | refine r_block ?_)) | refine s_reg ?_ | refine s_ifT ?_ | refine s_ifF ?_ | refine r_end ?_ | refine s_move ?_ | refine s_assign ?_ | refine s_int ?_ | refine s_loadAA ?_ (he' := (by first | exact hv1 | exact rfl)) | refine s_indexA ?_ | refine s_fieldA ?_ | refine s_callH [0] (hn1) ?_ | refine s_callH [0] (hn2) ?_ | refine s_lenD ?_ | refine s_lenA ?_ | refine s_appE ?_ | refine s_appA ?_ | refine s_storeA ?_ (hj := (by first | exact hv1 | exact rfl)) | refine s_bslice0 ?_ | refine s_bslice ?_ | refine s_build ?_ | refine s_sliceD ?_ | refine fh_ret1 def_nil ?_ ?_ | exact memIn_nil | refine memIn_same ?_ | exact am_same)
  by_cases z4 : z = 4
  · have hf : List.take (b.length + [e.d].length) (b.map Trm.d ++ [e.d]) = (b ++ [e]).map Trm.d := by
      rw [List.map_append]; exact take_ge (by simp)
    refine ⟨b ++ [e], t2, ok2, by simp, ?_⟩
    refine hcallN hT Tryz.func17 Tryz.ntmps17 [.tmp 4] fun B => ?_
    repeat' (first | refine r_freeze 65 rfl rfl (by simp) hf rfl ?_ | (with_reducible (first | refine k_seq ?_ | refine k_block ?_ | refine k_skip ?_ | refine k_ret ?_ | refine n_seq ?_ | refine n_block ?_ | refine r_seq ?_ | refine r_block ?_)) | refine s_reg ?_ | refine s_ifT ?_ | refine s_ifF ?_ | refine r_end ?_ | refine s_move ?_ | refine s_assign ?_ | refine s_int ?_ | refine s_loadAA ?_ (he' := (by first | exact hv1 | exact rfl)) | refine s_indexA ?_ | refine s_fieldA ?_ | refine s_callH [0] (hn1) ?_ | refine s_callH [0] (hn2) ?_ | refine s_lenD ?_ | refine s_lenA ?_ | refine s_appE ?_ | refine s_appA ?_ | refine s_storeA ?_ (hj := (by first | exact hv1 | exact rfl)) | refine s_bslice0 ?_ | refine s_bslice ?_ | refine s_build ?_ | refine s_sliceD ?_ | refine fh_ret1 def_nil ?_ ?_ | exact memIn_nil | refine memIn_same ?_ | exact am_same)
  by_cases z5 : z = 5
  · have f5 := setT_freeze (b := b) (i := i) ⟨e.op, ⟨1, 1, ⟨#[120]⟩⟩, e.col⟩
    refine ⟨b.set i ⟨e.op, ⟨1, 1, ⟨#[120]⟩⟩, e.col⟩, t2, ok2, by simp, ?_⟩
    refine hcallN hT Tryz.func17 Tryz.ntmps17 [.tmp 4] fun B => ?_
    repeat' (first | refine s_freeze 5 ?_ (hes := f5) | (with_reducible (first | refine k_seq ?_ | refine k_block ?_ | refine k_skip ?_ | refine k_ret ?_ | refine n_seq ?_ | refine n_block ?_ | refine r_seq ?_ | refine r_block ?_)) | refine s_reg ?_ | refine s_ifT ?_ | refine s_ifF ?_ | refine r_end ?_ | refine s_move ?_ | refine s_assign ?_ | refine s_int ?_ | refine s_loadAA ?_ (he' := (by first | exact hv1 | exact rfl)) | refine s_indexA ?_ | refine s_fieldA ?_ | refine s_callH [0] (hn1) ?_ | refine s_callH [0] (hn2) ?_ | refine s_lenD ?_ | refine s_lenA ?_ | refine s_appE ?_ | refine s_appA ?_ | refine s_storeA ?_ (hj := (by first | exact hv1 | exact rfl)) | refine s_bslice0 ?_ | refine s_bslice ?_ | refine s_build ?_ | refine s_sliceD ?_ | refine fh_ret1 def_nil ?_ ?_ | exact memIn_nil | refine memIn_same ?_ | exact am_same)
  · obtain ⟨v, t3, ok3, _, hn3⟩ := nextE_h t2 16 ok2 (by omega) (by omega)
    have f5 := setT_freeze (b := b) (i := i) ⟨(3 : Int) + v, Val.null, 0⟩
    refine ⟨b.set i ⟨(3 : Int) + v, Val.null, 0⟩, t3, ok3, by simp, ?_⟩
    refine hcallN hT Tryz.func17 Tryz.ntmps17 [.tmp 4] fun B => ?_
    repeat' (first | refine s_freeze 5 ?_ (hes := f5) | (with_reducible (first | refine k_seq ?_ | refine k_block ?_ | refine k_skip ?_ | refine k_ret ?_ | refine n_seq ?_ | refine n_block ?_ | refine r_seq ?_ | refine r_block ?_)) | refine s_reg ?_ | refine s_ifT ?_ | refine s_ifF ?_ | refine r_end ?_ | refine s_move ?_ | refine s_assign ?_ | refine s_int ?_ | refine s_loadAA ?_ (he' := (by first | exact hv1 | exact rfl)) | refine s_indexA ?_ | refine s_fieldA ?_ | refine s_callH [0] (hn1) ?_ | refine s_callH [0] (hn2) ?_ | refine s_callH [0] (hn3) ?_ | refine s_lenD ?_ | refine s_lenA ?_ | refine s_appE ?_ | refine s_appA ?_ | refine s_storeA ?_ (hj := (by first | exact hv1 | exact rfl)) | refine s_bslice0 ?_ | refine s_bslice ?_ | refine s_build ?_ | refine s_sliceD ?_ | refine fh_ret1 def_nil ?_ ?_ | exact memIn_nil | refine memIn_same ?_ | exact am_same)
end Go.Proofs.YtiidgbfdghplhaaGreat
