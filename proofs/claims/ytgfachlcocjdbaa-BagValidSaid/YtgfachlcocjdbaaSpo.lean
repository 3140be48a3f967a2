/-
  The tape: values and rows.
-/
import Derived.Test.YtgfachlcocjdbaaTab
namespace Go.Proofs.Ytgfachlcocjdbaa
open Go.Abs Go.RowKit
attribute [local irreducible] ARun kont MCall PCall HCall resVal SF CF CFs defersOk slotsIn memIn fin finM VLe
set_option linter.unusedSimpArgs false
set_option maxRecDepth 100000
set_option maxHeartbeats 4000000

def txts : List ByteArray := [⟨#[97]⟩, ⟨#[98]⟩, ⟨#[]⟩, ⟨#[97, 98]⟩, ⟨#[97, 32, 98]⟩, ⟨#[120, 0, 121]⟩, ⟨#[255, 34, 92]⟩, ⟨#[98, 32, 97, 32, 98]⟩, ⟨#[108, 111, 110, 103, 32, 116, 101, 120, 116, 32, 111, 102, 32, 116, 104, 105, 114, 116, 121, 45, 116, 119, 111, 32, 98, 121, 116, 101, 115, 32, 105, 116]⟩, ⟨#[66]⟩]
def sD (s : ByteArray) : List Dat := [.lit (.string s)]
def ints : List Int := [0, 1, 2, 3, -1, -2, 7, 100, 4294967296, -4294967296, 5, 4]
def Tape.text (t : Tape) : Val := Val.ofText (txts.getD (t.nx 10).toNat ⟨#[]⟩)
def Tape.int (t : Tape) : Val := Val.ofInt (ints.getD (t.nx 12).toNat 0)

theorem text_h (t : Tape) (ht : t.ok) : HCall Try.prog 79 [.c (.bp 0 0 0)] [(.box 0 [.d (numD (t).l), .d (.lit (.int .i64 (t).at_))])] (.agg (t.text.d.map .d)) [(.box 0 [.d (numD (t.go 10).l), .d (.lit (.int .i64 (t.go 10).at_))])] := by
  have hn := next_h t 10 ht (by omega) (by omega)
  obtain ⟨b1, b2⟩ := t.nx_bd 10
  have hv : txts[(t.nx 10).toNat]? = some (txts.getD (t.nx 10).toNat ⟨#[]⟩) := by
    rw [List.getD_eq_getElem?_getD, List.getElem?_eq_getElem (by simp [txts]; omega)]; rfl
  have hv1 : (txts.map sD)[(t.nx 10).toNat]? = some (sD (txts.getD (t.nx 10).toNat ⟨#[]⟩)) := by rw [List.getElem?_map, hv]; rfl
  have hr := refText_c (txts.getD (t.nx 10).toNat ⟨#[]⟩)
  change PCall _ _ _ (.v (.agg t.text.d)) at hr
  generalize txts.getD (t.nx 10).toNat ⟨#[]⟩ = s at hv hv1 hr
  generalize t.nx 10 = z at hn b1 b2 hv hv1
  generalize t.go 10 = t' at hn
  refine hcallN hT Try.func79 Try.ntmps79 [.cell 2 41] fun B => ?_
  repeat' (first | (with_reducible (first | refine k_seq ?_ | refine k_ret ?_ | refine n_seq ?_)) | refine s_reg ?_ | refine r_end ?_ | refine s_move ?_ | refine s_loadF1 ?_ | refine s_indexD ?_ (hel := (by first | exact idx_map hv1 (by omega) | exact hv1 | exact rfl)) | refine s_call (hr) ?_ | refine s_callH [0] (hn) ?_ | refine s_storeB ?_ | refine s_bslice ?_ | refine s_alloc ?_ | refine fh_cellG def_nil ?_ ?_ | exact memIn_nil | refine memIn_same ?_ | exact am_same)

theorem int_h (t : Tape) (ht : t.ok) : HCall Try.prog 80 [.c (.bp 0 0 0)] [(.box 0 [.d (numD (t).l), .d (.lit (.int .i64 (t).at_))])] (.agg (t.int.d.map .d)) [(.box 0 [.d (numD (t.go 12).l), .d (.lit (.int .i64 (t.go 12).at_))])] := by
  have hn := next_h t 12 ht (by omega) (by omega)
  obtain ⟨b1, b2⟩ := t.nx_bd 12
  have hv : ints[(t.nx 12).toNat]? = some (ints.getD (t.nx 12).toNat 0) := by
    rw [List.getD_eq_getElem?_getD, List.getElem?_eq_getElem (by simp [ints]; omega)]; rfl
  have hv1 : (ints.map iD)[(t.nx 12).toNat]? = some (iD (ints.getD (t.nx 12).toNat 0)) := by rw [List.getElem?_map, hv]; rfl
  have hr := refInt_c (ints.getD (t.nx 12).toNat 0)
  change PCall _ _ _ (.v (.agg t.int.d)) at hr
  generalize ints.getD (t.nx 12).toNat 0 = s at hv hv1 hr
  generalize t.nx 12 = z at hn b1 b2 hv hv1
  generalize t.go 12 = t' at hn
  refine hcallN hT Try.func80 Try.ntmps80 [.cell 2 41] fun B => ?_
  repeat' (first | (with_reducible (first | refine k_seq ?_ | refine k_ret ?_ | refine n_seq ?_)) | refine s_reg ?_ | refine r_end ?_ | refine s_move ?_ | refine s_loadF1 ?_ | refine s_indexD ?_ (hel := (by first | exact idx_map hv1 (by omega) | exact hv1 | exact rfl)) | refine s_call (hr) ?_ | refine s_callH [0] (hn) ?_ | refine s_storeB ?_ | refine s_bslice ?_ | refine s_alloc ?_ | refine fh_cellG def_nil ?_ ?_ | exact memIn_nil | refine memIn_same ?_ | exact am_same)

/-- A value, and the tape behind it. -/
def Tape.val (t : Tape) : Val × Tape :=
  if t.nx 5 = 0 then (Val.null, t.go 5)
  else if t.nx 5 = 1 ∨ t.nx 5 = 2 then ((t.go 5).text, (t.go 5).go 10)
  else ((t.go 5).int, (t.go 5).go 12)

theorem value_h (t : Tape) (ht : t.ok) : HCall Try.prog 55 [.c (.bp 0 0 0)] [(.box 0 [.d (numD (t).l), .d (.lit (.int .i64 (t).at_))])] (.agg (t.val.1.d.map .d)) [(.box 0 [.d (numD (t.val.2).l), .d (.lit (.int .i64 (t.val.2).at_))])] := by
  have hn := next_h t 5 ht (by omega) (by omega)
  obtain ⟨b1, b2⟩ := t.nx_bd 5
  have h1 := text_h (t.go 5) (ht.go 5)
  have h2 := int_h (t.go 5) (ht.go 5)
  by_cases hz : t.nx 5 = 0
  · have e : t.val = (Val.null, t.go 5) := if_pos hz
    rw [e]
    rw [hz] at hn
    generalize t.go 5 = t' at hn
    refine hcallN hT Try.func55 Try.ntmps55 [.cell 2 41] fun B => ?_
    repeat' (first | (with_reducible (first | refine k_seq ?_ | refine k_block ?_ | refine k_skip ?_ | refine k_ret ?_ | refine n_seq ?_ | refine n_block ?_ | refine r_seq ?_ | refine r_block ?_)) | refine s_reg ?_ | refine s_ifT ?_ | refine s_ifF ?_ | refine s_if rfl (fun hb => ?_) (fun hb => ?_) | refine r_end ?_ | refine s_move ?_ | refine s_assign ?_ | refine s_int ?_ | refine s_callH [0] (hn) ?_ | refine s_storeB ?_ | refine s_alloc ?_ | refine s_build ?_ | refine fh_cellG def_nil ?_ ?_ | exact memIn_nil | refine memIn_same ?_ | exact am_same)
  · by_cases ho : t.nx 5 = 1 ∨ t.nx 5 = 2
    · have e : t.val = ((t.go 5).text, (t.go 5).go 10) := by rw [Tape.val, if_neg hz, if_pos ho]
      rw [e]
      generalize t.nx 5 = z at hn hz ho b1 b2
      generalize t.go 5 = t' at hn h1
      refine hcallN hT Try.func55 Try.ntmps55 [.cell 2 41] fun B => ?_
      repeat' (first | (with_reducible (first | refine k_seq ?_ | refine k_block ?_ | refine k_skip ?_ | refine k_ret ?_ | refine n_seq ?_ | refine n_block ?_ | refine r_seq ?_ | refine r_block ?_)) | refine s_reg ?_ | refine s_ifT ?_ | refine s_ifF ?_ | refine s_if rfl (fun hb => ?_) (fun hb => ?_) | refine r_end ?_ | refine s_move ?_ | refine s_assign ?_ | refine s_int ?_ | refine s_callH [0] (hn) ?_ | refine s_callH [0] (h1) ?_ | refine s_storeB ?_ | refine s_alloc ?_ | refine s_build ?_ | refine fh_cellG def_nil ?_ ?_ | exact memIn_nil | refine memIn_same ?_ | exact am_same)
    · have e : t.val = ((t.go 5).int, (t.go 5).go 12) := by rw [Tape.val, if_neg hz, if_neg ho]
      rw [e]
      generalize t.nx 5 = z at hn hz ho b1 b2
      generalize t.go 5 = t' at hn h2
      refine hcallN hT Try.func55 Try.ntmps55 [.cell 2 41] fun B => ?_
      repeat' (first | (with_reducible (first | refine k_seq ?_ | refine k_block ?_ | refine k_skip ?_ | refine k_ret ?_ | refine n_seq ?_ | refine n_block ?_ | refine r_seq ?_ | refine r_block ?_)) | refine s_reg ?_ | refine s_ifT ?_ | refine s_ifF ?_ | refine s_if rfl (fun hb => ?_) (fun hb => ?_) | refine r_end ?_ | refine s_move ?_ | refine s_assign ?_ | refine s_int ?_ | refine s_callH [0] (hn) ?_ | refine s_callH [0] (h2) ?_ | refine s_storeB ?_ | refine s_alloc ?_ | refine s_build ?_ | refine fh_cellG def_nil ?_ ?_ | exact memIn_nil | refine memIn_same ?_ | exact am_same)
end Go.Proofs.Ytgfachlcocjdbaa
