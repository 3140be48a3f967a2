/-
  The tape: values and rows.
-/
import Derived.Test.YtgfachlcocjdbaaTab
namespace Go.Proofs.Ytgfachlcocjdbaa
open Go.Abs Go.RowKit
attribute [local irreducible] ARun kont MCall PCall HCall resVal SF CF CFs defersOk slotsIn memIn fin finM VLe
set_option linter.unusedSimpArgs false
set_option maxRecDepth 100000
set_option maxHeartbeats 4000000

def txts : List ByteArray := [⟨#[97]⟩, ⟨#[98]⟩, ⟨#[]⟩, ⟨#[97, 98]⟩, ⟨#[97, 32, 98]⟩, ⟨#[120, 0, 121]⟩, ⟨#[255, 34, 92]⟩, ⟨#[98, 32, 97, 32, 98]⟩, ⟨#[108, 111, 110, 103, 32, 116, 101, 120, 116, 32, 111, 102, 32, 116, 104, 105, 114, 116, 121, 45, 116, 119, 111, 32, 98, 121, 116, 101, 115, 32, 105, 116]⟩, ⟨#[66]⟩]
def sD (s : ByteArray) : List Dat := [.lit (.string s)]
def ints : List Int := [0, 1, 2, 3, -1, -2, 7, 100, 4294967296, -4294967296, 5, 4]
def Tape.text (t : Tape) : Val := Val.ofText (txts.getD (t.nx 10).toNat ⟨#[]⟩)
def Tape.int (t : Tape) : Val := Val.ofInt (ints.getD (t.nx 12).toNat 0)

theorem text_h (t : Tape) (ht : t.ok) : HCall Try.prog 79 [.c (.bp 0 0 0)] [(.box 0 [.d (numD (t).l), .d (.lit (.int .i64 (t).at_))])] (.agg (t.text.d.map .d)) [(.box 0 [.d (numD (t.go 10).l), .d (.lit (.int .i64 (t.go 10).at_))])] := by
  have hn := next_h t 10 ht (by omega) (by omega)
  obtain ⟨b1, b2⟩ := t.nx_bd 10
  have hv : txts[(t.nx 10).toNat]? = some (txts.getD (t.nx 10).toNat ⟨#[]⟩) := by
    rw [List.getD_eq_getElem?_getD, List.getElem?_eq_getElem (by simp [txts]; omega)]; rfl
  have hv1 : (txts.map sD)[(t.nx 10).toNat]? = some (sD (txts.getD (t.nx 10).toNat ⟨#[]⟩)) := by rw [List.getElem?_map, hv]; rfl
  have hr := refText_c (txts.getD (t.nx 10).toNat ⟨#[]⟩)
  change PCall _ _ _ (.v (.agg t.text.d)) at hr
  generalize txts.getD (t.nx 10).toNat ⟨#[]⟩ = s at hv hv1 hr
  generalize t.nx 10 = z at hn b1 b2 hv hv1
  generalize t.go 10 = t' at hn
  refine hcallS hT Try.func79 rfl (by kernel_rfl) _ [.cell 2 41] Try.ntmps79 rfl rfl rfl (by repeat' (first | exact nfNil rfl | apply nfCons (a := ((_, SVal.c _) : Nat × SVal)) rfl | apply nfCons (a := ((_, SVal.agg _) : Nat × SVal)) rfl)) fun B => ?_
  repeat' (first | (with_reducible (first | refine k_seq ?_ | refine k_block ?_ | refine k_skip ?_ | refine k_exit ?_ | refine k_ret ?_ | refine n_seq ?_ | refine n_block ?_ | refine e_seq ?_ | refine e_here ?_ | refine r_seq ?_ | refine r_block ?_ | refine o_exit ?_ | refine o_ret ?_)) | ((with_reducible refine is_region ?_); refine s_reg ?_) | ((with_reducible refine is_cond ?_); first | refine s_ifT ?_ | refine s_ifF ?_ | refine s_if rfl (fun hb => ?_) (fun hb => ?_)) | ((with_reducible refine is_exit ?_); refine s_past ?_) | ((with_reducible refine is_end ?_); first | refine r_end ?_ | refine s_endD ?_) | ((with_reducible refine is_move ?_); (first | refine s_move ?_ | fail)) | ((with_reducible refine is_load ?_); (first | refine s_loadF1 ?_ | refine s_loadB1 ?_ | refine s_loadFA ?_ | refine s_loadBA ?_ | refine s_loadA1 ?_ (he' := (by first | exact rfl | exact hv1)) | refine s_loadAA ?_ (he' := (by first | exact rfl | exact hv1)) | fail)) | ((with_reducible refine is_index ?_); (first | refine s_indexD ?_ (hel := (by first | exact rfl | exact idx_map hv1 (by omega) | exact hv1)) | refine s_indexA ?_ | refine s_indexVF ?_ | refine s_indexVB ?_ | fail)) | ((with_reducible refine is_call ?_); (first | refine s_call (hr) ?_ | refine s_callH [0] (hn) ?_ | fail)) | ((with_reducible refine is_store ?_); (first | refine s_storeB ?_ | refine s_storeA ?_ (hj := (by first | exact rfl | exact hv1)) | fail)) | ((with_reducible refine is_bslice ?_); (first | refine s_bslice0 ?_ | refine s_bslice ?_ | fail)) | ((with_reducible refine is_alloc ?_); (first | refine s_alloc ?_ | fail)) | (((with_reducible refine is_finM ?_); refine fh_cellG def_nil ?_ ?_)) | ((with_reducible refine is_finM ?_); first | refine fh_ret0 def_nil ?_ | refine fh_end0 def_nil ?_ | refine fh_ret1 def_nil ?_ ?_ | refine fh_ret2 def_nil ?_ ?_ | refine fh_cell1 def_nil ?_ ?_) | ((with_reducible refine is_memIn ?_); first | exact memIn_nil | refine memIn_same ?_ | refine m1 ?_ ?_ | refine m2 ?_ ?_ | refine m3 ?_ ?_ ?_ ?_ | refine m4 ?_ ?_ | refine memIn_dead ?_) | ((with_reducible refine is_AM ?_); first | exact am_same | refine am_arr ?_ | refine am_d rfl ?_))

theorem int_h (t : Tape) (ht : t.ok) : HCall Try.prog 80 [.c (.bp 0 0 0)] [(.box 0 [.d (numD (t).l), .d (.lit (.int .i64 (t).at_))])] (.agg (t.int.d.map .d)) [(.box 0 [.d (numD (t.go 12).l), .d (.lit (.int .i64 (t.go 12).at_))])] := by
  have hn := next_h t 12 ht (by omega) (by omega)
  obtain ⟨b1, b2⟩ := t.nx_bd 12
  have hv : ints[(t.nx 12).toNat]? = some (ints.getD (t.nx 12).toNat 0) := by
    rw [List.getD_eq_getElem?_getD, List.getElem?_eq_getElem (by simp [ints]; omega)]; rfl
  have hv1 : (ints.map iD)[(t.nx 12).toNat]? = some (iD (ints.getD (t.nx 12).toNat 0)) := by rw [List.getElem?_map, hv]; rfl
  have hr := refInt_c (ints.getD (t.nx 12).toNat 0)
  change PCall _ _ _ (.v (.agg t.int.d)) at hr
  generalize ints.getD (t.nx 12).toNat 0 = s at hv hv1 hr
  generalize t.nx 12 = z at hn b1 b2 hv hv1
  generalize t.go 12 = t' at hn
  refine hcallS hT Try.func80 rfl (by kernel_rfl) _ [.cell 2 41] Try.ntmps80 rfl rfl rfl (by repeat' (first | exact nfNil rfl | apply nfCons (a := ((_, SVal.c _) : Nat × SVal)) rfl | apply nfCons (a := ((_, SVal.agg _) : Nat × SVal)) rfl)) fun B => ?_
  repeat' (first | (with_reducible (first | refine k_seq ?_ | refine k_block ?_ | refine k_skip ?_ | refine k_exit ?_ | refine k_ret ?_ | refine n_seq ?_ | refine n_block ?_ | refine e_seq ?_ | refine e_here ?_ | refine r_seq ?_ | refine r_block ?_ | refine o_exit ?_ | refine o_ret ?_)) | ((with_reducible refine is_region ?_); refine s_reg ?_) | ((with_reducible refine is_cond ?_); first | refine s_ifT ?_ | refine s_ifF ?_ | refine s_if rfl (fun hb => ?_) (fun hb => ?_)) | ((with_reducible refine is_exit ?_); refine s_past ?_) | ((with_reducible refine is_end ?_); first | refine r_end ?_ | refine s_endD ?_) | ((with_reducible refine is_move ?_); (first | refine s_move ?_ | fail)) | ((with_reducible refine is_load ?_); (first | refine s_loadF1 ?_ | refine s_loadB1 ?_ | refine s_loadFA ?_ | refine s_loadBA ?_ | refine s_loadA1 ?_ (he' := (by first | exact rfl | exact hv1)) | refine s_loadAA ?_ (he' := (by first | exact rfl | exact hv1)) | fail)) | ((with_reducible refine is_index ?_); (first | refine s_indexD ?_ (hel := (by first | exact rfl | exact idx_map hv1 (by omega) | exact hv1)) | refine s_indexA ?_ | refine s_indexVF ?_ | refine s_indexVB ?_ | fail)) | ((with_reducible refine is_call ?_); (first | refine s_call (hr) ?_ | refine s_callH [0] (hn) ?_ | fail)) | ((with_reducible refine is_store ?_); (first | refine s_storeB ?_ | refine s_storeA ?_ (hj := (by first | exact rfl | exact hv1)) | fail)) | ((with_reducible refine is_bslice ?_); (first | refine s_bslice0 ?_ | refine s_bslice ?_ | fail)) | ((with_reducible refine is_alloc ?_); (first | refine s_alloc ?_ | fail)) | (((with_reducible refine is_finM ?_); refine fh_cellG def_nil ?_ ?_)) | ((with_reducible refine is_finM ?_); first | refine fh_ret0 def_nil ?_ | refine fh_end0 def_nil ?_ | refine fh_ret1 def_nil ?_ ?_ | refine fh_ret2 def_nil ?_ ?_ | refine fh_cell1 def_nil ?_ ?_) | ((with_reducible refine is_memIn ?_); first | exact memIn_nil | refine memIn_same ?_ | refine m1 ?_ ?_ | refine m2 ?_ ?_ | refine m3 ?_ ?_ ?_ ?_ | refine m4 ?_ ?_ | refine memIn_dead ?_) | ((with_reducible refine is_AM ?_); first | exact am_same | refine am_arr ?_ | refine am_d rfl ?_))

/-- A value, and the tape behind it. -/
def Tape.val (t : Tape) : Val × Tape :=
  if t.nx 5 = 0 then (Val.null, t.go 5)
  else if t.nx 5 = 1 ∨ t.nx 5 = 2 then ((t.go 5).text, (t.go 5).go 10)
  else ((t.go 5).int, (t.go 5).go 12)

theorem value_h (t : Tape) (ht : t.ok) : HCall Try.prog 55 [.c (.bp 0 0 0)] [(.box 0 [.d (numD (t).l), .d (.lit (.int .i64 (t).at_))])] (.agg (t.val.1.d.map .d)) [(.box 0 [.d (numD (t.val.2).l), .d (.lit (.int .i64 (t.val.2).at_))])] := by
  have hn := next_h t 5 ht (by omega) (by omega)
  obtain ⟨b1, b2⟩ := t.nx_bd 5
  have h1 := text_h (t.go 5) (ht.go 5)
  have h2 := int_h (t.go 5) (ht.go 5)
  by_cases hz : t.nx 5 = 0
  · have e : t.val = (Val.null, t.go 5) := if_pos hz
    rw [e]
    rw [hz] at hn
    generalize t.go 5 = t' at hn
    refine hcallS hT Try.func55 rfl (by kernel_rfl) _ [.cell 2 41] Try.ntmps55 rfl rfl rfl (by repeat' (first | exact nfNil rfl | apply nfCons (a := ((_, SVal.c _) : Nat × SVal)) rfl | apply nfCons (a := ((_, SVal.agg _) : Nat × SVal)) rfl)) fun B => ?_
    repeat' (first | (with_reducible (first | refine k_seq ?_ | refine k_block ?_ | refine k_skip ?_ | refine k_exit ?_ | refine k_ret ?_ | refine n_seq ?_ | refine n_block ?_ | refine e_seq ?_ | refine e_here ?_ | refine r_seq ?_ | refine r_block ?_ | refine o_exit ?_ | refine o_ret ?_)) | ((with_reducible refine is_region ?_); refine s_reg ?_) | ((with_reducible refine is_cond ?_); first | refine s_ifT ?_ | refine s_ifF ?_ | refine s_if rfl (fun hb => ?_) (fun hb => ?_)) | ((with_reducible refine is_exit ?_); refine s_past ?_) | ((with_reducible refine is_end ?_); first | refine r_end ?_ | refine s_endD ?_) | ((with_reducible refine is_move ?_); (first | refine s_move ?_ | fail)) | ((with_reducible refine is_assign ?_); (first | refine s_assign ?_ | fail)) | ((with_reducible refine is_bin ?_); (first | refine s_int ?_ | refine s_str ?_ | refine s_eqB ?_ | refine s_neB ?_ | refine s_eqA ?_ | refine s_neA ?_ | refine s_shr ?_ | refine s_shl ?_ | refine s_or ?_ | refine s_xor ?_ | refine s_eqNil (fun b hnil => ?_) | fail)) | ((with_reducible refine is_call ?_); (first | refine s_callH [0] (hn) ?_ | fail)) | ((with_reducible refine is_store ?_); (first | refine s_storeB ?_ | fail)) | ((with_reducible refine is_alloc ?_); (first | refine s_alloc ?_ | fail)) | ((with_reducible refine is_build ?_); (first | refine s_build ?_ | fail)) | (((with_reducible refine is_finM ?_); refine fh_cellG def_nil ?_ ?_)) | ((with_reducible refine is_finM ?_); first | refine fh_ret0 def_nil ?_ | refine fh_end0 def_nil ?_ | refine fh_ret1 def_nil ?_ ?_ | refine fh_ret2 def_nil ?_ ?_ | refine fh_cell1 def_nil ?_ ?_) | ((with_reducible refine is_memIn ?_); first | exact memIn_nil | refine memIn_same ?_ | refine m1 ?_ ?_ | refine m2 ?_ ?_ | refine m3 ?_ ?_ ?_ ?_ | refine m4 ?_ ?_ | refine memIn_dead ?_) | ((with_reducible refine is_AM ?_); first | exact am_same | refine am_arr ?_ | refine am_d rfl ?_))
  · by_cases ho : t.nx 5 = 1 ∨ t.nx 5 = 2
    · have e : t.val = ((t.go 5).text, (t.go 5).go 10) := by rw [Tape.val, if_neg hz, if_pos ho]
      rw [e]
      generalize t.nx 5 = z at hn hz ho b1 b2
      generalize t.go 5 = t' at hn h1
      refine hcallS hT Try.func55 rfl (by kernel_rfl) _ [.cell 2 41] Try.ntmps55 rfl rfl rfl (by repeat' (first | exact nfNil rfl | apply nfCons (a := ((_, SVal.c _) : Nat × SVal)) rfl | apply nfCons (a := ((_, SVal.agg _) : Nat × SVal)) rfl)) fun B => ?_
      repeat' (first | (with_reducible (first | refine k_seq ?_ | refine k_block ?_ | refine k_skip ?_ | refine k_exit ?_ | refine k_ret ?_ | refine n_seq ?_ | refine n_block ?_ | refine e_seq ?_ | refine e_here ?_ | refine r_seq ?_ | refine r_block ?_ | refine o_exit ?_ | refine o_ret ?_)) | ((with_reducible refine is_region ?_); refine s_reg ?_) | ((with_reducible refine is_cond ?_); first | refine s_ifT ?_ | refine s_ifF ?_ | refine s_if rfl (fun hb => ?_) (fun hb => ?_)) | ((with_reducible refine is_exit ?_); refine s_past ?_) | ((with_reducible refine is_end ?_); first | refine r_end ?_ | refine s_endD ?_) | ((with_reducible refine is_move ?_); (first | refine s_move ?_ | fail)) | ((with_reducible refine is_assign ?_); (first | refine s_assign ?_ | fail)) | ((with_reducible refine is_bin ?_); (first | refine s_int ?_ | refine s_str ?_ | refine s_eqB ?_ | refine s_neB ?_ | refine s_eqA ?_ | refine s_neA ?_ | refine s_shr ?_ | refine s_shl ?_ | refine s_or ?_ | refine s_xor ?_ | refine s_eqNil (fun b hnil => ?_) | fail)) | ((with_reducible refine is_call ?_); (first | refine s_callH [0] (hn) ?_ | refine s_callH [0] (h1) ?_ | fail)) | ((with_reducible refine is_store ?_); (first | refine s_storeB ?_ | fail)) | ((with_reducible refine is_alloc ?_); (first | refine s_alloc ?_ | fail)) | ((with_reducible refine is_build ?_); (first | refine s_build ?_ | fail)) | (((with_reducible refine is_finM ?_); refine fh_cellG def_nil ?_ ?_)) | ((with_reducible refine is_finM ?_); first | refine fh_ret0 def_nil ?_ | refine fh_end0 def_nil ?_ | refine fh_ret1 def_nil ?_ ?_ | refine fh_ret2 def_nil ?_ ?_ | refine fh_cell1 def_nil ?_ ?_) | ((with_reducible refine is_memIn ?_); first | exact memIn_nil | refine memIn_same ?_ | refine m1 ?_ ?_ | refine m2 ?_ ?_ | refine m3 ?_ ?_ ?_ ?_ | refine m4 ?_ ?_ | refine memIn_dead ?_) | ((with_reducible refine is_AM ?_); first | exact am_same | refine am_arr ?_ | refine am_d rfl ?_))
    · have e : t.val = ((t.go 5).int, (t.go 5).go 12) := by rw [Tape.val, if_neg hz, if_neg ho]
      rw [e]
      generalize t.nx 5 = z at hn hz ho b1 b2
      generalize t.go 5 = t' at hn h2
      refine hcallS hT Try.func55 rfl (by kernel_rfl) _ [.cell 2 41] Try.ntmps55 rfl rfl rfl (by repeat' (first | exact nfNil rfl | apply nfCons (a := ((_, SVal.c _) : Nat × SVal)) rfl | apply nfCons (a := ((_, SVal.agg _) : Nat × SVal)) rfl)) fun B => ?_
      repeat' (first | (with_reducible (first | refine k_seq ?_ | refine k_block ?_ | refine k_skip ?_ | refine k_exit ?_ | refine k_ret ?_ | refine n_seq ?_ | refine n_block ?_ | refine e_seq ?_ | refine e_here ?_ | refine r_seq ?_ | refine r_block ?_ | refine o_exit ?_ | refine o_ret ?_)) | ((with_reducible refine is_region ?_); refine s_reg ?_) | ((with_reducible refine is_cond ?_); first | refine s_ifT ?_ | refine s_ifF ?_ | refine s_if rfl (fun hb => ?_) (fun hb => ?_)) | ((with_reducible refine is_exit ?_); refine s_past ?_) | ((with_reducible refine is_end ?_); first | refine r_end ?_ | refine s_endD ?_) | ((with_reducible refine is_move ?_); (first | refine s_move ?_ | fail)) | ((with_reducible refine is_assign ?_); (first | refine s_assign ?_ | fail)) | ((with_reducible refine is_bin ?_); (first | refine s_int ?_ | refine s_str ?_ | refine s_eqB ?_ | refine s_neB ?_ | refine s_eqA ?_ | refine s_neA ?_ | refine s_shr ?_ | refine s_shl ?_ | refine s_or ?_ | refine s_xor ?_ | refine s_eqNil (fun b hnil => ?_) | fail)) | ((with_reducible refine is_call ?_); (first | refine s_callH [0] (hn) ?_ | refine s_callH [0] (h2) ?_ | fail)) | ((with_reducible refine is_store ?_); (first | refine s_storeB ?_ | fail)) | ((with_reducible refine is_alloc ?_); (first | refine s_alloc ?_ | fail)) | ((with_reducible refine is_build ?_); (first | refine s_build ?_ | fail)) | (((with_reducible refine is_finM ?_); refine fh_cellG def_nil ?_ ?_)) | ((with_reducible refine is_finM ?_); first | refine fh_ret0 def_nil ?_ | refine fh_end0 def_nil ?_ | refine fh_ret1 def_nil ?_ ?_ | refine fh_ret2 def_nil ?_ ?_ | refine fh_cell1 def_nil ?_ ?_) | ((with_reducible refine is_memIn ?_); first | exact memIn_nil | refine memIn_same ?_ | refine m1 ?_ ?_ | refine m2 ?_ ?_ | refine m3 ?_ ?_ ?_ ?_ | refine m4 ?_ ?_ | refine memIn_dead ?_) | ((with_reducible refine is_AM ?_); first | exact am_same | refine am_arr ?_ | refine am_d rfl ?_))
end Go.Proofs.Ytgfachlcocjdbaa
