/-
  The tape: rows.
-/
import Derived.Test.YtiidgbfdghplhaaGreatTab
section
namespace Go.Proofs.YtiidgbfdghplhaaGreat
open Go.Abs Go.RowKit
attribute [local irreducible] ARun kont MCall PCall HCall resVal SF CF CFs defersOk slotsIn memIn fin finM VLe
set_option linter.unusedSimpArgs false
set_option maxRecDepth 100000
set_option maxHeartbeats 4000000

def txts : List ByteArray := [⟨#[97]⟩, ⟨#[98]⟩, ⟨#[]⟩, ⟨#[97, 98]⟩, ⟨#[97, 32, 98]⟩, ⟨#[120, 0, 121]⟩, ⟨#[255, 34, 92]⟩, ⟨#[98, 32, 97, 32, 98]⟩, ⟨#[108, 111, 110, 103, 32, 116, 101, 120, 116, 32, 111, 102, 32, 116, 104, 105, 114, 116, 121, 45, 116, 119, 111, 32, 98, 121, 116, 101, 115, 32, 105, 116]⟩, ⟨#[66]⟩]
def sD (s : ByteArray) : List Dat := [.lit (.string s)]
def ints : List Int := [0, 1, 2, 3, -1, -2, 7, 100, 4294967296, -4294967296, 5, 4]
def Tape.text (t : Tape) : Val := Val.ofText (txts.getD (t.nx 10).toNat ⟨#[]⟩)
def Tape.int (t : Tape) : Val := Val.ofInt (ints.getD (t.nx 12).toNat 0)

theorem text_h (t : Tape) (ht : t.ok) : HCall Tryz.prog 69 [.c (.bp 0 0 0)] [(.box 0 [.d (numD (t).l), .d (.lit (.int .i64 (t).at_))])] (.agg (t.text.d.map .d)) [(.box 0 [.d (numD (t.go 10).l), .d (.lit (.int .i64 (t.go 10).at_))])] := by
  have hn := next_h t 10 ht (by omega) (by omega)
  obtain ⟨b1, b2⟩ := t.nx_bd 10
  have hv : txts[(t.nx 10).toNat]? = some (txts.getD (t.nx 10).toNat ⟨#[]⟩) := by
    rw [List.getD_eq_getElem?_getD, List.getElem?_eq_getElem (by simp [txts]; omega)]; rfl
  have hv1 : (txts.map sD)[(t.nx 10).toNat]? = some (sD (txts.getD (t.nx 10).toNat ⟨#[]⟩)) := by rw [List.getElem?_map, hv]; rfl
  have hr := refText_c (txts.getD (t.nx 10).toNat ⟨#[]⟩)
  change PCall _ _ _ (.v (.agg t.text.d)) at hr
  generalize txts.getD (t.nx 10).toNat ⟨#[]⟩ = s at hv hv1 hr
  generalize t.nx 10 = z at hn b1 b2 hv hv1
  generalize t.go 10 = t' at hn
  refine hcallN hT Tryz.func69 Tryz.ntmps69 [.cell 2 61] fun B => ?_
  repeat' (first | (with_reducible (first | refine k_seq ?_ | refine k_ret ?_ | refine n_seq ?_)) | refine s_reg ?_ | refine r_end ?_ | refine s_move ?_ | refine s_loadF1 ?_ | refine s_indexD ?_ (hel := (by first | exact idx_map hv1 (by omega) | exact hv1 | exact rfl)) | refine s_call (hr) ?_ | refine s_callH [0] (hn) ?_ | refine s_storeB ?_ | refine s_bslice ?_ | refine s_alloc ?_ | refine fh_cellG def_nil ?_ ?_ | exact memIn_nil | refine memIn_same ?_ | exact am_same)

theorem int_h (t : Tape) (ht : t.ok) : HCall Tryz.prog 70 [.c (.bp 0 0 0)] [(.box 0 [.d (numD (t).l), .d (.lit (.int .i64 (t).at_))])] (.agg (t.int.d.map .d)) [(.box 0 [.d (numD (t.go 12).l), .d (.lit (.int .i64 (t.go 12).at_))])] := by
  have hn := next_h t 12 ht (by omega) (by omega)
  obtain ⟨b1, b2⟩ := t.nx_bd 12
  have hv : ints[(t.nx 12).toNat]? = some (ints.getD (t.nx 12).toNat 0) := by
    rw [List.getD_eq_getElem?_getD, List.getElem?_eq_getElem (by simp [ints]; omega)]; rfl
  have hv1 : (ints.map iD)[(t.nx 12).toNat]? = some (iD (ints.getD (t.nx 12).toNat 0)) := by rw [List.getElem?_map, hv]; rfl
  have hr := refInt_c (ints.getD (t.nx 12).toNat 0)
  change PCall _ _ _ (.v (.agg t.int.d)) at hr
  generalize ints.getD (t.nx 12).toNat 0 = s at hv hv1 hr
  generalize t.nx 12 = z at hn b1 b2 hv hv1
  generalize t.go 12 = t' at hn
  refine hcallN hT Tryz.func70 Tryz.ntmps70 [.cell 2 61] fun B => ?_
  repeat' (first | (with_reducible (first | refine k_seq ?_ | refine k_ret ?_ | refine n_seq ?_)) | refine s_reg ?_ | refine r_end ?_ | refine s_move ?_ | refine s_loadF1 ?_ | refine s_indexD ?_ (hel := (by first | exact idx_map hv1 (by omega) | exact hv1 | exact rfl)) | refine s_call (hr) ?_ | refine s_callH [0] (hn) ?_ | refine s_storeB ?_ | refine s_bslice ?_ | refine s_alloc ?_ | refine fh_cellG def_nil ?_ ?_ | exact memIn_nil | refine memIn_same ?_ | exact am_same)

/-- A value, and the tape behind it. -/
def Tape.val (t : Tape) : Val × Tape :=
  if t.nx 5 = 0 then (Val.null, t.go 5)
  else if t.nx 5 = 1 ∨ t.nx 5 = 2 then ((t.go 5).text, (t.go 5).go 10)
  else ((t.go 5).int, (t.go 5).go 12)

end Go.Proofs.YtiidgbfdghplhaaGreat
end
section
namespace Go.Proofs.YtiidgbfdghplhaaGreat
open Go.Abs Go.RowKit
attribute [local irreducible] ARun kont MCall PCall HCall resVal SF CF CFs defersOk slotsIn memIn fin finM VLe
set_option linter.unusedSimpArgs false
set_option maxRecDepth 100000
set_option maxHeartbeats 4000000

def rowV (t : Tape) : Nat → List Val × Tape
  | 0 => ([], t)
  | j + 1 => ((rowV t j).1 ++ [(rowV t j).2.val.1], (rowV t j).2.val.2)
end Go.Proofs.YtiidgbfdghplhaaGreat
end
