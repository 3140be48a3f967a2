/-
  Expressions: the document's operators, put together.
-/
import Derived.Test.YtojfhaoleedmkaaGreatExi
namespace Go.Proofs.YtojfhaoleedmkaaGreat
open Go.Abs Go.RowKit
attribute [local irreducible] ARun kont MCall PCall HCall resVal SF CF CFs defersOk slotsIn memIn fin finM VLe
set_option linter.unusedSimpArgs false
set_option maxRecDepth 100000
set_option maxHeartbeats 4000000
def numsE (op a b : Int) : Val := if op = 4 then Val.ofInt (a + b) else if op = 5 then Val.ofInt (a - b) else if op = 6 then Val.ofInt (a * b) else quotE a b
theorem refNumbers_c (op a b : Int) (hop : op = 4 ∨ op = 5 ∨ op = 6 ∨ op = 7) (ha : -4294967296 ≤ a ∧ a ≤ 4294967296) (hb : -4294967296 ≤ b ∧ b ≤ 4294967296) : PCall Tryz.prog 217 [.one (.lit (.int .i64 op)), .one (.lit (.int .i64 a)), .one (.lit (.int .i64 b))] (.v (.agg (numsE op a b).d)) := by
  have h1 := refProduct_c a b ha hb
  have h2 := refQuotient_c a b ha
  unfold numsE
  rcases hop with rfl | rfl | rfl | rfl
  · refine pcallN hT Tryz.func217 Tryz.ntmps217 [.cell 6 53] fun B => ?_
    repeat' (first | refine ks ?_ | refine ko ?_ | refine s_call (refInt_c _) ?_ | refine f_ret1 def_nil ?_ | refine t_cellG ?_ | exact cfs_nil | refine cfs_cons ?_ ?_ | refine cf_d ?_)
    all_goals rfl
  · refine pcallN hT Tryz.func217 Tryz.ntmps217 [.cell 6 53] fun B => ?_
    repeat' (first | refine ks ?_ | refine ko ?_ | refine s_call (refInt_c _) ?_ | refine f_ret1 def_nil ?_ | refine t_cellG ?_ | exact cfs_nil | refine cfs_cons ?_ ?_ | refine cf_d ?_)
    all_goals rfl
  · refine pcallN hT Tryz.func217 Tryz.ntmps217 [.cell 6 53] fun B => ?_
    repeat' (first | refine ks ?_ | refine ko ?_ | refine s_call (h1) ?_ | refine f_ret1 def_nil ?_ | refine t_cellG ?_ | exact cfs_nil | refine cfs_cons ?_ ?_ | refine cf_d ?_)
    all_goals rfl
  · refine pcallN hT Tryz.func217 Tryz.ntmps217 [.cell 6 53] fun B => ?_
    repeat' (first | refine ks ?_ | refine ko ?_ | refine s_call (h2) ?_ | refine f_ret1 def_nil ?_ | refine t_cellG ?_ | exact cfs_nil | refine cfs_cons ?_ ?_ | refine cf_d ?_)
    all_goals rfl
theorem int_bd {a : Val} (ha : a.valid = true) (k : a.kind = 1) : -4294967296 ≤ a.int ∧ a.int ≤ 4294967296 := by
  rcases valid_kinds ha with h | h | h
  · omega
  · exact ⟨h.2.1, h.2.2.1⟩
  · omega
theorem txt_bd {a : Val} (ha : a.valid = true) (k : a.kind = 2) : a.text.size ≤ 32 := by
  rcases valid_kinds ha with h | h | h
  · omega
  · omega
  · exact h.2.1
theorem strictN_c (op : Int) (hop : op = 4 ∨ op = 5 ∨ op = 6 ∨ op = 7) (a b : Val) (va : a.valid = true) (vb : b.valid = true) : PCall Tryz.prog 190 [.one (.lit (.int .i64 op)), .one (rowD [a, b])] (.v (.agg (arE op a b).d)) := by
  by_cases ka : a.kind = 1
  · by_cases kb : b.kind = 1
    · have h1 := refNumbers_c op a.int b.int hop (int_bd va ka) (int_bd vb kb)
      rw [show arE op a b = numsE op a.int b.int by rw [arE, if_neg (by omega), if_neg (by omega), if_neg (by omega)]; rfl]
      refine pcallN hT Tryz.func190 Tryz.ntmps190 [.cell 4 53] fun B => ?_
      repeat' (first | refine ks ?_ | refine ko ?_ | refine s_if rfl (fun hb => ?_) (fun hb => ?_) | refine s_indexD ?_ (hel := (by first | exact rfl)) | refine s_call (h1) ?_ | refine s_kT ?_ | refine s_kF ?_ | refine f_ret1 def_nil ?_ | refine t_cellG ?_ | exact cfs_nil | refine cfs_cons ?_ ?_ | refine cf_d ?_)
      all_goals rfl
    · rw [show arE op a b = Val.null from if_pos (.inr kb)]
      refine pcallN hT Tryz.func190 Tryz.ntmps190 [.cell 4 53] fun B => ?_
      repeat' (first | refine ks ?_ | refine ko ?_ | refine s_if rfl (fun hb => ?_) (fun hb => ?_) | refine s_indexD ?_ (hel := (by first | exact rfl)) | refine s_kT ?_ | refine s_kF ?_ | refine f_ret1 def_nil ?_ | refine t_cellG ?_ | exact cfs_nil | refine cfs_cons ?_ ?_ | refine cf_d ?_)
      all_goals rfl
  · rw [show arE op a b = Val.null from if_pos (.inl ka)]
    refine pcallN hT Tryz.func190 Tryz.ntmps190 [.cell 4 53] fun B => ?_
    repeat' (first | refine ks ?_ | refine ko ?_ | refine s_if rfl (fun hb => ?_) (fun hb => ?_) | refine s_indexD ?_ (hel := (by first | exact rfl)) | refine s_kT ?_ | refine s_kF ?_ | refine f_ret1 def_nil ?_ | refine t_cellG ?_ | exact cfs_nil | refine cfs_cons ?_ ?_ | refine cf_d ?_)
    all_goals rfl
theorem strict3_c (a : Val) (va : a.valid = true) : PCall Tryz.prog 190 [.one (.lit (.int .i64 3)), .one (rowD [a])] (.v (.agg (arE 3 a a).d)) := by
  by_cases ka : a.kind = 1
  · have := int_bd va ka
    rw [show arE 3 a a = Val.ofInt (-a.int) by rw [arE, if_neg (by omega), if_pos rfl]]
    refine pcallN hT Tryz.func190 Tryz.ntmps190 [.cell 4 53] fun B => ?_
    repeat' (first | refine ks ?_ | refine ko ?_ | refine s_indexD ?_ (hel := (by first | exact rfl)) | refine s_call (refInt_c _) ?_ | refine f_ret1 def_nil ?_ | refine t_cellG ?_ | exact cfs_nil | refine cfs_cons ?_ ?_ | refine cf_d ?_)
    all_goals rfl
  · rw [show arE 3 a a = Val.null from if_pos (.inl ka)]
    refine pcallN hT Tryz.func190 Tryz.ntmps190 [.cell 4 53] fun B => ?_
    repeat' (first | refine ks ?_ | refine ko ?_ | refine s_indexD ?_ (hel := (by first | exact rfl)) | refine f_ret1 def_nil ?_ | refine t_cellG ?_ | exact cfs_nil | refine cfs_cons ?_ ?_ | refine cf_d ?_)
    all_goals rfl
theorem strict13_c (a : Val) : PCall Tryz.prog 190 [.one (.lit (.int .i64 13)), .one (rowD [a])] (.v (.agg (arE 13 a a).d)) := by
  by_cases ka : a.kind = 1
  · rw [show arE 13 a a = truthE (a.int == 0) by rw [arE, if_neg (by omega), if_neg (by omega), if_pos rfl, beq_dec]]
    refine pcallN hT Tryz.func190 Tryz.ntmps190 [.cell 4 53] fun B => ?_
    repeat' (first | refine ks ?_ | refine ko ?_ | refine s_indexD ?_ (hel := (by first | exact rfl)) | refine s_call (refBit_c _) ?_ | refine f_ret1 def_nil ?_ | refine t_cellG ?_ | exact cfs_nil | refine cfs_cons ?_ ?_ | refine cf_d ?_)
    all_goals rfl
  · rw [show arE 13 a a = Val.null from if_pos (.inl ka)]
    refine pcallN hT Tryz.func190 Tryz.ntmps190 [.cell 4 53] fun B => ?_
    repeat' (first | refine ks ?_ | refine ko ?_ | refine s_indexD ?_ (hel := (by first | exact rfl)) | refine f_ret1 def_nil ?_ | refine t_cellG ?_ | exact cfs_nil | refine cfs_cons ?_ ?_ | refine cf_d ?_)
    all_goals rfl
theorem strict8_c (a b : Val) (va : a.valid = true) (vb : b.valid = true) : PCall Tryz.prog 190 [.one (.lit (.int .i64 8)), .one (rowD [a, b])] (.v (.agg (txtE 8 a b).d)) := by
  by_cases ka : a.kind = 2
  · by_cases kb : b.kind = 2
    · have la := txt_bd va ka
      have lb := txt_bd vb kb
      rw [show txtE 8 a b = Val.ofText (a.text ++ b.text) by rw [txtE, if_neg (by omega), if_neg (by omega), if_pos ⟨rfl, kb⟩]]
      refine pcallN hT Tryz.func190 Tryz.ntmps190 [.cell 4 53] fun B => ?_
      repeat' (first | refine ks ?_ | refine ko ?_ | refine s_indexD ?_ (hel := (by first | exact rfl)) | refine s_call (refText_c _) ?_ | refine s_kT ?_ | refine s_kF ?_ | refine f_ret1 def_nil ?_ | refine t_cellG ?_ | exact cfs_nil | refine cfs_cons ?_ ?_ | refine cf_d ?_)
      all_goals rfl
    · rw [show txtE 8 a b = Val.null by rw [txtE, if_neg (by omega), if_neg (by omega), if_neg (fun q => kb q.2), if_neg (fun q => by omega)]]
      refine pcallN hT Tryz.func190 Tryz.ntmps190 [.cell 4 53] fun B => ?_
      repeat' (first | refine ks ?_ | refine ko ?_ | refine s_indexD ?_ (hel := (by first | exact rfl)) | refine s_kT ?_ | refine s_kF ?_ | refine f_ret1 def_nil ?_ | refine t_cellG ?_ | exact cfs_nil | refine cfs_cons ?_ ?_ | refine cf_d ?_)
      all_goals rfl
  · rw [show txtE 8 a b = Val.null from if_pos ka]
    refine pcallN hT Tryz.func190 Tryz.ntmps190 [.cell 4 53] fun B => ?_
    repeat' (first | refine ks ?_ | refine ko ?_ | refine s_indexD ?_ (hel := (by first | exact rfl)) | refine s_kT ?_ | refine s_kF ?_ | refine f_ret1 def_nil ?_ | refine t_cellG ?_ | exact cfs_nil | refine cfs_cons ?_ ?_ | refine cf_d ?_)
    all_goals rfl
theorem strict9_c (a b : Val) : PCall Tryz.prog 190 [.one (.lit (.int .i64 9)), .one (rowD [a])] (.v (.agg (txtE 9 a b).d)) := by
  by_cases ka : a.kind = 2
  · rw [show txtE 9 a b = Val.ofInt a.text.size by rw [txtE, if_neg (by omega), if_pos rfl]]
    refine pcallN hT Tryz.func190 Tryz.ntmps190 [.cell 4 53] fun B => ?_
    repeat' (first | refine ks ?_ | refine ko ?_ | refine s_indexD ?_ (hel := (by first | exact rfl)) | refine s_call (refInt_c _) ?_ | refine f_ret1 def_nil ?_ | refine t_cellG ?_ | exact cfs_nil | refine cfs_cons ?_ ?_ | refine cf_d ?_)
    all_goals rfl
  · rw [show txtE 9 a b = Val.null from if_pos ka]
    refine pcallN hT Tryz.func190 Tryz.ntmps190 [.cell 4 53] fun B => ?_
    repeat' (first | refine ks ?_ | refine ko ?_ | refine s_indexD ?_ (hel := (by first | exact rfl)) | refine f_ret1 def_nil ?_ | refine t_cellG ?_ | exact cfs_nil | refine cfs_cons ?_ ?_ | refine cf_d ?_)
    all_goals rfl
theorem strict10_c (a b : Val) : PCall Tryz.prog 190 [.one (.lit (.int .i64 10)), .one (rowD [a, b])] (.v (.agg (txtE 10 a b).d)) := by
  by_cases ka : a.kind = 2
  · by_cases kb : b.kind = 1 ∧ 0 ≤ b.int
    · obtain ⟨k1, k2⟩ := kb
      rw [show txtE 10 a b = Val.ofText (a.text.extract 0 (min b.int a.text.size).toNat) by rw [txtE, if_neg (by omega), if_neg (by omega), if_neg (fun q => by omega), if_pos ⟨rfl, k1, k2⟩]]
      have hm : (min b.int a.text.size).toNat ≤ a.text.size := by omega
      rw [show min b.int (a.text.size : Int) = (if (a.text.size : Int) < b.int then (a.text.size : Int) else b.int) by split <;> omega] at hm ⊢
      refine pcallN hT Tryz.func190 Tryz.ntmps190 [.cell 4 53] fun B => ?_
      repeat' (first | refine ks ?_ | refine ko ?_ | refine s_indexD ?_ (hel := (by first | exact rfl)) | refine s_call (refText_c _) ?_ | refine s_kT ?_ | refine s_kF ?_ | refine s_split rfl rfl (fun hb => ?_) (fun hb => ?_) | refine f_ret1 def_nil ?_ | refine t_cellG ?_ | exact cfs_nil | refine cfs_cons ?_ ?_ | refine cf_d ?_)
      all_goals rfl
    · rw [show txtE 10 a b = Val.null by rw [txtE, if_neg (by omega), if_neg (by omega), if_neg (fun q => by omega), if_neg (fun q => kb q.2)]]
      refine pcallN hT Tryz.func190 Tryz.ntmps190 [.cell 4 53] fun B => ?_
      repeat' (first | refine ks ?_ | refine ko ?_ | refine s_indexD ?_ (hel := (by first | exact rfl)) | refine s_kT ?_ | refine s_kF ?_ | refine s_split rfl rfl (fun hb => ?_) (fun hb => ?_) | refine f_ret1 def_nil ?_ | refine t_cellG ?_ | exact cfs_nil | refine cfs_cons ?_ ?_ | refine cf_d ?_)
      all_goals first | rfl | omega
  · rw [show txtE 10 a b = Val.null from if_pos ka]
    refine pcallN hT Tryz.func190 Tryz.ntmps190 [.cell 4 53] fun B => ?_
    repeat' (first | refine ks ?_ | refine ko ?_ | refine s_indexD ?_ (hel := (by first | exact rfl)) | refine s_kT ?_ | refine s_kF ?_ | refine s_split rfl rfl (fun hb => ?_) (fun hb => ?_) | refine f_ret1 def_nil ?_ | refine t_cellG ?_ | exact cfs_nil | refine cfs_cons ?_ ?_ | refine cf_d ?_)
    all_goals rfl
theorem strict11_c (a b : Val) (ka : a.kind ≠ 0) : PCall Tryz.prog 190 [.one (.lit (.int .i64 11)), .one (rowD [a, b])] (.v (.agg (cmpE 11 a b).d)) := by
  by_cases k : a.kind = b.kind
  · rw [show cmpE 11 a b = truthE (a.same b) by rw [cmpE, if_neg (by omega), if_pos rfl], ← litsV]
    refine pcallN hT Tryz.func190 Tryz.ntmps190 [.cell 4 53] fun B => ?_
    repeat' (first | refine ks ?_ | refine ko ?_ | refine s_indexD ?_ (hel := (by first | exact rfl)) | refine s_call (refBit_c _) ?_ | refine f_ret1 def_nil ?_ | refine t_cellG ?_ | exact cfs_nil | refine cfs_cons ?_ ?_ | refine cf_d ?_)
    all_goals rfl
  · rw [show cmpE 11 a b = Val.null from if_pos (.inr k)]
    refine pcallN hT Tryz.func190 Tryz.ntmps190 [.cell 4 53] fun B => ?_
    repeat' (first | refine ks ?_ | refine ko ?_ | refine s_indexD ?_ (hel := (by first | exact rfl)) | refine f_ret1 def_nil ?_ | refine t_cellG ?_ | exact cfs_nil | refine cfs_cons ?_ ?_ | refine cf_d ?_)
    all_goals rfl
theorem strict12_c (a b : Val) (ka : a.kind ≠ 0) : PCall Tryz.prog 190 [.one (.lit (.int .i64 12)), .one (rowD [a, b])] (.v (.agg (cmpE 12 a b).d)) := by
  have h1 := refCompare_c a b
  by_cases k : a.kind = b.kind
  · rw [show cmpE 12 a b = truthE (decide (a.cmp b < 0)) by rw [cmpE, if_neg (by omega), if_neg (by omega)]]
    refine pcallN hT Tryz.func190 Tryz.ntmps190 [.cell 4 53] fun B => ?_
    repeat' (first | refine ks ?_ | refine ko ?_ | refine s_indexD ?_ (hel := (by first | exact rfl)) | refine s_call (h1) ?_ | refine s_call (refBit_c _) ?_ | refine f_ret1 def_nil ?_ | refine t_cellG ?_ | exact cfs_nil | refine cfs_cons ?_ ?_ | refine cf_d ?_)
    all_goals rfl
  · rw [show cmpE 12 a b = Val.null from if_pos (.inr k)]
    refine pcallN hT Tryz.func190 Tryz.ntmps190 [.cell 4 53] fun B => ?_
    repeat' (first | refine ks ?_ | refine ko ?_ | refine s_indexD ?_ (hel := (by first | exact rfl)) | refine f_ret1 def_nil ?_ | refine t_cellG ?_ | exact cfs_nil | refine cfs_cons ?_ ?_ | refine cf_d ?_)
    all_goals rfl
theorem sameNull_iff {v : Val} (h : v.valid = true) : v.same Val.null = decide (v.kind = 0) := by
  rw [Bool.eq_iff_iff, same_iff, decide_eq_true_eq]
  constructor
  · intro e; rw [e]; rfl
  · intro e
    rcases valid_kinds h with q | q | q
    · exact q.2
    · omega
    · omega
theorem refApplyS_c (op : Int) (hop : 3 ≤ op ∧ op ≤ 13) (vs : List Val) (R : Val) (hs : (∀ v ∈ vs, v.kind ≠ 0) → PCall Tryz.prog 190 [.one (.lit (.int .i64 op)), .one (rowD vs)] (.v (.agg R.d)))
    (hn : (∃ v ∈ vs, v.kind = 0) → R = Val.null) (hv : ∀ v ∈ vs, v.valid = true) : PCall Tryz.prog 151 [.one (.lit (.int .i64 op)), .one (rowD vs)] (.v (.agg R.d)) := by
  refine pcallN hT Tryz.func151 Tryz.ntmps151 [.cell 4 53] fun B => ?_
  refine k_len 1 rfl fun hlr => ?_
  simp only [List.length_map, maxLen] at hlr
  repeat' (first | refine ks ?_ | refine ko ?_ | refine s_indexD ?_ (hel := (by first | exact rfl)) | refine f_ret1 def_nil ?_ | refine t_cellG ?_ | exact cfs_nil | refine cfs_cons ?_ ?_ | refine cf_d ?_)
  refine s_lp (X := Nat) [6, 56, 57, 58, 59, 60, 61, 62, 63, 64, 65, 66, 67, 68] (fun x => x ≤ vs.length ∧ ∀ (i : Nat) v, i < x → vs[i]? = some v → v.kind ≠ 0) (fun x lz => (6, (.c (.d (.lit (.int .i64 x))))) :: lz) (fun x => [.box 1 (Val.null.d.map .d), .box 2 (Val.null.d.map .d)]) (fun x => vs.length - x) (0) ?_ ?_ ?_ ?_
  repeat' (first | exact slots_nil | refine kw ?_ | exact memIn_nil | omega)
  · exact ⟨by simp, fun i v h => absurd h (Nat.not_lt_zero _)⟩
  rintro i c ⟨hi, hinv⟩
  by_cases hlt : i < vs.length
  · have hx : vs[i]? = some vs[i] := List.getElem?_eq_getElem hlt
    generalize vs[i] = v at hx
    have vv := hv v (List.mem_of_getElem? hx)
    have hsn := sameNull_iff vv
    rw [← litsV] at hsn
    by_cases k : v.kind = 0
    · rw [hn ⟨v, List.mem_of_getElem? hx, k⟩]
      rw [decide_eq_true k] at hsn
      clear hs hn hinv
      repeat' (first | refine ks ?_ | refine ko ?_ | refine s_indexD ?_ (hel := (by first | exact idx_map hx (by omega) | exact hx | exact rfl)) | refine f_ret1 def_nil ?_ | refine t_cellG ?_ | exact cfs_nil | refine cfs_cons ?_ ?_ | refine cf_d ?_)
      all_goals first | rfl | (exfalso; simp_all; done)
    · rw [decide_eq_false k] at hsn
      have hin : ∀ (j : Nat) u, j < i + 1 → vs[j]? = some u → u.kind ≠ 0 := fun j u hj hu => by
        by_cases e : j = i
        · subst e; rw [hx] at hu; cases hu; exact k
        · exact hinv j u (by omega) hu
      clear hs hn hinv
      repeat' (first | refine ks ?_ | refine ko ?_ | refine s_indexD ?_ (hel := (by first | exact idx_map hx (by omega) | exact hx | exact rfl)) | refine f_ret1 def_nil ?_ | refine t_cellG ?_ | exact cfs_nil | refine cfs_cons ?_ ?_ | refine cf_d ?_)
      all_goals first | (exfalso; simp_all; done) | skip
      (apply s_round (i + 1); all_goals (try dsimp only); all_goals (try (repeat' (first | exact slots_nil | refine kw ?_ | exact memIn_nil | omega))))
      all_goals exact ⟨by omega, hin⟩
  · have h1 := hs fun v hv' => by
      obtain ⟨j, hj, rfl⟩ := List.mem_iff_getElem.1 hv'
      exact hinv j _ (by omega) (List.getElem?_eq_getElem hj)
    clear hs hn hinv
    repeat' (first | refine ks ?_ | refine ko ?_ | refine s_indexD ?_ (hel := (by first | exact rfl)) | refine s_call (h1) ?_ | refine f_ret1 def_nil ?_ | refine t_cellG ?_ | exact cfs_nil | refine cfs_cons ?_ ?_ | refine cf_d ?_)
    all_goals rfl
end Go.Proofs.YtojfhaoleedmkaaGreat
