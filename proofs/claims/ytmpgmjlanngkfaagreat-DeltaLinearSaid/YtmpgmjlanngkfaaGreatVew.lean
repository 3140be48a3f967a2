/-
  Views: whether the right source counts, whether a view can be derived, the join of its sources, and the changed bags.
-/
import Derived.Test.YtmpgmjlanngkfaaGreatSam
import Derived.Test.YtmpgmjlanngkfaaGreatRowc
import Derived.Test.YtmpgmjlanngkfaaGreatExo
import Derived.Test.YtmpgmjlanngkfaaGreatExn
import Derived.Test.YtmpgmjlanngkfaaGreatAdd
section
namespace Go.Proofs.YtmpgmjlanngkfaaGreat
open Go.Abs Go.RowKit
attribute [local irreducible] ARun kont MCall PCall HCall resVal SF CF CFs defersOk slotsIn memIn fin finM VLe
set_option linter.unusedSimpArgs false
set_option maxRecDepth 100000
set_option maxHeartbeats 4000000

def positiveE (l : List Entry) : Bool := bagValid l && l.all (fun e => decide (0 ≤ e.count))

theorem positive_c (l : List Entry) : PCall Tryz.prog 87 [.one (bagD l)] (.v (.one (.lit (.bool (positiveE l))))) := by
  have hvc := bagValid_c l
  cases hb : bagValid l with
  | false =>
    rw [hb] at hvc
    have he : positiveE l = false := by simp [positiveE, hb]
    rw [he]
    refine pcallN hT Tryz.func87 Tryz.ntmps87 [.tmp 2] fun B => ?_
    repeat' (first | (with_reducible (first | refine k_seq ?_ | refine k_block ?_ | refine k_skip ?_ | refine k_exit ?_ | refine k_ret ?_ | refine n_seq ?_ | refine n_block ?_ | refine e_seq ?_ | refine e_here ?_ | refine r_seq ?_ | refine r_block ?_ | refine o_exit ?_ | refine o_ret ?_)) | refine s_reg ?_ | refine s_ifT ?_ | refine s_ifF ?_ | refine r_end ?_ | refine s_move ?_ | refine s_assign ?_ | refine s_int ?_ | refine s_loadB1 ?_ | refine s_loadFA ?_ | refine s_indexD ?_ (hel := (by first | exact rfl)) | refine s_fieldB ?_ | refine s_call (hvc) ?_ | refine s_lenD ?_ | refine s_storeB ?_ | refine s_alloc ?_ | refine s_not ?_ | refine f_ret1 def_nil ?_ | refine t_tmp ?_)
    all_goals rfl
  | true =>
    rw [hb] at hvc
    have he : positiveE l = l.all (fun e => decide (0 ≤ e.count)) := by simp [positiveE, hb]
    obtain ⟨hl, hm⟩ := valid_mem hb
    rw [he]
    refine pcallN hT Tryz.func87 Tryz.ntmps87 [.tmp 2] fun B => ?_
    repeat' (first | (with_reducible (first | refine k_seq ?_ | refine k_block ?_ | refine k_skip ?_ | refine k_exit ?_ | refine k_ret ?_ | refine n_seq ?_ | refine n_block ?_ | refine e_seq ?_ | refine e_here ?_ | refine r_seq ?_ | refine r_block ?_ | refine o_exit ?_ | refine o_ret ?_)) | refine s_reg ?_ | refine s_ifT ?_ | refine s_ifF ?_ | refine r_end ?_ | refine s_move ?_ | refine s_assign ?_ | refine s_int ?_ | refine s_loadB1 ?_ | refine s_loadFA ?_ | refine s_indexD ?_ (hel := (by first | exact rfl)) | refine s_fieldB ?_ | refine s_call (hvc) ?_ | refine s_lenD ?_ | refine s_storeB ?_ | refine s_alloc ?_ | refine s_not ?_ | refine f_ret1 def_nil ?_ | refine t_tmp ?_)
    refine s_lp (X := Nat) [2, 4, 10, 11, 12, 13, 14, 15, 16, 17] (fun x => x ≤ l.length ∧ (l.take x).all (fun e => decide (0 ≤ e.count)) = true) (fun x lz => (10, (.c (.d (.lit (.int .i64 x))))) :: lz) (fun x => []) (fun x => l.length - x) (0) ?_ ?_ ?_ ?_
    repeat' (first | exact slots_nil | refine w1 ?_ | exact memIn_nil | omega)
    · exact ⟨by simp, by simp⟩
    rintro i c ⟨hi, hinv⟩
    by_cases hlt : i < l.length
    · have hv : l[i]? = some l[i] := List.getElem?_eq_getElem hlt
      generalize l[i] = e at hv
      by_cases hr : e.count < 0
      · rw [not_all (fun e : Entry => decide (0 ≤ e.count)) hv (by simpa using hr)]
        repeat' (first | (with_reducible (first | refine k_seq ?_ | refine k_block ?_ | refine k_skip ?_ | refine k_exit ?_ | refine k_ret ?_ | refine n_seq ?_ | refine n_block ?_ | refine e_seq ?_ | refine e_here ?_ | refine r_seq ?_ | refine r_block ?_ | refine o_exit ?_ | refine o_ret ?_)) | refine s_reg ?_ | refine s_ifT ?_ | refine s_ifF ?_ | refine r_end ?_ | refine s_move ?_ | refine s_assign ?_ | refine s_int ?_ | refine s_loadB1 ?_ | refine s_loadFA ?_ | refine s_indexD ?_ (hel := (by first | exact idx_map hv (by omega) | exact hv | exact rfl)) | refine s_fieldB ?_ | refine s_lenD ?_ | refine s_storeB ?_ | refine s_alloc ?_ | refine s_not ?_ | refine f_ret1 def_nil ?_ | refine t_tmp ?_)
        all_goals rfl
      · repeat' (first | (with_reducible (first | refine k_seq ?_ | refine k_block ?_ | refine k_skip ?_ | refine k_exit ?_ | refine k_ret ?_ | refine n_seq ?_ | refine n_block ?_ | refine e_seq ?_ | refine e_here ?_ | refine r_seq ?_ | refine r_block ?_ | refine o_exit ?_ | refine o_ret ?_)) | refine s_reg ?_ | refine s_ifT ?_ | refine s_ifF ?_ | refine r_end ?_ | refine s_move ?_ | refine s_assign ?_ | refine s_int ?_ | refine s_loadB1 ?_ | refine s_loadFA ?_ | refine s_indexD ?_ (hel := (by first | exact idx_map hv (by omega) | exact hv | exact rfl)) | refine s_fieldB ?_ | refine s_lenD ?_ | refine s_storeB ?_ | refine s_alloc ?_ | refine s_not ?_ | refine f_ret1 def_nil ?_ | refine t_tmp ?_)
        (apply s_round (i + 1); all_goals (try dsimp only); all_goals (try (repeat' (first | exact slots_nil | refine w1 ?_ | exact memIn_nil | omega))))
        exact ⟨by omega, take_all (fun e : Entry => decide (0 ≤ e.count)) hv hinv (by simp; omega)⟩
    · rw [take_ge (by omega)] at hinv
      rw [hinv]
      repeat' (first | (with_reducible (first | refine k_seq ?_ | refine k_block ?_ | refine k_skip ?_ | refine k_exit ?_ | refine k_ret ?_ | refine n_seq ?_ | refine n_block ?_ | refine e_seq ?_ | refine e_here ?_ | refine r_seq ?_ | refine r_block ?_ | refine o_exit ?_ | refine o_ret ?_)) | refine s_reg ?_ | refine s_ifT ?_ | refine s_ifF ?_ | refine r_end ?_ | refine s_move ?_ | refine s_assign ?_ | refine s_int ?_ | refine s_loadB1 ?_ | refine s_loadFA ?_ | refine s_indexD ?_ (hel := (by first | exact rfl)) | refine s_fieldB ?_ | refine s_lenD ?_ | refine s_storeB ?_ | refine s_alloc ?_ | refine s_not ?_ | refine f_ret1 def_nil ?_ | refine t_tmp ?_)
      all_goals rfl

end Go.Proofs.YtmpgmjlanngkfaaGreat
end
section
namespace Go.Proofs.YtmpgmjlanngkfaaGreat
open Go.Abs Go.RowKit
attribute [local irreducible] ARun kont MCall PCall HCall resVal SF CF CFs defersOk slotsIn memIn fin finM VLe
set_option linter.unusedSimpArgs false
set_option maxRecDepth 100000
set_option maxHeartbeats 4000000

structure Vw where
  name : ByteArray
  kind : Int
  left : ByteArray
  right : ByteArray
  on : List (Int × Int)
  wher : List Trm
  items : List Itm
  distinct : Bool
  aggs : List Agg
def Vw.d (v : Vw) : List Dat := [.lit (.string v.name), .lit (.int .i64 v.kind), .lit (.string v.left), .lit (.string v.right), onD v.on, exprD v.wher, itmD v.items, .lit (.bool v.distinct), aggD v.aggs]

def emptyR (v : Vw) : Bool := v.right.toList == (⟨#[]⟩ : ByteArray).toList
def usesR (v : Vw) : Bool := !emptyR v || decide (v.kind = 2)
def knownV (v : Vw) : Bool := decide (v.kind = 0) || decide (v.kind = 1) || decide (v.kind = 2)
def derivE (v : Vw) (l r : List Entry) : Bool := knownV v && (positiveE l && (!usesR v || positiveE r))
def fitE (b c : List Entry) : List Entry × Int := if (addE 1 b c).2 = 0 ∧ positiveE (addE 1 b c).1 = true then ((addE 1 b c).1, 0) else ([], 1)
def chgE (v : Vw) (l r dl dr : List Entry) : List Entry × List Entry × Int :=
  if (fitE l dl).2 = 0 ∧ usesR v = true then ((fitE l dl).1, (fitE r dr).1, (fitE r dr).2) else ((fitE l dl).1, [], (fitE l dl).2)
def srcE (J : List Entry → List Entry → List (Int × Int) → List Entry × Int) (v : Vw) (l r : List Entry) : List Entry × Int :=
  if emptyR v = true then (l, 0) else J l r v.on

theorem emptyR_t {v : Vw} (h : emptyR v = true) : (v.right.toList == (⟨#[]⟩ : ByteArray).toList) = true := h
theorem emptyR_f {v : Vw} (h : emptyR v = false) : (v.right.toList == (⟨#[]⟩ : ByteArray).toList) = false := h

theorem usesRight_c (v : Vw) : PCall Tryz.prog 88 [.agg v.d] (.v (.one (.lit (.bool (usesR v))))) := by
  cases hr : emptyR v
  · rw [show usesR v = true by simp [usesR, hr]]
    have h1 := emptyR_f hr
    have h2 : (!(v.right.toList == (⟨#[]⟩ : ByteArray).toList)) = true := by rw [h1]; rfl
    refine pcallN hT Tryz.func88 Tryz.ntmps88 [.tmp 2] fun B => ?_
    repeat' (first | (with_reducible (first | refine k_seq ?_ | refine k_ret ?_ | refine n_seq ?_)) | refine s_reg ?_ | refine r_end ?_ | refine s_skipS ?_ | refine s_move ?_ | refine s_assign ?_ | refine s_int ?_ | refine s_str ?_ | refine s_loadB1 ?_ | refine s_fieldB ?_ | refine s_pick ?_ | refine s_box ?_ | refine s_kT ?_ | refine s_kF ?_ | refine f_ret1 def_nil ?_ | refine t_tmp ?_)
    all_goals rfl
  · rw [show usesR v = decide (v.kind = 2) by simp [usesR, hr]]
    have h1 := emptyR_t hr
    have h2 : (!(v.right.toList == (⟨#[]⟩ : ByteArray).toList)) = false := by rw [h1]; rfl
    refine pcallN hT Tryz.func88 Tryz.ntmps88 [.tmp 2] fun B => ?_
    repeat' (first | (with_reducible (first | refine k_seq ?_ | refine k_ret ?_ | refine n_seq ?_)) | refine s_reg ?_ | refine r_end ?_ | refine s_skipS ?_ | refine s_move ?_ | refine s_assign ?_ | refine s_int ?_ | refine s_str ?_ | refine s_loadB1 ?_ | refine s_fieldB ?_ | refine s_pick ?_ | refine s_box ?_ | refine s_kT ?_ | refine s_kF ?_ | refine f_ret1 def_nil ?_ | refine t_tmp ?_)
    all_goals rfl

theorem derivable_c (v : Vw) (l r : List Entry) : PCall Tryz.prog 40 [.agg v.d, .one (bagD l), .one (bagD r)] (.v (.one (.lit (.bool (derivE v l r))))) := by
  have hu := usesRight_c v
  have hl := positive_c l
  have hq := positive_c r
  unfold derivE
  by_cases hk : knownV v = true
  · rw [hk, Bool.true_and]
    have hk3 : v.kind = 0 ∨ v.kind = 1 ∨ v.kind = 2 := by simpa [knownV, or_assoc] using hk
    generalize usesR v = u at hu ⊢
    generalize positiveE l = pl at hl ⊢
    generalize positiveE r = pr at hq ⊢
    obtain h0 | h0 | h0 := hk3
    all_goals
      cases pl <;> cases u <;> cases pr
    all_goals
      (refine pcallN hT Tryz.func40 Tryz.ntmps40 [.tmp 6] fun B => ?_
       repeat' (first | (with_reducible (first | refine k_seq ?_ | refine k_skip ?_ | refine k_ret ?_ | refine n_seq ?_ | refine r_seq ?_)) | refine s_reg ?_ | refine s_ifT ?_ | refine s_ifF ?_ | refine r_end ?_ | refine s_skipS ?_ | refine s_skipU ?_ | refine s_move ?_ | refine s_assign ?_ | refine s_int ?_ | refine s_loadB1 ?_ | refine s_loadBA ?_ | refine s_fieldB ?_ | refine s_call (hl) ?_ | refine s_call (hu) ?_ | refine s_call (hq) ?_ | refine s_pick ?_ | refine s_not ?_ | refine s_box ?_ | refine s_kT ?_ | refine s_kF ?_ | refine f_ret1 def_nil ?_ | refine t_tmp ?_))
    all_goals rfl
  · have hk3 : ¬ (v.kind = 0) ∧ ¬ (v.kind = 1) ∧ ¬ (v.kind = 2) := by simpa [knownV, not_or, and_assoc] using hk
    rw [show knownV v = false by simpa using hk, Bool.false_and]
    obtain ⟨h0, h1, h2⟩ := hk3
    refine pcallN hT Tryz.func40 Tryz.ntmps40 [.tmp 6] fun B => ?_
    repeat' (first | (with_reducible (first | refine k_seq ?_ | refine k_skip ?_ | refine k_ret ?_ | refine n_seq ?_ | refine r_seq ?_)) | refine s_reg ?_ | refine s_ifT ?_ | refine s_ifF ?_ | refine r_end ?_ | refine s_skipS ?_ | refine s_skipU ?_ | refine s_move ?_ | refine s_assign ?_ | refine s_int ?_ | refine s_loadB1 ?_ | refine s_loadBA ?_ | refine s_fieldB ?_ | refine s_pick ?_ | refine s_not ?_ | refine s_box ?_ | refine s_kT ?_ | refine s_kF ?_ | refine f_ret1 def_nil ?_ | refine t_tmp ?_)
    all_goals rfl

theorem fitted_c (b c : List Entry) : PCall Tryz.prog 149 [.one (bagD b), .one (bagD c)] (bagI (fitE b c)) := by
  have ha := add_c b c
  have hp := positive_c (addE 1 b c).1
  unfold fitE
  generalize addE 1 b c = s at ha hp ⊢
  obtain ⟨s, e⟩ := s
  dsimp only at ha hp ⊢
  by_cases he : e = 0
  · subst he
    cases h : positiveE s
    · rw [h] at hp
      rw [if_neg (by simp)]
      refine pcallN hT Tryz.func149 Tryz.ntmps149 [.tmp 4, .tmp 5] fun B => ?_
      repeat' (first | (with_reducible (first | refine k_seq ?_ | refine k_skip ?_ | refine k_ret ?_ | refine n_seq ?_ | refine r_seq ?_)) | refine s_reg ?_ | refine s_ifT ?_ | refine s_ifF ?_ | refine r_end ?_ | refine s_skipS ?_ | refine s_move ?_ | refine s_assign ?_ | refine s_int ?_ | refine s_call (ha) ?_ | refine s_call (hp) ?_ | refine s_pick ?_ | refine s_extract ?_ | refine s_not ?_ | refine s_kT ?_ | refine f_ret2 def_nil ?_ ?_ | refine t_tmp ?_ | refine t_tmpE ?_)
      all_goals rfl
    · rw [h] at hp
      rw [if_pos ⟨rfl, rfl⟩]
      refine pcallN hT Tryz.func149 Tryz.ntmps149 [.tmp 4, .tmp 5] fun B => ?_
      repeat' (first | (with_reducible (first | refine k_seq ?_ | refine k_skip ?_ | refine k_ret ?_ | refine n_seq ?_ | refine r_seq ?_)) | refine s_reg ?_ | refine s_ifT ?_ | refine s_ifF ?_ | refine r_end ?_ | refine s_skipS ?_ | refine s_move ?_ | refine s_assign ?_ | refine s_int ?_ | refine s_call (ha) ?_ | refine s_call (hp) ?_ | refine s_pick ?_ | refine s_extract ?_ | refine s_not ?_ | refine s_kT ?_ | refine f_ret2 def_nil ?_ ?_ | refine t_tmp ?_ | refine t_tmpE ?_)
      all_goals rfl
  · rw [if_neg fun h => he h.1]
    refine pcallN hT Tryz.func149 Tryz.ntmps149 [.tmp 4, .tmp 5] fun B => ?_
    repeat' (first | (with_reducible (first | refine k_seq ?_ | refine k_skip ?_ | refine k_ret ?_ | refine n_seq ?_ | refine r_seq ?_)) | refine s_reg ?_ | refine s_ifT ?_ | refine s_ifF ?_ | refine r_end ?_ | refine s_skipS ?_ | refine s_move ?_ | refine s_assign ?_ | refine s_int ?_ | refine s_call (ha) ?_ | refine s_call (hp) ?_ | refine s_pick ?_ | refine s_extract ?_ | refine s_not ?_ | refine s_kT ?_ | refine f_ret2 def_nil ?_ ?_ | refine t_tmp ?_ | refine t_tmpE ?_)
    all_goals rfl

theorem changedSources_c (v : Vw) (l r dl dr : List Entry) : PCall Tryz.prog 93 [.agg v.d, .one (bagD l), .one (bagD r), .one (bagD dl), .one (bagD dr)] (.tup [.one (bagD (chgE v l r dl dr).1), .one (bagD (chgE v l r dl dr).2.1), .one (.lit (.int .i64 (chgE v l r dl dr).2.2))]) := by
  have hl := fitted_c l dl
  have hr := fitted_c r dr
  have hu := usesRight_c v
  unfold chgE
  generalize fitE l dl = x at hl ⊢
  generalize fitE r dr = y at hr ⊢
  obtain ⟨x, e⟩ := x
  dsimp only [bagI] at hl hr ⊢
  by_cases he : e = 0
  · subst he
    cases h : usesR v
    · rw [h] at hu
      rw [if_neg (by simp)]
      refine pcallN hT Tryz.func93 Tryz.ntmps93 [.tmp 10, .tmp 11, .tmp 12] fun B => ?_
      repeat' (first | (with_reducible (first | refine k_seq ?_ | refine k_skip ?_ | refine k_ret ?_ | refine n_seq ?_ | refine r_seq ?_)) | refine s_reg ?_ | refine s_ifT ?_ | refine s_ifF ?_ | refine r_end ?_ | refine s_skipS ?_ | refine s_move ?_ | refine s_assign ?_ | refine s_int ?_ | refine s_loadBA ?_ | refine s_call (hl) ?_ | refine s_call (hu) ?_ | refine s_call (hr) ?_ | refine s_pick ?_ | refine s_extract ?_ | refine s_not ?_ | refine s_box ?_ | refine s_kT ?_ | refine f_ret3 def_nil ?_ ?_ ?_ | refine t_tmp ?_ | refine t_tmpE ?_)
      all_goals rfl
    · rw [h] at hu
      rw [if_pos ⟨rfl, rfl⟩]
      refine pcallN hT Tryz.func93 Tryz.ntmps93 [.tmp 10, .tmp 11, .tmp 12] fun B => ?_
      repeat' (first | (with_reducible (first | refine k_seq ?_ | refine k_skip ?_ | refine k_ret ?_ | refine n_seq ?_ | refine r_seq ?_)) | refine s_reg ?_ | refine s_ifT ?_ | refine s_ifF ?_ | refine r_end ?_ | refine s_skipS ?_ | refine s_move ?_ | refine s_assign ?_ | refine s_int ?_ | refine s_loadBA ?_ | refine s_call (hl) ?_ | refine s_call (hu) ?_ | refine s_call (hr) ?_ | refine s_pick ?_ | refine s_extract ?_ | refine s_not ?_ | refine s_box ?_ | refine s_kT ?_ | refine f_ret3 def_nil ?_ ?_ ?_ | refine t_tmp ?_ | refine t_tmpE ?_)
      all_goals rfl
  · rw [if_neg fun h => he h.1]
    refine pcallN hT Tryz.func93 Tryz.ntmps93 [.tmp 10, .tmp 11, .tmp 12] fun B => ?_
    repeat' (first | (with_reducible (first | refine k_seq ?_ | refine k_skip ?_ | refine k_ret ?_ | refine n_seq ?_ | refine r_seq ?_)) | refine s_reg ?_ | refine s_ifT ?_ | refine s_ifF ?_ | refine r_end ?_ | refine s_skipS ?_ | refine s_move ?_ | refine s_assign ?_ | refine s_int ?_ | refine s_loadBA ?_ | refine s_call (hl) ?_ | refine s_call (hu) ?_ | refine s_call (hr) ?_ | refine s_pick ?_ | refine s_extract ?_ | refine s_not ?_ | refine s_box ?_ | refine s_kT ?_ | refine f_ret3 def_nil ?_ ?_ ?_ | refine t_tmp ?_ | refine t_tmpE ?_)
    all_goals rfl

theorem joinSources_c (J : List Entry → List Entry → List (Int × Int) → List Entry × Int) (v : Vw) (l r : List Entry) (hj : emptyR v = false → PCall Tryz.prog 89 [.one (bagD l), .one (bagD r), .one (onD v.on)] (bagI (J l r v.on))) : PCall Tryz.prog 41 [.agg v.d, .one (bagD l), .one (bagD r)] (bagI (srcE J v l r)) := by
  unfold srcE
  cases h : emptyR v
  · have h1 := emptyR_f h
    have hj := hj h
    rw [if_neg (by simp)]
    generalize J l r v.on = x at hj ⊢
    dsimp only [bagI] at hj ⊢
    refine pcallN hT Tryz.func41 Tryz.ntmps41 [.tmp 6, .tmp 7] fun B => ?_
    repeat' (first | (with_reducible (first | refine k_seq ?_ | refine k_skip ?_ | refine k_ret ?_ | refine n_seq ?_ | refine r_seq ?_)) | refine s_reg ?_ | refine s_ifT ?_ | refine s_ifF ?_ | refine r_end ?_ | refine s_move ?_ | refine s_assign ?_ | refine s_str ?_ | refine s_loadB1 ?_ | refine s_fieldB ?_ | refine s_call (hj) ?_ | refine s_extract ?_ | refine s_box ?_ | refine f_ret2 def_nil ?_ ?_ | refine t_tmp ?_)
    all_goals rfl
  · have h1 := emptyR_t h
    rw [if_pos rfl]
    refine pcallN hT Tryz.func41 Tryz.ntmps41 [.tmp 6, .tmp 7] fun B => ?_
    repeat' (first | (with_reducible (first | refine k_seq ?_ | refine k_skip ?_ | refine k_ret ?_ | refine n_seq ?_ | refine r_seq ?_)) | refine s_reg ?_ | refine s_ifT ?_ | refine s_ifF ?_ | refine r_end ?_ | refine s_move ?_ | refine s_assign ?_ | refine s_str ?_ | refine s_loadB1 ?_ | refine s_fieldB ?_ | refine s_extract ?_ | refine s_box ?_ | refine f_ret2 def_nil ?_ ?_ | refine t_tmp ?_)
    all_goals rfl
end Go.Proofs.YtmpgmjlanngkfaaGreat
end
