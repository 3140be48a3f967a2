/-
  The cache: Lookup of any arguments, the program's and the document's.
-/
import Derived.Test.YtmejclckkmpggaaCak
namespace Go.Proofs.Ytmejclckkmpggaa
open Go.Abs Go.RowKit
attribute [local irreducible] ARun kont MCall PCall HCall resVal SF CF CFs defersOk slotsIn memIn fin finM VLe
set_option linter.unusedSimpArgs false
set_option maxRecDepth 100000
set_option maxHeartbeats 4000000

theorem lookBad_c (c : Conf) (s : List Cach) (rows : List Entry) (v : Val) (day : Int) (h : ¬ (validC s && bagValid rows && dayOK c.ttl && dayOK day) = true) :
    PCall Try.prog 18 [.agg c.d, .one (cachD s), .one (bagD rows), .agg v.d, .one (.lit (.int .i64 day))] (.tup [.one (cachD []), .one (bagD []), .one (.lit (.int .i64 1))]) := by
  have h1 := cvalid_c s
  have h2 := inDays_c c.ttl
  have h3 := inDays_c day
  have h4 := bagValid_c rows
  generalize validC s = b1 at h h1
  generalize bagValid rows = b4 at h h4
  generalize dayOK c.ttl = b2 at h h2
  generalize dayOK day = b3 at h h3
  refine pcallN hT Try.func18 Try.ntmps18 [.cell 10 37, .cell 11 22, .cell 12 38] fun B => ?_
  repeat' (first | (exfalso; simp_all; done) | (with_reducible (first | refine k_seq ?_ | refine k_ret ?_ | refine n_seq ?_ | refine r_seq ?_)) | refine s_reg ?_ | refine s_ifT ?_ | refine s_if rfl (fun hb => ?_) (fun hb => ?_) | refine r_end ?_ | refine s_skipS ?_ | refine s_move ?_ | refine s_loadB1 ?_ | refine s_fieldB ?_ | refine s_call (h1) ?_ | refine s_call (h2) ?_ | refine s_call (h3) ?_ | refine s_call (h4) ?_ | refine s_pick ?_ | refine s_storeB ?_ | refine s_alloc ?_ | refine s_not ?_ | refine s_box ?_ | refine s_funcC ?_ | refine s_defer ?_ | refine s_split rfl rfl (fun hb => ?_) (fun hb => ?_) | refine f_ret3 (by repeat (first | exact def_nil | refine def_cons lookup1_d ?_)) ?_ ?_ ?_ | refine t_cell (P := Try.prog) ?_ | refine cf_d ?_ | refine cf_emp ?_)
  all_goals rfl

theorem find_at : ∀ {l : List Cach} {p : Cach → Bool} {e : Cach}, l.find? p = some e → ∃ i : Nat, l[i]? = some e ∧ p e = true ∧ ∀ (j : Nat) x, j < i → l[j]? = some x → p x = false
  | [], _, _, h => by cases h
  | y :: l, p, e, h => by
    rw [List.find?_cons] at h
    cases hp : p y with
    | true =>
      rw [hp] at h
      simp only [Option.some.injEq] at h
      subst h
      exact ⟨0, rfl, hp, fun j x hj => by omega⟩
    | false =>
      rw [hp] at h
      obtain ⟨i, h1, h2, h3⟩ := find_at h
      refine ⟨i + 1, h1, h2, fun j x hj hx => ?_⟩
      cases j with
      | zero => simp only [List.getElem?_cons_zero, Option.some.injEq] at hx; subst hx; exact hp
      | succ j => exact h3 j x (by omega) hx
theorem sames_ne {a b : Val} (h : sameVal a b = false) : a ≠ b := fun e => by rw [e, sameVal_refl] at h; cases h

def lookR (r : List Cach × List Entry × Int) : PRes := .tup [.one (cachD r.1), .one (bagD r.2.1), .one (.lit (.int .i64 r.2.2))]

theorem lookup_c (c : Conf) (s : List Cach) (rows : List Entry) (v : Val) (day : Int) :
    PCall Try.prog 18 [.agg c.d, .one (cachD s), .one (bagD rows), .agg v.d, .one (.lit (.int .i64 day))] (lookR (lookE c s rows v day)) := by
  unfold lookE lookR
  by_cases h : (validC s && bagValid rows && dayOK c.ttl && dayOK day) = true
  · rw [if_pos h]
    simp only [Bool.and_eq_true] at h
    obtain ⟨⟨⟨g1, g2⟩, g3⟩, g4⟩ := h
    split
    · rename_i e hf
      obtain ⟨i, h1, h2, h3⟩ := find_at hf
      exact lookFound_c c s rows v day g1 g2 g3 g4 i e h1 (sameVal_iff.1 h2) fun j x hj hx => sames_ne (h3 j x hj hx)
    · rename_i hf
      have hn : ∀ x ∈ s.filter (liveE c.ttl day), x.val ≠ v.clean := fun x hx => find_none hf hx
      by_cases hl : (s.filter (liveE c.ttl day)).length < 16
      · exact lookRoom_c c s rows v day g1 g2 g3 g4 hn hl
      · exact lookFull_c c s rows v day g1 g2 g3 g4 hn (by omega)
  · rw [if_neg h]
    exact lookBad_c c s rows v day h

end Go.Proofs.Ytmejclckkmpggaa
