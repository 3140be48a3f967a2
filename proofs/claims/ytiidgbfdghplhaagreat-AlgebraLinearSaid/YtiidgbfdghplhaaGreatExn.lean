/-
  Algebra: Where.
-/
import Derived.Test.YtiidgbfdghplhaaGreatExd
import Derived.Test.YtiidgbfdghplhaaGreatExk
import Derived.Test.YtiidgbfdghplhaaGreatExg
import Derived.Test.YtiidgbfdghplhaaGreatSam
import Derived.Test.YtiidgbfdghplhaaGreatBag
section
namespace Go.Proofs.YtiidgbfdghplhaaGreat
open Go.Abs Go.RowKit
attribute [local irreducible] ARun kont MCall PCall HCall resVal SF CF CFs defersOk slotsIn memIn fin finM VLe
set_option linter.unusedSimpArgs false
set_option maxRecDepth 100000
set_option maxHeartbeats 4000000

/-- The parts of an expression, one behind the other. -/
def partsD (ss : List (List Trm)) : Dat := .sl (ss.map fun s => [exprD s])
end Go.Proofs.YtiidgbfdghplhaaGreat
end
section
namespace Go.Proofs.YtiidgbfdghplhaaGreat
open Go.Abs Go.RowKit
attribute [local irreducible] ARun kont MCall PCall HCall resVal SF CF CFs defersOk slotsIn memIn fin finM VLe
set_option linter.unusedSimpArgs false
set_option maxRecDepth 100000
set_option maxHeartbeats 4000000

theorem algWhere1_d : DeferOk Tryz.prog 39 0 := by
  refine ⟨⟨_, Tryz.func39, by kernel_rfl, by kernel_rfl⟩, fun vs w hl => ?_⟩
  match vs, hl with
  | [], _ =>
    refine callsD_of_wpS Tryz.func39 rfl fun c₀ cs hu => ?_
    apply wpS_region
    simp [wpOpsS, go_sem, recoverD, hu, Tryz.ntmps39, Exit.thenS]
    cases c₀
    simp_all [bodyPostS, results, Tryz.results39]

def keepE (e : List Trm) (x : Entry) : Bool := decide (e.length = 0) || holdsE e x.row
def whereE (b : List Entry) (e : List Trm) : List Entry := if bagValid b then b.filter (keepE e) else []

theorem filter_snoc {α : Type} {p : α → Bool} {l : List α} {i : Nat} {x : α} (h : l[i]? = some x) : (l.take (i + 1)).filter p = (l.take i).filter p ++ if p x then [x] else [] := by
  rw [List.take_add_one, h, List.filter_append]
  congr 1
  cases hp : p x <;> simp [hp]

theorem where_c (b : List Entry) (e : List Trm) : PCall Tryz.prog 20 [.one (bagD b), .one (exprD e)] (.v (.one (bagD (whereE b e)))) := by
  have hv := bagValid_c b
  cases hb : bagValid b
  · rw [show whereE b e = [] by rw [whereE, hb]; rfl]
    rw [hb] at hv
    refine pcallN hT Tryz.func20 Tryz.ntmps20 [.tmp 4] fun B => ?_
    repeat' (first | (with_reducible (first | refine k_seq ?_ | refine k_block ?_ | refine k_skip ?_ | refine k_exit ?_ | refine k_ret ?_ | refine n_seq ?_ | refine n_block ?_ | refine e_seq ?_ | refine e_here ?_ | refine r_seq ?_ | refine o_exit ?_)) | refine s_reg ?_ | refine s_ifT ?_ | refine s_ifF ?_ | refine r_end ?_ | refine s_endD ?_ | refine s_skipS ?_ | refine s_move ?_ | refine s_assign ?_ | refine s_int ?_ | refine s_loadB1 ?_ | refine s_loadFA ?_ | refine s_indexD ?_ (hel := (by first | exact rfl)) | refine s_fieldB ?_ | refine s_call (hv) ?_ | refine s_pick ?_ | refine s_lenD ?_ | refine s_appA ?_ | refine s_storeB ?_ | refine s_bslice ?_ | refine s_alloc ?_ | refine s_not ?_ | refine s_build ?_ | refine s_defer ?_ | refine s_kT ?_ | refine s_kF ?_ | refine f_ret1 (by repeat (first | exact def_nil | refine def_cons algWhere1_d ?_)) ?_ | refine t_tmp ?_ | refine t_tmpE ?_)
    all_goals rfl
  rw [hb] at hv
  obtain ⟨bl, bm⟩ := valid_mem hb
  rw [show whereE b e = b.filter (keepE e) by rw [whereE, hb, if_pos rfl]]
  have hcl : ∀ (i : Nat), ((b.take i).filter (keepE e)).length ≤ 4096 := fun i => by
    have h1 := List.length_filter_le (keepE e) (b.take i)
    have h2 := List.length_take_le i b
    have h3 : (b.take i).length ≤ b.length := by simp; omega
    omega
  refine pcallN hT Tryz.func20 Tryz.ntmps20 [.tmp 4] fun B => ?_
  repeat' (first | (with_reducible (first | refine k_seq ?_ | refine k_block ?_ | refine k_skip ?_ | refine k_exit ?_ | refine k_ret ?_ | refine n_seq ?_ | refine n_block ?_ | refine e_seq ?_ | refine e_here ?_ | refine r_seq ?_ | refine o_exit ?_)) | refine s_reg ?_ | refine s_ifT ?_ | refine s_ifF ?_ | refine r_end ?_ | refine s_endD ?_ | refine s_skipS ?_ | refine s_move ?_ | refine s_assign ?_ | refine s_int ?_ | refine s_loadB1 ?_ | refine s_loadFA ?_ | refine s_indexD ?_ (hel := (by first | exact rfl)) | refine s_fieldB ?_ | refine s_call (hv) ?_ | refine s_pick ?_ | refine s_lenD ?_ | refine s_appA ?_ | refine s_storeB ?_ | refine s_bslice ?_ | refine s_alloc ?_ | refine s_not ?_ | refine s_build ?_ | refine s_defer ?_ | refine s_kT ?_ | refine s_kF ?_ | refine f_ret1 (by repeat (first | exact def_nil | refine def_cons algWhere1_d ?_)) ?_ | refine t_tmp ?_ | refine t_tmpE ?_)
  refine s_own 5 59 2 ?_
  refine s_lp (X := Nat × Nat × List Entry) [5, 7, 13, 14, 15, 16, 17, 18, 19, 20, 21, 22, 23, 24, 25, 26, 27, 28, 29, 30, 31, 32, 33, 34, 35] (fun x => x.1 ≤ b.length ∧ x.2.2 = (b.take x.1).filter (keepE e)) (fun x lz => (5, .c (.arr 0 x.2.1 x.2.2.length)) :: (13, (.c (.d (.lit (.int .i64 x.1))))) :: lz) (fun x => [.arr x.2.1 59 2 (x.2.2.map Entry.d)]) (fun x => b.length - x.1) ((0, 1, [])) ?_ ?_ ?_ ?_
  repeat' (first | exact slots_nil | refine w1 ?_ | exact memIn_nil | refine memIn_same ?_ | refine m1 ?_ ?_ | omega)
  · exact ⟨by simp, rfl⟩
  rintro ⟨i, k, out⟩ c ⟨hi, hout⟩
  dsimp only at hi hout ⊢
  have hol : out.length ≤ 4096 := by rw [hout]; exact hcl i
  by_cases hlt : i < b.length
  · have hx : b[i]? = some b[i] := List.getElem?_eq_getElem hlt
    generalize b[i] = x at hx
    have hxl : x.row.length ≤ 1000000 := by
      have := (bm x (List.mem_of_getElem? hx)).1
      simp only [rowOK, Bool.and_eq_true, decide_eq_true_eq] at this
      omega
    have hsn := filter_snoc (p := keepE e) hx
    rw [← hout] at hsn
    have hcln := clone_c x.row hxl
    have hh := exHolds_c e x.row
    clear hout hv bm hb
    by_cases h0 : e.length = 0
    · rw [show keepE e x = true by rw [keepE, decide_eq_true h0]; rfl, if_pos rfl] at hsn
      repeat' (first | (with_reducible (first | refine k_seq ?_ | refine k_block ?_ | refine k_skip ?_ | refine k_exit ?_ | refine k_ret ?_ | refine n_seq ?_ | refine n_block ?_ | refine e_seq ?_ | refine e_here ?_ | refine r_seq ?_ | refine o_exit ?_)) | refine s_reg ?_ | refine s_ifT ?_ | refine s_ifF ?_ | refine r_end ?_ | refine s_endD ?_ | refine s_skipS ?_ | refine s_move ?_ | refine s_assign ?_ | refine s_int ?_ | refine s_loadB1 ?_ | refine s_loadFA ?_ | refine s_indexD ?_ (hel := (by first | exact idx_map hx (by omega) | exact hx | exact rfl)) | refine s_fieldB ?_ | refine s_call (hcln) ?_ | refine s_pick ?_ | refine s_lenD ?_ | refine s_appA ?_ | refine s_storeB ?_ | refine s_bslice ?_ | refine s_alloc ?_ | refine s_not ?_ | refine s_build ?_ | refine s_defer ?_ | refine s_kT ?_ | refine s_kF ?_ | refine f_ret1 def_nil ?_ | refine t_tmp ?_ | refine t_tmpE ?_)
      (apply s_round ((i + 1, _, out ++ [x])); all_goals (try dsimp only); all_goals (try (repeat' (first | exact slots_nil | refine w1 ?_ | exact memIn_nil | refine memIn_same ?_ | refine m1 ?_ ?_ | omega))))
      all_goals first | (exact ⟨by omega, hsn.symm⟩) | (simp; done) | (rw [List.map_append]; rfl)
    · cases hk : holdsE e x.row with
      | true =>
        rw [show keepE e x = true by rw [keepE, hk, Bool.or_true], if_pos rfl] at hsn
        rw [hk] at hh
        repeat' (first | (with_reducible (first | refine k_seq ?_ | refine k_block ?_ | refine k_skip ?_ | refine k_exit ?_ | refine k_ret ?_ | refine n_seq ?_ | refine n_block ?_ | refine e_seq ?_ | refine e_here ?_ | refine r_seq ?_ | refine o_exit ?_)) | refine s_reg ?_ | refine s_ifT ?_ | refine s_ifF ?_ | refine r_end ?_ | refine s_endD ?_ | refine s_skipS ?_ | refine s_move ?_ | refine s_assign ?_ | refine s_int ?_ | refine s_loadB1 ?_ | refine s_loadFA ?_ | refine s_indexD ?_ (hel := (by first | exact idx_map hx (by omega) | exact hx | exact rfl)) | refine s_fieldB ?_ | refine s_call (hcln) ?_ | refine s_call (hh) ?_ | refine s_pick ?_ | refine s_lenD ?_ | refine s_appA ?_ | refine s_storeB ?_ | refine s_bslice ?_ | refine s_alloc ?_ | refine s_not ?_ | refine s_build ?_ | refine s_defer ?_ | refine s_kT ?_ | refine s_kF ?_ | refine f_ret1 def_nil ?_ | refine t_tmp ?_ | refine t_tmpE ?_)
        (apply s_round ((i + 1, _, out ++ [x])); all_goals (try dsimp only); all_goals (try (repeat' (first | exact slots_nil | refine w1 ?_ | exact memIn_nil | refine memIn_same ?_ | refine m1 ?_ ?_ | omega))))
        all_goals first | (exact ⟨by omega, hsn.symm⟩) | (simp; done) | (rw [List.map_append]; rfl)
      | false =>
        rw [show keepE e x = false by rw [keepE, hk, decide_eq_false h0]; rfl] at hsn
        simp only [Bool.false_eq_true, if_false, List.append_nil] at hsn
        rw [hk] at hh
        repeat' (first | (with_reducible (first | refine k_seq ?_ | refine k_block ?_ | refine k_skip ?_ | refine k_exit ?_ | refine k_ret ?_ | refine n_seq ?_ | refine n_block ?_ | refine e_seq ?_ | refine e_here ?_ | refine r_seq ?_ | refine o_exit ?_)) | refine s_reg ?_ | refine s_ifT ?_ | refine s_ifF ?_ | refine r_end ?_ | refine s_endD ?_ | refine s_skipS ?_ | refine s_move ?_ | refine s_assign ?_ | refine s_int ?_ | refine s_loadB1 ?_ | refine s_loadFA ?_ | refine s_indexD ?_ (hel := (by first | exact idx_map hx (by omega) | exact hx | exact rfl)) | refine s_fieldB ?_ | refine s_call (hcln) ?_ | refine s_call (hh) ?_ | refine s_pick ?_ | refine s_lenD ?_ | refine s_appA ?_ | refine s_storeB ?_ | refine s_bslice ?_ | refine s_alloc ?_ | refine s_not ?_ | refine s_build ?_ | refine s_defer ?_ | refine s_kT ?_ | refine s_kF ?_ | refine f_ret1 def_nil ?_ | refine t_tmp ?_ | refine t_tmpE ?_)
        (apply s_round ((i + 1, _, out)); all_goals (try dsimp only); all_goals (try (repeat' (first | exact slots_nil | refine w1 ?_ | exact memIn_nil | refine memIn_same ?_ | refine m1 ?_ ?_ | omega))))
        all_goals exact ⟨by omega, hsn.symm⟩
  · have hie : i = b.length := by omega
    subst hie
    rw [List.take_length] at hout
    rw [← hout]
    have hf : List.take out.length (out.map Entry.d) = out.map Entry.d := take_ge (by simp)
    repeat' (first | refine s_freeze 5 ?_ (hes := hf) | (with_reducible (first | refine k_seq ?_ | refine k_block ?_ | refine k_skip ?_ | refine k_exit ?_ | refine k_ret ?_ | refine n_seq ?_ | refine n_block ?_ | refine e_seq ?_ | refine e_here ?_ | refine r_seq ?_ | refine o_exit ?_)) | refine s_reg ?_ | refine s_ifT ?_ | refine s_ifF ?_ | refine r_end ?_ | refine s_endD ?_ | refine s_skipS ?_ | refine s_move ?_ | refine s_assign ?_ | refine s_int ?_ | refine s_loadB1 ?_ | refine s_loadFA ?_ | refine s_indexD ?_ (hel := (by first | exact rfl)) | refine s_fieldB ?_ | refine s_pick ?_ | refine s_lenD ?_ | refine s_appA ?_ | refine s_storeB ?_ | refine s_bslice ?_ | refine s_alloc ?_ | refine s_not ?_ | refine s_build ?_ | refine s_defer ?_ | refine s_kT ?_ | refine s_kF ?_ | refine f_ret1 (by repeat (first | exact def_nil | refine def_cons algWhere1_d ?_)) ?_ | refine t_tmp ?_ | refine t_tmpE ?_)
    all_goals rfl

end Go.Proofs.YtiidgbfdghplhaaGreat
end
