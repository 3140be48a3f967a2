/-
  Algebra: the joiner's sums as a bag.
-/
import Derived.Test.YtiidgbfdghplhaaGreatJoi
import Derived.Test.YtiidgbfdghplhaaGreatNrm
namespace Go.Proofs.YtiidgbfdghplhaaGreat
open Go.Abs Go.RowKit
attribute [local irreducible] ARun kont MCall PCall HCall resVal SF CF CFs defersOk slotsIn memIn fin finM VLe
set_option linter.unusedSimpArgs false
set_option maxRecDepth 100000
set_option maxHeartbeats 4000000

def encP (e : Entry) : Bs × Int := (encRow e.row, e.count)
def enE (e : Entry) : List Dat := [strD (encRow e.row), .lit (.int .i64 e.count)]
theorem enE_map (rs : List Entry) : (rs.map encP).map enD = rs.map enE := by rw [List.map_map]; rfl

theorem entCmp1_c (a b : Entry) : PCall Tryz.prog 123 [.agg a.d, .agg b.d] (.v (.one (.lit (.int .i64 (entCmp a b))))) := by
  refine pcallN hT Tryz.func123 Tryz.ntmps123 [.tmp 4] fun B => ?_
  repeat' (first | (with_reducible (first | refine k_seq ?_ | refine k_ret ?_ | refine n_seq ?_)) | refine s_reg ?_ | refine r_end ?_ | refine s_assign ?_ | refine s_loadB1 ?_ | refine s_fieldB ?_ | refine s_call (compareRows_c _ _) ?_ | refine s_box ?_ | refine f_ret1 def_nil ?_ | refine t_tmp ?_)
  all_goals rfl

theorem entriesF_h (st : List Lev) (s : List (Bs × Int)) (rs : List Entry) (hrl : rs.length ≤ 4096) (hok : ∀ e ∈ rs, rowOK e.row = true) (hco : rs.all (fun e => countOK e.count) = false) :
    HCall Tryz.prog 94 [.c (.bp 0 0 0)] (jm st s (rs.map encP)) (.tup [.c .emp, .c (.d (.lit (.int .i64 9)))]) [.dead, .dead, .dead, .dead] := by
  refine hcallN hT Tryz.func94 Tryz.ntmps94 [.tmp 2, .tmp 3] fun B => ?_
  repeat' (first | (with_reducible (first | refine k_seq ?_ | refine k_block ?_ | refine k_skip ?_ | refine k_ret ?_ | refine n_seq ?_ | refine n_block ?_ | refine r_seq ?_ | refine r_block ?_ | refine o_ret ?_)) | refine s_reg ?_ | refine s_ifT ?_ | refine s_ifF ?_ | refine r_end ?_ | refine s_skipS ?_ | refine s_move ?_ | refine s_assign ?_ | refine s_int ?_ | refine s_nilB ?_ | refine s_loadB1 ?_ | refine s_indexA ?_ | refine s_fieldB ?_ | refine s_pick ?_ | refine s_lenA ?_ | refine s_appA ?_ | refine s_storeB ?_ | refine s_bslice ?_ | refine s_extract ?_ | refine s_alloc ?_ | refine s_build ?_ | refine s_kF ?_ | refine s_split rfl rfl (fun hb => ?_) (fun hb => ?_) | refine fh_ret2 def_nil ?_ ?_ | exact memIn_nil | refine memIn_same ?_ | refine m1 ?_ ?_ | refine memIn_dead ?_ | exact am_same)
  refine s_own 4 59 2 ?_
  refine s_lp (X := Nat × Nat) [2, 3, 4, 6, 7, 8, 14, 15, 16, 17, 18, 19, 20, 21, 22, 23, 24, 25, 26, 27, 28, 29, 30, 31, 32, 33, 34, 35, 36, 37, 38, 39, 40, 41, 42] (fun x => x.1 ≤ rs.length ∧ (rs.take x.1).all (fun e => countOK e.count) = true) (fun x lz => (4, .c (.arr 4 x.2 (rs.take x.1).length)) :: (14, (.c (.d (.lit (.int .i64 x.1))))) :: lz) (fun x => [.box 0 [.arr 1 0 st.length, .mp 2 0, .arr 3 0 (rs.map encP).length], .arr 0 136 2 (st.map Lev.d), .mapb 0 9 2 (s.map kvS), .arr 0 108 2 (rs.map enE), .arr x.2 59 2 ((rs.take x.1).map Entry.d)]) (fun x => rs.length - x.1) ((0, 1)) ?_ ?_ ?_ ?_
  repeat' (first | exact slots_nil | refine w1 ?_ | exact memIn_nil | refine memIn_same ?_ | refine m1 ?_ ?_ | refine memIn_dead ?_ | omega)
  · exact enE_map rs
  · exact ⟨by simp, by simp⟩
  rintro ⟨i, k⟩ c ⟨hi, hinv⟩
  dsimp only at hi hinv ⊢
  by_cases hlt : i < rs.length
  · have hv : rs[i]? = some rs[i] := List.getElem?_eq_getElem hlt
    have hro := hok _ (List.getElem_mem hlt)
    generalize rs[i] = e at hv hro
    have hv2 : (rs.map enE)[i]? = some (enE e) := by rw [List.getElem?_map, hv]; rfl
    have hml : (rs.map encP).length = rs.length := by simp
    have htk : rs.take (i + 1) = rs.take i ++ [e] := by rw [List.take_add_one, hv]; rfl
    have htl : (rs.take i).length = i := by simp; omega
    have hdec := decodeRow_c _ hro
    by_cases hc : countOK e.count = true
    · have hcb : -262144 ≤ e.count ∧ e.count ≤ 262144 := by simpa [countOK] using hc
      repeat' (first | (with_reducible (first | refine k_seq ?_ | refine k_block ?_ | refine k_skip ?_ | refine k_ret ?_ | refine n_seq ?_ | refine n_block ?_ | refine r_seq ?_ | refine r_block ?_ | refine o_ret ?_)) | refine s_reg ?_ | refine s_ifT ?_ | refine s_ifF ?_ | refine r_end ?_ | refine s_skipS ?_ | refine s_move ?_ | refine s_assign ?_ | refine s_int ?_ | refine s_nilB ?_ | refine s_loadB1 ?_ | refine s_loadAA ?_ (he' := (by first | exact hv2 | exact rfl)) | refine s_indexA ?_ | refine s_fieldB ?_ | refine s_call (hdec) ?_ | refine s_pick ?_ | refine s_lenA ?_ | refine s_appA ?_ | refine s_storeB ?_ | refine s_bslice ?_ | refine s_extract ?_ | refine s_alloc ?_ | refine s_build ?_ | refine s_kF ?_ | refine s_split rfl rfl (fun hb => ?_) (fun hb => ?_) | refine fh_ret2 def_nil ?_ ?_ | exact memIn_nil | refine memIn_same ?_ | refine m1 ?_ ?_ | refine memIn_dead ?_ | exact am_same)
      (apply s_round ((i + 1, _)); all_goals (try dsimp only); all_goals (try (repeat' (first | exact slots_nil | refine w1 ?_ | exact memIn_nil | refine memIn_same ?_ | refine m1 ?_ ?_ | refine memIn_dead ?_ | omega))))
      · rw [htk, List.map_append]; rfl
      · exact ⟨by omega, take_all (fun e : Entry => countOK e.count) hv hinv hc⟩
    · have hcb : e.count < -262144 ∨ 262144 < e.count := by simp [countOK] at hc; omega
      repeat' (first | (with_reducible (first | refine k_seq ?_ | refine k_block ?_ | refine k_skip ?_ | refine k_ret ?_ | refine n_seq ?_ | refine n_block ?_ | refine r_seq ?_ | refine r_block ?_ | refine o_ret ?_)) | refine s_reg ?_ | refine s_ifT ?_ | refine s_ifF ?_ | refine r_end ?_ | refine s_skipS ?_ | refine s_move ?_ | refine s_assign ?_ | refine s_int ?_ | refine s_nilB ?_ | refine s_loadB1 ?_ | refine s_loadAA ?_ (he' := (by first | exact hv2 | exact rfl)) | refine s_indexA ?_ | refine s_fieldB ?_ | refine s_call (hdec) ?_ | refine s_pick ?_ | refine s_lenA ?_ | refine s_appA ?_ | refine s_storeB ?_ | refine s_bslice ?_ | refine s_extract ?_ | refine s_alloc ?_ | refine s_build ?_ | refine s_kF ?_ | refine s_split rfl rfl (fun hb => ?_) (fun hb => ?_) | refine fh_ret2 def_nil ?_ ?_ | exact memIn_nil | refine memIn_same ?_ | refine m1 ?_ ?_ | refine memIn_dead ?_ | exact am_same)
  · rw [take_ge (by omega)] at hinv
    rw [hinv] at hco
    cases hco

theorem entriesT_h (st : List Lev) (s : List (Bs × Int)) (rs : List Entry) (hrl : rs.length ≤ 4096) (hok : ∀ e ∈ rs, rowOK e.row = true) (hco : ∀ e ∈ rs, countOK e.count = true) :
    HCall Tryz.prog 94 [.c (.bp 0 0 0)] (jm st s (rs.map encP)) (.tup [.c (.arr 4 1 rs.length), .c (.d (.lit (.int .i64 0)))]) [.dead, .dead, .dead, .dead, .arr 1 59 2 ((sortF entCmp rs).map Entry.d)] := by
  have hS := sortF87_h Entry.d (fun _ => rfl) entCmp entCmp_ok.swo 123 rs (by omega) (fun x _ y _ => entCmp1_c x y)
  refine hcallN hT Tryz.func94 Tryz.ntmps94 [.tmp 2, .tmp 3] fun B => ?_
  repeat' (first | (with_reducible (first | refine k_seq ?_ | refine k_block ?_ | refine k_skip ?_ | refine k_exit ?_ | refine k_ret ?_ | refine n_seq ?_ | refine n_block ?_ | refine e_seq ?_ | refine e_here ?_ | refine o_exit ?_)) | refine s_reg ?_ | refine s_ifT ?_ | refine s_ifF ?_ | refine r_end ?_ | refine s_move ?_ | refine s_assign ?_ | refine s_int ?_ | refine s_nilB ?_ | refine s_loadB1 ?_ | refine s_indexA ?_ | refine s_fieldB ?_ | refine s_pick ?_ | refine s_lenA ?_ | refine s_appA ?_ | refine s_storeB ?_ | refine s_bslice ?_ | refine s_extract ?_ | refine s_alloc ?_ | refine s_build ?_ | refine s_kF ?_ | refine fh_ret2 def_nil ?_ ?_ | exact memIn_nil | refine memIn_same ?_ | refine m1 ?_ ?_ | refine memIn_dead ?_ | exact am_same)
  refine s_own 4 59 2 ?_
  refine s_lp (X := Nat × Nat) [2, 3, 4, 6, 7, 8, 14, 15, 16, 17, 18, 19, 20, 21, 22, 23, 24, 25, 26, 27, 28, 29, 30, 31, 32, 33, 34, 35, 36, 37, 38, 39, 40, 41, 42] (fun x => x.1 ≤ rs.length) (fun x lz => (4, .c (.arr 4 x.2 (rs.take x.1).length)) :: (14, (.c (.d (.lit (.int .i64 x.1))))) :: lz) (fun x => [.box 0 [.arr 1 0 st.length, .mp 2 0, .arr 3 0 (rs.map encP).length], .arr 0 136 2 (st.map Lev.d), .mapb 0 9 2 (s.map kvS), .arr 0 108 2 (rs.map enE), .arr x.2 59 2 ((rs.take x.1).map Entry.d)]) (fun x => rs.length - x.1) ((0, 1)) ?_ ?_ ?_ ?_
  repeat' (first | exact slots_nil | refine w1 ?_ | exact memIn_nil | refine memIn_same ?_ | refine m1 ?_ ?_ | refine memIn_dead ?_ | omega)
  · exact enE_map rs
  rintro ⟨i, k⟩ c hi
  dsimp only at hi ⊢
  by_cases hlt : i < rs.length
  · have hv : rs[i]? = some rs[i] := List.getElem?_eq_getElem hlt
    have hro := hok _ (List.getElem_mem hlt)
    have hc := hco _ (List.getElem_mem hlt)
    generalize rs[i] = e at hv hro hc
    have hv2 : (rs.map enE)[i]? = some (enE e) := by rw [List.getElem?_map, hv]; rfl
    have hml : (rs.map encP).length = rs.length := by simp
    have htk : rs.take (i + 1) = rs.take i ++ [e] := by rw [List.take_add_one, hv]; rfl
    have htl : (rs.take i).length = i := by simp; omega
    have hdec := decodeRow_c _ hro
    have hcb : -262144 ≤ e.count ∧ e.count ≤ 262144 := by simpa [countOK] using hc
    repeat' (first | (with_reducible (first | refine k_seq ?_ | refine k_block ?_ | refine k_skip ?_ | refine k_exit ?_ | refine k_ret ?_ | refine n_seq ?_ | refine n_block ?_ | refine e_seq ?_ | refine e_here ?_ | refine o_exit ?_)) | refine s_reg ?_ | refine s_ifT ?_ | refine s_ifF ?_ | refine r_end ?_ | refine s_move ?_ | refine s_assign ?_ | refine s_int ?_ | refine s_nilB ?_ | refine s_loadB1 ?_ | refine s_loadAA ?_ (he' := (by first | exact hv2 | exact rfl)) | refine s_indexA ?_ | refine s_fieldB ?_ | refine s_call (hdec) ?_ | refine s_pick ?_ | refine s_lenA ?_ | refine s_appA ?_ | refine s_storeB ?_ | refine s_bslice ?_ | refine s_extract ?_ | refine s_alloc ?_ | refine s_build ?_ | refine s_kF ?_ | refine fh_ret2 def_nil ?_ ?_ | exact memIn_nil | refine memIn_same ?_ | refine m1 ?_ ?_ | refine memIn_dead ?_ | exact am_same)
    (apply s_round ((i + 1, _)); all_goals (try dsimp only); all_goals (try (repeat' (first | exact slots_nil | refine w1 ?_ | exact memIn_nil | refine memIn_same ?_ | refine m1 ?_ ?_ | refine memIn_dead ?_ | omega))))
    · rw [htk, List.map_append]; rfl
  · rw [take_ge (show rs.length ≤ i by omega)]
    have hml : (rs.map encP).length = rs.length := by simp
    repeat' (first | (with_reducible (first | refine k_seq ?_ | refine k_block ?_ | refine k_skip ?_ | refine k_exit ?_ | refine k_ret ?_ | refine n_seq ?_ | refine n_block ?_ | refine e_seq ?_ | refine e_here ?_ | refine o_exit ?_)) | refine s_reg ?_ | refine s_ifT ?_ | refine s_ifF ?_ | refine r_end ?_ | refine s_move ?_ | refine s_assign ?_ | refine s_int ?_ | refine s_nilB ?_ | refine s_loadB1 ?_ | refine s_indexA ?_ | refine s_fieldB ?_ | refine s_callH [4] (hS) ?_ | refine s_pick ?_ | refine s_lenA ?_ | refine s_appA ?_ | refine s_storeB ?_ | refine s_bslice ?_ | refine s_extract ?_ | refine s_alloc ?_ | refine s_build ?_ | refine s_kF ?_ | refine fh_ret2 def_nil ?_ ?_ | exact memIn_nil | refine memIn_same ?_ | refine m1 ?_ ?_ | refine memIn_dead ?_ | exact am_same)
end Go.Proofs.YtiidgbfdghplhaaGreat
