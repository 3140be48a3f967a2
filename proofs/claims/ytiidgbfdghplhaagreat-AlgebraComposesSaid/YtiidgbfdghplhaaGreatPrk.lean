/-
  Algebra: the program's Project.
-/
import Derived.Test.YtiidgbfdghplhaaGreatCfn
import Derived.Test.YtiidgbfdghplhaaGreatAlc
import Derived.Test.YtiidgbfdghplhaaGreatMpe
import Derived.Test.YtiidgbfdghplhaaGreatNrm
import Derived.Test.YtiidgbfdghplhaaGreatSam
import Derived.Test.YtiidgbfdghplhaaGreatBag
section
namespace Go.Proofs.YtiidgbfdghplhaaGreat
open Go.Abs Go.RowKit
attribute [local irreducible] ARun kont MCall PCall HCall resVal SF CF CFs defersOk slotsIn memIn fin finM VLe
set_option linter.unusedSimpArgs false
set_option maxRecDepth 100000
set_option maxHeartbeats 4000000

def proj1 (cols : List Int) (e : Entry) : Entry := ⟨cols.map (atE e.row), e.count⟩
def projE (b : List Entry) (cols : List Int) : List Entry × Int :=
  if bagValid b && (decide (cols.length ≤ 8) && cols.all fun n => decide (0 ≤ n)) then normE (b.map (proj1 cols)) else ([], 1)
def bagI (q : List Entry × Int) : PRes := .tup [.one (bagD q.1), .one (.lit (.int .i64 q.2))]

theorem proj_no1 {b : List Entry} {cols : List Int} (h : bagValid b = false) : projE b cols = ([], 1) := by unfold projE; rw [h]; rfl
theorem proj_no2 {b : List Entry} {cols : List Int} (h : 8 < cols.length) : projE b cols = ([], 1) := by
  unfold projE
  rw [decide_eq_false (by omega), Bool.false_and, Bool.and_false]; rfl
theorem proj_no3 {b : List Entry} {cols : List Int} {n : Int} (h : n ∈ cols) (hn : n < 0) : projE b cols = ([], 1) := by
  unfold projE
  have : (cols.all fun n => decide (0 ≤ n)) = false := by
    rw [Bool.eq_false_iff]
    intro hh
    have := List.all_eq_true.1 hh n h
    simp only [decide_eq_true_eq] at this; omega
  rw [this, Bool.and_false, Bool.and_false]; rfl

end Go.Proofs.YtiidgbfdghplhaaGreat
end
section
namespace Go.Proofs.YtiidgbfdghplhaaGreat
open Go.Abs Go.RowKit
attribute [local irreducible] ARun kont MCall PCall HCall resVal SF CF CFs defersOk slotsIn memIn fin finM VLe
set_option linter.unusedSimpArgs false
set_option maxRecDepth 100000
set_option maxHeartbeats 4000000

theorem algProject1_d : DeferOk Tryz.prog 54 0 := by
  refine ⟨⟨_, Tryz.func54, by kernel_rfl, by kernel_rfl⟩, fun vs w hl => ?_⟩
  match vs, hl with
  | [], _ =>
    refine callsD_of_wpS Tryz.func54 rfl fun c₀ cs hu => ?_
    apply wpS_region
    simp [wpOpsS, go_sem, recoverD, hu, Tryz.ntmps54, Exit.thenS]
    cases c₀
    simp_all [bodyPostS, results, Tryz.results54]

theorem project2_c (n : Int) : PCall Tryz.prog 56 [.one (.lit (.int .i64 n))] (.v (.one (.lit (.bool (decide (n < 0)))))) := by
  refine pcallN hT Tryz.func56 Tryz.ntmps56 [.tmp 2] fun B => ?_
  repeat' (first | (with_reducible (first | refine k_seq ?_ | refine k_ret ?_ | refine n_seq ?_)) | refine s_reg ?_ | refine r_end ?_ | refine s_move ?_ | refine s_assign ?_ | refine s_int ?_ | refine f_ret1 def_nil ?_ | refine t_tmp ?_)
  all_goals rfl

theorem project_c (b : List Entry) (cols : List Int) : PCall Tryz.prog 26 [.one (bagD b), .one (intsD cols)] (bagI (projE b cols)) := by
  have hv := bagValid_c b
  have hcn := containsI_c 56 _ project2_c cols
  by_cases hcl : 8 < cols.length
  · rw [proj_no2 hcl]
    refine pcallN hT Tryz.func26 Tryz.ntmps26 [.tmp 4, .tmp 5] fun B => ?_
    repeat' (first | (with_reducible (first | refine k_seq ?_ | refine k_block ?_ | refine k_skip ?_ | refine k_exit ?_ | refine k_ret ?_ | refine n_seq ?_ | refine n_block ?_ | refine e_seq ?_ | refine e_here ?_ | refine r_seq ?_ | refine o_exit ?_)) | refine s_reg ?_ | refine s_ifT ?_ | refine s_ifF ?_ | refine r_end ?_ | refine s_skipS ?_ | refine s_move ?_ | refine s_assign ?_ | refine s_int ?_ | refine s_loadF1 ?_ | refine s_loadB1 ?_ | refine s_loadFA ?_ | refine s_indexD ?_ (hel := (by first | exact rfl)) | refine s_indexA ?_ | refine s_fieldB ?_ | refine s_pick ?_ | refine s_lenD ?_ | refine s_appA ?_ | refine s_storeB ?_ | refine s_extract ?_ | refine s_alloc ?_ | refine s_not ?_ | refine s_build ?_ | refine s_make ?_ | refine s_defer ?_ | refine s_kT ?_ | refine s_kF ?_ | refine f_ret2 (by repeat (first | exact def_nil | refine def_cons algProject1_d ?_)) ?_ ?_ | refine t_tmp ?_ | refine t_tmpE ?_)
    all_goals rfl
  cases hca : cols.any fun n => decide (n < 0)
  case true =>
    rw [hca] at hcn
    obtain ⟨n, hn, hn0⟩ := List.any_eq_true.1 hca
    rw [proj_no3 hn (by simpa using hn0)]
    refine pcallN hT Tryz.func26 Tryz.ntmps26 [.tmp 4, .tmp 5] fun B => ?_
    repeat' (first | (with_reducible (first | refine k_seq ?_ | refine k_block ?_ | refine k_skip ?_ | refine k_exit ?_ | refine k_ret ?_ | refine n_seq ?_ | refine n_block ?_ | refine e_seq ?_ | refine e_here ?_ | refine r_seq ?_ | refine o_exit ?_)) | refine s_reg ?_ | refine s_ifT ?_ | refine s_ifF ?_ | refine r_end ?_ | refine s_skipS ?_ | refine s_move ?_ | refine s_assign ?_ | refine s_int ?_ | refine s_loadF1 ?_ | refine s_loadB1 ?_ | refine s_loadFA ?_ | refine s_indexD ?_ (hel := (by first | exact rfl)) | refine s_indexA ?_ | refine s_fieldB ?_ | refine s_call (hcn) ?_ | refine s_pick ?_ | refine s_lenD ?_ | refine s_appA ?_ | refine s_storeB ?_ | refine s_extract ?_ | refine s_alloc ?_ | refine s_not ?_ | refine s_build ?_ | refine s_make ?_ | refine s_defer ?_ | refine s_kT ?_ | refine s_kF ?_ | refine f_ret2 (by repeat (first | exact def_nil | refine def_cons algProject1_d ?_)) ?_ ?_ | refine t_tmp ?_ | refine t_tmpE ?_)
    all_goals rfl
  rw [hca] at hcn
  cases hb : bagValid b
  · rw [proj_no1 hb]
    rw [hb] at hv
    refine pcallN hT Tryz.func26 Tryz.ntmps26 [.tmp 4, .tmp 5] fun B => ?_
    repeat' (first | (with_reducible (first | refine k_seq ?_ | refine k_block ?_ | refine k_skip ?_ | refine k_exit ?_ | refine k_ret ?_ | refine n_seq ?_ | refine n_block ?_ | refine e_seq ?_ | refine e_here ?_ | refine r_seq ?_ | refine o_exit ?_)) | refine s_reg ?_ | refine s_ifT ?_ | refine s_ifF ?_ | refine r_end ?_ | refine s_skipS ?_ | refine s_move ?_ | refine s_assign ?_ | refine s_int ?_ | refine s_loadF1 ?_ | refine s_loadB1 ?_ | refine s_loadFA ?_ | refine s_indexD ?_ (hel := (by first | exact rfl)) | refine s_indexA ?_ | refine s_fieldB ?_ | refine s_call (hcn) ?_ | refine s_call (hv) ?_ | refine s_pick ?_ | refine s_lenD ?_ | refine s_appA ?_ | refine s_storeB ?_ | refine s_extract ?_ | refine s_alloc ?_ | refine s_not ?_ | refine s_build ?_ | refine s_make ?_ | refine s_defer ?_ | refine s_kT ?_ | refine s_kF ?_ | refine f_ret2 (by repeat (first | exact def_nil | refine def_cons algProject1_d ?_)) ?_ ?_ | refine t_tmp ?_ | refine t_tmpE ?_)
    all_goals rfl
  rw [hb] at hv
  obtain ⟨bl, bm⟩ := valid_mem hb
  have hpe : projE b cols = normE (b.map (proj1 cols)) := by
    unfold projE
    have : (cols.all fun n => decide (0 ≤ n)) = true := by
      rw [List.all_eq_true]
      intro n hn
      have := List.any_eq_false.1 hca n hn
      simp at this ⊢; omega
    rw [hb, this, decide_eq_true (by omega)]; rfl
  rw [hpe]
  have hno := normalizeB_c (b.map (proj1 cols)) (by simp; omega)
  generalize hN : normE (b.map (proj1 cols)) = R at hno ⊢
  clear hN
  refine pcallN hT Tryz.func26 Tryz.ntmps26 [.tmp 4, .tmp 5] fun B => ?_
  repeat' (first | (with_reducible (first | refine k_seq ?_ | refine k_block ?_ | refine k_skip ?_ | refine k_exit ?_ | refine k_ret ?_ | refine n_seq ?_ | refine n_block ?_ | refine e_seq ?_ | refine e_here ?_ | refine r_seq ?_ | refine o_exit ?_)) | refine s_reg ?_ | refine s_ifT ?_ | refine s_ifF ?_ | refine r_end ?_ | refine s_skipS ?_ | refine s_move ?_ | refine s_assign ?_ | refine s_int ?_ | refine s_loadF1 ?_ | refine s_loadB1 ?_ | refine s_loadFA ?_ | refine s_indexD ?_ (hel := (by first | exact rfl)) | refine s_indexA ?_ | refine s_fieldB ?_ | refine s_call (hcn) ?_ | refine s_call (hv) ?_ | refine s_pick ?_ | refine s_lenD ?_ | refine s_appA ?_ | refine s_storeB ?_ | refine s_extract ?_ | refine s_alloc ?_ | refine s_not ?_ | refine s_build ?_ | refine s_make ?_ | refine s_defer ?_ | refine s_kT ?_ | refine s_kF ?_ | refine f_ret2 (by repeat (first | exact def_nil | refine def_cons algProject1_d ?_)) ?_ ?_ | refine t_tmp ?_ | refine t_tmpE ?_)
  refine s_own 6 59 2 ?_
  refine s_lp (X := Nat × Nat) [6, 8, 9, 10, 11, 26, 27, 28, 29, 30, 31, 32, 33, 34, 35, 36, 37, 38, 39, 40, 41, 42, 43, 44, 45, 46, 47, 48, 49, 50, 51, 52, 53, 54, 55] (fun x => x.1 ≤ b.length) (fun x lz => (6, .c (.arr 0 x.2 (b.take x.1).length)) :: (26, (.c (.d (.lit (.int .i64 x.1))))) :: lz) (fun x => [.arr x.2 59 2 (((b.take x.1).map (proj1 cols)).map Entry.d)]) (fun x => b.length - x.1) ((0, 1)) ?_ ?_ ?_ ?_
  repeat' (first | exact slots_nil | refine w1 ?_ | exact memIn_nil | refine memIn_same ?_ | refine m1 ?_ ?_ | omega)
  rintro ⟨i, k⟩ c0 hi
  dsimp only at hi ⊢
  by_cases hlt2 : i < b.length
  · have hx : b[i]? = some b[i] := List.getElem?_eq_getElem hlt2
    generalize b[i] = e at hx
    have htk : b.take (i + 1) = b.take i ++ [e] := by rw [List.take_add_one, hx]; rfl
    have htl : (b.take i).length = i := by simp; omega
    repeat' (first | (with_reducible (first | refine k_seq ?_ | refine k_block ?_ | refine k_skip ?_ | refine k_exit ?_ | refine k_ret ?_ | refine n_seq ?_ | refine n_block ?_ | refine e_seq ?_ | refine e_here ?_ | refine r_seq ?_ | refine o_exit ?_)) | refine s_reg ?_ | refine s_ifT ?_ | refine s_ifF ?_ | refine r_end ?_ | refine s_skipS ?_ | refine s_move ?_ | refine s_assign ?_ | refine s_int ?_ | refine s_loadF1 ?_ | refine s_loadB1 ?_ | refine s_loadFA ?_ | refine s_indexD ?_ (hel := (by first | exact idx_map hx (by omega) | exact hx | exact rfl)) | refine s_indexA ?_ | refine s_fieldB ?_ | refine s_pick ?_ | refine s_lenD ?_ | refine s_appA ?_ | refine s_storeB ?_ | refine s_storeA ?_ (hj := (by first | exact hx | exact rfl)) | refine s_extract ?_ | refine s_alloc ?_ | refine s_not ?_ | refine s_build ?_ | refine s_make ?_ | refine s_defer ?_ | refine s_kT ?_ | refine s_kF ?_ | refine f_ret2 def_nil ?_ ?_ | refine t_tmp ?_ | refine t_tmpE ?_)
    refine s_lp (X := Nat) [10, 11, 35, 36, 37, 38, 39, 40, 41, 42, 43, 44, 45, 46, 47] (fun x => x ≤ cols.length) (fun x lz => (35, (.c (.d (.lit (.int .i64 x))))) :: lz) (fun x => [.arr k 59 2 (((b.take i).map (proj1 cols)).map Entry.d), .box (c0 + 1) [.d (rowD e.row), .d (.lit (.int .i64 e.count))], .arr (c0 + 1 + 1) 61 3 (((cols.take x).map fun n => (atE e.row n).d) ++ List.replicate (cols.length - x) Val.null.d)]) (fun x => cols.length - x) (0) ?_ ?_ ?_ ?_
    repeat' (first | exact slots_nil | refine w1 ?_ | exact memIn_nil | refine memIn_same ?_ | refine m1 ?_ ?_ | omega)
    rintro j c hj
    by_cases hlt3 : j < cols.length
    · have hy : cols[j]? = some cols[j] := List.getElem?_eq_getElem hlt3
      generalize cols[j] = n at hy
      have hy2 : (cols.map fun n => [Dat.lit (.int .i64 n)])[j]? = some [Dat.lit (.int .i64 n)] := by rw [List.getElem?_map, hy]; rfl
      have htk2 : cols.take (j + 1) = cols.take j ++ [n] := by rw [List.take_add_one, hy]; rfl
      have htl2 : (cols.take j).length = j := by simp; omega
      have hat := alCell_c e.row n
      have hrep : List.replicate (cols.length - j) Val.null.d = Val.null.d :: List.replicate (cols.length - (j + 1)) Val.null.d := by rw [show cols.length - j = (cols.length - (j + 1)) + 1 by omega, List.replicate_succ]
      have he : (((cols.take j).map fun n => (atE e.row n).d) ++ List.replicate (cols.length - j) Val.null.d)[j]? = some Val.null.d := by rw [hrep, List.getElem?_append_right (by simp; omega)]; simp [Nat.min_eq_left hj]
      have hset : (((cols.take j).map fun n => (atE e.row n).d) ++ List.replicate (cols.length - j) Val.null.d).set j (atE e.row n).d = ((cols.take (j + 1)).map fun n => (atE e.row n).d) ++ List.replicate (cols.length - (j + 1)) Val.null.d := by
        rw [hrep, List.set_append_right _ _ (by simp; omega), htk2]; simp [Nat.min_eq_left hj]
      repeat' (first | (with_reducible (first | refine k_seq ?_ | refine k_block ?_ | refine k_skip ?_ | refine k_exit ?_ | refine k_ret ?_ | refine n_seq ?_ | refine n_block ?_ | refine e_seq ?_ | refine e_here ?_ | refine r_seq ?_ | refine o_exit ?_)) | refine s_reg ?_ | refine s_ifT ?_ | refine s_ifF ?_ | refine r_end ?_ | refine s_skipS ?_ | refine s_move ?_ | refine s_assign ?_ | refine s_int ?_ | refine s_loadF1 ?_ | refine s_loadB1 ?_ | refine s_loadFA ?_ | refine s_indexD ?_ (hel := (by first | exact idx_map hx (by omega) | exact idx_map hy2 (by omega) | exact idx_map he (by omega) | exact hx | exact hy2 | exact he | exact rfl)) | refine s_indexA ?_ | refine s_fieldB ?_ | refine s_call (hat) ?_ | refine s_pick ?_ | refine s_lenD ?_ | refine s_appA ?_ | refine s_storeB ?_ | refine s_storeA ?_ (hj := (by first | exact hx | exact hy2 | exact he | exact rfl)) | refine s_extract ?_ | refine s_alloc ?_ | refine s_not ?_ | refine s_build ?_ | refine s_make ?_ | refine s_defer ?_ | refine s_kT ?_ | refine s_kF ?_ | refine f_ret2 def_nil ?_ ?_ | refine t_tmp ?_ | refine t_tmpE ?_)
      (apply s_round (j + 1); all_goals (try dsimp only); all_goals (try (repeat' (first | exact slots_nil | refine w1 ?_ | exact memIn_nil | refine memIn_same ?_ | refine m1 ?_ ?_ | omega))))
      exact hset
    · have hje : j = cols.length := by omega
      subst hje
      have hcf : CFrs 2 (c0 + 1 + 1) (((cols.take cols.length).map fun n => (atE e.row n).d) ++ List.replicate (cols.length - cols.length) Val.null.d) [.arr 2 (c0 + 1 + 1) cols.length, .d (.lit (.int .i64 e.count))] (proj1 cols e).d := ⟨.inl ⟨_, rfl, by simp, by rw [List.take_of_length_le (by simp)]; simp [proj1, rowD, List.map_map, Function.comp_def]⟩, .inr rfl, trivial⟩
      repeat' (first | (with_reducible (first | refine k_seq ?_ | refine k_block ?_ | refine k_skip ?_ | refine k_exit ?_ | refine k_ret ?_ | refine n_seq ?_ | refine n_block ?_ | refine e_seq ?_ | refine e_here ?_ | refine r_seq ?_ | refine o_exit ?_)) | refine s_reg ?_ | refine s_ifT ?_ | refine s_ifF ?_ | refine r_end ?_ | refine s_skipS ?_ | refine s_move ?_ | refine s_assign ?_ | refine s_int ?_ | refine s_loadF1 ?_ | refine s_loadB1 ?_ | refine s_loadFA ?_ | refine s_indexD ?_ (hel := (by first | exact idx_map hx (by omega) | exact hx | exact rfl)) | refine s_indexA ?_ | refine s_fieldB ?_ | refine s_pick ?_ | refine s_lenD ?_ | refine s_appA ?_ | refine s_storeB ?_ | refine s_storeA ?_ (hj := (by first | exact hx | exact rfl)) | refine s_extract ?_ | refine s_alloc ?_ | refine s_not ?_ | refine s_build ?_ | refine s_make ?_ | refine s_defer ?_ | refine s_bsliceF 2 ?_ hcf | refine s_kT ?_ | refine s_kF ?_ | refine f_ret2 def_nil ?_ ?_ | refine t_tmp ?_ | refine t_tmpE ?_)
      (apply s_round ((i + 1, _)); all_goals (try dsimp only); all_goals (try (repeat' (first | exact slots_nil | refine w1 ?_ | exact memIn_nil | refine memIn_same ?_ | refine m1 ?_ ?_ | omega))))
      rw [htk]; simp
  · have hie : i = b.length := by omega
    subst hie
    rw [List.take_length]
    repeat' (first | refine s_freeze 6 ?_ (hes := show List.take b.length ((b.map (proj1 cols)).map Entry.d) = (b.map (proj1 cols)).map Entry.d from List.take_of_length_le (by simp)) | (with_reducible (first | refine k_seq ?_ | refine k_block ?_ | refine k_skip ?_ | refine k_exit ?_ | refine k_ret ?_ | refine n_seq ?_ | refine n_block ?_ | refine e_seq ?_ | refine e_here ?_ | refine r_seq ?_ | refine o_exit ?_)) | refine s_reg ?_ | refine s_ifT ?_ | refine s_ifF ?_ | refine r_end ?_ | refine s_skipS ?_ | refine s_move ?_ | refine s_assign ?_ | refine s_int ?_ | refine s_loadF1 ?_ | refine s_loadB1 ?_ | refine s_loadFA ?_ | refine s_indexD ?_ (hel := (by first | exact rfl)) | refine s_indexA ?_ | refine s_fieldB ?_ | refine s_call (hno) ?_ | refine s_pick ?_ | refine s_lenD ?_ | refine s_appA ?_ | refine s_storeB ?_ | refine s_extract ?_ | refine s_alloc ?_ | refine s_not ?_ | refine s_build ?_ | refine s_make ?_ | refine s_defer ?_ | refine s_kT ?_ | refine s_kF ?_ | refine f_ret2 (by repeat (first | exact def_nil | refine def_cons algProject1_d ?_)) ?_ ?_ | refine t_tmp ?_ | refine t_tmpE ?_)
    all_goals rfl
end Go.Proofs.YtiidgbfdghplhaaGreat
end
