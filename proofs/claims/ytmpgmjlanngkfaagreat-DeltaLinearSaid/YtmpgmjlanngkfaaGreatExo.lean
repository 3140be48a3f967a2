/-
  Algebra: Map.
-/
import Derived.Test.YtmpgmjlanngkfaaGreatExg
import Derived.Test.YtmpgmjlanngkfaaGreatExn
import Derived.Test.YtmpgmjlanngkfaaGreatSam
import Derived.Test.YtmpgmjlanngkfaaGreatNrm
import Derived.Test.YtmpgmjlanngkfaaGreatPrj
import Derived.Test.YtmpgmjlanngkfaaGreatBag
namespace Go.Proofs.YtmpgmjlanngkfaaGreat
open Go.Abs Go.RowKit
attribute [local irreducible] ARun kont MCall PCall HCall resVal SF CF CFs defersOk slotsIn memIn fin finM VLe
set_option linter.unusedSimpArgs false
set_option maxRecDepth 100000
set_option maxHeartbeats 4000000

theorem algMap1_d : DeferOk Tryz.prog 147 0 := by
  refine ⟨⟨_, Tryz.func147, by kernel_rfl, by kernel_rfl⟩, fun vs w hl => ?_⟩
  match vs, hl with
  | [], _ =>
    refine callsD_of_wpS Tryz.func147 rfl fun c₀ cs hu => ?_
    apply wpS_region
    simp [wpOpsS, go_sem, recoverD, hu, Tryz.ntmps147, Exit.thenS]
    cases c₀
    simp_all [bodyPostS, results, Tryz.results147]

def map1 (items : List (List Trm)) (e : Entry) : Entry := ⟨items.map fun t => evE t e.row, e.count⟩
def mapE (b : List Entry) (items : List (List Trm)) : List Entry × Int :=
  if bagValid b && decide (items.length ≤ 8) then normE (b.map (map1 items)) else ([], 1)

theorem map_c (b : List Entry) (items : List (List Trm)) : PCall Tryz.prog 91 [.one (bagD b), .one (partsD items)] (bagI (mapE b items)) := by
  have hv := bagValid_c b
  by_cases hil : 8 < items.length
  · rw [show mapE b items = ([], 1) by rw [mapE, decide_eq_false (by omega), Bool.and_false]; rfl]
    refine pcallN hT Tryz.func91 Tryz.ntmps91 [.tmp 4, .tmp 5] fun B => ?_
    repeat' (first | (with_reducible (first | refine k_seq ?_ | refine k_block ?_ | refine k_skip ?_ | refine k_exit ?_ | refine k_ret ?_ | refine n_seq ?_ | refine n_block ?_ | refine e_seq ?_ | refine e_here ?_ | refine r_seq ?_ | refine o_exit ?_)) | refine s_reg ?_ | refine s_ifT ?_ | refine s_ifF ?_ | refine r_end ?_ | refine s_skipS ?_ | refine s_move ?_ | refine s_assign ?_ | refine s_int ?_ | refine s_loadF1 ?_ | refine s_loadB1 ?_ | refine s_loadFA ?_ | refine s_indexD ?_ (hel := (by first | exact rfl)) | refine s_indexA ?_ | refine s_fieldB ?_ | refine s_pick ?_ | refine s_lenD ?_ | refine s_appA ?_ | refine s_storeB ?_ | refine s_extract ?_ | refine s_alloc ?_ | refine s_not ?_ | refine s_build ?_ | refine s_make ?_ | refine s_defer ?_ | refine s_kT ?_ | refine s_kF ?_ | refine f_ret2 (by repeat (first | exact def_nil | refine def_cons algMap1_d ?_)) ?_ ?_ | refine t_tmp ?_ | refine t_tmpE ?_)
    all_goals rfl
  cases hb : bagValid b
  · rw [show mapE b items = ([], 1) by rw [mapE, hb]; rfl]
    rw [hb] at hv
    refine pcallN hT Tryz.func91 Tryz.ntmps91 [.tmp 4, .tmp 5] fun B => ?_
    repeat' (first | (with_reducible (first | refine k_seq ?_ | refine k_block ?_ | refine k_skip ?_ | refine k_exit ?_ | refine k_ret ?_ | refine n_seq ?_ | refine n_block ?_ | refine e_seq ?_ | refine e_here ?_ | refine r_seq ?_ | refine o_exit ?_)) | refine s_reg ?_ | refine s_ifT ?_ | refine s_ifF ?_ | refine r_end ?_ | refine s_skipS ?_ | refine s_move ?_ | refine s_assign ?_ | refine s_int ?_ | refine s_loadF1 ?_ | refine s_loadB1 ?_ | refine s_loadFA ?_ | refine s_indexD ?_ (hel := (by first | exact rfl)) | refine s_indexA ?_ | refine s_fieldB ?_ | refine s_call (hv) ?_ | refine s_pick ?_ | refine s_lenD ?_ | refine s_appA ?_ | refine s_storeB ?_ | refine s_extract ?_ | refine s_alloc ?_ | refine s_not ?_ | refine s_build ?_ | refine s_make ?_ | refine s_defer ?_ | refine s_kT ?_ | refine s_kF ?_ | refine f_ret2 (by repeat (first | exact def_nil | refine def_cons algMap1_d ?_)) ?_ ?_ | refine t_tmp ?_ | refine t_tmpE ?_)
    all_goals rfl
  rw [hb] at hv
  obtain ⟨bl, bm⟩ := valid_mem hb
  have hpe : mapE b items = normE (b.map (map1 items)) := by rw [mapE, hb, decide_eq_true (by omega)]; rfl
  rw [hpe]
  have hno := normalizeB_c (b.map (map1 items)) (by simp; omega)
  generalize hN : normE (b.map (map1 items)) = R at hno ⊢
  clear hN hpe
  unfold partsD
  refine pcallN hT Tryz.func91 Tryz.ntmps91 [.tmp 4, .tmp 5] fun B => ?_
  repeat' (first | (with_reducible (first | refine k_seq ?_ | refine k_block ?_ | refine k_skip ?_ | refine k_exit ?_ | refine k_ret ?_ | refine n_seq ?_ | refine n_block ?_ | refine e_seq ?_ | refine e_here ?_ | refine r_seq ?_ | refine o_exit ?_)) | refine s_reg ?_ | refine s_ifT ?_ | refine s_ifF ?_ | refine r_end ?_ | refine s_skipS ?_ | refine s_move ?_ | refine s_assign ?_ | refine s_int ?_ | refine s_loadF1 ?_ | refine s_loadB1 ?_ | refine s_loadFA ?_ | refine s_indexD ?_ (hel := (by first | exact rfl)) | refine s_indexA ?_ | refine s_fieldB ?_ | refine s_call (hv) ?_ | refine s_pick ?_ | refine s_lenD ?_ | refine s_appA ?_ | refine s_storeB ?_ | refine s_extract ?_ | refine s_alloc ?_ | refine s_not ?_ | refine s_build ?_ | refine s_make ?_ | refine s_defer ?_ | refine s_kT ?_ | refine s_kF ?_ | refine f_ret2 (by repeat (first | exact def_nil | refine def_cons algMap1_d ?_)) ?_ ?_ | refine t_tmp ?_ | refine t_tmpE ?_)
  refine s_own 6 56 2 ?_
  refine s_lp (X := Nat × Nat) [6, 8, 9, 10, 11, 22, 23, 24, 25, 26, 27, 28, 29, 30, 31, 32, 33, 34, 35, 36, 37, 38, 39, 40, 41, 42, 43, 44, 45, 46, 47, 48, 49, 50, 51] (fun x => x.1 ≤ b.length) (fun x lz => (6, .c (.arr 0 x.2 (b.take x.1).length)) :: (22, (.c (.d (.lit (.int .i64 x.1))))) :: lz) (fun x => [.arr x.2 56 2 (((b.take x.1).map (map1 items)).map Entry.d)]) (fun x => b.length - x.1) ((0, 1)) ?_ ?_ ?_ ?_
  repeat' (first | exact slots_nil | refine w1 ?_ | exact memIn_nil | refine memIn_same ?_ | refine m1 ?_ ?_ | omega)
  rintro ⟨i, k⟩ c0 hi
  dsimp only at hi ⊢
  by_cases hlt2 : i < b.length
  · have hx : b[i]? = some b[i] := List.getElem?_eq_getElem hlt2
    generalize b[i] = e at hx
    have htk : b.take (i + 1) = b.take i ++ [e] := by rw [List.take_add_one, hx]; rfl
    have htl : (b.take i).length = i := by simp; omega
    repeat' (first | (with_reducible (first | refine k_seq ?_ | refine k_block ?_ | refine k_skip ?_ | refine k_exit ?_ | refine k_ret ?_ | refine n_seq ?_ | refine n_block ?_ | refine e_seq ?_ | refine e_here ?_ | refine r_seq ?_ | refine o_exit ?_)) | refine s_reg ?_ | refine s_ifT ?_ | refine s_ifF ?_ | refine r_end ?_ | refine s_skipS ?_ | refine s_move ?_ | refine s_assign ?_ | refine s_int ?_ | refine s_loadF1 ?_ | refine s_loadB1 ?_ | refine s_loadFA ?_ | refine s_indexD ?_ (hel := (by first | exact idx_map hx (by omega) | exact hx | exact rfl)) | refine s_indexA ?_ | refine s_fieldB ?_ | refine s_pick ?_ | refine s_lenD ?_ | refine s_appA ?_ | refine s_storeB ?_ | refine s_storeA ?_ (hj := (by first | exact hx | exact rfl)) | refine s_extract ?_ | refine s_alloc ?_ | refine s_not ?_ | refine s_build ?_ | refine s_make ?_ | refine s_defer ?_ | refine s_kT ?_ | refine s_kF ?_ | refine f_ret2 def_nil ?_ ?_ | refine t_tmp ?_ | refine t_tmpE ?_)
    refine s_lp (X := Nat) [10, 11, 31, 32, 33, 34, 35, 36, 37, 38, 39, 40, 41, 42, 43] (fun x => x ≤ items.length) (fun x lz => (31, (.c (.d (.lit (.int .i64 x))))) :: lz) (fun x => [.arr k 56 2 (((b.take i).map (map1 items)).map Entry.d), .box (c0 + 1) [.d (rowD e.row), .d (.lit (.int .i64 e.count))], .arr (c0 + 1 + 1) 73 3 (((items.take x).map fun t => (evE t e.row).d) ++ List.replicate (items.length - x) Val.null.d)]) (fun x => items.length - x) (0) ?_ ?_ ?_ ?_
    repeat' (first | exact slots_nil | refine w1 ?_ | exact memIn_nil | refine memIn_same ?_ | refine m1 ?_ ?_ | omega)
    rintro j c hj
    by_cases hlt3 : j < items.length
    · have hy : items[j]? = some items[j] := List.getElem?_eq_getElem hlt3
      generalize items[j] = t at hy
      have hy2 : (items.map fun s => [exprD s])[j]? = some [exprD t] := by rw [List.getElem?_map, hy]; rfl
      have htk2 : items.take (j + 1) = items.take j ++ [t] := by rw [List.take_add_one, hy]; rfl
      have hat := exEval_c t e.row
      have hrep : List.replicate (items.length - j) Val.null.d = Val.null.d :: List.replicate (items.length - (j + 1)) Val.null.d := by rw [show items.length - j = (items.length - (j + 1)) + 1 by omega, List.replicate_succ]
      have he : (((items.take j).map fun t => (evE t e.row).d) ++ List.replicate (items.length - j) Val.null.d)[j]? = some Val.null.d := by rw [hrep, List.getElem?_append_right (by simp; omega)]; simp [Nat.min_eq_left hj]
      have hset : (((items.take j).map fun t => (evE t e.row).d) ++ List.replicate (items.length - j) Val.null.d).set j (evE t e.row).d = ((items.take (j + 1)).map fun t => (evE t e.row).d) ++ List.replicate (items.length - (j + 1)) Val.null.d := by
        rw [hrep, List.set_append_right _ _ (by simp; omega), htk2]; simp [Nat.min_eq_left hj]
      repeat' (first | (with_reducible (first | refine k_seq ?_ | refine k_block ?_ | refine k_skip ?_ | refine k_exit ?_ | refine k_ret ?_ | refine n_seq ?_ | refine n_block ?_ | refine e_seq ?_ | refine e_here ?_ | refine r_seq ?_ | refine o_exit ?_)) | refine s_reg ?_ | refine s_ifT ?_ | refine s_ifF ?_ | refine r_end ?_ | refine s_skipS ?_ | refine s_move ?_ | refine s_assign ?_ | refine s_int ?_ | refine s_loadF1 ?_ | refine s_loadB1 ?_ | refine s_loadFA ?_ | refine s_indexD ?_ (hel := (by first | exact idx_map hx (by omega) | exact idx_map hy2 (by omega) | exact idx_map he (by omega) | exact hx | exact hy2 | exact he | exact rfl)) | refine s_indexA ?_ | refine s_fieldB ?_ | refine s_call (hat) ?_ | refine s_pick ?_ | refine s_lenD ?_ | refine s_appA ?_ | refine s_storeB ?_ | refine s_storeA ?_ (hj := (by first | exact hx | exact hy2 | exact he | exact rfl)) | refine s_extract ?_ | refine s_alloc ?_ | refine s_not ?_ | refine s_build ?_ | refine s_make ?_ | refine s_defer ?_ | refine s_kT ?_ | refine s_kF ?_ | refine f_ret2 def_nil ?_ ?_ | refine t_tmp ?_ | refine t_tmpE ?_)
      (apply s_round (j + 1); all_goals (try dsimp only); all_goals (try (repeat' (first | exact slots_nil | refine w1 ?_ | exact memIn_nil | refine memIn_same ?_ | refine m1 ?_ ?_ | omega))))
      exact hset
    · have hje : j = items.length := by omega
      subst hje
      have hcf : CFrs 2 (c0 + 1 + 1) (((items.take items.length).map fun t => (evE t e.row).d) ++ List.replicate (items.length - items.length) Val.null.d) [.arr 2 (c0 + 1 + 1) items.length, .d (.lit (.int .i64 e.count))] (map1 items e).d := ⟨.inl ⟨_, rfl, by simp, by rw [List.take_of_length_le (by simp)]; simp [map1, rowD, List.map_map, Function.comp_def]⟩, .inr rfl, trivial⟩
      repeat' (first | (with_reducible (first | refine k_seq ?_ | refine k_block ?_ | refine k_skip ?_ | refine k_exit ?_ | refine k_ret ?_ | refine n_seq ?_ | refine n_block ?_ | refine e_seq ?_ | refine e_here ?_ | refine r_seq ?_ | refine o_exit ?_)) | refine s_reg ?_ | refine s_ifT ?_ | refine s_ifF ?_ | refine r_end ?_ | refine s_skipS ?_ | refine s_move ?_ | refine s_assign ?_ | refine s_int ?_ | refine s_loadF1 ?_ | refine s_loadB1 ?_ | refine s_loadFA ?_ | refine s_indexD ?_ (hel := (by first | exact idx_map hx (by omega) | exact hx | exact rfl)) | refine s_indexA ?_ | refine s_fieldB ?_ | refine s_pick ?_ | refine s_lenD ?_ | refine s_appA ?_ | refine s_storeB ?_ | refine s_storeA ?_ (hj := (by first | exact hx | exact rfl)) | refine s_extract ?_ | refine s_alloc ?_ | refine s_not ?_ | refine s_build ?_ | refine s_make ?_ | refine s_defer ?_ | refine s_bsliceF 2 ?_ hcf | refine s_kT ?_ | refine s_kF ?_ | refine f_ret2 def_nil ?_ ?_ | refine t_tmp ?_ | refine t_tmpE ?_)
      (apply s_round ((i + 1, _)); all_goals (try dsimp only); all_goals (try (repeat' (first | exact slots_nil | refine w1 ?_ | exact memIn_nil | refine memIn_same ?_ | refine m1 ?_ ?_ | omega))))
      rw [htk]; simp
  · have hie : i = b.length := by omega
    subst hie
    rw [List.take_length]
    repeat' (first | refine s_freeze 6 ?_ (hes := show List.take b.length ((b.map (map1 items)).map Entry.d) = (b.map (map1 items)).map Entry.d from List.take_of_length_le (by simp)) | (with_reducible (first | refine k_seq ?_ | refine k_block ?_ | refine k_skip ?_ | refine k_exit ?_ | refine k_ret ?_ | refine n_seq ?_ | refine n_block ?_ | refine e_seq ?_ | refine e_here ?_ | refine r_seq ?_ | refine o_exit ?_)) | refine s_reg ?_ | refine s_ifT ?_ | refine s_ifF ?_ | refine r_end ?_ | refine s_skipS ?_ | refine s_move ?_ | refine s_assign ?_ | refine s_int ?_ | refine s_loadF1 ?_ | refine s_loadB1 ?_ | refine s_loadFA ?_ | refine s_indexD ?_ (hel := (by first | exact rfl)) | refine s_indexA ?_ | refine s_fieldB ?_ | refine s_call (hno) ?_ | refine s_pick ?_ | refine s_lenD ?_ | refine s_appA ?_ | refine s_storeB ?_ | refine s_extract ?_ | refine s_alloc ?_ | refine s_not ?_ | refine s_build ?_ | refine s_make ?_ | refine s_defer ?_ | refine s_kT ?_ | refine s_kF ?_ | refine f_ret2 (by repeat (first | exact def_nil | refine def_cons algMap1_d ?_)) ?_ ?_ | refine t_tmp ?_ | refine t_tmpE ?_)
    all_goals rfl

end Go.Proofs.YtmpgmjlanngkfaaGreat
