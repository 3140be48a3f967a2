/-
  The cache: cells, selections, valid lists of entries; the document's and the program's own.
-/
import Derived.Test.YtmejclckkmpggaaSmr
namespace Go.Proofs.Ytmejclckkmpggaa
open Go.Abs Go.RowKit
attribute [local irreducible] ARun kont MCall PCall HCall resVal SF CF CFs defersOk slotsIn memIn fin finM VLe
set_option linter.unusedSimpArgs false
set_option maxRecDepth 100000
set_option maxHeartbeats 4000000

theorem select1_d : DeferOk Try.prog 40 1 := by
  refine ⟨⟨_, Try.func40, by kernel_rfl, by kernel_rfl⟩, fun vs w hl => ?_⟩
  match vs, hl with
  | [p0], _ =>
    refine callsD_of_wpS Try.func40 rfl fun c₀ cs hu => ?_
    apply wpS_seq
    apply wpS_region
    simp [wpOpsS, go_sem, recoverD, hu, Try.ntmps40, Exit.thenS]
    refine wpS_cond (t := false) (by simp [Act.eval, Array.replicate]) ?_
    simp only [Bool.false_eq_true, if_false]
    refine wpS_of_wp (wp_skip ?_)
    cases c₀
    simp_all [bodyPostS, results, Try.results40]
theorem cvalid1_d : DeferOk Try.prog 64 1 := by
  refine ⟨⟨_, Try.func64, by kernel_rfl, by kernel_rfl⟩, fun vs w hl => ?_⟩
  match vs, hl with
  | [p0], _ =>
    refine callsD_of_wpS Try.func64 rfl fun c₀ cs hu => ?_
    apply wpS_seq
    apply wpS_region
    simp [wpOpsS, go_sem, recoverD, hu, Try.ntmps64, Exit.thenS]
    refine wpS_cond (t := false) (by simp [Act.eval, Array.replicate]) ?_
    simp only [Bool.false_eq_true, if_false]
    refine wpS_of_wp (wp_skip ?_)
    cases c₀
    simp_all [bodyPostS, results, Try.results64]

structure Cach where
  val : Val
  rows : List Entry
  day : Int
def Cach.d (x : Cach) : List Dat := [.lit (.int .i64 x.val.kind), .lit (.int .i64 x.val.int), .lit (.string x.val.text), bagD x.rows, .lit (.int .i64 x.day)]
def cachD (s : List Cach) : Dat := .sl (s.map Cach.d)

def cellE (row : List Val) (col : Int) : Val := if col < 0 then Val.null else match row[col.toNat]? with | some v => v.clean | none => Val.null

theorem cellE_lo {row : List Val} {col : Int} (h : col < 0) : cellE row col = Val.null := by simp [cellE, h]
theorem cellE_hi {row : List Val} {col : Int} (h : (row.length : Int) ≤ col) : cellE row col = Val.null := by
  unfold cellE
  split
  · rfl
  · rw [List.getElem?_eq_none (by omega)]
theorem cellE_in {row : List Val} {k : Nat} {v : Val} (h : row[k]? = some v) : cellE row k = v.clean := by
  unfold cellE
  rw [if_neg (by omega)]
  simp [h]

theorem cell_c (row : List Val) (col : Int) : PCall Try.prog 42 [.one (rowD row), .one (.lit (.int .i64 col))] (.v (.agg (cellE row col).d)) := by
  by_cases h0 : col < 0
  · rw [cellE_lo h0]
    refine pcallN hT Try.func42 Try.ntmps42 [.cell 4 24] fun B => ?_
    repeat' (first | (with_reducible (first | refine k_seq ?_ | refine k_skip ?_ | refine k_ret ?_ | refine n_seq ?_ | refine r_seq ?_)) | refine s_reg ?_ | refine s_ifT ?_ | refine s_ifF ?_ | refine r_end ?_ | refine s_skipS ?_ | refine s_move ?_ | refine s_int ?_ | refine s_loadFA ?_ | refine s_indexD ?_ (hel := (by first | exact rfl)) | refine s_pick ?_ | refine s_lenD ?_ | refine s_storeB ?_ | refine s_alloc ?_ | refine s_build ?_ | refine s_kT ?_ | refine f_ret1 def_nil ?_ | refine t_cellG ?_ | exact cfs_nil | refine cfs_cons ?_ ?_ | refine cf_d ?_)
    all_goals rfl
  · obtain ⟨k, rfl⟩ := Int.eq_ofNat_of_zero_le (show 0 ≤ col by omega)
    by_cases h1 : k < row.length
    · have hv : row[k]? = some row[k] := List.getElem?_eq_getElem h1
      generalize row[k] = v at hv
      rw [cellE_in hv]
      refine pcallN hT Try.func42 Try.ntmps42 [.cell 4 24] fun B => ?_
      repeat' (first | (with_reducible (first | refine k_seq ?_ | refine k_skip ?_ | refine k_ret ?_ | refine n_seq ?_ | refine r_seq ?_)) | refine s_reg ?_ | refine s_ifT ?_ | refine s_ifF ?_ | refine r_end ?_ | refine s_skipS ?_ | refine s_move ?_ | refine s_int ?_ | refine s_loadFA ?_ | refine s_indexD ?_ (hel := (by first | exact idx_map hv (by omega) | exact hv | exact rfl)) | refine s_call (clean_c _) ?_ | refine s_pick ?_ | refine s_lenD ?_ | refine s_storeB ?_ | refine s_alloc ?_ | refine s_build ?_ | refine s_kT ?_ | refine f_ret1 def_nil ?_ | refine t_cellG ?_ | exact cfs_nil | refine cfs_cons ?_ ?_ | refine cf_d ?_)
      all_goals rfl
    · rw [cellE_hi (by omega)]
      refine pcallN hT Try.func42 Try.ntmps42 [.cell 4 24] fun B => ?_
      repeat' (first | (with_reducible (first | refine k_seq ?_ | refine k_skip ?_ | refine k_ret ?_ | refine n_seq ?_ | refine r_seq ?_)) | refine s_reg ?_ | refine s_ifT ?_ | refine s_ifF ?_ | refine r_end ?_ | refine s_skipS ?_ | refine s_move ?_ | refine s_int ?_ | refine s_loadFA ?_ | refine s_indexD ?_ (hel := (by first | exact rfl)) | refine s_pick ?_ | refine s_lenD ?_ | refine s_storeB ?_ | refine s_alloc ?_ | refine s_build ?_ | refine s_kT ?_ | refine f_ret1 def_nil ?_ | refine t_cellG ?_ | exact cfs_nil | refine cfs_cons ?_ ?_ | refine cf_d ?_)
      all_goals rfl

theorem refAt_c (row : List Val) (col : Int) : PCall Try.prog 44 [.one (rowD row), .one (.lit (.int .i64 col))] (.v (.agg (cellE row col).d)) := by
  by_cases h0 : col < 0
  · rw [cellE_lo h0]
    refine pcallN hT Try.func44 Try.ntmps44 [.cell 4 24] fun B => ?_
    repeat' (first | (with_reducible (first | refine k_seq ?_ | refine k_skip ?_ | refine k_ret ?_ | refine n_seq ?_ | refine r_seq ?_)) | refine s_reg ?_ | refine s_ifT ?_ | refine s_ifF ?_ | refine r_end ?_ | refine s_skipS ?_ | refine s_move ?_ | refine s_int ?_ | refine s_loadFA ?_ | refine s_indexD ?_ (hel := (by first | exact rfl)) | refine s_pick ?_ | refine s_lenD ?_ | refine s_storeB ?_ | refine s_alloc ?_ | refine s_build ?_ | refine s_kT ?_ | refine f_ret1 def_nil ?_ | refine t_cellG ?_ | exact cfs_nil | refine cfs_cons ?_ ?_ | refine cf_d ?_)
    all_goals rfl
  · obtain ⟨k, rfl⟩ := Int.eq_ofNat_of_zero_le (show 0 ≤ col by omega)
    by_cases h1 : k < row.length
    · have hv : row[k]? = some row[k] := List.getElem?_eq_getElem h1
      generalize row[k] = v at hv
      rw [cellE_in hv]
      refine pcallN hT Try.func44 Try.ntmps44 [.cell 4 24] fun B => ?_
      repeat' (first | (with_reducible (first | refine k_seq ?_ | refine k_skip ?_ | refine k_ret ?_ | refine n_seq ?_ | refine r_seq ?_)) | refine s_reg ?_ | refine s_ifT ?_ | refine s_ifF ?_ | refine r_end ?_ | refine s_skipS ?_ | refine s_move ?_ | refine s_int ?_ | refine s_loadFA ?_ | refine s_indexD ?_ (hel := (by first | exact idx_map hv (by omega) | exact hv | exact rfl)) | refine s_call (refClean_c _) ?_ | refine s_pick ?_ | refine s_lenD ?_ | refine s_storeB ?_ | refine s_alloc ?_ | refine s_build ?_ | refine s_kT ?_ | refine f_ret1 def_nil ?_ | refine t_cellG ?_ | exact cfs_nil | refine cfs_cons ?_ ?_ | refine cf_d ?_)
      all_goals rfl
    · rw [cellE_hi (by omega)]
      refine pcallN hT Try.func44 Try.ntmps44 [.cell 4 24] fun B => ?_
      repeat' (first | (with_reducible (first | refine k_seq ?_ | refine k_skip ?_ | refine k_ret ?_ | refine n_seq ?_ | refine r_seq ?_)) | refine s_reg ?_ | refine s_ifT ?_ | refine s_ifF ?_ | refine r_end ?_ | refine s_skipS ?_ | refine s_move ?_ | refine s_int ?_ | refine s_loadFA ?_ | refine s_indexD ?_ (hel := (by first | exact rfl)) | refine s_pick ?_ | refine s_lenD ?_ | refine s_storeB ?_ | refine s_alloc ?_ | refine s_build ?_ | refine s_kT ?_ | refine f_ret1 def_nil ?_ | refine t_cellG ?_ | exact cfs_nil | refine cfs_cons ?_ ?_ | refine cf_d ?_)
      all_goals rfl

def selE (rows : List Entry) (col : Int) (v : Val) : List Entry := rows.filter fun e => sameVal (cellE e.row col) v.clean

theorem sel_snoc {rows : List Entry} {col : Int} {v : Val} {i : Nat} {e : Entry} (h : rows[i]? = some e) : selE (rows.take (i + 1)) col v = selE (rows.take i) col v ++ (if sameVal (cellE e.row col) v.clean then [e] else []) := by
  unfold selE
  rw [List.take_add_one, h, List.filter_append]
  congr 1
  by_cases hq : sameVal (cellE e.row col) v.clean = true <;> simp [hq]
theorem sel_len (rows : List Entry) (col : Int) (v : Val) : (selE rows col v).length ≤ rows.length := List.length_filter_le ..

theorem select_c (rows : List Entry) (col : Int) (v : Val) (hl : rows.length ≤ 100000) (hr : ∀ e ∈ rows, e.row.length ≤ 100000) : PCall Try.prog 15 [.one (bagD rows), .one (.lit (.int .i64 col)), .agg v.d] (.v (.one (bagD (selE rows col v)))) := by
  refine pcallN hT Try.func15 Try.ntmps15 [.cell 6 22] fun B => ?_
  repeat' (first | (with_reducible (first | refine k_seq ?_ | refine k_block ?_ | refine k_skip ?_ | refine k_exit ?_ | refine k_ret ?_ | refine n_seq ?_ | refine n_block ?_ | refine e_seq ?_ | refine e_here ?_ | refine o_exit ?_)) | refine s_reg ?_ | refine s_ifT ?_ | refine s_ifF ?_ | refine s_if rfl (fun hb => ?_) (fun hb => ?_) | refine r_end ?_ | refine s_endD ?_ | refine s_move ?_ | refine s_int ?_ | refine s_eqA ?_ | refine s_loadB1 ?_ | refine s_loadFA ?_ | refine s_loadBA ?_ | refine s_indexD ?_ (hel := (by first | exact rfl)) | refine s_fieldB ?_ | refine s_call (clean_c _) ?_ | refine s_lenD ?_ | refine s_appA ?_ | refine s_storeB ?_ | refine s_bslice ?_ | refine s_alloc ?_ | refine s_box ?_ | refine s_build ?_ | refine s_funcC ?_ | refine s_defer ?_ | refine f_ret1 (by repeat (first | exact def_nil | refine def_cons select1_d ?_)) ?_ | refine t_cell (P := Try.prog) ?_ | refine cf_arr rfl ?_ ?_)
  refine s_ownBox 1 0 36 2 ?_
  refine s_lp (X := Nat × Nat) [8, 14, 15, 16, 17, 18, 19, 20, 21, 22, 23, 24, 25, 26, 27, 28, 29, 30, 31, 32, 33] (fun x => x.1 ≤ rows.length) (fun x lz => (14, (.c (.d (.lit (.int .i64 x.1))))) :: lz) (fun x => [.box 1 (v.clean.d.map Cell.d), .box 2 [.arr 2 x.2 (selE (rows.take x.1) col v).length], .arr x.2 36 2 ((selE (rows.take x.1) col v).map Entry.d)]) (fun x => rows.length - x.1) ((0, 3)) ?_ ?_ ?_ ?_
  repeat' (first | exact slots_nil | refine w1 ?_ | exact memIn_nil | refine memIn_same ?_ | refine m1 ?_ ?_ | refine m2 ?_ ?_ | omega)
  rintro ⟨i, k⟩ c hi
  dsimp only at hi ⊢
  have hsl : (selE (rows.take i) col v).length ≤ i := Nat.le_trans (sel_len ..) (by simp; omega)
  by_cases hlt : i < rows.length
  · have hv : rows[i]? = some rows[i] := List.getElem?_eq_getElem hlt
    have hro := hr _ (List.getElem_mem hlt)
    generalize rows[i] = e at hv hro
    have hsn := sel_snoc (col := col) (v := v) hv
    have hcl := clone_c e.row (by omega)
    have hls := lits_same (cellE e.row col) v.clean
    repeat' (first | (with_reducible (first | refine k_seq ?_ | refine k_block ?_ | refine k_skip ?_ | refine k_exit ?_ | refine k_ret ?_ | refine n_seq ?_ | refine n_block ?_ | refine e_seq ?_ | refine e_here ?_ | refine o_exit ?_)) | refine s_reg ?_ | refine s_ifT ?_ | refine s_ifF ?_ | refine s_if rfl (fun hb => ?_) (fun hb => ?_) | refine r_end ?_ | refine s_endD ?_ | refine s_move ?_ | refine s_int ?_ | refine s_eqA ?_ | refine s_loadB1 ?_ | refine s_loadFA ?_ | refine s_loadBA ?_ | refine s_indexD ?_ (hel := (by first | exact idx_map hv (by omega) | exact hv | exact rfl)) | refine s_fieldB ?_ | refine s_call (hcl) ?_ | refine s_call (cell_c _ _) ?_ | refine s_lenD ?_ | refine s_appA ?_ | refine s_storeB ?_ | refine s_bslice ?_ | refine s_alloc ?_ | refine s_box ?_ | refine s_build ?_ | refine s_funcC ?_ | refine s_defer ?_ | refine f_ret1 (by repeat (first | exact def_nil | refine def_cons select1_d ?_)) ?_ | refine t_cell (P := Try.prog) ?_ | refine cf_arr rfl ?_ ?_)
    · rw [hls] at hb
      rw [if_pos hb] at hsn
      (apply s_round ((i + 1, _)); all_goals (try dsimp only); all_goals (try (repeat' (first | exact slots_nil | refine w1 ?_ | exact memIn_nil | refine memIn_same ?_ | refine m1 ?_ ?_ | refine m2 ?_ ?_ | omega))))
      all_goals first
        | (rw [hsn]; simp; done)
        | (rw [hsn, List.map_append]; rfl)
    · rw [hls] at hb
      rw [if_neg (by simp [hb]), List.append_nil] at hsn
      (apply s_round ((i + 1, _)); all_goals (try dsimp only); all_goals (try (repeat' (first | exact slots_nil | refine w1 ?_ | exact memIn_nil | refine memIn_same ?_ | refine m1 ?_ ?_ | refine m2 ?_ ?_ | omega))))
      all_goals (rw [hsn])
  · rw [take_ge (by omega)]
    repeat' (first | (with_reducible (first | refine k_seq ?_ | refine k_block ?_ | refine k_skip ?_ | refine k_exit ?_ | refine k_ret ?_ | refine n_seq ?_ | refine n_block ?_ | refine e_seq ?_ | refine e_here ?_ | refine o_exit ?_)) | refine s_reg ?_ | refine s_ifT ?_ | refine s_ifF ?_ | refine s_if rfl (fun hb => ?_) (fun hb => ?_) | refine r_end ?_ | refine s_endD ?_ | refine s_move ?_ | refine s_int ?_ | refine s_eqA ?_ | refine s_loadB1 ?_ | refine s_loadFA ?_ | refine s_loadBA ?_ | refine s_indexD ?_ (hel := (by first | exact rfl)) | refine s_fieldB ?_ | refine s_lenD ?_ | refine s_appA ?_ | refine s_storeB ?_ | refine s_bslice ?_ | refine s_alloc ?_ | refine s_box ?_ | refine s_build ?_ | refine s_funcC ?_ | refine s_defer ?_ | refine f_ret1 (by repeat (first | exact def_nil | refine def_cons select1_d ?_)) ?_ | refine t_cell (P := Try.prog) ?_ | refine cf_arr rfl ?_ ?_)
    · simp
    · rw [take_ge (by simp)]; rfl

theorem refSelect_c (rows : List Entry) (col : Int) (v : Val) (hl : rows.length ≤ 100000) : PCall Try.prog 16 [.one (bagD rows), .one (.lit (.int .i64 col)), .agg v.d] (.v (.one (bagD (selE rows col v)))) := by
  refine pcallN hT Try.func16 Try.ntmps16 [.tmp 6] fun B => ?_
  repeat' (first | (with_reducible (first | refine k_seq ?_ | refine k_block ?_ | refine k_skip ?_ | refine k_exit ?_ | refine k_ret ?_ | refine n_seq ?_ | refine n_block ?_ | refine e_seq ?_ | refine e_here ?_ | refine o_exit ?_)) | refine s_reg ?_ | refine s_ifT ?_ | refine s_ifF ?_ | refine s_if rfl (fun hb => ?_) (fun hb => ?_) | refine r_end ?_ | refine s_endD ?_ | refine s_move ?_ | refine s_assign ?_ | refine s_int ?_ | refine s_eqA ?_ | refine s_loadF1 ?_ | refine s_loadFA ?_ | refine s_loadBA ?_ | refine s_indexD ?_ (hel := (by first | exact rfl)) | refine s_fieldF ?_ | refine s_lenD ?_ | refine s_appA ?_ | refine s_bslice ?_ | refine s_box ?_ | refine f_ret1 def_nil ?_ | refine t_tmpA rfl rfl ?_ ?_)
  refine s_own 7 36 2 ?_
  refine s_lp (X := Nat × Nat) [7, 8, 9, 10, 11, 12, 13, 14, 15, 16, 17, 18, 19, 20, 21, 22, 23, 24, 25, 26, 27, 28, 29, 30, 31] (fun x => x.1 ≤ rows.length) (fun x lz => (8, (.c (.d (.lit (.int .i64 x.1))))) :: (7, .c (.arr 1 x.2 (selE (rows.take x.1) col v).length)) :: lz) (fun x => [.box 1 (v.d.map Cell.d), .arr x.2 36 2 ((selE (rows.take x.1) col v).map Entry.d)]) (fun x => rows.length - x.1) ((0, 2)) ?_ ?_ ?_ ?_
  repeat' (first | exact slots_nil | refine w1 ?_ | refine w5 ?_ ?_ | exact memIn_nil | refine memIn_same ?_ | refine m1 ?_ ?_ | omega)
  rintro ⟨i, k⟩ c hi
  dsimp only at hi ⊢
  have hsl : (selE (rows.take i) col v).length ≤ i := Nat.le_trans (sel_len ..) (by simp; omega)
  by_cases hlt : i < rows.length
  · have hv : rows[i]? = some rows[i] := List.getElem?_eq_getElem hlt
    generalize rows[i] = e at hv
    have hsn := sel_snoc (col := col) (v := v) hv
    have hls := lits_same (cellE e.row col) v.clean
    repeat' (first | (with_reducible (first | refine k_seq ?_ | refine k_block ?_ | refine k_skip ?_ | refine k_exit ?_ | refine k_ret ?_ | refine n_seq ?_ | refine n_block ?_ | refine e_seq ?_ | refine e_here ?_ | refine o_exit ?_)) | refine s_reg ?_ | refine s_ifT ?_ | refine s_ifF ?_ | refine s_if rfl (fun hb => ?_) (fun hb => ?_) | refine r_end ?_ | refine s_endD ?_ | refine s_move ?_ | refine s_assign ?_ | refine s_int ?_ | refine s_eqA ?_ | refine s_loadF1 ?_ | refine s_loadFA ?_ | refine s_loadBA ?_ | refine s_indexD ?_ (hel := (by first | exact idx_map hv (by omega) | exact hv | exact rfl)) | refine s_fieldF ?_ | refine s_call (refAt_c _ _) ?_ | refine s_call (refClean_c _) ?_ | refine s_lenD ?_ | refine s_appA ?_ | refine s_bslice ?_ | refine s_box ?_ | refine f_ret1 def_nil ?_ | refine t_tmpA rfl rfl ?_ ?_)
    · rw [hls] at hb
      rw [if_pos hb] at hsn
      (apply s_round ((i + 1, _)); all_goals (try dsimp only); all_goals (try (repeat' (first | exact slots_nil | refine w1 ?_ | refine w5 ?_ ?_ | exact memIn_nil | refine memIn_same ?_ | refine m1 ?_ ?_ | omega))))
      all_goals first
        | (rw [hsn]; simp; done)
        | (rw [hsn, List.map_append]; rfl)
    · rw [hls] at hb
      rw [if_neg (by simp [hb]), List.append_nil] at hsn
      (apply s_round ((i + 1, _)); all_goals (try dsimp only); all_goals (try (repeat' (first | exact slots_nil | refine w1 ?_ | refine w5 ?_ ?_ | exact memIn_nil | refine memIn_same ?_ | refine m1 ?_ ?_ | omega))))
      all_goals (rw [hsn])
  · rw [take_ge (by omega)]
    repeat' (first | (with_reducible (first | refine k_seq ?_ | refine k_block ?_ | refine k_skip ?_ | refine k_exit ?_ | refine k_ret ?_ | refine n_seq ?_ | refine n_block ?_ | refine e_seq ?_ | refine e_here ?_ | refine o_exit ?_)) | refine s_reg ?_ | refine s_ifT ?_ | refine s_ifF ?_ | refine s_if rfl (fun hb => ?_) (fun hb => ?_) | refine r_end ?_ | refine s_endD ?_ | refine s_move ?_ | refine s_assign ?_ | refine s_int ?_ | refine s_eqA ?_ | refine s_loadF1 ?_ | refine s_loadFA ?_ | refine s_loadBA ?_ | refine s_indexD ?_ (hel := (by first | exact rfl)) | refine s_fieldF ?_ | refine s_lenD ?_ | refine s_appA ?_ | refine s_bslice ?_ | refine s_box ?_ | refine f_ret1 def_nil ?_ | refine t_tmpA rfl rfl ?_ ?_)
    · simp
    · rw [take_ge (by simp)]; rfl

theorem cloneRows_c (rows : List Entry) (hl : rows.length ≤ 100000) (hr : ∀ e ∈ rows, e.row.length ≤ 100000) : PCall Try.prog 49 [.one (bagD rows)] (.v (.one (bagD rows))) := by
  refine pcallN hT Try.func49 Try.ntmps49 [.tmp 2] fun B => ?_
  repeat' (first | (with_reducible (first | refine k_seq ?_ | refine k_block ?_ | refine k_skip ?_ | refine k_exit ?_ | refine k_ret ?_ | refine n_seq ?_ | refine n_block ?_ | refine e_seq ?_ | refine e_here ?_ | refine o_exit ?_)) | refine s_reg ?_ | refine s_ifT ?_ | refine s_ifF ?_ | refine r_end ?_ | refine s_endD ?_ | refine s_move ?_ | refine s_assign ?_ | refine s_int ?_ | refine s_loadB1 ?_ | refine s_loadFA ?_ | refine s_indexD ?_ (hel := (by first | exact rfl)) | refine s_fieldB ?_ | refine s_lenD ?_ | refine s_appA ?_ | refine s_storeB ?_ | refine s_bslice ?_ | refine s_alloc ?_ | refine s_build ?_ | refine f_ret1 def_nil ?_ | refine t_tmpA rfl rfl ?_ ?_)
  refine s_own 3 36 2 ?_
  refine s_lp (X := Nat × Nat) [3, 5, 8, 9, 10, 11, 12, 13, 14, 15, 16, 17, 18, 19, 20, 21] (fun x => x.1 ≤ rows.length) (fun x lz => (8, (.c (.d (.lit (.int .i64 x.1))))) :: (3, .c (.arr 0 x.2 x.1)) :: lz) (fun x => [.arr x.2 36 2 ((rows.take x.1).map Entry.d)]) (fun x => rows.length - x.1) ((0, 1)) ?_ ?_ ?_ ?_
  repeat' (first | exact slots_nil | refine w1 ?_ | exact memIn_nil | refine memIn_same ?_ | refine m1 ?_ ?_ | omega)
  rintro ⟨i, k⟩ c hi
  dsimp only at hi ⊢
  by_cases hlt : i < rows.length
  · have hv : rows[i]? = some rows[i] := List.getElem?_eq_getElem hlt
    have hro := hr _ (List.getElem_mem hlt)
    generalize rows[i] = e at hv hro
    have hcl := clone_c e.row (by omega)
    have hlk : (rows.take i).length = i := by simp; omega
    repeat' (first | (with_reducible (first | refine k_seq ?_ | refine k_block ?_ | refine k_skip ?_ | refine k_exit ?_ | refine k_ret ?_ | refine n_seq ?_ | refine n_block ?_ | refine e_seq ?_ | refine e_here ?_ | refine o_exit ?_)) | refine s_reg ?_ | refine s_ifT ?_ | refine s_ifF ?_ | refine r_end ?_ | refine s_endD ?_ | refine s_move ?_ | refine s_assign ?_ | refine s_int ?_ | refine s_loadB1 ?_ | refine s_loadFA ?_ | refine s_indexD ?_ (hel := (by first | exact idx_map hv (by omega) | exact hv | exact rfl)) | refine s_fieldB ?_ | refine s_call (hcl) ?_ | refine s_lenD ?_ | refine s_appA ?_ | refine s_storeB ?_ | refine s_bslice ?_ | refine s_alloc ?_ | refine s_build ?_ | refine f_ret1 def_nil ?_ | refine t_tmpA rfl rfl ?_ ?_)
    all_goals first
      | omega
      | ((apply s_round ((i + 1, _)); all_goals (try dsimp only); all_goals (try (repeat' (first | exact slots_nil | refine w1 ?_ | exact memIn_nil | refine memIn_same ?_ | refine m1 ?_ ?_ | omega)))); (try (rw [take_map Entry.d hv]; rfl)))
  · rw [take_ge (by omega)]
    repeat' (first | (with_reducible (first | refine k_seq ?_ | refine k_block ?_ | refine k_skip ?_ | refine k_exit ?_ | refine k_ret ?_ | refine n_seq ?_ | refine n_block ?_ | refine e_seq ?_ | refine e_here ?_ | refine o_exit ?_)) | refine s_reg ?_ | refine s_ifT ?_ | refine s_ifF ?_ | refine r_end ?_ | refine s_endD ?_ | refine s_move ?_ | refine s_assign ?_ | refine s_int ?_ | refine s_loadB1 ?_ | refine s_loadFA ?_ | refine s_indexD ?_ (hel := (by first | exact rfl)) | refine s_fieldB ?_ | refine s_lenD ?_ | refine s_appA ?_ | refine s_storeB ?_ | refine s_bslice ?_ | refine s_alloc ?_ | refine s_build ?_ | refine f_ret1 def_nil ?_ | refine t_tmpA rfl rfl ?_ ?_)
    · simp; omega
    · rw [take_ge (by simp; omega)]; rfl

def dayOK (n : Int) : Bool := decide (0 ≤ n) && decide (n ≤ 1048576)
theorem inDays_c (n : Int) : PCall Try.prog 48 [.one (.lit (.int .i64 n))] (.v (.one (.lit (.bool (dayOK n))))) := by
  refine pcallN hT Try.func48 Try.ntmps48 [.tmp 2] fun B => ?_
  repeat' (first | (with_reducible (first | refine k_seq ?_ | refine k_ret ?_ | refine n_seq ?_)) | refine s_reg ?_ | refine r_end ?_ | refine s_skipS ?_ | refine s_move ?_ | refine s_assign ?_ | refine s_int ?_ | refine s_pick ?_ | refine s_split rfl rfl (fun hb => ?_) (fun hb => ?_) | refine f_ret1 def_nil ?_ | refine t_tmp ?_)
  all_goals (refine congrArg Dat.lit (congrArg Value.bool ?_); simp [dayOK] <;> omega)

def Cach.ok (x : Cach) : Bool := x.val.valid && bagValid x.rows && dayOK x.day
def goodC : Option Cach → List Cach → Bool
  | _, [] => true
  | p, x :: l => x.ok && (match p with | none => true | some q => decide (q.val.cmp x.val < 0)) && goodC (some x) l
def validC (s : List Cach) : Bool := decide (s.length ≤ 16) && goodC none s
def prevC (l : List Cach) (i : Nat) : Option Cach := if i = 0 then none else l[i - 1]?
theorem goodC_step {l : List Cach} {i : Nat} {e : Cach} (h : l[i]? = some e) : goodC (prevC l i) (l.drop i) = (e.ok && (match prevC l i with | none => true | some q => decide (q.val.cmp e.val < 0)) && goodC (prevC l (i + 1)) (l.drop (i + 1))) := by
  rw [drop_cons h, goodC.eq_def]
  have : prevC l (i + 1) = some e := by simp [prevC, h]
  rw [this]

theorem cvalid_c (l : List Cach) : PCall Try.prog 28 [.one (cachD l)] (.v (.one (.lit (.bool (validC l))))) := by
  refine pcallN hT Try.func28 Try.ntmps28 [.cell 2 4] fun B => ?_
  repeat' (first | (with_reducible (first | refine k_seq ?_ | refine k_block ?_ | refine k_skip ?_ | refine k_exit ?_ | refine k_ret ?_ | refine n_seq ?_ | refine n_block ?_ | refine e_seq ?_ | refine e_here ?_ | refine r_seq ?_ | refine r_block ?_ | refine o_exit ?_ | refine o_ret ?_)) | refine s_reg ?_ | refine s_ifT ?_ | refine s_ifF ?_ | refine s_if rfl (fun hb => ?_) (fun hb => ?_) | refine r_end ?_ | refine s_endD ?_ | refine s_skipS ?_ | refine s_move ?_ | refine s_assign ?_ | refine s_int ?_ | refine s_loadB1 ?_ | refine s_loadFA ?_ | refine s_loadBA ?_ | refine s_indexD ?_ (hel := (by first | exact rfl)) | refine s_fieldF ?_ | refine s_fieldB ?_ | refine s_pick ?_ | refine s_lenD ?_ | refine s_storeB ?_ | refine s_alloc ?_ | refine s_not ?_ | refine s_funcC ?_ | refine s_defer ?_ | refine s_kT ?_ | refine s_split rfl rfl (fun hb => ?_) (fun hb => ?_) | refine f_ret1 (by repeat (first | exact def_nil | refine def_cons cvalid1_d ?_)) ?_ | refine t_cell (P := Try.prog) ?_ | refine cf_d ?_)
  · refine congrArg Dat.lit (congrArg Value.bool ?_)
    simp [validC]
    intros; omega
  · have hl : l.length ≤ 16 := by omega
    refine s_lp (X := Nat) [3, 4, 11, 12, 13, 14, 15, 16, 17, 18, 19, 20, 21, 22, 23, 24, 25, 26, 27, 28, 29, 30, 31, 32, 33, 34, 35, 36, 37, 38, 39, 40, 41, 42, 43, 44, 45, 46] (fun x => x ≤ l.length ∧ goodC none l = goodC (prevC l x) (l.drop x)) (fun x lz => (11, (.c (.d (.lit (.int .i64 x))))) :: lz) (fun x => [.box 1 [.d (.lit (.bool false))]]) (fun x => l.length - x) (0) ?_ ?_ ?_ ?_
    repeat' (first | exact slots_nil | refine w1 ?_ | exact memIn_nil | refine memIn_same ?_ | omega)
    · exact ⟨by simp, by simp [prevC]⟩
    rintro i c ⟨hi, hinv⟩
    by_cases hlt : i < l.length
    · have hv : l[i]? = some l[i] := List.getElem?_eq_getElem hlt
      generalize l[i] = e at hv
      rw [goodC_step hv] at hinv
      rcases i with _ | j
      · have hp : prevC l 0 = none := rfl
        rw [hp] at hinv
        repeat' (first | (with_reducible (first | refine k_seq ?_ | refine k_block ?_ | refine k_skip ?_ | refine k_exit ?_ | refine k_ret ?_ | refine n_seq ?_ | refine n_block ?_ | refine e_seq ?_ | refine e_here ?_ | refine r_seq ?_ | refine r_block ?_ | refine o_exit ?_ | refine o_ret ?_)) | refine s_reg ?_ | refine s_ifT ?_ | refine s_ifF ?_ | refine s_if rfl (fun hb => ?_) (fun hb => ?_) | refine r_end ?_ | refine s_endD ?_ | refine s_skipS ?_ | refine s_move ?_ | refine s_assign ?_ | refine s_int ?_ | refine s_loadB1 ?_ | refine s_loadFA ?_ | refine s_loadBA ?_ | refine s_indexD ?_ (hel := (by first | exact idx_map hv (by omega) | exact hv | exact rfl)) | refine s_fieldF ?_ | refine s_fieldB ?_ | refine s_call (valid_c e.val) ?_ | refine s_call (bagValid_c _) ?_ | refine s_call (inDays_c _) ?_ | refine s_call (compare_c _ _) ?_ | refine s_pick ?_ | refine s_lenD ?_ | refine s_storeB ?_ | refine s_alloc ?_ | refine s_not ?_ | refine s_funcC ?_ | refine s_defer ?_ | refine s_kT ?_ | refine s_split rfl rfl (fun hb => ?_) (fun hb => ?_) | refine f_ret1 (by repeat (first | exact def_nil | refine def_cons cvalid1_d ?_)) ?_ | refine t_cell (P := Try.prog) ?_ | refine cf_d ?_)
        all_goals first
          | (refine congrArg Dat.lit (congrArg Value.bool ?_); simp_all [validC, Cach.ok]; done)
          | ((apply s_round (1); all_goals (try dsimp only); all_goals (try (repeat' (first | exact slots_nil | refine w1 ?_ | exact memIn_nil | refine memIn_same ?_ | omega)))); (try exact ⟨by omega, by rw [hinv]; simp_all [Cach.ok]⟩))
      · have hu : l[j]? = some l[j] := List.getElem?_eq_getElem (by omega)
        generalize l[j] = p at hu
        have hp : prevC l (j + 1) = some p := by simp [prevC, hu]
        rw [hp] at hinv
        repeat' (first | (with_reducible (first | refine k_seq ?_ | refine k_block ?_ | refine k_skip ?_ | refine k_exit ?_ | refine k_ret ?_ | refine n_seq ?_ | refine n_block ?_ | refine e_seq ?_ | refine e_here ?_ | refine r_seq ?_ | refine r_block ?_ | refine o_exit ?_ | refine o_ret ?_)) | refine s_reg ?_ | refine s_ifT ?_ | refine s_ifF ?_ | refine s_if rfl (fun hb => ?_) (fun hb => ?_) | refine r_end ?_ | refine s_endD ?_ | refine s_skipS ?_ | refine s_move ?_ | refine s_assign ?_ | refine s_int ?_ | refine s_loadB1 ?_ | refine s_loadFA ?_ | refine s_loadBA ?_ | refine s_indexD ?_ (hel := (by first | exact idx_map hv (by omega) | exact idx_map hu (by omega) | exact hv | exact hu | exact rfl)) | refine s_fieldF ?_ | refine s_fieldB ?_ | refine s_call (valid_c e.val) ?_ | refine s_call (bagValid_c _) ?_ | refine s_call (inDays_c _) ?_ | refine s_call (compare_c p.val e.val) ?_ | refine s_pick ?_ | refine s_lenD ?_ | refine s_storeB ?_ | refine s_alloc ?_ | refine s_not ?_ | refine s_funcC ?_ | refine s_defer ?_ | refine s_kT ?_ | refine s_split rfl rfl (fun hb => ?_) (fun hb => ?_) | refine f_ret1 (by repeat (first | exact def_nil | refine def_cons cvalid1_d ?_)) ?_ | refine t_cell (P := Try.prog) ?_ | refine cf_d ?_)
        all_goals first
          | (refine congrArg Dat.lit (congrArg Value.bool ?_); simp_all [validC, Cach.ok]; done)
          | (refine congrArg Dat.lit (congrArg Value.bool ?_); simp only [validC, hinv]; simp; intros; omega)
          | ((apply s_round (j + 1 + 1); all_goals (try dsimp only); all_goals (try (repeat' (first | exact slots_nil | refine w1 ?_ | exact memIn_nil | refine memIn_same ?_ | omega)))); (try exact ⟨by omega, by rw [hinv]; simp_all [Cach.ok]⟩))
    · repeat' (first | (with_reducible (first | refine k_seq ?_ | refine k_block ?_ | refine k_skip ?_ | refine k_exit ?_ | refine k_ret ?_ | refine n_seq ?_ | refine n_block ?_ | refine e_seq ?_ | refine e_here ?_ | refine r_seq ?_ | refine r_block ?_ | refine o_exit ?_ | refine o_ret ?_)) | refine s_reg ?_ | refine s_ifT ?_ | refine s_ifF ?_ | refine s_if rfl (fun hb => ?_) (fun hb => ?_) | refine r_end ?_ | refine s_endD ?_ | refine s_skipS ?_ | refine s_move ?_ | refine s_assign ?_ | refine s_int ?_ | refine s_loadB1 ?_ | refine s_loadFA ?_ | refine s_loadBA ?_ | refine s_indexD ?_ (hel := (by first | exact rfl)) | refine s_fieldF ?_ | refine s_fieldB ?_ | refine s_pick ?_ | refine s_lenD ?_ | refine s_storeB ?_ | refine s_alloc ?_ | refine s_not ?_ | refine s_funcC ?_ | refine s_defer ?_ | refine s_kT ?_ | refine s_split rfl rfl (fun hb => ?_) (fun hb => ?_) | refine f_ret1 (by repeat (first | exact def_nil | refine def_cons cvalid1_d ?_)) ?_ | refine t_cell (P := Try.prog) ?_ | refine cf_d ?_)
      refine congrArg Dat.lit (congrArg Value.bool ?_)
      rw [List.drop_eq_nil_of_le (by omega)] at hinv
      simp [validC, hinv, hl, goodC]
end Go.Proofs.Ytmejclckkmpggaa
