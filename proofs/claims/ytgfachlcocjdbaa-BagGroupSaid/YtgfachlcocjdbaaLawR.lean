/-
  BagGroup.
-/
import Derived.Test.YtgfachlcocjdbaaAdd
import Derived.Test.YtgfachlcocjdbaaTab
import Derived.Test.YtgfachlcocjdbaaLawO
namespace Go.Proofs.Ytgfachlcocjdbaa
open Go.Abs Go.RowKit
attribute [local irreducible] ARun kont MCall PCall HCall resVal SF CF CFs defersOk slotsIn memIn fin finM VLe
set_option linter.unusedSimpArgs false
set_option maxRecDepth 100000
set_option maxHeartbeats 4000000

theorem total_from (l : List Entry) : ∀ s : Int, l.foldl (fun s e => s + e.count) s = s + total l := by
  induction l with
  | nil => intro s; simp [total]
  | cons e l ih =>
    intro s
    rw [total, List.foldl_cons, List.foldl_cons, ih, ih (0 + e.count)]; omega
theorem total_cons (e : Entry) (l : List Entry) : total (e :: l) = e.count + total l := by
  rw [total, List.foldl_cons, total_from]; omega
theorem total_nil : total [] = 0 := rfl
theorem total_mergeE (a b : List Entry) : total (mergeE a b) = total a + total b := by
  induction a, b using mergeE.induct with
  | case1 b => rw [mergeE_nil', total_nil]; omega
  | case2 a h => rw [mergeE_nil, total_nil]; omega
  | case3 x a y b h ih => rw [mergeE, if_pos h, total_cons, ih, total_cons x a]; omega
  | case4 x a y b h1 h2 ih => rw [mergeE, if_neg h1, if_pos h2, total_cons, ih, total_cons y b]; omega
  | case5 x a y b h1 h2 ih =>
    rw [mergeE, if_neg h1, if_neg h2, total_cons x a, total_cons y b]
    split
    · rw [List.nil_append, ih]; omega
    · rw [List.singleton_append, total_cons, ih]; simp only; omega
theorem sc_one (l : List Entry) : l.map (sc 1) = l := by
  conv => rhs; rw [← List.map_id l]
  apply List.map_congr_left
  intro e _
  show (⟨e.row, 1 * e.count⟩ : Entry) = e
  rw [Int.one_mul]

theorem total_add {a b : List Entry} (ha : bagValid a = true) (hb : bagValid b = true) (h : (addE 1 a b).2 = 0) : total (addE 1 a b).1 = total a + total b := by
  have he : addE 1 a b = fitsE (mergeE a (b.map (sc 1))) := if_pos ⟨ha, hb⟩
  rw [he] at h ⊢
  rw [fits_ok h, total_mergeE, sc_one]

theorem size_bd {a : List Entry} (h : bagValid a = true) : sizeE a = total a ∧ -1073741824 ≤ total a ∧ total a ≤ 1073741824 := by
  obtain ⟨hl, hm⟩ := valid_mem h
  have := total_bd (fun e he => (hm e he).2.1) a.length (Nat.le_refl _)
  rw [take_ge (Nat.le_refl _)] at this
  exact ⟨by simp [sizeE, h], by omega, by omega⟩

theorem lawGroup_c (t : List Int) (ht : t.length ≤ 17592186044416) : PCall Try.prog 8 [.one (numD t)] (.v (.one (.lit (.bool true)))) := by
  have hnew := new_h t ht
  obtain ⟨a, t1, ok1, va, wa, la, ca⟩ := bag_h ⟨t, 0⟩ 2 6 true (newTape_ok ht) (by omega) (by omega)
  obtain ⟨b, t2, ok2, vb, wb, lb, cb⟩ := bag_h t1 2 6 true ok1 (by omega) (by omega)
  obtain ⟨d, t3, ok3, vd, wd, ld, cd⟩ := bag_h t2 2 6 true ok2 (by omega) (by omega)
  obtain ⟨x1, x2, x3, x4, x5⟩ := addE_small (.inl rfl) va vb wa wb (by omega) (by omega) (by omega) (by omega)
  obtain ⟨y1, y2, y3, y4, y5⟩ := addE_small (.inl rfl) vb va wb wa (by omega) (by omega) (by omega) (by omega)
  obtain ⟨u1, u2, u3, u4, u5⟩ := addE_small (.inl rfl) vb vd wb wd (by omega) (by omega) (by omega) (by omega)
  obtain ⟨z1, z2, z3, z4, z5⟩ := addE_small (.inl rfl) x2 vd x3 wd (by omega) (by omega) (by omega) (by omega)
  obtain ⟨v1, v2, v3, v4, v5⟩ := addE_small (.inl rfl) va u2 wa u3 (by omega) (by omega) (by omega) (by omega)
  obtain ⟨w1, w2, w3, w4, w5⟩ := addE_small (.inr rfl) x2 vb x3 wb (by omega) (by omega) (by omega) (by omega)
  obtain ⟨o1, o2, o3, o4, o5⟩ := addE_small (.inr rfl) va va wa wa (by omega) (by omega) (by omega) (by omega)
  have vn : bagValid [] = true := rfl
  obtain ⟨p1, p2, p3, p4, p5⟩ := addE_small (.inl rfl) va vn wa (show within 0 [] from fun e he => by cases he) (by omega) (by omega) (by omega) (by simp; omega)
  have htot := total_add va vb x1
  have cx := add_c a b
  have cy := add_c b a
  have cu := add_c b d
  have cz := add_c (addE 1 a b).1 d
  have cv := add_c a (addE 1 b d).1
  have cw := subtract_c (addE 1 a b).1 b
  have co := subtract_c a a
  have cp := add_c a []
  have ey : (addE 1 b a).1 = (addE 1 a b).1 := (sorted_of_valid y2).unique (sorted_of_valid x2) fun r => by rw [y5, x5]; omega
  have ez : (addE 1 a (addE 1 b d).1).1 = (addE 1 (addE 1 a b).1 d).1 := (sorted_of_valid v2).unique (sorted_of_valid z2) fun r => by rw [v5, z5, u5, x5]; omega
  have ew : (addE (-1) (addE 1 a b).1 b).1 = a := (sorted_of_valid w2).unique (sorted_of_valid va) fun r => by rw [w5, x5]; omega
  have eo : (addE (-1) a a).1 = [] := (sorted_of_valid o2).unique (sorted_of_valid vn) fun r => by rw [o5]; simp only [sumK]; omega
  have ep : (addE 1 a []).1 = a := (sorted_of_valid p2).unique (sorted_of_valid va) fun r => by rw [p5]; simp only [sumK]; omega
  rw [x1] at cx
  rw [y1, ey] at cy
  rw [u1] at cu
  rw [z1] at cz
  rw [v1, ez] at cv
  rw [w1, ew] at cw
  rw [o1, eo] at co
  rw [p1, ep] at cp
  obtain ⟨sa, sa1, sa2⟩ := size_bd va
  obtain ⟨sb, sb1, sb2⟩ := size_bd vb
  obtain ⟨sx, sx1, sx2⟩ := size_bd x2
  have za := size_c a
  have zb := size_c b
  have zx := size_c (addE 1 a b).1
  rw [sa] at za
  rw [sb] at zb
  rw [sx, htot] at zx
  have q1 := same06_c (addE 1 a b).1 (addE 1 a b).1
  have q2 := same06_c (addE 1 (addE 1 a b).1 d).1 (addE 1 (addE 1 a b).1 d).1
  have q3 := same06_c a a
  rw [sameBag_refl] at q1 q2 q3
  generalize (addE 1 (addE 1 a b).1 d).1 = zz at cz cv q2
  generalize (addE 1 a b).1 = xx at cx cy cz cw zx q1
  generalize (addE 1 b d).1 = uu at cu cv
  clear x1 x2 x3 x4 x5 y1 y2 y3 y4 y5 u1 u2 u3 u4 u5 z1 z2 z3 z4 z5 v1 v2 v3 v4 v5 w1 w2 w3 w4 w5 o1 o2 o3 o4 o5 p1 p2 p3 p4 p5 ey ez ew eo ep htot sx sx1 sx2 sa sb
  refine pcallS hT Try.func8 rfl (by kernel_rfl) _ [.tmp 2] Try.ntmps8 rfl rfl (by repeat' (first | exact nfNil rfl | apply nfCons (a := ((_, SVal.c _) : Nat × SVal)) rfl | apply nfCons (a := ((_, SVal.agg _) : Nat × SVal)) rfl)) fun B => ?_
  repeat' (first | (with_reducible (first | refine k_seq ?_ | refine k_block ?_ | refine k_skip ?_ | refine k_exit ?_ | refine k_ret ?_ | refine n_seq ?_ | refine n_block ?_ | refine e_seq ?_ | refine e_here ?_ | refine r_seq ?_ | refine r_block ?_ | refine o_exit ?_ | refine o_ret ?_)) | ((with_reducible refine is_region ?_); refine s_reg ?_) | ((with_reducible refine is_cond ?_); first | refine s_ifT ?_ | refine s_ifF ?_ | refine s_if rfl (fun hb => ?_) (fun hb => ?_)) | ((with_reducible refine is_exit ?_); refine s_past ?_) | ((with_reducible refine is_end ?_); first | refine r_end ?_ | refine s_endD ?_) | ((with_reducible refine is_guard ?_); first | refine s_skipS ?_ | refine s_skipU ?_ | refine s_skipN ?_ | refine s_skipUN ?_) | ((with_reducible refine is_move ?_); (first | refine s_move ?_ | fail)) | ((with_reducible refine is_assign ?_); (first | refine s_assign ?_ | fail)) | ((with_reducible refine is_bin ?_); (first | refine s_int ?_ | refine s_str ?_ | refine s_eqB ?_ | refine s_neB ?_ | refine s_eqA ?_ | refine s_neA ?_ | refine s_shr ?_ | refine s_shl ?_ | refine s_or ?_ | refine s_xor ?_ | refine s_eqNil (fun b hnil => ?_) | fail)) | ((with_reducible refine is_call ?_); (first | refine s_call (cx) ?_ | refine s_call (cy) ?_ | refine s_call (cz) ?_ | refine s_call (cu) ?_ | refine s_call (cv) ?_ | refine s_call (cw) ?_ | refine s_call (co) ?_ | refine s_call (cp) ?_ | refine s_call (q1) ?_ | refine s_call (q2) ?_ | refine s_call (q3) ?_ | refine s_call (za) ?_ | refine s_call (zb) ?_ | refine s_call (zx) ?_ | refine s_call (awake06_c) ?_ | refine s_callH [] (hnew) ?_ | refine s_callH [1] (ca) ?_ | refine s_callH [1] (cb) ?_ | refine s_callH [1] (cd) ?_ | fail)) | ((with_reducible refine is_pick ?_); (first | refine s_pick ?_ | refine s_pickB ?_ | fail)) | ((with_reducible refine is_built ?_); (first | refine s_lenD ?_ | refine s_lenE ?_ | refine s_lenS ?_ | refine s_lenA ?_ | refine s_appE ?_ | refine s_appA ?_ | refine s_min ?_ | refine s_max ?_ | fail)) | ((with_reducible refine is_extract ?_); (first | refine s_extract ?_ | fail)) | ((with_reducible refine is_guard ?_); first | refine s_kT ?_ | refine s_kF ?_ | refine s_split rfl rfl (fun hb => ?_) (fun hb => ?_)) | ((with_reducible refine is_fin ?_); first | refine f_ret1 def_nil ?_ | refine f_ret2 def_nil ?_ ?_ | refine f_ret3 def_nil ?_ ?_ ?_ | refine f_end1 def_nil ?_) | ((with_reducible refine is_res ?_); first | refine t_tmp ?_ | refine t_tmpE ?_ | refine t_tmpA rfl rfl ?_ ?_ | refine d_tmpG rfl ?_ | refine t_cell (P := Try.prog) ?_ | refine t_cellG ?_) | ((with_reducible refine is_cfs ?_); first | exact cfs_nil | refine cfs_cons ?_ ?_) | ((with_reducible refine is_cf ?_); first | refine cf_d ?_ | refine cf_emp ?_ | refine cf_arr rfl ?_ ?_))
  all_goals rfl
end Go.Proofs.Ytgfachlcocjdbaa
