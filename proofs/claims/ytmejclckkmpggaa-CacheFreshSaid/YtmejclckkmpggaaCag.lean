/-
  The cache: Refill.
-/
import Derived.Test.YtmejclckkmpggaaCad
namespace Go.Proofs.Ytmejclckkmpggaa
open Go.Abs Go.RowKit
attribute [local irreducible] ARun kont MCall PCall HCall resVal SF CF CFs defersOk slotsIn memIn fin finM VLe
set_option linter.unusedSimpArgs false
set_option maxRecDepth 100000
set_option maxHeartbeats 4000000

theorem refill1_d : DeferOk Try.prog 58 1 := by
  refine ⟨⟨_, Try.func58, by kernel_rfl, by kernel_rfl⟩, fun vs w hl => ?_⟩
  match vs, hl with
  | [p0], _ =>
    refine callsD_of_wpS Try.func58 rfl fun c₀ cs hu => ?_
    apply wpS_seq
    apply wpS_region
    simp [wpOpsS, go_sem, recoverD, hu, Try.ntmps58, Exit.thenS]
    refine wpS_cond (t := false) (by simp [Act.eval, Array.replicate]) ?_
    simp only [Bool.false_eq_true, if_false]
    refine wpS_of_wp (wp_skip ?_)
    cases c₀
    simp_all [bodyPostS, results, Try.results58]

def fillF (c : Conf) (rows : List Entry) (day : Int) (x : Cach) : List Cach := if 0 < (selE rows c.col x.val).length then [⟨x.val, selE rows c.col x.val, day⟩] else []
def fillE (c : Conf) (rows : List Entry) (day : Int) (s : List Cach) : List Cach := s.flatMap (fillF c rows day)
theorem fill_snoc {c : Conf} {rows : List Entry} {day : Int} {s : List Cach} {i : Nat} {x : Cach} (h : s[i]? = some x) : fillE c rows day (s.take (i + 1)) = fillE c rows day (s.take i) ++ fillF c rows day x := by
  unfold fillE
  rw [List.take_add_one, h, List.flatMap_append]; simp
theorem fill_len (c : Conf) (rows : List Entry) (day : Int) : ∀ s : List Cach, (fillE c rows day s).length ≤ s.length
  | [] => by simp [fillE]
  | x :: s => by
    have ih := fill_len c rows day s
    unfold fillE at ih ⊢
    rw [List.flatMap_cons, List.length_append, List.length_cons]
    have : (fillF c rows day x).length ≤ 1 := by unfold fillF; split <;> simp
    omega
def refillE (c : Conf) (s : List Cach) (rows : List Entry) (day : Int) : List Cach := if validC s && bagValid rows && dayOK c.ttl && dayOK day then fillE c rows day s else []

theorem refill_c (c : Conf) (s : List Cach) (rows : List Entry) (day : Int) : PCall Try.prog 22 [.agg c.d, .one (cachD s), .one (bagD rows), .one (.lit (.int .i64 day))] (.v (.one (cachD (refillE c s rows day)))) := by
  have h1 := cvalid_c s
  have h2 := inDays_c c.ttl
  have h3 := inDays_c day
  have h4 := bagValid_c rows
  by_cases h : (validC s && bagValid rows && dayOK c.ttl && dayOK day) = true
  · have he : refillE c s rows day = fillE c rows day s := by unfold refillE; rw [if_pos h]
    simp only [Bool.and_eq_true] at h
    obtain ⟨⟨⟨g1, g2⟩, g3⟩, g4⟩ := h
    rw [he]
    rw [g1] at h1
    rw [g2] at h4
    rw [g3] at h2
    rw [g4] at h3
    obtain ⟨hl, hm⟩ := validC_mem g1
    obtain ⟨r1, r2⟩ := rows_bd g2
    refine pcallN hT Try.func22 Try.ntmps22 [.cell 8 37] fun B => ?_
    repeat' (first | (with_reducible (first | refine k_seq ?_ | refine k_block ?_ | refine k_skip ?_ | refine k_exit ?_ | refine k_ret ?_ | refine n_seq ?_ | refine n_block ?_ | refine e_seq ?_ | refine e_here ?_ | refine r_seq ?_ | refine o_exit ?_)) | refine s_reg ?_ | refine s_ifT ?_ | refine s_ifF ?_ | refine s_if rfl (fun hb => ?_) (fun hb => ?_) | refine r_end ?_ | refine s_skipS ?_ | refine s_move ?_ | refine s_assign ?_ | refine s_int ?_ | refine s_loadB1 ?_ | refine s_loadFA ?_ | refine s_loadBA ?_ | refine s_indexD ?_ (hel := (by first | exact rfl)) | refine s_fieldB ?_ | refine s_call (h1) ?_ | refine s_call (h2) ?_ | refine s_call (h3) ?_ | refine s_call (h4) ?_ | refine s_pick ?_ | refine s_lenD ?_ | refine s_appA ?_ | refine s_storeB ?_ | refine s_bslice ?_ | refine s_alloc ?_ | refine s_not ?_ | refine s_box ?_ | refine s_build ?_ | refine s_funcC ?_ | refine s_defer ?_ | refine s_split rfl rfl (fun hb => ?_) (fun hb => ?_) | refine f_ret1 (by repeat (first | exact def_nil | refine def_cons refill1_d ?_)) ?_ | refine t_cell (P := Try.prog) ?_ | refine cf_emp ?_ | refine cf_arr rfl ?_ ?_)
    refine s_ownBox 1 0 46 5 ?_
    refine s_lp (X := Nat × Nat) [10, 11, 34, 35, 36, 37, 38, 39, 40, 41, 42, 43, 44, 45, 46, 47, 48, 49, 50, 51, 52, 53, 54, 55] (fun x => x.1 ≤ s.length) (fun x lz => (34, (.c (.d (.lit (.int .i64 x.1))))) :: lz) (fun x => [.box 1 (c.d.map .d), .box 2 [.arr 2 x.2 (fillE c rows day (s.take x.1)).length], .arr x.2 46 5 ((fillE c rows day (s.take x.1)).map Cach.d)]) (fun x => s.length - x.1) ((0, 3)) ?_ ?_ ?_ ?_
    repeat' (first | exact slots_nil | refine w1 ?_ | exact memIn_nil | refine memIn_same ?_ | refine m1 ?_ ?_ | refine m2 ?_ ?_ | omega)
    rintro ⟨i, k⟩ ck hi
    dsimp only at hi ⊢
    have hfl := fill_len c rows day (s.take i)
    have hti : (s.take i).length = i := by simp; omega
    by_cases hlt : i < s.length
    · have hv : s[i]? = some s[i] := List.getElem?_eq_getElem hlt
      generalize s[i] = e at hv
      have hsn := fill_snoc (c := c) (rows := rows) (day := day) hv
      have hse := select_c rows c.col e.val r1 r2
      unfold fillF at hsn
      generalize hq : selE rows c.col e.val = q at hse hsn
      generalize fillE c rows day (s.take i) = acc at hsn hfl ⊢
      by_cases hq0 : 0 < q.length
      · rw [if_pos hq0] at hsn
        repeat' (first | (with_reducible (first | refine k_seq ?_ | refine k_block ?_ | refine k_skip ?_ | refine k_exit ?_ | refine k_ret ?_ | refine n_seq ?_ | refine n_block ?_ | refine e_seq ?_ | refine e_here ?_ | refine r_seq ?_ | refine o_exit ?_)) | refine s_reg ?_ | refine s_ifT ?_ | refine s_ifF ?_ | refine s_if rfl (fun hb => ?_) (fun hb => ?_) | refine r_end ?_ | refine s_skipS ?_ | refine s_move ?_ | refine s_assign ?_ | refine s_int ?_ | refine s_loadB1 ?_ | refine s_loadFA ?_ | refine s_loadBA ?_ | refine s_indexD ?_ (hel := (by first | exact idx_map hv (by omega) | exact hv | exact rfl)) | refine s_fieldB ?_ | refine s_call (hse) ?_ | refine s_pick ?_ | refine s_lenD ?_ | refine s_appA ?_ | refine s_storeB ?_ | refine s_bslice ?_ | refine s_alloc ?_ | refine s_not ?_ | refine s_box ?_ | refine s_build ?_ | refine s_funcC ?_ | refine s_defer ?_ | refine s_split rfl rfl (fun hb => ?_) (fun hb => ?_) | refine f_ret1 (by repeat (first | exact def_nil | refine def_cons refill1_d ?_)) ?_ | refine t_cell (P := Try.prog) ?_ | refine cf_emp ?_ | refine cf_arr rfl ?_ ?_)
        (apply s_round ((i + 1, _)); all_goals (try dsimp only); all_goals (try (repeat' (first | exact slots_nil | refine w1 ?_ | exact memIn_nil | refine memIn_same ?_ | refine m1 ?_ ?_ | refine m2 ?_ ?_ | omega))))
        all_goals first
          | (rw [hsn]; simp; done)
          | (rw [hsn, List.map_append]; rfl)
      · rw [if_neg hq0, List.append_nil] at hsn
        repeat' (first | (with_reducible (first | refine k_seq ?_ | refine k_block ?_ | refine k_skip ?_ | refine k_exit ?_ | refine k_ret ?_ | refine n_seq ?_ | refine n_block ?_ | refine e_seq ?_ | refine e_here ?_ | refine r_seq ?_ | refine o_exit ?_)) | refine s_reg ?_ | refine s_ifT ?_ | refine s_ifF ?_ | refine s_if rfl (fun hb => ?_) (fun hb => ?_) | refine r_end ?_ | refine s_skipS ?_ | refine s_move ?_ | refine s_assign ?_ | refine s_int ?_ | refine s_loadB1 ?_ | refine s_loadFA ?_ | refine s_loadBA ?_ | refine s_indexD ?_ (hel := (by first | exact idx_map hv (by omega) | exact hv | exact rfl)) | refine s_fieldB ?_ | refine s_call (hse) ?_ | refine s_pick ?_ | refine s_lenD ?_ | refine s_appA ?_ | refine s_storeB ?_ | refine s_bslice ?_ | refine s_alloc ?_ | refine s_not ?_ | refine s_box ?_ | refine s_build ?_ | refine s_funcC ?_ | refine s_defer ?_ | refine s_split rfl rfl (fun hb => ?_) (fun hb => ?_) | refine f_ret1 (by repeat (first | exact def_nil | refine def_cons refill1_d ?_)) ?_ | refine t_cell (P := Try.prog) ?_ | refine cf_emp ?_ | refine cf_arr rfl ?_ ?_)
        (apply s_round ((i + 1, _)); all_goals (try dsimp only); all_goals (try (repeat' (first | exact slots_nil | refine w1 ?_ | exact memIn_nil | refine memIn_same ?_ | refine m1 ?_ ?_ | refine m2 ?_ ?_ | omega))))
        all_goals (rw [hsn])
    · rw [take_ge (by omega)]
      repeat' (first | (with_reducible (first | refine k_seq ?_ | refine k_block ?_ | refine k_skip ?_ | refine k_exit ?_ | refine k_ret ?_ | refine n_seq ?_ | refine n_block ?_ | refine e_seq ?_ | refine e_here ?_ | refine r_seq ?_ | refine o_exit ?_)) | refine s_reg ?_ | refine s_ifT ?_ | refine s_ifF ?_ | refine s_if rfl (fun hb => ?_) (fun hb => ?_) | refine r_end ?_ | refine s_skipS ?_ | refine s_move ?_ | refine s_assign ?_ | refine s_int ?_ | refine s_loadB1 ?_ | refine s_loadFA ?_ | refine s_loadBA ?_ | refine s_indexD ?_ (hel := (by first | exact rfl)) | refine s_fieldB ?_ | refine s_pick ?_ | refine s_lenD ?_ | refine s_appA ?_ | refine s_storeB ?_ | refine s_bslice ?_ | refine s_alloc ?_ | refine s_not ?_ | refine s_box ?_ | refine s_build ?_ | refine s_funcC ?_ | refine s_defer ?_ | refine s_split rfl rfl (fun hb => ?_) (fun hb => ?_) | refine f_ret1 (by repeat (first | exact def_nil | refine def_cons refill1_d ?_)) ?_ | refine t_cell (P := Try.prog) ?_ | refine cf_emp ?_ | refine cf_arr rfl ?_ ?_)
      · simp
      · rw [take_ge (by simp)]; rfl
  · have he : refillE c s rows day = [] := by unfold refillE; rw [if_neg h]
    rw [he]
    generalize validC s = b1 at h h1
    generalize bagValid rows = b4 at h h4
    generalize dayOK c.ttl = b2 at h h2
    generalize dayOK day = b3 at h h3
    refine pcallN hT Try.func22 Try.ntmps22 [.cell 8 37] fun B => ?_
    repeat' (first | (exfalso; simp_all; done) | (with_reducible (first | refine k_seq ?_ | refine k_block ?_ | refine k_skip ?_ | refine k_exit ?_ | refine k_ret ?_ | refine n_seq ?_ | refine n_block ?_ | refine e_seq ?_ | refine e_here ?_ | refine r_seq ?_ | refine o_exit ?_)) | refine s_reg ?_ | refine s_ifT ?_ | refine s_ifF ?_ | refine s_if rfl (fun hb => ?_) (fun hb => ?_) | refine r_end ?_ | refine s_skipS ?_ | refine s_move ?_ | refine s_assign ?_ | refine s_int ?_ | refine s_loadB1 ?_ | refine s_loadFA ?_ | refine s_loadBA ?_ | refine s_indexD ?_ (hel := (by first | exact rfl)) | refine s_fieldB ?_ | refine s_call (h1) ?_ | refine s_call (h2) ?_ | refine s_call (h3) ?_ | refine s_call (h4) ?_ | refine s_pick ?_ | refine s_lenD ?_ | refine s_appA ?_ | refine s_storeB ?_ | refine s_bslice ?_ | refine s_alloc ?_ | refine s_not ?_ | refine s_box ?_ | refine s_build ?_ | refine s_funcC ?_ | refine s_defer ?_ | refine s_split rfl rfl (fun hb => ?_) (fun hb => ?_) | refine f_ret1 (by repeat (first | exact def_nil | refine def_cons refill1_d ?_)) ?_ | refine t_cell (P := Try.prog) ?_ | refine cf_emp ?_ | refine cf_arr rfl ?_ ?_)
    all_goals rfl

end Go.Proofs.Ytmejclckkmpggaa
