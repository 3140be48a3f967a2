/-
  The cache: what has expired, and the document's own.
-/
import Derived.Test.YtmejclckkmpggaaCac
namespace Go.Proofs.Ytmejclckkmpggaa
open Go.Abs Go.RowKit
attribute [local irreducible] ARun kont MCall PCall HCall resVal SF CF CFs defersOk slotsIn memIn fin finM VLe
set_option linter.unusedSimpArgs false
set_option maxRecDepth 100000
set_option maxHeartbeats 4000000

theorem expire1_d : DeferOk Try.prog 62 1 := by
  refine ⟨⟨_, Try.func62, by kernel_rfl, by kernel_rfl⟩, fun vs w hl => ?_⟩
  match vs, hl with
  | [p0], _ =>
    refine callsD_of_wpS Try.func62 rfl fun c₀ cs hu => ?_
    apply wpS_seq
    apply wpS_region
    simp [wpOpsS, go_sem, recoverD, hu, Try.ntmps62, Exit.thenS]
    refine wpS_cond (t := false) (by simp [Act.eval, Array.replicate]) ?_
    simp only [Bool.false_eq_true, if_false]
    refine wpS_of_wp (wp_skip ?_)
    cases c₀
    simp_all [bodyPostS, results, Try.results62]

theorem refCValid_c (l : List Cach) (hb : l.length ≤ 100000) : PCall Try.prog 32 [.one (cachD l)] (.v (.one (.lit (.bool (validC l))))) := by
  refine pcallN hT Try.func32 Try.ntmps32 [.tmp 2] fun B => ?_
  repeat' (first | (with_reducible (first | refine k_seq ?_ | refine k_block ?_ | refine k_skip ?_ | refine k_exit ?_ | refine k_ret ?_ | refine n_seq ?_ | refine n_block ?_ | refine e_seq ?_ | refine e_here ?_ | refine r_seq ?_ | refine r_block ?_ | refine o_exit ?_ | refine o_ret ?_)) | refine s_reg ?_ | refine s_ifT ?_ | refine s_ifF ?_ | refine s_if rfl (fun hb => ?_) (fun hb => ?_) | refine r_end ?_ | refine s_endD ?_ | refine s_skipS ?_ | refine s_skipU ?_ | refine s_move ?_ | refine s_assign ?_ | refine s_int ?_ | refine s_loadF1 ?_ | refine s_loadFA ?_ | refine s_indexD ?_ (hel := (by first | exact rfl)) | refine s_fieldF ?_ | refine s_pick ?_ | refine s_lenD ?_ | refine s_not ?_ | refine s_kT ?_ | refine s_split rfl rfl (fun hb => ?_) (fun hb => ?_) | refine f_ret1 def_nil ?_ | refine t_tmp ?_)
  refine s_lp (X := Nat) [2, 3, 4, 5, 6, 7, 8, 9, 10, 11, 12, 13, 14, 15, 16, 17, 18, 19, 20, 21, 22, 23, 24, 25, 26, 27, 28, 29, 30, 31, 32, 33, 34, 35, 36, 37, 38, 39, 40, 41, 42, 43, 44, 45, 46, 47, 48, 49, 50, 51, 52, 53, 54, 55, 56, 57, 58, 59, 60] (fun x => x ≤ l.length ∧ goodC none l = goodC (prevC l x) (l.drop x)) (fun x lz => (3, (.c (.d (.lit (.int .i64 x))))) :: lz) (fun x => []) (fun x => l.length - x) (0) ?_ ?_ ?_ ?_
  repeat' (first | exact slots_nil | refine w1 ?_ | exact memIn_nil | omega)
  · exact ⟨by simp, by simp [prevC]⟩
  rintro i c ⟨hi, hinv⟩
  by_cases hlt : i < l.length
  · have hv : l[i]? = some l[i] := List.getElem?_eq_getElem hlt
    generalize l[i] = e at hv
    rw [goodC_step hv] at hinv
    rcases i with _ | j
    · have hp : prevC l 0 = none := rfl
      rw [hp] at hinv
      repeat' (first | (with_reducible (first | refine k_seq ?_ | refine k_block ?_ | refine k_skip ?_ | refine k_exit ?_ | refine k_ret ?_ | refine n_seq ?_ | refine n_block ?_ | refine e_seq ?_ | refine e_here ?_ | refine r_seq ?_ | refine r_block ?_ | refine o_exit ?_ | refine o_ret ?_)) | refine s_reg ?_ | refine s_ifT ?_ | refine s_ifF ?_ | refine s_if rfl (fun hb => ?_) (fun hb => ?_) | refine r_end ?_ | refine s_endD ?_ | refine s_skipS ?_ | refine s_skipU ?_ | refine s_move ?_ | refine s_assign ?_ | refine s_int ?_ | refine s_loadF1 ?_ | refine s_loadFA ?_ | refine s_indexD ?_ (hel := (by first | exact idx_map hv (by omega) | exact hv | exact rfl)) | refine s_fieldF ?_ | refine s_call (refValid_c e.val) ?_ | refine s_call (refBagValid_c _) ?_ | refine s_call (refCompare_c _ _) ?_ | refine s_pick ?_ | refine s_lenD ?_ | refine s_not ?_ | refine s_kT ?_ | refine s_split rfl rfl (fun hb => ?_) (fun hb => ?_) | refine f_ret1 def_nil ?_ | refine t_tmp ?_)
      all_goals first
        | (refine congrArg Dat.lit (congrArg Value.bool ?_); simp_all [validC, Cach.ok, dayOK]; done)
        | (refine congrArg Dat.lit (congrArg Value.bool ?_); simp only [validC, hinv, Cach.ok, dayOK]; simp_all; intros; omega)
        | ((apply s_round (1); all_goals (try dsimp only); all_goals (try (repeat' (first | exact slots_nil | refine w1 ?_ | exact memIn_nil | omega)))); (try exact ⟨by omega, by rw [hinv]; simp_all [Cach.ok, dayOK]⟩))
    · have hu : l[j]? = some l[j] := List.getElem?_eq_getElem (by omega)
      generalize l[j] = p at hu
      have hp : prevC l (j + 1) = some p := by simp [prevC, hu]
      rw [hp] at hinv
      repeat' (first | (with_reducible (first | refine k_seq ?_ | refine k_block ?_ | refine k_skip ?_ | refine k_exit ?_ | refine k_ret ?_ | refine n_seq ?_ | refine n_block ?_ | refine e_seq ?_ | refine e_here ?_ | refine r_seq ?_ | refine r_block ?_ | refine o_exit ?_ | refine o_ret ?_)) | refine s_reg ?_ | refine s_ifT ?_ | refine s_ifF ?_ | refine s_if rfl (fun hb => ?_) (fun hb => ?_) | refine r_end ?_ | refine s_endD ?_ | refine s_skipS ?_ | refine s_skipU ?_ | refine s_move ?_ | refine s_assign ?_ | refine s_int ?_ | refine s_loadF1 ?_ | refine s_loadFA ?_ | refine s_indexD ?_ (hel := (by first | exact idx_map hv (by omega) | exact idx_map hu (by omega) | exact hv | exact hu | exact rfl)) | refine s_fieldF ?_ | refine s_call (refValid_c e.val) ?_ | refine s_call (refBagValid_c _) ?_ | refine s_call (refCompare_c p.val e.val) ?_ | refine s_pick ?_ | refine s_lenD ?_ | refine s_not ?_ | refine s_kT ?_ | refine s_split rfl rfl (fun hb => ?_) (fun hb => ?_) | refine f_ret1 def_nil ?_ | refine t_tmp ?_)
      all_goals first
        | (refine congrArg Dat.lit (congrArg Value.bool ?_); simp_all [validC, Cach.ok, dayOK]; done)
        | (refine congrArg Dat.lit (congrArg Value.bool ?_); simp only [validC, hinv, Cach.ok, dayOK]; simp_all; intros; omega)
        | ((apply s_round (j + 1 + 1); all_goals (try dsimp only); all_goals (try (repeat' (first | exact slots_nil | refine w1 ?_ | exact memIn_nil | omega)))); (try exact ⟨by omega, by rw [hinv]; simp_all [Cach.ok, dayOK]⟩))
  · repeat' (first | (with_reducible (first | refine k_seq ?_ | refine k_block ?_ | refine k_skip ?_ | refine k_exit ?_ | refine k_ret ?_ | refine n_seq ?_ | refine n_block ?_ | refine e_seq ?_ | refine e_here ?_ | refine r_seq ?_ | refine r_block ?_ | refine o_exit ?_ | refine o_ret ?_)) | refine s_reg ?_ | refine s_ifT ?_ | refine s_ifF ?_ | refine s_if rfl (fun hb => ?_) (fun hb => ?_) | refine r_end ?_ | refine s_endD ?_ | refine s_skipS ?_ | refine s_skipU ?_ | refine s_move ?_ | refine s_assign ?_ | refine s_int ?_ | refine s_loadF1 ?_ | refine s_loadFA ?_ | refine s_indexD ?_ (hel := (by first | exact rfl)) | refine s_fieldF ?_ | refine s_pick ?_ | refine s_lenD ?_ | refine s_not ?_ | refine s_kT ?_ | refine s_split rfl rfl (fun hb => ?_) (fun hb => ?_) | refine f_ret1 def_nil ?_ | refine t_tmp ?_)
    refine congrArg Dat.lit (congrArg Value.bool ?_)
    rw [List.drop_eq_nil_of_le (by omega)] at hinv
    simp [validC, hinv, goodC]
    omega

structure Conf where
  name : ByteArray
  source : ByteArray
  col : Int
  ttl : Int
def Conf.d (c : Conf) : List Dat := [.lit (.string c.name), .lit (.string c.source), .lit (.int .i64 c.col), .lit (.int .i64 c.ttl)]

theorem goodC_mem : ∀ {l : List Cach} {p : Option Cach}, goodC p l = true → ∀ e ∈ l, e.ok = true
  | [], _, _, e, he => by cases he
  | x :: l, p, h, e, he => by
    simp only [goodC, Bool.and_eq_true] at h
    rcases List.mem_cons.1 he with rfl | he
    · exact h.1.1
    · exact goodC_mem h.2 e he
theorem validC_mem {l : List Cach} (h : validC l = true) : l.length ≤ 16 ∧ ∀ x ∈ l, x.val.valid = true ∧ bagValid x.rows = true ∧ 0 ≤ x.day ∧ x.day ≤ 1048576 := by
  simp only [validC, Bool.and_eq_true, decide_eq_true_eq] at h
  refine ⟨h.1, fun e he => ?_⟩
  have := goodC_mem h.2 e he
  simp only [Cach.ok, dayOK, Bool.and_eq_true, decide_eq_true_eq] at this
  exact ⟨this.1.1, this.1.2, this.2⟩

def liveE (ttl day : Int) (x : Cach) : Bool := decide (x.day ≤ day) && decide (day < x.day + ttl)

theorem live_h (x : Cach) (c : Conf) (day : Int) (h1 : 0 ≤ x.day ∧ x.day ≤ 1048576) (h2 : dayOK c.ttl = true) : HCall Try.prog 63 [.agg (x.d.map .d), .c (.bp 0 0 0), .c (.bp 1 0 0)] [.box 0 [.d (.lit (.int .i64 day))], .box 0 (c.d.map .d)] (.c (.d (.lit (.bool (liveE c.ttl day x))))) [.box 0 [.d (.lit (.int .i64 day))], .box 0 (c.d.map .d)] := by
  simp only [dayOK, Bool.and_eq_true, decide_eq_true_eq] at h2
  refine hcallN hT Try.func63 Try.ntmps63 [.tmp 4] fun B => ?_
  repeat' (first | (with_reducible (first | refine k_seq ?_ | refine k_ret ?_ | refine n_seq ?_)) | refine s_reg ?_ | refine r_end ?_ | refine s_skipS ?_ | refine s_move ?_ | refine s_assign ?_ | refine s_int ?_ | refine s_loadB1 ?_ | refine s_fieldB ?_ | refine s_pick ?_ | refine s_box ?_ | refine s_split rfl rfl (fun hb => ?_) (fun hb => ?_) | refine fh_ret1 def_nil ?_ ?_ | exact memIn_nil | refine memIn_same ?_ | refine am_d rfl ?_)
  all_goals (refine congrArg Dat.lit (congrArg Value.bool ?_); simp [liveE]; omega)

theorem filter_snoc {α : Type} (p : α → Bool) {l : List α} {i : Nat} {e : α} (h : l[i]? = some e) : (l.take (i + 1)).filter p = (l.take i).filter p ++ (if p e then [e] else []) := by
  rw [List.take_add_one, h, List.filter_append]
  congr 1
  by_cases hq : p e = true <;> simp [hq]
theorem filter_take_len {α : Type} (p : α → Bool) (l : List α) (i : Nat) : ((l.take i).filter p).length ≤ i := Nat.le_trans (List.length_filter_le ..) (by simp; omega)
theorem rows_bd {l : List Entry} (h : bagValid l = true) : l.length ≤ 100000 ∧ ∀ e ∈ l, e.row.length ≤ 100000 := by
  obtain ⟨h1, h2⟩ := valid_mem h
  exact ⟨by omega, fun e he => by have := rowOK_len (h2 e he).1; omega⟩

theorem keepX_h (s : List Cach) (c : Conf) (day : Int) (hs : validC s = true) (hc : dayOK c.ttl = true) : HCall Try.prog 60 [.c (.d (cachD s)), .c (.clo 63 [.bp 0 0 0, .bp 1 0 0])] [.box 0 [.d (.lit (.int .i64 day))], .box 0 (c.d.map .d)] (.c (.arr 2 1 (s.filter (liveE c.ttl day)).length)) [.box 0 [.d (.lit (.int .i64 day))], .box 0 (c.d.map .d), .arr 1 46 5 ((s.filter (liveE c.ttl day)).map Cach.d)] := by
  obtain ⟨hl, hm⟩ := validC_mem hs
  refine hcallN hT Try.func60 Try.ntmps60 [.tmp 4] fun B => ?_
  repeat' (first | (with_reducible (first | refine k_seq ?_ | refine k_block ?_ | refine k_skip ?_ | refine k_exit ?_ | refine k_ret ?_ | refine n_seq ?_ | refine n_block ?_ | refine e_seq ?_ | refine e_here ?_ | refine o_exit ?_)) | refine s_reg ?_ | refine s_ifT ?_ | refine s_ifF ?_ | refine s_if rfl (fun hb => ?_) (fun hb => ?_) | refine r_end ?_ | refine s_endD ?_ | refine s_move ?_ | refine s_assign ?_ | refine s_int ?_ | refine s_loadB1 ?_ | refine s_loadFA ?_ | refine s_loadBA ?_ | refine s_indexD ?_ (hel := (by first | exact rfl)) | refine s_fieldB ?_ | refine s_lenD ?_ | refine s_appA ?_ | refine s_storeB ?_ | refine s_bslice ?_ | refine s_alloc ?_ | refine s_build ?_ | refine fh_ret1 def_nil ?_ ?_ | exact memIn_nil | refine memIn_same ?_ | refine m1 ?_ ?_ | exact am_same)
  refine s_own 5 46 5 ?_
  refine s_lp (X := Nat × Nat) [5, 7, 10, 11, 12, 13, 14, 15, 16, 17, 18, 19, 20, 21, 22, 23, 24, 25, 26, 27, 28] (fun x => x.1 ≤ s.length) (fun x lz => (10, (.c (.d (.lit (.int .i64 x.1))))) :: (5, .c (.arr 2 x.2 ((s.take x.1).filter (liveE c.ttl day)).length)) :: lz) (fun x => [.box 0 [.d (.lit (.int .i64 day))], .box 0 (c.d.map .d), .arr x.2 46 5 (((s.take x.1).filter (liveE c.ttl day)).map Cach.d)]) (fun x => s.length - x.1) ((0, 1)) ?_ ?_ ?_ ?_
  repeat' (first | exact slots_nil | refine w1 ?_ | refine w5 ?_ ?_ | exact memIn_nil | refine memIn_same ?_ | refine m1 ?_ ?_ | omega)
  rintro ⟨i, k⟩ ck hi
  dsimp only at hi ⊢
  have hsl := filter_take_len (liveE c.ttl day) s i
  by_cases hlt : i < s.length
  · have hv : s[i]? = some s[i] := List.getElem?_eq_getElem hlt
    obtain ⟨hx1, hx2, hx3⟩ := hm _ (List.getElem_mem hlt)
    generalize s[i] = e at hv hx1 hx2 hx3
    obtain ⟨r1, r2⟩ := rows_bd hx2
    have hcl := cloneRows_c e.rows r1 r2
    have hsn := filter_snoc (liveE c.ttl day) hv
    have hlv := live_h e c day hx3 hc
    repeat' (first | (with_reducible (first | refine k_seq ?_ | refine k_block ?_ | refine k_skip ?_ | refine k_exit ?_ | refine k_ret ?_ | refine n_seq ?_ | refine n_block ?_ | refine e_seq ?_ | refine e_here ?_ | refine o_exit ?_)) | refine s_reg ?_ | refine s_ifT ?_ | refine s_ifF ?_ | refine s_if rfl (fun hb => ?_) (fun hb => ?_) | refine r_end ?_ | refine s_endD ?_ | refine s_move ?_ | refine s_assign ?_ | refine s_int ?_ | refine s_loadB1 ?_ | refine s_loadFA ?_ | refine s_loadBA ?_ | refine s_indexD ?_ (hel := (by first | exact idx_map hv (by omega) | exact hv | exact rfl)) | refine s_fieldB ?_ | refine s_call (hcl) ?_ | refine s_callH [0, 1] (hlv) ?_ | refine s_lenD ?_ | refine s_appA ?_ | refine s_storeB ?_ | refine s_bslice ?_ | refine s_alloc ?_ | refine s_build ?_ | refine fh_ret1 def_nil ?_ ?_ | exact memIn_nil | refine memIn_same ?_ | refine m1 ?_ ?_ | exact am_same)
    · rw [if_pos hb] at hsn
      (apply s_round ((i + 1, _)); all_goals (try dsimp only); all_goals (try (repeat' (first | exact slots_nil | refine w1 ?_ | refine w5 ?_ ?_ | exact memIn_nil | refine memIn_same ?_ | refine m1 ?_ ?_ | omega))))
      all_goals first
        | (rw [hsn]; simp; done)
        | (rw [hsn, List.map_append]; rfl)
    · rw [if_neg (by simp [hb]), List.append_nil] at hsn
      (apply s_round ((i + 1, _)); all_goals (try dsimp only); all_goals (try (repeat' (first | exact slots_nil | refine w1 ?_ | refine w5 ?_ ?_ | exact memIn_nil | refine memIn_same ?_ | refine m1 ?_ ?_ | omega))))
      all_goals (rw [hsn])
  · rw [take_ge (by omega)]
    repeat' (first | (with_reducible (first | refine k_seq ?_ | refine k_block ?_ | refine k_skip ?_ | refine k_exit ?_ | refine k_ret ?_ | refine n_seq ?_ | refine n_block ?_ | refine e_seq ?_ | refine e_here ?_ | refine o_exit ?_)) | refine s_reg ?_ | refine s_ifT ?_ | refine s_ifF ?_ | refine s_if rfl (fun hb => ?_) (fun hb => ?_) | refine r_end ?_ | refine s_endD ?_ | refine s_move ?_ | refine s_assign ?_ | refine s_int ?_ | refine s_loadB1 ?_ | refine s_loadFA ?_ | refine s_loadBA ?_ | refine s_indexD ?_ (hel := (by first | exact rfl)) | refine s_fieldB ?_ | refine s_lenD ?_ | refine s_appA ?_ | refine s_storeB ?_ | refine s_bslice ?_ | refine s_alloc ?_ | refine s_build ?_ | refine fh_ret1 def_nil ?_ ?_ | exact memIn_nil | refine memIn_same ?_ | refine m1 ?_ ?_ | exact am_same)

def expE (c : Conf) (s : List Cach) (day : Int) : List Cach := if validC s && dayOK c.ttl && dayOK day then s.filter (liveE c.ttl day) else []

theorem expire_h (c : Conf) (s : List Cach) (day : Int) (hs : validC s = true) (hc : dayOK c.ttl = true) (hd : dayOK day = true) : HCall Try.prog 26 [.agg (c.d.map .d), .c (.d (cachD s)), (.c (.d (.lit (.int .i64 day))))] [] (.c (.arr 3 1 (s.filter (liveE c.ttl day)).length)) [.dead, .dead, .dead, .arr 1 46 5 ((s.filter (liveE c.ttl day)).map Cach.d)] := by
  have h1 := cvalid_c s
  have h2 := inDays_c c.ttl
  have h3 := inDays_c day
  have h4 := keepX_h s c day hs hc
  rw [hs] at h1
  rw [hc] at h2
  rw [hd] at h3
  refine hcallN hT Try.func26 Try.ntmps26 [.cell 6 37] fun B => ?_
  repeat' (first | (with_reducible (first | refine k_seq ?_ | refine k_skip ?_ | refine k_ret ?_ | refine n_seq ?_)) | refine s_reg ?_ | refine s_ifF ?_ | refine r_end ?_ | refine s_move ?_ | refine s_loadB1 ?_ | refine s_fieldB ?_ | refine s_call (h1) ?_ | refine s_call (h2) ?_ | refine s_call (h3) ?_ | refine s_callH [1, 0] (h4) ?_ | refine s_pick ?_ | refine s_storeB ?_ | refine s_alloc ?_ | refine s_not ?_ | refine s_box ?_ | refine s_funcC ?_ | refine s_defer ?_ | refine fh_cellS (by repeat (first | exact def_nil | refine def_cons expire1_d ?_)) ?_ ?_ | exact memIn_nil | refine memIn_same ?_ | refine memIn_dead ?_ | exact am_same)

end Go.Proofs.Ytmejclckkmpggaa
