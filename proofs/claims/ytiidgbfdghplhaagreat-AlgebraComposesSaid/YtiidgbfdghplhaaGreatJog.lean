/-
  Algebra: a row is added to the joiner.
-/
import Derived.Test.YtiidgbfdghplhaaGreatJoi
import Derived.Test.YtiidgbfdghplhaaGreatNrm
import Derived.Test.YtiidgbfdghplhaaGreatJod
import Derived.Test.YtiidgbfdghplhaaGreatJof
section
namespace Go.Proofs.YtiidgbfdghplhaaGreat
open Go.Abs Go.RowKit
attribute [local irreducible] ARun kont MCall PCall HCall resVal SF CF CFs defersOk slotsIn memIn fin finM VLe
set_option linter.unusedSimpArgs false
set_option maxRecDepth 100000
set_option maxHeartbeats 4000000

def encP (e : Entry) : Bs × Int := (encRow e.row, e.count)
def enE (e : Entry) : List Dat := [strD (encRow e.row), .lit (.int .i64 e.count)]
theorem enE_map (rs : List Entry) : (rs.map encP).map enD = rs.map enE := by rw [List.map_map]; rfl

theorem entCmp1_c (a b : Entry) : PCall Tryz.prog 123 [.agg a.d, .agg b.d] (.v (.one (.lit (.int .i64 (entCmp a b))))) := by
  refine pcallN hT Tryz.func123 Tryz.ntmps123 [.tmp 4] fun B => ?_
  repeat' (first | (with_reducible (first | refine k_seq ?_ | refine k_ret ?_ | refine n_seq ?_)) | refine s_reg ?_ | refine r_end ?_ | refine s_assign ?_ | refine s_loadB1 ?_ | refine s_fieldB ?_ | refine s_call (compareRows_c _ _) ?_ | refine s_box ?_ | refine f_ret1 def_nil ?_ | refine t_tmp ?_)
  all_goals rfl

theorem entriesF_h (st : List Lev) (s : List (Bs × Int)) (rs : List Entry) (hrl : rs.length ≤ 4096) (hok : ∀ e ∈ rs, rowOK e.row = true) (hco : rs.all (fun e => countOK e.count) = false) :
    HCall Tryz.prog 94 [.c (.bp 0 0 0)] (jm st s (rs.map encP)) (.tup [.c .emp, .c (.d (.lit (.int .i64 9)))]) [.dead, .dead, .dead, .dead] := by
  refine hcallN hT Tryz.func94 Tryz.ntmps94 [.tmp 2, .tmp 3] fun B => ?_
  repeat' (first | (with_reducible (first | refine k_seq ?_ | refine k_block ?_ | refine k_skip ?_ | refine k_ret ?_ | refine n_seq ?_ | refine n_block ?_ | refine r_seq ?_ | refine r_block ?_ | refine o_ret ?_)) | refine s_reg ?_ | refine s_ifT ?_ | refine s_ifF ?_ | refine r_end ?_ | refine s_skipS ?_ | refine s_move ?_ | refine s_assign ?_ | refine s_int ?_ | refine s_nilB ?_ | refine s_loadB1 ?_ | refine s_indexA ?_ | refine s_fieldB ?_ | refine s_pick ?_ | refine s_lenA ?_ | refine s_appA ?_ | refine s_storeB ?_ | refine s_bslice ?_ | refine s_extract ?_ | refine s_alloc ?_ | refine s_build ?_ | refine s_kF ?_ | refine s_split rfl rfl (fun hb => ?_) (fun hb => ?_) | refine fh_ret2 def_nil ?_ ?_ | exact memIn_nil | refine memIn_same ?_ | refine m1 ?_ ?_ | refine memIn_dead ?_ | exact am_same)
  refine s_own 4 59 2 ?_
  refine s_lp (X := Nat × Nat) [2, 3, 4, 6, 7, 8, 14, 15, 16, 17, 18, 19, 20, 21, 22, 23, 24, 25, 26, 27, 28, 29, 30, 31, 32, 33, 34, 35, 36, 37, 38, 39, 40, 41, 42] (fun x => x.1 ≤ rs.length ∧ (rs.take x.1).all (fun e => countOK e.count) = true) (fun x lz => (4, .c (.arr 4 x.2 (rs.take x.1).length)) :: (14, (.c (.d (.lit (.int .i64 x.1))))) :: lz) (fun x => [.box 0 [.arr 1 0 st.length, .mp 2 0, .arr 3 0 (rs.map encP).length], .arr 0 136 2 (st.map Lev.d), .mapb 0 9 2 (s.map kvS), .arr 0 108 2 (rs.map enE), .arr x.2 59 2 ((rs.take x.1).map Entry.d)]) (fun x => rs.length - x.1) ((0, 1)) ?_ ?_ ?_ ?_
  repeat' (first | exact slots_nil | refine w1 ?_ | exact memIn_nil | refine memIn_same ?_ | refine m1 ?_ ?_ | refine memIn_dead ?_ | omega)
  · exact enE_map rs
  · exact ⟨by simp, by simp⟩
  rintro ⟨i, k⟩ c ⟨hi, hinv⟩
  dsimp only at hi hinv ⊢
  by_cases hlt : i < rs.length
  · have hv : rs[i]? = some rs[i] := List.getElem?_eq_getElem hlt
    have hro := hok _ (List.getElem_mem hlt)
    generalize rs[i] = e at hv hro
    have hv2 : (rs.map enE)[i]? = some (enE e) := by rw [List.getElem?_map, hv]; rfl
    have hml : (rs.map encP).length = rs.length := by simp
    have htk : rs.take (i + 1) = rs.take i ++ [e] := by rw [List.take_add_one, hv]; rfl
    have htl : (rs.take i).length = i := by simp; omega
    have hdec := decodeRow_c _ hro
    by_cases hc : countOK e.count = true
    · have hcb : -262144 ≤ e.count ∧ e.count ≤ 262144 := by simpa [countOK] using hc
      repeat' (first | (with_reducible (first | refine k_seq ?_ | refine k_block ?_ | refine k_skip ?_ | refine k_ret ?_ | refine n_seq ?_ | refine n_block ?_ | refine r_seq ?_ | refine r_block ?_ | refine o_ret ?_)) | refine s_reg ?_ | refine s_ifT ?_ | refine s_ifF ?_ | refine r_end ?_ | refine s_skipS ?_ | refine s_move ?_ | refine s_assign ?_ | refine s_int ?_ | refine s_nilB ?_ | refine s_loadB1 ?_ | refine s_loadAA ?_ (he' := (by first | exact hv2 | exact rfl)) | refine s_indexA ?_ | refine s_fieldB ?_ | refine s_call (hdec) ?_ | refine s_pick ?_ | refine s_lenA ?_ | refine s_appA ?_ | refine s_storeB ?_ | refine s_bslice ?_ | refine s_extract ?_ | refine s_alloc ?_ | refine s_build ?_ | refine s_kF ?_ | refine s_split rfl rfl (fun hb => ?_) (fun hb => ?_) | refine fh_ret2 def_nil ?_ ?_ | exact memIn_nil | refine memIn_same ?_ | refine m1 ?_ ?_ | refine memIn_dead ?_ | exact am_same)
      (apply s_round ((i + 1, _)); all_goals (try dsimp only); all_goals (try (repeat' (first | exact slots_nil | refine w1 ?_ | exact memIn_nil | refine memIn_same ?_ | refine m1 ?_ ?_ | refine memIn_dead ?_ | omega))))
      · rw [htk, List.map_append]; rfl
      · exact ⟨by omega, take_all (fun e : Entry => countOK e.count) hv hinv hc⟩
    · have hcb : e.count < -262144 ∨ 262144 < e.count := by simp [countOK] at hc; omega
      repeat' (first | (with_reducible (first | refine k_seq ?_ | refine k_block ?_ | refine k_skip ?_ | refine k_ret ?_ | refine n_seq ?_ | refine n_block ?_ | refine r_seq ?_ | refine r_block ?_ | refine o_ret ?_)) | refine s_reg ?_ | refine s_ifT ?_ | refine s_ifF ?_ | refine r_end ?_ | refine s_skipS ?_ | refine s_move ?_ | refine s_assign ?_ | refine s_int ?_ | refine s_nilB ?_ | refine s_loadB1 ?_ | refine s_loadAA ?_ (he' := (by first | exact hv2 | exact rfl)) | refine s_indexA ?_ | refine s_fieldB ?_ | refine s_call (hdec) ?_ | refine s_pick ?_ | refine s_lenA ?_ | refine s_appA ?_ | refine s_storeB ?_ | refine s_bslice ?_ | refine s_extract ?_ | refine s_alloc ?_ | refine s_build ?_ | refine s_kF ?_ | refine s_split rfl rfl (fun hb => ?_) (fun hb => ?_) | refine fh_ret2 def_nil ?_ ?_ | exact memIn_nil | refine memIn_same ?_ | refine m1 ?_ ?_ | refine memIn_dead ?_ | exact am_same)
  · rw [take_ge (by omega)] at hinv
    rw [hinv] at hco
    cases hco

theorem entriesT_h (st : List Lev) (s : List (Bs × Int)) (rs : List Entry) (hrl : rs.length ≤ 4096) (hok : ∀ e ∈ rs, rowOK e.row = true) (hco : ∀ e ∈ rs, countOK e.count = true) :
    HCall Tryz.prog 94 [.c (.bp 0 0 0)] (jm st s (rs.map encP)) (.tup [.c (.arr 4 1 rs.length), .c (.d (.lit (.int .i64 0)))]) [.dead, .dead, .dead, .dead, .arr 1 59 2 ((sortF entCmp rs).map Entry.d)] := by
  have hS := sortF87_h Entry.d (fun _ => rfl) entCmp entCmp_ok.swo 123 rs (by omega) (fun x _ y _ => entCmp1_c x y)
  refine hcallN hT Tryz.func94 Tryz.ntmps94 [.tmp 2, .tmp 3] fun B => ?_
  repeat' (first | (with_reducible (first | refine k_seq ?_ | refine k_block ?_ | refine k_skip ?_ | refine k_exit ?_ | refine k_ret ?_ | refine n_seq ?_ | refine n_block ?_ | refine e_seq ?_ | refine e_here ?_ | refine o_exit ?_)) | refine s_reg ?_ | refine s_ifT ?_ | refine s_ifF ?_ | refine r_end ?_ | refine s_move ?_ | refine s_assign ?_ | refine s_int ?_ | refine s_nilB ?_ | refine s_loadB1 ?_ | refine s_indexA ?_ | refine s_fieldB ?_ | refine s_pick ?_ | refine s_lenA ?_ | refine s_appA ?_ | refine s_storeB ?_ | refine s_bslice ?_ | refine s_extract ?_ | refine s_alloc ?_ | refine s_build ?_ | refine s_kF ?_ | refine fh_ret2 def_nil ?_ ?_ | exact memIn_nil | refine memIn_same ?_ | refine m1 ?_ ?_ | refine memIn_dead ?_ | exact am_same)
  refine s_own 4 59 2 ?_
  refine s_lp (X := Nat × Nat) [2, 3, 4, 6, 7, 8, 14, 15, 16, 17, 18, 19, 20, 21, 22, 23, 24, 25, 26, 27, 28, 29, 30, 31, 32, 33, 34, 35, 36, 37, 38, 39, 40, 41, 42] (fun x => x.1 ≤ rs.length) (fun x lz => (4, .c (.arr 4 x.2 (rs.take x.1).length)) :: (14, (.c (.d (.lit (.int .i64 x.1))))) :: lz) (fun x => [.box 0 [.arr 1 0 st.length, .mp 2 0, .arr 3 0 (rs.map encP).length], .arr 0 136 2 (st.map Lev.d), .mapb 0 9 2 (s.map kvS), .arr 0 108 2 (rs.map enE), .arr x.2 59 2 ((rs.take x.1).map Entry.d)]) (fun x => rs.length - x.1) ((0, 1)) ?_ ?_ ?_ ?_
  repeat' (first | exact slots_nil | refine w1 ?_ | exact memIn_nil | refine memIn_same ?_ | refine m1 ?_ ?_ | refine memIn_dead ?_ | omega)
  · exact enE_map rs
  rintro ⟨i, k⟩ c hi
  dsimp only at hi ⊢
  by_cases hlt : i < rs.length
  · have hv : rs[i]? = some rs[i] := List.getElem?_eq_getElem hlt
    have hro := hok _ (List.getElem_mem hlt)
    have hc := hco _ (List.getElem_mem hlt)
    generalize rs[i] = e at hv hro hc
    have hv2 : (rs.map enE)[i]? = some (enE e) := by rw [List.getElem?_map, hv]; rfl
    have hml : (rs.map encP).length = rs.length := by simp
    have htk : rs.take (i + 1) = rs.take i ++ [e] := by rw [List.take_add_one, hv]; rfl
    have htl : (rs.take i).length = i := by simp; omega
    have hdec := decodeRow_c _ hro
    have hcb : -262144 ≤ e.count ∧ e.count ≤ 262144 := by simpa [countOK] using hc
    repeat' (first | (with_reducible (first | refine k_seq ?_ | refine k_block ?_ | refine k_skip ?_ | refine k_exit ?_ | refine k_ret ?_ | refine n_seq ?_ | refine n_block ?_ | refine e_seq ?_ | refine e_here ?_ | refine o_exit ?_)) | refine s_reg ?_ | refine s_ifT ?_ | refine s_ifF ?_ | refine r_end ?_ | refine s_move ?_ | refine s_assign ?_ | refine s_int ?_ | refine s_nilB ?_ | refine s_loadB1 ?_ | refine s_loadAA ?_ (he' := (by first | exact hv2 | exact rfl)) | refine s_indexA ?_ | refine s_fieldB ?_ | refine s_call (hdec) ?_ | refine s_pick ?_ | refine s_lenA ?_ | refine s_appA ?_ | refine s_storeB ?_ | refine s_bslice ?_ | refine s_extract ?_ | refine s_alloc ?_ | refine s_build ?_ | refine s_kF ?_ | refine fh_ret2 def_nil ?_ ?_ | exact memIn_nil | refine memIn_same ?_ | refine m1 ?_ ?_ | refine memIn_dead ?_ | exact am_same)
    (apply s_round ((i + 1, _)); all_goals (try dsimp only); all_goals (try (repeat' (first | exact slots_nil | refine w1 ?_ | exact memIn_nil | refine memIn_same ?_ | refine m1 ?_ ?_ | refine memIn_dead ?_ | omega))))
    · rw [htk, List.map_append]; rfl
  · rw [take_ge (show rs.length ≤ i by omega)]
    have hml : (rs.map encP).length = rs.length := by simp
    repeat' (first | (with_reducible (first | refine k_seq ?_ | refine k_block ?_ | refine k_skip ?_ | refine k_exit ?_ | refine k_ret ?_ | refine n_seq ?_ | refine n_block ?_ | refine e_seq ?_ | refine e_here ?_ | refine o_exit ?_)) | refine s_reg ?_ | refine s_ifT ?_ | refine s_ifF ?_ | refine r_end ?_ | refine s_move ?_ | refine s_assign ?_ | refine s_int ?_ | refine s_nilB ?_ | refine s_loadB1 ?_ | refine s_indexA ?_ | refine s_fieldB ?_ | refine s_callH [4] (hS) ?_ | refine s_pick ?_ | refine s_lenA ?_ | refine s_appA ?_ | refine s_storeB ?_ | refine s_bslice ?_ | refine s_extract ?_ | refine s_alloc ?_ | refine s_build ?_ | refine s_kF ?_ | refine fh_ret2 def_nil ?_ ?_ | exact memIn_nil | refine memIn_same ?_ | refine m1 ?_ ?_ | refine memIn_dead ?_ | exact am_same)
end Go.Proofs.YtiidgbfdghplhaaGreat
end
section
namespace Go.Proofs.YtiidgbfdghplhaaGreat
open Go.Abs Go.RowKit
attribute [local irreducible] ARun kont MCall PCall HCall resVal SF CF CFs defersOk slotsIn memIn fin finM VLe
set_option linter.unusedSimpArgs false
set_option maxRecDepth 100000
set_option maxHeartbeats 4000000

theorem closeTT_h (code : Bs) (st : List Lev) (s r : List (Bs × Int)) (st' : List Lev) (s' r' : List (Bs × Int)) (h : closeE code st.reverse s r = some (st'.reverse, s', r')) (hst : st.length ≤ 100000) (hop : ∀ l ∈ st, l.opened.length ≤ 100000) (hr : r.length ≤ 4096) :
    HCall Tryz.prog 93 [.c (.bp 0 0 0), .c (.d (strD code))] (jm st s r) (.c (.d (.lit (.bool true)))) (jm1 st' s' r') := by
  by_cases hc : code = []
  · subst hc; exact closeT0_h st s r st' s' r' h hst hop hr
  · exact closeT_h code hc st s r st' s' r' h hst hop hr
theorem closeFF_h (code : Bs) (st : List Lev) (s r : List (Bs × Int)) (h : closeE code st.reverse s r = none) (hst : st.length ≤ 100000) (hop : ∀ l ∈ st, l.opened.length ≤ 100000) (hr : r.length ≤ 4096) :
    HCall Tryz.prog 93 [.c (.bp 0 0 0), .c (.d (strD code))] (jm st s r) (.c (.d (.lit (.bool false)))) [.dead, .dead, .dead, .dead] := by
  by_cases hc : code = []
  · subst hc; exact closeF0_h st s r h hst hop hr
  · exact closeF_h code hc st s r h hst hop hr

def addStep (x : Bs × Int) (q : List Bs × List (Bs × Int)) (y : Bs × Int) : List Bs × List (Bs × Int) :=
  (if hasK (x.1 ++ y.1) q.2 then q.1 else q.1 ++ [x.1 ++ y.1], setK (x.1 ++ y.1) (getK (x.1 ++ y.1) q.2 + x.2 * y.2) q.2)

def inB (M : Int) (s : List (Bs × Int)) : Prop := ∀ e ∈ s, -M ≤ e.2 ∧ e.2 ≤ M

theorem cat_list (a b : Bs) : (⟨a.toArray⟩ : ByteArray) ++ (⟨b.toArray⟩ : ByteArray) = ⟨(a ++ b).toArray⟩ := by
  apply ByteArray.ext
  simp

theorem addStep_len (x : Bs × Int) (q : List Bs × List (Bs × Int)) (y : Bs × Int) : (addStep x q y).1.length ≤ q.1.length + 1 := by
  unfold addStep
  split <;> simp

theorem addStep_inB {x : Bs × Int} {q : List Bs × List (Bs × Int)} {y : Bs × Int} {M K : Int} (h : inB M q.2) (hk : -K ≤ x.2 * y.2 ∧ x.2 * y.2 ≤ K) (hM : 0 ≤ M) : inB (M + K) (addStep x q y).2 := by
  unfold addStep
  rcases key_cases (x.1 ++ y.1) q.2 with ⟨i, v, g1, g2, _, _, g5⟩ | ⟨_, g2, _, _, g5⟩
  · have hv := h _ (List.mem_of_getElem? g1)
    simp only [g5, g2]
    intro e he
    rcases List.mem_or_eq_of_mem_set he with he | rfl
    · have := h e he; omega
    · simp only at hv ⊢; omega
  · simp only [g5, g2]
    intro e he
    rcases List.mem_append.1 he with he | he
    · have := h e he; omega
    · obtain rfl := List.mem_singleton.1 he
      simp only; omega

theorem addF_h (x : Bs × Int) (ps : List (Bs × Int)) (st : List Lev) (s r : List (Bs × Int)) (h : closeE x.1 st.reverse s r = none) (hst : st.length ≤ 100000) (hop : ∀ l ∈ st, l.opened.length ≤ 100000) (hr : r.length ≤ 4096) :
    HCall Tryz.prog 92 [.c (.bp 0 0 0), .agg ((enD x).map .d), .c (.d (.sl (ps.map enD)))] (jm st s r) (.c (.d (.lit (.bool false)))) [.dead, .dead, .dead, .dead] := by
  have hcl := closeFF_h x.1 st s r h hst hop hr
  refine hcallN hT Tryz.func92 Tryz.ntmps92 [.tmp 6] fun B => ?_
  repeat' (first | (with_reducible (first | refine k_seq ?_ | refine k_ret ?_ | refine n_seq ?_ | refine r_seq ?_)) | refine s_reg ?_ | refine s_ifT ?_ | refine r_end ?_ | refine s_move ?_ | refine s_assign ?_ | refine s_loadB1 ?_ | refine s_fieldB ?_ | refine s_callH [0, 1, 2, 3] (hcl) ?_ | refine s_not ?_ | refine s_box ?_ | refine fh_ret1 def_nil ?_ ?_ | exact memIn_nil | refine memIn_same ?_ | exact am_same)

theorem addT_h (u : Bs × Int) (ps : List (Bs × Int)) (st : List Lev) (s r : List (Bs × Int)) (st' : List Lev) (s' r' : List (Bs × Int)) (h : closeE u.1 st.reverse s r = some (st'.reverse, s', r')) (hst : st.length ≤ 100000) (hst' : st'.length ≤ 100000) (hop : ∀ l ∈ st, l.opened.length ≤ 100000) (hr : r.length ≤ 4096)
    (hpl : ps.length ≤ 100000) (M : Int) (hM : 0 ≤ M) (hb : inB M s') (hk : ∀ y ∈ ps, -68719476736 ≤ u.2 * y.2 ∧ u.2 * y.2 ≤ 68719476736) (hMb : M + 68719476736 * ps.length ≤ 2305843009213693952) (hxl : u.1.length ≤ 100000) (hyl : ∀ y ∈ ps, y.1.length ≤ 100000) :
    HCall Tryz.prog 92 [.c (.bp 0 0 0), .agg ((enD u).map .d), .c (.d (.sl (ps.map enD)))] (jm st s r) (.c (.d (.lit (.bool true)))) (jm1 (st' ++ [⟨u.1, (ps.foldl (addStep u) ([], s')).1⟩]) (ps.foldl (addStep u) ([], s')).2 r') := by
  have hcl := closeTT_h u.1 st s r st' s' r' h hst hop hr
  refine hcallN hT Tryz.func92 Tryz.ntmps92 [.tmp 6] fun B => ?_
  repeat' (first | (with_reducible (first | refine k_seq ?_ | refine k_block ?_ | refine k_skip ?_ | refine k_exit ?_ | refine k_ret ?_ | refine n_seq ?_ | refine n_block ?_ | refine e_seq ?_ | refine e_here ?_ | refine o_exit ?_)) | refine s_reg ?_ | refine s_ifT ?_ | refine s_ifF ?_ | refine r_end ?_ | refine s_endD ?_ | refine s_move ?_ | refine s_assign ?_ | refine s_int ?_ | refine s_str ?_ | refine s_nilB ?_ | refine s_loadB1 ?_ | refine s_loadFA ?_ | refine s_indexD ?_ (hel := (by first | exact rfl)) | refine s_fieldB ?_ | refine s_callH [0, 1, 2, 3] (hcl) ?_ | refine s_lenD ?_ | refine s_appA ?_ | refine s_storeB ?_ | refine s_bslice ?_ | refine s_extract ?_ | refine s_alloc ?_ | refine s_not ?_ | refine s_box ?_ | refine s_build ?_ | refine fh_ret1 def_nil ?_ ?_ | exact memIn_nil | refine memIn_same ?_ | refine m1 ?_ ?_ | refine m2 ?_ ?_ | exact am_same)
  refine s_own 7 9 1 ?_
  refine s_lp (X := Nat × List Bs × List (Bs × Int) × Nat) [7, 9, 10, 11, 12, 20, 21, 22, 23, 24, 25, 26, 27, 28, 29, 30, 31, 32, 33, 34, 35, 36, 37, 38, 39, 40, 41, 42, 43, 44, 45, 46, 47, 48, 49, 50, 51, 52, 53, 54, 55, 56] (fun x => x.1 ≤ ps.length ∧ (ps.take x.1).foldl (addStep u) ([], s') = (x.2.1, x.2.2.1) ∧ x.2.1.length ≤ x.1 ∧ inB (M + 68719476736 * x.1) x.2.2.1) (fun x lz => (7, .c (.arr 5 x.2.2.2 x.2.1.length)) :: (20, (.c (.d (.lit (.int .i64 x.1))))) :: lz) (fun x => [.box 0 [.arr 1 2 st'.length, .mp 2 0, .arr 3 2 r'.length], .arr 2 136 2 (st'.map Lev.d), .mapb 0 9 2 (x.2.2.1.map kvS), .arr 2 108 2 (r'.map enD), .box 1 [.d (strD u.1), .d (.lit (.int .i64 u.2))], .arr x.2.2.2 9 1 (x.2.1.map fun c => [strD c])]) (fun x => ps.length - x.1) ((0, [], s', 3)) ?_ ?_ ?_ ?_
  repeat' (first | exact slots_nil | refine w1 ?_ | exact memIn_nil | refine memIn_same ?_ | refine m1 ?_ ?_ | refine m2 ?_ ?_ | omega)
  · exact ⟨by omega, by simp, by simp, by simpa using hb⟩
  rintro ⟨i, op, s1, k5⟩ c ⟨hi, hinv, hol, hb1⟩
  dsimp only at hi hinv hol hb1 ⊢
  by_cases hlt : i < ps.length
  · have hv : ps[i]? = some ps[i] := List.getElem?_eq_getElem hlt
    have hyk := hk _ (List.getElem_mem hlt)
    have hyl1 := hyl _ (List.getElem_mem hlt)
    generalize ps[i] = y at hv hyk hyl1
    have htk : (ps.take (i + 1)).foldl (addStep u) ([], s') = addStep u (op, s1) y := by rw [List.take_add_one, hv, List.foldl_append, hinv]; rfl
    have hb2 := addStep_inB (x := u) (q := (op, s1)) (y := y) (K := 68719476736) hb1 hyk (by omega)
    have hcat := cat_list u.1 y.1
    have hsz1 := size_list u.1
    have hsz2 := size_list y.1
    have hbd : -(M + 68719476736 * i) - 1 ≤ getK (u.1 ++ y.1) s1 ∧ getK (u.1 ++ y.1) s1 ≤ M + 68719476736 * i + 1 := by
      rcases key_cases (u.1 ++ y.1) s1 with ⟨j, v, g1, g2, _⟩ | ⟨_, g2, _⟩
      · have := hb1 _ (List.mem_of_getElem? g1); simp only at this; rw [g2]; omega
      · rw [g2]; omega
    have hmi : M + 68719476736 * i ≤ 2305843009213693952 := by omega
    unfold addStep at htk hb2
    rcases key_cases (u.1 ++ y.1) s1 with ⟨j, v, g1, g2, g3, _, g5⟩ | ⟨g1, g2, g3, _, g5⟩
    · rw [g2] at hbd
      simp only [g2, g3, g5, if_true] at htk hb2
      have g1' := kvS_get g1
      rw [← hcat] at g1'
      repeat' (first | (with_reducible (first | refine k_seq ?_ | refine k_block ?_ | refine k_skip ?_ | refine k_exit ?_ | refine k_ret ?_ | refine n_seq ?_ | refine n_block ?_ | refine e_seq ?_ | refine e_here ?_ | refine o_exit ?_)) | refine s_reg ?_ | refine s_ifT ?_ | refine s_ifF ?_ | refine r_end ?_ | refine s_endD ?_ | refine s_move ?_ | refine s_assign ?_ | refine s_int ?_ | refine s_str ?_ | refine s_nilB ?_ | refine s_loadB1 ?_ | refine s_loadFA ?_ | refine s_indexD ?_ (hel := (by first | exact idx_map hv (by omega) | exact hv | exact rfl)) | refine s_fieldB ?_ | refine s_lenD ?_ | refine s_appA ?_ | refine s_storeB ?_ | refine s_bslice ?_ | refine s_extract ?_ | refine s_alloc ?_ | refine s_not ?_ | refine s_box ?_ | refine s_build ?_ | refine s_lookB2 g1' ⟨_, rfl⟩ (kvS_good _) ?_ | refine s_mapbOld g1' ⟨_, rfl⟩ (kvS_good _) ?_ | refine fh_ret1 def_nil ?_ ?_ | exact memIn_nil | refine memIn_same ?_ | refine m1 ?_ ?_ | refine m2 ?_ ?_ | exact am_same)
      rw [hcat, kvS_set]
      generalize s1.set j (u.1 ++ y.1, v + u.2 * y.2) = s4 at htk hb2 ⊢
      (apply s_round ((i + 1, op, s4, k5)); all_goals (try dsimp only); all_goals (try (repeat' (first | exact slots_nil | refine w1 ?_ | exact memIn_nil | refine memIn_same ?_ | refine m1 ?_ ?_ | refine m2 ?_ ?_ | omega))))
      exact ⟨by omega, htk, by omega, by have := hb2; rw [show M + 68719476736 * (i : Int) + 68719476736 = M + 68719476736 * ((i + 1 : Nat) : Int) by omega] at this; exact this⟩
    · rw [g2] at hbd
      simp only [g2, g3, g5, if_false, Bool.false_eq_true] at htk hb2
      have g1' := kvS_not g1
      rw [← hcat] at g1'
      have hl5 : op.length + [[Dat.lit (Value.string ⟨(u.1 ++ y.1).toArray⟩)]].length = (op ++ [u.1 ++ y.1]).length := by simp
      have hm4 : (op.map fun c => [strD c]) ++ [[Dat.lit (Value.string ⟨(u.1 ++ y.1).toArray⟩)]] = (op ++ [u.1 ++ y.1]).map fun c => [strD c] := by rw [List.map_append]; rfl
      repeat' (first | (with_reducible (first | refine k_seq ?_ | refine k_block ?_ | refine k_skip ?_ | refine k_exit ?_ | refine k_ret ?_ | refine n_seq ?_ | refine n_block ?_ | refine e_seq ?_ | refine e_here ?_ | refine o_exit ?_)) | refine s_reg ?_ | refine s_ifT ?_ | refine s_ifF ?_ | refine r_end ?_ | refine s_endD ?_ | refine s_move ?_ | refine s_assign ?_ | refine s_int ?_ | refine s_str ?_ | refine s_nilB ?_ | refine s_loadB1 ?_ | refine s_loadFA ?_ | refine s_indexD ?_ (hel := (by first | exact idx_map hv (by omega) | exact hv | exact rfl)) | refine s_fieldB ?_ | refine s_lenD ?_ | refine s_appA ?_ | refine s_storeB ?_ | refine s_bslice ?_ | refine s_extract ?_ | refine s_alloc ?_ | refine s_not ?_ | refine s_box ?_ | refine s_build ?_ | refine s_lookBF2 g1' ⟨_, rfl⟩ (kvS_good _) ?_ | refine s_mapbNew g1' ⟨_, rfl⟩ (kvS_good _) ?_ | refine fh_ret1 def_nil ?_ ?_ | exact memIn_nil | refine memIn_same ?_ | refine m1 ?_ ?_ | refine m2 ?_ ?_ | exact am_same)
      rw [hcat, kvS_snoc, hm4, hl5]
      have hol2 : (op ++ [u.1 ++ y.1]).length ≤ i + 1 := by simp; omega
      generalize s1 ++ [(u.1 ++ y.1, 0 + u.2 * y.2)] = s4 at htk hb2 ⊢
      generalize op ++ [u.1 ++ y.1] = op4 at htk hol2 ⊢
      (apply s_round ((i + 1, op4, s4, c + 2)); all_goals (try dsimp only); all_goals (try (repeat' (first | exact slots_nil | refine w1 ?_ | exact memIn_nil | refine memIn_same ?_ | refine m1 ?_ ?_ | refine m2 ?_ ?_ | omega))))
      exact ⟨by omega, htk, by omega, by have := hb2; rw [show M + 68719476736 * (i : Int) + 68719476736 = M + 68719476736 * ((i + 1 : Nat) : Int) by omega] at this; exact this⟩
  · have hie : i = ps.length := by omega
    subst hie
    rw [List.take_length] at hinv
    rw [hinv]
    repeat' (first | refine s_freeze 7 ?_ (hes := show (op.map fun c => [strD c]).take op.length = op.map fun c => [strD c] from List.take_of_length_le (by simp)) | (with_reducible (first | refine k_seq ?_ | refine k_block ?_ | refine k_skip ?_ | refine k_exit ?_ | refine k_ret ?_ | refine n_seq ?_ | refine n_block ?_ | refine e_seq ?_ | refine e_here ?_ | refine o_exit ?_)) | refine s_reg ?_ | refine s_ifT ?_ | refine s_ifF ?_ | refine r_end ?_ | refine s_endD ?_ | refine s_move ?_ | refine s_assign ?_ | refine s_int ?_ | refine s_str ?_ | refine s_nilB ?_ | refine s_loadB1 ?_ | refine s_loadFA ?_ | refine s_indexD ?_ (hel := (by first | exact rfl)) | refine s_fieldB ?_ | refine s_lenD ?_ | refine s_appA ?_ | refine s_storeB ?_ | refine s_bslice ?_ | refine s_extract ?_ | refine s_alloc ?_ | refine s_not ?_ | refine s_box ?_ | refine s_build ?_ | refine fh_ret1 def_nil ?_ ?_ | exact memIn_nil | refine memIn_same ?_ | refine m1 ?_ ?_ | refine m2 ?_ ?_ | exact am_same)
    · simp only [List.length_append, List.length_singleton]; rfl
    · rw [List.map_append]; rfl
end Go.Proofs.YtiidgbfdghplhaaGreat
end
