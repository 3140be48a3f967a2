/-
  Equal rows and bags; supports and sizes; the examples of the chapter.
-/
import Derived.Test.YtmpgmjlanngkfaaGreatNrm
import Derived.Test.YtmpgmjlanngkfaaGreatTyB
namespace Go.Proofs.YtmpgmjlanngkfaaGreat
open Go.Abs Go.RowKit
attribute [local irreducible] ARun kont MCall PCall HCall resVal SF CF CFs defersOk slotsIn memIn fin finM VLe
set_option linter.unusedSimpArgs false
set_option maxRecDepth 100000
set_option maxHeartbeats 4000000

def sameVal (a b : Val) : Bool := (a.kind == b.kind) && ((a.int == b.int) && (a.text.toList == b.text.toList))
def sameRow : List Val → List Val → Bool
  | [], [] => true
  | a :: x, b :: y => sameVal a b && sameRow x y
  | _, _ => false
theorem sameVal_refl (a : Val) : sameVal a a = true := by simp [sameVal]
theorem sameRow_refl : ∀ r : List Val, sameRow r r = true
  | [] => rfl
  | a :: r => by simp [sameRow, sameVal_refl, sameRow_refl r]
theorem sameRow_len : ∀ {r s : List Val}, sameRow r s = true → r.length = s.length
  | [], [], _ => rfl
  | a :: x, b :: y, h => by simp [sameRow] at h; simp [sameRow_len h.2]
  | [], _ :: _, h => by cases h
  | _ :: _, [], h => by cases h
theorem lits_same (a b : Val) : litsEq [.int .i64 a.kind, .int .i64 a.int, .string a.text] [.int .i64 b.kind, .int .i64 b.int, .string b.text] = sameVal a b := by
  simp [litsEq, litEq, sameVal]

theorem same01_c (r s : List Val) : PCall Tryz.prog 49 [.one (rowD r), .one (rowD s)] (.v (.one (.lit (.bool (sameRow r s))))) := by
  refine pcallN hT Tryz.func49 Tryz.ntmps49 [.tmp 4] fun B => ?_
  refine k_len 0 rfl fun hlr => ?_
  simp only [List.length_map, maxLen] at hlr
  repeat' (first | (with_reducible (first | refine k_seq ?_ | refine k_block ?_ | refine k_skip ?_ | refine k_exit ?_ | refine k_ret ?_ | refine n_seq ?_ | refine n_block ?_ | refine e_seq ?_ | refine e_here ?_ | refine r_seq ?_ | refine r_block ?_ | refine o_exit ?_ | refine o_ret ?_)) | refine s_reg ?_ | refine s_ifT ?_ | refine s_ifF ?_ | refine s_if rfl (fun hb => ?_) (fun hb => ?_) | refine r_end ?_ | refine s_endD ?_ | refine s_move ?_ | refine s_assign ?_ | refine s_int ?_ | refine s_neA ?_ | refine s_loadFA ?_ | refine s_indexD ?_ (hel := (by first | exact rfl)) | refine s_lenD ?_ | refine f_ret1 def_nil ?_ | refine t_tmp ?_)
  · refine congrArg Dat.lit (congrArg Value.bool ?_)
    cases h : sameRow r s with
    | false => rfl
    | true => have := sameRow_len h; omega
  · have hl : r.length = s.length := by omega
    refine s_lp (X := Nat) [4, 5, 11, 12, 13, 14, 15, 16, 17, 18, 19, 20, 21, 22, 23, 24, 25] (fun x => x ≤ r.length ∧ sameRow r s = sameRow (r.drop x) (s.drop x)) (fun x lz => (5, (.c (.d (.lit (.int .i64 x))))) :: lz) (fun x => []) (fun x => r.length - x) (0) ?_ ?_ ?_ ?_
    repeat' (first | exact slots_nil | refine w1 ?_ | exact memIn_nil | omega)
    · exact ⟨by simp, by simp⟩
    rintro i c ⟨hi, hinv⟩
    by_cases hlt : i < r.length
    · have hv : r[i]? = some r[i] := List.getElem?_eq_getElem hlt
      generalize r[i] = a at hv
      have hu : s[i]? = some s[i] := List.getElem?_eq_getElem (by omega)
      generalize s[i] = b at hu
      rw [drop_cons hv, drop_cons hu, sameRow] at hinv
      have hls := lits_same a b
      repeat' (first | (with_reducible (first | refine k_seq ?_ | refine k_block ?_ | refine k_skip ?_ | refine k_exit ?_ | refine k_ret ?_ | refine n_seq ?_ | refine n_block ?_ | refine e_seq ?_ | refine e_here ?_ | refine r_seq ?_ | refine r_block ?_ | refine o_exit ?_ | refine o_ret ?_)) | refine s_reg ?_ | refine s_ifT ?_ | refine s_ifF ?_ | refine s_if rfl (fun hb => ?_) (fun hb => ?_) | refine r_end ?_ | refine s_endD ?_ | refine s_move ?_ | refine s_assign ?_ | refine s_int ?_ | refine s_neA ?_ | refine s_loadFA ?_ | refine s_indexD ?_ (hel := (by first | exact idx_map hv (by omega) | exact idx_map hu (by omega) | exact hv | exact hu | exact rfl)) | refine s_lenD ?_ | refine f_ret1 def_nil ?_ | refine t_tmp ?_)
      all_goals first
        | (refine congrArg Dat.lit (congrArg Value.bool ?_); rw [hinv]; simp_all <;> done)
        | ((apply s_round (i + 1); all_goals (try dsimp only); all_goals (try (repeat' (first | exact slots_nil | refine w1 ?_ | exact memIn_nil | omega)))); (try exact ⟨by omega, by rw [hinv]; simp_all⟩))
    · repeat' (first | (with_reducible (first | refine k_seq ?_ | refine k_block ?_ | refine k_skip ?_ | refine k_exit ?_ | refine k_ret ?_ | refine n_seq ?_ | refine n_block ?_ | refine e_seq ?_ | refine e_here ?_ | refine r_seq ?_ | refine r_block ?_ | refine o_exit ?_ | refine o_ret ?_)) | refine s_reg ?_ | refine s_ifT ?_ | refine s_ifF ?_ | refine s_if rfl (fun hb => ?_) (fun hb => ?_) | refine r_end ?_ | refine s_endD ?_ | refine s_move ?_ | refine s_assign ?_ | refine s_int ?_ | refine s_neA ?_ | refine s_loadFA ?_ | refine s_indexD ?_ (hel := (by first | exact rfl)) | refine s_lenD ?_ | refine f_ret1 def_nil ?_ | refine t_tmp ?_)
      refine congrArg Dat.lit (congrArg Value.bool ?_)
      rw [List.drop_eq_nil_of_le (by omega), List.drop_eq_nil_of_le (by omega)] at hinv
      rw [hinv]; rfl

def sameBag : List Entry → List Entry → Bool
  | [], [] => true
  | a :: x, b :: y => (a.count == b.count) && sameRow a.row b.row && sameBag x y
  | _, _ => false
theorem sameBag_refl : ∀ r : List Entry, sameBag r r = true
  | [] => rfl
  | a :: r => by simp [sameBag, sameRow_refl, sameBag_refl r]
theorem sameBag_len : ∀ {r s : List Entry}, sameBag r s = true → r.length = s.length
  | [], [], _ => rfl
  | a :: x, b :: y, h => by simp [sameBag] at h; simp [sameBag_len h.2]
  | [], _ :: _, h => by cases h
  | _ :: _, [], h => by cases h

theorem same06_c (r s : List Entry) : PCall Tryz.prog 20 [.one (bagD r), .one (bagD s)] (.v (.one (.lit (.bool (sameBag r s))))) := by
  refine pcallN hT Tryz.func20 Tryz.ntmps20 [.tmp 4] fun B => ?_
  refine k_len 0 rfl fun hlr => ?_
  simp only [List.length_map, maxLen] at hlr
  repeat' (first | (with_reducible (first | refine k_seq ?_ | refine k_block ?_ | refine k_skip ?_ | refine k_exit ?_ | refine k_ret ?_ | refine n_seq ?_ | refine n_block ?_ | refine e_seq ?_ | refine e_here ?_ | refine r_seq ?_ | refine r_block ?_ | refine o_exit ?_ | refine o_ret ?_)) | refine s_reg ?_ | refine s_ifT ?_ | refine s_ifF ?_ | refine s_if rfl (fun hb => ?_) (fun hb => ?_) | refine r_end ?_ | refine s_endD ?_ | refine s_skipS ?_ | refine s_move ?_ | refine s_assign ?_ | refine s_int ?_ | refine s_loadF1 ?_ | refine s_indexD ?_ (hel := (by first | exact rfl)) | refine s_fieldF ?_ | refine s_pick ?_ | refine s_lenD ?_ | refine s_not ?_ | refine s_split rfl rfl (fun hb => ?_) (fun hb => ?_) | refine f_ret1 def_nil ?_ | refine t_tmp ?_)
  · refine congrArg Dat.lit (congrArg Value.bool ?_)
    cases h : sameBag r s with
    | false => rfl
    | true => have := sameBag_len h; omega
  · have hl : r.length = s.length := by omega
    refine s_lp (X := Nat) [4, 5, 11, 12, 13, 14, 15, 16, 17, 18, 19, 20, 21, 22, 23, 24, 25, 26, 27, 28, 29, 30, 31, 32, 33, 34, 35, 36, 37, 38, 39, 40, 41] (fun x => x ≤ r.length ∧ sameBag r s = sameBag (r.drop x) (s.drop x)) (fun x lz => (5, (.c (.d (.lit (.int .i64 x))))) :: lz) (fun x => []) (fun x => r.length - x) (0) ?_ ?_ ?_ ?_
    repeat' (first | exact slots_nil | refine w1 ?_ | exact memIn_nil | omega)
    · exact ⟨by simp, by simp⟩
    rintro i c ⟨hi, hinv⟩
    by_cases hlt : i < r.length
    · have hv : r[i]? = some r[i] := List.getElem?_eq_getElem hlt
      generalize r[i] = a at hv
      have hu : s[i]? = some s[i] := List.getElem?_eq_getElem (by omega)
      generalize s[i] = b at hu
      rw [drop_cons hv, drop_cons hu, sameBag] at hinv
      repeat' (first | (with_reducible (first | refine k_seq ?_ | refine k_block ?_ | refine k_skip ?_ | refine k_exit ?_ | refine k_ret ?_ | refine n_seq ?_ | refine n_block ?_ | refine e_seq ?_ | refine e_here ?_ | refine r_seq ?_ | refine r_block ?_ | refine o_exit ?_ | refine o_ret ?_)) | refine s_reg ?_ | refine s_ifT ?_ | refine s_ifF ?_ | refine s_if rfl (fun hb => ?_) (fun hb => ?_) | refine r_end ?_ | refine s_endD ?_ | refine s_skipS ?_ | refine s_move ?_ | refine s_assign ?_ | refine s_int ?_ | refine s_loadF1 ?_ | refine s_indexD ?_ (hel := (by first | exact idx_map hv (by omega) | exact idx_map hu (by omega) | exact hv | exact hu | exact rfl)) | refine s_fieldF ?_ | refine s_call (same01_c _ _) ?_ | refine s_pick ?_ | refine s_lenD ?_ | refine s_not ?_ | refine s_split rfl rfl (fun hb => ?_) (fun hb => ?_) | refine f_ret1 def_nil ?_ | refine t_tmp ?_)
      all_goals first
        | (refine congrArg Dat.lit (congrArg Value.bool ?_); rw [hinv]; simp_all <;> done)
        | ((apply s_round (i + 1); all_goals (try dsimp only); all_goals (try (repeat' (first | exact slots_nil | refine w1 ?_ | exact memIn_nil | omega)))); (try exact ⟨by omega, by rw [hinv]; simp_all⟩))
    · repeat' (first | (with_reducible (first | refine k_seq ?_ | refine k_block ?_ | refine k_skip ?_ | refine k_exit ?_ | refine k_ret ?_ | refine n_seq ?_ | refine n_block ?_ | refine e_seq ?_ | refine e_here ?_ | refine r_seq ?_ | refine r_block ?_ | refine o_exit ?_ | refine o_ret ?_)) | refine s_reg ?_ | refine s_ifT ?_ | refine s_ifF ?_ | refine s_if rfl (fun hb => ?_) (fun hb => ?_) | refine r_end ?_ | refine s_endD ?_ | refine s_skipS ?_ | refine s_move ?_ | refine s_assign ?_ | refine s_int ?_ | refine s_loadF1 ?_ | refine s_indexD ?_ (hel := (by first | exact rfl)) | refine s_fieldF ?_ | refine s_pick ?_ | refine s_lenD ?_ | refine s_not ?_ | refine s_split rfl rfl (fun hb => ?_) (fun hb => ?_) | refine f_ret1 def_nil ?_ | refine t_tmp ?_)
      refine congrArg Dat.lit (congrArg Value.bool ?_)
      rw [List.drop_eq_nil_of_le (by omega), List.drop_eq_nil_of_le (by omega)] at hinv
      rw [hinv]; rfl

theorem clone_c (r : List Val) (hr : r.length ≤ 1000000) : PCall Tryz.prog 98 [.one (rowD r)] (.v (.one (rowD r))) := by
  refine pcallN hT Tryz.func98 Tryz.ntmps98 [.tmp 2] fun B => ?_
  repeat' (first | (with_reducible (first | refine k_seq ?_ | refine k_skip ?_ | refine k_ret ?_ | refine n_seq ?_ | refine r_seq ?_)) | refine s_reg ?_ | refine s_if rfl (fun hb => ?_) (fun hb => ?_) | refine r_end ?_ | refine s_move ?_ | refine s_assign ?_ | refine s_eqNil (fun b hnil => ?_) | refine s_appE ?_ | refine s_bslice0 ?_ | refine s_eqNil (fun b hnil => ?_) | refine f_ret1 def_nil ?_ | refine t_tmpE ?_ | refine t_tmpA rfl rfl ?_ ?_)
  · have h := hnil hb
    have : r = [] := by simpa using h
    rw [this]; rfl
  · simp
  · rw [take_ge (by simp)]; rfl

theorem support1_d : DeferOk Tryz.prog 148 0 := by
  refine ⟨⟨_, Tryz.func148, by kernel_rfl, by kernel_rfl⟩, fun vs w hl => ?_⟩
  match vs, hl with
  | [], _ =>
    refine callsD_of_wpS Tryz.func148 rfl fun c₀ cs hu => ?_
    apply wpS_region
    simp [wpOpsS, go_sem, recoverD, hu, Tryz.ntmps148, Exit.thenS]
    cases c₀
    simp_all [bodyPostS, results, Tryz.results148]

def supp (l : List Entry) : List Entry := (l.filter fun e => decide (0 < e.count)).map fun e => ⟨e.row, 1⟩
def supportE (l : List Entry) : List Entry := if bagValid l then supp l else []

theorem supp_snoc {l : List Entry} {i : Nat} {e : Entry} (h : l[i]? = some e) : supp (l.take (i + 1)) = supp (l.take i) ++ (if 0 < e.count then [⟨e.row, 1⟩] else []) := by
  unfold supp
  rw [List.take_add_one, h, List.filter_append, List.map_append]
  congr 1
  by_cases hq : 0 < e.count <;> simp [hq]

theorem good_row : ∀ {l : List Entry} {p : Option Entry}, goodFrom p l = true → ∀ e ∈ l, e.ok = true
  | [], _, _, e, he => by cases he
  | x :: l, p, h, e, he => by
    simp only [goodFrom, Bool.and_eq_true] at h
    rcases List.mem_cons.1 he with rfl | he
    · exact h.1.1
    · exact good_row h.2 e he
theorem valid_mem {l : List Entry} (h : bagValid l = true) : l.length ≤ 4096 ∧ ∀ e ∈ l, rowOK e.row = true ∧ (-262144 ≤ e.count ∧ e.count ≤ 262144) ∧ e.count ≠ 0 := by
  simp only [bagValid, Bool.and_eq_true, decide_eq_true_eq] at h
  refine ⟨h.1, fun e he => ?_⟩
  have := good_row h.2 e he
  simp only [Entry.ok, countOK, Bool.and_eq_true, decide_eq_true_eq] at this
  exact ⟨this.1.1, this.1.2, this.2⟩
theorem rowOK_len {r : List Val} (h : rowOK r = true) : r.length ≤ 16 := by
  simp only [rowOK, Bool.and_eq_true, decide_eq_true_eq] at h; exact h.1

theorem support_c (l : List Entry) : PCall Tryz.prog 92 [.one (bagD l)] (.v (.one (bagD (supportE l)))) := by
  have hvc := bagValid_c l
  cases hb : bagValid l with
  | false =>
    rw [hb] at hvc
    have he : supportE l = [] := by simp [supportE, hb]
    rw [he]
    refine pcallN hT Tryz.func92 Tryz.ntmps92 [.tmp 2] fun B => ?_
    repeat' (first | (with_reducible (first | refine k_seq ?_ | refine k_block ?_ | refine k_skip ?_ | refine k_exit ?_ | refine k_ret ?_ | refine n_seq ?_ | refine n_block ?_ | refine e_seq ?_ | refine e_here ?_ | refine r_seq ?_ | refine o_exit ?_)) | refine s_reg ?_ | refine s_ifT ?_ | refine s_ifF ?_ | refine s_if rfl (fun hb => ?_) (fun hb => ?_) | refine r_end ?_ | refine s_move ?_ | refine s_assign ?_ | refine s_int ?_ | refine s_loadB1 ?_ | refine s_loadFA ?_ | refine s_indexD ?_ (hel := (by first | exact rfl)) | refine s_fieldB ?_ | refine s_call (hvc) ?_ | refine s_lenD ?_ | refine s_appA ?_ | refine s_storeB ?_ | refine s_bslice ?_ | refine s_alloc ?_ | refine s_not ?_ | refine s_build ?_ | refine s_defer ?_ | refine f_ret1 (by repeat (first | exact def_nil | refine def_cons support1_d ?_)) ?_ | refine t_tmpE ?_ | refine t_tmpA rfl rfl ?_ ?_)
    all_goals rfl
  | true =>
    rw [hb] at hvc
    have he : supportE l = supp l := by simp [supportE, hb]
    obtain ⟨hl, hm⟩ := valid_mem hb
    rw [he]
    refine pcallN hT Tryz.func92 Tryz.ntmps92 [.tmp 2] fun B => ?_
    repeat' (first | (with_reducible (first | refine k_seq ?_ | refine k_block ?_ | refine k_skip ?_ | refine k_exit ?_ | refine k_ret ?_ | refine n_seq ?_ | refine n_block ?_ | refine e_seq ?_ | refine e_here ?_ | refine r_seq ?_ | refine o_exit ?_)) | refine s_reg ?_ | refine s_ifT ?_ | refine s_ifF ?_ | refine s_if rfl (fun hb => ?_) (fun hb => ?_) | refine r_end ?_ | refine s_move ?_ | refine s_assign ?_ | refine s_int ?_ | refine s_loadB1 ?_ | refine s_loadFA ?_ | refine s_indexD ?_ (hel := (by first | exact rfl)) | refine s_fieldB ?_ | refine s_call (hvc) ?_ | refine s_lenD ?_ | refine s_appA ?_ | refine s_storeB ?_ | refine s_bslice ?_ | refine s_alloc ?_ | refine s_not ?_ | refine s_build ?_ | refine s_defer ?_ | refine f_ret1 (by repeat (first | exact def_nil | refine def_cons support1_d ?_)) ?_ | refine t_tmpE ?_ | refine t_tmpA rfl rfl ?_ ?_)
    refine s_own 3 56 2 ?_
    refine s_lp (X := Nat × Nat) [3, 5, 11, 12, 13, 14, 15, 16, 17, 18, 19, 20, 21, 22, 23, 24, 25] (fun x => x.1 ≤ l.length) (fun x lz => (3, .c (.arr 0 x.2 (supp (l.take x.1)).length)) :: (11, (.c (.d (.lit (.int .i64 x.1))))) :: lz) (fun x => [.arr x.2 56 2 ((supp (l.take x.1)).map Entry.d)]) (fun x => l.length - x.1) ((0, 1)) ?_ ?_ ?_ ?_
    repeat' (first | exact slots_nil | refine w1 ?_ | refine w5 ?_ ?_ | exact memIn_nil | refine memIn_same ?_ | refine m1 ?_ ?_ | omega)
    rintro ⟨i, k⟩ c hi
    dsimp only at hi ⊢
    have hsl : (supp (l.take i)).length ≤ i := by
      unfold supp
      rw [List.length_map]
      refine Nat.le_trans (List.length_filter_le ..) (by simp; omega)
    by_cases hlt : i < l.length
    · have hv : l[i]? = some l[i] := List.getElem?_eq_getElem hlt
      have hro := (hm _ (List.getElem_mem hlt)).1
      generalize l[i] = e at hv hro
      have hsn := supp_snoc hv
      have hrl := rowOK_len hro
      have hcl := clone_c e.row (by omega)
      repeat' (first | (with_reducible (first | refine k_seq ?_ | refine k_block ?_ | refine k_skip ?_ | refine k_exit ?_ | refine k_ret ?_ | refine n_seq ?_ | refine n_block ?_ | refine e_seq ?_ | refine e_here ?_ | refine r_seq ?_ | refine o_exit ?_)) | refine s_reg ?_ | refine s_ifT ?_ | refine s_ifF ?_ | refine s_if rfl (fun hb => ?_) (fun hb => ?_) | refine r_end ?_ | refine s_move ?_ | refine s_assign ?_ | refine s_int ?_ | refine s_loadB1 ?_ | refine s_loadFA ?_ | refine s_indexD ?_ (hel := (by first | exact idx_map hv (by omega) | exact hv | exact rfl)) | refine s_fieldB ?_ | refine s_call (hcl) ?_ | refine s_lenD ?_ | refine s_appA ?_ | refine s_storeB ?_ | refine s_bslice ?_ | refine s_alloc ?_ | refine s_not ?_ | refine s_build ?_ | refine s_defer ?_ | refine f_ret1 (by repeat (first | exact def_nil | refine def_cons support1_d ?_)) ?_ | refine t_tmpE ?_ | refine t_tmpA rfl rfl ?_ ?_)
      · rw [if_pos hb] at hsn
        (apply s_round ((i + 1, _)); all_goals (try dsimp only); all_goals (try (repeat' (first | exact slots_nil | refine w1 ?_ | refine w5 ?_ ?_ | exact memIn_nil | refine memIn_same ?_ | refine m1 ?_ ?_ | omega))))
        · rw [hsn]; simp
        · rw [hsn, List.map_append]; rfl
      · rw [if_neg (by omega), List.append_nil] at hsn
        (apply s_round ((i + 1, _)); all_goals (try dsimp only); all_goals (try (repeat' (first | exact slots_nil | refine w1 ?_ | refine w5 ?_ ?_ | exact memIn_nil | refine memIn_same ?_ | refine m1 ?_ ?_ | omega))))
        all_goals (rw [hsn])
    · rw [take_ge (by omega)]
      repeat' (first | (with_reducible (first | refine k_seq ?_ | refine k_block ?_ | refine k_skip ?_ | refine k_exit ?_ | refine k_ret ?_ | refine n_seq ?_ | refine n_block ?_ | refine e_seq ?_ | refine e_here ?_ | refine r_seq ?_ | refine o_exit ?_)) | refine s_reg ?_ | refine s_ifT ?_ | refine s_ifF ?_ | refine s_if rfl (fun hb => ?_) (fun hb => ?_) | refine r_end ?_ | refine s_move ?_ | refine s_assign ?_ | refine s_int ?_ | refine s_loadB1 ?_ | refine s_loadFA ?_ | refine s_indexD ?_ (hel := (by first | exact rfl)) | refine s_fieldB ?_ | refine s_lenD ?_ | refine s_appA ?_ | refine s_storeB ?_ | refine s_bslice ?_ | refine s_alloc ?_ | refine s_not ?_ | refine s_build ?_ | refine s_defer ?_ | refine f_ret1 (by repeat (first | exact def_nil | refine def_cons support1_d ?_)) ?_ | refine t_tmpE ?_ | refine t_tmpA rfl rfl ?_ ?_)
      · simp
      · rw [take_ge (by simp)]; rfl

def total (l : List Entry) : Int := l.foldl (fun s e => s + e.count) 0
def sizeE (l : List Entry) : Int := if bagValid l then total l else 0
end Go.Proofs.YtmpgmjlanngkfaaGreat
