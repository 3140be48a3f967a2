/-
  Bags: when a list of entries is one.
-/
import Derived.Test.YtmpgmjlanngkfaaGreatTypes
import Derived.Recover
import Derived.Test.YtmpgmjlanngkfaaGreatRowc
section
namespace Go.Proofs.YtmpgmjlanngkfaaGreat
open Go.Abs Go.RowKit
set_option linter.unusedSimpArgs false
set_option maxRecDepth 100000

theorem bagValid1_d : DeferOk Tryz.prog 95 0 := by
  refine ⟨⟨_, Tryz.func95, by kernel_rfl, by kernel_rfl⟩, fun vs w hl => ?_⟩
  match vs, hl with
  | [], _ =>
    refine callsD_of_wpS Tryz.func95 rfl fun c₀ cs hu => ?_
    apply wpS_region
    simp [wpOpsS, go_sem, recoverD, hu, Tryz.ntmps95, Exit.thenS]
    cases c₀
    simp_all [bodyPostS, results, Tryz.results95]

end Go.Proofs.YtmpgmjlanngkfaaGreat
end
section
namespace Go.Proofs.YtmpgmjlanngkfaaGreat
open Go.Abs Go.RowKit
attribute [local irreducible] ARun kont MCall PCall HCall resVal SF CF CFs defersOk slotsIn memIn fin finM VLe
set_option linter.unusedSimpArgs false
set_option maxRecDepth 100000

structure Entry where
  row : List Val
  count : Int

def Entry.d (e : Entry) : List Dat := [rowD e.row, .lit (.int .i64 e.count)]
def bagD (l : List Entry) : Dat := .sl (l.map Entry.d)

def countOK (n : Int) : Bool := decide (-262144 ≤ n) && decide (n ≤ 262144)
def Entry.ok (e : Entry) : Bool := rowOK e.row && countOK e.count && decide (e.count ≠ 0)
def goodFrom : Option Entry → List Entry → Bool
  | _, [] => true
  | p, e :: l => e.ok && (match p with | none => true | some q => decide (rowCmp q.row e.row < 0)) && goodFrom (some e) l
def bagValid (l : List Entry) : Bool := decide (l.length ≤ 4096) && goodFrom none l
def prevOf (l : List Entry) (i : Nat) : Option Entry := if i = 0 then none else l[i - 1]?

theorem countOK_c (n : Int) : PCall Tryz.prog 75 [.one (.lit (.int .i64 n))] (.v (.one (.lit (.bool (countOK n))))) := by
  refine pcallN hT Tryz.func75 Tryz.ntmps75 [.tmp 2] fun B => ?_
  repeat' (first | (with_reducible (first | refine k_seq ?_ | refine k_ret ?_ | refine n_seq ?_)) | refine s_reg ?_ | refine r_end ?_ | refine s_skipS ?_ | refine s_move ?_ | refine s_assign ?_ | refine s_int ?_ | refine s_pick ?_ | refine s_split rfl rfl (fun hb => ?_) (fun hb => ?_) | refine f_ret1 def_nil ?_ | refine t_tmp ?_)
  all_goals (refine congrArg Dat.lit (congrArg Value.bool ?_); simp_all [countOK]; try omega)

theorem inRange_c (n : Int) : PCall Tryz.prog 150 [.one (.lit (.int .i64 n))] (.v (.one (.lit (.bool (countOK n))))) := by
  refine pcallN hT Tryz.func150 Tryz.ntmps150 [.tmp 2] fun B => ?_
  repeat' (first | (with_reducible (first | refine k_seq ?_ | refine k_ret ?_ | refine n_seq ?_)) | refine s_reg ?_ | refine r_end ?_ | refine s_skipS ?_ | refine s_move ?_ | refine s_assign ?_ | refine s_int ?_ | refine s_pick ?_ | refine s_split rfl rfl (fun hb => ?_) (fun hb => ?_) | refine f_ret1 def_nil ?_ | refine t_tmp ?_)
  all_goals (refine congrArg Dat.lit (congrArg Value.bool ?_); simp_all [countOK]; try omega)

theorem validEntry_c (e : Entry) : PCall Tryz.prog 96 [.agg e.d] (.v (.one (.lit (.bool (countOK e.count && rowOK e.row))))) := by
  refine pcallN hT Tryz.func96 Tryz.ntmps96 [.tmp 2] fun B => ?_
  repeat' (first | (with_reducible (first | refine k_seq ?_ | refine k_ret ?_ | refine n_seq ?_)) | refine s_reg ?_ | refine r_end ?_ | refine s_skipS ?_ | refine s_move ?_ | refine s_assign ?_ | refine s_loadB1 ?_ | refine s_fieldB ?_ | refine s_call (inRange_c _) ?_ | refine s_call (validRow_c _) ?_ | refine s_pick ?_ | refine s_box ?_ | refine s_split rfl rfl (fun hb => ?_) (fun hb => ?_) | refine f_ret1 def_nil ?_ | refine t_tmp ?_)
  all_goals (refine congrArg Dat.lit (congrArg Value.bool ?_); simp_all)

theorem good_step {l : List Entry} {i : Nat} {e : Entry} (h : l[i]? = some e) : goodFrom (prevOf l i) (l.drop i) = (e.ok && (match prevOf l i with | none => true | some q => decide (rowCmp q.row e.row < 0)) && goodFrom (prevOf l (i + 1)) (l.drop (i + 1))) := by
  rw [drop_cons h, goodFrom.eq_def]
  have : prevOf l (i + 1) = some e := by simp [prevOf, h]
  rw [this]

set_option maxHeartbeats 1000000 in
theorem bagValid_c (l : List Entry) : PCall Tryz.prog 47 [.one (bagD l)] (.v (.one (.lit (.bool (bagValid l))))) := by
  refine pcallN hT Tryz.func47 Tryz.ntmps47 [.tmp 2] fun B => ?_
  repeat' (first | (with_reducible (first | refine k_seq ?_ | refine k_block ?_ | refine k_skip ?_ | refine k_exit ?_ | refine k_ret ?_ | refine n_seq ?_ | refine n_block ?_ | refine e_seq ?_ | refine e_here ?_ | refine r_seq ?_ | refine r_block ?_ | refine o_exit ?_ | refine o_ret ?_)) | refine s_reg ?_ | refine s_ifT ?_ | refine s_ifF ?_ | refine s_if rfl (fun hb => ?_) (fun hb => ?_) | refine r_end ?_ | refine s_endD ?_ | refine s_skipS ?_ | refine s_move ?_ | refine s_assign ?_ | refine s_int ?_ | refine s_loadF1 ?_ | refine s_loadB1 ?_ | refine s_loadFA ?_ | refine s_loadBA ?_ | refine s_indexD ?_ (hel := (by first | exact rfl)) | refine s_fieldF ?_ | refine s_fieldB ?_ | refine s_pick ?_ | refine s_lenD ?_ | refine s_storeB ?_ | refine s_alloc ?_ | refine s_not ?_ | refine s_defer ?_ | refine s_kT ?_ | refine s_split rfl rfl (fun hb => ?_) (fun hb => ?_) | refine f_ret1 (by repeat (first | exact def_nil | refine def_cons bagValid1_d ?_)) ?_ | refine t_tmp ?_)
  · refine congrArg Dat.lit (congrArg Value.bool ?_)
    simp [bagValid]
    intros; omega
  · have hl : l.length ≤ 4096 := by omega
    refine s_lp (X := Nat) [2, 3, 4, 10, 11, 12, 13, 14, 15, 16, 17, 18, 19, 20, 21, 22, 23, 24, 25, 26, 27, 28, 29, 30, 31, 32, 33, 34, 35, 36, 37] (fun x => x ≤ l.length ∧ goodFrom none l = goodFrom (prevOf l x) (l.drop x)) (fun x lz => (10, (.c (.d (.lit (.int .i64 x))))) :: lz) (fun x => []) (fun x => l.length - x) (0) ?_ ?_ ?_ ?_
    repeat' (first | exact slots_nil | refine w1 ?_ | exact memIn_nil | omega)
    · exact ⟨by simp, by simp [prevOf]⟩
    rintro i c ⟨hi, hinv⟩
    by_cases hlt : i < l.length
    · have hv : l[i]? = some l[i] := List.getElem?_eq_getElem hlt
      generalize l[i] = e at hv
      rw [good_step hv] at hinv
      rcases i with _ | j
      · have hp : prevOf l 0 = none := rfl
        rw [hp] at hinv
        repeat' (first | (with_reducible (first | refine k_seq ?_ | refine k_block ?_ | refine k_skip ?_ | refine k_exit ?_ | refine k_ret ?_ | refine n_seq ?_ | refine n_block ?_ | refine e_seq ?_ | refine e_here ?_ | refine r_seq ?_ | refine r_block ?_ | refine o_exit ?_ | refine o_ret ?_)) | refine s_reg ?_ | refine s_ifT ?_ | refine s_ifF ?_ | refine s_if rfl (fun hb => ?_) (fun hb => ?_) | refine r_end ?_ | refine s_endD ?_ | refine s_skipS ?_ | refine s_move ?_ | refine s_assign ?_ | refine s_int ?_ | refine s_loadF1 ?_ | refine s_loadB1 ?_ | refine s_loadFA ?_ | refine s_loadBA ?_ | refine s_indexD ?_ (hel := (by first | exact idx_map hv (by omega) | exact hv | exact rfl)) | refine s_fieldF ?_ | refine s_fieldB ?_ | refine s_call (validEntry_c _) ?_ | refine s_call (compareRows_c _ _) ?_ | refine s_pick ?_ | refine s_lenD ?_ | refine s_storeB ?_ | refine s_alloc ?_ | refine s_not ?_ | refine s_defer ?_ | refine s_kT ?_ | refine s_split rfl rfl (fun hb => ?_) (fun hb => ?_) | refine f_ret1 (by repeat (first | exact def_nil | refine def_cons bagValid1_d ?_)) ?_ | refine t_tmp ?_)
        all_goals first
          | (refine congrArg Dat.lit (congrArg Value.bool ?_); simp only [bagValid, hinv, Entry.ok]; cases h1 : rowOK e.row <;> cases h2 : countOK e.count <;> simp_all <;> done)
          | (refine congrArg Dat.lit (congrArg Value.bool ?_); simp only [bagValid, hinv]; simp; intros; omega)
          | ((apply s_round (1); all_goals (try dsimp only); all_goals (try (repeat' (first | exact slots_nil | refine w1 ?_ | exact memIn_nil | omega)))); (try exact ⟨by omega, by rw [hinv]; simp_all [Entry.ok]⟩))
      · have hu : l[j]? = some l[j] := List.getElem?_eq_getElem (by omega)
        generalize l[j] = p at hu
        have hp : prevOf l (j + 1) = some p := by simp [prevOf, hu]
        rw [hp] at hinv
        repeat' (first | (with_reducible (first | refine k_seq ?_ | refine k_block ?_ | refine k_skip ?_ | refine k_exit ?_ | refine k_ret ?_ | refine n_seq ?_ | refine n_block ?_ | refine e_seq ?_ | refine e_here ?_ | refine r_seq ?_ | refine r_block ?_ | refine o_exit ?_ | refine o_ret ?_)) | refine s_reg ?_ | refine s_ifT ?_ | refine s_ifF ?_ | refine s_if rfl (fun hb => ?_) (fun hb => ?_) | refine r_end ?_ | refine s_endD ?_ | refine s_skipS ?_ | refine s_move ?_ | refine s_assign ?_ | refine s_int ?_ | refine s_loadF1 ?_ | refine s_loadB1 ?_ | refine s_loadFA ?_ | refine s_loadBA ?_ | refine s_indexD ?_ (hel := (by first | exact idx_map hv (by omega) | exact idx_map hu (by omega) | exact hv | exact hu | exact rfl)) | refine s_fieldF ?_ | refine s_fieldB ?_ | refine s_call (validEntry_c _) ?_ | refine s_call (compareRows_c _ _) ?_ | refine s_pick ?_ | refine s_lenD ?_ | refine s_storeB ?_ | refine s_alloc ?_ | refine s_not ?_ | refine s_defer ?_ | refine s_kT ?_ | refine s_split rfl rfl (fun hb => ?_) (fun hb => ?_) | refine f_ret1 (by repeat (first | exact def_nil | refine def_cons bagValid1_d ?_)) ?_ | refine t_tmp ?_)
        all_goals first
          | (refine congrArg Dat.lit (congrArg Value.bool ?_); simp only [bagValid, hinv, Entry.ok]; cases h1 : rowOK e.row <;> cases h2 : countOK e.count <;> simp_all <;> done)
          | (refine congrArg Dat.lit (congrArg Value.bool ?_); simp only [bagValid, hinv]; simp; intros; omega)
          | ((apply s_round (j + 1 + 1); all_goals (try dsimp only); all_goals (try (repeat' (first | exact slots_nil | refine w1 ?_ | exact memIn_nil | omega)))); (try exact ⟨by omega, by rw [hinv]; simp_all [Entry.ok]⟩))
    · repeat' (first | (with_reducible (first | refine k_seq ?_ | refine k_block ?_ | refine k_skip ?_ | refine k_exit ?_ | refine k_ret ?_ | refine n_seq ?_ | refine n_block ?_ | refine e_seq ?_ | refine e_here ?_ | refine r_seq ?_ | refine r_block ?_ | refine o_exit ?_ | refine o_ret ?_)) | refine s_reg ?_ | refine s_ifT ?_ | refine s_ifF ?_ | refine s_if rfl (fun hb => ?_) (fun hb => ?_) | refine r_end ?_ | refine s_endD ?_ | refine s_skipS ?_ | refine s_move ?_ | refine s_assign ?_ | refine s_int ?_ | refine s_loadF1 ?_ | refine s_loadB1 ?_ | refine s_loadFA ?_ | refine s_loadBA ?_ | refine s_indexD ?_ (hel := (by first | exact rfl)) | refine s_fieldF ?_ | refine s_fieldB ?_ | refine s_pick ?_ | refine s_lenD ?_ | refine s_storeB ?_ | refine s_alloc ?_ | refine s_not ?_ | refine s_defer ?_ | refine s_kT ?_ | refine s_split rfl rfl (fun hb => ?_) (fun hb => ?_) | refine f_ret1 (by repeat (first | exact def_nil | refine def_cons bagValid1_d ?_)) ?_ | refine t_tmp ?_)
      refine congrArg Dat.lit (congrArg Value.bool ?_)
      rw [List.drop_eq_nil_of_le (by omega)] at hinv
      simp [bagValid, hinv, hl, goodFrom]

end Go.Proofs.YtmpgmjlanngkfaaGreat
end
