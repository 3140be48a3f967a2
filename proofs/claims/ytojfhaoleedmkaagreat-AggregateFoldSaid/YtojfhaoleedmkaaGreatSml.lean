/-
  SmallBag.
-/
import Derived.Test.YtojfhaoleedmkaaGreatTab
namespace Go.Proofs.YtojfhaoleedmkaaGreat
open Go.Abs Go.RowKit
attribute [local irreducible] ARun kont MCall PCall HCall resVal SF CF CFs defersOk slotsIn memIn fin finM VLe
set_option linter.unusedSimpArgs false
set_option maxRecDepth 100000
set_option maxHeartbeats 4000000
def smallRow (r : List Val) : Bool := decide (r.length ≤ 20) && r.all (fun v => decide (v.text.size ≤ 100))
def smallE (l : List Entry) : Bool := decide (l.length ≤ 40) && l.all (fun e => smallRow e.row)
theorem smallBag_c (l : List Entry) : PCall Tryz.prog 29 [.one (bagD l)] (.v (.one (.lit (.bool (smallE l))))) := by
  by_cases hl : l.length ≤ 40
  · refine pcallN hT Tryz.func29 Tryz.ntmps29 [.tmp 2] fun B => ?_
    repeat' (first | refine ks ?_ | refine ko ?_ | refine s_indexD ?_ (hel := (by first | exact rfl)) | refine f_ret1 def_nil ?_ | refine t_tmp ?_)
    refine s_lp (X := Nat) [2, 3, 4, 8, 9, 10, 11, 12, 13, 14, 15, 16, 17, 18, 19, 20, 21, 22, 23, 24, 25, 26, 27, 28, 29, 30, 31, 32, 33, 34, 35, 36, 37, 38, 39, 40, 41] (fun x => x ≤ l.length ∧ (l.take x).all (fun e => smallRow e.row) = true) (fun x lz => (3, (.c (.d (.lit (.int .i64 x))))) :: lz) (fun x => []) (fun x => l.length - x) (0) ?_ ?_ ?_ ?_
    repeat' (first | exact slots_nil | refine kw ?_ | exact memIn_nil | omega)
    · exact ⟨by simp, by simp⟩
    rintro i c ⟨hi, hinv⟩
    by_cases hlt : i < l.length
    · have hv : l[i]? = some l[i] := List.getElem?_eq_getElem hlt
      generalize l[i] = e at hv
      by_cases hr : e.row.length ≤ 20
      · repeat' (first | refine ks ?_ | refine ko ?_ | refine s_indexD ?_ (hel := (by first | exact idx_map hv (by omega) | exact hv | exact rfl)) | refine f_ret1 def_nil ?_ | refine t_tmp ?_)
        refine s_lp (X := Nat) [2, 4, 21, 22, 23, 24, 25, 26, 27, 28, 29, 30, 31, 32, 33, 34, 35, 36, 37, 38, 39, 40, 41] (fun x => x ≤ e.row.length ∧ (e.row.take x).all (fun v => decide (v.text.size ≤ 100)) = true) (fun x lz => (4, (.c (.d (.lit (.int .i64 x))))) :: lz) (fun x => []) (fun x => e.row.length - x) (0) ?_ ?_ ?_ ?_
        repeat' (first | exact slots_nil | refine kw ?_ | exact memIn_nil | omega)
        · exact ⟨by simp, by simp⟩
        rintro j c2 ⟨hj, hinv2⟩
        by_cases hlt2 : j < e.row.length
        · have hw : e.row[j]? = some e.row[j] := List.getElem?_eq_getElem hlt2
          generalize e.row[j] = v at hw
          by_cases ht : v.text.size ≤ 100
          · repeat' (first | refine ks ?_ | refine ko ?_ | refine s_indexD ?_ (hel := (by first | exact idx_map hv (by omega) | exact idx_map hw (by omega) | exact hv | exact hw | exact rfl)) | refine f_ret1 def_nil ?_ | refine t_tmp ?_)
            (apply s_round (j + 1); all_goals (try dsimp only); all_goals (try (repeat' (first | exact slots_nil | refine kw ?_ | exact memIn_nil | omega))))
            exact ⟨by omega, take_all (fun v : Val => decide (v.text.size ≤ 100)) hw hinv2 (by simpa using ht)⟩
          · have hf : smallE l = false := by
              have h1 : e.row.all (fun v => decide (v.text.size ≤ 100)) = false := not_all (fun v : Val => decide (v.text.size ≤ 100)) hw (by simpa using ht)
              rw [smallE, not_all (fun e : Entry => smallRow e.row) hv (by rw [smallRow, h1, Bool.and_false]), Bool.and_false]
            rw [hf]
            repeat' (first | refine ks ?_ | refine ko ?_ | refine s_indexD ?_ (hel := (by first | exact idx_map hv (by omega) | exact idx_map hw (by omega) | exact hv | exact hw | exact rfl)) | refine f_ret1 def_nil ?_ | refine t_tmp ?_)
            all_goals rfl
        · rw [take_ge (by omega)] at hinv2
          repeat' (first | refine ks ?_ | refine ko ?_ | refine s_indexD ?_ (hel := (by first | exact idx_map hv (by omega) | exact hv | exact rfl)) | refine f_ret1 def_nil ?_ | refine t_tmp ?_)
          (apply s_round (i + 1); all_goals (try dsimp only); all_goals (try (repeat' (first | exact slots_nil | refine kw ?_ | exact memIn_nil | omega))))
          exact ⟨by omega, take_all (fun e : Entry => smallRow e.row) hv hinv (by rw [smallRow, hinv2, Bool.and_true]; simpa using hr)⟩
      · have hf : smallE l = false := by
          rw [smallE, not_all (fun e : Entry => smallRow e.row) hv (by rw [smallRow, decide_eq_false hr, Bool.false_and]), Bool.and_false]
        rw [hf]
        repeat' (first | refine ks ?_ | refine ko ?_ | refine s_indexD ?_ (hel := (by first | exact idx_map hv (by omega) | exact hv | exact rfl)) | refine f_ret1 def_nil ?_ | refine t_tmp ?_)
        all_goals rfl
    · rw [take_ge (by omega)] at hinv
      have hf : smallE l = true := by rw [smallE, hinv, Bool.and_true]; simpa using hl
      rw [hf]
      repeat' (first | refine ks ?_ | refine ko ?_ | refine s_indexD ?_ (hel := (by first | exact rfl)) | refine f_ret1 def_nil ?_ | refine t_tmp ?_)
      all_goals rfl
  · have hf : smallE l = false := by rw [smallE, decide_eq_false hl, Bool.false_and]
    rw [hf]
    refine pcallN hT Tryz.func29 Tryz.ntmps29 [.tmp 2] fun B => ?_
    repeat' (first | refine ks ?_ | refine ko ?_ | refine s_indexD ?_ (hel := (by first | exact rfl)) | refine f_ret1 def_nil ?_ | refine t_tmp ?_)
    all_goals rfl
end Go.Proofs.YtojfhaoleedmkaaGreat
