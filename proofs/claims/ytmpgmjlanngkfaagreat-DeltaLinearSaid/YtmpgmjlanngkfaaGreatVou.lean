/-
  Views: the content of a view from the join of its sources.
-/
import Derived.Test.YtmpgmjlanngkfaaGreatVew
namespace Go.Proofs.YtmpgmjlanngkfaaGreat
open Go.Abs Go.RowKit
attribute [local irreducible] ARun kont MCall PCall HCall resVal SF CF CFs defersOk slotsIn memIn fin finM VLe
set_option linter.unusedSimpArgs false
set_option maxRecDepth 100000
set_option maxHeartbeats 4000000

/-- The content of a view that is not a union, from the join of its sources; G stands for groups. -/
def outE (G : List Entry → List Itm → List Agg → List Entry × Int) (v : Vw) (j : List Entry) : List Entry × Int :=
  if v.kind = 1 then G (whereE j v.wher) v.items v.aggs
  else if (mapE (whereE j v.wher) (v.items.map Itm.expr)).2 = 0 then
    (if v.distinct = true then (supportE (mapE (whereE j v.wher) (v.items.map Itm.expr)).1, 0) else ((mapE (whereE j v.wher) (v.items.map Itm.expr)).1, 0))
  else ([], (mapE (whereE j v.wher) (v.items.map Itm.expr)).2)

theorem output_c (G : List Entry → List Itm → List Agg → List Entry × Int) (v : Vw) (j : List Entry) (hil : v.items.length ≤ 10000) (hg : v.kind = 1 → PCall Tryz.prog 90 [.one (bagD (whereE j v.wher)), .one (itmD v.items), .one (aggD v.aggs)] (bagI (G (whereE j v.wher) v.items v.aggs))) : PCall Tryz.prog 42 [.agg v.d, .one (bagD j)] (bagI (outE G v j)) := by
  have hw := where_c j v.wher
  unfold outE
  generalize whereE j v.wher = W at hw hg ⊢
  by_cases hk : v.kind = 1
  · rw [if_pos hk]
    have hg := hg hk
    generalize G W v.items v.aggs = x at hg ⊢
    dsimp only [bagI] at hg ⊢
    refine pcallN hT Tryz.func42 Tryz.ntmps42 [.tmp 4, .tmp 5] fun B => ?_
    repeat' (first | (with_reducible (first | refine k_seq ?_ | refine k_block ?_ | refine k_skip ?_ | refine k_exit ?_ | refine k_ret ?_ | refine n_seq ?_ | refine n_block ?_ | refine e_seq ?_ | refine e_here ?_ | refine r_seq ?_ | refine o_exit ?_)) | refine s_reg ?_ | refine s_ifT ?_ | refine s_ifF ?_ | refine r_end ?_ | refine s_move ?_ | refine s_assign ?_ | refine s_int ?_ | refine s_loadB1 ?_ | refine s_loadFA ?_ | refine s_indexD ?_ (hel := (by first | exact rfl)) | refine s_fieldB ?_ | refine s_call (hw) ?_ | refine s_call (hg) ?_ | refine s_lenD ?_ | refine s_appA ?_ | refine s_storeB ?_ | refine s_bslice ?_ | refine s_extract ?_ | refine s_alloc ?_ | refine s_box ?_ | refine f_ret2 def_nil ?_ ?_ | refine t_tmp ?_ | refine t_tmpE ?_)
    all_goals rfl
  rw [if_neg hk]
  clear hg
  have hm := map_c W (v.items.map Itm.expr)
  have hs := support_c (mapE W (v.items.map Itm.expr)).1
  have hEl : (v.items.map Itm.expr).length = v.items.length := List.length_map _
  have hEi : ∀ i it, v.items[i]? = some it → (v.items.map Itm.expr)[i]? = some (Itm.expr it) := fun i it h => by rw [List.getElem?_map, h]; rfl
  generalize mapE W (v.items.map Itm.expr) = m at hm hs ⊢
  obtain ⟨m, e⟩ := m
  generalize v.items.map Itm.expr = E at hm hEl hEi
  dsimp only [bagI, partsD] at hm hs ⊢
  refine pcallN hT Tryz.func42 Tryz.ntmps42 [.tmp 4, .tmp 5] fun B => ?_
  repeat' (first | (with_reducible (first | refine k_seq ?_ | refine k_block ?_ | refine k_skip ?_ | refine k_exit ?_ | refine k_ret ?_ | refine n_seq ?_ | refine n_block ?_ | refine e_seq ?_ | refine e_here ?_ | refine r_seq ?_ | refine o_exit ?_)) | refine s_reg ?_ | refine s_ifT ?_ | refine s_ifF ?_ | refine r_end ?_ | refine s_move ?_ | refine s_assign ?_ | refine s_int ?_ | refine s_loadB1 ?_ | refine s_loadFA ?_ | refine s_indexD ?_ (hel := (by first | exact rfl)) | refine s_fieldB ?_ | refine s_call (hw) ?_ | refine s_lenD ?_ | refine s_appA ?_ | refine s_storeB ?_ | refine s_bslice ?_ | refine s_extract ?_ | refine s_alloc ?_ | refine s_box ?_ | refine f_ret2 def_nil ?_ ?_ | refine t_tmp ?_ | refine t_tmpE ?_)
  refine s_own 7 26 1 ?_
  refine s_lp (X := Nat × Nat) [7, 9, 30, 31, 32, 33, 34, 35, 36, 37, 38, 39] (fun x => x.1 ≤ v.items.length) (fun x lz => (7, .c (.arr 1 x.2 (E.take x.1).length)) :: (30, (.c (.d (.lit (.int .i64 x.1))))) :: lz) (fun x => [.box 1 (v.d.map .d), .arr x.2 26 1 ((E.take x.1).map fun s => [exprD s])]) (fun x => v.items.length - x.1) ((0, 2)) ?_ ?_ ?_ ?_
  repeat' (first | exact slots_nil | refine w1 ?_ | exact memIn_nil | refine memIn_same ?_ | refine m1 ?_ ?_ | omega)
  rintro ⟨i, k⟩ c0 hi
  dsimp only at hi ⊢
  by_cases hlt : i < v.items.length
  · have hv : v.items[i]? = some v.items[i] := List.getElem?_eq_getElem hlt
    generalize v.items[i] = it at hv
    have htk : E.take (i + 1) = E.take i ++ [it.expr] := by rw [List.take_add_one, hEi i it hv]; rfl
    have htl : (E.take i).length = i := by simp; omega
    repeat' (first | (with_reducible (first | refine k_seq ?_ | refine k_block ?_ | refine k_skip ?_ | refine k_exit ?_ | refine k_ret ?_ | refine n_seq ?_ | refine n_block ?_ | refine e_seq ?_ | refine e_here ?_ | refine r_seq ?_ | refine o_exit ?_)) | refine s_reg ?_ | refine s_ifT ?_ | refine s_ifF ?_ | refine r_end ?_ | refine s_move ?_ | refine s_assign ?_ | refine s_int ?_ | refine s_loadB1 ?_ | refine s_loadFA ?_ | refine s_indexD ?_ (hel := (by first | exact idx_map hv (by omega) | exact hv | exact rfl)) | refine s_fieldB ?_ | refine s_lenD ?_ | refine s_appA ?_ | refine s_storeB ?_ | refine s_bslice ?_ | refine s_extract ?_ | refine s_alloc ?_ | refine s_box ?_ | refine f_ret2 def_nil ?_ ?_ | refine t_tmp ?_ | refine t_tmpE ?_)
    (apply s_round ((i + 1, _)); all_goals (try dsimp only); all_goals (try (repeat' (first | exact slots_nil | refine w1 ?_ | exact memIn_nil | refine memIn_same ?_ | refine m1 ?_ ?_ | omega))))
    all_goals (rw [htk]; simp)
  · have hie : i = E.length := by omega
    subst hie
    rw [List.take_length]
    by_cases he : e = 0
    · subst he
      rw [if_pos rfl]
      cases hd : v.distinct
      · rw [if_neg (by simp)]
        repeat' (first | refine s_freeze 7 ?_ (hes := show List.take E.length (E.map fun s => [exprD s]) = (E.map fun s => [exprD s]) from List.take_of_length_le (by simp)) | (with_reducible (first | refine k_seq ?_ | refine k_block ?_ | refine k_skip ?_ | refine k_exit ?_ | refine k_ret ?_ | refine n_seq ?_ | refine n_block ?_ | refine e_seq ?_ | refine e_here ?_ | refine r_seq ?_ | refine o_exit ?_)) | refine s_reg ?_ | refine s_ifT ?_ | refine s_ifF ?_ | refine r_end ?_ | refine s_move ?_ | refine s_assign ?_ | refine s_int ?_ | refine s_loadB1 ?_ | refine s_loadFA ?_ | refine s_indexD ?_ (hel := (by first | exact rfl)) | refine s_fieldB ?_ | refine s_call (hm) ?_ | refine s_lenD ?_ | refine s_appA ?_ | refine s_storeB ?_ | refine s_bslice ?_ | refine s_extract ?_ | refine s_alloc ?_ | refine s_box ?_ | refine f_ret2 def_nil ?_ ?_ | refine t_tmp ?_ | refine t_tmpE ?_)
        all_goals rfl
      · rw [if_pos rfl]
        repeat' (first | refine s_freeze 7 ?_ (hes := show List.take E.length (E.map fun s => [exprD s]) = (E.map fun s => [exprD s]) from List.take_of_length_le (by simp)) | (with_reducible (first | refine k_seq ?_ | refine k_block ?_ | refine k_skip ?_ | refine k_exit ?_ | refine k_ret ?_ | refine n_seq ?_ | refine n_block ?_ | refine e_seq ?_ | refine e_here ?_ | refine r_seq ?_ | refine o_exit ?_)) | refine s_reg ?_ | refine s_ifT ?_ | refine s_ifF ?_ | refine r_end ?_ | refine s_move ?_ | refine s_assign ?_ | refine s_int ?_ | refine s_loadB1 ?_ | refine s_loadFA ?_ | refine s_indexD ?_ (hel := (by first | exact rfl)) | refine s_fieldB ?_ | refine s_call (hm) ?_ | refine s_call (hs) ?_ | refine s_lenD ?_ | refine s_appA ?_ | refine s_storeB ?_ | refine s_bslice ?_ | refine s_extract ?_ | refine s_alloc ?_ | refine s_box ?_ | refine f_ret2 def_nil ?_ ?_ | refine t_tmp ?_ | refine t_tmpE ?_)
        all_goals rfl
    · rw [if_neg he]
      repeat' (first | refine s_freeze 7 ?_ (hes := show List.take E.length (E.map fun s => [exprD s]) = (E.map fun s => [exprD s]) from List.take_of_length_le (by simp)) | (with_reducible (first | refine k_seq ?_ | refine k_block ?_ | refine k_skip ?_ | refine k_exit ?_ | refine k_ret ?_ | refine n_seq ?_ | refine n_block ?_ | refine e_seq ?_ | refine e_here ?_ | refine r_seq ?_ | refine o_exit ?_)) | refine s_reg ?_ | refine s_ifT ?_ | refine s_ifF ?_ | refine r_end ?_ | refine s_move ?_ | refine s_assign ?_ | refine s_int ?_ | refine s_loadB1 ?_ | refine s_loadFA ?_ | refine s_indexD ?_ (hel := (by first | exact rfl)) | refine s_fieldB ?_ | refine s_call (hm) ?_ | refine s_lenD ?_ | refine s_appA ?_ | refine s_storeB ?_ | refine s_bslice ?_ | refine s_extract ?_ | refine s_alloc ?_ | refine s_box ?_ | refine f_ret2 def_nil ?_ ?_ | refine t_tmp ?_ | refine t_tmpE ?_)
      all_goals rfl
end Go.Proofs.YtmpgmjlanngkfaaGreat
