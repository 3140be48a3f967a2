/-
  Views: the contents before and after a change, and the change of the content.
-/
import Derived.Test.YtmpgmjlanngkfaaGreatVew
section
namespace Go.Proofs.YtmpgmjlanngkfaaGreat
open Go.Abs Go.RowKit
attribute [local irreducible] ARun kont MCall PCall HCall resVal SF CF CFs defersOk slotsIn memIn fin finM VLe
set_option linter.unusedSimpArgs false
set_option maxRecDepth 100000
set_option maxHeartbeats 4000000
def outE (G : List Entry → List Itm → List Agg → List Entry × Int) (v : Vw) (j : List Entry) : List Entry × Int :=
  if v.kind = 1 then G (whereE j v.wher) v.items v.aggs
  else if (mapE (whereE j v.wher) (v.items.map Itm.expr)).2 = 0 then
    (if v.distinct = true then (supportE (mapE (whereE j v.wher) (v.items.map Itm.expr)).1, 0) else ((mapE (whereE j v.wher) (v.items.map Itm.expr)).1, 0))
  else ([], (mapE (whereE j v.wher) (v.items.map Itm.expr)).2)
theorem output_c (G : List Entry → List Itm → List Agg → List Entry × Int) (v : Vw) (j : List Entry) (hil : v.items.length ≤ 10000) (hg : v.kind = 1 → PCall Tryz.prog 90 [.one (bagD (whereE j v.wher)), .one (itmD v.items), .one (aggD v.aggs)] (bagI (G (whereE j v.wher) v.items v.aggs))) : PCall Tryz.prog 42 [.agg v.d, .one (bagD j)] (bagI (outE G v j)) := by
  have hw := where_c j v.wher
  unfold outE
  generalize whereE j v.wher = W at hw hg ⊢
  by_cases hk : v.kind = 1
  · rw [if_pos hk]
    have hg := hg hk
    generalize G W v.items v.aggs = x at hg ⊢
    dsimp only [bagI] at hg ⊢
    refine pcallN hT Tryz.func42 Tryz.ntmps42 [.tmp 4, .tmp 5] fun B => ?_
    repeat' (first | refine ks ?_ | refine ko ?_ | refine s_indexD ?_ (hel := (by first | exact rfl)) | refine s_call (hw) ?_ | refine s_call (hg) ?_ | refine kg ?_ ?_ | refine kf ?_ | fail)
    all_goals rfl
  rw [if_neg hk]
  clear hg
  have hm := map_c W (v.items.map Itm.expr)
  have hs := support_c (mapE W (v.items.map Itm.expr)).1
  have hEl : (v.items.map Itm.expr).length = v.items.length := List.length_map _
  have hEi : ∀ i it, v.items[i]? = some it → (v.items.map Itm.expr)[i]? = some (Itm.expr it) := fun i it h => by rw [List.getElem?_map, h]; rfl
  generalize mapE W (v.items.map Itm.expr) = m at hm hs ⊢
  obtain ⟨m, e⟩ := m
  generalize v.items.map Itm.expr = E at hm hEl hEi
  dsimp only [bagI, partsD] at hm hs ⊢
  refine pcallN hT Tryz.func42 Tryz.ntmps42 [.tmp 4, .tmp 5] fun B => ?_
  repeat' (first | refine ks ?_ | refine ko ?_ | refine s_indexD ?_ (hel := (by first | exact rfl)) | refine s_call (hw) ?_ | refine kg ?_ ?_ | refine kf ?_ | fail)
  refine s_own 7 26 1 ?_
  refine s_lp (X := Nat × Nat) [7, 9, 30, 31, 32, 33, 34, 35, 36, 37, 38, 39] (fun x => x.1 ≤ v.items.length) (fun x lz => (7, .c (.arr 1 x.2 (E.take x.1).length)) :: (30, (.c (.d (.lit (.int .i64 x.1))))) :: lz) (fun x => [.box 1 (v.d.map .d), .arr x.2 26 1 ((E.take x.1).map fun s => [exprD s])]) (fun x => v.items.length - x.1) ((0, 2)) ?_ ?_ ?_ ?_
  repeat' (first | exact slots_nil | refine kw ?_ | exact memIn_nil | refine kv ?_ ?_ | omega)
  rintro ⟨i, k⟩ c0 hi
  dsimp only at hi ⊢
  by_cases hlt : i < v.items.length
  · have hv : v.items[i]? = some v.items[i] := List.getElem?_eq_getElem hlt
    generalize v.items[i] = it at hv
    have htk : E.take (i + 1) = E.take i ++ [it.expr] := by rw [List.take_add_one, hEi i it hv]; rfl
    have htl : (E.take i).length = i := by simp; omega
    repeat' (first | refine ks ?_ | refine ko ?_ | refine s_indexD ?_ (hel := (by first | exact idx_map hv (by omega) | exact hv | exact rfl)) | refine kg ?_ ?_ | refine kf ?_ | fail)
    (apply s_round ((i + 1, _)); all_goals (try dsimp only); all_goals (try (repeat' (first | exact slots_nil | refine w1 ?_ | exact memIn_nil | refine memIn_same ?_ | refine m1 ?_ ?_ | omega))))
    all_goals (rw [htk]; simp)
  · have hie : i = E.length := by omega
    subst hie
    rw [List.take_length]
    by_cases he : e = 0
    · subst he
      rw [if_pos rfl]
      cases hd : v.distinct
      · rw [if_neg (by simp)]
        repeat' (first | refine s_freeze 7 ?_ (hes := show List.take E.length (E.map fun s => [exprD s]) = (E.map fun s => [exprD s]) from List.take_of_length_le (by simp)) | refine ks ?_ | refine ko ?_ | refine s_indexD ?_ (hel := (by first | exact rfl)) | refine s_call (hm) ?_ | refine f_ret2 def_nil ?_ ?_ | refine t_tmp ?_ | refine t_tmpE ?_)
        all_goals rfl
      · rw [if_pos rfl]
        repeat' (first | refine s_freeze 7 ?_ (hes := show List.take E.length (E.map fun s => [exprD s]) = (E.map fun s => [exprD s]) from List.take_of_length_le (by simp)) | refine ks ?_ | refine ko ?_ | refine s_indexD ?_ (hel := (by first | exact rfl)) | refine s_call (hm) ?_ | refine s_call (hs) ?_ | refine f_ret2 def_nil ?_ ?_ | refine t_tmp ?_ | refine t_tmpE ?_)
        all_goals rfl
    · rw [if_neg he]
      repeat' (first | refine s_freeze 7 ?_ (hes := show List.take E.length (E.map fun s => [exprD s]) = (E.map fun s => [exprD s]) from List.take_of_length_le (by simp)) | refine ks ?_ | refine ko ?_ | refine s_indexD ?_ (hel := (by first | exact rfl)) | refine s_call (hm) ?_ | refine f_ret2 def_nil ?_ ?_ | refine t_tmp ?_ | refine t_tmpE ?_)
      all_goals rfl
def jchE (J : List Entry → List Entry → List (Int × Int) → List Entry × Int) (C : List Entry × Int) (v : Vw) (j l r dl dr : List Entry) : List Entry × Int :=
  if (chgE v l r dl dr).2.2 = 0 ∧ emptyR v = false then
    (if C.2 = 0 then addE 1 j C.1 else J (chgE v l r dl dr).1 (chgE v l r dl dr).2.1 v.on)
  else ((chgE v l r dl dr).1, (chgE v l r dl dr).2.2)
theorem joinChanged_c (J : List Entry → List Entry → List (Int × Int) → List Entry × Int) (C : List Entry × Int) (v : Vw) (j l r dl dr : List Entry)
    (hj : emptyR v = false → PCall Tryz.prog 89 [.one (bagD (chgE v l r dl dr).1), .one (bagD (chgE v l r dl dr).2.1), .one (onD v.on)] (bagI (J (chgE v l r dl dr).1 (chgE v l r dl dr).2.1 v.on)))
    (hc : emptyR v = false → PCall Tryz.prog 103 [.agg v.d, .one (bagD l), .one (bagD r), .one (bagD dl), .one (bagD dr)] (bagI C)) :
    PCall Tryz.prog 55 [.agg v.d, .one (bagD j), .one (bagD l), .one (bagD r), .one (bagD dl), .one (bagD dr)] (bagI (jchE J C v j l r dl dr)) := by
  have hs := changedSources_c v l r dl dr
  unfold jchE
  generalize chgE v l r dl dr = s at hs hj ⊢
  obtain ⟨x, y, e⟩ := s
  dsimp only [bagI] at hs hj hc ⊢
  by_cases he : e = 0
  · subst he
    cases hr : emptyR v
    · have h1 := emptyR_f hr
      have hj := hj hr
      have hc := hc hr
      rw [if_pos ⟨rfl, rfl⟩]
      have ha := add_c j C.1
      generalize J x y v.on = q at hj ⊢
      generalize addE 1 j C.1 = a at ha ⊢
      obtain ⟨C, f⟩ := C
      dsimp only at hc ha ⊢
      by_cases hf : f = 0
      · subst hf
        rw [if_pos rfl]
        refine pcallN hT Tryz.func55 Tryz.ntmps55 [.tmp 12, .tmp 13] fun B => ?_
        repeat' (first | refine ks ?_ | refine ko ?_ | refine s_call (hs) ?_ | refine s_call (hc) ?_ | refine s_call (ha) ?_ | refine kf ?_ | refine kg ?_ ?_ | fail)
        all_goals rfl
      · rw [if_neg hf]
        refine pcallN hT Tryz.func55 Tryz.ntmps55 [.tmp 12, .tmp 13] fun B => ?_
        repeat' (first | refine ks ?_ | refine ko ?_ | refine s_call (hs) ?_ | refine s_call (hc) ?_ | refine s_call (hj) ?_ | refine kf ?_ | refine kg ?_ ?_ | fail)
        all_goals rfl
    · have h1 := emptyR_t hr
      rw [if_neg (by simp)]
      refine pcallN hT Tryz.func55 Tryz.ntmps55 [.tmp 12, .tmp 13] fun B => ?_
      repeat' (first | refine ks ?_ | refine ko ?_ | refine s_call (hs) ?_ | refine kf ?_ | refine kg ?_ ?_ | fail)
      all_goals rfl
  · rw [if_neg fun h => he h.1]
    refine pcallN hT Tryz.func55 Tryz.ntmps55 [.tmp 12, .tmp 13] fun B => ?_
    repeat' (first | refine ks ?_ | refine ko ?_ | refine s_call (hs) ?_ | refine kf ?_ | refine kg ?_ ?_ | fail)
    all_goals rfl
def conUE (v : Vw) (l r dl dr : List Entry) : List Entry × List Entry × Int :=
  if (addE 1 l r).2 = 0 then
    (if (chgE v l r dl dr).2.2 = 0 then ((addE 1 l r).1, (addE 1 (chgE v l r dl dr).1 (chgE v l r dl dr).2.1).1, (addE 1 (chgE v l r dl dr).1 (chgE v l r dl dr).2.1).2)
    else ([], [], (chgE v l r dl dr).2.2))
  else ([], [], (addE 1 l r).2)
def conR (q : List Entry × List Entry × Int) : PRes := .tup [.one (bagD q.1), .one (bagD q.2.1), .one (.lit (.int .i64 q.2.2))]
theorem contentsU_c (v : Vw) (l r dl dr : List Entry) (hk : v.kind = 2) : PCall Tryz.prog 44 [.agg v.d, .one (bagD l), .one (bagD r), .one (bagD dl), .one (bagD dr)] (conR (conUE v l r dl dr)) := by
  have ha := add_c l r
  have hs := changedSources_c v l r dl dr
  unfold conUE
  generalize addE 1 l r = a at ha ⊢
  generalize chgE v l r dl dr = s at hs ⊢
  obtain ⟨a, e⟩ := a
  obtain ⟨x, y, f⟩ := s
  dsimp only at ha hs ⊢
  have hb := add_c x y
  generalize addE 1 x y = b at hb ⊢
  by_cases he : e = 0
  · subst he
    rw [if_pos rfl]
    by_cases hf : f = 0
    · subst hf
      rw [if_pos rfl]
      dsimp only [conR]
      refine pcallN hT Tryz.func44 Tryz.ntmps44 [.tmp 10, .tmp 11, .tmp 12] fun B => ?_
      repeat' (first | refine ks ?_ | refine ko ?_ | refine s_call (ha) ?_ | refine s_call (hs) ?_ | refine s_call (hb) ?_ | refine f_ret3 def_nil ?_ ?_ ?_ | refine kf ?_ | fail)
      all_goals rfl
    · rw [if_neg hf]
      dsimp only [conR]
      refine pcallN hT Tryz.func44 Tryz.ntmps44 [.tmp 10, .tmp 11, .tmp 12] fun B => ?_
      repeat' (first | refine ks ?_ | refine ko ?_ | refine s_call (ha) ?_ | refine s_call (hs) ?_ | refine f_ret3 def_nil ?_ ?_ ?_ | refine kf ?_ | fail)
      all_goals rfl
  · rw [if_neg he]
    dsimp only [conR]
    refine pcallN hT Tryz.func44 Tryz.ntmps44 [.tmp 10, .tmp 11, .tmp 12] fun B => ?_
    repeat' (first | refine ks ?_ | refine ko ?_ | refine s_call (ha) ?_ | refine f_ret3 def_nil ?_ ?_ ?_ | refine kf ?_ | fail)
    all_goals rfl
def conSE (s o j p : List Entry × Int) : List Entry × List Entry × Int :=
  if s.2 = 0 then (if o.2 = 0 then (if j.2 = 0 then (o.1, p.1, p.2) else ([], [], j.2)) else ([], [], o.2)) else ([], [], s.2)
theorem contentsS_c (v : Vw) (l r dl dr : List Entry) (s o j p : List Entry × Int) (hk : v.kind ≠ 2)
    (hs : PCall Tryz.prog 41 [.agg v.d, .one (bagD l), .one (bagD r)] (bagI s))
    (ho : PCall Tryz.prog 42 [.agg v.d, .one (bagD s.1)] (bagI o))
    (hj : PCall Tryz.prog 55 [.agg v.d, .one (bagD s.1), .one (bagD l), .one (bagD r), .one (bagD dl), .one (bagD dr)] (bagI j))
    (hp : PCall Tryz.prog 42 [.agg v.d, .one (bagD j.1)] (bagI p)) :
    PCall Tryz.prog 44 [.agg v.d, .one (bagD l), .one (bagD r), .one (bagD dl), .one (bagD dr)] (conR (conSE s o j p)) := by
  unfold conSE
  obtain ⟨s, e1⟩ := s
  obtain ⟨o, e2⟩ := o
  obtain ⟨j, e3⟩ := j
  dsimp only [bagI] at hs ho hj hp ⊢
  by_cases h1 : e1 = 0
  · subst h1
    rw [if_pos rfl]
    by_cases h2 : e2 = 0
    · subst h2
      rw [if_pos rfl]
      by_cases h3 : e3 = 0
      · subst h3
        rw [if_pos rfl]
        dsimp only [conR]
        refine pcallN hT Tryz.func44 Tryz.ntmps44 [.tmp 10, .tmp 11, .tmp 12] fun B => ?_
        repeat' (first | refine s_call (ha := by exact And.intro rfl (And.intro rfl (And.intro rfl (And.intro rfl (And.intro rfl (And.intro rfl trivial)))))) hj ?_ | refine ks ?_ | refine ko ?_ | refine s_call (hs) ?_ | refine s_call (ho) ?_ | refine s_call (hp) ?_ | refine f_ret3 def_nil ?_ ?_ ?_ | refine t_tmp ?_ | refine t_tmpE ?_)
        all_goals rfl
      · rw [if_neg h3]
        dsimp only [conR]
        refine pcallN hT Tryz.func44 Tryz.ntmps44 [.tmp 10, .tmp 11, .tmp 12] fun B => ?_
        repeat' (first | refine s_call (ha := by exact And.intro rfl (And.intro rfl (And.intro rfl (And.intro rfl (And.intro rfl (And.intro rfl trivial)))))) hj ?_ | refine ks ?_ | refine ko ?_ | refine s_call (hs) ?_ | refine s_call (ho) ?_ | refine f_ret3 def_nil ?_ ?_ ?_ | refine t_tmp ?_ | refine t_tmpE ?_)
        all_goals rfl
    · rw [if_neg h2]
      dsimp only [conR]
      refine pcallN hT Tryz.func44 Tryz.ntmps44 [.tmp 10, .tmp 11, .tmp 12] fun B => ?_
      repeat' (first | refine ks ?_ | refine ko ?_ | refine s_call (hs) ?_ | refine s_call (ho) ?_ | refine f_ret3 def_nil ?_ ?_ ?_ | refine kf ?_ | fail)
      all_goals rfl
  · rw [if_neg h1]
    dsimp only [conR]
    refine pcallN hT Tryz.func44 Tryz.ntmps44 [.tmp 10, .tmp 11, .tmp 12] fun B => ?_
    repeat' (first | refine ks ?_ | refine ko ?_ | refine s_call (hs) ?_ | refine f_ret3 def_nil ?_ ?_ ?_ | refine kf ?_ | fail)
    all_goals rfl
theorem change1_d : DeferOk Tryz.prog 43 0 := by
  refine ⟨⟨_, Tryz.func43, by kernel_rfl, by kernel_rfl⟩, fun vs w hl => ?_⟩
  match vs, hl with
  | [], _ =>
    refine callsD_of_wpS Tryz.func43 rfl fun c₀ cs hu => ?_
    apply wpS_region
    simp [wpOpsS, go_sem, recoverD, hu, Tryz.ntmps43, Exit.thenS]
    cases c₀
    simp_all [bodyPostS, results, Tryz.results43]
def chaE (ok : Bool) (q : List Entry × List Entry × Int) : List Entry × Int := if ok = true then (if q.2.2 = 0 then addE (-1) q.2.1 q.1 else ([], q.2.2)) else ([], 1)
theorem change_c (v : Vw) (l r dl dr : List Entry) (q : List Entry × List Entry × Int)
    (hq : derivE v l r = true → PCall Tryz.prog 44 [.agg v.d, .one (bagD l), .one (bagD r), .one (bagD dl), .one (bagD dr)] (conR q)) :
    PCall Tryz.prog 18 [.agg v.d, .one (bagD l), .one (bagD r), .one (bagD dl), .one (bagD dr)] (bagI (chaE (derivE v l r) q)) := by
  have hd := derivable_c v l r
  unfold chaE
  cases h : derivE v l r
  · rw [h] at hd
    rw [if_neg (by simp)]
    dsimp only [bagI]
    refine pcallN hT Tryz.func18 Tryz.ntmps18 [.tmp 10, .tmp 11] fun B => ?_
    repeat' (first | refine ks ?_ | refine ko ?_ | refine s_call (hd) ?_ | refine f_ret2 (by repeat (first | exact def_nil | refine def_cons change1_d ?_)) ?_ ?_ | refine kf ?_ | fail)
    all_goals rfl
  · rw [h] at hd
    have hq := hq h
    rw [if_pos rfl]
    obtain ⟨x, y, e⟩ := q
    dsimp only [conR] at hq ⊢
    by_cases he : e = 0
    · subst he
      have ha := subtract_c y x
      rw [if_pos rfl]
      generalize addE (-1) y x = a at ha ⊢
      dsimp only [bagI]
      refine pcallN hT Tryz.func18 Tryz.ntmps18 [.tmp 10, .tmp 11] fun B => ?_
      repeat' (first | refine ks ?_ | refine ko ?_ | refine s_call (hd) ?_ | refine s_call (hq) ?_ | refine s_call (ha) ?_ | refine f_ret2 (by repeat (first | exact def_nil | refine def_cons change1_d ?_)) ?_ ?_ | refine kf ?_ | fail)
      all_goals rfl
    · rw [if_neg he]
      dsimp only [bagI]
      refine pcallN hT Tryz.func18 Tryz.ntmps18 [.tmp 10, .tmp 11] fun B => ?_
      repeat' (first | refine ks ?_ | refine ko ?_ | refine s_call (hd) ?_ | refine s_call (hq) ?_ | refine f_ret2 (by repeat (first | exact def_nil | refine def_cons change1_d ?_)) ?_ ?_ | refine kf ?_ | fail)
      all_goals rfl
end Go.Proofs.YtmpgmjlanngkfaaGreat
end
