/-
  Aggregates: fold, values of groups, Exact.
-/
import Derived.Test.YtojfhaoleedmkaaGreatAgi
namespace Go.Proofs.YtojfhaoleedmkaaGreat
open Go.Abs Go.RowKit
attribute [local irreducible] ARun kont MCall PCall HCall resVal SF CF CFs defersOk slotsIn memIn fin finM VLe
set_option linter.unusedSimpArgs false
set_option maxRecDepth 100000
set_option maxHeartbeats 4000000
theorem fold_rk (f : Int) (L : List (Val × Int)) (hf : f = 2 ∨ f = 3 ∨ f = 4) : foldE f L = rkE f L := by
  unfold foldE rkE
  rcases hf with rfl | rfl | rfl
  · rw [if_neg (by decide), if_neg (by decide), if_pos rfl]; simp
  · rw [if_neg (by decide), if_neg (by decide), if_neg (by decide), if_pos rfl]; simp
  · rw [if_neg (by decide), if_neg (by decide), if_neg (by decide), if_neg (by decide), if_pos rfl]; simp
theorem fold_c (f : Int) (L : List (Val × Int)) (hb : Bnd L) (hp : PosC L) : PCall Tryz.prog 49 [.one (.lit (.int .i64 f)), .one (cntsD L)] (.v (.agg (foldE f L).d)) := by
  have hl := hb.1
  by_cases h0 : f = 0
  · subst h0
    have hn := aggNumber_c (ttl L)
    have he : foldE 0 L = Val.ofInt (ttl L) := by unfold foldE; rw [if_pos rfl]
    rw [he]
    refine pcallN hT Tryz.func49 Tryz.ntmps49 [.cell 4 53] fun B => ?_
    repeat' (first | refine ks ?_ | refine ko ?_ | refine s_indexD ?_ (hel := (by first | exact rfl)) | refine f_ret1 def_nil ?_ | refine t_cellG ?_ | exact cfs_nil | refine cfs_cons ?_ ?_ | refine cf_d ?_)
    refine s_lp (X := Nat × Int) [5, 7, 15, 16, 17, 18, 19, 20, 21, 22, 23] (fun x => x.1 ≤ L.length ∧ x.2 = ttl (L.take x.1)) (fun x lz => (15, (.c (.d (.lit (.int .i64 x.1))))) :: (5, .c (.d (.lit (.int .i64 x.2)))) :: lz) (fun x => [.box 1 (Val.null.d.map .d)]) (fun x => L.length - x.1) ((0, 0)) ?_ ?_ ?_ ?_
    repeat' (first | exact slots_nil | refine kw ?_ | exact memIn_nil | omega)
    · exact ⟨by simp, rfl⟩
    rintro ⟨k, m⟩ c ⟨hk, hm⟩
    dsimp only at hk hm ⊢
    by_cases hkl : k < L.length
    · have hv : L[k]? = some L[k] := List.getElem?_eq_getElem (by omega)
      generalize L[k] = x at hv
      have hv2 : (L.map cnD)[k]? = some (cnD x) := by rw [List.getElem?_map, hv]; rfl
      have e1 := ttl_snoc hv
      have b1 := ttl_bd hb (k + 1)
      rw [← hm] at e1
      repeat' (first | refine ks ?_ | refine ko ?_ | refine s_indexD ?_ (hel := (by first | exact idx_map hv2 (by omega) | exact hv2 | exact rfl)) | refine f_ret1 def_nil ?_ | refine t_cellG ?_ | exact cfs_nil | refine cfs_cons ?_ ?_ | refine cf_d ?_)
      (apply s_round ((k + 1, m + x.2)); all_goals (try dsimp only); all_goals (try (repeat' (first | exact slots_nil | refine kw ?_ | exact memIn_nil | omega))))
      all_goals exact ⟨by omega, e1.symm⟩
    · rw [take_ge (show L.length ≤ k by omega)] at hm
      rw [← hm] at hn ⊢
      repeat' (first | refine ks ?_ | refine ko ?_ | refine s_indexD ?_ (hel := (by first | exact rfl)) | refine s_call (hn) ?_ | refine f_ret1 def_nil ?_ | refine t_cellG ?_ | exact cfs_nil | refine cfs_cons ?_ ?_ | refine cf_d ?_)
      all_goals rfl
  by_cases h1 : f = 1
  · subst h1
    have hs := aggSum_c L hb
    have hn := aggNumber_c (sumV L)
    by_cases hc : cntV L = 0
    · have he : foldE 1 L = Val.null := by unfold foldE; rw [if_neg (by decide), if_pos rfl, if_pos hc]
      rw [he]
      rw [hc] at hs
      refine pcallN hT Tryz.func49 Tryz.ntmps49 [.cell 4 53] fun B => ?_
      repeat' (first | refine ks ?_ | refine ko ?_ | refine s_indexD ?_ (hel := (by first | exact rfl)) | refine s_call (hs) ?_ | refine f_ret1 def_nil ?_ | refine t_cellG ?_ | exact cfs_nil | refine cfs_cons ?_ ?_ | refine cf_d ?_)
      all_goals rfl
    · have he : foldE 1 L = Val.ofInt (sumV L) := by unfold foldE; rw [if_neg (by decide), if_pos rfl, if_neg hc]
      rw [he]
      generalize cntV L = n at hs hc
      refine pcallN hT Tryz.func49 Tryz.ntmps49 [.cell 4 53] fun B => ?_
      repeat' (first | refine ks ?_ | refine ko ?_ | refine s_indexD ?_ (hel := (by first | exact rfl)) | refine s_call (hs) ?_ | refine s_call (hn) ?_ | refine f_ret1 def_nil ?_ | refine t_cellG ?_ | exact cfs_nil | refine cfs_cons ?_ ?_ | refine cf_d ?_)
      all_goals rfl
  by_cases h2 : f = 2 ∨ f = 3 ∨ f = 4
  · have hr := ranked_c L hb hp f h2
    rw [fold_rk f L h2]
    rcases h2 with rfl | rfl | rfl
    all_goals
      refine pcallN hT Tryz.func49 Tryz.ntmps49 [.cell 4 53] fun B => ?_
      repeat' (first | refine ks ?_ | refine ko ?_ | refine s_indexD ?_ (hel := (by first | exact rfl)) | refine s_call (hr) ?_ | refine f_ret1 def_nil ?_ | refine t_cellG ?_ | exact cfs_nil | refine cfs_cons ?_ ?_ | refine cf_d ?_)
      all_goals rfl
  · have he : foldE f L = Val.null := by unfold foldE; rw [if_neg h0, if_neg h1, if_neg (by omega), if_neg (by omega), if_neg (by omega)]
    rw [he]
    refine pcallN hT Tryz.func49 Tryz.ntmps49 [.cell 4 53] fun B => ?_
    repeat' (first | refine ks ?_ | refine ko ?_ | refine s_indexD ?_ (hel := (by first | exact rfl)) | refine f_ret1 def_nil ?_ | refine t_cellG ?_ | exact cfs_nil | refine cfs_cons ?_ ?_ | refine cf_d ?_)
    all_goals first
      | rfl
      | (exfalso; simp at hb; omega)
structure Agg where
  name : ByteArray
  func : Int
  expr : List Trm
def Agg.d (x : Agg) : List Dat := [.lit (.string x.name), .lit (.int .i64 x.func), exprD x.expr]
def aggD (l : List Agg) : Dat := .sl (l.map Agg.d)
def vlE (x : Agg) (e : Entry) : Val × Int := (if x.func = 0 then Val.null else evE x.expr e.row, e.count)
def valsE (x : Agg) (es : List Entry) : List (Val × Int) := es.map (vlE x)
theorem valsE_snoc {ag : Agg} {es : List Entry} {i : Nat} {y : Entry} (h : es[i]? = some y) : (valsE ag (es.take i)).map cnD ++ [cnD (vlE ag y)] = (valsE ag (es.take (i + 1))).map cnD := by
  rw [take_snoc' h]; simp [valsE]
theorem valsE_len (ag : Agg) (es : List Entry) : (valsE ag es).length = es.length := by simp [valsE]
theorem values_c (g : List Val × List Entry) (ag : Agg) (hl : g.2.length ≤ 4096) : PCall Tryz.prog 50 [.agg (grD g), .agg ag.d] (.v (.one (cntsD (valsE ag g.2)))) := by
  obtain ⟨key, es⟩ := g
  dsimp only at hl ⊢
  refine pcallN hT Tryz.func50 Tryz.ntmps50 [.tmp 4] fun B => ?_
  repeat' (first | refine ks ?_ | refine ko ?_ | refine s_indexD ?_ (hel := (by first | exact rfl)) | refine f_ret1 def_nil ?_ | refine t_tmp ?_)
  refine s_own 5 99 4 ?_
  refine s_lp (X := Nat × Nat) [5, 7, 8, 12, 13, 14, 15, 16, 17, 18, 19, 20, 21, 22, 23, 24, 25, 26, 27, 28, 29, 30, 31] (fun x => x.1 ≤ es.length) (fun x lz => (12, (.c (.d (.lit (.int .i64 x.1))))) :: (5, .c (.arr 2 x.2 x.1)) :: lz) (fun x => [.box 1 [.d (rowX key), .d (bagD es)], .box 2 (ag.d.map .d), .arr x.2 99 4 ((valsE ag (es.take x.1)).map cnD)]) (fun x => es.length - x.1) ((0, 3)) ?_ ?_ ?_ ?_
  repeat' (first | exact slots_nil | refine kw ?_ | exact memIn_nil | refine kv ?_ ?_ | omega)
  rintro ⟨i, k⟩ c hi
  dsimp only at hi ⊢
  by_cases hlt : i < es.length
  · have hv : es[i]? = some es[i] := List.getElem?_eq_getElem hlt
    generalize es[i] = y at hv
    have hs := valsE_snoc (ag := ag) hv
    have hal : ((valsE ag (es.take i)).map cnD).length = i := by simp [valsE]; omega
    have hv2 : (es.map Entry.d)[i]? = some y.d := by rw [List.getElem?_map, hv]; rfl
    generalize (valsE ag (es.take i)).map cnD = A at hs hal ⊢
    by_cases hf : ag.func = 0
    · have hy : cnD (vlE ag y) = Val.null.d ++ [.lit (.int .i64 y.count)] := by unfold vlE cnD; rw [if_pos hf]; rfl
      rw [hy] at hs
      repeat' (first | refine ks ?_ | refine ko ?_ | refine s_indexD ?_ (hel := (by first | exact idx_map hv2 (by omega) | exact hv2 | exact rfl)) | refine f_ret1 def_nil ?_ | refine t_tmp ?_)
      (apply s_round ((i + 1, c + 3)); all_goals (try dsimp only); all_goals (try (repeat' (first | exact slots_nil | refine kw ?_ | exact memIn_nil | refine kv ?_ ?_ | omega))))
      all_goals first
        | omega
        | (rw [take_ge (by omega)]; exact hs)
    · have hev := exEval_c ag.expr y.row
      have hy : cnD (vlE ag y) = (evE ag.expr y.row).d ++ [.lit (.int .i64 y.count)] := by unfold vlE cnD; rw [if_neg hf]; rfl
      rw [hy] at hs
      repeat' (first | refine ks ?_ | refine ko ?_ | refine s_indexD ?_ (hel := (by first | exact idx_map hv2 (by omega) | exact hv2 | exact rfl)) | refine s_call (hev) ?_ | refine f_ret1 def_nil ?_ | refine t_tmp ?_)
      (apply s_round ((i + 1, c + 3)); all_goals (try dsimp only); all_goals (try (repeat' (first | exact slots_nil | refine kw ?_ | exact memIn_nil | refine kv ?_ ?_ | omega))))
      all_goals first
        | omega
        | (rw [take_ge (by omega)]; exact hs)
  · obtain rfl : i = es.length := by omega
    rw [take_ge (Nat.le_refl _)]
    refine s_freeze (m := es.length) (r := 2) (es := (valsE ag es).map cnD) 5 ?_ (hl := by rw [List.length_map, valsE_len]; omega) (hes := take_ge (by rw [List.length_map, valsE_len]; omega))
    repeat' (first | refine ks ?_ | refine ko ?_ | refine s_indexD ?_ (hel := (by first | exact rfl)) | refine f_ret1 def_nil ?_ | refine t_tmp ?_)
    all_goals rfl
end Go.Proofs.YtojfhaoleedmkaaGreat
