/-
  Aggregates, the document's: Group.
-/
import Derived.Test.YtojfhaoleedmkaaGreatRgp
namespace Go.Proofs.YtojfhaoleedmkaaGreat
open Go.Abs Go.RowKit
attribute [local irreducible] ARun kont MCall PCall HCall resVal SF CF CFs defersOk slotsIn memIn fin finM VLe
set_option linter.unusedSimpArgs false
set_option maxRecDepth 100000
set_option maxHeartbeats 4000000
noncomputable def grE (ag : List Agg) (keys : List Itm) (b : List Entry) (k : List Val) : Entry := ⟨grpRow ag (k, b.filter (atK (keyE keys) k)), 1⟩
theorem groupE_keys {b : List Entry} {keys : List Itm} {ag : List Agg} (h : positiveE b = true ∧ keys.length + ag.length ≤ 8) : groupE b keys ag = normE ((keysE b (keyE keys)).map (grE ag keys b)) := by
  unfold groupE grpE
  rw [if_pos h, List.map_map]; rfl
theorem keysE_mem {b : List Entry} {keys : List Itm} {k : List Val} (h : k ∈ keysE b (keyE keys)) : rowClean k ∧ k.length = keys.length := by
  have hK : CleanK b (keyE keys) := fun e _ => keyE_clean keys e.row
  obtain ⟨_, h2, h3⟩ := keys_says hK
  refine ⟨h2 k h, ?_⟩
  obtain ⟨e, _, rfl⟩ := (h3 k).1 h
  exact keyE_len ..
theorem refGroup_c (b : List Entry) (keys : List Itm) (ag : List Agg) (hbl0 : b.length ≤ 1000) (hkl : keys.length ≤ 10000) (hal : ag.length ≤ 10000) : PCall Tryz.prog 17 [.one (bagD b), .one (itmD keys), .one (aggD ag)] (.tup [.one (bagD (groupE b keys ag).1), .one (.lit (.int .i64 (groupE b keys ag).2))]) := by
  have hp := refPositive_c b
  by_cases hc : positiveE b = true ∧ keys.length + ag.length ≤ 8
  · obtain ⟨hb1, hb2⟩ := hc
    obtain ⟨hbv, hbp⟩ := pos_mem hb1
    obtain ⟨hbl, hbm⟩ := valid_mem hbv
    rw [groupE_keys ⟨hb1, hb2⟩]
    rw [hb1] at hp
    have hg := refKeys_c b keys hbl0 (by omega)
    have hgl := keysE_len b _ (fun e _ => keyE_clean keys e.row)
    have hno := normalize_c ((keysE b (keyE keys)).map (grE ag keys b)) (by rw [List.length_map]; omega)
    have hgm : ∀ k ∈ keysE b (keyE keys), rowClean k ∧ k.length = keys.length := fun k hk => keysE_mem hk
    generalize keysE b (keyE keys) = G at hg hgl hno hgm ⊢
    generalize normE (G.map (grE ag keys b)) = R at hno ⊢
    refine pcallN hT Tryz.func17 Tryz.ntmps17 [.tmp 6, .tmp 7] fun B => ?_
    repeat' (first | refine ks ?_ | refine ko ?_ | refine s_indexD ?_ (hel := (by first | exact rfl)) | refine s_call (hp) ?_ | refine s_call (hg) ?_ | refine f_ret2 def_nil ?_ ?_ | refine t_tmp ?_ | refine t_tmpE ?_)
    refine s_own 8 49 2 ?_
    refine s_lp (X := Nat × Nat) [8, 10, 11, 12, 27, 28, 29, 30, 31, 32, 33, 34, 35, 36, 37, 38, 39, 40, 41, 42, 43, 44, 45, 46, 47, 48, 49, 50, 51, 52, 53, 54, 55, 56, 57, 58, 59, 60, 61, 62, 63, 64, 65, 66, 67, 68, 69, 70] (fun x => x.1 ≤ G.length) (fun x lz => (10, (.c (.d (.lit (.int .i64 x.1))))) :: (8, .c (.arr 0 x.2 x.1)) :: lz) (fun x => [.arr x.2 49 2 ((G.take x.1).map fun k => (grE ag keys b k).d)]) (fun x => G.length - x.1) ((0, 1)) ?_ ?_ ?_ ?_
    repeat' (first | exact slots_nil | refine kw ?_ | exact memIn_nil | refine kv ?_ ?_ | omega)
    rintro ⟨i, v⟩ c0 hi
    dsimp only at hi ⊢
    by_cases hlt : i < G.length
    · have hx : G[i]? = some G[i] := List.getElem?_eq_getElem hlt
      obtain ⟨hkc, hkk⟩ := hgm _ (List.getElem_mem hlt)
      generalize G[i] = key at hx hkc hkk
      have hx2 : (G.map fun r => [rowD r])[i]? = some [rowD key] := by rw [List.getElem?_map, hx]; rfl
      have hsn : ((G.take i).map fun k => (grE ag keys b k).d) ++ [[rowD (grpRow ag (key, b.filter (atK (keyE keys) key))), .lit (.int .i64 1)]] = (G.take (i + 1)).map fun k => (grE ag keys b k).d := by
        rw [take_snoc' hx, List.map_append]; rfl
      have hAl : ((G.take i).map fun k => (grE ag keys b k).d).length = i := by simp; omega
      have hml : (key.map Val.d).length = key.length := by simp
      generalize (G.take i).map (fun k => (grE ag keys b k).d) = A at hsn hAl ⊢
      generalize hgp : (key, b.filter (atK (keyE keys) key)) = g at hsn
      have hg1 : g.1 = key := by rw [← hgp]
      have hg2 : g.2 = b.filter (atK (keyE keys) key) := by rw [← hgp]
      have hr0 : grpRow [] g = key := by rw [grpRow_nil, hg1]
      repeat' (first | refine ks ?_ | refine ko ?_ | refine s_indexD ?_ (hel := (by first | exact idx_map hx2 (by omega) | exact hx2 | exact rfl)) | refine f_ret2 def_nil ?_ ?_ | refine t_tmp ?_ | refine t_tmpE ?_)
      refine s_lp (X := Nat × Nat) [11, 12, 39, 40, 41, 42, 43, 44, 45, 46, 47, 48, 49, 50, 51, 52, 53, 54, 55, 56, 57, 58, 59, 60, 61, 62, 63, 64, 65] (fun x => x.1 ≤ ag.length) (fun x lz => (12, (.c (.d (.lit (.int .i64 x.1))))) :: (11, .c (.arr 1 x.2 (key.length + x.1))) :: lz) (fun x => [.arr v 49 2 A, .arr x.2 53 3 ((grpRow (ag.take x.1) g).map Val.d)]) (fun x => ag.length - x.1) ((0, c0 + 1)) ?_ ?_ ?_ ?_
      repeat' (first | exact slots_nil | refine kw ?_ | exact memIn_nil | refine kv ?_ ?_ | omega)
      all_goals try (rw [List.take_zero, hr0]; done)
      all_goals try (first | rfl | (simp; done))
      rintro ⟨k, r⟩ c1 hk
      dsimp only at hk ⊢
      have hrl : ((grpRow (ag.take k) g).map Val.d).length = key.length + k := by rw [List.length_map, grpRow_len, hg1, List.length_take]; omega
      by_cases hkl3 : k < ag.length
      · have hy : ag[k]? = some ag[k] := List.getElem?_eq_getElem hkl3
        generalize ag[k] = y at hy
        have hy2 : (ag.map Agg.d)[k]? = some y.d := by rw [List.getElem?_map, hy]; rfl
        have hvc := refVals_c b keys key y.expr hbl0 (by omega)
        obtain ⟨v1, v2, v3, v4⟩ := grp_vals (keys := keys) hkc hbl (fun e he => (hbm e he).2.1) y.expr
        obtain ⟨v5, v6⟩ := grp_fold (keys := keys) hkc hbl (fun e he => (hbm e he).2.1) hbp y
        have hfc := foldI_c y.func _ v1 v5 v2 v3
        rw [v6, ← hg2] at hfc
        have hrs := congrArg (List.map Val.d) (grpRow_snoc (g := g) hy)
        rw [List.map_append, List.map_singleton] at hrs
        generalize (grpRow (ag.take k) g).map Val.d = Z at hrs hrl ⊢
        generalize foldE y.func (valsE y g.2) = F at hfc hrs
        generalize valI (kP keys key) (exF y.expr) b = V at hvc hfc
        clear v1 v2 v3 v4 v5 v6
        repeat' (first | refine ks ?_ | refine ko ?_ | refine s_indexD ?_ (hel := (by first | exact idx_map hx2 (by omega) | exact idx_map hy2 (by omega) | exact hx2 | exact hy2 | exact rfl)) | refine s_call (hvc) ?_ | refine s_call (hfc) ?_ | refine f_ret2 def_nil ?_ ?_ | refine t_tmp ?_ | refine t_tmpE ?_)
        (apply s_round ((k + 1, c1 + 1)); all_goals (try dsimp only); all_goals (try (repeat' (first | exact slots_nil | refine kw ?_ | exact memIn_nil | refine kv ?_ ?_ | omega))))
        all_goals first
          | omega
          | (rw [take_ge (by omega)]; exact hrs.symm)
      · have hke : k = ag.length := by omega
        have hrl2 : ((grpRow ag g).map Val.d).length = key.length + ag.length := by rw [List.length_map, grpRow_len, hg1]
        rw [hke, take_ge (Nat.le_refl _)]
        refine s_freeze (r := 1) (m := key.length + ag.length) (es1 := (grpRow ag g).map Val.d) 11 ?_ (hl := by omega) (hes := take_ge (by omega))
        repeat' (first | refine ks ?_ | refine ko ?_ | refine s_indexD ?_ (hel := (by first | exact rfl)) | refine f_ret2 def_nil ?_ ?_ | refine t_tmp ?_ | refine t_tmpE ?_)
        (apply s_round ((i + 1, _)); all_goals (try dsimp only); all_goals (try (repeat' (first | exact slots_nil | refine w1 ?_ | exact memIn_nil | refine memIn_same ?_ | refine m1 ?_ ?_ | omega))))
        all_goals (rw [take_ge (by omega)]; exact hsn)
    · obtain rfl : i = G.length := by omega
      rw [take_ge (Nat.le_refl _)]
      refine s_freeze (r := 0) (m := G.length) (es1 := (G.map (grE ag keys b)).map Entry.d) 8 ?_ (hl := by simp) (hes := by rw [take_ge (by simp), List.map_map]; rfl)
      repeat' (first | refine ks ?_ | refine ko ?_ | refine s_indexD ?_ (hel := (by first | exact rfl)) | refine s_call (hno) ?_ | refine f_ret2 def_nil ?_ ?_ | refine t_tmp ?_ | refine t_tmpE ?_)
      all_goals rfl
  · have he : groupE b keys ag = ([], 1) := if_neg hc
    rw [he]
    cases hb : positiveE b with
    | false =>
      rw [hb] at hp
      refine pcallN hT Tryz.func17 Tryz.ntmps17 [.tmp 6, .tmp 7] fun B => ?_
      repeat' (first | refine ks ?_ | refine ko ?_ | refine s_indexD ?_ (hel := (by first | exact rfl)) | refine s_call (hp) ?_ | refine f_ret2 def_nil ?_ ?_ | refine t_tmp ?_ | refine t_tmpE ?_)
      all_goals rfl
    | true =>
      rw [hb] at hp
      have hk2 : ¬ keys.length + ag.length ≤ 8 := fun h => hc ⟨hb, h⟩
      refine pcallN hT Tryz.func17 Tryz.ntmps17 [.tmp 6, .tmp 7] fun B => ?_
      repeat' (first | refine ks ?_ | refine ko ?_ | refine s_indexD ?_ (hel := (by first | exact rfl)) | refine s_call (hp) ?_ | refine f_ret2 def_nil ?_ ?_ | refine t_tmp ?_ | refine t_tmpE ?_)
      all_goals rfl
end Go.Proofs.YtojfhaoleedmkaaGreat
