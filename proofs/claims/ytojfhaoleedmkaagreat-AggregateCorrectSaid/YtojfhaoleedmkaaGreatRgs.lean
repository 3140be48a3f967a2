/-
  Aggregates, the document's: States.
-/
import Derived.Test.YtojfhaoleedmkaaGreatLga
import Derived.Test.YtojfhaoleedmkaaGreatRge
import Derived.Test.YtojfhaoleedmkaaGreatRgw
namespace Go.Proofs.YtojfhaoleedmkaaGreat
open Go.Abs Go.RowKit
attribute [local irreducible] ARun kont MCall PCall HCall resVal SF CF CFs defersOk slotsIn memIn fin finM VLe
set_option linter.unusedSimpArgs false
set_option maxRecDepth 100000
set_option maxHeartbeats 4000000
def stK (ag : List Agg) (keys : List Itm) (b : List Entry) (k : List Val) : Sta := stE ag (k, b.filter (atK (keyE keys) k))
theorem statesE_keys {b : List Entry} {keys : List Itm} {ag : List Agg} (h : bagValid b = true ∧ keys.length + ag.length ≤ 8 ∧ exactE ag = true) : statesE b keys ag = (((keysE b (keyE keys)).map (stK ag keys b)).filter nzS, 0) := by
  unfold statesE grpE
  rw [if_pos h, List.map_map]; rfl
theorem refStates_c (b : List Entry) (keys : List Itm) (ag : List Agg) (hbl0 : b.length ≤ 1000) (hkl : keys.length ≤ 10000) (hal : ag.length ≤ 10000) : PCall Tryz.prog 22 [.one (bagD b), .one (itmD keys), .one (aggD ag)] (.tup [.one (stsD (statesE b keys ag).1), .one (.lit (.int .i64 (statesE b keys ag).2))]) := by
  have hp := refBagValid_c b
  have hxa := refExact_c ag (by omega)
  by_cases hc : bagValid b = true ∧ keys.length + ag.length ≤ 8 ∧ exactE ag = true
  · obtain ⟨hbv, hb2, hex⟩ := hc
    obtain ⟨hbl, hbm⟩ := valid_mem hbv
    have hbm : ∀ e ∈ b, -262144 ≤ e.count ∧ e.count ≤ 262144 := fun e he => (hbm e he).2.1
    rw [statesE_keys ⟨hbv, hb2, hex⟩]
    rw [hbv] at hp
    rw [hex] at hxa
    have hg := refKeys_c b keys hbl0 (by omega)
    have hgl := keysE_len b _ (fun e _ => keyE_clean keys e.row)
    have hgm : ∀ k ∈ keysE b (keyE keys), rowClean k ∧ k.length = keys.length := fun k hk => keysE_mem hk
    generalize keysE b (keyE keys) = G at hg hgl hgm ⊢
    refine pcallN hT Tryz.func22 Tryz.ntmps22 [.tmp 6, .tmp 7] fun B => ?_
    repeat' (first | refine ks ?_ | refine ko ?_ | refine s_indexD ?_ (hel := (by first | exact rfl)) | refine s_call (hp) ?_ | refine s_call (hg) ?_ | refine s_call (hxa) ?_ | refine s_kT ?_ | refine s_kF ?_ | refine f_ret2 def_nil ?_ ?_ | refine t_tmp ?_ | refine t_tmpE ?_)
    refine s_own 8 90 4 ?_
    refine s_lp (X := Nat × Nat) [8, 10, 11, 12, 13, 14, 15, 16, 36, 37, 38, 39, 40, 41, 42, 43, 44, 45, 46, 47, 48, 49, 50, 51, 52, 53, 54, 55, 56, 57, 58, 59, 60, 61, 62, 63, 64, 65, 66, 67, 68, 69, 70, 71, 72, 73, 74, 75, 76, 77, 78, 79, 80, 81, 82, 83, 84, 85, 86, 87, 88, 89, 90, 91, 92, 93, 94, 95, 96, 97, 98, 99, 100, 101, 102, 103, 104, 105, 106, 107, 108, 109, 110, 111, 112, 113, 114, 115] (fun x => x.1 ≤ G.length) (fun x lz => (10, (.c (.d (.lit (.int .i64 x.1))))) :: (8, .c (.arr 0 x.2 (((G.take x.1).map (stK ag keys b)).filter nzS).length)) :: lz) (fun x => [.arr x.2 90 4 ((((G.take x.1).map (stK ag keys b)).filter nzS).map Sta.d)]) (fun x => G.length - x.1) ((0, 1)) ?_ ?_ ?_ ?_
    repeat' (first | exact slots_nil | refine kw ?_ | refine kv ?_ ?_ | exact memIn_nil | omega)
    rintro ⟨i, v⟩ c0 hi
    dsimp only at hi ⊢
    by_cases hlt : i < G.length
    · have hx : G[i]? = some G[i] := List.getElem?_eq_getElem hlt
      obtain ⟨hkc, hkk⟩ := hgm _ (List.getElem_mem hlt)
      generalize G[i] = key at hx hkc hkk
      have hx2 : (G.map fun r => [rowD r])[i]? = some [rowD key] := by rw [List.getElem?_map, hx]; rfl
      have hsn : ((G.take (i + 1)).map (stK ag keys b)).filter nzS = ((G.take i).map (stK ag keys b)).filter nzS ++ if nzS (stK ag keys b key) = true then [stK ag keys b key] else [] := by
        rw [take_snoc' hx, List.map_append, List.filter_append]
        congr 1
        rw [List.map_singleton, List.filter_cons]; rfl
      have hAl : (((G.take i).map (stK ag keys b)).filter nzS).length ≤ i := Nat.le_trans (List.length_filter_le _ _) (by simp; omega)
      generalize ((G.take i).map (stK ag keys b)).filter nzS = A at hsn hAl ⊢
      have hv0 := refVals_c b keys key [] hbl0 (by omega)
      have hcnt := grp_count (keys := keys) (b := b) hkc []
      obtain ⟨q1, _, _, q4⟩ := grp_vals (keys := keys) hkc hbl hbm []
      have hVl := q1.1
      rw [vcs_len] at hVl
      have hVm : ∀ e ∈ valI (kP keys key) (exF []) b, -262144 ≤ e.count ∧ e.count ≤ 262144 := fun e he => (q1.2 (vc e) (List.mem_map.2 ⟨e, he, rfl⟩)).2
      clear q1 q4
      generalize valI (kP keys key) (exF []) b = V at hv0 hcnt hVl hVm
      have hst : stK ag keys b key = ⟨key, nE V, ag.map (suE (b.filter (atK (keyE keys) key))), ag.map (coE (b.filter (atK (keyE keys) key)))⟩ := by rw [hcnt]; rfl
      repeat' (first | refine ks ?_ | refine ko ?_ | refine s_indexD ?_ (hel := (by first | exact idx_map hx2 (by omega) | exact hx2 | exact rfl)) | refine s_call (hv0) ?_ | refine s_kT ?_ | refine s_kF ?_ | refine f_ret2 def_nil ?_ ?_ | refine t_tmp ?_ | refine t_tmpE ?_)
      refine s_ownBox 1 2 2 1 ?_
      refine s_ownBox 1 3 2 1 ?_
      refine s_lp (X := Nat) [13, 54, 55, 56, 57, 58, 59, 60, 61, 62, 63, 64, 65, 66, 67, 68] (fun x => x ≤ V.length) (fun x lz => (13, (.c (.d (.lit (.int .i64 x))))) :: lz) (fun x => [.arr v 90 4 (A.map Sta.d), .box (c0 + 1) [.d (rowD key), .d (.lit (.int .i64 (nE (V.take x)))), .arr 2 (c0 + 2) 0, .arr 3 (c0 + 3) 0], .arr (c0 + 2) 2 1 [], .arr (c0 + 3) 2 1 []]) (fun x => V.length - x) (0) ?_ ?_ ?_ ?_
      repeat' (first | exact slots_nil | refine kw ?_ | refine kv ?_ ?_ | exact memIn_nil | omega)
      rintro j c1 hj
      by_cases hjl : j < V.length
      · have hw : V[j]? = some V[j] := List.getElem?_eq_getElem hjl
        generalize V[j] = y at hw
        have hw2 : (V.map Entry.d)[j]? = some y.d := by rw [List.getElem?_map, hw]; rfl
        have e1 := nE_snoc hw
        have b1 := nE_bd hVl hVm j
        have b2 := nE_bd hVl hVm (j + 1)
        rw [e1] at b2
        repeat' (first | refine ks ?_ | refine ko ?_ | refine s_indexD ?_ (hel := (by first | exact idx_map hw2 (by omega) | exact hw2 | exact rfl)) | refine s_kT ?_ | refine s_kF ?_ | refine f_ret2 def_nil ?_ ?_ | refine t_tmp ?_ | refine t_tmpE ?_)
        (apply s_round (j + 1); all_goals (try dsimp only); all_goals (try (repeat' (first | exact slots_nil | refine kw ?_ | refine kv ?_ ?_ | exact memIn_nil | omega))))
        all_goals (rw [e1])
      · obtain rfl : j = V.length := by omega
        rw [take_ge (Nat.le_refl _)]
        repeat' (first | refine ks ?_ | refine ko ?_ | refine s_indexD ?_ (hel := (by first | exact rfl)) | refine s_kT ?_ | refine s_kF ?_ | refine f_ret2 def_nil ?_ ?_ | refine t_tmp ?_ | refine t_tmpE ?_)
        refine s_lp (X := Nat × Nat × Nat) [14, 15, 16, 69, 70, 71, 72, 73, 74, 75, 76, 77, 78, 79, 80, 81, 82, 83, 84, 85, 86, 87, 88, 89, 90, 91, 92, 93, 94, 95, 96, 97, 98, 99, 100, 101, 102, 103, 104, 105, 106, 107, 108] (fun x => x.1 ≤ ag.length) (fun x lz => (14, (.c (.d (.lit (.int .i64 x.1))))) :: lz) (fun x => [.arr v 90 4 (A.map Sta.d), .box (c0 + 1) [.d (rowD key), .d (.lit (.int .i64 (nE V))), .arr 2 x.2.1 x.1, .arr 3 x.2.2 x.1], .arr x.2.1 2 1 (litsE ((ag.take x.1).map (suE (b.filter (atK (keyE keys) key))))), .arr x.2.2 2 1 (litsE ((ag.take x.1).map (coE (b.filter (atK (keyE keys) key)))))]) (fun x => ag.length - x.1) ((0, c0 + 2, c0 + 3)) ?_ ?_ ?_ ?_
        repeat' (first | exact slots_nil | refine kw ?_ | refine kv ?_ ?_ | exact memIn_nil | omega)
        rintro ⟨k, r1, r2⟩ c2 hk
        dsimp only at hk ⊢
        have l1 : (litsE ((ag.take k).map (suE (b.filter (atK (keyE keys) key))))).length = k := by simp [litsE]; omega
        have l2 : (litsE ((ag.take k).map (coE (b.filter (atK (keyE keys) key))))).length = k := by simp [litsE]; omega
        by_cases hkl3 : k < ag.length
        · have hy : ag[k]? = some ag[k] := List.getElem?_eq_getElem hkl3
          generalize ag[k] = y at hy
          have hy2 : (ag.map Agg.d)[k]? = some y.d := by rw [List.getElem?_map, hy]; rfl
          have hs1 : litsE ((ag.take k).map (suE (b.filter (atK (keyE keys) key)))) ++ [[.lit (.int .i64 (suE (b.filter (atK (keyE keys) key)) y))]] = litsE ((ag.take (k + 1)).map (suE (b.filter (atK (keyE keys) key)))) := by rw [take_snoc' hy]; simp [litsE]
          have hs2 : litsE ((ag.take k).map (coE (b.filter (atK (keyE keys) key)))) ++ [[.lit (.int .i64 (coE (b.filter (atK (keyE keys) key)) y))]] = litsE ((ag.take (k + 1)).map (coE (b.filter (atK (keyE keys) key)))) := by rw [take_snoc' hy]; simp [litsE]
          have hvc := refVals_c b keys key y.expr hbl0 (by omega)
          obtain ⟨v1, v2, v3, v4⟩ := grp_vals (keys := keys) hkc hbl hbm y.expr
          have hic := integers_c _ v1
          have hgs := fun h => grp_sums (keys := keys) (x := y) hkc hbl hbm h
          generalize valI (kP keys key) (exF y.expr) b = W at hvc hic hgs
          clear v1 v2 v3 v4
          have hsu : y.func ≠ 1 → suE (b.filter (atK (keyE keys) key)) y = 0 := fun h => if_neg h
          have hco : y.func ≠ 1 → coE (b.filter (atK (keyE keys) key)) y = 0 := fun h => if_neg h
          generalize suE (b.filter (atK (keyE keys) key)) y = SU at hs1 hgs hsu
          generalize coE (b.filter (atK (keyE keys) key)) y = CO at hs2 hgs hco
          generalize hZ1 : litsE ((ag.take (k + 1)).map (suE (b.filter (atK (keyE keys) key)))) = Z1 at hs1
          generalize hZ2 : litsE ((ag.take (k + 1)).map (coE (b.filter (atK (keyE keys) key)))) = Z2 at hs2
          generalize litsE ((ag.take k).map (suE (b.filter (atK (keyE keys) key)))) = Y1 at hs1 l1 ⊢
          generalize litsE ((ag.take k).map (coE (b.filter (atK (keyE keys) key)))) = Y2 at hs2 l2 ⊢
          refine k_ver 2 fun hr1 => ?_
          refine k_ver 3 fun hr2 => ?_
          refine k_tick ?_
          by_cases hf : y.func = 1
          · obtain ⟨g1, g2⟩ := hgs hf
            rw [g1, g2] at hic
            repeat' (first | refine h_fieldB (dr := true) ?_ | refine h_loadB1 (dr := true) ?_ | refine h_storeB (dr := true) ?_ | (refine h_appA (dr := true) (ei := ti2) (k := r1) (es := Y1) (ys := [[.lit (.int .i64 SU)]]) (es' := Z1) 2 (c2 + 1) (j := k) (m := k + 1) ?_ (by omega) (by omega) (by omega) rfl (by simp only [maxLen]; omega) (by simp only [ti2]; omega) (sized_cons rfl sized_nil) (by rw [take_ge (by omega)]; exact hs1)) | (refine h_appA (dr := true) (ei := ti2) (k := r2) (es := Y2) (ys := [[.lit (.int .i64 CO)]]) (es' := Z2) 3 (c2 + 1) (j := k) (m := k + 1) ?_ (by omega) (by omega) (by omega) rfl (by simp only [maxLen]; omega) (by simp only [ti2]; omega) (sized_cons rfl sized_nil) (by rw [take_ge (by omega)]; exact hs2)) | refine ks ?_ | refine ko ?_ | refine s_indexD ?_ (hel := (by first | exact idx_map hx2 (by omega) | exact idx_map hy2 (by omega) | exact hx2 | exact hy2 | exact rfl)) | refine s_call (hvc) ?_ | refine s_call (hic) ?_ | refine s_kT ?_ | refine s_kF ?_ | refine f_ret2 def_nil ?_ ?_ | refine t_tmp ?_ | refine t_tmpE ?_)
            (apply s_round ((k + 1, c2 + 1, c2 + 1)); all_goals (try dsimp only); all_goals (try (repeat' (first | exact slots_nil | refine kw ?_ | refine kv ?_ ?_ | exact memIn_nil | omega))))
            all_goals first
              | exact hZ1.symm
              | exact hZ2.symm
              | skip
          · have z1 := hsu hf
            have z2 := hco hf
            subst z1
            subst z2
            repeat' (first | refine h_fieldB (dr := true) ?_ | refine h_loadB1 (dr := true) ?_ | refine h_storeB (dr := true) ?_ | (refine h_appA (dr := true) (ei := ti2) (k := r1) (es := Y1) (ys := [[.lit (.int .i64 0)]]) (es' := Z1) 2 (c2 + 1) (j := k) (m := k + 1) ?_ (by omega) (by omega) (by omega) rfl (by simp only [maxLen]; omega) (by simp only [ti2]; omega) (sized_cons rfl sized_nil) (by rw [take_ge (by omega)]; exact hs1)) | (refine h_appA (dr := true) (ei := ti2) (k := r2) (es := Y2) (ys := [[.lit (.int .i64 0)]]) (es' := Z2) 3 (c2 + 1) (j := k) (m := k + 1) ?_ (by omega) (by omega) (by omega) rfl (by simp only [maxLen]; omega) (by simp only [ti2]; omega) (sized_cons rfl sized_nil) (by rw [take_ge (by omega)]; exact hs2)) | refine ks ?_ | refine ko ?_ | refine s_indexD ?_ (hel := (by first | exact idx_map hx2 (by omega) | exact idx_map hy2 (by omega) | exact hx2 | exact hy2 | exact rfl)) | refine s_call (hvc) ?_ | refine s_call (hic) ?_ | refine s_kT ?_ | refine s_kF ?_ | refine f_ret2 def_nil ?_ ?_ | refine t_tmp ?_ | refine t_tmpE ?_)
            (apply s_round ((k + 1, c2 + 1, c2 + 1)); all_goals (try dsimp only); all_goals (try (repeat' (first | exact slots_nil | refine kw ?_ | refine kv ?_ ?_ | exact memIn_nil | omega))))
            all_goals first
              | exact hZ1.symm
              | exact hZ2.symm
              | skip
        · obtain rfl : k = ag.length := by omega
          rw [take_ge (Nat.le_refl _)] at l1 l2 ⊢
          refine s_freezeB 1 2 2 ?_ rfl rfl rfl (by omega) (take_ge (by omega)) rfl
          refine s_freezeB 1 3 3 ?_ rfl rfl rfl (by omega) (take_ge (by omega)) rfl
          have hem := empty_c (stK ag keys b key) (by rw [hst]; simp) (by rw [hst]; simp; omega)
          rw [empty_zero (by rw [hst]; simp)] at hem
          cases hq : (stK ag keys b key).zero with
          | true =>
            rw [show nzS (stK ag keys b key) = false by unfold nzS; rw [hq]; rfl, if_neg (by decide), List.append_nil] at hsn
            rw [hq, hst] at hem
            rw [← hsn]
            repeat' (first | refine ks ?_ | refine ko ?_ | refine s_indexD ?_ (hel := (by first | exact rfl)) | refine s_call (hem) ?_ | refine s_kT ?_ | refine s_kF ?_ | refine f_ret2 def_nil ?_ ?_ | refine t_tmp ?_ | refine t_tmpE ?_)
            (apply s_round ((i + 1, v)); all_goals (try dsimp only); all_goals (try (repeat' (first | exact slots_nil | refine kw ?_ | refine kv ?_ ?_ | exact memIn_nil | omega))))
          | false =>
            rw [show nzS (stK ag keys b key) = true by unfold nzS; rw [hq]; rfl, if_pos rfl] at hsn
            rw [hq] at hem
            rw [hst] at hem hsn
            have hl2 : ∀ s : Sta, (A ++ [s]).length = A.length + 1 := fun s => by simp
            have hm2 : ∀ s : Sta, (A ++ [s]).map Sta.d = A.map Sta.d ++ [s.d] := fun s => by simp
            repeat' (first | refine ks ?_ | refine ko ?_ | refine s_indexD ?_ (hel := (by first | exact rfl)) | refine s_call (hem) ?_ | refine s_kT ?_ | refine s_kF ?_ | refine f_ret2 def_nil ?_ ?_ | refine t_tmp ?_ | refine t_tmpE ?_)
            (apply s_round ((i + 1, _)); all_goals (try dsimp only); all_goals (try (repeat' (first | exact slots_nil | refine w1 ?_ | refine w5 ?_ ?_ | exact memIn_nil | refine memIn_same ?_ | refine m1 ?_ ?_ | refine m2 ?_ ?_ | omega))))
            all_goals rw [hsn]
            all_goals first
              | (rw [hm2]; rfl)
              | (rw [hl2]; rfl)
    · obtain rfl : i = G.length := by omega
      rw [take_ge (Nat.le_refl _)]
      generalize (G.map (stK ag keys b)).filter nzS = A
      refine s_freeze (r := 0) (m := A.length) (es1 := A.map Sta.d) 8 ?_
      repeat' (first | refine ks ?_ | refine ko ?_ | refine s_indexD ?_ (hel := (by first | exact rfl)) | refine s_kT ?_ | refine s_kF ?_ | refine f_ret2 def_nil ?_ ?_ | refine t_tmp ?_ | refine t_tmpE ?_)
      all_goals rfl
  · have he : statesE b keys ag = ([], 1) := if_neg hc
    rw [he]
    by_cases hb : bagValid b = true
    · rw [hb] at hp
      by_cases hk2 : keys.length + ag.length ≤ 8
      · rw [show exactE ag = false by cases h : exactE ag with | false => rfl | true => exact absurd ⟨hb, hk2, h⟩ hc] at hxa
        refine pcallN hT Tryz.func22 Tryz.ntmps22 [.tmp 6, .tmp 7] fun B => ?_
        repeat' (first | refine ks ?_ | refine ko ?_ | refine s_indexD ?_ (hel := (by first | exact rfl)) | refine s_call (hp) ?_ | refine s_call (hxa) ?_ | refine s_kT ?_ | refine s_kF ?_ | refine f_ret2 def_nil ?_ ?_ | refine t_tmp ?_ | refine t_tmpE ?_)
        all_goals rfl
      · refine pcallN hT Tryz.func22 Tryz.ntmps22 [.tmp 6, .tmp 7] fun B => ?_
        repeat' (first | refine ks ?_ | refine ko ?_ | refine s_indexD ?_ (hel := (by first | exact rfl)) | refine s_call (hp) ?_ | refine s_kT ?_ | refine s_kF ?_ | refine f_ret2 def_nil ?_ ?_ | refine t_tmp ?_ | refine t_tmpE ?_)
        all_goals rfl
    · rw [show bagValid b = false by simpa using hb] at hp
      refine pcallN hT Tryz.func22 Tryz.ntmps22 [.tmp 6, .tmp 7] fun B => ?_
      repeat' (first | refine ks ?_ | refine ko ?_ | refine s_indexD ?_ (hel := (by first | exact rfl)) | refine s_call (hp) ?_ | refine s_kT ?_ | refine s_kF ?_ | refine f_ret2 def_nil ?_ ?_ | refine t_tmp ?_ | refine t_tmpE ?_)
      all_goals rfl
end Go.Proofs.YtojfhaoleedmkaaGreat
