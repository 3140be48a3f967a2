/-
  Aggregates: Show of states that are valid and not negative.
-/
import Derived.Test.YtojfhaoleedmkaaGreatAgs
import Derived.Test.YtojfhaoleedmkaaGreatHom
import Derived.Test.YtojfhaoleedmkaaGreatNrm
namespace Go.Proofs.YtojfhaoleedmkaaGreat
open Go.Abs Go.RowKit
attribute [local irreducible] ARun kont MCall PCall HCall resVal SF CF CFs defersOk slotsIn memIn fin finM VLe
set_option linter.unusedSimpArgs false
set_option maxRecDepth 100000
set_option maxHeartbeats 4000000
theorem cloneV_h (l : List Val) (hl : l.length ≤ 100000) : HCall Tryz.prog 73 [.c (.d (rowD l))] [] (.c (.arr 0 1 l.length)) [.arr 1 53 3 (l.map Val.d)] := by
  by_cases hne : l = []
  · subst hne
    refine hcallN hT Tryz.func73 Tryz.ntmps73 [.tmp 2] fun B => ?_
    repeat' (first | ((with_reducible (refine is_retC ?_)); refine s_own 2 53 3 ?_) | refine ks ?_ | refine ko ?_ | refine s_if rfl (fun hb => ?_) (fun hb => ?_) | refine s_eqNil (fun b hnil => ?_) | refine fh_ret1 def_nil ?_ ?_ | exact memIn_nil | refine memIn_same ?_ | exact am_same)
    all_goals first
      | (simp; done)
      | rfl
  · have hpos : 0 < l.length := List.length_pos_iff.2 hne
    refine hcallN hT Tryz.func73 Tryz.ntmps73 [.tmp 2] fun B => ?_
    repeat' (first | refine ks ?_ | refine ko ?_ | refine s_if rfl (fun hb => ?_) (fun hb => ?_) | refine s_eqNil (fun b hnil => ?_) | refine fh_ret1 def_nil ?_ ?_ | exact memIn_nil | refine memIn_same ?_ | exact am_same)
    all_goals first
      | (exfalso; exact hne (by simpa using hnil hb))
      | (simp; done)
      | rfl
def shV (c : Int) (t : Agg × Int × Int) : Val := if t.1.func = 0 then Val.ofInt c else if t.2.2 = 0 then Val.null else Val.ofInt t.2.1
def shRow (ag : List Agg) (s : Sta) : List Val := s.key ++ (tri ag s).map (shV s.count)
def shE (ag : List Agg) (s : Sta) : Entry := ⟨shRow ag s, 1⟩
theorem shown_c (s : Sta) (i : Nat) (x : Agg) (a b : Int) (ha : s.sums[i]? = some a) (hb : s.some[i]? = some b) : PCall Tryz.prog 74 [.agg s.d, .one (.lit (.int .i64 i)), .one (.lit (.int .i64 x.func))] (.v (.agg (shV s.count (x, a, b)).d)) := by
  have n1 := aggNumber_c s.count
  have n2 := aggNumber_c a
  have l1 := lt_of_getElem? ha
  have l2 := lt_of_getElem? hb
  unfold shV
  dsimp only
  by_cases hf : x.func = 0
  · rw [if_pos hf]
    generalize Val.ofInt s.count = u at n1
    refine pcallN hT Tryz.func74 Tryz.ntmps74 [.cell 6 53] fun B => ?_
    repeat' (first | refine ks ?_ | refine ko ?_ | refine s_indexD ?_ (hel := (by first | exact rfl)) | refine s_call (n1) ?_ | refine f_ret1 def_nil ?_ | refine t_cellG ?_ | exact cfs_nil | refine cfs_cons ?_ ?_ | refine cf_d ?_)
    all_goals rfl
  · rw [if_neg hf]
    by_cases hz : b = 0
    · rw [if_pos hz]
      subst hz
      refine pcallN hT Tryz.func74 Tryz.ntmps74 [.cell 6 53] fun B => ?_
      repeat' (first | refine ks ?_ | refine ko ?_ | refine s_indexD ?_ (hel := (by first | exact idx_map hb (by omega) | exact hb | exact rfl)) | refine f_ret1 def_nil ?_ | refine t_cellG ?_ | exact cfs_nil | refine cfs_cons ?_ ?_ | refine cf_d ?_)
      all_goals rfl
    · rw [if_neg hz]
      generalize Val.ofInt a = u at n2
      refine pcallN hT Tryz.func74 Tryz.ntmps74 [.cell 6 53] fun B => ?_
      repeat' (first | refine ks ?_ | refine ko ?_ | refine s_indexD ?_ (hel := (by first | exact idx_map hb (by omega) | exact idx_map ha (by omega) | exact hb | exact ha | exact rfl)) | refine s_call (n2) ?_ | refine f_ret1 def_nil ?_ | refine t_cellG ?_ | exact cfs_nil | refine cfs_cons ?_ ?_ | refine cf_d ?_)
      all_goals rfl
theorem aggShow1_d : DeferOk Tryz.prog 72 0 := by
  refine ⟨⟨_, Tryz.func72, by kernel_rfl, by kernel_rfl⟩, fun vs w hl => ?_⟩
  match vs, hl with
  | [], _ =>
    refine callsD_of_wpS Tryz.func72 rfl fun c₀ cs hu => ?_
    apply wpS_region
    simp [wpOpsS, go_sem, recoverD, hu, Tryz.ntmps72, Exit.thenS]
    cases c₀
    simp_all [bodyPostS, results, Tryz.results72]
theorem show_c (g : List Sta) (ag : List Agg) (hal : ag.length ≤ 8) (hex : exactE ag = true) (hv : stsOk ag g = true) (hk : ∀ s ∈ g, s.key.length + ag.length ≤ 8 ∧ s.sums.length = ag.length ∧ s.some.length = ag.length ∧ 0 < s.count ∧ s.count ≤ 1073741824 ∧ ∀ n ∈ s.some, 0 ≤ n ∧ n ≤ s.count) (hgl : g.length ≤ 4096) : PCall Tryz.prog 35 [.one (stsD g), .one (aggD ag)] (.tup [.one (bagD (normE (g.map (shE ag))).1), .one (.lit (.int .i64 (normE (g.map (shE ag))).2))]) := by
  have h1 := exact_c ag (by omega)
  rw [hex] at h1
  have h2 := aggValid_c g ag (by omega)
  rw [hv] at h2
  have hno := normalizeB_c (g.map (shE ag)) (by rw [List.length_map]; omega)
  generalize normE (g.map (shE ag)) = R at hno
  refine pcallN hT Tryz.func35 Tryz.ntmps35 [.tmp 4, .tmp 5] fun B => ?_
  repeat' (first | refine ks ?_ | refine ko ?_ | refine s_indexD ?_ (hel := (by first | exact rfl)) | refine s_call (h1) ?_ | refine s_call (h2) ?_ | refine s_kF ?_ | refine f_ret2 (by repeat (first | exact def_nil | refine def_cons aggShow1_d ?_)) ?_ ?_ | refine t_tmp ?_)
  refine s_lp (X := Nat) [4, 5, 7, 25, 26, 27, 28, 29, 30, 31, 32, 33, 34, 35, 36] (fun x => x ≤ g.length) (fun x lz => (25, (.c (.d (.lit (.int .i64 x))))) :: lz) (fun x => []) (fun x => g.length - x) (0) ?_ ?_ ?_ ?_
  repeat' (first | exact slots_nil | refine kw ?_ | exact memIn_nil | refine kv ?_ ?_ | omega)
  rintro i c hi
  by_cases hlt : i < g.length
  · have hx : g[i]? = some g[i] := List.getElem?_eq_getElem hlt
    obtain ⟨k1, _⟩ := hk _ (List.getElem_mem hlt)
    generalize g[i] = s at hx k1
    have hx2 : (g.map Sta.d)[i]? = some s.d := by rw [List.getElem?_map, hx]; rfl
    repeat' (first | refine ks ?_ | refine ko ?_ | refine s_indexD ?_ (hel := (by first | exact idx_map hx2 (by omega) | exact hx2 | exact rfl)) | refine s_kF ?_ | refine f_ret2 def_nil ?_ ?_ | refine t_tmp ?_)
    (apply s_round (i + 1); all_goals (try dsimp only); all_goals (try (repeat' (first | exact slots_nil | refine kw ?_ | exact memIn_nil | refine kv ?_ ?_ | omega))))
  · repeat' (first | refine ks ?_ | refine ko ?_ | refine s_indexD ?_ (hel := (by first | exact rfl)) | refine s_kF ?_ | refine f_ret2 def_nil ?_ ?_ | refine t_tmp ?_)
    refine s_own 8 49 2 ?_
    refine s_lp (X := Nat × Nat) [4, 5, 8, 10, 11, 12, 13, 39, 40, 41, 42, 43, 44, 45, 46, 47, 48, 49, 50, 51, 52, 53, 54, 55, 56, 57, 58, 59, 60, 61, 62, 63, 64, 65, 66, 67, 68, 69, 70, 71, 72, 73, 74, 75, 76, 77, 78, 79, 80, 81, 82, 83, 84, 85, 86] (fun x => x.1 ≤ g.length) (fun x lz => (39, (.c (.d (.lit (.int .i64 x.1))))) :: (8, .c (.arr 0 x.2 x.1)) :: lz) (fun x => [.arr x.2 49 2 (((g.take x.1).map (shE ag)).map Entry.d)]) (fun x => g.length - x.1) ((0, c + 1)) ?_ ?_ ?_ ?_
    repeat' (first | exact slots_nil | refine kw ?_ | exact memIn_nil | refine kv ?_ ?_ | omega)
    all_goals try rfl
    rintro ⟨j, v⟩ c0 hj
    dsimp only at hj ⊢
    by_cases hjl : j < g.length
    · have hx : g[j]? = some g[j] := List.getElem?_eq_getElem hjl
      obtain ⟨k1, k2, k3, k4, k5, k6⟩ := hk _ (List.getElem_mem hjl)
      generalize g[j] = s at hx k1 k2 k3 k4 k5 k6
      have hx2 : (g.map Sta.d)[j]? = some s.d := by rw [List.getElem?_map, hx]; rfl
      have hsn : ((g.take j).map (shE ag)).map Entry.d ++ [[rowD (shRow ag s), .lit (.int .i64 1)]] = ((g.take (j + 1)).map (shE ag)).map Entry.d := by
        rw [take_snoc' hx, List.map_append, List.map_append]; rfl
      have hAl : (((g.take j).map (shE ag)).map Entry.d).length = j := by simp; omega
      generalize ((g.take j).map (shE ag)).map Entry.d = A at hsn hAl ⊢
      have hcl := cloneV_h s.key (by omega)
      have htl := tri_len k2 k3
      repeat' (first | refine s_freezeV 10 ?_ | refine ks ?_ | refine ko ?_ | refine s_indexD ?_ (hel := (by first | exact idx_map hx2 (by omega) | exact hx2 | exact rfl)) | refine s_callH [] (hcl) ?_ | refine s_kF ?_ | refine f_ret2 def_nil ?_ ?_ | refine t_tmp ?_)
      refine s_lp (X := Nat × Nat) [4, 5, 11, 12, 13, 51, 52, 53, 54, 55, 56, 57, 58, 59, 60, 61, 62, 63, 64, 65, 66, 67, 68, 69, 70, 71, 72, 73, 74, 75, 76, 77, 78, 79, 80] (fun x => x.1 ≤ ag.length) (fun x lz => (51, (.c (.d (.lit (.int .i64 x.1))))) :: (11, .c (.arr 2 x.2 (s.key.length + x.1))) :: lz) (fun x => [.arr v 49 2 A, .dead, .arr x.2 53 3 ((s.key ++ ((tri ag s).take x.1).map (shV s.count)).map Val.d)]) (fun x => ag.length - x.1) ((0, c0 + 2)) ?_ ?_ ?_ ?_
      repeat' (first | exact slots_nil | refine kw ?_ | exact memIn_nil | refine kv ?_ ?_ | omega)
      all_goals try (simp; done)
      all_goals try rfl
      rintro ⟨k, r⟩ c1 hk1
      dsimp only at hk1 ⊢
      have hrl : ((s.key ++ ((tri ag s).take k).map (shV s.count)).map Val.d).length = s.key.length + k := by simp; omega
      by_cases hkl : k < ag.length
      · have hy : ag[k]? = some ag[k] := List.getElem?_eq_getElem hkl
        have hu1 : s.sums[k]? = some (s.sums[k]'(by omega)) := List.getElem?_eq_getElem _
        have hu2 : s.some[k]? = some (s.some[k]'(by omega)) := List.getElem?_eq_getElem _
        generalize ag[k] = y at hy
        generalize s.sums[k]'(by omega) = a at hu1
        generalize s.some[k]'(by omega) = b at hu2
        have hb := k6 b (List.mem_of_getElem? hu2)
        have hy2 : (ag.map Agg.d)[k]? = some y.d := by rw [List.getElem?_map, hy]; rfl
        have ht := tri_get hy hu1 hu2
        have hsh := shown_c s k y a b hu1 hu2
        have hrs : (s.key ++ ((tri ag s).take k).map (shV s.count)).map Val.d ++ [(shV s.count (y, a, b)).d] = (s.key ++ ((tri ag s).take (k + 1)).map (shV s.count)).map Val.d := by
          rw [take_snoc' ht]; simp
        generalize (s.key ++ ((tri ag s).take k).map (shV s.count)).map Val.d = Z at hrs hrl ⊢
        generalize shV s.count (y, a, b) = F at hsh hrs
        repeat' (first | refine ks ?_ | refine ko ?_ | refine s_indexD ?_ (hel := (by first | exact idx_map hy2 (by omega) | exact idx_map hu2 (by omega) | exact hy2 | exact hu2 | exact rfl)) | refine s_call (hsh) ?_ | refine s_kF ?_ | refine f_ret2 def_nil ?_ ?_ | refine t_tmp ?_)
        (apply s_round ((k + 1, _)); all_goals (try dsimp only); all_goals (try (repeat' (first | exact slots_nil | refine w1 ?_ | exact memIn_nil | refine memIn_same ?_ | refine m1 ?_ ?_ | omega))))
        all_goals first
          | omega
          | (rw [take_ge (by omega)]; exact hrs)
          | skip
      · have hke : k = ag.length := by omega
        rw [hke, take_ge (show (tri ag s).length ≤ ag.length by omega)]
        have hrl2 : ((s.key ++ (tri ag s).map (shV s.count)).map Val.d).length = s.key.length + ag.length := by simp; omega
        have hrl3 : ((shRow ag s).map Val.d).length = s.key.length + ag.length := hrl2
        refine s_freeze (r := 2) (m := s.key.length + ag.length) (es1 := (shRow ag s).map Val.d) 11 ?_ (hl := by omega) (hes := take_ge (by omega))
        repeat' (first | refine ks ?_ | refine ko ?_ | refine s_indexD ?_ (hel := (by first | exact rfl)) | refine s_kF ?_ | refine f_ret2 def_nil ?_ ?_ | refine t_tmp ?_)
        (apply s_round ((j + 1, _)); all_goals (try dsimp only); all_goals (try (repeat' (first | exact slots_nil | refine w1 ?_ | exact memIn_nil | refine memIn_same ?_ | refine m1 ?_ ?_ | omega))))
        all_goals (rw [take_ge (by omega)]; exact hsn)
    · obtain rfl : j = g.length := by omega
      rw [take_ge (Nat.le_refl _)]
      refine s_freeze (r := 0) (m := g.length) (es1 := (g.map (shE ag)).map Entry.d) 8 ?_ (hl := by simp) (hes := take_ge (by simp))
      repeat' (first | refine ks ?_ | refine ko ?_ | refine s_indexD ?_ (hel := (by first | exact rfl)) | refine s_call (hno) ?_ | refine s_kF ?_ | refine f_ret2 (by repeat (first | exact def_nil | refine def_cons aggShow1_d ?_)) ?_ ?_ | refine t_tmp ?_)
      all_goals rfl
end Go.Proofs.YtojfhaoleedmkaaGreat
