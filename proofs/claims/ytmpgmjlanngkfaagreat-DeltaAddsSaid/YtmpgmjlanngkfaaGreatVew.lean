/-
  Views: whether the right source counts, whether a view can be derived, the join of its sources, and the changed bags.
-/
import Derived.Test.YtmpgmjlanngkfaaGreatAgi
import Derived.Test.YtmpgmjlanngkfaaGreatMrg
import Derived.Test.YtmpgmjlanngkfaaGreatRek
import Derived.Test.YtmpgmjlanngkfaaGreatNorm
import Derived.Test.YtmpgmjlanngkfaaGreatAgr
section
namespace Go.Proofs.YtmpgmjlanngkfaaGreat
open Go.Abs Go.RowKit
attribute [local irreducible] ARun kont MCall PCall HCall resVal SF CF CFs defersOk slotsIn memIn fin finM VLe
set_option linter.unusedSimpArgs false
set_option maxRecDepth 100000
set_option maxHeartbeats 4000000
theorem fold_rk (f : Int) (L : List (Val × Int)) (hf : f = 2 ∨ f = 3 ∨ f = 4) : foldE f L = rkE f L := by
  unfold foldE rkE
  rcases hf with rfl | rfl | rfl
  · rw [if_neg (by decide), if_neg (by decide), if_pos rfl]; simp
  · rw [if_neg (by decide), if_neg (by decide), if_neg (by decide), if_pos rfl]; simp
  · rw [if_neg (by decide), if_neg (by decide), if_neg (by decide), if_neg (by decide), if_pos rfl]; simp
theorem fold_c (f : Int) (L : List (Val × Int)) (hb : Bnd L) (hp : PosC L) : PCall Tryz.prog 145 [.one (.lit (.int .i64 f)), .one (cntsD L)] (.v (.agg (foldE f L).d)) := by
  have hl := hb.1
  by_cases h0 : f = 0
  · subst h0
    have hn := aggNumber_c (ttl L)
    have he : foldE 0 L = Val.ofInt (ttl L) := by unfold foldE; rw [if_pos rfl]
    rw [he]
    refine pcallN hT Tryz.func145 Tryz.ntmps145 [.cell 4 73] fun B => ?_
    repeat' (first | refine ks ?_ | refine ko ?_ | refine s_indexD ?_ (hel := (by first | exact rfl)) | refine kf ?_ | exact k0 | refine kg ?_ ?_ | fail)
    refine s_lp (X := Nat × Int) [5, 7, 15, 16, 17, 18, 19, 20, 21, 22, 23] (fun x => x.1 ≤ L.length ∧ x.2 = ttl (L.take x.1)) (fun x lz => (15, (.c (.d (.lit (.int .i64 x.1))))) :: (5, .c (.d (.lit (.int .i64 x.2)))) :: lz) (fun x => [.box 1 (Val.null.d.map .d)]) (fun x => L.length - x.1) ((0, 0)) ?_ ?_ ?_ ?_
    repeat' (first | exact slots_nil | refine kw ?_ | exact memIn_nil | omega)
    · exact ⟨by simp, rfl⟩
    rintro ⟨k, m⟩ c ⟨hk, hm⟩
    dsimp only at hk hm ⊢
    by_cases hkl : k < L.length
    · have hv : L[k]? = some L[k] := List.getElem?_eq_getElem (by omega)
      generalize L[k] = x at hv
      have hv2 : (L.map cnD)[k]? = some (cnD x) := by rw [List.getElem?_map, hv]; rfl
      have e1 := ttl_snoc hv
      have b1 := ttl_bd hb (k + 1)
      rw [← hm] at e1
      repeat' (first | refine ks ?_ | refine ko ?_ | refine s_indexD ?_ (hel := (by first | exact idx_map hv2 (by omega) | exact hv2 | exact rfl)) | refine kf ?_ | exact k0 | refine kg ?_ ?_ | fail)
      (apply s_round ((k + 1, m + x.2)); all_goals (try dsimp only); all_goals (try (repeat' (first | exact slots_nil | refine kw ?_ | exact memIn_nil | omega))))
      all_goals exact ⟨by omega, e1.symm⟩
    · rw [take_ge (show L.length ≤ k by omega)] at hm
      rw [← hm] at hn ⊢
      repeat' (first | refine ks ?_ | refine ko ?_ | refine s_indexD ?_ (hel := (by first | exact rfl)) | refine s_call (hn) ?_ | refine kf ?_ | exact k0 | refine kg ?_ ?_ | fail)
      all_goals rfl
  by_cases h1 : f = 1
  · subst h1
    have hs := aggSum_c L hb
    have hn := aggNumber_c (sumV L)
    by_cases hc : cntV L = 0
    · have he : foldE 1 L = Val.null := by unfold foldE; rw [if_neg (by decide), if_pos rfl, if_pos hc]
      rw [he]
      rw [hc] at hs
      refine pcallN hT Tryz.func145 Tryz.ntmps145 [.cell 4 73] fun B => ?_
      repeat' (first | refine ks ?_ | refine ko ?_ | refine s_indexD ?_ (hel := (by first | exact rfl)) | refine s_call (hs) ?_ | refine kf ?_ | exact k0 | refine kg ?_ ?_ | fail)
      all_goals rfl
    · have he : foldE 1 L = Val.ofInt (sumV L) := by unfold foldE; rw [if_neg (by decide), if_pos rfl, if_neg hc]
      rw [he]
      generalize cntV L = n at hs hc
      refine pcallN hT Tryz.func145 Tryz.ntmps145 [.cell 4 73] fun B => ?_
      repeat' (first | refine ks ?_ | refine ko ?_ | refine s_indexD ?_ (hel := (by first | exact rfl)) | refine s_call (hs) ?_ | refine s_call (hn) ?_ | refine kf ?_ | exact k0 | refine kg ?_ ?_ | fail)
      all_goals rfl
  by_cases h2 : f = 2 ∨ f = 3 ∨ f = 4
  · have hr := ranked_c L hb hp f h2
    rw [fold_rk f L h2]
    rcases h2 with rfl | rfl | rfl
    all_goals
      refine pcallN hT Tryz.func145 Tryz.ntmps145 [.cell 4 73] fun B => ?_
      repeat' (first | refine ks ?_ | refine ko ?_ | refine s_indexD ?_ (hel := (by first | exact rfl)) | refine s_call (hr) ?_ | refine kf ?_ | exact k0 | refine kg ?_ ?_ | fail)
      all_goals rfl
  · have he : foldE f L = Val.null := by unfold foldE; rw [if_neg h0, if_neg h1, if_neg (by omega), if_neg (by omega), if_neg (by omega)]
    rw [he]
    refine pcallN hT Tryz.func145 Tryz.ntmps145 [.cell 4 73] fun B => ?_
    repeat' (first | refine ks ?_ | refine ko ?_ | refine s_indexD ?_ (hel := (by first | exact rfl)) | refine kf ?_ | exact k0 | refine kg ?_ ?_ | fail)
    all_goals first
      | rfl
      | (exfalso; simp at hb; omega)
structure Agg where
  name : ByteArray
  func : Int
  expr : List Trm
def Agg.d (x : Agg) : List Dat := [.lit (.string x.name), .lit (.int .i64 x.func), exprD x.expr]
def aggD (l : List Agg) : Dat := .sl (l.map Agg.d)
def vlE (x : Agg) (e : Entry) : Val × Int := (if x.func = 0 then Val.null else evE x.expr e.row, e.count)
def valsE (x : Agg) (es : List Entry) : List (Val × Int) := es.map (vlE x)
theorem valsE_snoc {ag : Agg} {es : List Entry} {i : Nat} {y : Entry} (h : es[i]? = some y) : (valsE ag (es.take i)).map cnD ++ [cnD (vlE ag y)] = (valsE ag (es.take (i + 1))).map cnD := by
  rw [take_snoc' h]; simp [valsE]
theorem valsE_len (ag : Agg) (es : List Entry) : (valsE ag es).length = es.length := by simp [valsE]
theorem values_c (g : List Val × List Entry) (ag : Agg) (hl : g.2.length ≤ 4096) : PCall Tryz.prog 118 [.agg (grD g), .agg ag.d] (.v (.one (cntsD (valsE ag g.2)))) := by
  obtain ⟨key, es⟩ := g
  dsimp only at hl ⊢
  refine pcallN hT Tryz.func118 Tryz.ntmps118 [.tmp 4] fun B => ?_
  repeat' (first | refine ks ?_ | refine ko ?_ | refine s_indexD ?_ (hel := (by first | exact rfl)) | refine kf ?_ | fail)
  refine s_own 5 186 4 ?_
  refine s_lp (X := Nat × Nat) [5, 7, 8, 12, 13, 14, 15, 16, 17, 18, 19, 20, 21, 22, 23, 24, 25, 26, 27, 28, 29, 30, 31] (fun x => x.1 ≤ es.length) (fun x lz => (12, (.c (.d (.lit (.int .i64 x.1))))) :: (5, .c (.arr 2 x.2 x.1)) :: lz) (fun x => [.box 1 [.d (rowX key), .d (bagD es)], .box 2 (ag.d.map .d), .arr x.2 186 4 ((valsE ag (es.take x.1)).map cnD)]) (fun x => es.length - x.1) ((0, 3)) ?_ ?_ ?_ ?_
  repeat' (first | exact slots_nil | refine kw ?_ | exact memIn_nil | refine kv ?_ ?_ | omega)
  rintro ⟨i, k⟩ c hi
  dsimp only at hi ⊢
  by_cases hlt : i < es.length
  · have hv : es[i]? = some es[i] := List.getElem?_eq_getElem hlt
    generalize es[i] = y at hv
    have hs := valsE_snoc (ag := ag) hv
    have hal : ((valsE ag (es.take i)).map cnD).length = i := by simp [valsE]; omega
    have hv2 : (es.map Entry.d)[i]? = some y.d := by rw [List.getElem?_map, hv]; rfl
    generalize (valsE ag (es.take i)).map cnD = A at hs hal ⊢
    by_cases hf : ag.func = 0
    · have hy : cnD (vlE ag y) = Val.null.d ++ [.lit (.int .i64 y.count)] := by unfold vlE cnD; rw [if_pos hf]; rfl
      rw [hy] at hs
      repeat' (first | refine ks ?_ | refine ko ?_ | refine s_indexD ?_ (hel := (by first | exact idx_map hv2 (by omega) | exact hv2 | exact rfl)) | refine kf ?_ | fail)
      (apply s_round ((i + 1, c + 3)); all_goals (try dsimp only); all_goals (try (repeat' (first | exact slots_nil | refine kw ?_ | exact memIn_nil | refine kv ?_ ?_ | omega))))
      all_goals first
        | omega
        | (rw [take_ge (by omega)]; exact hs)
    · have hev := exEval_c ag.expr y.row
      have hy : cnD (vlE ag y) = (evE ag.expr y.row).d ++ [.lit (.int .i64 y.count)] := by unfold vlE cnD; rw [if_neg hf]; rfl
      rw [hy] at hs
      repeat' (first | refine ks ?_ | refine ko ?_ | refine s_indexD ?_ (hel := (by first | exact idx_map hv2 (by omega) | exact hv2 | exact rfl)) | refine s_call (hev) ?_ | refine kf ?_ | fail)
      (apply s_round ((i + 1, c + 3)); all_goals (try dsimp only); all_goals (try (repeat' (first | exact slots_nil | refine kw ?_ | exact memIn_nil | refine kv ?_ ?_ | omega))))
      all_goals first
        | omega
        | (rw [take_ge (by omega)]; exact hs)
  · obtain rfl : i = es.length := by omega
    rw [take_ge (Nat.le_refl _)]
    refine s_freeze (m := es.length) (r := 2) (es := (valsE ag es).map cnD) 5 ?_ (hl := by rw [List.length_map, valsE_len]; omega) (hes := take_ge (by rw [List.length_map, valsE_len]; omega))
    repeat' (first | refine ks ?_ | refine ko ?_ | refine s_indexD ?_ (hel := (by first | exact rfl)) | refine kf ?_ | fail)
    all_goals rfl
theorem add1_d : DeferOk Tryz.prog 46 0 := by
  refine ⟨⟨_, Tryz.func46, by kernel_rfl, by kernel_rfl⟩, fun vs w hl => ?_⟩
  match vs, hl with
  | [], _ =>
    refine callsD_of_wpS Tryz.func46 rfl fun c₀ cs hu => ?_
    apply wpS_region
    simp [wpOpsS, go_sem, recoverD, hu, Tryz.ntmps46, Exit.thenS]
    cases c₀
    simp_all [bodyPostS, results, Tryz.results46]
theorem subtract1_d : DeferOk Tryz.prog 94 0 := by
  refine ⟨⟨_, Tryz.func94, by kernel_rfl, by kernel_rfl⟩, fun vs w hl => ?_⟩
  match vs, hl with
  | [], _ =>
    refine callsD_of_wpS Tryz.func94 rfl fun c₀ cs hu => ?_
    apply wpS_region
    simp [wpOpsS, go_sem, recoverD, hu, Tryz.ntmps94, Exit.thenS]
    cases c₀
    simp_all [bodyPostS, results, Tryz.results94]
def addE (s : Int) (a b : List Entry) : List Entry × Int := if bagValid a ∧ bagValid b then fitsE (mergeE a (b.map (sc s))) else ([], 1)
theorem add_c (a b : List Entry) : PCall Tryz.prog 19 [.one (bagD a), .one (bagD b)] (.tup [.one (bagD (addE 1 a b).1), .one (.lit (.int .i64 (addE 1 a b).2))]) := by
  have h1 := bagValid_c a
  have h2 := bagValid_c b
  by_cases ha : bagValid a = true
  · by_cases hb : bagValid b = true
    · have hm := merge_c' a b 1 (.inl rfl) ha hb
      have he : addE 1 a b = fitsE (mergeE a (b.map (sc 1))) := if_pos ⟨ha, hb⟩
      rw [he]
      generalize fitsE (mergeE a (b.map (sc 1))) = R at hm
      obtain ⟨r, er⟩ := R
      dsimp only at hm ⊢
      rw [ha] at h1
      rw [hb] at h2
      refine pcallN hT Tryz.func19 Tryz.ntmps19 [.tmp 4, .tmp 5] fun B => ?_
      repeat' (first | refine ks ?_ | refine ko ?_ | refine s_call (h1) ?_ | refine s_call (h2) ?_ | refine s_call (hm) ?_ | refine f_ret2 (by repeat (first | exact def_nil | refine def_cons add1_d ?_)) ?_ ?_ | refine kf ?_ | fail)
      all_goals rfl
    · have he : addE 1 a b = ([], 1) := if_neg (fun q => hb q.2)
      rw [he]
      rw [ha] at h1
      rw [show bagValid b = false by simpa using hb] at h2
      refine pcallN hT Tryz.func19 Tryz.ntmps19 [.tmp 4, .tmp 5] fun B => ?_
      repeat' (first | refine ks ?_ | refine ko ?_ | refine s_call (h1) ?_ | refine s_call (h2) ?_ | refine f_ret2 (by repeat (first | exact def_nil | refine def_cons add1_d ?_)) ?_ ?_ | refine kf ?_ | fail)
      all_goals rfl
  · have he : addE 1 a b = ([], 1) := if_neg (fun q => ha q.1)
    rw [he]
    rw [show bagValid a = false by simpa using ha] at h1
    refine pcallN hT Tryz.func19 Tryz.ntmps19 [.tmp 4, .tmp 5] fun B => ?_
    repeat' (first | refine ks ?_ | refine ko ?_ | refine s_call (h1) ?_ | refine s_call (h2) ?_ | refine f_ret2 (by repeat (first | exact def_nil | refine def_cons add1_d ?_)) ?_ ?_ | refine kf ?_ | fail)
    all_goals rfl
theorem subtract_c (a b : List Entry) : PCall Tryz.prog 45 [.one (bagD a), .one (bagD b)] (.tup [.one (bagD (addE (-1) a b).1), .one (.lit (.int .i64 (addE (-1) a b).2))]) := by
  have h1 := bagValid_c a
  have h2 := bagValid_c b
  by_cases ha : bagValid a = true
  · by_cases hb : bagValid b = true
    · have hm := merge_c' a b (-1) (.inr rfl) ha hb
      have he : addE (-1) a b = fitsE (mergeE a (b.map (sc (-1)))) := if_pos ⟨ha, hb⟩
      rw [he]
      generalize fitsE (mergeE a (b.map (sc (-1)))) = R at hm
      obtain ⟨r, er⟩ := R
      dsimp only at hm ⊢
      rw [ha] at h1
      rw [hb] at h2
      refine pcallN hT Tryz.func45 Tryz.ntmps45 [.tmp 4, .tmp 5] fun B => ?_
      repeat' (first | refine ks ?_ | refine ko ?_ | refine s_call (h1) ?_ | refine s_call (h2) ?_ | refine s_call (hm) ?_ | refine f_ret2 (by repeat (first | exact def_nil | refine def_cons subtract1_d ?_)) ?_ ?_ | refine kf ?_ | fail)
      all_goals rfl
    · have he : addE (-1) a b = ([], 1) := if_neg (fun q => hb q.2)
      rw [he]
      rw [ha] at h1
      rw [show bagValid b = false by simpa using hb] at h2
      refine pcallN hT Tryz.func45 Tryz.ntmps45 [.tmp 4, .tmp 5] fun B => ?_
      repeat' (first | refine ks ?_ | refine ko ?_ | refine s_call (h1) ?_ | refine s_call (h2) ?_ | refine f_ret2 (by repeat (first | exact def_nil | refine def_cons subtract1_d ?_)) ?_ ?_ | refine kf ?_ | fail)
      all_goals rfl
  · have he : addE (-1) a b = ([], 1) := if_neg (fun q => ha q.1)
    rw [he]
    rw [show bagValid a = false by simpa using ha] at h1
    refine pcallN hT Tryz.func45 Tryz.ntmps45 [.tmp 4, .tmp 5] fun B => ?_
    repeat' (first | refine ks ?_ | refine ko ?_ | refine s_call (h1) ?_ | refine s_call (h2) ?_ | refine f_ret2 (by repeat (first | exact def_nil | refine def_cons subtract1_d ?_)) ?_ ?_ | refine kf ?_ | fail)
    all_goals rfl
theorem sumK_sc (s : Int) (l : List Entry) (r : List Val) : sumK (l.map (sc s)) r = s * sumK l r := by
  induction l with
  | nil => simp [sumK]
  | cons e l ih =>
    simp only [List.map_cons, sumK, ih, Int.mul_add]
    congr 1
    show (if rowCmp e.row r = 0 then s * e.count else 0) = _
    split <;> simp
theorem sc_sorted {s : Int} (hs : s = 1 ∨ s = -1) {l : List Entry} (h : Sorted l) : Sorted (l.map (sc s)) := by
  refine ⟨?_, fun e he => ?_, fun e he => ?_⟩
  · rw [List.pairwise_map]; exact h.up
  · obtain ⟨x, hx, rfl⟩ := List.mem_map.1 he
    have := h.nz x hx
    show s * x.count ≠ 0
    rcases hs with rfl | rfl <;> omega
  · obtain ⟨x, hx, rfl⟩ := List.mem_map.1 he
    exact h.cl x hx
theorem sc_within {s : Int} (hs : s = 1 ∨ s = -1) {M : Int} {l : List Entry} (h : within M l) : within M (l.map (sc s)) := fun e he => by
  obtain ⟨x, hx, rfl⟩ := List.mem_map.1 he
  have := h x hx
  show -M ≤ s * x.count ∧ s * x.count ≤ M
  rcases hs with rfl | rfl <;> omega
theorem addE_small {s : Int} (hs : s = 1 ∨ s = -1) {a b : List Entry} {M N : Int} (ha : bagValid a = true) (hb : bagValid b = true) (wa : within M a) (wb : within N b) (hM : 0 ≤ M) (hN : 0 ≤ N) (hMN : M + N ≤ 262144) (hl : a.length + b.length ≤ 4096) :
    (addE s a b).2 = 0 ∧ bagValid (addE s a b).1 = true ∧ within (M + N) (addE s a b).1 ∧ (addE s a b).1.length ≤ a.length + b.length ∧ ∀ r, sumK (addE s a b).1 r = sumK a r + s * sumK b r := by
  have he : addE s a b = fitsE (mergeE a (b.map (sc s))) := if_pos ⟨ha, hb⟩
  have hsa := sorted_of_valid ha
  have hsb := sc_sorted hs (sorted_of_valid hb)
  have hw := mergeE_within hM hN a (b.map (sc s)) wa (sc_within hs wb)
  have hlen := mergeE_len a (b.map (sc s))
  rw [List.length_map] at hlen
  have hso := mergeE_sorted _ _ hsa hsb
  have hfit : fitsE (mergeE a (b.map (sc s))) = (mergeE a (b.map (sc s)), 0) := by
    rw [fitsE, if_neg (by omega), if_pos]
    refine List.all_eq_true.2 fun e he => ?_
    have := hw e he
    simp only [countOK, Bool.and_eq_true, decide_eq_true_eq]
    omega
  rw [he, hfit]
  refine ⟨rfl, ?_, hw, hlen, fun r => by rw [sumK_mergeE, sumK_sc]⟩
  simp only [bagValid, Bool.and_eq_true, decide_eq_true_eq]
  refine ⟨by omega, good_of (fun e hm => ?_) hso.up (by simp)⟩
  obtain ⟨x, hx, hr⟩ := mem_mergeE _ _ e hm
  have hrow : rowOK e.row = true := by
    rw [← hr]
    rcases hx with hx | hx
    · exact ((valid_mem ha).2 x hx).1
    · obtain ⟨y, hy, rfl⟩ := List.mem_map.1 hx
      exact ((valid_mem hb).2 y hy).1
  have hcw := hw e hm
  simp only [Entry.ok, countOK, Bool.and_eq_true, decide_eq_true_eq]
  exact ⟨⟨hrow, by omega, by omega⟩, hso.nz e hm⟩
def positiveE (l : List Entry) : Bool := bagValid l && l.all (fun e => decide (0 ≤ e.count))
theorem positive_c (l : List Entry) : PCall Tryz.prog 87 [.one (bagD l)] (.v (.one (.lit (.bool (positiveE l))))) := by
  have hvc := bagValid_c l
  cases hb : bagValid l with
  | false =>
    rw [hb] at hvc
    have he : positiveE l = false := by simp [positiveE, hb]
    rw [he]
    refine pcallN hT Tryz.func87 Tryz.ntmps87 [.tmp 2] fun B => ?_
    repeat' (first | refine ks ?_ | refine ko ?_ | refine s_indexD ?_ (hel := (by first | exact rfl)) | refine s_call (hvc) ?_ | refine kf ?_ | fail)
    all_goals rfl
  | true =>
    rw [hb] at hvc
    have he : positiveE l = l.all (fun e => decide (0 ≤ e.count)) := by simp [positiveE, hb]
    obtain ⟨hl, hm⟩ := valid_mem hb
    rw [he]
    refine pcallN hT Tryz.func87 Tryz.ntmps87 [.tmp 2] fun B => ?_
    repeat' (first | refine ks ?_ | refine ko ?_ | refine s_indexD ?_ (hel := (by first | exact rfl)) | refine s_call (hvc) ?_ | refine kf ?_ | fail)
    refine s_lp (X := Nat) [2, 4, 10, 11, 12, 13, 14, 15, 16, 17] (fun x => x ≤ l.length ∧ (l.take x).all (fun e => decide (0 ≤ e.count)) = true) (fun x lz => (10, (.c (.d (.lit (.int .i64 x))))) :: lz) (fun x => []) (fun x => l.length - x) (0) ?_ ?_ ?_ ?_
    repeat' (first | exact slots_nil | refine kw ?_ | exact memIn_nil | omega)
    · exact ⟨by simp, by simp⟩
    rintro i c ⟨hi, hinv⟩
    by_cases hlt : i < l.length
    · have hv : l[i]? = some l[i] := List.getElem?_eq_getElem hlt
      generalize l[i] = e at hv
      by_cases hr : e.count < 0
      · rw [not_all (fun e : Entry => decide (0 ≤ e.count)) hv (by simpa using hr)]
        repeat' (first | refine ks ?_ | refine ko ?_ | refine s_indexD ?_ (hel := (by first | exact idx_map hv (by omega) | exact hv | exact rfl)) | refine kf ?_ | fail)
        all_goals rfl
      · repeat' (first | refine ks ?_ | refine ko ?_ | refine s_indexD ?_ (hel := (by first | exact idx_map hv (by omega) | exact hv | exact rfl)) | refine kf ?_ | fail)
        (apply s_round (i + 1); all_goals (try dsimp only); all_goals (try (repeat' (first | exact slots_nil | refine kw ?_ | exact memIn_nil | omega))))
        exact ⟨by omega, take_all (fun e : Entry => decide (0 ≤ e.count)) hv hinv (by simp; omega)⟩
    · rw [take_ge (by omega)] at hinv
      rw [hinv]
      repeat' (first | refine ks ?_ | refine ko ?_ | refine s_indexD ?_ (hel := (by first | exact rfl)) | refine kf ?_ | fail)
      all_goals rfl
structure Vw where
  name : ByteArray
  kind : Int
  left : ByteArray
  right : ByteArray
  on : List (Int × Int)
  wher : List Trm
  items : List Itm
  distinct : Bool
  aggs : List Agg
def Vw.d (v : Vw) : List Dat := [.lit (.string v.name), .lit (.int .i64 v.kind), .lit (.string v.left), .lit (.string v.right), onD v.on, exprD v.wher, itmD v.items, .lit (.bool v.distinct), aggD v.aggs]
def emptyR (v : Vw) : Bool := v.right.toList == (⟨#[]⟩ : ByteArray).toList
def usesR (v : Vw) : Bool := !emptyR v || decide (v.kind = 2)
def knownV (v : Vw) : Bool := decide (v.kind = 0) || decide (v.kind = 1) || decide (v.kind = 2)
def derivE (v : Vw) (l r : List Entry) : Bool := knownV v && (positiveE l && (!usesR v || positiveE r))
def fitE (b c : List Entry) : List Entry × Int := if (addE 1 b c).2 = 0 ∧ positiveE (addE 1 b c).1 = true then ((addE 1 b c).1, 0) else ([], 1)
def chgE (v : Vw) (l r dl dr : List Entry) : List Entry × List Entry × Int :=
  if (fitE l dl).2 = 0 ∧ usesR v = true then ((fitE l dl).1, (fitE r dr).1, (fitE r dr).2) else ((fitE l dl).1, [], (fitE l dl).2)
def srcE (J : List Entry → List Entry → List (Int × Int) → List Entry × Int) (v : Vw) (l r : List Entry) : List Entry × Int :=
  if emptyR v = true then (l, 0) else J l r v.on
theorem emptyR_t {v : Vw} (h : emptyR v = true) : (v.right.toList == (⟨#[]⟩ : ByteArray).toList) = true := h
theorem emptyR_f {v : Vw} (h : emptyR v = false) : (v.right.toList == (⟨#[]⟩ : ByteArray).toList) = false := h
theorem usesRight_c (v : Vw) : PCall Tryz.prog 88 [.agg v.d] (.v (.one (.lit (.bool (usesR v))))) := by
  cases hr : emptyR v
  · rw [show usesR v = true by simp [usesR, hr]]
    have h1 := emptyR_f hr
    have h2 : (!(v.right.toList == (⟨#[]⟩ : ByteArray).toList)) = true := by rw [h1]; rfl
    refine pcallN hT Tryz.func88 Tryz.ntmps88 [.tmp 2] fun B => ?_
    repeat' (first | refine ks ?_ | refine ko ?_ | refine kf ?_ | fail)
    all_goals rfl
  · rw [show usesR v = decide (v.kind = 2) by simp [usesR, hr]]
    have h1 := emptyR_t hr
    have h2 : (!(v.right.toList == (⟨#[]⟩ : ByteArray).toList)) = false := by rw [h1]; rfl
    refine pcallN hT Tryz.func88 Tryz.ntmps88 [.tmp 2] fun B => ?_
    repeat' (first | refine ks ?_ | refine ko ?_ | refine kf ?_ | fail)
    all_goals rfl
theorem derivable_c (v : Vw) (l r : List Entry) : PCall Tryz.prog 40 [.agg v.d, .one (bagD l), .one (bagD r)] (.v (.one (.lit (.bool (derivE v l r))))) := by
  have hu := usesRight_c v
  have hl := positive_c l
  have hq := positive_c r
  unfold derivE
  by_cases hk : knownV v = true
  · rw [hk, Bool.true_and]
    have hk3 : v.kind = 0 ∨ v.kind = 1 ∨ v.kind = 2 := by simpa [knownV, or_assoc] using hk
    generalize usesR v = u at hu ⊢
    generalize positiveE l = pl at hl ⊢
    generalize positiveE r = pr at hq ⊢
    obtain h0 | h0 | h0 := hk3
    all_goals
      cases pl <;> cases u <;> cases pr
    all_goals
      (refine pcallN hT Tryz.func40 Tryz.ntmps40 [.tmp 6] fun B => ?_
       repeat' (first | refine ks ?_ | refine ko ?_ | refine s_call (hl) ?_ | refine s_call (hu) ?_ | refine s_call (hq) ?_ | refine kf ?_ | fail))
    all_goals rfl
  · have hk3 : ¬ (v.kind = 0) ∧ ¬ (v.kind = 1) ∧ ¬ (v.kind = 2) := by simpa [knownV, not_or, and_assoc] using hk
    rw [show knownV v = false by simpa using hk, Bool.false_and]
    obtain ⟨h0, h1, h2⟩ := hk3
    refine pcallN hT Tryz.func40 Tryz.ntmps40 [.tmp 6] fun B => ?_
    repeat' (first | refine ks ?_ | refine ko ?_ | refine kf ?_ | fail)
    all_goals rfl
theorem fitted_c (b c : List Entry) : PCall Tryz.prog 149 [.one (bagD b), .one (bagD c)] (bagI (fitE b c)) := by
  have ha := add_c b c
  have hp := positive_c (addE 1 b c).1
  unfold fitE
  generalize addE 1 b c = s at ha hp ⊢
  obtain ⟨s, e⟩ := s
  dsimp only at ha hp ⊢
  by_cases he : e = 0
  · subst he
    cases h : positiveE s
    · rw [h] at hp
      rw [if_neg (by simp)]
      refine pcallN hT Tryz.func149 Tryz.ntmps149 [.tmp 4, .tmp 5] fun B => ?_
      repeat' (first | refine ks ?_ | refine ko ?_ | refine s_call (ha) ?_ | refine s_call (hp) ?_ | refine kf ?_ | refine kg ?_ ?_ | fail)
      all_goals rfl
    · rw [h] at hp
      rw [if_pos ⟨rfl, rfl⟩]
      refine pcallN hT Tryz.func149 Tryz.ntmps149 [.tmp 4, .tmp 5] fun B => ?_
      repeat' (first | refine ks ?_ | refine ko ?_ | refine s_call (ha) ?_ | refine s_call (hp) ?_ | refine kf ?_ | refine kg ?_ ?_ | fail)
      all_goals rfl
  · rw [if_neg fun h => he h.1]
    refine pcallN hT Tryz.func149 Tryz.ntmps149 [.tmp 4, .tmp 5] fun B => ?_
    repeat' (first | refine ks ?_ | refine ko ?_ | refine s_call (ha) ?_ | refine s_call (hp) ?_ | refine kf ?_ | refine kg ?_ ?_ | fail)
    all_goals rfl
theorem changedSources_c (v : Vw) (l r dl dr : List Entry) : PCall Tryz.prog 93 [.agg v.d, .one (bagD l), .one (bagD r), .one (bagD dl), .one (bagD dr)] (.tup [.one (bagD (chgE v l r dl dr).1), .one (bagD (chgE v l r dl dr).2.1), .one (.lit (.int .i64 (chgE v l r dl dr).2.2))]) := by
  have hl := fitted_c l dl
  have hr := fitted_c r dr
  have hu := usesRight_c v
  unfold chgE
  generalize fitE l dl = x at hl ⊢
  generalize fitE r dr = y at hr ⊢
  obtain ⟨x, e⟩ := x
  dsimp only [bagI] at hl hr ⊢
  by_cases he : e = 0
  · subst he
    cases h : usesR v
    · rw [h] at hu
      rw [if_neg (by simp)]
      refine pcallN hT Tryz.func93 Tryz.ntmps93 [.tmp 10, .tmp 11, .tmp 12] fun B => ?_
      repeat' (first | refine ks ?_ | refine ko ?_ | refine s_call (hl) ?_ | refine s_call (hu) ?_ | refine s_call (hr) ?_ | refine kf ?_ | refine f_ret3 def_nil ?_ ?_ ?_)
      all_goals rfl
    · rw [h] at hu
      rw [if_pos ⟨rfl, rfl⟩]
      refine pcallN hT Tryz.func93 Tryz.ntmps93 [.tmp 10, .tmp 11, .tmp 12] fun B => ?_
      repeat' (first | refine ks ?_ | refine ko ?_ | refine s_call (hl) ?_ | refine s_call (hu) ?_ | refine s_call (hr) ?_ | refine kf ?_ | refine f_ret3 def_nil ?_ ?_ ?_)
      all_goals rfl
  · rw [if_neg fun h => he h.1]
    refine pcallN hT Tryz.func93 Tryz.ntmps93 [.tmp 10, .tmp 11, .tmp 12] fun B => ?_
    repeat' (first | refine ks ?_ | refine ko ?_ | refine s_call (hl) ?_ | refine s_call (hu) ?_ | refine s_call (hr) ?_ | refine kf ?_ | refine f_ret3 def_nil ?_ ?_ ?_)
    all_goals rfl
theorem joinSources_c (J : List Entry → List Entry → List (Int × Int) → List Entry × Int) (v : Vw) (l r : List Entry) (hj : emptyR v = false → PCall Tryz.prog 89 [.one (bagD l), .one (bagD r), .one (onD v.on)] (bagI (J l r v.on))) : PCall Tryz.prog 41 [.agg v.d, .one (bagD l), .one (bagD r)] (bagI (srcE J v l r)) := by
  unfold srcE
  cases h : emptyR v
  · have h1 := emptyR_f h
    have hj := hj h
    rw [if_neg (by simp)]
    generalize J l r v.on = x at hj ⊢
    dsimp only [bagI] at hj ⊢
    refine pcallN hT Tryz.func41 Tryz.ntmps41 [.tmp 6, .tmp 7] fun B => ?_
    repeat' (first | refine ks ?_ | refine ko ?_ | refine s_call (hj) ?_ | refine kg ?_ ?_ | refine kf ?_ | fail)
    all_goals rfl
  · have h1 := emptyR_t h
    rw [if_pos rfl]
    refine pcallN hT Tryz.func41 Tryz.ntmps41 [.tmp 6, .tmp 7] fun B => ?_
    repeat' (first | refine ks ?_ | refine ko ?_ | refine kg ?_ ?_ | refine kf ?_ | fail)
    all_goals rfl
end Go.Proofs.YtmpgmjlanngkfaaGreat
end
