/-
  Aggregates: key rows and groups.
-/
import Derived.Test.YtmpgmjlanngkfaaGreatExh
import Derived.Test.YtmpgmjlanngkfaaGreatExc
import Derived.Test.YtmpgmjlanngkfaaGreatExg
import Derived.Test.YtmpgmjlanngkfaaGreatRek
import Derived.Test.YtmpgmjlanngkfaaGreatNorm
import Derived.Test.YtmpgmjlanngkfaaGreatNrm
import Derived.Test.YtmpgmjlanngkfaaGreatAss
import Derived.Test.YtmpgmjlanngkfaaGreatAgp
import Derived.Test.YtmpgmjlanngkfaaGreatDex
import Derived.Test.YtmpgmjlanngkfaaGreatLaid
section
namespace Go.Proofs.YtmpgmjlanngkfaaGreat
open Go.Abs Go.RowKit
attribute [local irreducible] ARun kont MCall PCall HCall resVal SF CF CFs defersOk slotsIn memIn fin finM VLe
set_option linter.unusedSimpArgs false
set_option maxRecDepth 100000
set_option maxHeartbeats 4000000
def truthR (v : Val) : Int := if v.kind ≠ 1 then -1 else if v.int = 0 then 0 else 1
def three14 (a b : Int) : Val := if a = 0 ∨ b = 0 then truthE false else if a < 0 ∨ b < 0 then Val.null else truthE true
def three15 (a b : Int) : Val := if a = 1 ∨ b = 1 then truthE true else if a < 0 ∨ b < 0 then Val.null else truthE false
def numsE (op a b : Int) : Val := if op = 4 then Val.ofInt (a + b) else if op = 5 then Val.ofInt (a - b) else if op = 6 then Val.ofInt (a * b) else quotE a b
def endR (e : List Trm) (pos n : Nat) : Int := match parse [] n (e.drop pos) with
  | none => -1
  | some (_, r) => ((e.length - r.length : Nat) : Int)
def partsD (ss : List (List Trm)) : Dat := .sl (ss.map fun s => [exprD s])
theorem algWhere1_d : DeferOk Tryz.prog 104 0 := by
  refine ⟨⟨_, Tryz.func104, by kernel_rfl, by kernel_rfl⟩, fun vs w hl => ?_⟩
  match vs, hl with
  | [], _ =>
    refine callsD_of_wpS Tryz.func104 rfl fun c₀ cs hu => ?_
    apply wpS_region
    simp [wpOpsS, go_sem, recoverD, hu, Tryz.ntmps104, Exit.thenS]
    cases c₀
    simp_all [bodyPostS, results, Tryz.results104]
def keepE (e : List Trm) (x : Entry) : Bool := decide (e.length = 0) || holdsE e x.row
def whereE (b : List Entry) (e : List Trm) : List Entry := if bagValid b then b.filter (keepE e) else []
theorem filter_snoc {α : Type} {p : α → Bool} {l : List α} {i : Nat} {x : α} (h : l[i]? = some x) : (l.take (i + 1)).filter p = (l.take i).filter p ++ if p x then [x] else [] := by
  rw [List.take_add_one, h, List.filter_append]
  congr 1
  cases hp : p x <;> simp [hp]
theorem where_c (b : List Entry) (e : List Trm) : PCall Tryz.prog 56 [.one (bagD b), .one (exprD e)] (.v (.one (bagD (whereE b e)))) := by
  have hv := bagValid_c b
  cases hb : bagValid b
  · rw [show whereE b e = [] by rw [whereE, hb]; rfl]
    rw [hb] at hv
    refine pcallN hT Tryz.func56 Tryz.ntmps56 [.tmp 4] fun B => ?_
    repeat' (first | refine ks ?_ | refine ko ?_ | refine s_indexD ?_ (hel := (by first | exact rfl)) | refine s_call (hv) ?_ | refine kf ?_ | refine f_ret1 (by repeat (first | exact def_nil | refine def_cons algWhere1_d ?_)) ?_)
    all_goals rfl
  rw [hb] at hv
  obtain ⟨bl, bm⟩ := valid_mem hb
  rw [show whereE b e = b.filter (keepE e) by rw [whereE, hb, if_pos rfl]]
  have hcl : ∀ (i : Nat), ((b.take i).filter (keepE e)).length ≤ 4096 := fun i => by
    have h1 := List.length_filter_le (keepE e) (b.take i)
    have h2 := List.length_take_le i b
    have h3 : (b.take i).length ≤ b.length := by simp; omega
    omega
  refine pcallN hT Tryz.func56 Tryz.ntmps56 [.tmp 4] fun B => ?_
  repeat' (first | refine ks ?_ | refine ko ?_ | refine s_indexD ?_ (hel := (by first | exact rfl)) | refine s_call (hv) ?_ | refine kf ?_ | refine f_ret1 (by repeat (first | exact def_nil | refine def_cons algWhere1_d ?_)) ?_)
  refine s_own 5 56 2 ?_
  refine s_lp (X := Nat × Nat × List Entry) [5, 7, 13, 14, 15, 16, 17, 18, 19, 20, 21, 22, 23, 24, 25, 26, 27, 28, 29, 30, 31, 32, 33, 34, 35] (fun x => x.1 ≤ b.length ∧ x.2.2 = (b.take x.1).filter (keepE e)) (fun x lz => (5, .c (.arr 0 x.2.1 x.2.2.length)) :: (13, (.c (.d (.lit (.int .i64 x.1))))) :: lz) (fun x => [.arr x.2.1 56 2 (x.2.2.map Entry.d)]) (fun x => b.length - x.1) ((0, 1, [])) ?_ ?_ ?_ ?_
  repeat' (first | exact slots_nil | refine kw ?_ | exact memIn_nil | refine kv ?_ ?_ | omega)
  · exact ⟨by simp, rfl⟩
  rintro ⟨i, k, out⟩ c ⟨hi, hout⟩
  dsimp only at hi hout ⊢
  have hol : out.length ≤ 4096 := by rw [hout]; exact hcl i
  by_cases hlt : i < b.length
  · have hx : b[i]? = some b[i] := List.getElem?_eq_getElem hlt
    generalize b[i] = x at hx
    have hxl : x.row.length ≤ 1000000 := by
      have := (bm x (List.mem_of_getElem? hx)).1
      simp only [rowOK, Bool.and_eq_true, decide_eq_true_eq] at this
      omega
    have hsn := filter_snoc (p := keepE e) hx
    rw [← hout] at hsn
    have hcln := clone_c x.row hxl
    have hh := exHolds_c e x.row
    clear hout hv bm hb
    by_cases h0 : e.length = 0
    · rw [show keepE e x = true by rw [keepE, decide_eq_true h0]; rfl, if_pos rfl] at hsn
      repeat' (first | refine ks ?_ | refine ko ?_ | refine s_indexD ?_ (hel := (by first | exact idx_map hx (by omega) | exact hx | exact rfl)) | refine s_call (hcln) ?_ | refine kf ?_ | fail)
      (apply s_round ((i + 1, _, out ++ [x])); all_goals (try dsimp only); all_goals (try (repeat' (first | exact slots_nil | refine w1 ?_ | exact memIn_nil | refine memIn_same ?_ | refine m1 ?_ ?_ | omega))))
      all_goals first | (exact ⟨by omega, hsn.symm⟩) | (simp; done) | (rw [List.map_append]; rfl)
    · cases hk : holdsE e x.row with
      | true =>
        rw [show keepE e x = true by rw [keepE, hk, Bool.or_true], if_pos rfl] at hsn
        rw [hk] at hh
        repeat' (first | refine ks ?_ | refine ko ?_ | refine s_indexD ?_ (hel := (by first | exact idx_map hx (by omega) | exact hx | exact rfl)) | refine s_call (hcln) ?_ | refine s_call (hh) ?_ | refine kf ?_ | fail)
        (apply s_round ((i + 1, _, out ++ [x])); all_goals (try dsimp only); all_goals (try (repeat' (first | exact slots_nil | refine w1 ?_ | exact memIn_nil | refine memIn_same ?_ | refine m1 ?_ ?_ | omega))))
        all_goals first | (exact ⟨by omega, hsn.symm⟩) | (simp; done) | (rw [List.map_append]; rfl)
      | false =>
        rw [show keepE e x = false by rw [keepE, hk, decide_eq_false h0]; rfl] at hsn
        simp only [Bool.false_eq_true, if_false, List.append_nil] at hsn
        rw [hk] at hh
        repeat' (first | refine ks ?_ | refine ko ?_ | refine s_indexD ?_ (hel := (by first | exact idx_map hx (by omega) | exact hx | exact rfl)) | refine s_call (hcln) ?_ | refine s_call (hh) ?_ | refine kf ?_ | fail)
        (apply s_round ((i + 1, _, out)); all_goals (try dsimp only); all_goals (try (repeat' (first | exact slots_nil | refine w1 ?_ | exact memIn_nil | refine memIn_same ?_ | refine m1 ?_ ?_ | omega))))
        all_goals exact ⟨by omega, hsn.symm⟩
  · have hie : i = b.length := by omega
    subst hie
    rw [List.take_length] at hout
    rw [← hout]
    have hf : List.take out.length (out.map Entry.d) = out.map Entry.d := take_ge (by simp)
    repeat' (first | refine s_freeze 5 ?_ (hes := hf) | refine ks ?_ | refine ko ?_ | refine s_indexD ?_ (hel := (by first | exact rfl)) | refine s_kT ?_ | refine s_kF ?_ | refine f_ret1 (by repeat (first | exact def_nil | refine def_cons algWhere1_d ?_)) ?_ | refine t_tmp ?_ | refine t_tmpE ?_)
    all_goals rfl
theorem algMap1_d : DeferOk Tryz.prog 147 0 := by
  refine ⟨⟨_, Tryz.func147, by kernel_rfl, by kernel_rfl⟩, fun vs w hl => ?_⟩
  match vs, hl with
  | [], _ =>
    refine callsD_of_wpS Tryz.func147 rfl fun c₀ cs hu => ?_
    apply wpS_region
    simp [wpOpsS, go_sem, recoverD, hu, Tryz.ntmps147, Exit.thenS]
    cases c₀
    simp_all [bodyPostS, results, Tryz.results147]
def map1 (items : List (List Trm)) (e : Entry) : Entry := ⟨items.map fun t => evE t e.row, e.count⟩
def mapE (b : List Entry) (items : List (List Trm)) : List Entry × Int :=
  if bagValid b && decide (items.length ≤ 8) then normE (b.map (map1 items)) else ([], 1)
theorem map_c (b : List Entry) (items : List (List Trm)) : PCall Tryz.prog 91 [.one (bagD b), .one (partsD items)] (bagI (mapE b items)) := by
  have hv := bagValid_c b
  by_cases hil : 8 < items.length
  · rw [show mapE b items = ([], 1) by rw [mapE, decide_eq_false (by omega), Bool.and_false]; rfl]
    refine pcallN hT Tryz.func91 Tryz.ntmps91 [.tmp 4, .tmp 5] fun B => ?_
    repeat' (first | refine ks ?_ | refine ko ?_ | refine s_indexD ?_ (hel := (by first | exact rfl)) | refine kf ?_ | refine f_ret2 (by repeat (first | exact def_nil | refine def_cons algMap1_d ?_)) ?_ ?_)
    all_goals rfl
  cases hb : bagValid b
  · rw [show mapE b items = ([], 1) by rw [mapE, hb]; rfl]
    rw [hb] at hv
    refine pcallN hT Tryz.func91 Tryz.ntmps91 [.tmp 4, .tmp 5] fun B => ?_
    repeat' (first | refine ks ?_ | refine ko ?_ | refine s_indexD ?_ (hel := (by first | exact rfl)) | refine s_call (hv) ?_ | refine kf ?_ | refine f_ret2 (by repeat (first | exact def_nil | refine def_cons algMap1_d ?_)) ?_ ?_)
    all_goals rfl
  rw [hb] at hv
  obtain ⟨bl, bm⟩ := valid_mem hb
  have hpe : mapE b items = normE (b.map (map1 items)) := by rw [mapE, hb, decide_eq_true (by omega)]; rfl
  rw [hpe]
  have hno := normalizeB_c (b.map (map1 items)) (by simp; omega)
  generalize hN : normE (b.map (map1 items)) = R at hno ⊢
  clear hN hpe
  unfold partsD
  refine pcallN hT Tryz.func91 Tryz.ntmps91 [.tmp 4, .tmp 5] fun B => ?_
  repeat' (first | refine ks ?_ | refine ko ?_ | refine s_indexD ?_ (hel := (by first | exact rfl)) | refine s_call (hv) ?_ | refine kf ?_ | refine f_ret2 (by repeat (first | exact def_nil | refine def_cons algMap1_d ?_)) ?_ ?_)
  refine s_own 6 56 2 ?_
  refine s_lp (X := Nat × Nat) [6, 8, 9, 10, 11, 22, 23, 24, 25, 26, 27, 28, 29, 30, 31, 32, 33, 34, 35, 36, 37, 38, 39, 40, 41, 42, 43, 44, 45, 46, 47, 48, 49, 50, 51] (fun x => x.1 ≤ b.length) (fun x lz => (6, .c (.arr 0 x.2 (b.take x.1).length)) :: (22, (.c (.d (.lit (.int .i64 x.1))))) :: lz) (fun x => [.arr x.2 56 2 (((b.take x.1).map (map1 items)).map Entry.d)]) (fun x => b.length - x.1) ((0, 1)) ?_ ?_ ?_ ?_
  repeat' (first | exact slots_nil | refine kw ?_ | exact memIn_nil | refine kv ?_ ?_ | omega)
  rintro ⟨i, k⟩ c0 hi
  dsimp only at hi ⊢
  by_cases hlt2 : i < b.length
  · have hx : b[i]? = some b[i] := List.getElem?_eq_getElem hlt2
    generalize b[i] = e at hx
    have htk : b.take (i + 1) = b.take i ++ [e] := by rw [List.take_add_one, hx]; rfl
    have htl : (b.take i).length = i := by simp; omega
    repeat' (first | refine ks ?_ | refine ko ?_ | refine s_indexD ?_ (hel := (by first | exact idx_map hx (by omega) | exact hx | exact rfl)) | refine s_storeA ?_ (hj := (by first | exact hx | exact rfl)) | refine kf ?_ | refine kg ?_ ?_ | fail)
    refine s_lp (X := Nat) [10, 11, 31, 32, 33, 34, 35, 36, 37, 38, 39, 40, 41, 42, 43] (fun x => x ≤ items.length) (fun x lz => (31, (.c (.d (.lit (.int .i64 x))))) :: lz) (fun x => [.arr k 56 2 (((b.take i).map (map1 items)).map Entry.d), .box (c0 + 1) [.d (rowD e.row), .d (.lit (.int .i64 e.count))], .arr (c0 + 1 + 1) 73 3 (((items.take x).map fun t => (evE t e.row).d) ++ List.replicate (items.length - x) Val.null.d)]) (fun x => items.length - x) (0) ?_ ?_ ?_ ?_
    repeat' (first | exact slots_nil | refine kw ?_ | exact memIn_nil | refine kv ?_ ?_ | omega)
    rintro j c hj
    by_cases hlt3 : j < items.length
    · have hy : items[j]? = some items[j] := List.getElem?_eq_getElem hlt3
      generalize items[j] = t at hy
      have hy2 : (items.map fun s => [exprD s])[j]? = some [exprD t] := by rw [List.getElem?_map, hy]; rfl
      have htk2 : items.take (j + 1) = items.take j ++ [t] := by rw [List.take_add_one, hy]; rfl
      have hat := exEval_c t e.row
      have hrep : List.replicate (items.length - j) Val.null.d = Val.null.d :: List.replicate (items.length - (j + 1)) Val.null.d := by rw [show items.length - j = (items.length - (j + 1)) + 1 by omega, List.replicate_succ]
      have he : (((items.take j).map fun t => (evE t e.row).d) ++ List.replicate (items.length - j) Val.null.d)[j]? = some Val.null.d := by rw [hrep, List.getElem?_append_right (by simp; omega)]; simp [Nat.min_eq_left hj]
      have hset : (((items.take j).map fun t => (evE t e.row).d) ++ List.replicate (items.length - j) Val.null.d).set j (evE t e.row).d = ((items.take (j + 1)).map fun t => (evE t e.row).d) ++ List.replicate (items.length - (j + 1)) Val.null.d := by
        rw [hrep, List.set_append_right _ _ (by simp; omega), htk2]; simp [Nat.min_eq_left hj]
      repeat' (first | refine ks ?_ | refine ko ?_ | refine s_indexD ?_ (hel := (by first | exact idx_map hx (by omega) | exact idx_map hy2 (by omega) | exact idx_map he (by omega) | exact hx | exact hy2 | exact he | exact rfl)) | refine s_call (hat) ?_ | refine s_storeA ?_ (hj := (by first | exact hx | exact hy2 | exact he | exact rfl)) | refine kf ?_ | refine kg ?_ ?_ | fail)
      (apply s_round (j + 1); all_goals (try dsimp only); all_goals (try (repeat' (first | exact slots_nil | refine kw ?_ | exact memIn_nil | refine kv ?_ ?_ | omega))))
      exact hset
    · have hje : j = items.length := by omega
      subst hje
      have hcf : CFrs 2 (c0 + 1 + 1) (((items.take items.length).map fun t => (evE t e.row).d) ++ List.replicate (items.length - items.length) Val.null.d) [.arr 2 (c0 + 1 + 1) items.length, .d (.lit (.int .i64 e.count))] (map1 items e).d := ⟨.inl ⟨_, rfl, by simp, by rw [List.take_of_length_le (by simp)]; simp [map1, rowD, List.map_map, Function.comp_def]⟩, .inr rfl, trivial⟩
      repeat' (first | refine ks ?_ | refine ko ?_ | refine s_indexD ?_ (hel := (by first | exact idx_map hx (by omega) | exact hx | exact rfl)) | refine s_storeA ?_ (hj := (by first | exact hx | exact rfl)) | refine s_bsliceF 2 ?_ hcf | refine kf ?_ | refine kg ?_ ?_ | fail)
      (apply s_round ((i + 1, _)); all_goals (try dsimp only); all_goals (try (repeat' (first | exact slots_nil | refine w1 ?_ | exact memIn_nil | refine memIn_same ?_ | refine m1 ?_ ?_ | omega))))
      rw [htk]; simp
  · have hie : i = b.length := by omega
    subst hie
    rw [List.take_length]
    repeat' (first | refine s_freeze 6 ?_ (hes := show List.take b.length ((b.map (map1 items)).map Entry.d) = (b.map (map1 items)).map Entry.d from List.take_of_length_le (by simp)) | refine ks ?_ | refine ko ?_ | refine s_indexD ?_ (hel := (by first | exact rfl)) | refine s_call (hno) ?_ | refine s_kT ?_ | refine s_kF ?_ | refine f_ret2 (by repeat (first | exact def_nil | refine def_cons algMap1_d ?_)) ?_ ?_ | refine t_tmp ?_ | refine t_tmpE ?_)
    all_goals rfl
structure Itm where
  name : ByteArray
  expr : List Trm
def Itm.d (x : Itm) : List Dat := [.lit (.string x.name), exprD x.expr]
def itmD (l : List Itm) : Dat := .sl (l.map Itm.d)
def keyE (keys : List Itm) (row : List Val) : List Val := keys.map fun x => evE x.expr row
theorem keyE_clean (keys : List Itm) (row : List Val) : rowClean (keyE keys row) := by
  unfold rowClean keyE
  rw [List.map_map]
  refine List.map_congr_left fun x _ => ?_
  show (evE x.expr row).clean = evE x.expr row
  rw [Val.clean, if_pos (evE_valid ..)]
theorem keyE_len (keys : List Itm) (row : List Val) : (keyE keys row).length = keys.length := by simp [keyE]
def rowX (r : List Val) : Dat := .ex (r.map Val.d)
theorem rowX_le (r : List Val) : DLe (rowX r) (rowD r) := DLe.ex _
theorem keyRow_c (row : List Val) (keys : List Itm) (hk : keys.length ≤ 100000) : PCall Tryz.prog 113 [.one (rowD row), .one (itmD keys)] (.v (.one (rowX (keyE keys row)))) := by
  refine pcallN hT Tryz.func113 Tryz.ntmps113 [.tmp 4] fun B => ?_
  repeat' (first | (refine s_makeC (ei := ti73) (m := keys.length) (z := (keys.length : Int)) (zd := Val.null.d) (fun b => ?_) (by omega) (by omega) (by omega) (by simp only [ti73]; omega) (by exact rfl)) | refine ks ?_ | refine ko ?_ | refine s_indexD ?_ (hel := (by first | exact rfl)) | refine f_ret1 def_nil ?_ | refine t_tmp ?_)
  refine s_lp (X := Nat) [6, 7, 13, 14, 15, 16, 17, 18, 19, 20, 21, 22, 23, 24, 25] (fun x => x ≤ keys.length) (fun x lz => (13, (.c (.d (.lit (.int .i64 x))))) :: lz) (fun x => [.arrc 1 73 3 ((keyE (keys.take x) row).map Val.d ++ List.replicate (keys.length - x) Val.null.d) b keys.length]) (fun x => keys.length - x) (0) ?_ ?_ ?_ ?_
  repeat' (first | exact slots_nil | refine kw ?_ | exact memIn_nil | omega)
  rintro i c hi
  by_cases hlt : i < keys.length
  · have hv : keys[i]? = some keys[i] := List.getElem?_eq_getElem hlt
    generalize keys[i] = it at hv
    have hev := exEval_c it.expr row
    have hl : ((keyE (keys.take i) row).map Val.d).length = i := by simp [keyE]; omega
    have hset : ((keyE (keys.take i) row).map Val.d ++ List.replicate (keys.length - i) Val.null.d).set i (evE it.expr row).d = (keyE (keys.take (i + 1)) row).map Val.d ++ List.replicate (keys.length - (i + 1)) Val.null.d := by
      obtain ⟨k, hk⟩ : ∃ k, keys.length - i = k + 1 := ⟨keys.length - i - 1, by omega⟩
      rw [hk, show keys.length - (i + 1) = k by omega, List.replicate_succ, List.set_append_right _ _ (by omega), hl, Nat.sub_self, List.set_cons_zero]
      unfold keyE
      rw [List.take_add_one, hv]; simp
    have hel : ((keyE (keys.take i) row).map Val.d ++ List.replicate (keys.length - i) Val.null.d)[i]? = some Val.null.d := by
      rw [List.getElem?_append_right (by omega), hl, Nat.sub_self, List.getElem?_replicate, if_pos (by omega)]
    have hAl : ((keyE (keys.take i) row).map Val.d ++ List.replicate (keys.length - i) Val.null.d).length = keys.length := by rw [List.length_append, hl, List.length_replicate]; omega
    generalize (keyE (keys.take i) row).map Val.d ++ List.replicate (keys.length - i) Val.null.d = A at hset hel hAl
    repeat' (first | refine ks ?_ | refine ko ?_ | refine s_indexD ?_ (hel := (by first | exact idx_map hv (by omega) | exact idx_map hel (by omega) | exact hv | exact hel | exact rfl)) | refine s_call (hev) ?_ | refine s_indexC (r := 0) (m := keys.length) (z := (i : Int)) ?_ (by omega) (by omega) (by exact rfl) | refine s_storeC (r := 0) (j := i) (e' := (evE it.expr row).d) (mem' := _ :: _) ?_ (by exact rfl) hel (hes := hset) (hm' := rfl) | refine kf ?_ | fail)
    (apply s_round (i + 1); all_goals (try dsimp only); all_goals (try (repeat' (first | exact slots_nil | refine kw ?_ | exact memIn_nil | omega))))
    all_goals exact memIn_rf
  · have hie : i = keys.length := by omega
    subst hie
    rw [List.take_length, Nat.sub_self, List.replicate_zero, List.append_nil]
    refine s_freezeC (r := 0) (m := keys.length) (es := (keyE keys row).map Val.d) 5 ?_ rfl (by rw [List.length_map, keyE_len]) rfl
    repeat' (first | refine ks ?_ | refine ko ?_ | refine s_indexD ?_ (hel := (by first | exact rfl)) | refine kf ?_ | fail)
    all_goals rfl
abbrev GL := List (List Val × Nat × List Entry)
def gOf (L : GL) : List (List Val × List Entry) := L.map fun g => (g.1, g.2.2)
def grD (g : List Val × List Entry) : List Dat := [rowX g.1, bagD g.2]
def grpsD (l : List (List Val × List Entry)) : Dat := .sl (l.map grD)
def codeV (k : List Val) : Value := .string ⟨(encRow k).toArray⟩
def plE (L : GL) : List (Value × PV) := L.mapIdx fun i g => (codeV g.1, .one (.lit (.int .i64 (i : Nat))))
def axE (L : GL) : List (List Cell) := L.mapIdx fun i g => [.d (rowX g.1), .arr (i + 4) g.2.1 g.2.2.length]
def inG (L : GL) : List Blk := L.map fun g => .arr g.2.1 56 2 (g.2.2.map Entry.d)
theorem codeV_inj {a b : List Val} (ha : rowClean a) (hb : rowClean b) (h : codeV a = codeV b) : a = b := by
  unfold codeV at h
  injection h with h; injection h with h
  have h' : encRow a = encRow b := by simpa using congrArg Array.toList h
  have := encRow_inj h'
  rw [ha, hb] at this; exact this
theorem plE_good (L : GL) : ∀ e ∈ plE L, IsStr e.1 := fun e he => by
  obtain ⟨i, hi⟩ := List.mem_iff_getElem?.1 he
  simp only [plE, List.getElem?_mapIdx, Option.map_eq_some_iff] at hi
  obtain ⟨g, _, rfl⟩ := hi
  exact ⟨_, rfl⟩
theorem plE_get {L : GL} {i : Nat} {g : List Val × Nat × List Entry} (h : L[i]? = some g) : (plE L)[i]? = some (codeV g.1, .one (.lit (.int .i64 (i : Nat)))) := by simp [plE, h]
theorem plE_not {L : GL} {k : List Val} (hk : rowClean k) (hL : ∀ g ∈ L, rowClean g.1) (h : ∀ g ∈ L, g.1 ≠ k) : ∀ e ∈ plE L, e.1 ≠ codeV k := fun e he q => by
  obtain ⟨i, hi⟩ := List.mem_iff_getElem?.1 he
  simp only [plE, List.getElem?_mapIdx, Option.map_eq_some_iff] at hi
  obtain ⟨g, hg, rfl⟩ := hi
  have hm := List.mem_of_getElem? hg
  exact h g hm (codeV_inj (hL g hm) hk q)
theorem plE_snoc (L : GL) (g : List Val × Nat × List Entry) : plE L ++ [(codeV g.1, .one (.lit (.int .i64 (L.length : Nat))))] = plE (L ++ [g]) := by simp [plE, List.mapIdx_append]
theorem plE_set {L : GL} {j v : Nat} {k : List Val} {es es' : List Entry} {v0 : Nat} (h : L[j]? = some (k, v0, es)) : plE (L.set j (k, v, es')) = plE L := by
  refine List.ext_getElem? fun i => ?_
  simp only [plE, List.getElem?_mapIdx, List.getElem?_set]
  split
  · rename_i q; subst q
    have := lt_of_getElem? h
    rw [if_pos this, h]; rfl
  · rfl
theorem axE_get {L : GL} {i : Nat} {g : List Val × Nat × List Entry} (h : L[i]? = some g) : (axE L)[i]? = some [.d (rowX g.1), .arr (i + 4) g.2.1 g.2.2.length] := by simp [axE, h]
theorem axE_len (L : GL) : (axE L).length = L.length := by simp [axE]
theorem axE_set {L : GL} {j v : Nat} {k : List Val} {es es' : List Entry} {v0 : Nat} (h : L[j]? = some (k, v0, es)) : (axE L).set j [.d (rowX k), .arr (j + 4) v es'.length] = axE (L.set j (k, v, es')) := by
  refine List.ext_getElem? fun i => ?_
  simp only [axE, List.getElem?_mapIdx, List.getElem?_set, List.length_mapIdx]
  split
  · rename_i q; subst q
    have := lt_of_getElem? h
    rw [if_pos this, if_pos this]; rfl
  · rfl
theorem axE_snoc (L : GL) (g : List Val × Nat × List Entry) : axE L ++ [[.d (rowX g.1), .arr (L.length + 4) g.2.1 g.2.2.length]] = axE (L ++ [g]) := by simp [axE, List.mapIdx_append]
theorem inG_get {L : GL} {i : Nat} {g : List Val × Nat × List Entry} (h : L[i]? = some g) : (inG L)[i]? = some (.arr g.2.1 56 2 (g.2.2.map Entry.d)) := by simp [inG, h]
theorem inG_len (L : GL) : (inG L).length = L.length := by simp [inG]
theorem inG_set (L : GL) (j : Nat) (g : List Val × Nat × List Entry) : (inG L).set j (.arr g.2.1 56 2 (g.2.2.map Entry.d)) = inG (L.set j g) := by simp [inG, List.map_set]
theorem inG_snoc (L : GL) (g : List Val × Nat × List Entry) : inG L ++ [.arr g.2.1 56 2 (g.2.2.map Entry.d)] = inG (L ++ [g]) := by simp [inG]
theorem gOf_len (L : GL) : (gOf L).length = L.length := by simp [gOf]
theorem gOf_set (L : GL) (j : Nat) (g : List Val × Nat × List Entry) : gOf (L.set j g) = (gOf L).set j (g.1, g.2.2) := by simp [gOf, List.map_set]
theorem gOf_snoc (L : GL) (g : List Val × Nat × List Entry) : gOf (L ++ [g]) = gOf L ++ [(g.1, g.2.2)] := by simp [gOf]
theorem set_last {α : Type} {l : List α} {n : Nat} {a b : α} (h : n = l.length) : (l ++ [a]).set n b = l ++ [b] := by
  subst h; rw [List.set_append_right _ _ (Nat.le_refl _), Nat.sub_self]; rfl
theorem groupCmp_c (g h : List Val × List Entry) : PCall Tryz.prog 116 [.agg (grD g), .agg (grD h)] (.v (.one (.lit (.int .i64 (grpCmp g h))))) := by
  unfold grpCmp
  have h : PCall Tryz.prog 116 [.agg [rowD g.1, bagD g.2], .agg [rowD h.1, bagD h.2]] (.v (.one (.lit (.int .i64 (rowCmp g.1 h.1))))) := by
    refine pcallN hT Tryz.func116 Tryz.ntmps116 [.tmp 4] fun B => ?_
    repeat' (first | refine ks ?_ | refine ko ?_ | refine s_call (compareRows_c _ _) ?_ | refine kf ?_ | fail)
    all_goals rfl
  exact h.args ⟨⟨rowX_le _, .rfl, trivial⟩, ⟨rowX_le _, .rfl, trivial⟩, trivial⟩
theorem groups_c (b : List Entry) (keys : List Itm) (hbl : b.length ≤ 4096) (hkl : keys.length ≤ 10000) : PCall Tryz.prog 64 [.one (bagD b), .one (itmD keys)] (.v (.one (grpsD (grpE b (keyE keys))))) := by
  have hK : CleanK b (keyE keys) := fun e _ => keyE_clean keys e.row
  refine pcallN hT Tryz.func64 Tryz.ntmps64 [.tmp 4] fun B => ?_
  repeat' (first | refine ks ?_ | refine ko ?_ | refine s_indexD ?_ (hel := (by first | exact rfl)) | refine kf ?_ | refine kg ?_ ?_ | fail)
  refine s_ownX 5 98 2 ?_ (by decide)
  refine s_lp (X := Nat × GL × Nat) [5, 8, 9, 10, 11, 12, 16, 17, 18, 19, 20, 21, 22, 23, 24, 25, 26, 27, 28, 29, 30, 31, 32, 33, 34, 35, 36, 37, 38, 39, 40, 41, 42, 43, 44, 45, 46, 47, 48, 49, 50, 51, 52, 53, 54, 55, 56] (fun x => x.1 ≤ b.length ∧ x.2.1.length ≤ x.1 ∧ GI (b.take x.1) (keyE keys) (gOf x.2.1)) (fun x lz => (16, (.c (.d (.lit (.int .i64 x.1))))) :: (5, .c (.arr 1 x.2.2 x.2.1.length)) :: lz) (fun x => .map 1 9 3 (plE x.2.1) (List.range x.2.1.length) x.2.1.length :: .arrx x.2.2 98 2 (axE x.2.1) :: .dead :: .dead :: inG x.2.1) (fun x => b.length - x.1) ((0, [], 2)) ?_ ?_ ?_ ?_
  repeat' (first | exact slots_nil | refine kw ?_ | refine m3 ?_ ?_ ?_ ?_ | omega)
  · exact memIn_d2
  · exact ⟨by simp, by simp, gi_nil _⟩
  rintro ⟨i, L, kx⟩ c ⟨hi, hLi, hG⟩
  dsimp only at hi hLi hG ⊢
  by_cases hlt : i < b.length
  · have hv : b[i]? = some b[i] := List.getElem?_eq_getElem hlt
    generalize b[i] = y at hv
    have hkr := keyRow_c y.row keys (by omega)
    have hen : PCall Tryz.prog 114 [.one (rowX (keyE keys y.row))] _ := (encodeRow_c (keyE keys y.row) (by rw [keyE_len]; omega)).args ⟨rowX_le _, trivial⟩
    have hkc := keyE_clean keys y.row
    have hLc : ∀ g ∈ L, rowClean g.1 := fun g hg => by
      obtain ⟨⟨e, _, hq⟩, _⟩ := hG.mem (g.1, g.2.2) (List.mem_map.2 ⟨g, hg, rfl⟩)
      exact hq ▸ keyE_clean keys e.row
    have hLe : ∀ g ∈ L, g.2.2.length ≤ 4096 := fun g hg => by
      obtain ⟨_, hq⟩ := hG.mem (g.1, g.2.2) (List.mem_map.2 ⟨g, hg, rfl⟩)
      have h1 := List.length_filter_le (atK (keyE keys) g.1) (b.take i)
      have h2 : (b.take i).length ≤ i := by simp; omega
      have hq2 : g.2.2 = (b.take i).filter (atK (keyE keys) g.1) := hq
      rw [hq2]; omega
    by_cases hex : ∃ (j : Nat) (v : Nat) (es : List Entry), L[j]? = some (keyE keys y.row, v, es)
    · obtain ⟨j, v, es, hj⟩ := hex
      have hjl := lt_of_getElem? hj
      have hesl := hLe _ (List.mem_of_getElem? hj)
      dsimp only at hesl
      have hgo := gi_old (i := i) hK hG hv (j := j) (es := es) (by simp [gOf, hj])
      generalize keyE keys y.row = key at hkr hen hkc hj hgo
      have hpl := plE_get hj
      have hax := axE_get hj
      have hin := inG_get hj
      dsimp only at hpl hax hin
      repeat' (first | refine s_allocAt 2 (mem' := _ :: _ :: _ :: _ :: _) ?_ (hm' := rfl) | refine s_storeB (mem' := _ :: _ :: _ :: _ :: _) ?_ (hm' := rfl) | refine ks ?_ | refine ko ?_ | refine s_indexD ?_ (hel := (by first | exact idx_map hv (by omega) | exact hv | exact rfl)) | refine s_call (hkr) ?_ | refine s_call (hen) ?_ | refine s_lookT2 hpl ⟨_, rfl⟩ (plE_good _) ?_ | refine s_indexX (r := 1) (m := L.length) (z := (j : Int)) (es := axE L) ?_ (by omega) (by omega) (by exact rfl) | refine s_fieldX (r := 1) ?_ (by exact rfl) | refine s_loadX1 (r := 1) ?_ (by exact rfl) hax | refine s_appA (mem' := _ :: _ :: _ :: _ :: (inG L).set j _) ?_ (hm := hin) (hm' := rfl) | refine s_storeX1 (r := 1) (o := 1) (mem' := _ :: _ :: _ :: _ :: _) ?_ (by exact rfl) hax (by exact Nat.lt_succ_self 1) rfl (hm' := rfl) | refine f_ret1 def_nil ?_ | refine t_tmpA rfl rfl ?_ ?_)
      have hE := axE_set (v := c + 1 + 1) (es' := es ++ [y]) hj
      have hI := inG_set L j (key, c + 1 + 1, es ++ [y])
      have hP := plE_set (v := c + 1 + 1) (es' := es ++ [y]) hj
      have hgs := gOf_set L j (key, c + 1 + 1, es ++ [y])
      have hlen : L.length = (L.set j (key, c + 1 + 1, es ++ [y])).length := by simp
      rw [List.length_append] at hE
      rw [List.map_append] at hI
      have hE2 : (axE L).set j ([Cell.d (rowX key), Cell.arr (j + 4) v es.length].set 1 (Cell.arr (j + 4) (c + 1 + 1) (es.length + [[rowD y.row, Dat.lit (Value.int .i64 y.count)]].length))) = _ := hE
      have hI2 : (inG L).set j (Blk.arr (c + 1 + 1) 56 2 (es.map Entry.d ++ [[rowD y.row, Dat.lit (Value.int .i64 y.count)]])) = _ := hI
      rw [← hgs] at hgo
      generalize L.set j (key, c + 1 + 1, es ++ [y]) = L2 at hE2 hI2 hP hgo hlen
      rw [hE2, hI2, ← hP, hlen]
      (apply s_round ((i + 1, L2, kx)); all_goals (try dsimp only); all_goals (try (repeat' (first | exact slots_nil | refine kw ?_ | refine m3 ?_ ?_ ?_ ?_ | omega))))
      · exact memIn_rf
      · exact ⟨by omega, by omega, hgo⟩
    · have hn : ∀ g ∈ L, g.1 ≠ keyE keys y.row := fun g hg hq => by
        obtain ⟨q, hq2⟩ := List.mem_iff_getElem?.1 hg
        exact hex ⟨q, g.2.1, g.2.2, by rw [hq2, ← hq]⟩
      have hgo := gi_new (i := i) hK hG hv (fun g hg => by
        obtain ⟨x, hx, rfl⟩ := List.mem_map.1 hg
        exact hn x hx)
      have hpn := plE_not hkc hLc hn
      generalize keyE keys y.row = key at hkr hen hn hgo hpn
      have hax : (axE L ++ [[Cell.d (rowX key), Cell.emp]])[L.length]? = some [Cell.d (rowX key), Cell.emp] := by rw [← axE_len L]; simp
      have haxl : (axE L ++ [[Cell.d (rowX key), Cell.emp]]).length = L.length + 1 := by simp [axE_len]
      repeat' (first | refine s_allocAt 2 (mem' := _ :: _ :: _ :: _ :: _) ?_ (hm' := rfl) | refine s_storeB (mem' := _ :: _ :: _ :: _ :: _) ?_ (hm' := rfl) | refine s_bsliceX 3 (e := 98) (mem' := _ :: _ :: _ :: _ :: _) ?_ (hm' := rfl) | refine ks ?_ | refine ko ?_ | refine s_indexD ?_ (hel := (by first | exact idx_map hv (by omega) | exact hv | exact rfl)) | refine s_call (hkr) ?_ | refine s_call (hen) ?_ | refine s_lookF2 hpn ⟨_, rfl⟩ (plE_good _) ?_ | refine s_lenX (r := 1) ?_ (by exact rfl) | refine s_mapNew (mem' := _ :: _ :: _ :: _ :: _) hpn ⟨_, rfl⟩ (plE_good _) ?_ (hm' := rfl) | (refine s_appX 1 3 (ei := ti98) (cs := [Cell.d (rowX key), Cell.emp]) (m := L.length) (es := axE L) (mem' := _ :: _ :: _ :: _ :: _) ?_ (axE_len L) (by simp only [maxLen]; omega) (by simp only [ti98]; omega) (by exact rfl) (by exact rfl) (by decide) (hm' := rfl)) | refine s_indexX (r := 1) (m := L.length + 1) (z := (L.length : Int)) (es := axE L ++ [[Cell.d (rowX key), Cell.emp]]) ?_ (by omega) (by omega) (by exact rfl) | refine s_fieldX (r := 1) ?_ (by exact rfl) | refine s_loadX1 (r := 1) ?_ (by exact rfl) hax | refine s_appE (r := L.length + 4) (mem' := _ :: _ :: _ :: _ :: (inG L ++ [_])) ?_ (hr := by simp [inG_len]) (hm' := rfl) | refine s_storeX1 (r := 1) (o := 1) (mem' := _ :: _ :: _ :: _ :: _) ?_ (by exact rfl) hax (by exact Nat.lt_succ_self 1) rfl (hm' := rfl) | refine f_ret1 def_nil ?_ | refine t_tmpA rfl rfl ?_ ?_)
      have hE := axE_snoc L (key, c + 1 + 1 + 1 + 1, [y])
      have hI := inG_snoc L (key, c + 1 + 1 + 1 + 1, [y])
      have hP := plE_snoc L (key, c + 1 + 1 + 1 + 1, [y])
      have hgs := gOf_snoc L (key, c + 1 + 1 + 1 + 1, [y])
      have hlen : (L ++ [(key, c + 1 + 1 + 1 + 1, [y])]).length = L.length + 1 := by simp
      have hE2 : (axE L ++ [[Cell.d (rowX key), Cell.emp]]).set L.length ([Cell.d (rowX key), Cell.emp].set 1 (Cell.arr (L.length + 4) (c + 1 + 1 + 1 + 1) 1)) = _ := (set_last (axE_len L).symm).trans hE
      have hI2 : inG L ++ [Blk.arr (c + 1 + 1 + 1 + 1) 56 2 [[rowD y.row, Dat.lit (Value.int .i64 y.count)]]] = _ := hI
      have hP2 : plE L ++ [(codeV key, PV.one (Dat.lit (Value.int .i64 (L.length : Nat))))] = _ := hP
      rw [← hgs] at hgo
      generalize L ++ [(key, c + 1 + 1 + 1 + 1, [y])] = L2 at hE2 hI2 hP2 hgo hlen
      rw [hE2, hI2, hP2, ← List.range_succ]
      (apply s_round ((i + 1, L2, c + 1 + 1 + 1)); all_goals (try dsimp only); all_goals (try (repeat' (first | exact slots_nil | refine kw ?_ | refine m3 ?_ ?_ ?_ ?_ | omega))))
      all_goals first
        | (rw [hlen]; done)
        | (rw [hlen]; rfl)
        | exact memIn_rf
        | exact ⟨by omega, by omega, hgo⟩
        | rfl
  · obtain rfl : i = b.length := by omega
    rw [List.take_length] at hG
    have hs := gi_sort hK hG
    have hS := sortF115_h grD (fun _ => rfl) grpCmp grpCmp_ok.swo 116 (gOf L) (by rw [gOf_len]; omega) (fun g _ h _ => groupCmp_c g h)
    have hgl := (sortF_perm grpCmp_ok.swo (gOf L)).length_eq
    rw [hs] at hS hgl
    rw [gOf_len] at hS hgl
    refine s_thawX 4 1 ((gOf L).map grD) ?_ rfl (by decide) (by simp [axE_len, gOf_len]) (fun e he => by obtain ⟨g, _, rfl⟩ := List.mem_map.1 he; rfl) (fun q j e x hq hj => ?_) rfl
    · repeat' (first | refine ks ?_ | refine ko ?_ | refine s_indexD ?_ (hel := (by first | exact rfl)) | refine s_callH [1] (hS) ?_ | refine kf ?_ | refine kg ?_ ?_ | fail)
      all_goals first
        | (simp; omega)
        | (rw [take_ge (by simp; omega)]; rfl)
        | rfl
    · simp only [axE, List.getElem?_mapIdx, Option.map_eq_some_iff] at hq
      obtain ⟨g, hg, rfl⟩ := hq
      refine ⟨grD (g.1, g.2.2), ?_⟩
      have h1 : ((gOf L).map grD)[q]? = some (grD (g.1, g.2.2)) := by simp [gOf, hg]
      match j, hj with
      | 0, hj =>
        simp only [List.getElem?_cons_zero, Option.some.injEq] at hj
        subst hj
        exact ⟨rowX g.1, h1, rfl, rfl⟩
      | 1, hj =>
        simp only [List.getElem?_cons_succ, List.getElem?_cons_zero, Option.some.injEq] at hj
        subst hj
        exact ⟨bagD g.2.2, h1, rfl, by omega, 56, 2, g.2.2.map Entry.d, inG_get hg, by simp, by rw [List.take_of_length_le (by simp)]; rfl⟩
      | j + 2, hj => simp at hj
end Go.Proofs.YtmpgmjlanngkfaaGreat
end
