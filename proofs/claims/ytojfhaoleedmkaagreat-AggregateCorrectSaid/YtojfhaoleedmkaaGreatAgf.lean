/-
  Aggregates: the values of functions.
-/
import Derived.Test.YtojfhaoleedmkaaGreatAgp
import Derived.Test.YtojfhaoleedmkaaGreatDex
import Derived.Test.YtojfhaoleedmkaaGreatMpd
import Derived.Test.YtojfhaoleedmkaaGreatExg
import Derived.Test.YtojfhaoleedmkaaGreatExm
import Derived.Test.YtojfhaoleedmkaaGreatLaid
section
namespace Go.Proofs.YtojfhaoleedmkaaGreat
open Go.Abs Go.RowKit
attribute [local irreducible] ARun kont MCall PCall HCall resVal SF CF CFs defersOk slotsIn memIn fin finM VLe
set_option linter.unusedSimpArgs false
set_option maxRecDepth 100000
set_option maxHeartbeats 4000000
structure Itm where
  name : ByteArray
  expr : List Trm
def Itm.d (x : Itm) : List Dat := [.lit (.string x.name), exprD x.expr]
def itmD (l : List Itm) : Dat := .sl (l.map Itm.d)
def keyE (keys : List Itm) (row : List Val) : List Val := keys.map fun x => evE x.expr row
theorem keyE_clean (keys : List Itm) (row : List Val) : rowClean (keyE keys row) := by
  unfold rowClean keyE
  rw [List.map_map]
  refine List.map_congr_left fun x _ => ?_
  show (evE x.expr row).clean = evE x.expr row
  rw [Val.clean, if_pos (evE_valid ..)]
theorem keyE_len (keys : List Itm) (row : List Val) : (keyE keys row).length = keys.length := by simp [keyE]
def rowX (r : List Val) : Dat := .ex (r.map Val.d)
theorem rowX_le (r : List Val) : DLe (rowX r) (rowD r) := DLe.ex _
theorem keyRow_c (row : List Val) (keys : List Itm) (hk : keys.length ≤ 100000) : PCall Tryz.prog 92 [.one (rowD row), .one (itmD keys)] (.v (.one (rowX (keyE keys row)))) := by
  refine pcallN hT Tryz.func92 Tryz.ntmps92 [.tmp 4] fun B => ?_
  repeat' (first | (refine s_makeC (ei := ti53) (m := keys.length) (z := (keys.length : Int)) (zd := Val.null.d) (fun b => ?_) (by omega) (by omega) (by omega) (by simp only [ti53]; omega) (by exact rfl)) | refine ks ?_ | refine ko ?_ | refine s_indexD ?_ (hel := (by first | exact rfl)) | refine f_ret1 def_nil ?_ | refine t_tmp ?_)
  refine s_lp (X := Nat) [6, 7, 13, 14, 15, 16, 17, 18, 19, 20, 21, 22, 23, 24, 25] (fun x => x ≤ keys.length) (fun x lz => (13, (.c (.d (.lit (.int .i64 x))))) :: lz) (fun x => [.arrc 1 53 3 ((keyE (keys.take x) row).map Val.d ++ List.replicate (keys.length - x) Val.null.d) b keys.length]) (fun x => keys.length - x) (0) ?_ ?_ ?_ ?_
  repeat' (first | exact slots_nil | refine kw ?_ | exact memIn_nil | omega)
  rintro i c hi
  by_cases hlt : i < keys.length
  · have hv : keys[i]? = some keys[i] := List.getElem?_eq_getElem hlt
    generalize keys[i] = it at hv
    have hev := exEval_c it.expr row
    have hl : ((keyE (keys.take i) row).map Val.d).length = i := by simp [keyE]; omega
    have hset : ((keyE (keys.take i) row).map Val.d ++ List.replicate (keys.length - i) Val.null.d).set i (evE it.expr row).d = (keyE (keys.take (i + 1)) row).map Val.d ++ List.replicate (keys.length - (i + 1)) Val.null.d := by
      obtain ⟨k, hk⟩ : ∃ k, keys.length - i = k + 1 := ⟨keys.length - i - 1, by omega⟩
      rw [hk, show keys.length - (i + 1) = k by omega, List.replicate_succ, List.set_append_right _ _ (by omega), hl, Nat.sub_self, List.set_cons_zero]
      unfold keyE
      rw [List.take_add_one, hv]; simp
    have hel : ((keyE (keys.take i) row).map Val.d ++ List.replicate (keys.length - i) Val.null.d)[i]? = some Val.null.d := by
      rw [List.getElem?_append_right (by omega), hl, Nat.sub_self, List.getElem?_replicate, if_pos (by omega)]
    have hAl : ((keyE (keys.take i) row).map Val.d ++ List.replicate (keys.length - i) Val.null.d).length = keys.length := by rw [List.length_append, hl, List.length_replicate]; omega
    generalize (keyE (keys.take i) row).map Val.d ++ List.replicate (keys.length - i) Val.null.d = A at hset hel hAl
    repeat' (first | refine ks ?_ | refine ko ?_ | refine s_indexD ?_ (hel := (by first | exact idx_map hv (by omega) | exact idx_map hel (by omega) | exact hv | exact hel | exact rfl)) | refine s_call (hev) ?_ | refine s_indexC (r := 0) (m := keys.length) (z := (i : Int)) ?_ (by omega) (by omega) (by exact rfl) | refine s_storeC (r := 0) (j := i) (e' := (evE it.expr row).d) (mem' := _ :: _) ?_ (by exact rfl) hel (hes := hset) (hm' := rfl) | refine f_ret1 def_nil ?_ | refine t_tmp ?_)
    (apply s_round (i + 1); all_goals (try dsimp only); all_goals (try (repeat' (first | exact slots_nil | refine kw ?_ | exact memIn_nil | omega))))
    all_goals exact memIn_rf
  · have hie : i = keys.length := by omega
    subst hie
    rw [List.take_length, Nat.sub_self, List.replicate_zero, List.append_nil]
    refine s_freezeC (r := 0) (m := keys.length) (es := (keyE keys row).map Val.d) 5 ?_ rfl (by rw [List.length_map, keyE_len]) rfl
    repeat' (first | refine ks ?_ | refine ko ?_ | refine s_indexD ?_ (hel := (by first | exact rfl)) | refine f_ret1 def_nil ?_ | refine t_tmp ?_)
    all_goals rfl
abbrev GL := List (List Val × Nat × List Entry)
def gOf (L : GL) : List (List Val × List Entry) := L.map fun g => (g.1, g.2.2)
def grD (g : List Val × List Entry) : List Dat := [rowX g.1, bagD g.2]
def grpsD (l : List (List Val × List Entry)) : Dat := .sl (l.map grD)
def codeV (k : List Val) : Value := .string ⟨(encRow k).toArray⟩
def plE (L : GL) : List (Value × PV) := L.mapIdx fun i g => (codeV g.1, .one (.lit (.int .i64 (i : Nat))))
def axE (L : GL) : List (List Cell) := L.mapIdx fun i g => [.d (rowX g.1), .arr (i + 4) g.2.1 g.2.2.length]
def inG (L : GL) : List Blk := L.map fun g => .arr g.2.1 49 2 (g.2.2.map Entry.d)
theorem codeV_inj {a b : List Val} (ha : rowClean a) (hb : rowClean b) (h : codeV a = codeV b) : a = b := by
  unfold codeV at h
  injection h with h; injection h with h
  have h' : encRow a = encRow b := by simpa using congrArg Array.toList h
  have := encRow_inj h'
  rw [ha, hb] at this; exact this
theorem plE_good (L : GL) : ∀ e ∈ plE L, IsStr e.1 := fun e he => by
  obtain ⟨i, hi⟩ := List.mem_iff_getElem?.1 he
  simp only [plE, List.getElem?_mapIdx, Option.map_eq_some_iff] at hi
  obtain ⟨g, _, rfl⟩ := hi
  exact ⟨_, rfl⟩
theorem plE_get {L : GL} {i : Nat} {g : List Val × Nat × List Entry} (h : L[i]? = some g) : (plE L)[i]? = some (codeV g.1, .one (.lit (.int .i64 (i : Nat)))) := by simp [plE, h]
theorem plE_not {L : GL} {k : List Val} (hk : rowClean k) (hL : ∀ g ∈ L, rowClean g.1) (h : ∀ g ∈ L, g.1 ≠ k) : ∀ e ∈ plE L, e.1 ≠ codeV k := fun e he q => by
  obtain ⟨i, hi⟩ := List.mem_iff_getElem?.1 he
  simp only [plE, List.getElem?_mapIdx, Option.map_eq_some_iff] at hi
  obtain ⟨g, hg, rfl⟩ := hi
  have hm := List.mem_of_getElem? hg
  exact h g hm (codeV_inj (hL g hm) hk q)
theorem plE_snoc (L : GL) (g : List Val × Nat × List Entry) : plE L ++ [(codeV g.1, .one (.lit (.int .i64 (L.length : Nat))))] = plE (L ++ [g]) := by simp [plE, List.mapIdx_append]
theorem plE_set {L : GL} {j v : Nat} {k : List Val} {es es' : List Entry} {v0 : Nat} (h : L[j]? = some (k, v0, es)) : plE (L.set j (k, v, es')) = plE L := by
  refine List.ext_getElem? fun i => ?_
  simp only [plE, List.getElem?_mapIdx, List.getElem?_set]
  split
  · rename_i q; subst q
    have := lt_of_getElem? h
    rw [if_pos this, h]; rfl
  · rfl
theorem axE_get {L : GL} {i : Nat} {g : List Val × Nat × List Entry} (h : L[i]? = some g) : (axE L)[i]? = some [.d (rowX g.1), .arr (i + 4) g.2.1 g.2.2.length] := by simp [axE, h]
theorem axE_len (L : GL) : (axE L).length = L.length := by simp [axE]
theorem axE_set {L : GL} {j v : Nat} {k : List Val} {es es' : List Entry} {v0 : Nat} (h : L[j]? = some (k, v0, es)) : (axE L).set j [.d (rowX k), .arr (j + 4) v es'.length] = axE (L.set j (k, v, es')) := by
  refine List.ext_getElem? fun i => ?_
  simp only [axE, List.getElem?_mapIdx, List.getElem?_set, List.length_mapIdx]
  split
  · rename_i q; subst q
    have := lt_of_getElem? h
    rw [if_pos this, if_pos this]; rfl
  · rfl
theorem axE_snoc (L : GL) (g : List Val × Nat × List Entry) : axE L ++ [[.d (rowX g.1), .arr (L.length + 4) g.2.1 g.2.2.length]] = axE (L ++ [g]) := by simp [axE, List.mapIdx_append]
theorem inG_get {L : GL} {i : Nat} {g : List Val × Nat × List Entry} (h : L[i]? = some g) : (inG L)[i]? = some (.arr g.2.1 49 2 (g.2.2.map Entry.d)) := by simp [inG, h]
theorem inG_len (L : GL) : (inG L).length = L.length := by simp [inG]
theorem inG_set (L : GL) (j : Nat) (g : List Val × Nat × List Entry) : (inG L).set j (.arr g.2.1 49 2 (g.2.2.map Entry.d)) = inG (L.set j g) := by simp [inG, List.map_set]
theorem inG_snoc (L : GL) (g : List Val × Nat × List Entry) : inG L ++ [.arr g.2.1 49 2 (g.2.2.map Entry.d)] = inG (L ++ [g]) := by simp [inG]
theorem gOf_len (L : GL) : (gOf L).length = L.length := by simp [gOf]
theorem gOf_set (L : GL) (j : Nat) (g : List Val × Nat × List Entry) : gOf (L.set j g) = (gOf L).set j (g.1, g.2.2) := by simp [gOf, List.map_set]
theorem gOf_snoc (L : GL) (g : List Val × Nat × List Entry) : gOf (L ++ [g]) = gOf L ++ [(g.1, g.2.2)] := by simp [gOf]
theorem set_last {α : Type} {l : List α} {n : Nat} {a b : α} (h : n = l.length) : (l ++ [a]).set n b = l ++ [b] := by
  subst h; rw [List.set_append_right _ _ (Nat.le_refl _), Nat.sub_self]; rfl
theorem groupCmp_c (g h : List Val × List Entry) : PCall Tryz.prog 95 [.agg (grD g), .agg (grD h)] (.v (.one (.lit (.int .i64 (grpCmp g h))))) := by
  unfold grpCmp
  have h : PCall Tryz.prog 95 [.agg [rowD g.1, bagD g.2], .agg [rowD h.1, bagD h.2]] (.v (.one (.lit (.int .i64 (rowCmp g.1 h.1))))) := by
    refine pcallN hT Tryz.func95 Tryz.ntmps95 [.tmp 4] fun B => ?_
    repeat' (first | refine ks ?_ | refine ko ?_ | refine s_call (compareRows_c _ _) ?_ | refine f_ret1 def_nil ?_ | refine t_tmp ?_)
    all_goals rfl
  exact h.args ⟨⟨rowX_le _, .rfl, trivial⟩, ⟨rowX_le _, .rfl, trivial⟩, trivial⟩
theorem groups_c (b : List Entry) (keys : List Itm) (hbl : b.length ≤ 4096) (hkl : keys.length ≤ 10000) : PCall Tryz.prog 48 [.one (bagD b), .one (itmD keys)] (.v (.one (grpsD (grpE b (keyE keys))))) := by
  have hK : CleanK b (keyE keys) := fun e _ => keyE_clean keys e.row
  refine pcallN hT Tryz.func48 Tryz.ntmps48 [.tmp 4] fun B => ?_
  repeat' (first | refine ks ?_ | refine ko ?_ | refine s_indexD ?_ (hel := (by first | exact rfl)) | refine f_ret1 def_nil ?_ | refine t_tmpA rfl rfl ?_ ?_)
  refine s_ownX 5 78 2 ?_ (by decide)
  refine s_lp (X := Nat × GL × Nat) [5, 8, 9, 10, 11, 12, 16, 17, 18, 19, 20, 21, 22, 23, 24, 25, 26, 27, 28, 29, 30, 31, 32, 33, 34, 35, 36, 37, 38, 39, 40, 41, 42, 43, 44, 45, 46, 47, 48, 49, 50, 51, 52, 53, 54, 55, 56] (fun x => x.1 ≤ b.length ∧ x.2.1.length ≤ x.1 ∧ GI (b.take x.1) (keyE keys) (gOf x.2.1)) (fun x lz => (16, (.c (.d (.lit (.int .i64 x.1))))) :: (5, .c (.arr 1 x.2.2 x.2.1.length)) :: lz) (fun x => .map 1 9 3 (plE x.2.1) (List.range x.2.1.length) x.2.1.length :: .arrx x.2.2 78 2 (axE x.2.1) :: .dead :: .dead :: inG x.2.1) (fun x => b.length - x.1) ((0, [], 2)) ?_ ?_ ?_ ?_
  repeat' (first | exact slots_nil | refine kw ?_ | refine m3 ?_ ?_ ?_ ?_ | omega)
  · exact memIn_d2
  · exact ⟨by simp, by simp, gi_nil _⟩
  rintro ⟨i, L, kx⟩ c ⟨hi, hLi, hG⟩
  dsimp only at hi hLi hG ⊢
  by_cases hlt : i < b.length
  · have hv : b[i]? = some b[i] := List.getElem?_eq_getElem hlt
    generalize b[i] = y at hv
    have hkr := keyRow_c y.row keys (by omega)
    have hen : PCall Tryz.prog 93 [.one (rowX (keyE keys y.row))] _ := (encodeRow_c (keyE keys y.row) (by rw [keyE_len]; omega)).args ⟨rowX_le _, trivial⟩
    have hkc := keyE_clean keys y.row
    have hLc : ∀ g ∈ L, rowClean g.1 := fun g hg => by
      obtain ⟨⟨e, _, hq⟩, _⟩ := hG.mem (g.1, g.2.2) (List.mem_map.2 ⟨g, hg, rfl⟩)
      exact hq ▸ keyE_clean keys e.row
    have hLe : ∀ g ∈ L, g.2.2.length ≤ 4096 := fun g hg => by
      obtain ⟨_, hq⟩ := hG.mem (g.1, g.2.2) (List.mem_map.2 ⟨g, hg, rfl⟩)
      have h1 := List.length_filter_le (atK (keyE keys) g.1) (b.take i)
      have h2 : (b.take i).length ≤ i := by simp; omega
      have hq2 : g.2.2 = (b.take i).filter (atK (keyE keys) g.1) := hq
      rw [hq2]; omega
    by_cases hex : ∃ (j : Nat) (v : Nat) (es : List Entry), L[j]? = some (keyE keys y.row, v, es)
    · obtain ⟨j, v, es, hj⟩ := hex
      have hjl := lt_of_getElem? hj
      have hesl := hLe _ (List.mem_of_getElem? hj)
      dsimp only at hesl
      have hgo := gi_old (i := i) hK hG hv (j := j) (es := es) (by simp [gOf, hj])
      generalize keyE keys y.row = key at hkr hen hkc hj hgo
      have hpl := plE_get hj
      have hax := axE_get hj
      have hin := inG_get hj
      dsimp only at hpl hax hin
      repeat' (first | refine s_allocAt 2 (mem' := _ :: _ :: _ :: _ :: _) ?_ (hm' := rfl) | refine s_storeB (mem' := _ :: _ :: _ :: _ :: _) ?_ (hm' := rfl) | refine ks ?_ | refine ko ?_ | refine s_indexD ?_ (hel := (by first | exact idx_map hv (by omega) | exact hv | exact rfl)) | refine s_call (hkr) ?_ | refine s_call (hen) ?_ | refine s_lookT2 hpl ⟨_, rfl⟩ (plE_good _) ?_ | refine s_indexX (r := 1) (m := L.length) (z := (j : Int)) (es := axE L) ?_ (by omega) (by omega) (by exact rfl) | refine s_fieldX (r := 1) ?_ (by exact rfl) | refine s_loadX1 (r := 1) ?_ (by exact rfl) hax | refine s_appA (mem' := _ :: _ :: _ :: _ :: (inG L).set j _) ?_ (hm := hin) (hm' := rfl) | refine s_storeX1 (r := 1) (o := 1) (mem' := _ :: _ :: _ :: _ :: _) ?_ (by exact rfl) hax (by exact Nat.lt_succ_self 1) rfl (hm' := rfl) | refine f_ret1 def_nil ?_ | refine t_tmpA rfl rfl ?_ ?_)
      have hE := axE_set (v := c + 1 + 1) (es' := es ++ [y]) hj
      have hI := inG_set L j (key, c + 1 + 1, es ++ [y])
      have hP := plE_set (v := c + 1 + 1) (es' := es ++ [y]) hj
      have hgs := gOf_set L j (key, c + 1 + 1, es ++ [y])
      have hlen : L.length = (L.set j (key, c + 1 + 1, es ++ [y])).length := by simp
      rw [List.length_append] at hE
      rw [List.map_append] at hI
      have hE2 : (axE L).set j ([Cell.d (rowX key), Cell.arr (j + 4) v es.length].set 1 (Cell.arr (j + 4) (c + 1 + 1) (es.length + [[rowD y.row, Dat.lit (Value.int .i64 y.count)]].length))) = _ := hE
      have hI2 : (inG L).set j (Blk.arr (c + 1 + 1) 49 2 (es.map Entry.d ++ [[rowD y.row, Dat.lit (Value.int .i64 y.count)]])) = _ := hI
      rw [← hgs] at hgo
      generalize L.set j (key, c + 1 + 1, es ++ [y]) = L2 at hE2 hI2 hP hgo hlen
      rw [hE2, hI2, ← hP, hlen]
      (apply s_round ((i + 1, L2, kx)); all_goals (try dsimp only); all_goals (try (repeat' (first | exact slots_nil | refine kw ?_ | refine m3 ?_ ?_ ?_ ?_ | omega))))
      · exact memIn_rf
      · exact ⟨by omega, by omega, hgo⟩
    · have hn : ∀ g ∈ L, g.1 ≠ keyE keys y.row := fun g hg hq => by
        obtain ⟨q, hq2⟩ := List.mem_iff_getElem?.1 hg
        exact hex ⟨q, g.2.1, g.2.2, by rw [hq2, ← hq]⟩
      have hgo := gi_new (i := i) hK hG hv (fun g hg => by
        obtain ⟨x, hx, rfl⟩ := List.mem_map.1 hg
        exact hn x hx)
      have hpn := plE_not hkc hLc hn
      generalize keyE keys y.row = key at hkr hen hn hgo hpn
      have hax : (axE L ++ [[Cell.d (rowX key), Cell.emp]])[L.length]? = some [Cell.d (rowX key), Cell.emp] := by rw [← axE_len L]; simp
      have haxl : (axE L ++ [[Cell.d (rowX key), Cell.emp]]).length = L.length + 1 := by simp [axE_len]
      repeat' (first | refine s_allocAt 2 (mem' := _ :: _ :: _ :: _ :: _) ?_ (hm' := rfl) | refine s_storeB (mem' := _ :: _ :: _ :: _ :: _) ?_ (hm' := rfl) | refine s_bsliceX 3 (e := 78) (mem' := _ :: _ :: _ :: _ :: _) ?_ (hm' := rfl) | refine ks ?_ | refine ko ?_ | refine s_indexD ?_ (hel := (by first | exact idx_map hv (by omega) | exact hv | exact rfl)) | refine s_call (hkr) ?_ | refine s_call (hen) ?_ | refine s_lookF2 hpn ⟨_, rfl⟩ (plE_good _) ?_ | refine s_lenX (r := 1) ?_ (by exact rfl) | refine s_mapNew (mem' := _ :: _ :: _ :: _ :: _) hpn ⟨_, rfl⟩ (plE_good _) ?_ (hm' := rfl) | (refine s_appX 1 3 (ei := ti78) (cs := [Cell.d (rowX key), Cell.emp]) (m := L.length) (es := axE L) (mem' := _ :: _ :: _ :: _ :: _) ?_ (axE_len L) (by simp only [maxLen]; omega) (by simp only [ti78]; omega) (by exact rfl) (by exact rfl) (by decide) (hm' := rfl)) | refine s_indexX (r := 1) (m := L.length + 1) (z := (L.length : Int)) (es := axE L ++ [[Cell.d (rowX key), Cell.emp]]) ?_ (by omega) (by omega) (by exact rfl) | refine s_fieldX (r := 1) ?_ (by exact rfl) | refine s_loadX1 (r := 1) ?_ (by exact rfl) hax | refine s_appE (r := L.length + 4) (mem' := _ :: _ :: _ :: _ :: (inG L ++ [_])) ?_ (hr := by simp [inG_len]) (hm' := rfl) | refine s_storeX1 (r := 1) (o := 1) (mem' := _ :: _ :: _ :: _ :: _) ?_ (by exact rfl) hax (by exact Nat.lt_succ_self 1) rfl (hm' := rfl) | refine f_ret1 def_nil ?_ | refine t_tmpA rfl rfl ?_ ?_)
      have hE := axE_snoc L (key, c + 1 + 1 + 1 + 1, [y])
      have hI := inG_snoc L (key, c + 1 + 1 + 1 + 1, [y])
      have hP := plE_snoc L (key, c + 1 + 1 + 1 + 1, [y])
      have hgs := gOf_snoc L (key, c + 1 + 1 + 1 + 1, [y])
      have hlen : (L ++ [(key, c + 1 + 1 + 1 + 1, [y])]).length = L.length + 1 := by simp
      have hE2 : (axE L ++ [[Cell.d (rowX key), Cell.emp]]).set L.length ([Cell.d (rowX key), Cell.emp].set 1 (Cell.arr (L.length + 4) (c + 1 + 1 + 1 + 1) 1)) = _ := (set_last (axE_len L).symm).trans hE
      have hI2 : inG L ++ [Blk.arr (c + 1 + 1 + 1 + 1) 49 2 [[rowD y.row, Dat.lit (Value.int .i64 y.count)]]] = _ := hI
      have hP2 : plE L ++ [(codeV key, PV.one (Dat.lit (Value.int .i64 (L.length : Nat))))] = _ := hP
      rw [← hgs] at hgo
      generalize L ++ [(key, c + 1 + 1 + 1 + 1, [y])] = L2 at hE2 hI2 hP2 hgo hlen
      rw [hE2, hI2, hP2, ← List.range_succ]
      (apply s_round ((i + 1, L2, c + 1 + 1 + 1)); all_goals (try dsimp only); all_goals (try (repeat' (first | exact slots_nil | refine kw ?_ | refine m3 ?_ ?_ ?_ ?_ | omega))))
      all_goals first
        | (rw [hlen]; done)
        | (rw [hlen]; rfl)
        | exact memIn_rf
        | exact ⟨by omega, by omega, hgo⟩
        | rfl
  · obtain rfl : i = b.length := by omega
    rw [List.take_length] at hG
    have hs := gi_sort hK hG
    have hS := sortF94_h grD (fun _ => rfl) grpCmp grpCmp_ok.swo 95 (gOf L) (by rw [gOf_len]; omega) (fun g _ h _ => groupCmp_c g h)
    have hgl := (sortF_perm grpCmp_ok.swo (gOf L)).length_eq
    rw [hs] at hS hgl
    rw [gOf_len] at hS hgl
    refine s_thawX 4 1 ((gOf L).map grD) ?_ rfl (by decide) (by simp [axE_len, gOf_len]) (fun e he => by obtain ⟨g, _, rfl⟩ := List.mem_map.1 he; rfl) (fun q j e x hq hj => ?_) rfl
    · repeat' (first | refine ks ?_ | refine ko ?_ | refine s_indexD ?_ (hel := (by first | exact rfl)) | refine s_callH [1] (hS) ?_ | refine f_ret1 def_nil ?_ | refine t_tmpA rfl rfl ?_ ?_)
      all_goals first
        | (simp; omega)
        | (rw [take_ge (by simp; omega)]; rfl)
        | rfl
    · simp only [axE, List.getElem?_mapIdx, Option.map_eq_some_iff] at hq
      obtain ⟨g, hg, rfl⟩ := hq
      refine ⟨grD (g.1, g.2.2), ?_⟩
      have h1 : ((gOf L).map grD)[q]? = some (grD (g.1, g.2.2)) := by simp [gOf, hg]
      match j, hj with
      | 0, hj =>
        simp only [List.getElem?_cons_zero, Option.some.injEq] at hj
        subst hj
        exact ⟨rowX g.1, h1, rfl, rfl⟩
      | 1, hj =>
        simp only [List.getElem?_cons_succ, List.getElem?_cons_zero, Option.some.injEq] at hj
        subst hj
        exact ⟨bagD g.2.2, h1, rfl, by omega, 49, 2, g.2.2.map Entry.d, inG_get hg, by simp, by rw [List.take_of_length_le (by simp)]; rfl⟩
      | j + 2, hj => simp at hj
end Go.Proofs.YtojfhaoleedmkaaGreat
end
section
namespace Go.Proofs.YtojfhaoleedmkaaGreat
open Go.Abs Go.RowKit
attribute [local irreducible] ARun kont MCall PCall HCall resVal SF CF CFs defersOk slotsIn memIn fin finM VLe
set_option linter.unusedSimpArgs false
set_option maxRecDepth 100000
set_option maxHeartbeats 4000000
def cnD (x : Val × Int) : List Dat := [.lit (.int .i64 x.1.kind), .lit (.int .i64 x.1.int), .lit (.string x.1.text), .lit (.int .i64 x.2)]
def cntsD (L : List (Val × Int)) : Dat := .sl (L.map cnD)
def Bnd (L : List (Val × Int)) : Prop := L.length ≤ 4096 ∧ ∀ x ∈ L, (-4294967296 ≤ x.1.int ∧ x.1.int ≤ 4294967296) ∧ -262144 ≤ x.2 ∧ x.2 ≤ 262144
theorem prod_bd {a b : Int} (ha : -4294967296 ≤ a ∧ a ≤ 4294967296) (hb : -262144 ≤ b ∧ b ≤ 262144) : -1125899906842624 ≤ a * b ∧ a * b ≤ 1125899906842624 := by
  have h1 : (a * b).natAbs ≤ 4294967296 * 262144 := by
    rw [Int.natAbs_mul]
    exact Nat.mul_le_mul (by omega) (by omega)
  omega
theorem sum_bd {α : Type} {f : α → Int} {M : Int} : ∀ {l : List α}, (∀ x ∈ l, -M ≤ f x ∧ f x ≤ M) → -(M * l.length) ≤ (l.map f).sum ∧ (l.map f).sum ≤ M * l.length
  | [], _ => by simp
  | x :: l, h => by
    have h1 := h x (by simp)
    have h2 := sum_bd (l := l) fun y hy => h y (by simp [hy])
    simp only [List.map_cons, List.sum_cons, List.length_cons, Int.natCast_add, Int.mul_add, Int.mul_one, Int.natCast_one]
    omega
theorem ttl_bd {L : List (Val × Int)} (h : Bnd L) (i : Nat) : -1073741824 ≤ ttl (L.take i) ∧ ttl (L.take i) ≤ 1073741824 := by
  have h1 := sum_bd (f := Prod.snd) (M := 262144) (l := L.take i) fun x hx => (by have := h.2 x (List.mem_of_mem_take hx); omega)
  have h2 : (L.take i).length ≤ 4096 := by have := h.1; simp; omega
  unfold ttl; omega
theorem sumV_bd {L : List (Val × Int)} (h : Bnd L) (i : Nat) : -4611686018427387904 ≤ sumV (L.take i) ∧ sumV (L.take i) ≤ 4611686018427387904 := by
  have h1 := sum_bd (f := fun x : Val × Int => if x.1.kind = 1 then x.1.int * x.2 else 0) (M := 1125899906842624) (l := L.take i) fun x hx => (by
    have := h.2 x (List.mem_of_mem_take hx)
    have := prod_bd this.1 this.2
    split <;> omega)
  have h2 : (L.take i).length ≤ 4096 := by have := h.1; simp; omega
  unfold sumV; omega
theorem cntV_bd {L : List (Val × Int)} (h : Bnd L) (i : Nat) : -1073741824 ≤ cntV (L.take i) ∧ cntV (L.take i) ≤ 1073741824 := by
  have h1 := sum_bd (f := fun x : Val × Int => if x.1.kind = 1 then x.2 else 0) (M := 262144) (l := L.take i) fun x hx => (by
    have := h.2 x (List.mem_of_mem_take hx)
    split <;> omega)
  have h2 : (L.take i).length ≤ 4096 := by have := h.1; simp; omega
  unfold cntV; omega
theorem ttl_snoc {L : List (Val × Int)} {i : Nat} {x : Val × Int} (h : L[i]? = some x) : ttl (L.take (i + 1)) = ttl (L.take i) + x.2 := by rw [take_snoc' h]; simp [ttl]
theorem sumV_snoc {L : List (Val × Int)} {i : Nat} {x : Val × Int} (h : L[i]? = some x) : sumV (L.take (i + 1)) = sumV (L.take i) + if x.1.kind = 1 then x.1.int * x.2 else 0 := by rw [take_snoc' h]; simp [sumV]
theorem cntV_snoc {L : List (Val × Int)} {i : Nat} {x : Val × Int} (h : L[i]? = some x) : cntV (L.take (i + 1)) = cntV (L.take i) + if x.1.kind = 1 then x.2 else 0 := by rw [take_snoc' h]; simp [cntV]
theorem aggNumber_c (n : Int) : PCall Tryz.prog 96 [.one (.lit (.int .i64 n))] (.v (.agg (Val.ofInt n).d)) := by
  have hc := clean_c ⟨1, n, ⟨#[]⟩⟩
  have he : Val.ofInt n = (⟨1, n, ⟨#[]⟩⟩ : Val).clean := rfl
  rw [he]
  refine pcallN hT Tryz.func96 Tryz.ntmps96 [.cell 2 53] fun B => ?_
  repeat' (first | refine ks ?_ | refine ko ?_ | refine s_call (hc) ?_ | refine f_ret1 def_nil ?_ | refine t_cellG ?_ | exact cfs_nil | refine cfs_cons ?_ ?_ | refine cf_d ?_)
  all_goals rfl
theorem aggSum_c (L : List (Val × Int)) (h : Bnd L) : PCall Tryz.prog 97 [.one (cntsD L)] (.tup [.one (.lit (.int .i64 (sumV L))), .one (.lit (.int .i64 (cntV L)))]) := by
  have hl := h.1
  refine pcallN hT Tryz.func97 Tryz.ntmps97 [.tmp 2, .tmp 3] fun B => ?_
  repeat' (first | refine ks ?_ | refine ko ?_ | refine s_indexD ?_ (hel := (by first | exact rfl)) | refine f_ret2 def_nil ?_ ?_ | refine t_tmp ?_)
  refine s_lp (X := Nat × Int × Int) [4, 5, 7, 10, 11, 12, 13, 14, 15, 16, 17, 18, 19, 20, 21, 22, 23, 24, 25, 26, 27, 28, 29, 30] (fun x => x.1 ≤ L.length ∧ x.2.1 = sumV (L.take x.1) ∧ x.2.2 = cntV (L.take x.1)) (fun x lz => (10, (.c (.d (.lit (.int .i64 x.1))))) :: (4, .c (.d (.lit (.int .i64 x.2.1)))) :: (5, .c (.d (.lit (.int .i64 x.2.2)))) :: lz) (fun x => []) (fun x => L.length - x.1) ((0, 0, 0)) ?_ ?_ ?_ ?_
  repeat' (first | exact slots_nil | refine kw ?_ | exact memIn_nil | omega)
  · exact ⟨by simp, rfl, rfl⟩
  rintro ⟨i, s, m⟩ c ⟨hi, hs, hm⟩
  dsimp only at hi hs hm ⊢
  by_cases hlt : i < L.length
  · have hv : L[i]? = some L[i] := List.getElem?_eq_getElem hlt
    have hx := h.2 _ (List.getElem_mem hlt)
    generalize L[i] = x at hv hx
    have hv2 : (L.map cnD)[i]? = some (cnD x) := by rw [List.getElem?_map, hv]; rfl
    have b1 := sumV_bd h i
    have b2 := cntV_bd h i
    have b3 := sumV_bd h (i + 1)
    have b4 := prod_bd hx.1 hx.2
    have e1 := sumV_snoc hv
    have e2 := cntV_snoc hv
    rw [← hs] at b1 e1
    rw [← hm] at b2 e2
    by_cases hk : x.1.kind = 1
    · rw [if_pos hk] at e1 e2
      obtain ⟨p, hp⟩ : ∃ p, p = x.1.int * x.2 := ⟨_, rfl⟩
      rw [← hp] at b4 e1
      repeat' (first | refine ks ?_ | refine ko ?_ | refine s_indexD ?_ (hel := (by first | exact idx_map hv2 (by omega) | exact hv2 | exact rfl)) | refine f_ret2 def_nil ?_ ?_ | refine t_tmp ?_)
      (apply s_round ((i + 1, s + x.1.int * x.2, m + x.2)); all_goals (try dsimp only); all_goals (try (repeat' (first | exact slots_nil | refine kw ?_ | exact memIn_nil | omega))))
      all_goals exact ⟨by omega, by rw [e1, hp], e2.symm⟩
    · rw [if_neg hk, Int.add_zero] at e1 e2
      repeat' (first | refine ks ?_ | refine ko ?_ | refine s_indexD ?_ (hel := (by first | exact idx_map hv2 (by omega) | exact hv2 | exact rfl)) | refine f_ret2 def_nil ?_ ?_ | refine t_tmp ?_)
      (apply s_round ((i + 1, s, m)); all_goals (try dsimp only); all_goals (try (repeat' (first | exact slots_nil | refine kw ?_ | exact memIn_nil | omega))))
      all_goals exact ⟨by omega, e1.symm, e2.symm⟩
  · rw [take_ge (show L.length ≤ i by omega)] at hs hm
    rw [← hs, ← hm]
    repeat' (first | refine ks ?_ | refine ko ?_ | refine s_indexD ?_ (hel := (by first | exact rfl)) | refine f_ret2 def_nil ?_ ?_ | refine t_tmp ?_)
    all_goals rfl
def nnP (x : Val × Int) : Bool := decide (x.1.kind ≠ 0)
def led (L : List (Val × Int)) : Nat := (L.takeWhile nnP).length
theorem nnE_eq (L : List (Val × Int)) : nnE L = L.filter nnP := rfl
theorem led_le (L : List (Val × Int)) : led L ≤ L.length := (List.takeWhile_sublist _).length_le
theorem led_take : ∀ L : List (Val × Int), L.take (led L) = L.takeWhile nnP
  | [] => rfl
  | x :: L => by
    unfold led
    rw [List.takeWhile_cons]
    split
    · rw [List.length_cons, List.take_succ_cons]; exact congrArg _ (led_take L)
    · rfl
theorem led_in {L : List (Val × Int)} {i : Nat} {x : Val × Int} (hi : i < led L) (h : L[i]? = some x) : nnP x = true := by
  have h1 : (L.takeWhile nnP)[i]? = some x := by
    rw [← led_take, List.getElem?_take, if_pos hi]; exact h
  have h3 := List.all_takeWhile (p := nnP) (l := L)
  rw [List.all_eq_true] at h3
  exact h3 x (List.mem_of_getElem? h1)
theorem led_at : ∀ {L : List (Val × Int)} {x : Val × Int}, L[led L]? = some x → nnP x = false
  | [], _, h => by cases h
  | y :: L, x, h => by
    unfold led at h
    rw [List.takeWhile_cons] at h
    cases hq : nnP y with
    | true =>
      rw [hq, if_pos rfl, List.length_cons, List.getElem?_cons_succ] at h
      exact led_at h
    | false =>
      rw [hq, if_neg (by decide)] at h
      simp only [List.length_nil, List.getElem?_cons_zero, Option.some.injEq] at h
      subst h; exact hq
theorem led_nn (L : List (Val × Int)) : nnE (L.take (led L)) = L.take (led L) := by
  rw [nnE_eq, List.filter_eq_self]
  intro x hx
  obtain ⟨i, hi⟩ := List.mem_iff_getElem?.1 hx
  rw [List.getElem?_take] at hi
  split at hi
  · exact led_in ‹_› hi
  · cases hi
theorem nnE_snoc {L : List (Val × Int)} {i : Nat} {x : Val × Int} (h : L[i]? = some x) : nnE (L.take (i + 1)) = nnE (L.take i) ++ (if nnP x then [x] else []) := by
  rw [nnE_eq, nnE_eq, take_snoc' h, List.filter_append]
  congr 1
  by_cases hq : nnP x = true <;> simp [hq]
theorem isNull_c (x : Val × Int) : PCall Tryz.prog 137 [.agg (cnD x)] (.v (.one (.lit (.bool (!nnP x))))) := by
  refine pcallN hT Tryz.func137 Tryz.ntmps137 [.tmp 2] fun B => ?_
  repeat' (first | refine ks ?_ | refine ko ?_ | refine f_ret1 def_nil ?_ | refine t_tmp ?_)
  all_goals (refine congrArg Dat.lit (congrArg Value.bool ?_); unfold nnP; by_cases h : x.1.kind = 0 <;> simp [h])
theorem idxC_c (L : List (Val × Int)) (hl : L.length ≤ 4096) : PCall Tryz.prog 166 [.one (cntsD L), .one (.lit (.func (.func 137) #[] #[]))] (.v (.one (.lit (.int .i64 (if led L < L.length then (led L : Int) else -1))))) := by
  have hll := led_le L
  refine pcallN hT Tryz.func166 Tryz.ntmps166 [.tmp 4] fun B => ?_
  repeat' (first | refine ks ?_ | refine ko ?_ | refine s_indexD ?_ (hel := (by first | exact rfl)) | refine f_ret1 def_nil ?_ | refine t_tmp ?_)
  refine s_lp (X := Nat) [4, 5, 8, 9, 10, 11, 12, 13, 14, 15, 16, 17, 18] (fun x => x ≤ led L) (fun x lz => (8, (.c (.d (.lit (.int .i64 x))))) :: lz) (fun x => []) (fun x => led L - x) (0) ?_ ?_ ?_ ?_
  repeat' (first | exact slots_nil | refine kw ?_ | exact memIn_nil | omega)
  rintro i c hi
  by_cases hlt : i < led L
  · have hv : L[i]? = some L[i] := List.getElem?_eq_getElem (by omega)
    have hnn := led_in hlt hv
    generalize L[i] = x at hv hnn
    have hv2 : (L.map cnD)[i]? = some (cnD x) := by rw [List.getElem?_map, hv]; rfl
    have hc := isNull_c x
    rw [hnn] at hc
    repeat' (first | refine ks ?_ | refine ko ?_ | refine s_indexD ?_ (hel := (by first | exact idx_map hv2 (by omega) | exact hv2 | exact rfl)) | refine s_call (hc) ?_ | refine f_ret1 def_nil ?_ | refine t_tmp ?_)
    (apply s_round (i + 1); all_goals (try dsimp only); all_goals (try (repeat' (first | exact slots_nil | refine kw ?_ | exact memIn_nil | omega))))
  · obtain rfl : i = led L := by omega
    by_cases hpl : led L < L.length
    · rw [if_pos hpl]
      have hv : L[led L]? = some L[led L] := List.getElem?_eq_getElem hpl
      have hnn := led_at hv
      generalize L[led L] = x at hv hnn
      have hv2 : (L.map cnD)[led L]? = some (cnD x) := by rw [List.getElem?_map, hv]; rfl
      have hc := isNull_c x
      rw [hnn] at hc
      repeat' (first | refine ks ?_ | refine ko ?_ | refine s_indexD ?_ (hel := (by first | exact idx_map hv2 (by omega) | exact hv2 | exact rfl)) | refine s_call (hc) ?_ | refine f_ret1 def_nil ?_ | refine t_tmp ?_)
      all_goals rfl
    · rw [if_neg hpl]
      repeat' (first | refine ks ?_ | refine ko ?_ | refine s_indexD ?_ (hel := (by first | exact rfl)) | refine f_ret1 def_nil ?_ | refine t_tmp ?_)
      all_goals rfl
theorem cloneC_h (L : List (Val × Int)) (hl : L.length ≤ 4096) (hne : L ≠ []) : HCall Tryz.prog 136 [.c (.d (cntsD L))] [] (.c (.arr 0 1 L.length)) [.arr 1 99 4 (L.map cnD)] := by
  have hpos : 0 < L.length := List.length_pos_iff.2 hne
  refine hcallN hT Tryz.func136 Tryz.ntmps136 [.tmp 2] fun B => ?_
  repeat' (first | refine ks ?_ | refine ko ?_ | refine s_if rfl (fun hb => ?_) (fun hb => ?_) | refine s_eqNil (fun b hnil => ?_) | refine fh_ret1 def_nil ?_ ?_ | exact memIn_nil | refine memIn_same ?_ | exact am_same)
  all_goals first
    | (exfalso; exact hne (by simpa using hnil hb))
    | (simp; done)
    | rfl
theorem off_ze (c s : Nat) : 0 = if c = Int.toNat 0 then 0 else 0 + Int.toNat 0 * s := by simp
end Go.Proofs.YtojfhaoleedmkaaGreat
end
