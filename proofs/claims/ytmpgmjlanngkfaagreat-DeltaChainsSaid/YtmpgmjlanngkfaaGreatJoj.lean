/-
  Algebra: join.
-/
import Derived.Test.YtmpgmjlanngkfaaGreatJop
import Derived.Test.YtmpgmjlanngkfaaGreatRek
section
namespace Go.Proofs.YtmpgmjlanngkfaaGreat
open Go.Abs Go.RowKit
attribute [local irreducible] ARun kont MCall PCall HCall resVal SF CF CFs defersOk slotsIn memIn fin finM VLe
set_option linter.unusedSimpArgs false
set_option maxRecDepth 100000
set_option maxHeartbeats 4000000
abbrev PL := List (Bs × Nat × List (Bs × Int))
def esL (L : PL) : List (Value × Cell) := L.mapIdx fun i e => (.string ⟨e.1.toArray⟩, .arr (i + 2) e.2.1 e.2.2.length)
def inL (L : PL) : List Blk := L.map fun e => .arr e.2.1 200 2 (e.2.2.map enD)
def thL (L : PL) : List (Value × Dat) := L.map fun e => (.string ⟨e.1.toArray⟩, .sl (e.2.2.map enD))
theorem esL_get {L : PL} {i : Nat} {e : Bs × Nat × List (Bs × Int)} (h : L[i]? = some e) : (esL L)[i]? = some (.string ⟨e.1.toArray⟩, .arr (i + 2) e.2.1 e.2.2.length) := by simp [esL, h]
theorem inL_get {L : PL} {i : Nat} {e : Bs × Nat × List (Bs × Int)} (h : L[i]? = some e) : (inL L)[i]? = some (.arr e.2.1 200 2 (e.2.2.map enD)) := by simp [inL, h]
theorem esL_good (L : PL) : ∀ e ∈ esL L, IsStr e.1 := fun e he => by
  simp only [esL, List.mem_mapIdx] at he
  obtain ⟨i, hi, rfl⟩ := he
  exact ⟨_, rfl⟩
theorem esL_not {L : PL} {c : Bs} (h : ∀ e ∈ L, e.1 ≠ c) : ∀ e ∈ esL L, e.1 ≠ Value.string ⟨c.toArray⟩ := fun e he q => by
  simp only [esL, List.mem_mapIdx] at he
  obtain ⟨i, hi, rfl⟩ := he
  exact h _ (List.getElem_mem hi) (strV_inj q)
theorem esL_set {L : PL} {j k : Nat} {c : Bs} {A : List (Bs × Int)} {e : Bs × Nat × List (Bs × Int)} (hj : L[j]? = some e) : (esL L).set j (.string ⟨c.toArray⟩, .arr (j + 2) k A.length) = esL (L.set j (c, k, A)) := by
  apply List.ext_getElem?
  intro i
  by_cases hij : j = i
  · subst hij
    rw [List.getElem?_set_self (by have := lt_of_getElem? hj; simpa [esL] using this), esL_get (List.getElem?_set_self (lt_of_getElem? hj))]
  · rw [List.getElem?_set_ne hij]
    simp [esL, List.getElem?_set_ne hij]
theorem inL_set (L : PL) (j k : Nat) (c : Bs) (A : List (Bs × Int)) : (inL L).set j (.arr k 200 2 (A.map enD)) = inL (L.set j (c, k, A)) := by simp [inL, List.map_set]
theorem esL_snoc (L : PL) (k : Nat) (c : Bs) (A : List (Bs × Int)) : esL L ++ [(.string ⟨c.toArray⟩, .arr (L.length + 2) k A.length)] = esL (L ++ [(c, k, A)]) := by simp [esL, List.mapIdx_append]
theorem inL_snoc (L : PL) (k : Nat) (c : Bs) (A : List (Bs × Int)) : inL L ++ [.arr k 200 2 (A.map enD)] = inL (L ++ [(c, k, A)]) := by simp [inL]
theorem inL_len (L : PL) : (inL L).length = L.length := by simp [inL]
structure POk (b : List Entry) (on2 : List Int) (L : PL) : Prop where
  here : ∀ e ∈ L, e.2.2 = partE b on2 e.1 ∧ e.2.2 ≠ []
  not : ∀ key, (∀ e ∈ L, e.1 ≠ key) → partE b on2 key = []
theorem POk.other {b : List Entry} {on2 : List Int} {L : PL} (h : POk b on2 L) {y : Entry} (hy : keyS y.row on2 = none) : POk (b ++ [y]) on2 L :=
  ⟨fun e he => by rw [partE_snoc, hy]; simpa using h.here e he, fun key hk => by rw [partE_snoc, hy]; simpa using h.not key hk⟩
theorem POk.old {b : List Entry} {on2 : List Int} {L : PL} (h : POk b on2 L) {y : Entry} {key : Bs} (hy : keyS y.row on2 = some key) {j k : Nat} {e : Bs × Nat × List (Bs × Int)} (hj : L[j]? = some e) (hk : e.1 = key) (hnd : (L.map Prod.fst).Nodup) (_ : True) : POk (b ++ [y]) on2 (L.set j (key, k, e.2.2 ++ [encP y])) := by
  have hl := lt_of_getElem? hj
  refine ⟨fun x hx => ?_, fun key' hk' => ?_⟩
  · obtain ⟨i, hi⟩ := List.mem_iff_getElem?.1 hx
    by_cases hij : j = i
    · subst hij
      rw [List.getElem?_set_self hl] at hi
      simp only [Option.some.injEq] at hi
      subst hi
      rw [partE_snoc, hy, if_pos rfl, ← hk, ← (h.here e (List.mem_of_getElem? hj)).1]
      exact ⟨rfl, by simp⟩
    · rw [List.getElem?_set_ne hij] at hi
      have hne : ¬ some key = some x.1 := fun q => by
        simp only [Option.some.injEq] at q
        have h1 : (L.map Prod.fst)[j]? = some key := by rw [List.getElem?_map, hj, ← hk]; rfl
        have h2 : (L.map Prod.fst)[i]? = some key := by rw [List.getElem?_map, hi, q]; rfl
        rcases Nat.lt_or_gt_of_ne hij with q1 | q1
        · exact List.pairwise_iff_getElem.1 hnd j i (lt_of_getElem? h1) (lt_of_getElem? h2) q1 (by rw [List.getElem?_eq_getElem (lt_of_getElem? h1)] at h1; rw [List.getElem?_eq_getElem (lt_of_getElem? h2)] at h2; rw [Option.some.inj h1, Option.some.inj h2])
        · exact List.pairwise_iff_getElem.1 hnd i j (lt_of_getElem? h2) (lt_of_getElem? h1) q1 (by rw [List.getElem?_eq_getElem (lt_of_getElem? h1)] at h1; rw [List.getElem?_eq_getElem (lt_of_getElem? h2)] at h2; rw [Option.some.inj h1, Option.some.inj h2])
      rw [partE_snoc, hy, if_neg hne, List.append_nil]
      exact h.here x (List.mem_of_getElem? hi)
  · have hne : ¬ some key = some key' := fun q => by
      simp only [Option.some.injEq] at q
      exact hk' (key, k, e.2.2 ++ [encP y]) (List.mem_of_getElem? (List.getElem?_set_self hl)) q
    rw [partE_snoc, hy, if_neg hne, List.append_nil]
    refine h.not key' fun x hx q => ?_
    obtain ⟨i, hi⟩ := List.mem_iff_getElem?.1 hx
    by_cases hij : j = i
    · subst hij
      rw [hj] at hi
      simp only [Option.some.injEq] at hi
      subst hi
      exact hne (by rw [← hk, q])
    · exact hk' x (List.mem_of_getElem? (by rw [List.getElem?_set_ne hij]; exact hi)) q
theorem POk.new {b : List Entry} {on2 : List Int} {L : PL} (h : POk b on2 L) {y : Entry} {key : Bs} (hy : keyS y.row on2 = some key) {k : Nat} (hn : ∀ e ∈ L, e.1 ≠ key) : POk (b ++ [y]) on2 (L ++ [(key, k, [encP y])]) := by
  refine ⟨fun x hx => ?_, fun key' hk' => ?_⟩
  · rcases List.mem_append.1 hx with hx | hx
    · have hne : ¬ some key = some x.1 := fun q => by simp only [Option.some.injEq] at q; exact hn x hx q.symm
      rw [partE_snoc, hy, if_neg hne, List.append_nil]
      exact h.here x hx
    · obtain rfl := List.mem_singleton.1 hx
      rw [partE_snoc, hy, if_pos rfl, h.not key hn]
      exact ⟨rfl, by simp⟩
  · have hne : ¬ some key = some key' := fun q => by simp only [Option.some.injEq] at q; exact hk' (key, k, [encP y]) (by simp) q
    rw [partE_snoc, hy, if_neg hne, List.append_nil]
    exact h.not key' fun x hx => hk' x (by simp [hx])
theorem nodup_set {L : PL} {j : Nat} {e : Bs × Nat × List (Bs × Int)} {k : Nat} {A : List (Bs × Int)} (hj : L[j]? = some e) (h : (L.map Prod.fst).Nodup) : ((L.set j (e.1, k, A)).map Prod.fst).Nodup := by
  rw [List.map_set, set_self (by rw [List.getElem?_map, hj]; rfl)]; exact h
theorem nodup_new {L : PL} {key : Bs} {k : Nat} {A : List (Bs × Int)} (hn : ∀ e ∈ L, e.1 ≠ key) (h : (L.map Prod.fst).Nodup) : ((L ++ [(key, k, A)]).map Prod.fst).Nodup := by
  rw [List.map_append, List.nodup_append]
  refine ⟨h, by simp, fun x hx y hy q => ?_⟩
  obtain ⟨e, he, rfl⟩ := List.mem_map.1 hx
  simp only [List.map_cons, List.map_nil, List.mem_singleton] at hy
  exact hn e he (q.trans hy)
theorem key_in (L : PL) (key : Bs) : (∃ (j : Nat) (e : Bs × Nat × List (Bs × Int)), L[j]? = some e ∧ e.1 = key) ∨ ∀ e ∈ L, e.1 ≠ key := by
  by_cases h : ∃ e ∈ L, e.1 = key
  · obtain ⟨e, he, hk⟩ := h
    obtain ⟨j, hj⟩ := List.mem_iff_getElem?.1 he
    exact .inl ⟨j, e, hj, hk⟩
  · exact .inr fun e he hk => h ⟨e, he, hk⟩
theorem keyR_some {row : List Val} {cs : List Int} {key : Bs} (h : keyS row cs = some key) : keyR (keyV row cs) = .tup [.one (strD key), .one (.lit (.bool true))] := by
  unfold keyS at h
  cases hq : keyV row cs with
  | none => rw [hq] at h; cases h
  | some l => rw [hq] at h; simp only [Option.map_some, Option.some.injEq] at h; subst h; rfl
theorem keyR_none {row : List Val} {cs : List Int} (h : keyS row cs = none) : keyR (keyV row cs) = .tup [.one (strD []), .one (.lit (.bool false))] := by
  unfold keyS at h
  cases hq : keyV row cs with
  | none => rfl
  | some l => rw [hq] at h; cases h
theorem thL_good (L : PL) : ∀ e ∈ thL L, IsStr e.1 := fun e he => by
  obtain ⟨x, _, rfl⟩ := List.mem_map.1 he
  exact ⟨_, rfl⟩
theorem thL_get {L : PL} {i : Nat} {e : Bs × Nat × List (Bs × Int)} (h : L[i]? = some e) : (thL L)[i]? = some (.string ⟨e.1.toArray⟩, .sl (e.2.2.map enD)) := by simp [thL, h]
theorem thL_not {L : PL} {c : Bs} (h : ∀ e ∈ L, e.1 ≠ c) : ∀ e ∈ thL L, e.1 ≠ Value.string ⟨c.toArray⟩ := fun e he q => by
  obtain ⟨x, hx, rfl⟩ := List.mem_map.1 he
  exact h x hx (strV_inj q)
theorem encRow_bd {r : List Val} (h : rowOK r = true) : (encRow r).length ≤ 100000 := by
  have := encRow_len r
  have := rowOK_len h
  omega
theorem join_c (a b : List Entry) (on : List (Int × Int)) (hal : a.length ≤ 4096) (hbl : b.length ≤ 4096) (hon : on.length ≤ 10000) (ha : ∀ e ∈ a, rowOK e.row = true ∧ (-262144 ≤ e.count ∧ e.count ≤ 262144)) (hb : ∀ e ∈ b, rowOK e.row = true ∧ (-262144 ≤ e.count ∧ e.count ≤ 262144)) (R : List Entry × Int)
    (hR : match finJ a b on with | none => R = ([], 8) | some r => ∃ rs : List Entry, r = rs.map encP ∧ (∀ e ∈ rs, rowOK e.row = true) ∧ R = if rs.all (fun e => countOK e.count) then (sortF entCmp rs, 0) else ([], 9)) :
    PCall Tryz.prog 143 [.one (bagD a), .one (bagD b), .one (onD on)] (.tup [.one (bagD R.1), .one (.lit (.int .i64 R.2))]) := by
  refine pcallN hT Tryz.func143 Tryz.ntmps143 [.tmp 6, .tmp 7] fun B => ?_
  repeat' (first | refine ks ?_ | refine ko ?_ | refine s_indexD ?_ (hel := (by first | exact rfl)) | refine kg ?_ ?_ | refine kf ?_ | fail)
  refine s_toMapc 0 ?_
  refine s_lp (X := Nat × PL) [10, 11, 12, 21, 22, 23, 24, 25, 26, 27, 28, 29, 30, 31, 32, 33, 34, 35, 36, 37, 38, 39, 40, 41, 42, 43, 44, 45, 46] (fun x => x.1 ≤ b.length ∧ POk (b.take x.1) (on.map Prod.snd) x.2 ∧ (x.2.map Prod.fst).Nodup) (fun x lz => (21, (.c (.d (.lit (.int .i64 x.1))))) :: lz) (fun x => .mapc 1 9 198 (esL x.2) :: .dead :: inL x.2) (fun x => b.length - x.1) ((0, [])) ?_ ?_ ?_ ?_
  repeat' (first | exact slots_nil | refine kw ?_ | exact memIn_nil | omega)
  · exact memIn_d1
  · exact ⟨by simp, ⟨by simp, by simp [partE]⟩, by simp⟩
  rintro ⟨i, L⟩ c ⟨hi, hP, hN⟩
  dsimp only at hi hP hN ⊢
  by_cases hlt : i < b.length
  · have hv : b[i]? = some b[i] := List.getElem?_eq_getElem hlt
    obtain ⟨hro, hco⟩ := hb _ (List.getElem_mem hlt)
    generalize b[i] = y at hv hro hco
    have htk : b.take (i + 1) = b.take i ++ [y] := by rw [List.take_add_one, hv]; rfl
    have hkc := keyOf1_c y.row on hon
    have hen := encodeRow_c y.row (by have := rowOK_len hro; omega)
    cases hk : keyS y.row (on.map Prod.snd) with
    | none =>
      rw [keyR_none hk] at hkc
      have hP2 := hP.other hk
      repeat' (first | refine s_allocAt 1 (mem' := _ :: _ :: _) ?_ (hm' := rfl) | refine s_storeB (mem' := _ :: _ :: _) ?_ (hm' := rfl) | refine ks ?_ | refine ko ?_ | refine s_indexD ?_ (hel := (by first | exact idx_map hv (by omega) | exact hv | exact rfl)) | refine s_call (hkc) ?_ | refine s_call (hen) ?_ | refine f_ret2 def_nil ?_ ?_ | refine t_tmp ?_ | refine t_tmpE ?_ | refine t_tmpA rfl rfl ?_ ?_)
      (apply s_round ((i + 1, L)); all_goals (try dsimp only); all_goals (try (repeat' (first | exact slots_nil | refine kw ?_ | exact memIn_nil | omega))))
      · exact memIn_rf
      · exact ⟨by omega, by rw [htk]; exact hP2, hN⟩
    | some key =>
      rw [keyR_some hk] at hkc
      have hLl : ∀ e ∈ L, e.2.2.length ≤ 4096 := fun e he => by rw [(hP.here e he).1]; have := partE_len (b.take i) (on.map Prod.snd) e.1; simp at this; omega
      rcases key_in L key with ⟨j, e, hj, he⟩ | hn
      · obtain ⟨c1, k1, A⟩ := e
        have hAl := hLl _ (List.mem_of_getElem? hj)
        dsimp only at he hAl
        subst he
        have hg1 := esL_get hj
        have hg2 := inL_get hj
        dsimp only at hg1 hg2
        have hP2 := fun k => hP.old (k := k) hk hj rfl hN trivial
        have hN2 := fun k => nodup_set (k := k) (A := A ++ [encP y]) hj hN
        repeat' (first | refine s_allocAt 1 (mem' := _ :: _ :: _) ?_ (hm' := rfl) | refine s_storeB (mem' := _ :: _ :: _) ?_ (hm' := rfl) | refine ks ?_ | refine ko ?_ | refine s_indexD ?_ (hel := (by first | exact idx_map hv (by omega) | exact hv | exact rfl)) | refine s_call (hkc) ?_ | refine s_call (hen) ?_ | refine s_lookC hg1 ⟨_, rfl⟩ (esL_good _) ?_ | refine s_appA (mem' := _ :: _ :: (inL L).set j _) ?_ (hm := hg2) (hm' := rfl) | refine s_mapcOld (mem' := _ :: _ :: _) hg1 ⟨_, rfl⟩ (esL_good _) ?_ (hm' := rfl) | refine f_ret2 def_nil ?_ ?_ | refine t_tmp ?_ | refine t_tmpE ?_ | refine t_tmpA rfl rfl ?_ ?_)
        have hE := esL_set (k := c + 1 + 1) (c := c1) (A := A ++ [encP y]) hj
        have hI := inL_set L j (c + 1 + 1) c1 (A ++ [encP y])
        rw [List.length_append] at hE
        rw [List.map_append] at hI
        have hE2 : (esL L).set j (Value.string ⟨c1.toArray⟩, Cell.arr (j + 2) (c + 1 + 1) (A.length + [[Dat.lit (Value.string ⟨(encRow y.row).toArray⟩), Dat.lit (Value.int .i64 y.count)]].length)) = _ := hE
        have hI2 : (inL L).set j (Blk.arr (c + 1 + 1) 200 2 (A.map enD ++ [[Dat.lit (Value.string ⟨(encRow y.row).toArray⟩), Dat.lit (Value.int .i64 y.count)]])) = _ := hI
        have hP3 := hP2 (c + 1 + 1)
        have hN3 := hN2 (c + 1 + 1)
        rw [← htk] at hP3
        dsimp only at hP3 hN3
        generalize L.set j (c1, c + 1 + 1, A ++ [encP y]) = L2 at hE2 hI2 hP3 hN3
        rw [hE2, hI2]
        (apply s_round ((i + 1, L2)); all_goals (try dsimp only); all_goals (try (repeat' (first | exact slots_nil | refine kw ?_ | exact memIn_nil | omega))))
        · exact memIn_rf
        · exact ⟨by omega, hP3, hN3⟩
      · have hP2 := fun k => hP.new (k := k) hk hn
        have hN2 := fun k => nodup_new (k := k) (A := [encP y]) hn hN
        repeat' (first | refine s_allocAt 1 (mem' := _ :: _ :: _) ?_ (hm' := rfl) | refine s_storeB (mem' := _ :: _ :: _) ?_ (hm' := rfl) | refine ks ?_ | refine ko ?_ | refine s_indexD ?_ (hel := (by first | exact idx_map hv (by omega) | exact hv | exact rfl)) | refine s_call (hkc) ?_ | refine s_call (hen) ?_ | refine s_lookCF (by kernel_rfl) (esL_not hn) ⟨_, rfl⟩ (esL_good _) ?_ | refine s_appE (r := L.length + 2) (mem' := _ :: _ :: (inL L ++ [_])) ?_ (hr := by simp [inL_len]) (hm' := rfl) | refine s_mapcNew (mem' := _ :: _ :: _) (esL_not hn) ⟨_, rfl⟩ (esL_good _) ?_ (hm' := rfl) | refine f_ret2 def_nil ?_ ?_ | refine t_tmp ?_ | refine t_tmpE ?_ | refine t_tmpA rfl rfl ?_ ?_)
        have hE := esL_snoc L (c + 1 + 1) key [encP y]
        have hI := inL_snoc L (c + 1 + 1) key [encP y]
        have hE2 : esL L ++ [(Value.string ⟨key.toArray⟩, Cell.arr (L.length + 2) (c + 1 + 1) 1)] = _ := hE
        have hI2 : inL L ++ [Blk.arr (c + 1 + 1) 200 2 [[Dat.lit (Value.string ⟨(encRow y.row).toArray⟩), Dat.lit (Value.int .i64 y.count)]]] = _ := hI
        have hP3 := hP2 (c + 1 + 1)
        have hN3 := hN2 (c + 1 + 1)
        rw [← htk] at hP3
        generalize L ++ [(key, c + 1 + 1, [encP y])] = L2 at hE2 hI2 hP3 hN3
        rw [hE2, hI2]
        (apply s_round ((i + 1, L2)); all_goals (try dsimp only); all_goals (try (repeat' (first | exact slots_nil | refine kw ?_ | exact memIn_nil | omega))))
        · exact memIn_rf
        · exact ⟨by omega, hP3, hN3⟩
  · have hie : i = b.length := by omega
    subst hie
    rw [List.take_length] at hP
    have hth : ∀ (i : Nat) (kv : Value) (x : Cell), (esL L)[i]? = some (kv, x) → ∃ y, (thL L)[i]? = some (kv, y) ∧ CFb (Blk.mapc 1 9 198 (esL L) :: Blk.dead :: inL L) 2 x y := by
      intro i kv x hx
      simp only [esL, List.getElem?_mapIdx, Option.map_eq_some_iff] at hx
      obtain ⟨e, he, hx⟩ := hx
      simp only [Prod.mk.injEq] at hx
      obtain ⟨rfl, rfl⟩ := hx
      refine ⟨.sl (e.2.2.map enD), by simp [thL, he], by omega, 200, 2, e.2.2.map enD, inL_get he, by simp, by rw [List.take_of_length_le (by simp)]⟩
    refine s_thaw 2 0 (thL L) ?_ rfl (by decide) (by simp [thL, esL]) hth rfl
    repeat' (first | refine ks ?_ | refine ko ?_ | refine s_indexD ?_ (hel := (by first | exact rfl)) | refine kg ?_ ?_ | refine kf ?_ | fail)
    refine s_toMapb 2 ?_
    refine s_ownBox 3 0 232 2 ?_
    refine s_ownBox 3 2 200 2 ?_
    refine s_lp (X := Nat × JS × Nat × Nat) [6, 7, 15, 16, 17, 52, 53, 54, 55, 56, 57, 58, 59, 60, 61, 62, 63, 64, 65, 66, 67, 68, 69, 70, 71, 72, 73, 74, 75, 76, 77, 78, 79, 80, 81, 82, 83, 84] (fun x => x.1 ≤ a.length ∧ runJ b on (a.take x.1) ([], [], []) = some x.2.1 ∧ JOk x.1 4096 x.2.1) (fun x lz => (52, (.c (.d (.lit (.int .i64 x.1))))) :: lz) (fun x => [.mapb 1 9 198 (thL L), .dead, .mapb (c + 1) 9 2 (x.2.1.2.1.map kvS), .box (c + 1 + 1) [.arr 4 x.2.2.1 x.2.1.1.length, .mp 2 (c + 1), .arr 5 x.2.2.2 x.2.1.2.2.length], .arr x.2.2.1 232 2 (x.2.1.1.map Lev.d), .arr x.2.2.2 200 2 (x.2.1.2.2.map enD)]) (fun x => a.length - x.1) ((0, ([], [], []), c + 1 + 1 + 1, c + 1 + 1 + 1 + 1)) ?_ ?_ ?_ ?_
    repeat' (first | exact slots_nil | refine kw ?_ | exact memIn_nil | omega)
    · exact ⟨by simp, by simp [runJ], ⟨by simp, by simp, fun e he => by simp at he, by simp⟩⟩
    rintro ⟨i, ⟨st, s, r⟩, k4, k5⟩ c2 ⟨hi2, hrun, hJ⟩
    dsimp only at hi2 hrun hJ ⊢
    have hst2 : st.length ≤ i := hJ.st
    have hst1 : st.length ≤ 100000 := by omega
    have hop1 : ∀ l ∈ st, l.opened.length ≤ 100000 := fun l hl => by have := hJ.op l hl; omega
    have hr1 : r.length ≤ 4096 := hJ.rs
    by_cases hlt2 : i < a.length
    · have hv : a[i]? = some a[i] := List.getElem?_eq_getElem hlt2
      obtain ⟨hro, hco⟩ := ha _ (List.getElem_mem hlt2)
      generalize a[i] = u at hv hro hco
      have hkc := keyOf0_c u.row on hon
      have hen := encodeRow_c u.row (by have := rowOK_len hro; omega)
      obtain ⟨hs1, hs2⟩ := runJ_step hv hrun
      have hJ2 := fun q' (h : stepJ b on (st, s, r) u = some q') => stepJ_ok hJ hbl (fun y hy => (hb y hy).2) hco h
      cases hk : keyS u.row (on.map Prod.fst) with
      | none =>
        rw [keyR_none hk] at hkc
        have hst : stepJ b on (st, s, r) u = some (st, s, r) := by unfold stepJ; rw [hk]
        rw [hst] at hs1
        have hJ3 := hJ2 _ hst
        repeat' (first | refine ks ?_ | refine ko ?_ | refine s_indexD ?_ (hel := (by first | exact idx_map hv (by omega) | exact hv | exact rfl)) | refine s_call (hkc) ?_ | refine s_call (hen) ?_ | refine kg ?_ ?_ | refine kf ?_ | fail)
        (apply s_round ((i + 1, (st, s, r), k4, k5)); all_goals (try dsimp only); all_goals (try (repeat' (first | exact slots_nil | refine kw ?_ | exact memIn_nil | omega))))
        exact ⟨by omega, hs1, hJ3⟩
      | some key =>
        rw [keyR_some hk] at hkc
        rcases key_in L key with ⟨j, e, hj, he⟩ | hn
        · obtain ⟨c1, k1, A⟩ := e
          dsimp only at he
          subst he
          obtain ⟨hA, hA0⟩ := hP.here _ (List.mem_of_getElem? hj)
          dsimp only at hA hA0
          have hg1 := thL_get hj
          dsimp only at hg1
          have hAl : A.length ≤ 4096 := by rw [hA]; have := partE_len b (on.map Prod.snd) c1; omega
          have hAp : 0 < A.length := by cases A with | nil => exact absurd rfl hA0 | cons _ _ => simp
          have hAm : ∀ z ∈ A, ∃ y ∈ b, z = encP y := fun z hz => by
            rw [hA] at hz
            obtain ⟨y, hy, h1, _⟩ := partE_mem hz
            exact ⟨y, hy, h1⟩
          cases hc : closeE (encRow u.row) st.reverse s r with
          | none =>
            have hstp : stepJ b on (st, s, r) u = none := by
              unfold stepJ
              rw [hk]
              dsimp only
              rw [← hA, if_neg hA0, hc]
            have hfin : finJ a b on = none := by unfold finJ; rw [hs2 hstp]
            rw [hfin] at hR
            dsimp only at hR
            subst hR
            have hadd := addF_h (encP u) A st s r hc hst1 hop1 hr1
            repeat' (first | refine ks ?_ | refine ko ?_ | refine s_indexD ?_ (hel := (by first | exact idx_map hv (by omega) | exact hv | exact rfl)) | refine s_call (hkc) ?_ | refine s_call (hen) ?_ | refine s_callH [3, 4, 2, 5] (hadd) ?_ | refine s_lookB hg1 ⟨_, rfl⟩ (thL_good _) ?_ | refine kg ?_ ?_ | refine kf ?_ | fail)
            all_goals rfl
          | some q =>
            obtain ⟨stx, s', r'⟩ := q
            have hstp : stepJ b on (st, s, r) u = some (stx.reverse ++ [⟨encRow u.row, (A.foldl (addStep (encP u)) ([], s')).1⟩], (A.foldl (addStep (encP u)) ([], s')).2, r') := by
              unfold stepJ
              rw [hk]
              dsimp only
              rw [← hA, if_neg hA0, hc]
            rw [hstp] at hs1
            have hJ3 := hJ2 _ hstp
            obtain ⟨h1, h2, h3, h4⟩ := closeE_sub hc hr1
            simp only [List.length_reverse] at h1
            have hadd := addT_h (encP u) A st s r stx.reverse s' r' (by rw [List.reverse_reverse]; exact hc) hst1 (by simp; omega) hop1 hr1 (by omega) (68719476736 * ((4096 * i : Nat) : Int)) (by omega) (fun e he => hJ.sm e (h3 e he)) (fun z hz => by
              obtain ⟨y, hy, rfl⟩ := hAm z hz
              exact prod_bdJ hco (hb y hy).2) (by omega) (encRow_bd hro) (fun z hz => by
              obtain ⟨y, hy, rfl⟩ := hAm z hz
              exact encRow_bd (hb y hy).1)
            generalize A.foldl (addStep (encP u)) ([], s') = fo at hadd hs1 hJ3
            have hlr : (stx.reverse ++ [(⟨encRow u.row, fo.1⟩ : Lev)]).length = stx.length + 1 := by simp
            have hst4 : stx.length + 1 ≤ 100000 := by omega
            unfold encP at hadd
            dsimp only at hadd
            generalize stx.reverse ++ [(⟨encRow u.row, fo.1⟩ : Lev)] = st4 at hadd hs1 hJ3 hlr
            repeat' (first | refine ks ?_ | refine ko ?_ | refine s_indexD ?_ (hel := (by first | exact idx_map hv (by omega) | exact hv | exact rfl)) | refine s_call (hkc) ?_ | refine s_call (hen) ?_ | refine s_callH [3, 4, 2, 5] (hadd) ?_ | refine s_lookB hg1 ⟨_, rfl⟩ (thL_good _) ?_ | refine kg ?_ ?_ | refine kf ?_ | fail)
            (apply s_round ((i + 1, (st4, fo.2, r'), _, _)); all_goals (try dsimp only); all_goals (try (repeat' (first | exact slots_nil | refine w1 ?_ | exact memIn_nil | refine memIn_same ?_ | refine memIn_dead ?_ | omega))))
            exact ⟨by omega, hs1, hJ3⟩
        · have hA := hP.not key hn
          have hstp : stepJ b on (st, s, r) u = some (st, s, r) := by
            unfold stepJ
            rw [hk]
            dsimp only
            rw [hA, if_pos rfl]
          rw [hstp] at hs1
          have hJ3 := hJ2 _ hstp
          repeat' (first | refine ks ?_ | refine ko ?_ | refine s_indexD ?_ (hel := (by first | exact idx_map hv (by omega) | exact hv | exact rfl)) | refine s_call (hkc) ?_ | refine s_call (hen) ?_ | refine s_lookBF (thL_not hn) ⟨_, rfl⟩ (thL_good _) ?_ | refine kg ?_ ?_ | refine kf ?_ | fail)
          (apply s_round ((i + 1, (st, s, r), k4, k5)); all_goals (try dsimp only); all_goals (try (repeat' (first | exact slots_nil | refine kw ?_ | exact memIn_nil | omega))))
          exact ⟨by omega, hs1, hJ3⟩
    · have hie : i = a.length := by omega
      subst hie
      rw [List.take_length] at hrun
      unfold finJ at hR
      rw [hrun] at hR
      dsimp only at hR
      cases hc : closeE [] st.reverse s r with
      | none =>
        rw [hc] at hR
        dsimp only at hR
        subst hR
        have hcl := closeFF_h [] st s r hc hst1 hop1 hr1
        repeat' (first | refine ks ?_ | refine ko ?_ | refine s_indexD ?_ (hel := (by first | exact rfl)) | refine s_callH [3, 4, 2, 5] (hcl) ?_ | refine kg ?_ ?_ | refine kf ?_ | fail)
        all_goals rfl
      | some q =>
        obtain ⟨stx, s', r'⟩ := q
        rw [hc] at hR
        dsimp only at hR
        obtain ⟨h1, h2, h3, h4⟩ := closeE_sub hc hr1
        have hcl := closeTT_h [] st s r stx.reverse s' r' (by rw [List.reverse_reverse]; exact hc) hst1 hop1 hr1
        obtain ⟨rs, rfl, hrok, rfl⟩ := hR
        simp only [List.length_map] at h4
        cases hall : rs.all (fun e => countOK e.count) with
        | false =>
          have hent := entriesF_h stx.reverse s' rs h4 hrok hall
          simp only [Bool.false_eq_true, if_false]
          repeat' (first | refine ks ?_ | refine ko ?_ | refine s_indexD ?_ (hel := (by first | exact rfl)) | refine s_callH [3, 4, 2, 5] (hcl) ?_ | refine s_callH [3, 4, 2, 5] (hent) ?_ | refine kg ?_ ?_ | refine kf ?_ | fail)
          all_goals rfl
        | true =>
          have hent := entriesT_h stx.reverse s' rs h4 hrok (List.all_eq_true.1 hall)
          simp only [if_true]
          have hsl := (sortF_perm entCmp_ok.swo rs).length_eq
          repeat' (first | refine ks ?_ | refine ko ?_ | refine s_indexD ?_ (hel := (by first | exact rfl)) | refine s_callH [3, 4, 2, 5] (hcl) ?_ | refine s_callH [3, 4, 2, 5] (hent) ?_ | refine kg ?_ ?_ | refine kf ?_ | fail)
          · simp [hsl]
          · rw [take_ge (by simp [hsl])]; rfl
          · rfl
end Go.Proofs.YtmpgmjlanngkfaaGreat
end
