/-
  Algebra: columns of rows, keys of joins, beginnings of strings.
-/
import Derived.Test.YtmpgmjlanngkfaaGreatExa
import Derived.Test.YtmpgmjlanngkfaaGreatArc
import Derived.Test.YtmpgmjlanngkfaaGreatAgp
section
namespace Go.Proofs.YtmpgmjlanngkfaaGreat
open Go.Abs Go.RowKit
attribute [local irreducible] ARun kont MCall PCall HCall resVal SF CF CFs defersOk slotsIn memIn fin finM VLe
set_option linter.unusedSimpArgs false
set_option maxRecDepth 100000
set_option maxHeartbeats 4000000
def atE (row : List Val) (col : Int) : Val := if col < 0 then Val.null else match row[col.toNat]? with | some v => v | none => Val.null
theorem atE_lo {row : List Val} {col : Int} (h : col < 0) : atE row col = Val.null := by simp [atE, h]
theorem atE_hi {row : List Val} {col : Int} (h : (row.length : Int) ≤ col) : atE row col = Val.null := by
  unfold atE
  split
  · rfl
  · rw [List.getElem?_eq_none (by omega)]
theorem atE_in {row : List Val} {k : Nat} {v : Val} (h : row[k]? = some v) : atE row k = v := by
  unfold atE
  rw [if_neg (by omega), Int.toNat_natCast, h]
theorem alCell_c (row : List Val) (col : Int) : PCall Tryz.prog 231 [.one (rowD row), .one (.lit (.int .i64 col))] (.v (.agg (atE row col).d)) := by
  by_cases h0 : col < 0
  · rw [atE_lo h0]
    refine pcallN hT Tryz.func231 Tryz.ntmps231 [.cell 4 73] fun B => ?_
    repeat' (first | refine ks ?_ | refine ko ?_ | refine s_indexD ?_ (hel := (by first | exact rfl)) | refine kf ?_ | exact k0 | refine kg ?_ ?_ | fail)
    all_goals rfl
  · by_cases h1 : col < row.length
    · obtain ⟨k, rfl⟩ := Int.eq_ofNat_of_zero_le (Int.not_lt.1 h0)
      have hv : row[k]? = some row[k] := List.getElem?_eq_getElem (by omega)
      generalize row[k] = v at hv
      rw [atE_in hv]
      refine pcallN hT Tryz.func231 Tryz.ntmps231 [.cell 4 73] fun B => ?_
      repeat' (first | refine ks ?_ | refine ko ?_ | refine s_indexD ?_ (hel := (by first | exact idx_map hv (by omega) | exact hv | exact rfl)) | refine kf ?_ | exact k0 | refine kg ?_ ?_ | fail)
      all_goals rfl
    · rw [atE_hi (by omega)]
      refine pcallN hT Tryz.func231 Tryz.ntmps231 [.cell 4 73] fun B => ?_
      repeat' (first | refine ks ?_ | refine ko ?_ | refine s_indexD ?_ (hel := (by first | exact rfl)) | refine kf ?_ | exact k0 | refine kg ?_ ?_ | fail)
      all_goals rfl
def hasPre (a b : ByteArray) : Bool := decide (b.size ≤ a.size) && ((a.extract 0 b.size).toList == b.toList)
theorem hasPreI_c (a b : ByteArray) : PCall Tryz.prog 251 [.one (.lit (.string a)), .one (.lit (.string b))] (.v (.one (.lit (.bool (hasPre a b))))) := by
  refine pcallN hT Tryz.func251 Tryz.ntmps251 [.tmp 4] fun B => ?_
  repeat' (first | refine ks ?_ | refine ko ?_ | refine s_split rfl rfl (fun hb => ?_) (fun hb => ?_) | refine kf ?_ | fail)
  all_goals (refine congrArg Dat.lit (congrArg Value.bool ?_); simp only [hasPre])
  · rw [decide_eq_true (by omega)]; simp
  · rw [decide_eq_false (by omega)]; rfl
theorem hasPre_c (a b : ByteArray) : PCall Tryz.prog 232 [.one (.lit (.string a)), .one (.lit (.string b))] (.v (.one (.lit (.bool (hasPre a b))))) := by
  refine pcallN hT Tryz.func232 Tryz.ntmps232 [.tmp 4] fun B => ?_
  repeat' (first | refine ks ?_ | refine ko ?_ | refine s_call (hasPreI_c _ _) ?_ | refine kf ?_ | fail)
  all_goals rfl
def strD (l : List UInt8) : Dat := .lit (.string ⟨l.toArray⟩)
theorem size_list (L : List UInt8) : (⟨L.toArray⟩ : ByteArray).size = L.length := by simp [ByteArray.size]
theorem hasPre_list (a b : List UInt8) : hasPre ⟨a.toArray⟩ ⟨b.toArray⟩ = b.isPrefixOf a := by
  unfold hasPre
  have h1 : ((⟨a.toArray⟩ : ByteArray).extract 0 (⟨b.toArray⟩ : ByteArray).size).toList = a.take b.length := by
    rw [ByteArray.toList_eq, ByteArray.data_extract, size_list]
    simp [List.extract_toArray, List.extract_eq_take_drop]
  have h2 : (⟨b.toArray⟩ : ByteArray).toList = b := by rw [ByteArray.toList_eq]
  rw [h1, h2, size_list, size_list, Bool.eq_iff_iff]
  simp only [Bool.and_eq_true, decide_eq_true_eq, beq_iff_eq, List.isPrefixOf_iff_prefix]
  constructor
  · rintro ⟨_, h⟩
    have := List.take_prefix b.length a
    rwa [h] at this
  · intro h
    exact ⟨h.length_le, (List.prefix_iff_eq_take.1 h).symm⟩
def onD (on : List (Int × Int)) : Dat := .sl (on.map fun p => [.lit (.int .i64 p.1), .lit (.int .i64 p.2)])
def keyV (row : List Val) : List Int → Option (List Val)
  | [] => some []
  | c :: cs => if (atE row c).kind = 0 then none else (keyV row cs).map ((atE row c) :: ·)
theorem keyV_snoc (row : List Val) : ∀ (cs : List Int) (c : Int), keyV row (cs ++ [c]) = (keyV row cs).bind fun l => if (atE row c).kind = 0 then none else some (l ++ [atE row c])
  | [], c => by simp [keyV]
  | d :: cs, c => by
    rw [List.cons_append, keyV, keyV, keyV_snoc row cs c]
    split
    · rfl
    · cases keyV row cs with
      | none => rfl
      | some l => simp; split <;> rfl
theorem keyV_len (row : List Val) : ∀ (cs : List Int) (l : List Val), keyV row cs = some l → l.length = cs.length
  | [], l, h => by simp [keyV] at h; subst h; rfl
  | c :: cs, l, h => by
    rw [keyV] at h
    split at h
    · cases h
    · cases hq : keyV row cs with
      | none => rw [hq] at h; cases h
      | some m => rw [hq] at h; simp at h; subst h; simp [keyV_len row cs m hq]
theorem keyV_take {row : List Val} {cs : List Int} {i : Nat} (h : keyV row (cs.take i) = none) : keyV row cs = none := by
  induction cs generalizing i with
  | nil => simp [keyV] at h
  | cons c cs ih =>
    cases i with
    | zero => simp [keyV] at h
    | succ i =>
      rw [List.take_succ_cons, keyV] at h
      rw [keyV]
      split
      · rfl
      · rename_i hk
        rw [if_neg hk] at h
        cases hq : keyV row (cs.take i) with
        | none => rw [ih hq]; rfl
        | some m => rw [hq] at h; cases h
def keyR (o : Option (List Val)) : PRes := match o with
  | some l => .tup [.one (strD (encRow l)), .one (.lit (.bool true))]
  | none => .tup [.one (strD []), .one (.lit (.bool false))]
theorem keyOf0_c (row : List Val) (on : List (Int × Int)) (hon : on.length ≤ 10000) : PCall Tryz.prog 193 [.one (rowD row), .one (onD on), .one (.lit (.int .i64 0))] (keyR (keyV row (on.map Prod.fst))) := by
  refine pcallN hT Tryz.func193 Tryz.ntmps193 [.tmp 6, .tmp 7] fun B => ?_
  repeat' (first | refine ks ?_ | refine ko ?_ | refine s_indexD ?_ (hel := (by first | exact rfl)) | refine kg ?_ ?_ | refine kf ?_ | fail)
  refine s_lp (X := Nat × List Val) [6, 7, 9, 10, 16, 17, 18, 19, 20, 21, 22, 23, 24, 25, 26, 27, 28, 29, 30, 31, 32, 33, 34, 35] (fun x => x.1 ≤ on.length ∧ keyV row ((on.map Prod.fst).take x.1) = some x.2) (fun x lz => (16, (.c (.d (.lit (.int .i64 x.1))))) :: lz) (fun x => [.arr 1 73 3 (x.2.map Val.d ++ List.replicate (on.length - x.1) Val.null.d)]) (fun x => on.length - x.1) ((0, [])) ?_ ?_ ?_ ?_
  repeat' (first | exact slots_nil | refine kw ?_ | exact memIn_nil | refine kv ?_ ?_ | omega)
  · exact ⟨by simp, by simp [keyV]⟩
  rintro ⟨i, l⟩ c ⟨hi, hinv⟩
  dsimp only at hi hinv ⊢
  have hll := keyV_len _ _ _ hinv
  have hll : l.length = i := by rw [hll]; simp; omega
  by_cases hlt : i < on.length
  · have hv : on[i]? = some on[i] := List.getElem?_eq_getElem hlt
    generalize on[i] = p at hv
    have htk : (on.map Prod.fst).take (i + 1) = (on.map Prod.fst).take i ++ [p.1] := by rw [List.take_add_one, List.getElem?_map, hv]; rfl
    have hsn := keyV_snoc row ((on.map Prod.fst).take i) p.1
    rw [← htk, hinv] at hsn
    simp only [Option.bind_some] at hsn
    have hrep : List.replicate (on.length - i) Val.null.d = Val.null.d :: List.replicate (on.length - (i + 1)) Val.null.d := by rw [show on.length - i = (on.length - (i + 1)) + 1 by omega, List.replicate_succ]
    have he : (l.map Val.d ++ List.replicate (on.length - i) Val.null.d)[i]? = some Val.null.d := by rw [hrep, List.getElem?_append_right (by simp; omega)]; simp [hll]
    have hset : (l.map Val.d ++ List.replicate (on.length - i) Val.null.d).set i (atE row p.1).d = (l ++ [atE row p.1]).map Val.d ++ List.replicate (on.length - (i + 1)) Val.null.d := by
      rw [hrep, List.set_append_right _ _ (by simp; omega)]; simp [hll]
    have hcell := alCell_c row p.1
    generalize hq : atE row p.1 = u at hset hsn hcell
    have he2 : ((l.map Val.d ++ List.replicate (on.length - i) Val.null.d).set i u.d)[i]? = some u.d := List.getElem?_set_self (by simp; omega)
    by_cases hk : u.kind = 0
    · rw [if_pos hk] at hsn
      rw [keyV_take hsn]
      repeat' (first | refine ks ?_ | refine ko ?_ | refine s_loadA1 ?_ (he' := (by first | exact hv | exact he | exact he2 | exact rfl)) | refine s_indexD ?_ (hel := (by first | exact idx_map hv (by omega) | exact idx_map he (by omega) | exact idx_map he2 (by omega) | exact hv | exact he | exact he2 | exact rfl)) | refine s_call (hcell) ?_ | refine s_storeA ?_ (hj := (by first | exact hv | exact he | exact he2 | exact rfl)) | refine kg ?_ ?_ | refine kf ?_ | fail)
      all_goals rfl
    · rw [if_neg hk] at hsn
      repeat' (first | refine ks ?_ | refine ko ?_ | refine s_loadA1 ?_ (he' := (by first | exact hv | exact he | exact he2 | exact rfl)) | refine s_indexD ?_ (hel := (by first | exact idx_map hv (by omega) | exact idx_map he (by omega) | exact idx_map he2 (by omega) | exact hv | exact he | exact he2 | exact rfl)) | refine s_call (hcell) ?_ | refine s_storeA ?_ (hj := (by first | exact hv | exact he | exact he2 | exact rfl)) | refine kg ?_ ?_ | refine kf ?_ | fail)
      (apply s_round ((i + 1, l ++ [u])); all_goals (try dsimp only); all_goals (try (repeat' (first | exact slots_nil | refine kw ?_ | exact memIn_nil | refine kv ?_ ?_ | omega))))
      · exact hset
      · exact ⟨by omega, hsn⟩
  · have hie : i = on.length := by omega
    subst hie
    rw [List.take_of_length_le (by simp)] at hinv
    have hen := encodeRow_c l (by omega)
    have hsf : ∀ mem : List Blk, mem[0]? = some (.arr 1 73 3 (l.map Val.d ++ List.replicate (on.length - on.length) Val.null.d)) → SFs mem [.c (.arr 0 1 on.length)] [.one (rowD l)] := fun mem hm => sfs_arr hm (by simp; omega) (by simp [← hll]; exact List.take_of_length_le (by simp))
    rw [hinv]
    repeat' (first | refine ks ?_ | refine ko ?_ | refine s_indexD ?_ (hel := (by first | exact rfl)) | refine s_callB hen (hsf _ rfl) ?_ | refine kg ?_ ?_ | refine kf ?_ | fail)
    all_goals rfl
theorem keyOf1_c (row : List Val) (on : List (Int × Int)) (hon : on.length ≤ 10000) : PCall Tryz.prog 193 [.one (rowD row), .one (onD on), .one (.lit (.int .i64 1))] (keyR (keyV row (on.map Prod.snd))) := by
  refine pcallN hT Tryz.func193 Tryz.ntmps193 [.tmp 6, .tmp 7] fun B => ?_
  repeat' (first | refine ks ?_ | refine ko ?_ | refine s_indexD ?_ (hel := (by first | exact rfl)) | refine kg ?_ ?_ | refine kf ?_ | fail)
  refine s_lp (X := Nat × List Val) [6, 7, 9, 10, 16, 17, 18, 19, 20, 21, 22, 23, 24, 25, 26, 27, 28, 29, 30, 31, 32, 33, 34, 35] (fun x => x.1 ≤ on.length ∧ keyV row ((on.map Prod.snd).take x.1) = some x.2) (fun x lz => (16, (.c (.d (.lit (.int .i64 x.1))))) :: lz) (fun x => [.arr 1 73 3 (x.2.map Val.d ++ List.replicate (on.length - x.1) Val.null.d)]) (fun x => on.length - x.1) ((0, [])) ?_ ?_ ?_ ?_
  repeat' (first | exact slots_nil | refine kw ?_ | exact memIn_nil | refine kv ?_ ?_ | omega)
  · exact ⟨by simp, by simp [keyV]⟩
  rintro ⟨i, l⟩ c ⟨hi, hinv⟩
  dsimp only at hi hinv ⊢
  have hll := keyV_len _ _ _ hinv
  have hll : l.length = i := by rw [hll]; simp; omega
  by_cases hlt : i < on.length
  · have hv : on[i]? = some on[i] := List.getElem?_eq_getElem hlt
    generalize on[i] = p at hv
    have htk : (on.map Prod.snd).take (i + 1) = (on.map Prod.snd).take i ++ [p.2] := by rw [List.take_add_one, List.getElem?_map, hv]; rfl
    have hsn := keyV_snoc row ((on.map Prod.snd).take i) p.2
    rw [← htk, hinv] at hsn
    simp only [Option.bind_some] at hsn
    have hrep : List.replicate (on.length - i) Val.null.d = Val.null.d :: List.replicate (on.length - (i + 1)) Val.null.d := by rw [show on.length - i = (on.length - (i + 1)) + 1 by omega, List.replicate_succ]
    have he : (l.map Val.d ++ List.replicate (on.length - i) Val.null.d)[i]? = some Val.null.d := by rw [hrep, List.getElem?_append_right (by simp; omega)]; simp [hll]
    have hset : (l.map Val.d ++ List.replicate (on.length - i) Val.null.d).set i (atE row p.2).d = (l ++ [atE row p.2]).map Val.d ++ List.replicate (on.length - (i + 1)) Val.null.d := by
      rw [hrep, List.set_append_right _ _ (by simp; omega)]; simp [hll]
    have hcell := alCell_c row p.2
    generalize hq : atE row p.2 = u at hset hsn hcell
    have he2 : ((l.map Val.d ++ List.replicate (on.length - i) Val.null.d).set i u.d)[i]? = some u.d := List.getElem?_set_self (by simp; omega)
    by_cases hk : u.kind = 0
    · rw [if_pos hk] at hsn
      rw [keyV_take hsn]
      repeat' (first | refine ks ?_ | refine ko ?_ | refine s_loadA1 ?_ (he' := (by first | exact hv | exact he | exact he2 | exact rfl)) | refine s_indexD ?_ (hel := (by first | exact idx_map hv (by omega) | exact idx_map he (by omega) | exact idx_map he2 (by omega) | exact hv | exact he | exact he2 | exact rfl)) | refine s_call (hcell) ?_ | refine s_storeA ?_ (hj := (by first | exact hv | exact he | exact he2 | exact rfl)) | refine kg ?_ ?_ | refine kf ?_ | fail)
      all_goals rfl
    · rw [if_neg hk] at hsn
      repeat' (first | refine ks ?_ | refine ko ?_ | refine s_loadA1 ?_ (he' := (by first | exact hv | exact he | exact he2 | exact rfl)) | refine s_indexD ?_ (hel := (by first | exact idx_map hv (by omega) | exact idx_map he (by omega) | exact idx_map he2 (by omega) | exact hv | exact he | exact he2 | exact rfl)) | refine s_call (hcell) ?_ | refine s_storeA ?_ (hj := (by first | exact hv | exact he | exact he2 | exact rfl)) | refine kg ?_ ?_ | refine kf ?_ | fail)
      (apply s_round ((i + 1, l ++ [u])); all_goals (try dsimp only); all_goals (try (repeat' (first | exact slots_nil | refine kw ?_ | exact memIn_nil | refine kv ?_ ?_ | omega))))
      · exact hset
      · exact ⟨by omega, hsn⟩
  · have hie : i = on.length := by omega
    subst hie
    rw [List.take_of_length_le (by simp)] at hinv
    have hen := encodeRow_c l (by omega)
    have hsf : ∀ mem : List Blk, mem[0]? = some (.arr 1 73 3 (l.map Val.d ++ List.replicate (on.length - on.length) Val.null.d)) → SFs mem [.c (.arr 0 1 on.length)] [.one (rowD l)] := fun mem hm => sfs_arr hm (by simp; omega) (by simp [← hll]; exact List.take_of_length_le (by simp))
    rw [hinv]
    repeat' (first | refine ks ?_ | refine ko ?_ | refine s_indexD ?_ (hel := (by first | exact rfl)) | refine s_callB hen (hsf _ rfl) ?_ | refine kg ?_ ?_ | refine kf ?_ | fail)
    all_goals rfl
end Go.Proofs.YtmpgmjlanngkfaaGreat
end
