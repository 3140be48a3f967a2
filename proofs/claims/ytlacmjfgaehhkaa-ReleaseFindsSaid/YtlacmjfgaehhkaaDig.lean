/-
  Releases: Differences, the program's.
-/
import Derived.Test.YtlacmjfgaehhkaaDif
import Derived.Test.YtlacmjfgaehhkaaLaid
namespace Go.Proofs.Ytlacmjfgaehhkaa
open Go.Abs Go.RowKit
attribute [local irreducible] ARun kont MCall PCall HCall resVal SF CF CFs defersOk slotsIn memIn fin finM VLe
set_option linter.unusedSimpArgs false
set_option maxRecDepth 100000
set_option maxHeartbeats 4000000

def lkB (acc : List (List UInt8 × Int)) (k : List UInt8) : Option Int := (acc.find? fun e => e.1 == k).map (·.2)

theorem lkB_add (acc : List (List UInt8 × Int)) (p : Pub) (k : List UInt8) : lkB (firstAdd acc p) k = (lkB acc k).or (if encRow p.keys = k then some p.count else none) := by
  unfold firstAdd
  split
  · rename_i h
    obtain ⟨e, he, hk⟩ := List.any_eq_true.1 h
    by_cases hq : encRow p.keys = k
    · subst hq
      have : (lkB acc (encRow p.keys)).isSome = true := by
        unfold lkB
        rw [Option.isSome_map, List.find?_isSome]
        exact ⟨e, he, hk⟩
      obtain ⟨n, hn⟩ := Option.isSome_iff_exists.1 this
      rw [hn]; simp
    · rw [if_neg hq]; simp
  · unfold lkB
    rw [List.find?_append]
    cases hf : acc.find? (fun e => e.1 == k) with
    | some x => simp
    | none =>
      by_cases hq : encRow p.keys = k
      · simp [hq, List.find?]
      · have : (encRow p.keys == k) = false := by simpa using hq
        simp [hq, List.find?, this]

theorem lkB_fold : ∀ (l : List Pub) (acc : List (List UInt8 × Int)) (k : List Val), lkB (l.foldl firstAdd acc) (encRow k) = (lkB acc (encRow k)).or (findP l k)
  | [], acc, k => by simp [findP]
  | p :: l, acc, k => by
    rw [List.foldl_cons, lkB_fold l, lkB_add, findP_cons, Option.or_assoc]
    congr 1
    by_cases h : rowCmp p.keys k = 0
    · rw [if_pos h, if_pos (encRow_iff.2 h)]; rfl
    · rw [if_neg h, if_neg (fun q => h (encRow_iff.1 q))]; rfl

theorem firstL_lk (l : List Pub) (k : List Val) : lkB (firstL l) (encRow k) = findP l k := by
  rw [firstL, lkB_fold]; rfl

def cntP (l : List Pub) (k : List Val) : Int := (findP l k).getD 0

theorem look_first (l : List Pub) (k : List Val) : MLk ((firstL l).map kvD) (.string ⟨(encRow k).toArray⟩) (.one (.lit (.int .i64 0))) (.one (.lit (.int .i64 (cntP l k)))) := by
  have h := firstL_lk l k
  unfold cntP
  cases hf : findP l k with
  | some n =>
    rw [hf] at h
    unfold lkB at h
    cases hx : (firstL l).find? (fun e => e.1 == encRow k) with
    | none => rw [hx] at h; cases h
    | some e =>
      rw [hx] at h
      simp only [Option.map_some, Option.some.injEq] at h
      have hm := List.mem_of_find?_eq_some hx
      have hk := List.find?_some hx
      obtain ⟨j, hj⟩ := List.mem_iff_getElem?.1 hm
      refine .inl ⟨j, ?_⟩
      have : e.1 = encRow k := by simpa using hk
      rw [List.getElem?_map, hj, ← this, ← h]
      rfl
  | none =>
    rw [hf] at h
    unfold lkB at h
    cases hx : (firstL l).find? (fun e => e.1 == encRow k) with
    | some e => rw [hx] at h; cases h
    | none =>
      refine .inr ⟨kv_not ?_, rfl⟩
      rw [List.any_eq_false]
      exact List.find?_eq_none.1 hx

def diffAt (a b : List Pub) (k : List Val) : Int := IntKind.i64.wrap (cntP b k - cntP a k)

/-- The differences along a sorted list of keys. -/
def ddFrom (a b : List Pub) : Option (List Val) → List (List Val) → List Pub
  | _, [] => []
  | prev, k :: S => (if prev.any (fun q => decide (rowCmp q k = 0)) = true ∨ diffAt a b k = 0 then [] else [⟨k, diffAt a b k⟩]) ++ ddFrom a b (some k) S

theorem ddFrom_len (a b : List Pub) : ∀ (prev : Option (List Val)) (S : List (List Val)), (ddFrom a b prev S).length ≤ S.length
  | _, [] => by simp [ddFrom]
  | prev, k :: S => by
    have := ddFrom_len a b (some k) S
    rw [ddFrom, List.length_append, List.length_cons]
    split <;> simp <;> omega

def kc (p : Pub) : List Val := p.keys.map Val.clean
def keysAll (a b : List Pub) : List (List Val) := a.map kc ++ b.map kc
noncomputable def diffP (a b : List Pub) : List Pub := ddFrom a b none (sortF rowCmp (keysAll a b))
def rD (r : List Val) : List Dat := [rowD r]
def mapBlk (l : List Pub) (v : Nat) : Blk := .map v 9 2 ((firstL l).map kvD) (List.range (firstL l).length) (firstL l).length
def prevAt (S : List (List Val)) (i : Nat) : Option (List Val) := if i = 0 then none else S[i - 1]?

theorem differences_c (a b : List Pub) (ha : a.length ≤ 100000) (hb' : b.length ≤ 100000) (hka : ∀ p ∈ a, p.keys.length ≤ 4096) (hkb : ∀ p ∈ b, p.keys.length ≤ 4096) :
    PCall Try.prog 25 [.one (pubD a), .one (pubD b)] (.v (.one (pubD (diffP a b)))) := by
  have hla := first_h a (fun p hp => by have := hka p hp; omega)
  have hlb := first_h b (fun p hp => by have := hkb p hp; omega)
  refine pcallS hT Try.func25 rfl (by kernel_rfl) _ [.cell 4 31] Try.ntmps25 rfl rfl (by repeat' (first | exact nfNil rfl | apply nfCons (a := ((_, SVal.c _) : Nat × SVal)) rfl | apply nfCons (a := ((_, SVal.agg _) : Nat × SVal)) rfl)) fun B => ?_
  repeat' (first | (with_reducible (first | refine k_seq ?_ | refine k_block ?_ | refine k_skip ?_ | refine k_exit ?_ | refine k_ret ?_ | refine n_seq ?_ | refine n_block ?_ | refine e_seq ?_ | refine e_here ?_ | refine r_seq ?_ | refine r_block ?_ | refine o_exit ?_ | refine o_ret ?_)) | ((with_reducible refine is_region ?_); refine s_reg ?_) | ((with_reducible refine is_cond ?_); first | refine s_ifT ?_ | refine s_ifF ?_ | refine s_if rfl (fun hb => ?_) (fun hb => ?_)) | ((with_reducible refine is_exit ?_); refine s_past ?_) | ((with_reducible refine is_end ?_); first | refine r_end ?_ | refine s_endD ?_) | ((with_reducible refine is_guard ?_); first | refine s_skipS ?_ | refine s_skipU ?_ | refine s_skipN ?_ | refine s_skipUN ?_) | ((with_reducible refine is_move ?_); (first | refine s_move ?_ | fail)) | ((with_reducible refine is_assign ?_); (first | refine s_assign ?_ | fail)) | ((with_reducible refine is_bin ?_); (first | refine s_int ?_ | refine s_str ?_ | refine s_eqB ?_ | refine s_neB ?_ | refine s_eqA ?_ | refine s_neA ?_ | refine s_shr ?_ | refine s_shl ?_ | refine s_or ?_ | refine s_xor ?_ | refine s_eqNil (fun b hnil => ?_) | fail)) | ((with_reducible refine is_load ?_); (first | refine s_loadF1 ?_ | refine s_loadB1 ?_ | refine s_loadFA ?_ | refine s_loadBA ?_ | fail)) | ((with_reducible refine is_index ?_); (first | refine s_indexD ?_ (hel := (by first | exact rfl)) | refine s_indexA ?_ | refine s_indexVF ?_ | refine s_indexVB ?_ | fail)) | ((with_reducible refine is_field ?_); (first | refine s_fieldF ?_ | refine s_fieldB ?_ | refine s_fieldA ?_ | fail)) | ((with_reducible refine is_call ?_); (first | refine s_callH [] (hla) ?_ | refine s_callH [] (hlb) ?_ | fail)) | ((with_reducible refine is_pick ?_); (first | refine s_pick ?_ | refine s_pickB ?_ | fail)) | ((with_reducible refine is_built ?_); (first | refine s_lenD ?_ | refine s_lenE ?_ | refine s_lenS ?_ | refine s_lenA ?_ | refine s_appE ?_ | refine s_appA ?_ | refine s_min ?_ | refine s_max ?_ | fail)) | ((with_reducible refine is_store ?_); (first | refine s_storeB ?_ | fail)) | ((with_reducible refine is_bslice ?_); (first | refine s_bslice0 ?_ | refine s_bslice ?_ | fail)) | ((with_reducible refine is_alloc ?_); (first | refine s_alloc ?_ | fail)) | ((with_reducible refine is_build ?_); (first | refine s_build ?_ | fail)) | ((with_reducible refine is_mfunc ?_); (first | refine s_func0 ?_ | refine s_funcD ?_ | refine s_funcC ?_ | fail)) | ((with_reducible refine is_defer ?_); (first | refine s_defer ?_ | fail)) | ((with_reducible refine is_guard ?_); first | refine s_kT ?_ | refine s_kF ?_ | refine s_split rfl rfl (fun hb => ?_) (fun hb => ?_)) | ((with_reducible refine is_fin ?_); first | refine f_ret1 (by repeat (first | exact def_nil | refine def_cons differences1_d ?_)) ?_ | refine f_ret2 (by repeat (first | exact def_nil | refine def_cons differences1_d ?_)) ?_ ?_ | refine f_ret3 (by repeat (first | exact def_nil | refine def_cons differences1_d ?_)) ?_ ?_ ?_ | refine f_end1 (by repeat (first | exact def_nil | refine def_cons differences1_d ?_)) ?_) | ((with_reducible refine is_res ?_); first | refine t_tmp ?_ | refine t_tmpE ?_ | refine t_tmpA rfl rfl ?_ ?_ | refine d_tmpG rfl ?_ | refine t_cell (P := Try.prog) ?_ | refine t_cellG ?_) | ((with_reducible refine is_cfs ?_); first | exact cfs_nil | refine cfs_cons ?_ ?_) | ((with_reducible refine is_cf ?_); first | refine cf_d ?_ | refine cf_emp ?_ | refine cf_arr rfl ?_ ?_))
  refine s_own 7 39 1 ?_
  refine s_lp (X := Nat × Nat) [7, 9, 23, 24, 25, 26, 27, 28, 29, 30, 31, 32, 33] (fun x => x.1 ≤ a.length) (fun x lz => (7, .c (.arr 3 x.2 ((a.take x.1).map kc).length)) :: (23, (.c (.d (.lit (.int .i64 x.1))))) :: lz) (fun x => [.box 1 [.emp], mapBlk a 2, mapBlk b 3, .arr x.2 39 1 (((a.take x.1).map kc).map rD)]) (fun x => a.length - x.1) ((0, 4)) ?_ ?_ ?_ ?_
  repeat' (first | exact slots_nil | refine w1 ?_ | refine w2 ?_ ?_ | refine w3 ?_ ?_ | refine w4 ?_ ?_ | refine w5 ?_ ?_ | refine w6 ?_ ?_ | refine w7 ?_ | exact memIn_nil | refine memIn_same ?_ | refine m1 ?_ ?_ | refine m2 ?_ ?_ | refine m3 ?_ ?_ ?_ ?_ | refine m4 ?_ ?_ | refine memIn_dead ?_ | omega)
  rintro ⟨i, k⟩ c hi
  dsimp only at hi ⊢
  by_cases hlt : i < a.length
  · have hv : a[i]? = some a[i] := List.getElem?_eq_getElem hlt
    have hkl := hka _ (List.getElem_mem hlt)
    generalize a[i] = p at hv hkl
    have hsn := take_map kc hv
    have hln : ((a.take i).map kc).length = i := by simp; omega
    repeat' (first | (with_reducible (first | refine k_seq ?_ | refine k_block ?_ | refine k_skip ?_ | refine k_exit ?_ | refine k_ret ?_ | refine n_seq ?_ | refine n_block ?_ | refine e_seq ?_ | refine e_here ?_ | refine r_seq ?_ | refine r_block ?_ | refine o_exit ?_ | refine o_ret ?_)) | ((with_reducible refine is_region ?_); refine s_reg ?_) | ((with_reducible refine is_cond ?_); first | refine s_ifT ?_ | refine s_ifF ?_ | refine s_if rfl (fun hb => ?_) (fun hb => ?_)) | ((with_reducible refine is_exit ?_); refine s_past ?_) | ((with_reducible refine is_end ?_); first | refine r_end ?_ | refine s_endD ?_) | ((with_reducible refine is_guard ?_); first | refine s_skipS ?_ | refine s_skipU ?_ | refine s_skipN ?_ | refine s_skipUN ?_) | ((with_reducible refine is_move ?_); (first | refine s_move ?_ | fail)) | ((with_reducible refine is_assign ?_); (first | refine s_assign ?_ | fail)) | ((with_reducible refine is_bin ?_); (first | refine s_int ?_ | refine s_str ?_ | refine s_eqB ?_ | refine s_neB ?_ | refine s_eqA ?_ | refine s_neA ?_ | refine s_shr ?_ | refine s_shl ?_ | refine s_or ?_ | refine s_xor ?_ | refine s_eqNil (fun b hnil => ?_) | fail)) | ((with_reducible refine is_load ?_); (first | refine s_loadF1 ?_ | refine s_loadB1 ?_ | refine s_loadFA ?_ | refine s_loadBA ?_ | refine s_loadA1 ?_ (he' := (by first | exact rfl | exact hv)) | refine s_loadAA ?_ (he' := (by first | exact rfl | exact hv)) | fail)) | ((with_reducible refine is_index ?_); (first | refine s_indexD ?_ (hel := (by first | exact rfl | exact idx_map hv (by omega) | exact hv)) | refine s_indexA ?_ | refine s_indexVF ?_ | refine s_indexVB ?_ | fail)) | ((with_reducible refine is_field ?_); (first | refine s_fieldF ?_ | refine s_fieldB ?_ | refine s_fieldA ?_ | fail)) | ((with_reducible refine is_call ?_); (first | refine s_call (clean_row_c _ hkl) ?_ | fail)) | ((with_reducible refine is_pick ?_); (first | refine s_pick ?_ | refine s_pickB ?_ | fail)) | ((with_reducible refine is_built ?_); (first | refine s_lenD ?_ | refine s_lenE ?_ | refine s_lenS ?_ | refine s_lenA ?_ | refine s_appE ?_ | refine s_appA ?_ | refine s_min ?_ | refine s_max ?_ | fail)) | ((with_reducible refine is_store ?_); (first | refine s_storeB ?_ | refine s_storeA ?_ (hj := (by first | exact rfl | exact hv)) | fail)) | ((with_reducible refine is_bslice ?_); (first | refine s_bslice0 ?_ | refine s_bslice ?_ | fail)) | ((with_reducible refine is_alloc ?_); (first | refine s_alloc ?_ | fail)) | ((with_reducible refine is_build ?_); (first | refine s_build ?_ | fail)) | ((with_reducible refine is_mfunc ?_); (first | refine s_func0 ?_ | refine s_funcD ?_ | refine s_funcC ?_ | fail)) | ((with_reducible refine is_defer ?_); (first | refine s_defer ?_ | fail)) | ((with_reducible refine is_guard ?_); first | refine s_kT ?_ | refine s_kF ?_ | refine s_split rfl rfl (fun hb => ?_) (fun hb => ?_)) | ((with_reducible refine is_fin ?_); first | refine f_ret1 (by repeat (first | exact def_nil | refine def_cons differences1_d ?_)) ?_ | refine f_ret2 (by repeat (first | exact def_nil | refine def_cons differences1_d ?_)) ?_ ?_ | refine f_ret3 (by repeat (first | exact def_nil | refine def_cons differences1_d ?_)) ?_ ?_ ?_ | refine f_end1 (by repeat (first | exact def_nil | refine def_cons differences1_d ?_)) ?_) | ((with_reducible refine is_res ?_); first | refine t_tmp ?_ | refine t_tmpE ?_ | refine t_tmpA rfl rfl ?_ ?_ | refine d_tmpG rfl ?_ | refine t_cell (P := Try.prog) ?_ | refine t_cellG ?_) | ((with_reducible refine is_cfs ?_); first | exact cfs_nil | refine cfs_cons ?_ ?_) | ((with_reducible refine is_cf ?_); first | refine cf_d ?_ | refine cf_emp ?_ | refine cf_arr rfl ?_ ?_))
    (apply s_round ((i + 1, _)); all_goals (try dsimp only); all_goals (try (repeat' (first | exact slots_nil | refine w1 ?_ | refine w2 ?_ ?_ | refine w3 ?_ ?_ | refine w4 ?_ ?_ | refine w5 ?_ ?_ | refine w6 ?_ ?_ | refine w7 ?_ | exact memIn_nil | refine memIn_same ?_ | refine m1 ?_ ?_ | refine m2 ?_ ?_ | refine m3 ?_ ?_ ?_ ?_ | refine m4 ?_ ?_ | refine memIn_dead ?_ | omega))))
    all_goals (rw [hsn, List.map_append]; rfl)
  · rw [take_ge (show a.length ≤ i by omega)]
    repeat' (first | (with_reducible (first | refine k_seq ?_ | refine k_block ?_ | refine k_skip ?_ | refine k_exit ?_ | refine k_ret ?_ | refine n_seq ?_ | refine n_block ?_ | refine e_seq ?_ | refine e_here ?_ | refine r_seq ?_ | refine r_block ?_ | refine o_exit ?_ | refine o_ret ?_)) | ((with_reducible refine is_region ?_); refine s_reg ?_) | ((with_reducible refine is_cond ?_); first | refine s_ifT ?_ | refine s_ifF ?_ | refine s_if rfl (fun hb => ?_) (fun hb => ?_)) | ((with_reducible refine is_exit ?_); refine s_past ?_) | ((with_reducible refine is_end ?_); first | refine r_end ?_ | refine s_endD ?_) | ((with_reducible refine is_guard ?_); first | refine s_skipS ?_ | refine s_skipU ?_ | refine s_skipN ?_ | refine s_skipUN ?_) | ((with_reducible refine is_move ?_); (first | refine s_move ?_ | fail)) | ((with_reducible refine is_assign ?_); (first | refine s_assign ?_ | fail)) | ((with_reducible refine is_bin ?_); (first | refine s_int ?_ | refine s_str ?_ | refine s_eqB ?_ | refine s_neB ?_ | refine s_eqA ?_ | refine s_neA ?_ | refine s_shr ?_ | refine s_shl ?_ | refine s_or ?_ | refine s_xor ?_ | refine s_eqNil (fun b hnil => ?_) | fail)) | ((with_reducible refine is_load ?_); (first | refine s_loadF1 ?_ | refine s_loadB1 ?_ | refine s_loadFA ?_ | refine s_loadBA ?_ | fail)) | ((with_reducible refine is_index ?_); (first | refine s_indexD ?_ (hel := (by first | exact rfl)) | refine s_indexA ?_ | refine s_indexVF ?_ | refine s_indexVB ?_ | fail)) | ((with_reducible refine is_field ?_); (first | refine s_fieldF ?_ | refine s_fieldB ?_ | refine s_fieldA ?_ | fail)) | ((with_reducible refine is_pick ?_); (first | refine s_pick ?_ | refine s_pickB ?_ | fail)) | ((with_reducible refine is_built ?_); (first | refine s_lenD ?_ | refine s_lenE ?_ | refine s_lenS ?_ | refine s_lenA ?_ | refine s_appE ?_ | refine s_appA ?_ | refine s_min ?_ | refine s_max ?_ | fail)) | ((with_reducible refine is_store ?_); (first | refine s_storeB ?_ | fail)) | ((with_reducible refine is_bslice ?_); (first | refine s_bslice0 ?_ | refine s_bslice ?_ | fail)) | ((with_reducible refine is_alloc ?_); (first | refine s_alloc ?_ | fail)) | ((with_reducible refine is_build ?_); (first | refine s_build ?_ | fail)) | ((with_reducible refine is_mfunc ?_); (first | refine s_func0 ?_ | refine s_funcD ?_ | refine s_funcC ?_ | fail)) | ((with_reducible refine is_defer ?_); (first | refine s_defer ?_ | fail)) | ((with_reducible refine is_guard ?_); first | refine s_kT ?_ | refine s_kF ?_ | refine s_split rfl rfl (fun hb => ?_) (fun hb => ?_)) | ((with_reducible refine is_fin ?_); first | refine f_ret1 (by repeat (first | exact def_nil | refine def_cons differences1_d ?_)) ?_ | refine f_ret2 (by repeat (first | exact def_nil | refine def_cons differences1_d ?_)) ?_ ?_ | refine f_ret3 (by repeat (first | exact def_nil | refine def_cons differences1_d ?_)) ?_ ?_ ?_ | refine f_end1 (by repeat (first | exact def_nil | refine def_cons differences1_d ?_)) ?_) | ((with_reducible refine is_res ?_); first | refine t_tmp ?_ | refine t_tmpE ?_ | refine t_tmpA rfl rfl ?_ ?_ | refine d_tmpG rfl ?_ | refine t_cell (P := Try.prog) ?_ | refine t_cellG ?_) | ((with_reducible refine is_cfs ?_); first | exact cfs_nil | refine cfs_cons ?_ ?_) | ((with_reducible refine is_cf ?_); first | refine cf_d ?_ | refine cf_emp ?_ | refine cf_arr rfl ?_ ?_))
    refine s_lp (X := Nat × Nat) [7, 11, 36, 37, 38, 39, 40, 41, 42, 43, 44, 45, 46] (fun x => x.1 ≤ b.length) (fun x lz => (7, .c (.arr 3 x.2 (a.map kc ++ (b.take x.1).map kc).length)) :: (36, (.c (.d (.lit (.int .i64 x.1))))) :: lz) (fun x => [.box 1 [.emp], mapBlk a 2, mapBlk b 3, .arr x.2 39 1 ((a.map kc ++ (b.take x.1).map kc).map rD)]) (fun x => b.length - x.1) ((0, k)) ?_ ?_ ?_ ?_
    repeat' (first | exact slots_nil | refine w1 ?_ | refine w2 ?_ ?_ | refine w3 ?_ ?_ | refine w4 ?_ ?_ | refine w5 ?_ ?_ | refine w6 ?_ ?_ | refine w7 ?_ | exact memIn_nil | refine memIn_same ?_ | refine m1 ?_ ?_ | refine m2 ?_ ?_ | refine m3 ?_ ?_ ?_ ?_ | refine m4 ?_ ?_ | refine memIn_dead ?_ | omega)
    all_goals try (simp only [List.take_zero, List.map_nil, List.append_nil]; done)
    rintro ⟨j, k⟩ c hj
    dsimp only at hj ⊢
    by_cases hlt : j < b.length
    · have hv : b[j]? = some b[j] := List.getElem?_eq_getElem hlt
      have hkl := hkb _ (List.getElem_mem hlt)
      generalize b[j] = p at hv hkl
      have hsn := take_map kc hv
      have hln : (a.map kc ++ (b.take j).map kc).length = a.length + j := by simp; omega
      repeat' (first | (with_reducible (first | refine k_seq ?_ | refine k_block ?_ | refine k_skip ?_ | refine k_exit ?_ | refine k_ret ?_ | refine n_seq ?_ | refine n_block ?_ | refine e_seq ?_ | refine e_here ?_ | refine r_seq ?_ | refine r_block ?_ | refine o_exit ?_ | refine o_ret ?_)) | ((with_reducible refine is_region ?_); refine s_reg ?_) | ((with_reducible refine is_cond ?_); first | refine s_ifT ?_ | refine s_ifF ?_ | refine s_if rfl (fun hb => ?_) (fun hb => ?_)) | ((with_reducible refine is_exit ?_); refine s_past ?_) | ((with_reducible refine is_end ?_); first | refine r_end ?_ | refine s_endD ?_) | ((with_reducible refine is_guard ?_); first | refine s_skipS ?_ | refine s_skipU ?_ | refine s_skipN ?_ | refine s_skipUN ?_) | ((with_reducible refine is_move ?_); (first | refine s_move ?_ | fail)) | ((with_reducible refine is_assign ?_); (first | refine s_assign ?_ | fail)) | ((with_reducible refine is_bin ?_); (first | refine s_int ?_ | refine s_str ?_ | refine s_eqB ?_ | refine s_neB ?_ | refine s_eqA ?_ | refine s_neA ?_ | refine s_shr ?_ | refine s_shl ?_ | refine s_or ?_ | refine s_xor ?_ | refine s_eqNil (fun b hnil => ?_) | fail)) | ((with_reducible refine is_load ?_); (first | refine s_loadF1 ?_ | refine s_loadB1 ?_ | refine s_loadFA ?_ | refine s_loadBA ?_ | refine s_loadA1 ?_ (he' := (by first | exact rfl | exact hv)) | refine s_loadAA ?_ (he' := (by first | exact rfl | exact hv)) | fail)) | ((with_reducible refine is_index ?_); (first | refine s_indexD ?_ (hel := (by first | exact rfl | exact idx_map hv (by omega) | exact hv)) | refine s_indexA ?_ | refine s_indexVF ?_ | refine s_indexVB ?_ | fail)) | ((with_reducible refine is_field ?_); (first | refine s_fieldF ?_ | refine s_fieldB ?_ | refine s_fieldA ?_ | fail)) | ((with_reducible refine is_call ?_); (first | refine s_call (clean_row_c _ hkl) ?_ | fail)) | ((with_reducible refine is_pick ?_); (first | refine s_pick ?_ | refine s_pickB ?_ | fail)) | ((with_reducible refine is_built ?_); (first | refine s_lenD ?_ | refine s_lenE ?_ | refine s_lenS ?_ | refine s_lenA ?_ | refine s_appE ?_ | refine s_appA ?_ | refine s_min ?_ | refine s_max ?_ | fail)) | ((with_reducible refine is_store ?_); (first | refine s_storeB ?_ | refine s_storeA ?_ (hj := (by first | exact rfl | exact hv)) | fail)) | ((with_reducible refine is_bslice ?_); (first | refine s_bslice0 ?_ | refine s_bslice ?_ | fail)) | ((with_reducible refine is_alloc ?_); (first | refine s_alloc ?_ | fail)) | ((with_reducible refine is_build ?_); (first | refine s_build ?_ | fail)) | ((with_reducible refine is_mfunc ?_); (first | refine s_func0 ?_ | refine s_funcD ?_ | refine s_funcC ?_ | fail)) | ((with_reducible refine is_defer ?_); (first | refine s_defer ?_ | fail)) | ((with_reducible refine is_guard ?_); first | refine s_kT ?_ | refine s_kF ?_ | refine s_split rfl rfl (fun hb => ?_) (fun hb => ?_)) | ((with_reducible refine is_fin ?_); first | refine f_ret1 (by repeat (first | exact def_nil | refine def_cons differences1_d ?_)) ?_ | refine f_ret2 (by repeat (first | exact def_nil | refine def_cons differences1_d ?_)) ?_ ?_ | refine f_ret3 (by repeat (first | exact def_nil | refine def_cons differences1_d ?_)) ?_ ?_ ?_ | refine f_end1 (by repeat (first | exact def_nil | refine def_cons differences1_d ?_)) ?_) | ((with_reducible refine is_res ?_); first | refine t_tmp ?_ | refine t_tmpE ?_ | refine t_tmpA rfl rfl ?_ ?_ | refine d_tmpG rfl ?_ | refine t_cell (P := Try.prog) ?_ | refine t_cellG ?_) | ((with_reducible refine is_cfs ?_); first | exact cfs_nil | refine cfs_cons ?_ ?_) | ((with_reducible refine is_cf ?_); first | refine cf_d ?_ | refine cf_emp ?_ | refine cf_arr rfl ?_ ?_))
      (apply s_round ((j + 1, _)); all_goals (try dsimp only); all_goals (try (repeat' (first | exact slots_nil | refine w1 ?_ | refine w2 ?_ ?_ | refine w3 ?_ ?_ | refine w4 ?_ ?_ | refine w5 ?_ ?_ | refine w6 ?_ ?_ | refine w7 ?_ | exact memIn_nil | refine memIn_same ?_ | refine m1 ?_ ?_ | refine m2 ?_ ?_ | refine m3 ?_ ?_ ?_ ?_ | refine m4 ?_ ?_ | refine memIn_dead ?_ | omega))))
      all_goals (rw [hsn])
      all_goals first | (simp only [List.map_append, List.append_assoc]; rfl) | (simp; omega)
    · rw [take_ge (show b.length ≤ j by omega)]
      have hS := sortF47_h rowD rowCmp rowCmp_ok.swo 43 (keysAll a b) (by simp [keysAll]; omega) (fun x _ y _ => compareRows_c x y)
      have hperm := (sortF_perm rowCmp_ok.swo (keysAll a b)).length_eq
      have hlen : (keysAll a b).length = a.length + b.length := by simp [keysAll]
      change ARun _ _ _ ⟨_, _, [_, _, _, .arr k 39 1 ((keysAll a b).map rD)], _, _⟩ _
      repeat' (first | (with_reducible (first | refine k_seq ?_ | refine k_block ?_ | refine k_skip ?_ | refine k_exit ?_ | refine k_ret ?_ | refine n_seq ?_ | refine n_block ?_ | refine e_seq ?_ | refine e_here ?_ | refine r_seq ?_ | refine r_block ?_ | refine o_exit ?_ | refine o_ret ?_)) | ((with_reducible refine is_region ?_); refine s_reg ?_) | ((with_reducible refine is_cond ?_); first | refine s_ifT ?_ | refine s_ifF ?_ | refine s_if rfl (fun hb => ?_) (fun hb => ?_)) | ((with_reducible refine is_exit ?_); refine s_past ?_) | ((with_reducible refine is_end ?_); first | refine r_end ?_ | refine s_endD ?_) | ((with_reducible refine is_guard ?_); first | refine s_skipS ?_ | refine s_skipU ?_ | refine s_skipN ?_ | refine s_skipUN ?_) | ((with_reducible refine is_move ?_); (first | refine s_move ?_ | fail)) | ((with_reducible refine is_assign ?_); (first | refine s_assign ?_ | fail)) | ((with_reducible refine is_bin ?_); (first | refine s_int ?_ | refine s_str ?_ | refine s_eqB ?_ | refine s_neB ?_ | refine s_eqA ?_ | refine s_neA ?_ | refine s_shr ?_ | refine s_shl ?_ | refine s_or ?_ | refine s_xor ?_ | refine s_eqNil (fun b hnil => ?_) | fail)) | ((with_reducible refine is_load ?_); (first | refine s_loadF1 ?_ | refine s_loadB1 ?_ | refine s_loadFA ?_ | refine s_loadBA ?_ | fail)) | ((with_reducible refine is_index ?_); (first | refine s_indexD ?_ (hel := (by first | exact rfl)) | refine s_indexA ?_ | refine s_indexVF ?_ | refine s_indexVB ?_ | fail)) | ((with_reducible refine is_field ?_); (first | refine s_fieldF ?_ | refine s_fieldB ?_ | refine s_fieldA ?_ | fail)) | ((with_reducible refine is_call ?_); (first | refine s_callH [3] (hS) ?_ | fail)) | ((with_reducible refine is_pick ?_); (first | refine s_pick ?_ | refine s_pickB ?_ | fail)) | ((with_reducible refine is_built ?_); (first | refine s_lenD ?_ | refine s_lenE ?_ | refine s_lenS ?_ | refine s_lenA ?_ | refine s_appE ?_ | refine s_appA ?_ | refine s_min ?_ | refine s_max ?_ | fail)) | ((with_reducible refine is_store ?_); (first | refine s_storeB ?_ | fail)) | ((with_reducible refine is_bslice ?_); (first | refine s_bslice0 ?_ | refine s_bslice ?_ | fail)) | ((with_reducible refine is_alloc ?_); (first | refine s_alloc ?_ | fail)) | ((with_reducible refine is_build ?_); (first | refine s_build ?_ | fail)) | ((with_reducible refine is_mfunc ?_); (first | refine s_func0 ?_ | refine s_funcD ?_ | refine s_funcC ?_ | fail)) | ((with_reducible refine is_defer ?_); (first | refine s_defer ?_ | fail)) | ((with_reducible refine is_guard ?_); first | refine s_kT ?_ | refine s_kF ?_ | refine s_split rfl rfl (fun hb => ?_) (fun hb => ?_)) | ((with_reducible refine is_fin ?_); first | refine f_ret1 (by repeat (first | exact def_nil | refine def_cons differences1_d ?_)) ?_ | refine f_ret2 (by repeat (first | exact def_nil | refine def_cons differences1_d ?_)) ?_ ?_ | refine f_ret3 (by repeat (first | exact def_nil | refine def_cons differences1_d ?_)) ?_ ?_ ?_ | refine f_end1 (by repeat (first | exact def_nil | refine def_cons differences1_d ?_)) ?_) | ((with_reducible refine is_res ?_); first | refine t_tmp ?_ | refine t_tmpE ?_ | refine t_tmpA rfl rfl ?_ ?_ | refine d_tmpG rfl ?_ | refine t_cell (P := Try.prog) ?_ | refine t_cellG ?_) | ((with_reducible refine is_cfs ?_); first | exact cfs_nil | refine cfs_cons ?_ ?_) | ((with_reducible refine is_cf ?_); first | refine cf_d ?_ | refine cf_emp ?_ | refine cf_arr rfl ?_ ?_))
      refine s_ownBox 0 0 43 2 ?_
      generalize hSe : sortF rowCmp (keysAll a b) = S at hperm
      have hdl := ddFrom_len a b none S
      have hgoal : diffP a b = ddFrom a b none S := by rw [diffP, hSe]
      rw [hgoal]
      refine s_lp (X := Nat × Nat × List Pub) [12, 13, 14, 15, 51, 52, 53, 54, 55, 56, 57, 58, 59, 60, 61, 62, 63, 64, 65, 66, 67, 68, 69, 70, 71, 72, 73, 74, 75, 76, 77, 78, 79, 80, 81, 82, 83, 84, 85] (fun x => x.1 ≤ S.length ∧ x.2.2 ++ ddFrom a b (prevAt S x.1) (S.drop x.1) = ddFrom a b none S) (fun x lz => (51, (.c (.d (.lit (.int .i64 x.1))))) :: lz) (fun x => [.box 1 [.arr 4 x.2.1 x.2.2.length], mapBlk a 2, mapBlk b 3, .arr k 39 1 (S.map rD), .arr x.2.1 43 2 (x.2.2.map Pub.d)]) (fun x => S.length - x.1) ((0, c + 1 + 1, [])) ?_ ?_ ?_ ?_
      repeat' (first | exact slots_nil | refine w1 ?_ | refine w2 ?_ ?_ | refine w3 ?_ ?_ | refine w4 ?_ ?_ | refine w5 ?_ ?_ | refine w6 ?_ ?_ | refine w7 ?_ | exact memIn_nil | refine memIn_same ?_ | refine m1 ?_ ?_ | refine m2 ?_ ?_ | refine m3 ?_ ?_ ?_ ?_ | refine m4 ?_ ?_ | refine memIn_dead ?_ | omega)
      · exact ⟨by simp, by simp [prevAt]⟩
      rintro ⟨i, kv, out⟩ c ⟨hi, hinv⟩
      dsimp only at hi hinv ⊢
      have hol : out.length ≤ S.length := by
        have := congrArg List.length hinv
        simp at this; omega
      have hab : (a.map kc ++ b.map kc).length = S.length := hperm.symm
      by_cases hlt : i < S.length
      · have hv0 : S[i]? = some S[i] := List.getElem?_eq_getElem hlt
        have hkl : S[i].length ≤ 10000 := by
          have hm : S[i] ∈ keysAll a b := (sortF_perm rowCmp_ok.swo (keysAll a b)).mem_iff.1 (by rw [hSe]; exact List.getElem_mem hlt)
          rcases List.mem_append.1 hm with hm | hm
          · obtain ⟨p, hp, hq⟩ := List.mem_map.1 hm
            have := hka p hp
            rw [← hq, kc, List.length_map]; omega
          · obtain ⟨p, hp, hq⟩ := List.mem_map.1 hm
            have := hkb p hp
            rw [← hq, kc, List.length_map]; omega
        generalize S[i] = k0 at hv0 hkl
        have hv : (S.map rD)[i]? = some (rD k0) := by rw [List.getElem?_map, hv0]; rfl
        rw [drop_cons hv0, ddFrom] at hinv
        have hLa := look_first a k0
        have hLb := look_first b k0
        have hpn : prevAt S (i + 1) = some k0 := by simp [prevAt, hv0]
        by_cases hi0 : i = 0
        · subst hi0
          repeat' (first | (with_reducible (first | refine k_seq ?_ | refine k_block ?_ | refine k_skip ?_ | refine k_exit ?_ | refine k_ret ?_ | refine n_seq ?_ | refine n_block ?_ | refine e_seq ?_ | refine e_here ?_ | refine r_seq ?_ | refine r_block ?_ | refine o_exit ?_ | refine o_ret ?_)) | ((with_reducible refine is_region ?_); refine s_reg ?_) | ((with_reducible refine is_cond ?_); first | refine s_ifT ?_ | refine s_ifF ?_ | refine s_if rfl (fun hb => ?_) (fun hb => ?_)) | ((with_reducible refine is_exit ?_); refine s_past ?_) | ((with_reducible refine is_end ?_); first | refine r_end ?_ | refine s_endD ?_) | ((with_reducible refine is_guard ?_); first | refine s_skipS ?_ | refine s_skipU ?_ | refine s_skipN ?_ | refine s_skipUN ?_) | ((with_reducible refine is_move ?_); (first | refine s_move ?_ | fail)) | ((with_reducible refine is_assign ?_); (first | refine s_assign ?_ | fail)) | ((with_reducible refine is_bin ?_); (first | refine s_int ?_ | refine s_str ?_ | refine s_eqB ?_ | refine s_neB ?_ | refine s_eqA ?_ | refine s_neA ?_ | refine s_shr ?_ | refine s_shl ?_ | refine s_or ?_ | refine s_xor ?_ | refine s_eqNil (fun b hnil => ?_) | fail)) | ((with_reducible refine is_load ?_); (first | refine s_loadF1 ?_ | refine s_loadB1 ?_ | refine s_loadFA ?_ | refine s_loadBA ?_ | refine s_loadA1 ?_ (he' := (by first | exact rfl | exact hv)) | refine s_loadAA ?_ (he' := (by first | exact rfl | exact hv)) | fail)) | ((with_reducible refine is_index ?_); (first | refine s_indexD ?_ (hel := (by first | exact rfl | exact idx_map hv (by omega) | exact hv)) | refine s_indexA ?_ | refine s_indexVF ?_ | refine s_indexVB ?_ | fail)) | ((with_reducible refine is_field ?_); (first | refine s_fieldF ?_ | refine s_fieldB ?_ | refine s_fieldA ?_ | fail)) | ((with_reducible refine is_call ?_); (first | refine s_call (encodeRow_c _ hkl) ?_ | fail)) | ((with_reducible refine is_pick ?_); (first | refine s_pick ?_ | refine s_pickB ?_ | fail)) | ((with_reducible refine is_built ?_); (first | refine s_lenD ?_ | refine s_lenE ?_ | refine s_lenS ?_ | refine s_lenA ?_ | refine s_appE ?_ | refine s_appA ?_ | refine s_min ?_ | refine s_max ?_ | fail)) | ((with_reducible refine is_store ?_); (first | refine s_storeB ?_ | refine s_storeA ?_ (hj := (by first | exact rfl | exact hv)) | fail)) | ((with_reducible refine is_bslice ?_); (first | refine s_bslice0 ?_ | refine s_bslice ?_ | fail)) | ((with_reducible refine is_alloc ?_); (first | refine s_alloc ?_ | fail)) | ((with_reducible refine is_build ?_); (first | refine s_build ?_ | fail)) | ((with_reducible refine is_mfunc ?_); (first | refine s_func0 ?_ | refine s_funcD ?_ | refine s_funcC ?_ | fail)) | ((with_reducible refine is_defer ?_); (first | refine s_defer ?_ | fail)) | ((refine s_look hLa ⟨_, rfl⟩ (kv_good _) ?_)) | ((refine s_look hLb ⟨_, rfl⟩ (kv_good _) ?_)) | ((with_reducible refine is_guard ?_); first | refine s_kT ?_ | refine s_kF ?_ | refine s_split rfl rfl (fun hb => ?_) (fun hb => ?_)) | ((with_reducible refine is_fin ?_); first | refine f_ret1 (by repeat (first | exact def_nil | refine def_cons differences1_d ?_)) ?_ | refine f_ret2 (by repeat (first | exact def_nil | refine def_cons differences1_d ?_)) ?_ ?_ | refine f_ret3 (by repeat (first | exact def_nil | refine def_cons differences1_d ?_)) ?_ ?_ ?_ | refine f_end1 (by repeat (first | exact def_nil | refine def_cons differences1_d ?_)) ?_) | ((with_reducible refine is_res ?_); first | refine t_tmp ?_ | refine t_tmpE ?_ | refine t_tmpA rfl rfl ?_ ?_ | refine d_tmpG rfl ?_ | refine t_cell (P := Try.prog) ?_ | refine t_cellG ?_) | ((with_reducible refine is_cfs ?_); first | exact cfs_nil | refine cfs_cons ?_ ?_) | ((with_reducible refine is_cf ?_); first | refine cf_d ?_ | refine cf_emp ?_ | refine cf_arr rfl ?_ ?_))
          · (apply s_round ((1, _, out ++ [⟨k0, diffAt a b k0⟩])); all_goals (try dsimp only); all_goals (try (repeat' (first | exact slots_nil | refine w1 ?_ | refine w2 ?_ ?_ | refine w3 ?_ ?_ | refine w4 ?_ ?_ | refine w5 ?_ ?_ | refine w6 ?_ ?_ | refine w7 ?_ | exact memIn_nil | refine memIn_same ?_ | refine m1 ?_ ?_ | refine m2 ?_ ?_ | refine m3 ?_ ?_ ?_ ?_ | refine m4 ?_ ?_ | refine memIn_dead ?_ | omega))))
            all_goals first
              | (rw [List.map_append]; rfl)
              | (refine ⟨by omega, ?_⟩
                 rw [if_neg (by rintro (q | q); simp [prevAt] at q; exact hb q)] at hinv
                 rw [hpn, ← hinv, List.append_assoc])
              | simp
          · (apply s_round ((1, _, out)); all_goals (try dsimp only); all_goals (try (repeat' (first | exact slots_nil | refine w1 ?_ | refine w2 ?_ ?_ | refine w3 ?_ ?_ | refine w4 ?_ ?_ | refine w5 ?_ ?_ | refine w6 ?_ ?_ | refine w7 ?_ | exact memIn_nil | refine memIn_same ?_ | refine m1 ?_ ?_ | refine m2 ?_ ?_ | refine m3 ?_ ?_ ?_ ?_ | refine m4 ?_ ?_ | refine memIn_dead ?_ | omega))))
            refine ⟨by omega, ?_⟩
            rw [if_pos (.inr hb)] at hinv
            rw [hpn, ← hinv]; rfl
        · have hu0 : S[i - 1]? = some (S[i - 1]'(by omega)) := List.getElem?_eq_getElem (by omega)
          generalize S[i - 1]'(by omega) = q0 at hu0
          have hpa : prevAt S i = some q0 := by rw [prevAt, if_neg hi0, hu0]
          have hu : (S.map rD)[((i : Int) - 1).toNat]? = some (rD q0) := by rw [show ((i : Int) - 1).toNat = i - 1 by omega, List.getElem?_map, hu0]; rfl
          rw [hpa] at hinv
          repeat' (first | (with_reducible (first | refine k_seq ?_ | refine k_block ?_ | refine k_skip ?_ | refine k_exit ?_ | refine k_ret ?_ | refine n_seq ?_ | refine n_block ?_ | refine e_seq ?_ | refine e_here ?_ | refine r_seq ?_ | refine r_block ?_ | refine o_exit ?_ | refine o_ret ?_)) | ((with_reducible refine is_region ?_); refine s_reg ?_) | ((with_reducible refine is_cond ?_); first | refine s_ifT ?_ | refine s_ifF ?_ | refine s_if rfl (fun hb => ?_) (fun hb => ?_)) | ((with_reducible refine is_exit ?_); refine s_past ?_) | ((with_reducible refine is_end ?_); first | refine r_end ?_ | refine s_endD ?_) | ((with_reducible refine is_guard ?_); first | refine s_skipS ?_ | refine s_skipU ?_ | refine s_skipN ?_ | refine s_skipUN ?_) | ((with_reducible refine is_move ?_); (first | refine s_move ?_ | fail)) | ((with_reducible refine is_assign ?_); (first | refine s_assign ?_ | fail)) | ((with_reducible refine is_bin ?_); (first | refine s_int ?_ | refine s_str ?_ | refine s_eqB ?_ | refine s_neB ?_ | refine s_eqA ?_ | refine s_neA ?_ | refine s_shr ?_ | refine s_shl ?_ | refine s_or ?_ | refine s_xor ?_ | refine s_eqNil (fun b hnil => ?_) | fail)) | ((with_reducible refine is_load ?_); (first | refine s_loadF1 ?_ | refine s_loadB1 ?_ | refine s_loadFA ?_ | refine s_loadBA ?_ | refine s_loadA1 ?_ (he' := (by first | exact rfl | exact hv | exact hu)) | refine s_loadAA ?_ (he' := (by first | exact rfl | exact hv | exact hu)) | fail)) | ((with_reducible refine is_index ?_); (first | refine s_indexD ?_ (hel := (by first | exact rfl | exact idx_map hv (by omega) | exact idx_map hu (by omega) | exact hv | exact hu)) | refine s_indexA ?_ | refine s_indexVF ?_ | refine s_indexVB ?_ | fail)) | ((with_reducible refine is_field ?_); (first | refine s_fieldF ?_ | refine s_fieldB ?_ | refine s_fieldA ?_ | fail)) | ((with_reducible refine is_call ?_); (first | refine s_call (encodeRow_c _ hkl) ?_ | refine s_call (compareRows_c _ _) ?_ | fail)) | ((with_reducible refine is_pick ?_); (first | refine s_pick ?_ | refine s_pickB ?_ | fail)) | ((with_reducible refine is_built ?_); (first | refine s_lenD ?_ | refine s_lenE ?_ | refine s_lenS ?_ | refine s_lenA ?_ | refine s_appE ?_ | refine s_appA ?_ | refine s_min ?_ | refine s_max ?_ | fail)) | ((with_reducible refine is_store ?_); (first | refine s_storeB ?_ | refine s_storeA ?_ (hj := (by first | exact rfl | exact hv | exact hu)) | fail)) | ((with_reducible refine is_bslice ?_); (first | refine s_bslice0 ?_ | refine s_bslice ?_ | fail)) | ((with_reducible refine is_alloc ?_); (first | refine s_alloc ?_ | fail)) | ((with_reducible refine is_build ?_); (first | refine s_build ?_ | fail)) | ((with_reducible refine is_mfunc ?_); (first | refine s_func0 ?_ | refine s_funcD ?_ | refine s_funcC ?_ | fail)) | ((with_reducible refine is_defer ?_); (first | refine s_defer ?_ | fail)) | ((refine s_look hLa ⟨_, rfl⟩ (kv_good _) ?_)) | ((refine s_look hLb ⟨_, rfl⟩ (kv_good _) ?_)) | ((with_reducible refine is_guard ?_); first | refine s_kT ?_ | refine s_kF ?_ | refine s_split rfl rfl (fun hb => ?_) (fun hb => ?_)) | ((with_reducible refine is_fin ?_); first | refine f_ret1 (by repeat (first | exact def_nil | refine def_cons differences1_d ?_)) ?_ | refine f_ret2 (by repeat (first | exact def_nil | refine def_cons differences1_d ?_)) ?_ ?_ | refine f_ret3 (by repeat (first | exact def_nil | refine def_cons differences1_d ?_)) ?_ ?_ ?_ | refine f_end1 (by repeat (first | exact def_nil | refine def_cons differences1_d ?_)) ?_) | ((with_reducible refine is_res ?_); first | refine t_tmp ?_ | refine t_tmpE ?_ | refine t_tmpA rfl rfl ?_ ?_ | refine d_tmpG rfl ?_ | refine t_cell (P := Try.prog) ?_ | refine t_cellG ?_) | ((with_reducible refine is_cfs ?_); first | exact cfs_nil | refine cfs_cons ?_ ?_) | ((with_reducible refine is_cf ?_); first | refine cf_d ?_ | refine cf_emp ?_ | refine cf_arr rfl ?_ ?_))
          · (apply s_round ((i + 1, _, out)); all_goals (try dsimp only); all_goals (try (repeat' (first | exact slots_nil | refine w1 ?_ | refine w2 ?_ ?_ | refine w3 ?_ ?_ | refine w4 ?_ ?_ | refine w5 ?_ ?_ | refine w6 ?_ ?_ | refine w7 ?_ | exact memIn_nil | refine memIn_same ?_ | refine m1 ?_ ?_ | refine m2 ?_ ?_ | refine m3 ?_ ?_ ?_ ?_ | refine m4 ?_ ?_ | refine memIn_dead ?_ | omega))))
            refine ⟨by omega, ?_⟩
            rw [if_pos (.inl (by simp [hb]))] at hinv
            rw [hpn, ← hinv]; rfl
          · rename_i hbp
            (apply s_round ((i + 1, _, out ++ [⟨k0, diffAt a b k0⟩])); all_goals (try dsimp only); all_goals (try (repeat' (first | exact slots_nil | refine w1 ?_ | refine w2 ?_ ?_ | refine w3 ?_ ?_ | refine w4 ?_ ?_ | refine w5 ?_ ?_ | refine w6 ?_ ?_ | refine w7 ?_ | exact memIn_nil | refine memIn_same ?_ | refine m1 ?_ ?_ | refine m2 ?_ ?_ | refine m3 ?_ ?_ ?_ ?_ | refine m4 ?_ ?_ | refine memIn_dead ?_ | omega))))
            all_goals first
              | (rw [List.map_append]; rfl)
              | (refine ⟨by omega, ?_⟩
                 rw [if_neg (by rintro (q | q); simp [hbp] at q; exact hb q)] at hinv
                 rw [hpn, ← hinv, List.append_assoc])
              | simp
          · (apply s_round ((i + 1, _, out)); all_goals (try dsimp only); all_goals (try (repeat' (first | exact slots_nil | refine w1 ?_ | refine w2 ?_ ?_ | refine w3 ?_ ?_ | refine w4 ?_ ?_ | refine w5 ?_ ?_ | refine w6 ?_ ?_ | refine w7 ?_ | exact memIn_nil | refine memIn_same ?_ | refine m1 ?_ ?_ | refine m2 ?_ ?_ | refine m3 ?_ ?_ ?_ ?_ | refine m4 ?_ ?_ | refine memIn_dead ?_ | omega))))
            refine ⟨by omega, ?_⟩
            rw [if_pos (.inr hb)] at hinv
            rw [hpn, ← hinv]; rfl
      · rw [List.drop_eq_nil_of_le (by omega)] at hinv
        simp only [ddFrom, List.append_nil] at hinv
        repeat' (first | (with_reducible (first | refine k_seq ?_ | refine k_block ?_ | refine k_skip ?_ | refine k_exit ?_ | refine k_ret ?_ | refine n_seq ?_ | refine n_block ?_ | refine e_seq ?_ | refine e_here ?_ | refine r_seq ?_ | refine r_block ?_ | refine o_exit ?_ | refine o_ret ?_)) | ((with_reducible refine is_region ?_); refine s_reg ?_) | ((with_reducible refine is_cond ?_); first | refine s_ifT ?_ | refine s_ifF ?_ | refine s_if rfl (fun hb => ?_) (fun hb => ?_)) | ((with_reducible refine is_exit ?_); refine s_past ?_) | ((with_reducible refine is_end ?_); first | refine r_end ?_ | refine s_endD ?_) | ((with_reducible refine is_guard ?_); first | refine s_skipS ?_ | refine s_skipU ?_ | refine s_skipN ?_ | refine s_skipUN ?_) | ((with_reducible refine is_move ?_); (first | refine s_move ?_ | fail)) | ((with_reducible refine is_assign ?_); (first | refine s_assign ?_ | fail)) | ((with_reducible refine is_bin ?_); (first | refine s_int ?_ | refine s_str ?_ | refine s_eqB ?_ | refine s_neB ?_ | refine s_eqA ?_ | refine s_neA ?_ | refine s_shr ?_ | refine s_shl ?_ | refine s_or ?_ | refine s_xor ?_ | refine s_eqNil (fun b hnil => ?_) | fail)) | ((with_reducible refine is_load ?_); (first | refine s_loadF1 ?_ | refine s_loadB1 ?_ | refine s_loadFA ?_ | refine s_loadBA ?_ | fail)) | ((with_reducible refine is_index ?_); (first | refine s_indexD ?_ (hel := (by first | exact rfl)) | refine s_indexA ?_ | refine s_indexVF ?_ | refine s_indexVB ?_ | fail)) | ((with_reducible refine is_field ?_); (first | refine s_fieldF ?_ | refine s_fieldB ?_ | refine s_fieldA ?_ | fail)) | ((with_reducible refine is_pick ?_); (first | refine s_pick ?_ | refine s_pickB ?_ | fail)) | ((with_reducible refine is_built ?_); (first | refine s_lenD ?_ | refine s_lenE ?_ | refine s_lenS ?_ | refine s_lenA ?_ | refine s_appE ?_ | refine s_appA ?_ | refine s_min ?_ | refine s_max ?_ | fail)) | ((with_reducible refine is_store ?_); (first | refine s_storeB ?_ | fail)) | ((with_reducible refine is_bslice ?_); (first | refine s_bslice0 ?_ | refine s_bslice ?_ | fail)) | ((with_reducible refine is_alloc ?_); (first | refine s_alloc ?_ | fail)) | ((with_reducible refine is_build ?_); (first | refine s_build ?_ | fail)) | ((with_reducible refine is_mfunc ?_); (first | refine s_func0 ?_ | refine s_funcD ?_ | refine s_funcC ?_ | fail)) | ((with_reducible refine is_defer ?_); (first | refine s_defer ?_ | fail)) | ((with_reducible refine is_guard ?_); first | refine s_kT ?_ | refine s_kF ?_ | refine s_split rfl rfl (fun hb => ?_) (fun hb => ?_)) | ((with_reducible refine is_fin ?_); first | refine f_ret1 (by repeat (first | exact def_nil | refine def_cons differences1_d ?_)) ?_ | refine f_ret2 (by repeat (first | exact def_nil | refine def_cons differences1_d ?_)) ?_ ?_ | refine f_ret3 (by repeat (first | exact def_nil | refine def_cons differences1_d ?_)) ?_ ?_ ?_ | refine f_end1 (by repeat (first | exact def_nil | refine def_cons differences1_d ?_)) ?_) | ((with_reducible refine is_res ?_); first | refine t_tmp ?_ | refine t_tmpE ?_ | refine t_tmpA rfl rfl ?_ ?_ | refine d_tmpG rfl ?_ | refine t_cell (P := Try.prog) ?_ | refine t_cellG ?_) | ((with_reducible refine is_cfs ?_); first | exact cfs_nil | refine cfs_cons ?_ ?_) | ((with_reducible refine is_cf ?_); first | refine cf_d ?_ | refine cf_emp ?_ | refine cf_arr rfl ?_ ?_))
        · simp
        · rw [← hinv, take_ge (by simp)]; rfl
end Go.Proofs.Ytlacmjfgaehhkaa
