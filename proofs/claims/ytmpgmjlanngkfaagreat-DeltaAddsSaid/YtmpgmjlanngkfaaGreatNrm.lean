/-
  bag.Normalize: sums in a map, rows read back, sorted: the same as the document's.
-/
import Derived.Test.YtmpgmjlanngkfaaGreatAgp
import Derived.Test.YtmpgmjlanngkfaaGreatDec
import Derived.Test.YtmpgmjlanngkfaaGreatLaid
section
namespace Go.Proofs.YtmpgmjlanngkfaaGreat
open Go.Abs Go.RowKit
attribute [local irreducible] ARun kont MCall PCall HCall resVal SF CF CFs defersOk slotsIn memIn fin finM VLe
set_option linter.unusedSimpArgs false
set_option maxRecDepth 100000
set_option maxHeartbeats 4000000
theorem limits_c (l : List Entry) : PCall Tryz.prog 99 [.one (bagD l)] (.v (.one (.lit (.int .i64 (fitsE l).2)))) := by
  refine pcallN hT Tryz.func99 Tryz.ntmps99 [.tmp 2] fun B => ?_
  repeat' (first | refine ks ?_ | refine ko ?_ | refine s_if rfl (fun hb => ?_) (fun hb => ?_) | refine s_indexD ?_ (hel := (by first | exact rfl)) | refine kf ?_ | fail)
  all_goals try (first | (rw [fitsE, if_pos (by omega)]; rfl) | (rw [fitsE, if_pos (by omega)]))
  have hl : l.length ≤ 4096 := by omega
  refine s_lp (X := Nat) [2, 4, 10, 11, 12, 13, 14, 15, 16, 17, 18] (fun x => x ≤ l.length ∧ (l.take x).all (fun e => countOK e.count) = true) (fun x lz => (10, (.c (.d (.lit (.int .i64 x))))) :: lz) (fun x => []) (fun x => l.length - x) (0) ?_ ?_ ?_ ?_
  repeat' (first | exact slots_nil | refine kw ?_ | exact memIn_nil | omega)
  · exact ⟨by simp, by simp⟩
  rintro i c ⟨hi, hinv⟩
  by_cases hlt : i < l.length
  · have hv : l[i]? = some l[i] := List.getElem?_eq_getElem hlt
    generalize l[i] = e at hv
    repeat' (first | refine ks ?_ | refine ko ?_ | refine s_if rfl (fun hb => ?_) (fun hb => ?_) | refine s_indexD ?_ (hel := (by first | exact idx_map hv (by omega) | exact hv | exact rfl)) | refine s_call (inRange_c _) ?_ | refine kf ?_ | fail)
    · rw [fitsE, if_neg (by omega), not_all (fun e : Entry => countOK e.count) hv hb]; rfl
    · (apply s_round (i + 1); all_goals (try dsimp only); all_goals (try (repeat' (first | exact slots_nil | refine kw ?_ | exact memIn_nil | omega))))
      exact ⟨by omega, take_all (fun e : Entry => countOK e.count) hv hinv hb⟩
  · rw [take_ge (by omega)] at hinv
    repeat' (first | refine ks ?_ | refine ko ?_ | refine s_if rfl (fun hb => ?_) (fun hb => ?_) | refine s_indexD ?_ (hel := (by first | exact rfl)) | refine kf ?_ | fail)
    all_goals (rw [fitsE, if_neg (by omega), hinv]; rfl)
theorem normCmp_c (a b : Entry) : PCall Tryz.prog 202 [.agg a.d, .agg b.d] (.v (.one (.lit (.int .i64 (entCmp a b))))) := by
  refine pcallN hT Tryz.func202 Tryz.ntmps202 [.tmp 4] fun B => ?_
  repeat' (first | refine ks ?_ | refine ko ?_ | refine s_call (compareRows_c _ _) ?_ | refine kf ?_ | fail)
  all_goals rfl
theorem normalize1_d : DeferOk Tryz.prog 199 0 := by
  refine ⟨⟨_, Tryz.func199, by kernel_rfl, by kernel_rfl⟩, fun vs w hl => ?_⟩
  match vs, hl with
  | [], _ =>
    refine callsD_of_wpS Tryz.func199 rfl fun c₀ cs hu => ?_
    apply wpS_region
    simp [wpOpsS, go_sem, recoverD, hu, Tryz.ntmps199, Exit.thenS]
    cases c₀
    simp_all [bodyPostS, results, Tryz.results199]
def kvE (e : Entry) : Value × PV := (.string ⟨(encRow e.row).toArray⟩, .one (.lit (.int .i64 e.count)))
theorem strE_inj {a b : List UInt8} (h : Value.string ⟨a.toArray⟩ = Value.string ⟨b.toArray⟩) : a = b := by
  injection h with h; injection h with h
  simpa using congrArg Array.toList h
theorem kvE_good (acc : List Entry) : ∀ e ∈ acc.map kvE, IsStr e.1 := fun e he => by
  obtain ⟨x, _, rfl⟩ := List.mem_map.1 he
  exact ⟨_, rfl⟩
structure SumOk (acc l : List Entry) (M : Int) : Prop where
  ap : apart acc
  ok : ∀ e ∈ acc, rowOK e.row = true
  sm : ∀ r, sumK acc r = sumK l r
  bd : within M acc
  ln : acc.length ≤ l.length
theorem apart_set {l : List Entry} {j : Nat} {a b : Entry} (h : apart l) (hj : l[j]? = some a) (hr : a.row = b.row) : apart (l.set j b) := by
  unfold apart at *
  rw [List.pairwise_iff_getElem] at h ⊢
  intro i k hi hk hik
  simp only [List.length_set] at hi hk
  have hg : ∀ m (hm : m < l.length), ((l.set j b)[m]'(by simpa using hm)).row = l[m].row := by
    intro m hm
    rw [List.getElem_set]
    split
    · rename_i q; subst q
      rw [List.getElem?_eq_getElem hm] at hj
      rw [← hr]; injection hj with hj; rw [hj]
    · rfl
  rw [hg i hi, hg k hk]
  exact h i k hi hk hik
theorem sumK_set {l : List Entry} {j : Nat} {a b : Entry} (hj : l[j]? = some a) (hr : a.row = b.row) (r : List Val) : sumK (l.set j b) r = sumK l r + (if rowCmp a.row r = 0 then b.count - a.count else 0) := by
  induction l generalizing j with
  | nil => cases hj
  | cons x l ih =>
    cases j with
    | zero =>
      simp only [List.getElem?_cons_zero, Option.some.injEq] at hj
      subst hj
      simp only [List.set_cons_zero, sumK, ← hr]
      split <;> omega
    | succ j =>
      simp only [List.getElem?_cons_succ] at hj
      simp only [List.set_cons_succ, sumK, ih hj]
      omega
theorem SumOk.old {acc l : List Entry} {M : Int} (h : SumOk acc l M) {j : Nat} {a e : Entry} (hj : acc[j]? = some a) (hk : rowCmp a.row e.row = 0) (he : -262144 ≤ e.count ∧ e.count ≤ 262144) : SumOk (acc.set j ⟨a.row, a.count + e.count⟩) (l ++ [e]) (M + 262144) := by
  have hm : a ∈ acc := List.mem_of_getElem? hj
  refine ⟨apart_set (b := ⟨a.row, a.count + e.count⟩) h.ap hj rfl, fun x hx => ?_, fun r => ?_, fun x hx => ?_, by simp; exact Nat.le_succ_of_le h.ln⟩
  · rcases List.mem_or_eq_of_mem_set hx with hx | rfl
    · exact h.ok x hx
    · exact h.ok a hm
  · rw [sumK_set (b := ⟨a.row, a.count + e.count⟩) hj rfl, h.sm, sumK_append]
    have := cmp0_left hk r
    simp only [sumK]
    by_cases hq : rowCmp e.row r = 0
    · rw [if_pos (this.2 hq), if_pos hq]; omega
    · rw [if_neg (fun q => hq (this.1 q)), if_neg hq]; omega
  · rcases List.mem_or_eq_of_mem_set hx with hx | rfl
    · have := h.bd x hx; omega
    · have := h.bd a hm; simp only; omega
theorem SumOk.new {acc l : List Entry} {M : Int} (h : SumOk acc l M) {e : Entry} (hn : ∀ a ∈ acc, rowCmp a.row e.row ≠ 0) (ho : rowOK e.row = true) (he : -262144 ≤ e.count ∧ e.count ≤ 262144) (hM : 0 ≤ M) : SumOk (acc ++ [e]) (l ++ [e]) (M + 262144) := by
  refine ⟨?_, fun x hx => ?_, fun r => ?_, fun x hx => ?_, by simp; exact h.ln⟩
  · refine List.pairwise_append.2 ⟨h.ap, List.pairwise_singleton _ _, fun a ha b hb => ?_⟩
    obtain rfl := List.mem_singleton.1 hb
    exact hn a ha
  · rcases List.mem_append.1 hx with hx | hx
    · exact h.ok x hx
    · obtain rfl := List.mem_singleton.1 hx; exact ho
  · rw [sumK_append, sumK_append, h.sm]
  · rcases List.mem_append.1 hx with hx | hx
    · have := h.bd x hx; omega
    · obtain rfl := List.mem_singleton.1 hx; omega
def pickE (acc : List Entry) (sb : List Nat) : List Entry := (sb.filterMap (acc[·]?)).filter (fun e => decide (e.count ≠ 0))
theorem pickE_snoc {acc : List Entry} {sb : List Nat} {b : Nat} {e : Entry} (h : acc[b]? = some e) : pickE acc (sb ++ [b]) = pickE acc sb ++ (if e.count = 0 then [] else [e]) := by
  unfold pickE
  rw [List.filterMap_append, List.filter_append]
  congr 1
  simp only [List.filterMap_cons, h, List.filterMap_nil]
  by_cases hq : e.count = 0
  · simp [hq]
  · simp [hq]
theorem pickE_all {acc : List Entry} {sb : List Nat} (hn : sb.Nodup) (hs : ∀ b ∈ sb, b < acc.length) (hall : ∀ b ∈ List.range acc.length, b ∈ sb) : (pickE acc sb).Perm (acc.filter (fun e => decide (e.count ≠ 0))) := by
  have hp : sb.Perm (List.range acc.length) := by
    rw [List.perm_ext_iff_of_nodup hn List.nodup_range]
    intro b
    exact ⟨fun h => List.mem_range.2 (hs b h), hall b⟩
  refine ((hp.filterMap (acc[·]?)).filter _).trans (.of_eq ?_)
  congr 1
  apply List.ext_getElem?
  intro i
  have : ∀ (l : List Entry) , (List.range l.length).filterMap (l[·]?) = l := by
    intro l
    induction l with
    | nil => rfl
    | cons x l ih =>
      rw [List.length_cons, List.range_succ_eq_map, List.filterMap_cons]
      simp only [List.getElem?_cons_zero, List.filterMap_map]
      congr 1
  rw [this]
theorem nodup_le : ∀ (n : Nat) (l : List Nat), l.Nodup → (∀ b ∈ l, b < n) → l.length ≤ n
  | 0, l, _, h => by
    cases l with
    | nil => simp
    | cons x l => have := h x (by simp); omega
  | n + 1, l, hn, h => by
    have := nodup_le n (l.erase n) (hn.erase n) (fun b hb => by
      have h1 := (hn.mem_erase_iff).1 hb
      have := h b h1.2
      have := h1.1
      omega)
    rw [List.length_erase] at this
    split at this <;> omega
theorem nodup_snoc {sb : List Nat} {j n : Nat} (hnd : sb.Nodup) (hsb : ∀ b ∈ sb, b < n) (hn : ¬ j ∈ sb) (hj : j < n) : (sb ++ [j]).Nodup ∧ ∀ b ∈ sb ++ [j], b < n := by
  refine ⟨?_, fun b hb => ?_⟩
  · rw [List.nodup_append]
    exact ⟨hnd, by simp, fun a ha b hb => by rintro rfl; simp at hb; subst hb; exact hn ha⟩
  · rcases List.mem_append.1 hb with hb | hb
    · exact hsb b hb
    · simp at hb; omega
theorem fits_perm {a b : List Entry} (h : a.Perm b) : (fitsE a).2 = (fitsE b).2 := by
  unfold fitsE
  rw [h.length_eq]
  have : a.all (fun e => countOK e.count) = b.all (fun e => countOK e.count) := by
    rw [Bool.eq_iff_iff, List.all_eq_true, List.all_eq_true]
    exact ⟨fun q x hx => q x (h.mem_iff.2 hx), fun q x hx => q x (h.mem_iff.1 hx)⟩
  rw [this]
  split
  · rfl
  · split <;> rfl
theorem fits_ok {a : List Entry} (h : (fitsE a).2 = 0) : (fitsE a).1 = a := by
  unfold fitsE at *
  split at h
  · cases h
  · split at h
    · rename_i h1 h2; rw [if_neg h1, if_pos h2]
    · cases h
theorem fits_bad {a : List Entry} (h : (fitsE a).2 ≠ 0) : (fitsE a).1 = [] := by
  unfold fitsE at *
  split at h
  · rename_i h1; rw [if_pos h1]
  · split at h
    · exact absurd rfl h
    · rename_i h1 h2; rw [if_neg h1, if_neg h2]
theorem normalizeB_c (l : List Entry) (hlen : l.length ≤ 1000000) : PCall Tryz.prog 146 [.one (bagD l)] (.tup [.one (bagD (normE l).1), .one (.lit (.int .i64 (normE l).2))]) := by
  refine pcallN hT Tryz.func146 Tryz.ntmps146 [.tmp 2, .tmp 3] fun B => ?_
  repeat' (first | refine ks ?_ | refine ko ?_ | refine s_if rfl (fun hb => ?_) (fun hb => ?_) | refine s_indexD ?_ (hel := (by first | exact rfl)) | refine f_ret2 (by repeat (first | exact def_nil | refine def_cons normalize1_d ?_)) ?_ ?_ | refine kf ?_ | refine kg ?_ ?_ | fail)
  refine s_lp (X := Nat × List Entry) [2, 3, 6, 16, 17, 18, 19, 20, 21, 22, 23, 24, 25, 26, 27, 28, 29, 30, 31] (fun x => x.1 ≤ l.length ∧ (l.take x.1).all entryIn = true ∧ SumOk x.2 (l.take x.1) (262144 * x.1)) (fun x lz => (16, (.c (.d (.lit (.int .i64 x.1))))) :: lz) (fun x => [.map 1 9 2 (x.2.map kvE) (List.range x.2.length) x.2.length]) (fun x => l.length - x.1) ((0, [])) ?_ ?_ ?_ ?_
  repeat' (first | exact slots_nil | refine kw ?_ | exact memIn_nil | refine kv ?_ ?_ | refine m3 ?_ ?_ ?_ ?_ | omega)
  · exact ⟨by simp, by simp, .nil, by simp, fun r => by simp, fun e he => by simp at he, by simp⟩
  rintro ⟨i, acc⟩ c ⟨hi, hall, hok⟩
  dsimp only at hi hall hok ⊢
  by_cases hlt : i < l.length
  · have hv : l[i]? = some l[i] := List.getElem?_eq_getElem hlt
    generalize l[i] = e at hv
    have htk : l.take (i + 1) = l.take i ++ [e] := by rw [List.take_add_one, hv]; rfl
    cases hin : entryIn e with
    | false =>
      have hve := validEntry_c e
      rw [show (countOK e.count && rowOK e.row) = false by rw [Bool.and_comm]; exact hin] at hve
      repeat' (first | refine ks ?_ | refine ko ?_ | refine s_if rfl (fun hb => ?_) (fun hb => ?_) | refine s_indexD ?_ (hel := (by first | exact idx_map hv (by omega) | exact hv | exact rfl)) | refine s_call (hve) ?_ | refine f_ret2 (by repeat (first | exact def_nil | refine def_cons normalize1_d ?_)) ?_ ?_ | refine kf ?_ | refine kg ?_ ?_ | fail)
      all_goals (rw [normE, not_all entryIn hv hin]; rfl)
    | true =>
      have hve := validEntry_c e
      rw [show (countOK e.count && rowOK e.row) = true by rw [Bool.and_comm]; exact hin] at hve
      have hro : rowOK e.row = true := by simp only [entryIn, Bool.and_eq_true] at hin; exact hin.1
      have hco : -262144 ≤ e.count ∧ e.count ≤ 262144 := by simp only [entryIn, countOK, Bool.and_eq_true, decide_eq_true_eq] at hin; exact hin.2
      have hrl : e.row.length ≤ 10000 := by simp only [rowOK, Bool.and_eq_true, decide_eq_true_eq] at hro; omega
      have hall' := take_all entryIn hv hall hin
      by_cases hex : ∃ (j : Nat) (a : Entry), acc[j]? = some a ∧ rowCmp a.row e.row = 0
      · obtain ⟨j, a, hj, hk⟩ := hex
        have hj' : (acc.map kvE)[j]? = some (.string ⟨(encRow e.row).toArray⟩, .one (.lit (.int .i64 a.count))) := by
          rw [List.getElem?_map, hj, ← encRow_iff.2 hk]; rfl
        have hab := hok.bd a (List.mem_of_getElem? hj)
        have hnew := hok.old hj hk hco
        repeat' (first | refine ks ?_ | refine ko ?_ | refine s_if rfl (fun hb => ?_) (fun hb => ?_) | refine s_indexD ?_ (hel := (by first | exact idx_map hv (by omega) | exact hv | exact rfl)) | refine s_call (hve) ?_ | refine s_call (encodeRow_c _ hrl) ?_ | refine s_lookT hj' ⟨_, rfl⟩ (kvE_good _) ?_ | refine s_mapOld hj' ⟨_, rfl⟩ (kvE_good _) ?_ | refine f_ret2 (by repeat (first | exact def_nil | refine def_cons normalize1_d ?_)) ?_ ?_ | refine kf ?_ | refine kg ?_ ?_ | fail)
        (apply s_round ((i + 1, acc.set j ⟨a.row, a.count + e.count⟩)); all_goals (try dsimp only); all_goals (try (repeat' (first | exact slots_nil | refine kw ?_ | exact memIn_nil | refine kv ?_ ?_ | refine m3 ?_ ?_ ?_ ?_ | omega))))
        · rw [List.map_set, kvE, encRow_iff.2 hk]
        · rw [List.length_set]
        · rw [List.length_set]
        · exact ⟨by omega, hall', by rw [htk, show (262144 : Int) * ((i + 1 : Nat) : Int) = 262144 * (i : Int) + 262144 by omega]; exact hnew⟩
      · have hno : ∀ x ∈ acc.map kvE, x.1 ≠ .string ⟨(encRow e.row).toArray⟩ := fun x hx h => by
          obtain ⟨a, ha, rfl⟩ := List.mem_map.1 hx
          obtain ⟨j, hj⟩ := List.mem_iff_getElem?.1 ha
          exact hex ⟨j, a, hj, encRow_iff.1 (strE_inj h)⟩
        have hnew := hok.new (e := e) (fun a ha h => by
          obtain ⟨j, hj⟩ := List.mem_iff_getElem?.1 ha
          exact hex ⟨j, a, hj, h⟩) hro hco (by omega)
        repeat' (first | refine ks ?_ | refine ko ?_ | refine s_if rfl (fun hb => ?_) (fun hb => ?_) | refine s_indexD ?_ (hel := (by first | exact idx_map hv (by omega) | exact hv | exact rfl)) | refine s_call (hve) ?_ | refine s_call (encodeRow_c _ hrl) ?_ | refine s_lookF hno ⟨_, rfl⟩ (kvE_good _) ?_ | refine s_mapNew hno ⟨_, rfl⟩ (kvE_good _) ?_ | refine f_ret2 (by repeat (first | exact def_nil | refine def_cons normalize1_d ?_)) ?_ ?_ | refine kf ?_ | refine kg ?_ ?_ | fail)
        (apply s_round ((i + 1, acc ++ [e])); all_goals (try dsimp only); all_goals (try (repeat' (first | exact slots_nil | refine kw ?_ | exact memIn_nil | refine kv ?_ ?_ | refine m3 ?_ ?_ ?_ ?_ | omega))))
        · rw [List.map_append, Int.zero_add]; rfl
        · rw [List.length_append, List.length_singleton, List.range_succ]
        · simp
        · exact ⟨by omega, hall', by rw [htk, show (262144 : Int) * ((i + 1 : Nat) : Int) = 262144 * (i : Int) + 262144 by omega]; exact hnew⟩
  · rw [take_ge (by omega)] at hall hok
    have hil : (i : Int) ≤ 1000000 := by omega
    repeat' (first | refine ks ?_ | refine ko ?_ | refine s_if rfl (fun hb => ?_) (fun hb => ?_) | refine s_indexD ?_ (hel := (by first | exact rfl)) | refine f_ret2 (by repeat (first | exact def_nil | refine def_cons normalize1_d ?_)) ?_ ?_ | refine kf ?_ | refine kg ?_ ?_ | fail)
    refine s_own 7 56 2 ?_
    refine s_lp (X := List Nat × Nat × List Entry) [2, 3, 7, 8, 9, 10, 11, 34, 35, 36, 37, 38, 39, 40, 41, 42, 43, 44, 45, 46, 47, 48, 49, 50, 51, 52, 53, 54] (fun x => x.1.Nodup ∧ (∀ b ∈ x.1, b < acc.length) ∧ x.2.2 = pickE acc x.1) (fun x lz => (7, .c (.arr 2 x.2.1 x.2.2.length)) :: lz) (fun x => [.map 1 9 2 (acc.map kvE) (List.range acc.length) acc.length, .iter (c + 1) 0 1 acc.length x.1, .arr x.2.1 56 2 (x.2.2.map Entry.d)]) (fun x => acc.length - x.1.length) (([], c + 1 + 1, [])) ?_ ?_ ?_ ?_
    repeat' (first | exact slots_nil | refine kw ?_ | exact memIn_nil | refine kv ?_ ?_ | refine m3 ?_ ?_ ?_ ?_ | omega)
    · exact ⟨.nil, by simp, rfl⟩
    rintro ⟨sb, kv, out⟩ c2 ⟨hnd, hsb, hout⟩
    dsimp only at hnd hsb hout ⊢
    have hle : ∀ j, j < acc.length → ¬ j ∈ sb → sb.length + 1 ≤ acc.length := fun j hj hn => by
      have hq := nodup_snoc hnd hsb hn hj
      have := nodup_le acc.length (sb ++ [j]) hq.1 hq.2
      simpa using this
    repeat' (first | refine ks ?_ | refine ko ?_ | refine s_if rfl (fun hb => ?_) (fun hb => ?_) | refine s_indexD ?_ (hel := (by first | exact rfl)) | refine s_next (fun hfin => ?_) (fun j bb kv p hj1 hj2 hj3 => ?_) | refine f_ret2 (by repeat (first | exact def_nil | refine def_cons normalize1_d ?_)) ?_ ?_ | refine kf ?_ | refine kg ?_ ?_ | fail)
    · have hperm := pickE_all hnd hsb hfin
      rw [← hout] at hperm
      have hac : ∀ e ∈ l, rowClean e.row := fun e he => by
        have := List.all_eq_true.1 hall e he
        simp only [entryIn, Bool.and_eq_true] at this
        exact rowOK_clean this.1
      have hmem : ∀ e, e ∈ out → e ∈ acc ∧ e.count ≠ 0 := fun e he => by
        have := List.mem_filter.1 (hperm.mem_iff.1 he)
        exact ⟨this.1, by simpa using this.2⟩
      have hap : apart out := (hperm.symm.pairwise (hok.ap.filter _) (fun {a b} h q => h (cmp0_symm q)))
      have hsrt := sortF_sums hac hap (fun e he => (hmem e he).2) (fun e he => rowOK_clean (hok.ok e (hmem e he).1)) (fun r => by rw [sumK_perm hperm, sumK_filter, hok.sm])
      have hpo := sortF_perm entCmp_ok.swo out
      rw [hsrt] at hpo
      have hfe := fits_perm hpo
      have hne : normE l = fitsE (sortE l) := by rw [normE, if_pos hall]
      have hlc := limits_c out
      have hal := hok.ln
      have hol : out.length ≤ acc.length := by
        rw [hperm.length_eq]; exact List.length_filter_le ..
      rw [← hfe] at hlc
      have hS := sortF201_h Entry.d (fun _ => rfl) entCmp entCmp_ok.swo 202 out (by omega) (fun x _ y _ => normCmp_c x y)
      rw [hsrt] at hS
      have ha : ∀ mem : List Blk, mem[2]? = some (.arr kv 56 2 (out.map Entry.d)) → SFs mem [.c (.arr 2 kv out.length)] [.one (bagD out)] := fun mem hm =>
        sfs_arr hm (by simp) (take_ge (by simp))
      rw [hne]
      by_cases hz : (fitsE (sortE l)).2 = 0
      · have hz1 := fits_ok hz
        rw [hz1, hz]
        rw [hz] at hlc
        have hpl := hpo.length_eq
        repeat' (first | refine ks ?_ | refine ko ?_ | refine s_if rfl (fun hb => ?_) (fun hb => ?_) | refine s_indexD ?_ (hel := (by first | exact rfl)) | refine s_callH [2] (hS) ?_ | refine s_callB hlc (ha _ rfl) ?_ | refine f_ret2 (by repeat (first | exact def_nil | refine def_cons normalize1_d ?_)) ?_ ?_ | refine kf ?_ | refine kg ?_ ?_ | fail)
        · simp; omega
        · rw [take_ge (by simp; omega)]; rfl
        · rfl
      · have hz1 := fits_bad hz
        rw [hz1]
        generalize (fitsE (sortE l)).2 = er at hz hlc
        repeat' (first | refine ks ?_ | refine ko ?_ | refine s_if rfl (fun hb => ?_) (fun hb => ?_) | refine s_indexD ?_ (hel := (by first | exact rfl)) | refine s_callB hlc (ha _ rfl) ?_ | refine f_ret2 (by repeat (first | exact def_nil | refine def_cons normalize1_d ?_)) ?_ ?_ | refine kf ?_ | refine kg ?_ ?_ | fail)
        all_goals rfl
    · have hjl : j < acc.length := by simpa using lt_of_getElem? hj1
      obtain rfl : j = bb := by
        rw [List.getElem?_range hjl] at hj1; injection hj1
      have hg : acc[j]? = some acc[j] := List.getElem?_eq_getElem hjl
      have heo := hok.ok _ (List.getElem_mem hjl)
      generalize acc[j] = e at hg heo
      rw [List.getElem?_map, hg] at hj3
      injection hj3 with hj3
      injection hj3 with h1 h2
      subst h1; subst h2
      have hj3 : (acc.map kvE)[j]? = some (kvE e) := by rw [List.getElem?_map, hg]; rfl
      have hsn := pickE_snoc (sb := sb) hg
      have hlt' := hle j hjl hj2
      have hal := hok.ln
      have hol : out.length ≤ sb.length := by
        rw [hout, pickE]
        exact Nat.le_trans (List.length_filter_le ..) (List.length_filterMap_le ..)
      simp only [List.set_cons_succ, List.set_cons_zero]
      repeat' (first | refine ks ?_ | refine ko ?_ | refine s_if rfl (fun hb => ?_) (fun hb => ?_) | refine s_indexD ?_ (hel := (by first | exact rfl)) | refine s_call (decodeRow_c _ heo) ?_ | refine s_entry hj1 hj3 (fun _ _ => .c (.d (.lit _ rfl))) ?_ | refine f_ret2 (by repeat (first | exact def_nil | refine def_cons normalize1_d ?_)) ?_ ?_ | refine kf ?_ | refine kg ?_ ?_ | fail)
      · have hn2 : (sb ++ [j]).Nodup ∧ ∀ b ∈ sb ++ [j], b < acc.length := nodup_snoc hnd hsb hj2 hjl
        (apply s_round ((sb ++ [j], kv, out)); all_goals (try dsimp only); all_goals (try (repeat' (first | exact slots_nil | refine kw ?_ | exact memIn_nil | refine kv ?_ ?_ | refine m3 ?_ ?_ ?_ ?_ | omega))))
        · exact ⟨hn2.1, hn2.2, by rw [hsn, if_pos hb, List.append_nil]; exact hout⟩
        · rw [List.length_append, List.length_singleton]; omega
      · have hn2 : (sb ++ [j]).Nodup ∧ ∀ b ∈ sb ++ [j], b < acc.length := nodup_snoc hnd hsb hj2 hjl
        (apply s_round ((sb ++ [j], _, out ++ [e])); all_goals (try dsimp only); all_goals (try (repeat' (first | exact slots_nil | refine w1 ?_ | exact memIn_nil | refine memIn_same ?_ | refine m1 ?_ ?_ | refine m3 ?_ ?_ ?_ ?_ | omega))))
        · rw [List.map_append]; rfl
        · exact ⟨hn2.1, hn2.2, by rw [hsn, if_neg hb, ← hout]⟩
        · rw [List.length_append, List.length_singleton]; omega
end Go.Proofs.YtmpgmjlanngkfaaGreat
end
