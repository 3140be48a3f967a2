/-
  Aggregates, plain: groups of entries by key rows, and the values of functions.
-/
import Derived.Test.YtmpgmjlanngkfaaGreatExa
import Derived.Test.YtmpgmjlanngkfaaGreatNorm
import Derived.Test.YtmpgmjlanngkfaaGreatSrt
section
namespace Go.Proofs.YtmpgmjlanngkfaaGreat
open Go.Abs Go.RowKit
set_option linter.unusedSimpArgs false
theorem u8of_inj {a b : Int} (h : u8of a = u8of b) : a % 256 = b % 256 := by
  have h1 := u8of_wrap a
  have h2 := u8of_wrap b
  rw [h] at h1
  have := h1.trans h2.symm
  simpa [IntKind.wrap, IntKind.bits, IntKind.signed] using this
theorem shr_nat (n : Int) (k : Nat) (z : Int) (hk : k ≤ 64) (hz : (2 : Int) ^ k = z) : shrInt .i64 n k = n / z := by
  rw [shr_i64 hk, hz]
  exact Int.fdiv_eq_ediv_of_nonneg n (by rw [← hz]; exact Int.le_of_lt (Int.pow_pos (by decide)))
theorem shr32 (n : Int) : shrInt .i64 n 32 = n / 4294967296 := shr_nat n 32 _ (by decide) rfl
theorem shr24 (n : Int) : shrInt .i64 n 24 = n / 16777216 := shr_nat n 24 _ (by decide) rfl
theorem shr16 (n : Int) : shrInt .i64 n 16 = n / 65536 := shr_nat n 16 _ (by decide) rfl
theorem shr8 (n : Int) : shrInt .i64 n 8 = n / 256 := shr_nat n 8 _ (by decide) rfl
theorem encInt_inj {a b : Int} (ha : 0 ≤ a) (ha' : a ≤ 8589934592) (hb : 0 ≤ b) (hb' : b ≤ 8589934592) {x y : List UInt8} (h : encInt a ++ x = encInt b ++ y) : a = b ∧ x = y := by
  simp only [encInt, List.cons_append, List.nil_append, List.cons.injEq, true_and] at h
  obtain ⟨h1, h2, h3, h4, h5, h6⟩ := h
  have q1 := u8of_inj h1
  have q2 := u8of_inj h2
  have q3 := u8of_inj h3
  have q4 := u8of_inj h4
  have q5 := u8of_inj h5
  rw [shr32, shr32] at q1
  rw [shr24, shr24] at q2
  rw [shr16, shr16] at q3
  rw [shr8, shr8] at q4
  exact ⟨by omega, h6⟩
theorem esc_inj : ∀ {l m x y : List UInt8}, esc l ++ 0 :: 0 :: x = esc m ++ 0 :: 0 :: y → l = m ∧ x = y
  | [], [], x, y, h => by simp [esc] at h; exact ⟨rfl, h⟩
  | [], b :: m, x, y, h => by
    have : esc (b :: m) = esc1 b ++ esc m := by simp [esc]
    rw [this] at h
    unfold esc1 at h
    split at h
    · simp [esc] at h
    · rename_i hb
      simp [esc] at h
      exact absurd h.1.symm hb
  | a :: l, [], x, y, h => by
    have : esc (a :: l) = esc1 a ++ esc l := by simp [esc]
    rw [this] at h
    unfold esc1 at h
    split at h
    · simp [esc] at h
    · rename_i hb
      simp [esc] at h
      exact absurd h.1 hb
  | a :: l, b :: m, x, y, h => by
    have e1 : esc (a :: l) = esc1 a ++ esc l := by simp [esc]
    have e2 : esc (b :: m) = esc1 b ++ esc m := by simp [esc]
    rw [e1, e2] at h
    by_cases ha : a = 0
    · by_cases hb : b = 0
      · subst ha; subst hb
        simp only [esc1, if_true, List.cons_append, List.nil_append, List.cons.injEq, true_and] at h
        obtain ⟨q1, q2⟩ := esc_inj h
        exact ⟨by rw [q1], q2⟩
      · subst ha
        simp only [esc1, if_true, if_neg hb, List.cons_append, List.nil_append, List.cons.injEq] at h
        exact absurd h.1.symm hb
    · by_cases hb : b = 0
      · subst hb
        simp only [esc1, if_true, if_neg ha, List.cons_append, List.nil_append, List.cons.injEq] at h
        exact absurd h.1 ha
      · simp only [esc1, if_neg ha, if_neg hb, List.cons_append, List.nil_append, List.cons.injEq] at h
        obtain ⟨q1, q2⟩ := esc_inj h.2
        exact ⟨by rw [h.1, q1], q2⟩
theorem valid_kinds {v : Val} (h : v.valid = true) : (v.kind = 0 ∧ v = Val.null) ∨ (v.kind = 1 ∧ -4294967296 ≤ v.int ∧ v.int ≤ 4294967296 ∧ v = ⟨1, v.int, ⟨#[]⟩⟩) ∨ (v.kind = 2 ∧ v.text.size ≤ 32 ∧ v = ⟨2, 0, v.text⟩) := by
  have hnil : ∀ b : ByteArray, b.toList = [] → b = ⟨#[]⟩ := fun b hb => bytes_ext (by rw [hb, ByteArray.toList_eq])
  unfold Val.valid at h
  cases v with | mk k n t =>
  simp only at h ⊢
  split at h
  · rename_i hk
    simp at h
    exact .inl ⟨hk, by rw [Val.null, hk, h.1, hnil t h.2]⟩
  · split at h
    · rename_i hk
      simp at h
      exact .inr (.inl ⟨hk, h.1.1, h.1.2, by rw [hk, hnil t h.2]⟩)
    · split at h
      · rename_i hk
        simp at h
        exact .inr (.inr ⟨hk, h.2, by rw [hk, h.1]⟩)
      · cases h
theorem encVal_inj {v u : Val} (hv : v.valid = true) (hu : u.valid = true) {x y : List UInt8} (h : encVal v ++ x = encVal u ++ y) : v = u ∧ x = y := by
  rcases valid_kinds hv with ⟨kv, ev⟩ | ⟨kv, v1, v2, ev⟩ | ⟨kv, _, ev⟩ <;> rcases valid_kinds hu with ⟨ku, eu⟩ | ⟨ku, u1, u2, eu⟩ | ⟨ku, _, eu⟩ <;> simp [encVal, kv, ku, encInt] at h
  · exact ⟨by rw [ev, eu], h⟩
  · have h' : encInt (v.int + 4294967296) ++ x = encInt (u.int + 4294967296) ++ y := by simp [encInt, h]
    obtain ⟨q1, q2⟩ := encInt_inj (by omega) (by omega) (by omega) (by omega) h'
    exact ⟨by rw [ev, eu, show v.int = u.int by omega], q2⟩
  · obtain ⟨q1, q2⟩ := esc_inj (by simpa using h)
    refine ⟨?_, q2⟩
    rw [ev, eu, bytes_ext (a := v.text) (b := u.text) (by rw [ByteArray.toList_eq, ByteArray.toList_eq]; exact q1)]
theorem encVal_ne (v : Val) : encVal v ≠ [] := by
  unfold encVal
  split
  · simp [encInt]
  · split <;> simp
theorem encRow_inj : ∀ {r s : List Val}, encRow r = encRow s → r.map Val.clean = s.map Val.clean
  | [], [], _ => rfl
  | [], b :: s, h => by
    have : encRow (b :: s) = encVal b.clean ++ encRow s := by simp [encRow]
    rw [this] at h
    have hl := congrArg List.length h
    have hne : 0 < (encVal b.clean).length := List.length_pos_iff.2 (encVal_ne b.clean)
    rw [List.length_append, show (encRow []).length = 0 from rfl] at hl
    omega
  | a :: r, [], h => by
    have : encRow (a :: r) = encVal a.clean ++ encRow r := by simp [encRow]
    rw [this] at h
    have hl := congrArg List.length h
    have hne : 0 < (encVal a.clean).length := List.length_pos_iff.2 (encVal_ne a.clean)
    rw [List.length_append, show (encRow []).length = 0 from rfl] at hl
    omega
  | a :: r, b :: s, h => by
    have e1 : encRow (a :: r) = encVal a.clean ++ encRow r := by simp [encRow]
    have e2 : encRow (b :: s) = encVal b.clean ++ encRow s := by simp [encRow]
    rw [e1, e2] at h
    obtain ⟨q1, q2⟩ := encVal_inj (clean_valid a) (clean_valid b) h
    rw [List.map_cons, List.map_cons, q1, encRow_inj q2]
theorem encRow_clean (r : List Val) : encRow (r.map Val.clean) = encRow r := by
  have : ∀ v : Val, v.clean.clean = v.clean := fun v => by rw [Val.clean, if_pos (clean_valid v)]
  simp [encRow, List.flatMap_map, this]
theorem encRow_iff {r s : List Val} : encRow r = encRow s ↔ rowCmp r s = 0 := by
  rw [rowCmp_ok.zero]
  constructor
  · exact encRow_inj
  · intro h
    rw [← encRow_clean r, ← encRow_clean s, h]
end Go.Proofs.YtmpgmjlanngkfaaGreat
end
section
namespace Go.Proofs.YtmpgmjlanngkfaaGreat
open Go.Abs Go.RowKit
set_option linter.unusedSimpArgs false
set_option maxRecDepth 100000
theorem sfs_arr {mem : List Blk} {r k m z : Nat} {ety : TypeId} {es x : List (List Dat)} (hm : mem[r]? = some (.arr k ety z es)) (hl : m ≤ es.length) (hx : es.take m = x) : SFs mem [.c (.arr r k m)] [.one (.sl x)] :=
  ⟨cf_arr hm hl (by rw [hx]), trivial⟩
def eR (a b : Entry) : Prop := rowCmp a.row b.row < 0
theorem eR_irr (a : Entry) : ¬ eR a a := by unfold eR; rw [rowCmp_ok.refl]; omega
theorem eR_tr (a b c : Entry) (h1 : eR a b) (h2 : eR b c) : eR a c := rowCmp_ok.trans _ _ _ h1 h2
def sumK : List Entry → List Val → Int
  | [], _ => 0
  | e :: l, r => (if rowCmp e.row r = 0 then e.count else 0) + sumK l r
theorem sumK_append (a b : List Entry) (r : List Val) : sumK (a ++ b) r = sumK a r + sumK b r := by
  induction a with
  | nil => simp [sumK]
  | cons e a ih => simp only [List.cons_append, sumK, ih]; omega
theorem sumK_perm {a b : List Entry} (h : a.Perm b) (r : List Val) : sumK a r = sumK b r := by
  induction h with
  | nil => rfl
  | cons x _ ih => simp only [sumK, ih]
  | swap x y l => simp only [sumK]; omega
  | trans _ _ ih1 ih2 => exact ih1.trans ih2
theorem sumK_none {l : List Entry} {r : List Val} (h : ∀ e ∈ l, rowCmp e.row r ≠ 0) : sumK l r = 0 := by
  induction l with
  | nil => rfl
  | cons e l ih => rw [sumK, if_neg (h e (by simp)), ih (fun x hx => h x (by simp [hx]))]; rfl
def apart (l : List Entry) : Prop := l.Pairwise fun a b => rowCmp a.row b.row ≠ 0
theorem cmp0_symm {r s : List Val} (h : rowCmp r s = 0) : rowCmp s r = 0 := (rowCmp_ok.zero _ _).2 ((rowCmp_ok.zero _ _).1 h).symm
theorem cmp0_trans {r s t : List Val} (h : rowCmp r s = 0) (h2 : rowCmp s t = 0) : rowCmp r t = 0 := (rowCmp_ok.zero _ _).2 (((rowCmp_ok.zero _ _).1 h).trans ((rowCmp_ok.zero _ _).1 h2))
theorem cmp0_left {r s : List Val} (h : rowCmp r s = 0) (t : List Val) : (rowCmp r t = 0) ↔ (rowCmp s t = 0) :=
  ⟨fun q => cmp0_trans (cmp0_symm h) q, fun q => cmp0_trans h q⟩
theorem apart_of_sorted {l : List Entry} (h : l.Pairwise eR) : apart l := h.imp fun {a b} q => by unfold eR at q; omega
theorem sumK_mem {l : List Entry} (h : apart l) {e : Entry} (he : e ∈ l) {r : List Val} (hr : rowCmp e.row r = 0) : sumK l r = e.count := by
  induction l with
  | nil => cases he
  | cons x l ih =>
    obtain ⟨h1, h2⟩ := List.pairwise_cons.1 h
    rcases List.mem_cons.1 he with rfl | he
    · rw [sumK, if_pos hr, sumK_none (fun y hy q => h1 y hy (cmp0_trans hr (cmp0_symm q)))]; omega
    · rw [sumK, if_neg (fun q => h1 e he (cmp0_trans q (cmp0_symm hr))), ih h2 he]; omega
theorem sumK_nz {l : List Entry} {r : List Val} (h : sumK l r ≠ 0) : ∃ e ∈ l, rowCmp e.row r = 0 := by
  apply Classical.byContradiction
  intro hn
  exact h (sumK_none fun e he q => hn ⟨e, he, q⟩)
def rowClean (r : List Val) : Prop := r.map Val.clean = r
theorem clean_eq {r s : List Val} (hr : rowClean r) (hs : rowClean s) (h : rowCmp r s = 0) : r = s := by
  have := (rowCmp_ok.zero _ _).1 h
  rw [hr, hs] at this; exact this
theorem rowOK_clean {r : List Val} (h : rowOK r = true) : rowClean r := by
  simp only [rowOK, Bool.and_eq_true, List.all_eq_true] at h
  unfold rowClean
  conv => rhs; rw [← List.map_id r]
  apply List.map_congr_left
  intro v hv
  rw [Val.clean, if_pos (h.2 v hv)]; rfl
structure Sorted (l : List Entry) : Prop where
  up : l.Pairwise eR
  nz : ∀ e ∈ l, e.count ≠ 0
  cl : ∀ e ∈ l, rowClean e.row
theorem Sorted.unique {s t : List Entry} (hs : Sorted s) (ht : Sorted t) (h : ∀ r, sumK s r = sumK t r) : s = t := by
  have key : ∀ {s t : List Entry}, Sorted s → Sorted t → (∀ r, sumK s r = sumK t r) → ∀ e, e ∈ s → e ∈ t := by
    intro s t hs ht h e he
    have h1 := sumK_mem (apart_of_sorted hs.up) he (rowCmp_ok.refl e.row)
    have h2 : sumK t e.row ≠ 0 := by rw [← h, h1]; exact hs.nz e he
    obtain ⟨x, hx, hr⟩ := sumK_nz h2
    have h3 := sumK_mem (apart_of_sorted ht.up) hx hr
    have hrow := clean_eq (ht.cl x hx) (hs.cl e he) hr
    have : x = e := by
      cases x; cases e
      simp only at hrow h3 h1
      rw [hrow] at *
      rw [← h] at h3
      rw [← h3, h1]
    rw [← this]; exact hx
  exact sorted_unique eR_irr eR_tr hs.up ht.up fun e => ⟨key hs ht h e, key ht hs (fun r => (h r).symm) e⟩
theorem sumK_mergeE (a b : List Entry) (r : List Val) : sumK (mergeE a b) r = sumK a r + sumK b r := by
  induction a, b using mergeE.induct with
  | case1 b => simp [mergeE, sumK]
  | case2 a h => rw [mergeE]; simp [sumK]; exact h
  | case3 x a y b h ih => rw [mergeE, if_pos h]; simp only [sumK] at ih ⊢; rw [ih]; omega
  | case4 x a y b h1 h2 ih => rw [mergeE, if_neg h1, if_pos h2]; simp only [sumK] at ih ⊢; rw [ih]; omega
  | case5 x a y b h1 h2 ih =>
    rw [mergeE, if_neg h1, if_neg h2, sumK_append, ih]
    have h0 : rowCmp x.row y.row = 0 := by omega
    have hi := cmp0_left h0 r
    simp only [sumK]
    split
    · rename_i hz
      simp only [sumK]
      by_cases hq : rowCmp y.row r = 0
      · rw [if_pos (hi.2 hq), if_pos hq]; omega
      · rw [if_neg (fun q => hq (hi.1 q)), if_neg hq]; omega
    · simp only [sumK]
      by_cases hq : rowCmp y.row r = 0
      · rw [if_pos (hi.2 hq), if_pos hq]; omega
      · rw [if_neg (fun q => hq (hi.1 q)), if_neg hq]; omega
theorem mem_mergeE (a b : List Entry) (e : Entry) : e ∈ mergeE a b → ∃ x, (x ∈ a ∨ x ∈ b) ∧ x.row = e.row := by
  induction a, b using mergeE.induct with
  | case1 b => intro h; rw [mergeE] at h; exact ⟨e, .inr h, rfl⟩
  | case2 a h => intro h'; rw [mergeE] at h'; exact ⟨e, .inl h', rfl⟩; exact h
  | case3 x a y b h ih =>
    intro h'
    rw [mergeE, if_pos h] at h'
    rcases List.mem_cons.1 h' with rfl | h'
    · exact ⟨e, .inl (by simp), rfl⟩
    · obtain ⟨z, hz, q⟩ := ih h'
      exact ⟨z, hz.imp (fun u => by simp [u]) id, q⟩
  | case4 x a y b h1 h2 ih =>
    intro h'
    rw [mergeE, if_neg h1, if_pos h2] at h'
    rcases List.mem_cons.1 h' with rfl | h'
    · exact ⟨e, .inr (by simp), rfl⟩
    · obtain ⟨z, hz, q⟩ := ih h'
      exact ⟨z, hz.imp id (fun u => by simp [u]), q⟩
  | case5 x a y b h1 h2 ih =>
    intro h'
    rw [mergeE, if_neg h1, if_neg h2] at h'
    rcases List.mem_append.1 h' with h' | h'
    · split at h'
      · cases h'
      · obtain rfl := List.mem_singleton.1 h'
        exact ⟨x, .inl (by simp), rfl⟩
    · obtain ⟨z, hz, q⟩ := ih h'
      exact ⟨z, hz.imp (fun u => by simp [u]) (fun u => by simp [u]), q⟩
theorem sorted_cons {e : Entry} {l : List Entry} (h : Sorted (e :: l)) : Sorted l := ⟨(List.pairwise_cons.1 h.up).2, fun x hx => h.nz x (by simp [hx]), fun x hx => h.cl x (by simp [hx])⟩
theorem mergeE_sorted (a b : List Entry) : Sorted a → Sorted b → Sorted (mergeE a b) := by
  induction a, b using mergeE.induct with
  | case1 b => intro _ hb; rw [mergeE]; exact hb
  | case2 a h => intro ha _; rw [mergeE]; exact ha; exact h
  | case3 x a y b h ih =>
    intro ha hb
    have q := ih (sorted_cons ha) hb
    rw [mergeE, if_pos h]
    refine ⟨List.pairwise_cons.2 ⟨fun z hz => ?_, q.up⟩, fun z hz => ?_, fun z hz => ?_⟩
    · obtain ⟨u, hu, hr⟩ := mem_mergeE _ _ z hz
      show rowCmp x.row z.row < 0
      rw [← hr]
      rcases hu with hu | hu
      · exact (List.pairwise_cons.1 ha.up).1 u hu
      · rcases List.mem_cons.1 hu with rfl | hu
        · exact h
        · exact rowCmp_ok.trans _ _ _ h ((List.pairwise_cons.1 hb.up).1 u hu)
    · rcases List.mem_cons.1 hz with rfl | hz
      · exact ha.nz z (by simp)
      · exact q.nz z hz
    · rcases List.mem_cons.1 hz with rfl | hz
      · exact ha.cl z (by simp)
      · exact q.cl z hz
  | case4 x a y b h1 h2 ih =>
    intro ha hb
    have h : rowCmp y.row x.row < 0 := (rowCmp_ok.anti _ _).2 h2
    have q := ih ha (sorted_cons hb)
    rw [mergeE, if_neg h1, if_pos h2]
    refine ⟨List.pairwise_cons.2 ⟨fun z hz => ?_, q.up⟩, fun z hz => ?_, fun z hz => ?_⟩
    · obtain ⟨u, hu, hr⟩ := mem_mergeE _ _ z hz
      show rowCmp y.row z.row < 0
      rw [← hr]
      rcases hu with hu | hu
      · rcases List.mem_cons.1 hu with rfl | hu
        · exact h
        · exact rowCmp_ok.trans _ _ _ h ((List.pairwise_cons.1 ha.up).1 u hu)
      · exact (List.pairwise_cons.1 hb.up).1 u hu
    · rcases List.mem_cons.1 hz with rfl | hz
      · exact hb.nz z (by simp)
      · exact q.nz z hz
    · rcases List.mem_cons.1 hz with rfl | hz
      · exact hb.cl z (by simp)
      · exact q.cl z hz
  | case5 x a y b h1 h2 ih =>
    intro ha hb
    have h0 : rowCmp x.row y.row = 0 := by omega
    have q := ih (sorted_cons ha) (sorted_cons hb)
    rw [mergeE, if_neg h1, if_neg h2]
    split
    · exact q
    · rename_i hz
      refine ⟨List.pairwise_cons.2 ⟨fun z hz => ?_, q.up⟩, fun z hz' => ?_, fun z hz' => ?_⟩
      · obtain ⟨u, hu, hr⟩ := mem_mergeE _ _ z hz
        show rowCmp x.row z.row < 0
        rw [← hr]
        rcases hu with hu | hu
        · exact (List.pairwise_cons.1 ha.up).1 u hu
        · exact rowCmp_ok.left ((rowCmp_ok.zero _ _).1 (cmp0_symm h0)) ((List.pairwise_cons.1 hb.up).1 u hu)
      · rcases List.mem_cons.1 hz' with rfl | hz'
        · exact hz
        · exact q.nz z hz'
      · rcases List.mem_cons.1 hz' with rfl | hz'
        · exact ha.cl x (by simp)
        · exact q.cl z hz'
theorem sumK_filter (l : List Entry) (r : List Val) : sumK (l.filter (fun e => decide (e.count ≠ 0))) r = sumK l r := by
  induction l with
  | nil => rfl
  | cons e l ih =>
    rw [List.filter_cons]
    split
    · simp only [sumK, ih]
    · rename_i h
      have : e.count = 0 := by simpa using h
      simp only [sumK, ih, this]; split <;> omega
theorem sortE_says (l : List Entry) : (∀ e ∈ l, rowClean e.row) → Sorted (sortE l) ∧ ∀ r, sumK (sortE l) r = sumK l r := by
  induction l using sortE.induct with
  | case1 l h =>
    intro hc
    rw [sortE, dif_pos h]
    refine ⟨⟨?_, fun e he => by simpa using (List.mem_filter.1 he).2, fun e he => hc e (List.mem_filter.1 he).1⟩, sumK_filter l⟩
    match l, h with
    | [], _ => exact .nil
    | [e], _ => exact List.Pairwise.sublist List.filter_sublist (List.pairwise_singleton _ _)
  | case2 l h ih1 ih2 =>
    intro hc
    obtain ⟨a1, a2⟩ := ih1 (fun e he => hc e (List.mem_of_mem_take he))
    obtain ⟨b1, b2⟩ := ih2 (fun e he => hc e (List.mem_of_mem_drop he))
    rw [sortE, dif_neg h]
    refine ⟨mergeE_sorted _ _ a1 b1, fun r => ?_⟩
    rw [sumK_mergeE, a2, b2, ← sumK_append, List.take_append_drop]
def entCmp (a b : Entry) : Int := rowCmp a.row b.row
theorem entCmp_ok : CmpOk entCmp (fun e => e.row.map Val.clean) := rowCmp_ok.comp Entry.row
theorem sortF_apart {l : List Entry} (ha : apart l) (hn : ∀ e ∈ l, e.count ≠ 0) (hc : ∀ e ∈ l, rowClean e.row) : Sorted (sortF entCmp l) := by
  have hp := sortF_perm entCmp_ok.swo l
  have hs := sortF_sorted entCmp_ok.swo l
  refine ⟨?_, fun e he => hn e (hp.mem_iff.1 he), fun e he => hc e (hp.mem_iff.1 he)⟩
  have ha' : apart (sortF entCmp l) := (hp.symm.pairwise ha (fun {a b} h q => h (cmp0_symm q)))
  refine (hs.and ha').imp ?_
  rintro a b ⟨h1, h2⟩
  unfold entCmp at h1
  have := rowCmp_ok.anti a.row b.row
  show rowCmp a.row b.row < 0
  omega
theorem sortF_sums {l b : List Entry} (hl : ∀ e ∈ l, rowClean e.row) (ha : apart b) (hn : ∀ e ∈ b, e.count ≠ 0) (hc : ∀ e ∈ b, rowClean e.row) (h : ∀ r, sumK b r = sumK l r) : sortF entCmp b = sortE l := by
  obtain ⟨s1, s2⟩ := sortE_says l hl
  refine (sortF_apart ha hn hc).unique s1 fun r => ?_
  rw [s2, ← h, sumK_perm (sortF_perm entCmp_ok.swo b)]
def kR (a b : List Val) : Prop := rowCmp a b < 0
theorem kR_irr (a : List Val) : ¬ kR a a := by unfold kR; rw [rowCmp_ok.refl]; omega
theorem kR_tr (a b c : List Val) (h1 : kR a b) (h2 : kR b c) : kR a c := rowCmp_ok.trans _ _ _ h1 h2
def CleanK (b : List Entry) (kf : List Val → List Val) : Prop := ∀ e ∈ b, rowClean (kf e.row)
def atK (kf : List Val → List Val) (k : List Val) (e : Entry) : Bool := decide (rowCmp (kf e.row) k = 0)
def keysE (b : List Entry) (kf : List Val → List Val) : List (List Val) := (sortE (b.map fun e => ⟨kf e.row, 1⟩)).map Entry.row
def grpE (b : List Entry) (kf : List Val → List Val) : List (List Val × List Entry) := (keysE b kf).map fun k => (k, b.filter (atK kf k))
theorem atK_iff {b : List Entry} {kf : List Val → List Val} (hk : CleanK b kf) {e : Entry} (he : e ∈ b) {k : List Val} (hc : rowClean k) : atK kf k e = true ↔ kf e.row = k := by
  unfold atK
  rw [decide_eq_true_eq]
  exact ⟨clean_eq (hk e he) hc, fun h => by rw [h]; exact rowCmp_ok.refl _⟩
theorem sumK_nn : ∀ (l : List Entry) (r : List Val), (∀ e ∈ l, 0 < e.count) → 0 ≤ sumK l r
  | [], _, _ => Int.le_refl _
  | e :: l, r, h => by
    have h1 := sumK_nn l r (fun x hx => h x (by simp [hx]))
    have h2 := h e (by simp)
    rw [sumK]; split <;> omega
theorem sumK_has : ∀ {l : List Entry} {r : List Val}, (∀ e ∈ l, 0 < e.count) → (∃ e ∈ l, rowCmp e.row r = 0) → sumK l r ≠ 0
  | [], _, _, h => by obtain ⟨_, h, _⟩ := h; cases h
  | e :: l, r, h, hx => by
    have h1 := sumK_nn l r (fun x hx => h x (by simp [hx]))
    have h2 := h e (by simp)
    rw [sumK]
    by_cases he : rowCmp e.row r = 0
    · rw [if_pos he]; omega
    · rw [if_neg he]
      obtain ⟨x, hx1, hx2⟩ := hx
      rcases List.mem_cons.1 hx1 with rfl | hx1
      · exact absurd hx2 he
      · have := sumK_has (fun y hy => h y (by simp [hy])) ⟨x, hx1, hx2⟩
        omega
theorem keys_says {b : List Entry} {kf : List Val → List Val} (hk : CleanK b kf) : (keysE b kf).Pairwise kR ∧ (∀ k ∈ keysE b kf, rowClean k) ∧ ∀ k, k ∈ keysE b kf ↔ ∃ e ∈ b, kf e.row = k := by
  have hcl : ∀ e ∈ b.map fun e : Entry => (⟨kf e.row, 1⟩ : Entry), rowClean e.row := fun e he => by
    obtain ⟨x, hx, rfl⟩ := List.mem_map.1 he
    exact hk x hx
  obtain ⟨h1, h2⟩ := sortE_says _ hcl
  have hkc : ∀ k ∈ keysE b kf, rowClean k := fun k hkm => by
    obtain ⟨e, he, rfl⟩ := List.mem_map.1 hkm
    exact h1.cl e he
  refine ⟨by unfold keysE; rw [List.pairwise_map]; exact h1.up, hkc, fun k => ⟨fun hm => ?_, fun hm => ?_⟩⟩
  · have hc := hkc k hm
    obtain ⟨e, he, rfl⟩ := List.mem_map.1 hm
    have hz : sumK (sortE (b.map fun e : Entry => (⟨kf e.row, 1⟩ : Entry))) e.row ≠ 0 := by
      rw [sumK_mem (apart_of_sorted h1.up) he (rowCmp_ok.refl _)]; exact h1.nz e he
    rw [h2] at hz
    obtain ⟨x, hx, hr⟩ := sumK_nz hz
    obtain ⟨y, hy, rfl⟩ := List.mem_map.1 hx
    exact ⟨y, hy, clean_eq (hk y hy) hc hr⟩
  · obtain ⟨e, he, rfl⟩ := hm
    have hz : sumK (b.map fun e : Entry => (⟨kf e.row, 1⟩ : Entry)) (kf e.row) ≠ 0 :=
      sumK_has (fun x hx => by obtain ⟨y, _, rfl⟩ := List.mem_map.1 hx; exact Int.zero_lt_one) ⟨_, List.mem_map.2 ⟨e, he, rfl⟩, rowCmp_ok.refl _⟩
    rw [← h2] at hz
    obtain ⟨x, hx, hr⟩ := sumK_nz hz
    exact List.mem_map.2 ⟨x, hx, clean_eq (h1.cl x hx) (hk e he) hr⟩
structure GI (b : List Entry) (kf : List Val → List Val) (acc : List (List Val × List Entry)) : Prop where
  nd : acc.Pairwise fun g h => g.1 ≠ h.1
  mem : ∀ g ∈ acc, (∃ e ∈ b, kf e.row = g.1) ∧ g.2 = b.filter (atK kf g.1)
  all : ∀ e ∈ b, ∃ g ∈ acc, g.1 = kf e.row
theorem gi_nil (kf : List Val → List Val) : GI [] kf [] := ⟨.nil, fun _ hg => (by cases hg), fun _ he => (by cases he)⟩
theorem take_snoc' {α : Type} {l : List α} {i : Nat} {x : α} (h : l[i]? = some x) : l.take (i + 1) = l.take i ++ [x] := by rw [List.take_add_one, h]; rfl
theorem gi_old {b : List Entry} {kf : List Val → List Val} {acc : List (List Val × List Entry)} {i j : Nat} {e : Entry} {es : List Entry} (hk : CleanK b kf) (h : GI (b.take i) kf acc) (he : b[i]? = some e) (hj : acc[j]? = some (kf e.row, es)) : GI (b.take (i + 1)) kf (acc.set j (kf e.row, es ++ [e])) := by
  have hem : e ∈ b := List.mem_of_getElem? he
  have hjl := lt_of_getElem? hj
  have hne : ∀ g ∈ acc, g ≠ (kf e.row, es) → g.1 ≠ kf e.row := fun g hg hn hq => by
    obtain ⟨q, hq2⟩ := List.mem_iff_getElem?.1 hg
    have hql := lt_of_getElem? hq2
    have hp := List.pairwise_iff_getElem.1 h.nd
    rw [List.getElem?_eq_getElem hjl] at hj
    rw [List.getElem?_eq_getElem hql] at hq2
    simp only [Option.some.injEq] at hj hq2
    rcases Nat.lt_trichotomy q j with c | c | c
    · have := hp q j hql hjl c; rw [hq2, hj] at this; exact this hq
    · subst c; exact hn (hq2.symm.trans hj)
    · have := hp j q hjl hql c; rw [hq2, hj] at this; exact this hq.symm
  have hfst : (acc.set j (kf e.row, es ++ [e])).map Prod.fst = acc.map Prod.fst := by
    rw [List.map_set]
    refine List.ext_getElem? fun q => ?_
    rw [List.getElem?_set]
    split
    · rename_i c; subst c
      rw [List.length_map, if_pos hjl, List.getElem?_map, hj]; rfl
    · rfl
  rw [take_snoc' he]
  refine ⟨?_, fun g hg => ?_, fun x hx => ?_⟩
  · have := h.nd
    rw [← List.pairwise_map (f := Prod.fst) (R := fun a b => a ≠ b)] at this ⊢
    rw [hfst]; exact this
  · rw [List.filter_append]
    obtain ⟨q, hq⟩ := List.mem_iff_getElem?.1 hg
    rw [List.getElem?_set] at hq
    split at hq
    · rename_i c; subst c
      simp only [Option.some.injEq] at hq
      subst hq
      refine ⟨⟨e, by simp, rfl⟩, ?_⟩
      rw [← (h.mem _ (List.mem_of_getElem? hj)).2, List.filter_cons_of_pos ((atK_iff hk hem (hk e hem)).2 rfl)]; rfl
    · rename_i c
      have hgm := List.mem_of_getElem? hq
      have hgk : g.1 ≠ kf e.row := by
        intro hh
        have hql := lt_of_getElem? hq
        have hp := List.pairwise_iff_getElem.1 h.nd
        rw [List.getElem?_eq_getElem hjl] at hj
        rw [List.getElem?_eq_getElem hql] at hq
        simp only [Option.some.injEq] at hj hq
        rcases Nat.lt_trichotomy q j with c | c | c
        · have := hp q j hql hjl c; rw [hq, hj] at this; exact this hh
        · exact absurd c.symm ‹_›
        · have := hp j q hjl hql c; rw [hq, hj] at this; exact this hh.symm
      obtain ⟨⟨x, hx, hxe⟩, h2⟩ := h.mem g hgm
      refine ⟨⟨x, by simp [hx], hxe⟩, ?_⟩
      have hxm : x ∈ b := List.mem_of_mem_take hx
      rw [← h2, List.filter_cons_of_neg (fun q => hgk ((atK_iff hk hem (hxe ▸ hk x hxm)).1 q).symm)]; simp
  · rcases List.mem_append.1 hx with hx | hx
    · obtain ⟨g, hg, hgk⟩ := h.all x hx
      have : g.1 ∈ (acc.set j (kf e.row, es ++ [e])).map Prod.fst := by rw [hfst]; exact List.mem_map.2 ⟨g, hg, rfl⟩
      obtain ⟨g', hg', hq⟩ := List.mem_map.1 this
      exact ⟨g', hg', hq.trans hgk⟩
    · rw [List.mem_singleton] at hx; subst hx
      exact ⟨(kf x.row, es ++ [x]), List.mem_iff_getElem?.2 ⟨j, by rw [List.getElem?_set_self hjl]⟩, rfl⟩
theorem gi_new {b : List Entry} {kf : List Val → List Val} {acc : List (List Val × List Entry)} {i : Nat} {e : Entry} (hk : CleanK b kf) (h : GI (b.take i) kf acc) (he : b[i]? = some e) (hn : ∀ g ∈ acc, g.1 ≠ kf e.row) : GI (b.take (i + 1)) kf (acc ++ [(kf e.row, [e])]) := by
  have hem : e ∈ b := List.mem_of_getElem? he
  rw [take_snoc' he]
  refine ⟨?_, fun g hg => ?_, fun x hx => ?_⟩
  · rw [List.pairwise_append]
    exact ⟨h.nd, List.pairwise_singleton .., fun g hg g' hg' => by rw [List.mem_singleton] at hg'; subst hg'; exact hn g hg⟩
  · rw [List.filter_append]
    rcases List.mem_append.1 hg with hg | hg
    · obtain ⟨⟨x, hx, hxe⟩, h2⟩ := h.mem g hg
      refine ⟨⟨x, by simp [hx], hxe⟩, ?_⟩
      rw [← h2, List.filter_cons_of_neg (fun q => hn g hg ((atK_iff hk hem (hxe ▸ hk x (List.mem_of_mem_take hx))).1 q).symm)]; simp
    · rw [List.mem_singleton] at hg; subst hg
      refine ⟨⟨e, by simp, rfl⟩, ?_⟩
      rw [List.filter_cons_of_pos ((atK_iff hk hem (hk e hem)).2 rfl), List.filter_eq_nil_iff.2 fun x hx q => ?_]; rfl
      obtain ⟨g, hg, hgk⟩ := h.all x hx
      exact hn g hg (hgk.trans ((atK_iff hk (List.mem_of_mem_take hx) (hk e hem)).1 q))
  · rcases List.mem_append.1 hx with hx | hx
    · obtain ⟨g, hg, hgk⟩ := h.all x hx
      exact ⟨g, by simp [hg], hgk⟩
    · rw [List.mem_singleton] at hx; subst hx
      exact ⟨(kf x.row, [x]), by simp, rfl⟩
def grpCmp (g h : List Val × List Entry) : Int := rowCmp g.1 h.1
theorem grpCmp_ok : CmpOk grpCmp (fun g => g.1.map Val.clean) := rowCmp_ok.comp Prod.fst
theorem gi_sort {b : List Entry} {kf : List Val → List Val} {acc : List (List Val × List Entry)} (hk : CleanK b kf) (h : GI b kf acc) : sortF grpCmp acc = grpE b kf := by
  obtain ⟨k1, k2, k3⟩ := keys_says hk
  have hp := sortF_perm grpCmp_ok.swo acc
  have hs := sortF_sorted grpCmp_ok.swo acc
  have hac : ∀ g ∈ acc, rowClean g.1 := fun g hg => by
    obtain ⟨⟨e, he, hq⟩, _⟩ := h.mem g hg
    exact hq ▸ hk e he
  have hnd : (sortF grpCmp acc).Pairwise fun g h => g.1 ≠ h.1 := (hp.pairwise_iff (fun {a b} hab => hab.symm)).2 h.nd
  have h1 : (sortF grpCmp acc).Pairwise fun g h => kR g.1 h.1 := by
    refine List.Pairwise.imp_of_mem (fun {g g'} hg hg' ⟨q1, q2⟩ => ?_) (hnd.and hs)
    have c1 := hac g (hp.mem_iff.1 hg)
    have c2 := hac g' (hp.mem_iff.1 hg')
    have e0 : rowCmp g.1 g'.1 ≠ 0 := fun q => q1 (clean_eq c1 c2 q)
    have e1 := rowCmp_ok.anti g.1 g'.1
    have e2 : ¬ rowCmp g'.1 g.1 < 0 := q2
    show rowCmp g.1 g'.1 < 0
    omega
  have h2 : (grpE b kf).Pairwise fun g h => kR g.1 h.1 := by
    unfold grpE; rw [List.pairwise_map]; exact k1
  refine sorted_unique (fun g => kR_irr g.1) (fun a b c => kR_tr a.1 b.1 c.1) h1 h2 fun g => ?_
  rw [hp.mem_iff]
  constructor
  · intro hg
    obtain ⟨⟨e, he, hq⟩, h3⟩ := h.mem g hg
    exact List.mem_map.2 ⟨g.1, (k3 _).2 ⟨e, he, hq⟩, by rw [← h3]⟩
  · intro hg
    obtain ⟨k, hkm, rfl⟩ := List.mem_map.1 hg
    obtain ⟨e, he, rfl⟩ := (k3 k).1 hkm
    obtain ⟨g, hg, hgk⟩ := h.all e he
    have := (h.mem g hg).2
    rw [hgk] at this
    rw [← this, ← hgk]; exact hg
def ttl (L : List (Val × Int)) : Int := (L.map Prod.snd).sum
def sumV (L : List (Val × Int)) : Int := (L.map fun x => if x.1.kind = 1 then x.1.int * x.2 else 0).sum
def cntV (L : List (Val × Int)) : Int := (L.map fun x => if x.1.kind = 1 then x.2 else 0).sum
def nnE (L : List (Val × Int)) : List (Val × Int) := L.filter fun x => decide (x.1.kind ≠ 0)
def nthE : List (Val × Int) → Int → Val
  | [], _ => Val.null
  | x :: L, i => if i < x.2 then x.1 else nthE L (i - x.2)
def below (L : List (Val × Int)) (v : Val) : Int := (L.map fun x => if x.1.cmp v < 0 then x.2 else 0).sum
def upto (L : List (Val × Int)) (v : Val) : Int := (L.map fun x => if v.cmp x.1 < 0 then 0 else x.2).sum
def PosC (L : List (Val × Int)) : Prop := ∀ x ∈ L, 0 < x.2
def AscV (L : List (Val × Int)) : Prop := L.Pairwise fun x y => ¬ y.1.cmp x.1 < 0
theorem sum_perm {α : Type} {f : α → Int} {a b : List α} (h : a.Perm b) : (a.map f).sum = (b.map f).sum := by
  induction h with
  | nil => rfl
  | cons x _ ih => simp [ih]
  | swap x y l => simp only [List.map_cons, List.sum_cons]; omega
  | trans _ _ i1 i2 => exact i1.trans i2
theorem sum_le {α : Type} {f g : α → Int} : ∀ {l : List α}, (∀ x ∈ l, f x ≤ g x) → (l.map f).sum ≤ (l.map g).sum
  | [], _ => Int.le_refl _
  | x :: l, h => by
    have h1 := h x (by simp)
    have h2 := sum_le (l := l) fun y hy => h y (by simp [hy])
    simp only [List.map_cons, List.sum_cons]; omega
theorem sum_zero {α : Type} {f : α → Int} : ∀ {l : List α}, (∀ x ∈ l, f x = 0) → (l.map f).sum = 0
  | [], _ => rfl
  | x :: l, h => by
    have h1 := h x (by simp)
    have h2 := sum_zero (l := l) fun y hy => h y (by simp [hy])
    simp only [List.map_cons, List.sum_cons]; omega
theorem ttl_pos {L : List (Val × Int)} (hp : PosC L) (hn : L ≠ []) : 0 < ttl L := by
  cases L with
  | nil => exact absurd rfl hn
  | cons x L =>
    have h := sum_le (f := fun _ => (0 : Int)) (g := Prod.snd) (l := L) fun y hy => by
      have := hp y (by simp [hy]); omega
    rw [sum_zero (f := fun _ : Val × Int => (0 : Int)) (fun _ _ => rfl)] at h
    have := hp x (by simp)
    unfold ttl
    simp only [List.map_cons, List.sum_cons]; omega
noncomputable def ascE (L : List (Val × Int)) : List (Val × Int) := sortF (fun x y => x.1.cmp y.1) (nnE L)
noncomputable def foldE (f : Int) (L : List (Val × Int)) : Val :=
  if f = 0 then Val.ofInt (ttl L)
  else if f = 1 then (if cntV L = 0 then Val.null else Val.ofInt (sumV L))
  else if f = 2 then (if nnE L = [] then Val.null else nthE (ascE L) 0)
  else if f = 3 then (if nnE L = [] then Val.null else nthE (ascE L) (ttl (nnE L) - 1))
  else if f = 4 then (if nnE L = [] then Val.null else nthE (ascE L) ((ttl (nnE L) - 1) / 2))
  else Val.null
theorem vcmp_ok : CmpOk (fun x y : Val × Int => x.1.cmp y.1) (fun x => x.1.clean) := cmp_ok.comp Prod.fst
theorem ascE_perm (L : List (Val × Int)) : (ascE L).Perm (nnE L) := sortF_perm vcmp_ok.swo _
theorem nth_first {x : Val × Int} {S : List (Val × Int)} (hp : PosC (x :: S)) : nthE (x :: S) 0 = x.1 := by rw [nthE, if_pos (hp x (by simp))]
theorem nth_last : ∀ {S : List (Val × Int)} {x : Val × Int}, PosC (S ++ [x]) → nthE (S ++ [x]) (ttl (S ++ [x]) - 1) = x.1
  | [], x, h => by
    have := h x (by simp)
    show (if ttl [x] - 1 < x.2 then x.1 else _) = x.1
    rw [if_pos (by simp [ttl]; omega)]
  | y :: S, x, h => by
    have hp : PosC (S ++ [x]) := fun z hz => h z (by rw [List.cons_append]; exact List.mem_cons_of_mem _ hz)
    have ht := ttl_pos hp (by simp)
    have he : ttl (y :: (S ++ [x])) = y.2 + ttl (S ++ [x]) := by simp [ttl]
    rw [List.cons_append, nthE, he, if_neg (by omega), show y.2 + ttl (S ++ [x]) - 1 - y.2 = ttl (S ++ [x]) - 1 by omega]
    exact nth_last hp
end Go.Proofs.YtmpgmjlanngkfaaGreat
end
