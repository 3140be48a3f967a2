/-
  Different cleaned rows have different byte forms. Plain, no program.
-/
import Derived.Test.YtgfachlcocjdbaaOrd
namespace Go.Proofs.Ytgfachlcocjdbaa
open Go.Abs Go.RowKit
set_option linter.unusedSimpArgs false

theorem u8of_inj {a b : Int} (h : u8of a = u8of b) : a % 256 = b % 256 := by
  have h1 := u8of_wrap a
  have h2 := u8of_wrap b
  rw [h] at h1
  have := h1.trans h2.symm
  simpa [IntKind.wrap, IntKind.bits, IntKind.signed] using this

theorem shr_nat (n : Int) (k : Nat) (z : Int) (hk : k ≤ 64) (hz : (2 : Int) ^ k = z) : shrInt .i64 n k = n / z := by
  rw [shr_i64 hk, hz]
  exact Int.fdiv_eq_ediv_of_nonneg n (by rw [← hz]; exact Int.le_of_lt (Int.pow_pos (by decide)))
theorem shr32 (n : Int) : shrInt .i64 n 32 = n / 4294967296 := shr_nat n 32 _ (by decide) rfl
theorem shr24 (n : Int) : shrInt .i64 n 24 = n / 16777216 := shr_nat n 24 _ (by decide) rfl
theorem shr16 (n : Int) : shrInt .i64 n 16 = n / 65536 := shr_nat n 16 _ (by decide) rfl
theorem shr8 (n : Int) : shrInt .i64 n 8 = n / 256 := shr_nat n 8 _ (by decide) rfl

theorem encInt_inj {a b : Int} (ha : 0 ≤ a) (ha' : a ≤ 8589934592) (hb : 0 ≤ b) (hb' : b ≤ 8589934592) {x y : List UInt8} (h : encInt a ++ x = encInt b ++ y) : a = b ∧ x = y := by
  simp only [encInt, List.cons_append, List.nil_append, List.cons.injEq, true_and] at h
  obtain ⟨h1, h2, h3, h4, h5, h6⟩ := h
  have q1 := u8of_inj h1
  have q2 := u8of_inj h2
  have q3 := u8of_inj h3
  have q4 := u8of_inj h4
  have q5 := u8of_inj h5
  rw [shr32, shr32] at q1
  rw [shr24, shr24] at q2
  rw [shr16, shr16] at q3
  rw [shr8, shr8] at q4
  exact ⟨by omega, h6⟩

theorem esc_inj : ∀ {l m x y : List UInt8}, esc l ++ 0 :: 0 :: x = esc m ++ 0 :: 0 :: y → l = m ∧ x = y
  | [], [], x, y, h => by simp [esc] at h; exact ⟨rfl, h⟩
  | [], b :: m, x, y, h => by
    have : esc (b :: m) = esc1 b ++ esc m := by simp [esc]
    rw [this] at h
    unfold esc1 at h
    split at h
    · simp [esc] at h
    · rename_i hb
      simp [esc] at h
      exact absurd h.1.symm hb
  | a :: l, [], x, y, h => by
    have : esc (a :: l) = esc1 a ++ esc l := by simp [esc]
    rw [this] at h
    unfold esc1 at h
    split at h
    · simp [esc] at h
    · rename_i hb
      simp [esc] at h
      exact absurd h.1 hb
  | a :: l, b :: m, x, y, h => by
    have e1 : esc (a :: l) = esc1 a ++ esc l := by simp [esc]
    have e2 : esc (b :: m) = esc1 b ++ esc m := by simp [esc]
    rw [e1, e2] at h
    by_cases ha : a = 0
    · by_cases hb : b = 0
      · subst ha; subst hb
        simp only [esc1, if_true, List.cons_append, List.nil_append, List.cons.injEq, true_and] at h
        obtain ⟨q1, q2⟩ := esc_inj h
        exact ⟨by rw [q1], q2⟩
      · subst ha
        simp only [esc1, if_true, if_neg hb, List.cons_append, List.nil_append, List.cons.injEq] at h
        exact absurd h.1.symm hb
    · by_cases hb : b = 0
      · subst hb
        simp only [esc1, if_true, if_neg ha, List.cons_append, List.nil_append, List.cons.injEq] at h
        exact absurd h.1 ha
      · simp only [esc1, if_neg ha, if_neg hb, List.cons_append, List.nil_append, List.cons.injEq] at h
        obtain ⟨q1, q2⟩ := esc_inj h.2
        exact ⟨by rw [h.1, q1], q2⟩

theorem valid_kinds {v : Val} (h : v.valid = true) : (v.kind = 0 ∧ v = Val.null) ∨ (v.kind = 1 ∧ -4294967296 ≤ v.int ∧ v.int ≤ 4294967296 ∧ v = ⟨1, v.int, ⟨#[]⟩⟩) ∨ (v.kind = 2 ∧ v.text.size ≤ 32 ∧ v = ⟨2, 0, v.text⟩) := by
  have hnil : ∀ b : ByteArray, b.toList = [] → b = ⟨#[]⟩ := fun b hb => bytes_ext (by rw [hb, ByteArray.toList_eq])
  unfold Val.valid at h
  cases v with | mk k n t =>
  simp only at h ⊢
  split at h
  · rename_i hk
    simp at h
    exact .inl ⟨hk, by rw [Val.null, hk, h.1, hnil t h.2]⟩
  · split at h
    · rename_i hk
      simp at h
      exact .inr (.inl ⟨hk, h.1.1, h.1.2, by rw [hk, hnil t h.2]⟩)
    · split at h
      · rename_i hk
        simp at h
        exact .inr (.inr ⟨hk, h.2, by rw [hk, h.1]⟩)
      · cases h

theorem encVal_inj {v u : Val} (hv : v.valid = true) (hu : u.valid = true) {x y : List UInt8} (h : encVal v ++ x = encVal u ++ y) : v = u ∧ x = y := by
  rcases valid_kinds hv with ⟨kv, ev⟩ | ⟨kv, v1, v2, ev⟩ | ⟨kv, _, ev⟩ <;> rcases valid_kinds hu with ⟨ku, eu⟩ | ⟨ku, u1, u2, eu⟩ | ⟨ku, _, eu⟩ <;> simp [encVal, kv, ku, encInt] at h
  · exact ⟨by rw [ev, eu], h⟩
  · have h' : encInt (v.int + 4294967296) ++ x = encInt (u.int + 4294967296) ++ y := by simp [encInt, h]
    obtain ⟨q1, q2⟩ := encInt_inj (by omega) (by omega) (by omega) (by omega) h'
    exact ⟨by rw [ev, eu, show v.int = u.int by omega], q2⟩
  · obtain ⟨q1, q2⟩ := esc_inj (by simpa using h)
    refine ⟨?_, q2⟩
    rw [ev, eu, bytes_ext (a := v.text) (b := u.text) (by rw [ByteArray.toList_eq, ByteArray.toList_eq]; exact q1)]

theorem encVal_ne (v : Val) : encVal v ≠ [] := by
  unfold encVal
  split
  · simp [encInt]
  · split <;> simp

theorem encRow_inj : ∀ {r s : List Val}, encRow r = encRow s → r.map Val.clean = s.map Val.clean
  | [], [], _ => rfl
  | [], b :: s, h => by
    have : encRow (b :: s) = encVal b.clean ++ encRow s := by simp [encRow]
    rw [this] at h
    have hl := congrArg List.length h
    have hne : 0 < (encVal b.clean).length := List.length_pos_iff.2 (encVal_ne b.clean)
    rw [List.length_append, show (encRow []).length = 0 from rfl] at hl
    omega
  | a :: r, [], h => by
    have : encRow (a :: r) = encVal a.clean ++ encRow r := by simp [encRow]
    rw [this] at h
    have hl := congrArg List.length h
    have hne : 0 < (encVal a.clean).length := List.length_pos_iff.2 (encVal_ne a.clean)
    rw [List.length_append, show (encRow []).length = 0 from rfl] at hl
    omega
  | a :: r, b :: s, h => by
    have e1 : encRow (a :: r) = encVal a.clean ++ encRow r := by simp [encRow]
    have e2 : encRow (b :: s) = encVal b.clean ++ encRow s := by simp [encRow]
    rw [e1, e2] at h
    obtain ⟨q1, q2⟩ := encVal_inj (clean_valid a) (clean_valid b) h
    rw [List.map_cons, List.map_cons, q1, encRow_inj q2]

theorem encRow_clean (r : List Val) : encRow (r.map Val.clean) = encRow r := by
  have : ∀ v : Val, v.clean.clean = v.clean := fun v => by rw [Val.clean, if_pos (clean_valid v)]
  simp [encRow, List.flatMap_map, this]

theorem encRow_iff {r s : List Val} : encRow r = encRow s ↔ rowCmp r s = 0 := by
  rw [rowCmp_ok.zero]
  constructor
  · exact encRow_inj
  · intro h
    rw [← encRow_clean r, ← encRow_clean s, h]
end Go.Proofs.Ytgfachlcocjdbaa
