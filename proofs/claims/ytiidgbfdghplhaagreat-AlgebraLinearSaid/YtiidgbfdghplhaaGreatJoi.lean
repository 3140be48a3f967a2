/-
  Algebra: the joiner: sums are made final, a row is added.
-/
import Derived.Test.YtiidgbfdghplhaaGreatAlc
import Derived.Test.YtiidgbfdghplhaaGreatMpc
import Derived.Test.YtiidgbfdghplhaaGreatSam
namespace Go.Proofs.YtiidgbfdghplhaaGreat
open Go.Abs Go.RowKit
attribute [local irreducible] ARun kont MCall PCall HCall resVal SF CF CFs defersOk slotsIn memIn fin finM VLe
set_option linter.unusedSimpArgs false
set_option maxRecDepth 100000
set_option maxHeartbeats 4000000

abbrev Bs := List UInt8
structure Lev where
  code : Bs
  opened : List Bs
def Lev.d (l : Lev) : List Dat := [strD l.code, .sl (l.opened.map fun c => [strD c])]
def enD (x : Bs × Int) : List Dat := [strD x.1, .lit (.int .i64 x.2)]
def kvS (x : Bs × Int) : Value × Dat := (.string ⟨x.1.toArray⟩, .lit (.int .i64 x.2))

def getK (c : Bs) : List (Bs × Int) → Int
  | [] => 0
  | e :: l => if e.1 = c then e.2 else getK c l
def hasK (c : Bs) : List (Bs × Int) → Bool
  | [] => false
  | e :: l => if e.1 = c then true else hasK c l
def setK (c : Bs) (v : Int) : List (Bs × Int) → List (Bs × Int)
  | [] => [(c, v)]
  | e :: l => if e.1 = c then (c, v) :: l else e :: setK c v l
def delK (c : Bs) : List (Bs × Int) → List (Bs × Int)
  | [] => []
  | e :: l => if e.1 = c then l else e :: delK c l

theorem strV_inj {a b : Bs} (h : Value.string ⟨a.toArray⟩ = Value.string ⟨b.toArray⟩) : a = b := by
  injection h with h; injection h with h
  simpa using congrArg Array.toList h
theorem kvS_good (l : List (Bs × Int)) : ∀ e ∈ l.map kvS, IsStr e.1 := fun e he => by
  obtain ⟨x, _, rfl⟩ := List.mem_map.1 he
  exact ⟨_, rfl⟩

theorem key_cases (c : Bs) : ∀ l : List (Bs × Int), (∃ i v, l[i]? = some (c, v) ∧ getK c l = v ∧ hasK c l = true ∧ delK c l = l.eraseIdx i ∧ ∀ w, setK c w l = l.set i (c, w)) ∨
    ((∀ e ∈ l, e.1 ≠ c) ∧ getK c l = 0 ∧ hasK c l = false ∧ delK c l = l ∧ ∀ w, setK c w l = l ++ [(c, w)])
  | [] => .inr ⟨by simp, rfl, rfl, rfl, fun _ => rfl⟩
  | e :: l => by
    by_cases h : e.1 = c
    · exact .inl ⟨0, e.2, by rw [← h]; rfl, by simp [getK, h], by simp [hasK, h], by simp [delK, h], fun w => by simp [setK, h]⟩
    · rcases key_cases c l with ⟨i, v, h1, h2, h3, h4, h5⟩ | ⟨h1, h2, h3, h4, h5⟩
      · exact .inl ⟨i + 1, v, by simpa using h1, by simp [getK, h, h2], by simp [hasK, h, h3], by simp [delK, h, h4], fun w => by simp [setK, h, h5]⟩
      · refine .inr ⟨fun x hx => ?_, by simp [getK, h, h2], by simp [hasK, h, h3], by simp [delK, h, h4], fun w => by simp [setK, h, h5]⟩
        rcases List.mem_cons.1 hx with rfl | hx
        · exact h
        · exact h1 x hx

theorem kvS_get {l : List (Bs × Int)} {i : Nat} {c : Bs} {v : Int} (h : l[i]? = some (c, v)) : (l.map kvS)[i]? = some (.string ⟨c.toArray⟩, .lit (.int .i64 v)) := by rw [List.getElem?_map, h]; rfl
theorem kvS_not {l : List (Bs × Int)} {c : Bs} (h : ∀ e ∈ l, e.1 ≠ c) : ∀ e ∈ l.map kvS, e.1 ≠ Value.string ⟨c.toArray⟩ := fun e he q => by
  obtain ⟨x, hx, rfl⟩ := List.mem_map.1 he
  exact h x hx (strV_inj q)
theorem kvS_set (l : List (Bs × Int)) (i : Nat) (c : Bs) (v : Int) : (l.map kvS).set i (.string ⟨c.toArray⟩, .lit (.int .i64 v)) = (l.set i (c, v)).map kvS := by rw [List.map_set]; rfl
theorem kvS_del (l : List (Bs × Int)) (i : Nat) : (l.map kvS).eraseIdx i = (l.eraseIdx i).map kvS := by
  induction l generalizing i with
  | nil => rfl
  | cons e l ih => cases i with
    | zero => rfl
    | succ i => simp [ih]
theorem kvS_snoc (l : List (Bs × Int)) (c : Bs) (v : Int) : l.map kvS ++ [(.string ⟨c.toArray⟩, .lit (.int .i64 v))] = (l ++ [(c, v)]).map kvS := by rw [List.map_append]; rfl

/-- The sums of one row are made final. -/
def nextR (c : Bs) (s r : List (Bs × Int)) : List (Bs × Int) := if getK c s = 0 then r else r ++ [(c, getK c s)]
def closeLev : List Bs → List (Bs × Int) → List (Bs × Int) → Option (List (Bs × Int) × List (Bs × Int))
  | [], s, r => some (s, r)
  | c :: cs, s, r => if 4096 < (nextR c s r).length then none else closeLev cs (delK c s) (nextR c s r)

/-- Rows from the last one on are closed until one begins the next row. -/
def closeE (code : Bs) : List Lev → List (Bs × Int) → List (Bs × Int) → Option (List Lev × List (Bs × Int) × List (Bs × Int))
  | [], s, r => some ([], s, r)
  | l :: st, s, r =>
    if code ≠ [] ∧ l.code.isPrefixOf code = true then some (l :: st, s, r)
    else match closeLev l.opened s r with
      | none => none
      | some (s', r') => closeE code st s' r'

theorem closeLev_len : ∀ {cs : List Bs} {s r s' r' : List (Bs × Int)}, closeLev cs s r = some (s', r') → r.length ≤ 4096 → r'.length ≤ 4096
  | [], s, r, s', r', h, hr => by simp [closeLev] at h; rw [← h.2]; exact hr
  | c :: cs, s, r, s', r', h, hr => by
    rw [closeLev] at h
    split at h
    · cases h
    · exact closeLev_len h (by omega)

def jm (st : List Lev) (s r : List (Bs × Int)) : List Blk := [.box 0 [.arr 1 0 st.length, .mp 2 0, .arr 3 0 r.length], .arr 0 136 2 (st.map Lev.d), .mapb 0 9 2 (s.map kvS), .arr 0 108 2 (r.map enD)]
def jm1 (st : List Lev) (s r : List (Bs × Int)) : List Blk := [.box 0 [.arr 1 1 st.length, .mp 2 0, .arr 3 1 r.length], .arr 1 136 2 (st.map Lev.d), .mapb 0 9 2 (s.map kvS), .arr 1 108 2 (r.map enD)]

theorem isNil_list (a : Bs) : ((⟨a.toArray⟩ : ByteArray).toList == ({ data := #[] } : ByteArray).toList) = decide (a = []) := by
  rw [ByteArray.toList_eq, ByteArray.toList_eq]
  cases a <;> simp

theorem nil_or_snoc {α : Type} (l : List α) : l = [] ∨ ∃ a b, l = a ++ [b] := by
  rcases List.eq_nil_or_concat l with h | ⟨a, b, h⟩
  · exact .inl h
  · exact .inr ⟨a, b, by rw [h, List.concat_eq_append]⟩

theorem snoc_get {α : Type} (l : List α) (x : α) {n : Nat} (h : n = l.length) : (l ++ [x])[n]? = some x := by subst h; simp

end Go.Proofs.YtiidgbfdghplhaaGreat
