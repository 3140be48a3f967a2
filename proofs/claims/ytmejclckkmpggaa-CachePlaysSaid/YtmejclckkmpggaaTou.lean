/-
  The cache: the values that a change touches.
-/
import Derived.Test.YtmejclckkmpggaaCac
import Derived.Test.YtmejclckkmpggaaOrd
import Derived.Test.YtmejclckkmpggaaLaid
namespace Go.Proofs.Ytmejclckkmpggaa
open Go.Abs Go.RowKit
attribute [local irreducible] ARun kont MCall PCall HCall resVal SF CF CFs defersOk slotsIn memIn fin finM VLe
set_option linter.unusedSimpArgs false
set_option maxRecDepth 100000
set_option maxHeartbeats 4000000

def addV (acc : List Val) (v : Val) : List Val := if acc.any (sameVal · v) then acc else acc ++ [v]
def setV (l : List Val) : List Val := l.foldl addV []

theorem any_iff {acc : List Val} {v : Val} : acc.any (sameVal · v) = true ↔ v ∈ acc := by
  rw [List.any_eq_true]
  exact ⟨fun ⟨x, h1, h2⟩ => by rw [sameVal_iff] at h2; exact h2 ▸ h1, fun h => ⟨v, h, sameVal_refl v⟩⟩
theorem addV_mem {acc : List Val} {v x : Val} : x ∈ addV acc v ↔ x ∈ acc ∨ x = v := by
  unfold addV
  split
  · rename_i h; rw [any_iff] at h
    exact ⟨.inl, fun q => q.elim id (fun e => e ▸ h)⟩
  · simp
theorem addV_nodup {acc : List Val} {v : Val} (h : acc.Nodup) : (addV acc v).Nodup := by
  unfold addV
  split
  · exact h
  · rename_i hn; rw [any_iff] at hn
    rw [List.nodup_append]
    exact ⟨h, by simp, fun a ha b hb => by rintro rfl; simp at hb; subst hb; exact hn ha⟩
theorem fold_says : ∀ (l acc : List Val), acc.Nodup → (l.foldl addV acc).Nodup ∧ (∀ x, x ∈ l.foldl addV acc ↔ x ∈ acc ∨ x ∈ l) ∧ (l.foldl addV acc).length ≤ acc.length + l.length
  | [], acc, h => ⟨h, by simp, by simp⟩
  | v :: l, acc, h => by
    obtain ⟨h1, h2, h3⟩ := fold_says l (addV acc v) (addV_nodup h)
    refine ⟨h1, fun x => ?_, ?_⟩
    · rw [List.foldl_cons, h2, addV_mem]; simp [or_assoc]
    · rw [List.foldl_cons]
      have : (addV acc v).length ≤ acc.length + 1 := by unfold addV; split <;> simp
      simp only [List.length_cons]; omega
theorem setV_says (l : List Val) : (setV l).Nodup ∧ (∀ x, x ∈ setV l ↔ x ∈ l) ∧ (setV l).length ≤ l.length := by
  obtain ⟨h1, h2, h3⟩ := fold_says l [] .nil
  exact ⟨h1, fun x => by rw [setV, h2]; simp, by unfold setV; simpa using h3⟩
theorem setV_snoc {l : List Val} {i : Nat} {v : Val} (h : l[i]? = some v) : setV (l.take (i + 1)) = addV (setV (l.take i)) v := by
  unfold setV
  rw [List.take_add_one, h, List.foldl_append]; rfl

def valK (v : Val) : Value := .agg [.int .i64 v.kind, .int .i64 v.int, .string v.text].toArray
def kvV (v : Val) : Value × PV := (valK v, .one (.lit (.bool true)))
theorem valK_inj {u v : Val} (h : valK u = valK v) : u = v := by
  unfold valK at h
  injection h with h
  have h' := congrArg Array.toList h
  simp only [List.cons.injEq, Value.int.injEq, Value.string.injEq, true_and, and_true] at h'
  obtain ⟨a1, a2, a3⟩ := u
  obtain ⟨b1, b2, b3⟩ := v
  dsimp only at h'
  rw [h'.1, h'.2.1, h'.2.2]
theorem valK_good (v : Val) : IsRec [.int .i64 0, .int .i64 0, .string ⟨#[]⟩] (valK v) := ⟨_, rfl, by simp [alikes, alike]⟩
theorem kvV_good (l : List Val) : ∀ e ∈ l.map kvV, IsRec [.int .i64 0, .int .i64 0, .string ⟨#[]⟩] e.1 := fun e he => by
  obtain ⟨v, _, rfl⟩ := List.mem_map.1 he
  exact valK_good v
def cellsE (l : List Entry) (col : Int) : List Val := l.map fun e => cellE e.row col

def pickV (acc : List Val) (sb : List Nat) : List Val := sb.filterMap (acc[·]?)
theorem set_same {α : Type} {l : List α} {j : Nat} {x : α} (h : l[j]? = some x) : l.set j x = l := by
  refine List.ext_getElem? fun i => ?_
  rw [List.getElem?_set]
  split
  · rename_i q; subst q
    split
    · exact h.symm
    · rename_i q; rw [List.getElem?_eq_none (by omega)] at h; cases h
  · rfl

def vR (a b : Val) : Prop := a.cmp b < 0
noncomputable def touchE (minus plus : List Entry) (col : Int) : List Val := sortF Val.cmp (setV (cellsE minus col ++ cellsE plus col))

end Go.Proofs.Ytmejclckkmpggaa
