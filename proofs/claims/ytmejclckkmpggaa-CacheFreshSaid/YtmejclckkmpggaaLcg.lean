/-
  CachePlays.
-/
import Derived.Test.YtmejclckkmpggaaLce
import Derived.Test.YtmejclckkmpggaaLcf
namespace Go.Proofs.Ytmejclckkmpggaa
open Go.Abs Go.RowKit
attribute [local irreducible] ARun kont MCall PCall HCall resVal SF CF CFs defersOk slotsIn memIn fin finM VLe
set_option linter.unusedSimpArgs false
set_option maxRecDepth 100000
set_option maxHeartbeats 4000000

def bagsD (l : List (List Entry)) : Dat := .sl (l.map fun b => [bagD b])
def actsD (l : List Act) : Dat := .sl (l.map Act.d)

theorem fill_eq (c : Conf) (rows : List Entry) (day : Int) : ∀ s : List Cach, fillE c rows day s = (s.filter fun x => decide (0 < (selE rows c.col x.val).length)).map fun x => ⟨x.val, selE rows c.col x.val, day⟩
  | [] => rfl
  | x :: s => by
    have ih := fill_eq c rows day s
    unfold fillE at ih ⊢
    rw [List.flatMap_cons, ih, List.filter_cons, fillF]
    by_cases h : 0 < (selE rows c.col x.val).length <;> simp [h]
theorem refill_valid (c : Conf) (s : List Cach) (rows : List Entry) (day : Int) : validC (refillE c s rows day) = true := by
  unfold refillE
  split
  · rename_i h
    simp only [Bool.and_eq_true] at h
    obtain ⟨⟨⟨h1, h2⟩, h3⟩, h4⟩ := h
    obtain ⟨g1, g2, g3⟩ := validC_iff.1 h1
    refine validC_iff.2 ⟨Nat.le_trans (fill_len ..) g1, fun e he => ?_, ?_⟩
    · rw [fill_eq] at he
      obtain ⟨x, hx, rfl⟩ := List.mem_map.1 he
      have := g2 x (List.mem_filter.1 hx).1
      simp only [Cach.ok, Bool.and_eq_true] at this ⊢
      exact ⟨⟨this.1.1, selE_valid h2 ..⟩, h4⟩
    · rw [fill_eq, List.pairwise_map]
      exact (g3.sublist List.filter_sublist).imp fun {a b} h => h
  · rfl
theorem pur_valid (s : List Cach) (vs : List Val) : validC (purE s vs) = true := by
  unfold purE
  split
  · rename_i h; exact validC_sub h List.filter_sublist
  · rfl
end Go.Proofs.Ytmejclckkmpggaa
