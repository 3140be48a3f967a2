/-
  Holes: places of the memory that several allocations of open order fill.
-/
import Derived.Test.YtmejclckkmpggaaFro
import Derived.Test.YtmejclckkmpggaaOpa
section
namespace Go.Abs
open Go.RowKit
section
variable {P : Program} {B : Base} {n : Nat} {sl : List (Nat × SVal)} {mem : List Blk} {ck : Nat} {df : List (FuncId × List Cell)} {Q : Ex → St → Prop}

theorem hole_rel {a : Act} {w : World} (h : Rel B ⟨n, sl, mem, ck, df⟩ a w) : Rel B ⟨n, sl, mem ++ [.hole (ck + 1)], ck + 1, df⟩ a w := by
  obtain ⟨E, ⟨h1, h2, h3, h4⟩, hB⟩ := h
  refine ⟨E, ⟨⟨h1.below, h1.base, h1.F, ⟨fun r => ?_, fun r b hb => ?_, fun r r' b b' hb hb' q q' hne => ?_⟩, h1.N⟩, h2, h3, h4⟩, hB⟩
  · have := h1.mem.clock r
    simp only at this ⊢; omega
  · rcases getElem?_snoc hb with hb | ⟨_, rfl⟩
    · exact h1.mem.ok r b hb
    · have := h1.mem.clock r
      show E.ver r < ck + 1
      simp only at this; omega
  · rcases getElem?_snoc hb with hb | ⟨_, rfl⟩
    · rcases getElem?_snoc hb' with hb' | ⟨_, rfl⟩
      · exact h1.mem.apart r r' b b' hb hb' q q' hne
      · exact q'.elim
    · exact q.elim
/-- A place that an allocation will fill. -/
theorem k_hole (m : Nat) {mem' : List Blk} {c : Code} (h : ARun P B c ⟨n, sl, mem', ck + 1, df⟩ Q) (_ : mem.length = m := by exact rfl) (hm' : mem ++ [.hole (ck + 1)] = mem' := by repeat' (first | exact nfNil rfl | apply nfCons rfl)) : ARun P B c ⟨n, sl, mem, ck, df⟩ Q := by
  subst hm'
  exact k_turn (τ := ⟨n, sl, mem ++ [.hole (ck + 1)], ck + 1, df⟩) rfl (fun a w hr => hole_rel hr) h
end
section
variable {P : Program} {T : TypeId → Option TI} {F0 : Nat → Prop} {w0 : World}
variable {dr : Bool} {ops rest : List Oper} {K : St → Prop} {n : Nat} {sl : List (Nat × SVal)} {mem : List Blk} {ck : Nat} {df : List (FuncId × List Cell)} {acc : List Nat}
variable {d : Tmp} {ty : TypeId} {pos : String} {aft : Array Edge} {g : Option (Nat × Bool)}

/-! Reads and stores of one box. -/
theorem h_loadBA [tc : TC P T] {t : TypeId} {x : Operand} {i : TI} {r k o : Nat} {cs cs' : List Cell} (h : Reg P F0 w0 dr ops K rest ⟨n, (d, .agg cs') :: sl, mem, ck, df⟩ (kindL r true :: acc)) (hw : GW ops g sl := by first | exact trivial | exact rfl) (hx : evS sl x = .c (.bp r k o) := by exact rfl) (ht : T t = some i := by exact rfl) (ha : i.desc.agg = true := by exact rfl) (hm : mem[r]? = some (.box k cs) := by exact rfl) (hs : decide (o + i.size ≤ cs.length) = true := by exact rfl) (hcs : (cs.drop o).take i.size = cs' := by repeat' (first | exact nfNil rfl | apply nfCons rfl)) : Reg P F0 w0 dr ops K (⟨some d, .load t x, ty, pos, aft, g⟩ :: rest) ⟨n, sl, mem, ck, df⟩ acc :=
  at4r hw hm (fun mem ck hm => Does.of tc.ok fun τ he hmm hc Kk hK => by
    subst hmm; subst hc; subst hcs
    have ex := he x (by simp [Op.operands])
    rw [hx] at ex
    simp only [astep, aLoad, ht, ex, ha, hm]
    refine ⟨.inl trivial, trivial, by simpa using hs, ?_⟩
    exact hK _ _ _ _ ⟨rfl, rfl, rfl, rfl⟩) h

end
end Go.Abs
end
