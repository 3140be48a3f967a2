/-
  A make that fills a hole, in a region of open order.
-/
import Derived.Test.YtmpgmjlanngkfaaGreatHoa
import Derived.Test.YtmpgmjlanngkfaaGreatDex
section
namespace Go.Abs
open Go.RowKit
variable {P : Program} {T : TypeId → Option TI} {F0 : Nat → Prop} {w0 : World}
variable {dr : Bool} {ops rest : List Oper} {K : St → Prop} {n : Nat} {sl : List (Nat × SVal)} {mem : List Blk} {ck : Nat} {df : List (FuncId × List Cell)} {acc : List Nat}
variable {d : Tmp} {op : Op} {ty : TypeId} {pos : String} {aft : Array Edge} {g : Option (Nat × Bool)}
variable {B : Base} {Q : Ex → St → Prop}
theorem s_freezeB (s o r : Nat) {k0 k m : Nat} {ety : TypeId} {esz : Nat} {es es1 : List (List Dat)} {cs : List Cell} {m1 : List Blk} {c : Code} (h : ARun P B c ⟨n, sl, m1, ck, df⟩ Q) (hs : mem[s]? = some (.box k0 cs)) (ho : cs[o]? = some (.arr r k m)) (hm : mem[r]? = some (.arr k ety esz es)) (hl : m ≤ es.length) (hes : es.take m = es1) (hm1 : (mem.set r .dead).set s (.box k0 (cs.set o (.d (.sl es1)))) = m1) : ARun P B c ⟨n, sl, mem, ck, df⟩ Q := by
  subst hes; subst hm1
  rintro a w ⟨E, ⟨hw, hsz', hdf, hsl⟩, hle⟩
  have hf := hw.freeze r k ety esz es hm
  have hsr : s ≠ r := by
    rintro rfl
    rw [hs] at hm; cases hm
  have hs' : (mem.set r .dead)[s]? = some (.box k0 cs) := by rw [List.getElem?_set_ne (Ne.symm hsr)]; exact hs
  obtain ⟨p1, p2, p3, cc, ety', p4, p5, p6⟩ := hf.1.mem.ok s _ hs'
  obtain ⟨q1, q2, q3, cd, ety'', q4, q5, q6⟩ := hw.mem.ok s _ hs
  have hcc : cd = cc := by
    have p4' : w.heap[E.blk s]? = some (.cells cc ety' (0, 0)) := p4
    rw [q4] at p4'
    simp only [Option.some.injEq, Obj.cells.injEq] at p4'
    exact p4'.1
  subst hcc
  refine h a w ⟨_, ⟨hf.1.swap s _ _ hs' (fun q => q) ⟨p1, p2, p3, cd, ety', p4, by simpa using p5, fun j v x hj hx => ?_⟩, hsz', hdf.le hf.2, fun s => (hsl s).le hf.2⟩, hle.trans hf.2⟩
  by_cases hjo : j = o
  · subst hjo
    rw [List.getElem?_set_self (lt_of_getElem? ho)] at hx
    simp only [Option.some.injEq] at hx
    subst hx
    exact .d (arr_dat (F := fun i => E.F i ∨ (i = E.blk r ∧ E.cap r ≠ 0)) hw hm hl (q6 j v _ hj ho) (fun b hb => .inl hb) (fun hz => .inr ⟨rfl, hz⟩))
  · rw [List.getElem?_set_ne (Ne.symm hjo)] at hx
    exact p6 j v x hj hx
end Go.Abs
end
