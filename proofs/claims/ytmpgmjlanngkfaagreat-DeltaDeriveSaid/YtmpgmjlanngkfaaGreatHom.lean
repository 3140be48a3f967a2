/-
  A make that fills a hole, in a region of open order.
-/
import Derived.Test.YtmpgmjlanngkfaaGreatHoa
import Derived.Test.YtmpgmjlanngkfaaGreatDex
section
namespace Go.Abs
open Go.RowKit
variable {P : Program} {T : TypeId → Option TI} {F0 : Nat → Prop} {w0 : World}
variable {dr : Bool} {ops rest : List Oper} {K : St → Prop} {n : Nat} {sl : List (Nat × SVal)} {mem : List Blk} {ck : Nat} {df : List (FuncId × List Cell)} {acc : List Nat}
variable {d : Tmp} {op : Op} {ty : TypeId} {pos : String} {aft : Array Edge} {g : Option (Nat × Bool)}
theorem TB [tc : TC P T] {t : TypeId} {x y : Operand} {i : TI} {r k esz j o : Nat} {ety : TypeId} {es es' : List (List Dat)} {e e' : List Dat} {v : SVal} {cs : List Cell} {ds : List Dat} {mem' : List Blk} (h : Reg P F0 w0 dr ops K rest ⟨n, sl, mem', ck, df⟩ (Bz r false :: acc)) (hw : GW ops g sl := by first | exact trivial | exact rfl) (hx : AC sl x = .c (.ap r k esz j o) := by exact rfl) (hy : AC sl y = v := by first | exact (rfl : _ = SVal.c _) | exact (rfl : _ = SVal.agg _) | exact rfl) (hc : v.cells = some cs := by exact rfl) (hds : DF cs = some ds := by exact rfl) (ht : T t = some i := by exact rfl) (hl : cs.length = i.size := by exact rfl) (hm : mem[r]? = some (.arr k ety esz es) := by exact rfl) (hs : decide (o + i.size ≤ esz) = true := by exact rfl) (hj : es[j]? = some e) (he' : e.take o ++ ds ++ e.drop (o + i.size) = e' := by exact rfl) (hes : es.set j e' = es' := by exact rfl) (hm' : mem.set r (.arr k ety esz es') = mem' := by exact rfl) : Reg P F0 w0 dr ops K (⟨none, .store t x y, ty, pos, aft, g⟩ :: rest) ⟨n, sl, mem, ck, df⟩ acc := by
 subst hm'; subst hes; subst he'
 exact YO (v := .junk) hw hm (fun M c hM => Does.of tc.ok fun τ he hmm hck Kk hK => by
  subst hmm; subst hck
  have ex := he x (by simp [Op.operands])
  have ey := he y (by simp [Op.operands])
  rw [hx] at ex
  rw [hy] at ey
  simp only [AL, Eu, ht, ex, ey, hc, hM, hds]
  exact ⟨hl, trivial, trivial, by simpa using hs, Ch hj (hK _ _ _ _ ⟨rfl, rfl, rfl, rfl⟩)⟩) h
theorem TE [tc : TC P T] {t e : TypeId} {x y : Operand} {i ei : TI} {kk : IntKind} {z : Int} {r k m esz j : Nat} {ety : TypeId} {es : List (List Dat)}  (h : Reg P F0 w0 dr ops K rest ⟨n, (d, .c (.ap r k esz j 0)) :: sl, mem, ck, df⟩ (Bz r true :: acc)) (hw : GW ops g sl := by first | exact trivial | exact rfl) (hx : AC sl x = .c (.arr r k m) := by exact rfl) (hy : AC sl y = .c (.d (.lit (.int kk z))) := by exact rfl) (ht : T t = some i := by exact rfl) (hi : i.desc = .slice e := by exact rfl) (he' : T e = some ei := by exact rfl) (hm : mem[r]? = some (.arr k ety esz es) := by exact rfl) (hsz : esz = ei.size := by exact rfl) (hz : 0 ≤ z := by omega) (hzm : z < (m : Int) := by omega) (hml : m ≤ es.length := by first | omega | exact Nat.le_refl _ | (simp only [List.length_map, List.length_take, List.length_append, List.length_cons, List.length_nil, List.length_set, List.length_drop, List.length_replicate]; omega)) (hj : z.toNat = j := by first | exact Int.toNat_natCast _ | exact rfl) : Reg P F0 w0 dr ops K (⟨some d, .indexAddr t x y, ty, pos, aft, g⟩ :: rest) ⟨n, sl, mem, ck, df⟩ acc :=
 LI hw hm (fun mem ck hm => Does.of tc.ok fun τ he hmm hc Kk hK => by
  subst hmm; subst hc; subst hj
  have ex := he x (by simp [Op.operands])
  have ey := he y (by simp [Op.operands])
  rw [hx] at ex
  rw [hy] at ey
  obtain ⟨a1, a2, a3, a4, a5⟩ := i
  simp only at hi
  subst hi
  simp only [AL, Ev, ht, he', ex, ey, hm]
  exact ⟨hz, hzm, trivial, hsz, hml, hK _ _ _ _ ⟨rfl, rfl, rfl, rfl⟩⟩) h
variable {B : Base} {Q : Ex → St → Prop}
theorem Gq (s o r : Nat) {k0 k m : Nat} {ety : TypeId} {esz : Nat} {es es1 : List (List Dat)} {cs : List Cell} {m1 : List Blk} {c : Code} (h : ARun P B c ⟨n, sl, m1, ck, df⟩ Q) (hs : mem[s]? = some (.box k0 cs)) (ho : cs[o]? = some (.arr r k m)) (hm : mem[r]? = some (.arr k ety esz es)) (hl : m ≤ es.length) (hes : es.take m = es1) (hm1 : (mem.set r .dead).set s (.box k0 (cs.set o (.d (.sl es1)))) = m1) : ARun P B c ⟨n, sl, mem, ck, df⟩ Q := by
 subst hes; subst hm1
 rintro a w ⟨E, ⟨hw, hsz', hdf, hsl⟩, hle⟩
 have hf := hw.freeze r k ety esz es hm
 have hsr : s ≠ r := by
  rintro rfl
  rw [hs] at hm; cases hm
 have hs' : (mem.set r .dead)[s]? = some (.box k0 cs) := by rw [List.getElem?_set_ne (Ne.symm hsr)]; exact hs
 obtain ⟨p1, p2, p3, cc, ety', p4, p5, p6⟩ := hf.1.mem.ok s _ hs'
 obtain ⟨q1, q2, q3, cd, ety'', q4, q5, q6⟩ := hw.mem.ok s _ hs
 have hcc : cd = cc := by
  have p4' : w.heap[E.blk s]? = some (.cells cc ety' (0, 0)) := p4
  rw [q4] at p4'
  simp only [Option.some.injEq, Obj.cells.injEq] at p4'
  exact p4'.1
 subst hcc
 refine h a w ⟨_, ⟨hf.1.swap s _ _ hs' (fun q => q) ⟨p1, p2, p3, cd, ety', p4, by simpa using p5, fun j v x hj hx => ?_⟩, hsz', hdf.le hf.2, fun s => (hsl s).le hf.2⟩, hle.trans hf.2⟩
 by_cases hjo : j = o
 ·subst hjo
  rw [List.getElem?_set_self (lt_of_getElem? ho)] at hx
  simp only [Option.some.injEq] at hx
  subst hx
  exact .d (Ef (F := fun i => E.F i ∨ (i = E.blk r ∧ E.cap r ≠ 0)) hw hm hl (q6 j v _ hj ho) (fun b hb => .inl hb) (fun hz => .inr ⟨rfl, hz⟩))
 ·rw [List.getElem?_set_ne (Ne.symm hjo)] at hx
  exact p6 j v x hj hx
end Go.Abs
end
