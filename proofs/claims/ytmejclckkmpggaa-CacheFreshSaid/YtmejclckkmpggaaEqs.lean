/-
  Comparisons of what is known to be the same: the answer is a literal.
-/
import Derived.Test.YtmejclckkmpggaaByt
namespace Go.Abs
open Go.RowKit
section
variable {P : Program} {T : TypeId → Option TI} {F0 : Nat → Prop} {w0 : World} {dr : Bool} {ops rest : List Oper} {K : St → Prop} {n : Nat} {sl : List (Nat × SVal)} {mem : List Blk} {ck : Nat} {df : List (FuncId × List Cell)} {acc : List Nat} {d : Tmp} {ty : TypeId} {pos : String} {aft : Array Edge} {g : Option (Nat × Bool)}

theorem s_eqIs [tc : TC P T] {t t' : TypeId} {x y : Operand} {k : IntKind} {a : Int} (h : Reg P F0 w0 dr ops K rest ⟨n, (d, .c (.d (.lit (.bool true)))) :: sl, mem, ck, df⟩ (0 :: acc)) (hw : GW ops g sl := by first | exact trivial | exact rfl) (hx : evS sl x = .c (.d (.lit (.int k a))) := by exact rfl) (hy : evS sl y = .c (.d (.lit (.int k a))) := by exact rfl) : Reg P F0 w0 dr ops K (⟨some d, .binOp .eql t x y t', ty, pos, aft, g⟩ :: rest) ⟨n, sl, mem, ck, df⟩ acc :=
  r_int tc.ok hw hx hy (by have hv : IntOp .eql k a a (boo (a == a)) := .eql; rw [show (a == a) = true by simp] at hv; exact hv) h
/-- A store of what lies there already. -/
theorem s_storeSame [tc : TC P T] {t : TypeId} {x y : Operand} {i : TI} {r k o : Nat} {v : SVal} {cs cs0 : List Cell} (h : Reg P F0 w0 dr ops K rest ⟨n, sl, mem, ck, df⟩ (1 :: acc)) (hw : GW ops g sl := by first | exact trivial | exact rfl) (hx : evS sl x = .c (.bp r k o) := by exact rfl) (hy : evS sl y = v := by first | exact (rfl : _ = SVal.c _) | exact (rfl : _ = SVal.agg _) | exact rfl) (hc : v.cells = some cs := by exact rfl) (ht : T t = some i := by exact rfl) (hl : cs.length = i.size := by exact rfl) (hm : mem[r]? = some (.box k cs0) := by exact rfl) (hs : decide (o + i.size ≤ cs0.length) = true := by exact rfl) (hcs : cs0.take o ++ cs ++ cs0.drop (o + i.size) = cs0 := by exact rfl) :
    Reg P F0 w0 dr ops K (⟨none, .store t x y, ty, pos, aft, g⟩ :: rest) ⟨n, sl, mem, ck, df⟩ acc := by
  obtain ⟨g', h1, h2⟩ := GW.out (o := ⟨none, .store t x y, ty, pos, aft, g⟩) hw
  have hgen : ∀ (M : List Blk) (c : Nat), M[r]? = some (.box k cs0) → Does P F0 w0 ⟨none, .store t x y, ty, pos, aft, g⟩ (evS sl) M c (Only .junk M c []) := by
    intro M c hm
    have hset : M.set r (.box k cs0) = M := by
      refine List.ext_getElem? fun j => ?_
      rw [List.getElem?_set]
      split
      · rename_i q; subst q
        split
        · exact hm.symm
        · rename_i q; rw [List.getElem?_eq_none (by omega)] at hm; cases hm
      · rfl
    exact Does.of tc.ok fun τ he hmm hck Kk hK => by
      subst hmm; subst hck
      have ex := he x (by simp [Op.operands])
      have ey := he y (by simp [Op.operands])
      rw [hx] at ex
      rw [hy] at ey
      simp only [astep, aStore, ht, ex, ey, hc, hm]
      refine ⟨hl, trivial, by simpa using hs, ?_⟩
      have := hK .junk τ.mem τ.clock [] ⟨rfl, rfl, rfl, rfl⟩
      rw [hcs, hset]
      exact this
  exact .step 1 .junk mem ck [] h1 (h2 _ _ _ _) (.inr (.inr (.inr ⟨rfl, rfl, rfl⟩))) (by rw [evS_eq]; exact hgen mem ck hm) (fun q => by cases q) (fun _ M c hM => by rw [evS_eq]; exact hgen _ c (hM _ _ hm rfl)) (fun r rd q => by have := kindL_ge r rd; omega) h

section
variable {B : Base} {R : Ex → St → Prop} {ks : List Fr}
/-- Ways that come together: what is known of the state there. -/
def joinR (τ0 : St) : Ex → St → Prop
  | .norm, τ => Weak τ τ0
  | _, _ => False
end
section
variable {B : Base} {m1 mem1 : List Blk} {r r1 : SVal}
theorem fh_cellS {a t rr k o : Nat} {i : TI} {cs : List Cell} {c : Cell} (hd : defersOk P df) (h : memIn mem m1) (ha : AM (.c c) r) (hk : keptL mem mem1 0 := by repeat' (first | exact trivial | refine And.intro rfl ?_ | refine And.intro trivial ?_)) (hl : look sl a = .c (.bp rr k o) := by exact rfl) (hmm : mem[rr]? = some (.box k cs) := by exact rfl) (hc : cs[o]? = some c := by exact rfl) (ht : T t = some i := by exact rfl) (hag : i.desc.agg = false := by exact rfl) (hsz : i.size = 1 := by exact rfl) (hr : r1.up id (actV mem) = r := by exact rfl) (hm : upL id (actV mem) mem1 0 = m1 := by repeat' (first | exact nfNil rfl | apply nfCons rfl)) : kont P B (finM P T [.cell a t] (fun r m _ => HR m mem1 r r1)) [] .ret ⟨n, sl, mem, ck, df⟩ := by
  exact fh_cell1 hd h ha hk hc hl hmm ht hag hsz hr hm
end
end
end Go.Abs
