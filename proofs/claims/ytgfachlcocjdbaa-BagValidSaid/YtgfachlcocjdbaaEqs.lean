/-
  Comparisons of what is known to be the same: the answer is a literal.
-/
import Derived.Test.YtgfachlcocjdbaaByt
namespace Go.Abs
open Go.RowKit
section
variable {P : Program} {T : TypeId → Option TI} {F0 : Nat → Prop} {w0 : World} {dr : Bool} {ops rest : List Oper} {K : St → Prop} {n : Nat} {sl : List (Nat × SVal)} {mem : List Blk} {ck : Nat} {df : List (FuncId × List Cell)} {acc : List Nat} {d : Tmp} {ty : TypeId} {pos : String} {aft : Array Edge} {g : Option (Nat × Bool)}

theorem s_neBs [tc : TC P T] {t t' : TypeId} {x y : Operand} {i : TI} {a : Bool} (h : Reg P F0 w0 dr ops K rest ⟨n, (d, .c (.d (.lit (.bool false)))) :: sl, mem, ck, df⟩ (0 :: acc)) (hw : GW ops g sl := by first | exact trivial | exact rfl) (hx : evS sl x = .c (.d (.lit (.bool a))) := by exact rfl) (hy : evS sl y = .c (.d (.lit (.bool a))) := by exact rfl) (ht : T t = some i := by exact rfl) (hi : i.desc = .bool := by exact rfl) : Reg P F0 w0 dr ops K (⟨some d, .binOp .neq t x y t', ty, pos, aft, g⟩ :: rest) ⟨n, sl, mem, ck, df⟩ acc :=
  r_neB tc.ok hw hx hy ht hi (by rw [show (!(a == a)) = false by simp]; exact h)

theorem s_neIs [tc : TC P T] {t t' : TypeId} {x y : Operand} {k : IntKind} {a : Int} (h : Reg P F0 w0 dr ops K rest ⟨n, (d, .c (.d (.lit (.bool false)))) :: sl, mem, ck, df⟩ (0 :: acc)) (hw : GW ops g sl := by first | exact trivial | exact rfl) (hx : evS sl x = .c (.d (.lit (.int k a))) := by exact rfl) (hy : evS sl y = .c (.d (.lit (.int k a))) := by exact rfl) : Reg P F0 w0 dr ops K (⟨some d, .binOp .neq t x y t', ty, pos, aft, g⟩ :: rest) ⟨n, sl, mem, ck, df⟩ acc :=
  r_int tc.ok hw hx hy (by have hv : IntOp .neq k a a (boo (a != a)) := .neq; rw [show (a != a) = false by simp] at hv; exact hv) h

section
variable {B : Base} {R : Ex → St → Prop} {ks : List Fr}
/-- Ways that come together: what is known of the state there. -/
def joinR (τ0 : St) : Ex → St → Prop
  | .norm, τ => Weak τ τ0
  | _, _ => False
theorem k_join {σ : St} (τ0 : St) {x y : Code} (h1 : ARun P B x σ (kont P B (joinR τ0) [])) (h2 : ARun P B y τ0 (kont P B R ks)) : ARun P B x σ (kont P B R (.seq y :: ks)) :=
  h1.mono fun e τ h => by
    cases e with
    | norm => exact k_weak h h2
    | exit i => exact h.elim
    | ret => exact h.elim
theorem k_weakS {Q : Ex → St → Prop} {c : Code} (sl0 : List (Nat × SVal)) (mem0 : List Blk) (ck0 : Nat) (hs : slotsIn ⟨n, sl, mem, ck, df⟩ sl0) (hm : memIn mem mem0) (hc : ck ≤ ck0) (h : ARun P B c ⟨n, sl0, mem0, ck0, df⟩ Q) : ARun P B c ⟨n, sl, mem, ck, df⟩ Q := k_weak (σ := ⟨n, sl, mem, ck, df⟩) (τ := ⟨n, sl0, mem0, ck0, df⟩) ⟨rfl, hs, hm, hc, rfl⟩ h
theorem j_end {sl0 : List (Nat × SVal)} {mem0 : List Blk} {ck0 : Nat} (hs : slotsIn ⟨n, sl, mem, ck, df⟩ sl0) (hm : memIn mem mem0) (hc : ck ≤ ck0) : kont P B (joinR ⟨n, sl0, mem0, ck0, df⟩) [] .norm ⟨n, sl, mem, ck, df⟩ := ⟨rfl, hs, hm, hc, rfl⟩
end
section
variable {B : Base} {m1 mem1 : List Blk} {r r1 : SVal}
end
end
end Go.Abs
