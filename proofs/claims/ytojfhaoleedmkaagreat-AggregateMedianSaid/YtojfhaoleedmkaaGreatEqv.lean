/-
  Comparisons of a value with itself.
-/
import Derived.Test.YtojfhaoleedmkaaGreatFld
section
namespace Go.Abs
open Go.RowKit
section
variable {P : Program} {T : TypeId → Option TI} {F0 : Nat → Prop} {w0 : World}
variable {dr : Bool} {ops rest : List Oper} {K : St → Prop} {n : Nat} {sl : List (Nat × SVal)} {mem : List Blk} {ck : Nat} {df : List (FuncId × List Cell)} {acc : List Nat}
variable {d : Tmp} {op : Op} {ty : TypeId} {pos : String} {aft : Array Edge} {g : Option (Nat × Bool)}
theorem litsEq_val (a b : Int) (s : ByteArray) : litsEq [.int .i64 a, .int .i64 b, .string s] [.int .i64 a, .int .i64 b, .string s] = true := by simp [litsEq, litEq]
theorem s_neAs [tc : TC P T] {t t' : TypeId} {x y : Operand} {i : TI} {a b : Int} {s : ByteArray} (h : Reg P F0 w0 dr ops K rest ⟨n, (d, .c (.d (.lit (.bool false)))) :: sl, mem, ck, df⟩ (0 :: acc)) (hw : GW ops g sl := by first | exact trivial | exact rfl) (hx : evS sl x = .agg [.d (.lit (.int .i64 a)), .d (.lit (.int .i64 b)), .d (.lit (.string s))] := by exact rfl) (hy : evS sl y = .agg [.d (.lit (.int .i64 a)), .d (.lit (.int .i64 b)), .d (.lit (.string s))] := by exact rfl) (ht : T t = some i := by exact rfl) (he : i.eqs = true := by exact rfl) (h1 : alikes i.zero [.int .i64 a, .int .i64 b, .string s] := by exact And.intro rfl (And.intro rfl (And.intro trivial trivial))) : Reg P F0 w0 dr ops K (⟨some d, .binOp .neq t x y t', ty, pos, aft, g⟩ :: rest) ⟨n, sl, mem, ck, df⟩ acc := by
  refine s_neA (us := [.int .i64 a, .int .i64 b, .string s]) (vs := [.int .i64 a, .int .i64 b, .string s]) ?_ hw hx hy ht he rfl rfl h1 h1
  rw [litsEq_val]; exact h
theorem s_eqAs [tc : TC P T] {t t' : TypeId} {x y : Operand} {i : TI} {a b : Int} {s : ByteArray} (h : Reg P F0 w0 dr ops K rest ⟨n, (d, .c (.d (.lit (.bool true)))) :: sl, mem, ck, df⟩ (0 :: acc)) (hw : GW ops g sl := by first | exact trivial | exact rfl) (hx : evS sl x = .agg [.d (.lit (.int .i64 a)), .d (.lit (.int .i64 b)), .d (.lit (.string s))] := by exact rfl) (hy : evS sl y = .agg [.d (.lit (.int .i64 a)), .d (.lit (.int .i64 b)), .d (.lit (.string s))] := by exact rfl) (ht : T t = some i := by exact rfl) (he : i.eqs = true := by exact rfl) (h1 : alikes i.zero [.int .i64 a, .int .i64 b, .string s] := by exact And.intro rfl (And.intro rfl (And.intro trivial trivial))) : Reg P F0 w0 dr ops K (⟨some d, .binOp .eql t x y t', ty, pos, aft, g⟩ :: rest) ⟨n, sl, mem, ck, df⟩ acc := by
  refine s_eqA (us := [.int .i64 a, .int .i64 b, .string s]) (vs := [.int .i64 a, .int .i64 b, .string s]) ?_ hw hx hy ht he rfl rfl h1 h1
  rw [litsEq_val]; exact h
end
end Go.Abs
end
