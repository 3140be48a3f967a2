/-
  Texts and their bytes; slices that are nil.
-/
import Derived.Test.YtmejclckkmpggaaFro
import Derived.Lib.ConvBytes
namespace Go.Abs
open Go.RowKit

def byD (b : UInt8) : List Dat := [.lit (.int .u8 b.toNat)]
def byteD (l : List UInt8) : Dat := .sl (l.map byD)

section
variable {P : Program} {T : TypeId → Option TI} {F0 : Nat → Prop} {w0 : World}
variable {dr : Bool} {ops rest : List Oper} {K : St → Prop} {n : Nat} {sl : List (Nat × SVal)} {mem : List Blk} {ck : Nat} {df : List (FuncId × List Cell)} {acc : List Nat}
variable {d : Tmp} {op : Op} {ty : TypeId} {pos : String} {aft : Array Edge} {g : Option (Nat × Bool)}

/-- 's == nil': if so, it is empty. -/
theorem s_eqNil [tc : TC P T] {t t' e : TypeId} {x : Operand} {es : List (List Dat)} {i : TI}
    (h : ∀ b : Bool, (b = true → es = []) → Reg P F0 w0 false ops K rest ⟨n, (d, .c (.d (.lit (.bool b)))) :: sl, mem, ck, df⟩ (2 :: acc)) (hw : GW ops g sl := by first | exact trivial | exact rfl) (hx : evS sl x = .c (.d (.sl es)) := by exact rfl)
    (ht : T t = some i := by exact rfl) (hi : i.desc = .slice e := by exact rfl) :
    Reg P F0 w0 false ops K (⟨some d, .binOp .eql t x (.const (.slice none 0 0)) t', ty, pos, aft, g⟩ :: rest) ⟨n, sl, mem, ck, df⟩ acc := by
  refine at2r (R := fun v m c1 df' => (∃ b : Bool, (b = true → es = []) ∧ v = .c (.d (.lit (.bool b))) ∧ m = mem ∧ c1 = ck) ∧ df' = []) rfl hw (doesRc fun E w ρ hc hw' hρ => ?_) ?_
  · have e1 := hρ x (by simp [Op.operands])
    rw [hx] at e1
    have ut : P.underlying t = some (.slice e) := by have := (tc.ok t i ht).desc; rw [hi] at this; exact this
    have hd := e1.d_inv
    obtain ⟨a, m, c, hv, hn⟩ : ∃ a m c, ρ x = .slice a m c ∧ (a.isNone = true → es = []) := by
      rcases hd.sl_inv with ⟨hq, a, c, hv⟩ | ⟨b, off, cap, size, us, hv, _⟩
      · exact ⟨_, _, _, hv, fun _ => hq⟩
      · exact ⟨_, _, _, hv, fun q => by cases q⟩
    have key : ∀ d, (Op.equalIn (d + 1) t (.slice a m c) (.slice none 0 0)).run P w = .ok a.isNone w := by
      intro d
      cases a <;> simp [Op.equalIn, run_underlying ut]
    refine ⟨.bool a.isNone, w, E, _, _, _, ?_, EnvLe.refl _ _, hw', .c (.d (.lit _ rfl)), a.isNone, hn, rfl, rfl, rfl⟩
    have k2 : (Op.equal t (.slice a m c) (.slice none 0 0)).run P w = .ok a.isNone w := key 9999
    simp only [execOp, hv, hc, Sem.run_bind, eqGuard_at_slice, Sem.run_pure, Result.andThen_ok, binOp, k2]
  · rintro v m c1 df' ⟨⟨b, q1, rfl, rfl, rfl⟩, rfl⟩
    exact h b q1
theorem is_mkmap {t : TypeId} {x : Option Operand} {σ : St} {dst : Option Tmp} (h : Reg P F0 w0 dr ops K (⟨dst, (.makeMap t x), ty, pos, aft, g⟩ :: rest) σ acc) : Reg P F0 w0 dr ops K (⟨dst, (.makeMap t x), ty, pos, aft, g⟩ :: rest) σ acc := h
theorem is_range {t : TypeId} {x : Operand} {σ : St} {dst : Option Tmp} (h : Reg P F0 w0 dr ops K (⟨dst, (.range t x), ty, pos, aft, g⟩ :: rest) σ acc) : Reg P F0 w0 dr ops K (⟨dst, (.range t x), ty, pos, aft, g⟩ :: rest) σ acc := h
theorem m3 {k k1 : Nat} {kt vt : TypeId} {es es1 : List (Value × PV)} {bs bs1 : List Nat} {c c1 : Nat} {a b : List Blk} (he : es = es1) (hb : bs = bs1) (hc : c = c1) (h : memIn a b) (hk : k = k1 := by first | exact rfl | omega) : memIn (.map k kt vt es bs c :: a) (.map k1 kt vt es1 bs1 c1 :: b) := by subst he; subst hb; subst hc; subst hk; exact memIn_same h
theorem is_memIn {m m' : List Blk} (h : memIn m m') : memIn m m' := h
theorem is_AM {x y : SVal} (h : AM x y) : AM x y := h
end
end Go.Abs
