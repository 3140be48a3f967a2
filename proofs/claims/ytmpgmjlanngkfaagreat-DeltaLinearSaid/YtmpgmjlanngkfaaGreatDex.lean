/-
  Data whose capacity is their length: made, filled, handed on, appended to.
-/
import Derived.Test.YtmpgmjlanngkfaaGreatArx
import Derived.Test.YtmpgmjlanngkfaaGreatHoa
section
namespace Go.Abs
open Go.RowKit
section
variable {F : Nat → Prop} {w : World}
theorem DRep.ex_sl {v : Value} {es : List (List Dat)} (h : DRep F w v (.ex es)) : DRep F w v (.sl es) := by
  cases h with
  | exn a => exact .emp a 0
  | ex _ b off size u hF hmax hsz hc hd => exact .sl es b off es.length size u hF (Nat.le_refl _) hmax hsz hc hd
end

section
variable {P : Program} {T : TypeId → Option TI} {F0 : Nat → Prop} {w0 : World}
variable {dr : Bool} {ops rest : List Oper} {K : St → Prop} {n : Nat} {sl : List (Nat × SVal)} {mem : List Blk} {ck : Nat} {df : List (FuncId × List Cell)} {acc : List Nat}
variable {d : Tmp} {op : Op} {ty : TypeId} {pos : String} {aft : Array Edge} {g : Option (Nat × Bool)}

end

section
variable {P : Program} {T : TypeId → Option TI} {B : Base} {Q : Ex → St → Prop} {n : Nat} {sl : List (Nat × SVal)} {mem : List Blk} {ck : Nat} {df : List (FuncId × List Cell)}

end
-- contracts with more special arguments or less special results

def DLe (x y : Dat) : Prop := ∀ (F : Nat → Prop) (w : World) (v : Value), DRep F w v x → DRep F w v y
def DLs : List Dat → List Dat → Prop
  | [], [] => True
  | x :: xs, y :: ys => DLe x y ∧ DLs xs ys
  | _, _ => False
def PLe : PV → PV → Prop
  | .one x, .one y => DLe x y
  | .agg xs, .agg ys => DLs xs ys
  | _, _ => False
def PLs : List PV → List PV → Prop
  | [], [] => True
  | x :: xs, y :: ys => PLe x y ∧ PLs xs ys
  | _, _ => False
theorem DLe.rfl {x : Dat} : DLe x x := fun _ _ _ h => h
theorem DLe.ex (es : List (List Dat)) : DLe (.ex es) (.sl es) := fun _ _ _ h => h.ex_sl
theorem DLs.get : ∀ {xs ys : List Dat}, DLs xs ys → xs.length = ys.length ∧ ∀ (i : Nat) (y : Dat), ys[i]? = some y → ∃ x, xs[i]? = some x ∧ DLe x y
  | [], [], _ => ⟨_root_.rfl, by simp⟩
  | x :: xs, y :: ys, h => by
    obtain ⟨h1, h2⟩ := DLs.get h.2
    refine ⟨by simp [h1], fun i z hz => ?_⟩
    cases i with
    | zero => simp at hz; subst hz; exact ⟨x, _root_.rfl, h.1⟩
    | succ i => exact h2 i z (by simpa using hz)
  | [], _ :: _, h => h.elim
  | _ :: _, [], h => h.elim
theorem PLe.rep {p q : PV} (h : PLe p q) {E : Env} {w : World} {v : Value} (hv : SRep E w v p.s) : SRep E w v q.s := by
  cases p with
  | one x =>
    cases q with
    | one y => cases hv with | c hv => exact .c (.d (h _ _ _ hv.d_of))
    | agg ys => exact h.elim
  | agg xs =>
    cases q with
    | one y => exact h.elim
    | agg ys =>
      cases hv with | agg _ vs hl hd =>
      obtain ⟨h1, h2⟩ := DLs.get h
      refine .agg _ vs (by simp at hl ⊢; omega) (fun i v x hv hx => ?_)
      rw [List.getElem?_map] at hx
      cases hy : ys[i]? with
      | none => rw [hy] at hx; cases hx
      | some y =>
        rw [hy] at hx
        simp at hx
        subst hx
        obtain ⟨x, hx, hle⟩ := h2 i y hy
        have := hd i v (.d x) hv (by rw [List.getElem?_map, hx]; exact _root_.rfl)
        exact .d (hle _ _ _ this.d_of)
theorem PLs.get : ∀ {xs ys : List PV}, PLs xs ys → xs.length = ys.length ∧ ∀ (i : Nat) (y : PV), ys[i]? = some y → ∃ x, xs[i]? = some x ∧ PLe x y
  | [], [], _ => ⟨_root_.rfl, by simp⟩
  | x :: xs, y :: ys, h => by
    obtain ⟨h1, h2⟩ := PLs.get h.2
    refine ⟨by simp [h1], fun i z hz => ?_⟩
    cases i with
    | zero => simp at hz; subst hz; exact ⟨x, _root_.rfl, h.1⟩
    | succ i => exact h2 i z (by simpa using hz)
  | [], _ :: _, h => h.elim
  | _ :: _, [], h => h.elim
theorem PCall.args {P : Program} {f : FuncId} {as bs : List PV} {r : PRes} (hp : PCall P f bs r) (ha : PLs as bs) : PCall P f as r := by
  obtain ⟨h1, h2⟩ := PLs.get ha
  refine ⟨hp.1, fun F w vs hF hl hv => hp.2 F w vs hF (by omega) fun i v x hi hx => ?_⟩
  obtain ⟨y, hy, hle⟩ := h2 i x hx
  exact hle.rep (hv i v y hi hy)
theorem PCall.res {P : Program} {f : FuncId} {as : List PV} {x y : PV} (hp : PCall P f as (.v x)) (ha : PLe x y) : PCall P f as (.v y) := by
  refine ⟨hp.1, fun F w vs hF hl hv => Calls.mono (hp.2 F w vs hF hl hv) fun e w' he => ?_⟩
  obtain ⟨v, h1, h2, h3⟩ := he
  exact ⟨v, h1, h2, ha.rep h3⟩
end Go.Abs
end
