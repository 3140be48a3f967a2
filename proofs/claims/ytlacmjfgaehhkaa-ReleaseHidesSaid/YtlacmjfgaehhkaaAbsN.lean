/-
  How a program's table of types is read; '==' of two small structs.
-/
import Derived.Test.YtlacmjfgaehhkaaAbsM
import Derived.KernelRfl
namespace Go.Abs
open Go.RowKit

def structFs : TypeDesc → Option (List (Nat × TypeId))
  | .struct fs => some (fs.toList.map fun f => (f.offset, f.type))
  | _ => none

def plainB : TypeDesc → Bool
  | .struct _ => false
  | .array _ _ => false
  | _ => true

def TDB (P : Program) (t : TypeId) : TD → Prop
  | .struct fs => (P.underlying t).map structFs = some (some fs)
  | .plain => (P.underlying t).map plainB = some true
  | d => TDOk P t d

theorem TDB.ok {P : Program} {t : TypeId} {d : TD} (h : TDB P t d) : TDOk P t d := by
  cases d with
  | struct fs =>
    simp only [TDB] at h
    cases hu : P.underlying t with
    | none => rw [hu] at h; cases h
    | some d =>
      rw [hu] at h
      simp only [Option.map_some, Option.some.injEq] at h
      cases d with
      | struct fields =>
        simp only [structFs, Option.some.injEq] at h
        exact ⟨fields, hu, h⟩
      | _ => cases h
  | plain =>
    simp only [TDB] at h
    cases hu : P.underlying t with
    | none => rw [hu] at h; cases h
    | some d =>
      rw [hu] at h
      simp only [Option.map_some, Option.some.injEq] at h
      refine ⟨d, hu, ?_⟩
      cases d <;> first | trivial | (simp [plainB] at h)
  | _ => exact h

theorem mkT {P : Program} {t : TypeId} {i : TI} (z : Value) (hi : (P.info? t).map (fun f => (f.zero, f.size, f.bytes)) = some (some z, i.size, i.bytes)) (hz : z.cells = i.zero.toArray)
    (h1 : i.zero.all (·.oneCell') = true) (hd : TDB P t i.desc) (he : i.eqs = true → EqOk P t i.zero) : TOk P t i := by
  refine ⟨?_, fun v hv => List.all_eq_true.1 h1 v hv, hd.ok, he⟩
  cases hf : P.info? t with
  | none => rw [hf] at hi; cases hi
  | some f =>
    rw [hf] at hi
    simp only [Option.map_some, Option.some.injEq, Prod.mk.injEq] at hi
    exact ⟨f, z, rfl, hi.2.1, hi.2.2, hi.1, hz⟩

/-- The table of the types, as a tree. -/
inductive TTree where
  | nil
  | node (l : TTree) (k : TypeId) (i : TI) (r : TTree)

def tyAll (P : Program) : TTree → Prop
  | .nil => True
  | .node l k i r => tyAll P l ∧ TOk P k i ∧ tyAll P r

def tyFind : TTree → TypeId → Option TI
  | .nil, _ => none
  | .node l k i r, t => match Nat.beq k t with
    | true => some i
    | false => match Nat.blt t k with
      | true => tyFind l t
      | false => tyFind r t

theorem typesOk {P : Program} {l : TTree} (h : tyAll P l) : TypesOk P (tyFind l) := by
  intro t i ht
  induction l with
  | nil => cases ht
  | node l k j r ih1 ih2 =>
    simp only [tyFind] at ht
    split at ht
    · rename_i hp
      simp only [Option.some.injEq] at ht
      have hp := Nat.eq_of_beq_eq_true hp
      subst hp; subst ht
      exact h.2.1
    · split at ht
      · exact ih1 h.1 ht
      · exact ih2 h.2.2 ht

/-- The fields of a struct, each of one literal cell. -/
def kindB : Option TypeDesc → Value → Bool
  | some (.int _), .int _ _ => true
  | some .bool, .bool _ => true
  | some .string, .string _ => true
  | _, _ => false

def flatB (P : Program) : List Field → List Value → Nat → Bool
  | [], [], _ => true
  | f :: fs, z :: zs, k => (f.name != "_") && (f.offset == k) && kindB (P.underlying f.type) z && flatB P fs zs (k + 1)
  | _, _, _ => false

theorem part_one {P : Program} {w : World} {t : TypeId} {z : Value} (h : kindB (P.underlying t) z = true) (xs : List Value) (k : Nat) (x : Value) (hx : xs[k]? = some x) : (part t xs.toArray k).run P w = .ok x w := by
  unfold kindB at h
  split at h
  · rename_i hu; simp [part, Go.isAgg, run_underlying hu, hx]
  · rename_i hu; simp [part, Go.isAgg, run_underlying hu, hx]
  · rename_i hu; simp [part, Go.isAgg, run_underlying hu, hx]
  · cases h

theorem equal_one {P : Program} {w : World} {t : TypeId} {z x y : Value} (h : kindB (P.underlying t) z = true) (hx : alike z x) (hy : alike z y) (d : Nat) : (Op.equalIn (d + 1) t x y).run P w = .ok (litEq x y) w := by
  unfold kindB at h
  split at h
  · rename_i k hu
    cases x <;> cases y <;> simp [alike] at hx hy
    subst hx; subst hy
    exact run_equalIn_int w d t _ _ _ _ hu
  · rename_i hu
    cases x <;> cases y <;> simp [alike] at hx hy
    exact run_equalIn_bool' w d t _ _ hu
  · rename_i hu
    cases x <;> cases y <;> simp [alike] at hx hy
    exact run_equalIn_string w d t _ _ hu
  · cases h

theorem eqFields_run {P : Program} {w : World} (d : Nat) : ∀ (fs : List Field) (zs : List Value) (k : Nat) (xs ys : List Value), flatB P fs zs k = true → alikes zs (xs.drop k) → alikes zs (ys.drop k) →
    (Op.eqFields (d + 1) xs.toArray ys.toArray fs).run P w = .ok (litsEq (xs.drop k) (ys.drop k)) w
  | [], [], k, xs, ys, _, hx, hy => by
    cases hxk : xs.drop k with
    | nil => simp [Op.eqFields, litsEq]
    | cons a l => rw [hxk] at hx; exact hx.elim
  | f :: fs, z :: zs, k, xs, ys, h, hx, hy => by
    simp only [flatB, Bool.and_eq_true] at h
    obtain ⟨⟨⟨h1, h2⟩, h3⟩, h4⟩ := h
    have h1' : f.name ≠ "_" := by simpa using h1
    have h2' : f.offset = k := by simpa using h2
    subst h2'
    cases hxk : xs.drop f.offset with
    | nil => rw [hxk] at hx; exact hx.elim
    | cons a l =>
      cases hyk : ys.drop f.offset with
      | nil => rw [hyk] at hy; exact hy.elim
      | cons b m =>
        rw [hxk] at hx
        rw [hyk] at hy
        have ea : xs[f.offset]? = some a := by have := List.getElem?_drop (xs := xs) (i := f.offset) (j := 0); rw [hxk] at this; simpa using this.symm
        have eb : ys[f.offset]? = some b := by have := List.getElem?_drop (xs := ys) (i := f.offset) (j := 0); rw [hyk] at this; simpa using this.symm
        have el : xs.drop (f.offset + 1) = l := by rw [← List.drop_drop, hxk]; rfl
        have em : ys.drop (f.offset + 1) = m := by rw [← List.drop_drop, hyk]; rfl
        have ih := eqFields_run (P := P) (w := w) d fs zs (f.offset + 1) xs ys h4 (by rw [el]; exact hx.2) (by rw [em]; exact hy.2)
        rw [el, em] at ih
        simp only [Op.eqFields, if_pos h1', Sem.run_bind]
        rw [part_one h3 xs f.offset a ea]
        simp only [Result.andThen_ok]
        rw [part_one h3 ys f.offset b eb]
        simp only [Result.andThen_ok]
        rw [equal_one h3 hx.1 hy.1 d]
        simp only [Result.andThen_ok, litsEq]
        cases litEq a b with
        | true => simpa using ih
        | false => simp
  | [], _ :: _, _, _, _, h, _, _ => by simp [flatB] at h
  | _ :: _, [], _, _, _, h, _, _ => by simp [flatB] at h

theorem eqOk {P : Program} {t : TypeId} {zero : List Value} (ht : (P.underlying t).map (fun d => match d with | .struct _ => true | _ => false) = some true) (hp : P.stoodInHeld t = false) (hg : P.eqGuardType P.depth t = false)
    (hf : flatB P (P.fieldsOf t).toList zero 0 = true) : EqOk P t zero := by
  have hu : P.underlying t = some (.struct (P.fieldsOf t)) := by
    unfold Program.fieldsOf
    cases hq : P.underlying t with
    | none => rw [hq] at ht; cases ht
    | some d => rw [hq] at ht; cases d <;> first | rfl | (simp at ht)
  intro w x y xs ys hx hy
  have hq := eqFields_run (P := P) (w := w) 9998 (P.fieldsOf t).toList zero 0 xs ys hf (by simpa using hx) (by simpa using hy)
  have he : (Op.equalIn 10000 t (.agg xs.toArray) (.agg ys.toArray)).run P w = .ok (litsEq xs ys) w := by
    have := run_equalIn_struct (P := P) w 9999 t xs.toArray ys.toArray hu hp
    rw [this]
    simpa using hq
  constructor
  · rw [Sem.run_bind, run_eqGuard_agg w .eql t x y _ _ hg]
    simp only [Result.andThen_ok]
    rw [run_eql_struct, he]
    rfl
  · rw [Sem.run_bind, run_eqGuard_agg w .neq t x y _ _ hg]
    simp only [Result.andThen_ok]
    rw [run_neq_struct, he]
    rfl
attribute [go_sem] aops astep aLoad aStore aField aIndex aSlice aLen aAppend aMake aBuildSlice aBuild aInt aStr aBin aUn aConv aFunc aCall calleeOf fillC partsOf capsOf oneOr liveAt St.ev St.get St.put St.putO Go.Abs.look constVal lit Go.Abs.int boo SVal.cells Cell.dat dats valCell TD.agg bnd srcOf litsOf alikes alike
attribute [go_sem] List.map_cons List.map_nil List.getElem?_cons_zero List.getElem?_cons_succ List.getElem?_nil List.drop_zero List.drop_succ_cons List.drop_nil List.take_zero List.take_succ_cons List.take_nil List.length_cons List.length_nil List.nil_append List.cons_append List.append_nil List.set_cons_zero List.set_cons_succ List.all_cons List.all_nil Option.bind_some Option.bind_none Option.map_some Option.map_none Option.isNone_none Option.isSome_some Option.some.injEq Nat.zero_add Nat.add_zero if_true if_false true_and and_true and_self forall_const Bool.false_eq_true Bool.true_eq_false Bool.not_true Bool.not_false ne_eq not_false_eq_true not_true_eq_false Bool.and_self exists_eq_left' exists_eq_left Nat.le_refl false_implies or_true true_or or_false false_or eq_self and_false false_and Bool.and_true Bool.true_and Bool.and_false Bool.false_and Nat.lt_add_one Nat.zero_le
end Go.Abs
