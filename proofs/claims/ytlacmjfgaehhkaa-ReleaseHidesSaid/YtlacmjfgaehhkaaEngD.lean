/-
  The rules of the walk, continued: slices, numbers, structs, calls.
-/
import Derived.Test.YtlacmjfgaehhkaaEngC
namespace Go.Abs
open Go.RowKit

theorem wrap_i64 {n : Int} (h1 : -9223372036854775808 ≤ n) (h2 : n ≤ 9223372036854775807) : IntKind.i64.wrap n = n := IntWalk.i64_in n ⟨h1, h2⟩

theorem idx_map {α : Type} {f : α → List Dat} {l : List α} {z : Int} {j : Nat} {x : α} (h : l[j]? = some x) (hz : z.toNat = j) : (l.map f)[z.toNat]? = some (f x) := by
  subst hz; simp [h]
theorem idx_lit {l : List (List Dat)} {z : Int} {j : Nat} {x : List Dat} (hz : z.toNat = j) (h : l[j]? = some x) : l[z.toNat]? = some x := by subst hz; exact h
theorem len_map {α β : Type} {f : α → β} {l : List α} : (l.map f).length = l.length := List.length_map ..
theorem sized_map {α : Type} {f : α → List Dat} {l : List α} {k : Nat} (h : ∀ x, (f x).length = k) : ∀ el ∈ l.map f, el.length = k := by
  intro el hel
  obtain ⟨x, _, rfl⟩ := List.mem_map.1 hel
  exact h x
theorem sized_nil {k : Nat} : ∀ el ∈ ([] : List (List Dat)), el.length = k := by simp
theorem sized_cons {k : Nat} {x : List Dat} {l : List (List Dat)} (h : x.length = k) (h' : ∀ el ∈ l, el.length = k) : ∀ el ∈ x :: l, el.length = k := by
  intro el hel
  rcases List.mem_cons.1 hel with rfl | hel
  · exact h
  · exact h' el hel
theorem cut_map {α : Type} {f : α → List Dat} {l : List α} {lo hi : Nat} : ((l.map f).take hi).drop lo = ((l.take hi).drop lo).map f := by rw [List.map_drop, List.map_take]

section
variable {P : Program} {T : TypeId → Option TI} {F0 : Nat → Prop} {w0 : World} {dr : Bool} {ops rest : List Oper} {K : St → Prop} {n : Nat} {sl : List (Nat × SVal)} {mem : List Blk} {ck : Nat} {df : List (FuncId × List Cell)} {acc : List Nat}
variable {d : Tmp} {op : Op} {ty : TypeId} {pos : String} {aft : Array Edge} {g : Option (Nat × Bool)}

/-- A bound of a slice expression. -/
def bndS (sl : List (Nat × SVal)) (dflt : Nat) : Option Operand → Option Int
  | none => some dflt
  | some x => (match evS sl x with
    | .c (.d (.lit (.int _ z))) => some z
    | _ => none)

theorem bnd_of {τ : St} {dflt : Nat} {o : Option Operand} {z : Int} (he : ∀ x ∈ o.toArray.toList, τ.ev x = evS sl x) (h : bndS sl dflt o = some z) : bnd dflt (o.map τ.ev) = some z := by
  cases o with
  | none => exact h
  | some x =>
    have := he x (by simp)
    simp only [bndS] at h
    simp only [Option.map_some, this]
    generalize evS sl x = v at h ⊢
    unfold bnd
    split at h
    · exact h
    · cases h

theorem r_sliceD (hT : TypesOk P T) {t e : TypeId} {x : Operand} {lo hi : Option Operand} {i ei : TI} {a b : Int} {es es' : List (List Dat)} (hw : GW ops g sl) (hx : evS sl x = .c (.d (.sl es))) (ht : T t = some i) (hi' : i.desc = .slice e) (hei : T e = some ei)
    (hlo : bndS sl 0 lo = some a) (hhi : bndS sl es.length hi = some b) (hsz : ∀ el ∈ es, el.length = ei.size) (ha : 0 ≤ a) (hab : a ≤ b) (hb : b ≤ (es.length : Int)) (hes : (es.take b.toNat).drop a.toNat = es')
    (h : Reg P F0 w0 dr ops K rest ⟨n, (d, .c (.d (.sl es'))) :: sl, mem, ck, df⟩ (0 :: acc)) : Reg P F0 w0 dr ops K (⟨some d, .slice t x lo hi none, ty, pos, aft, g⟩ :: rest) ⟨n, sl, mem, ck, df⟩ acc :=
  at0 hw (fun m c => Does.of hT fun τ he hm hc Kk hK => by
    subst hm; subst hc; subst hes
    have ex := he x (by simp [Op.operands])
    rw [hx] at ex
    have el := bnd_of (τ := τ) (fun y hy => he y (by simp only [Op.operands]; simp at hy ⊢; simp [hy])) hlo
    have eh := bnd_of (τ := τ) (fun y hy => he y (by simp only [Op.operands]; simp at hy ⊢; simp [hy])) hhi
    obtain ⟨a1, a2, a3, a4, a5⟩ := i
    simp only at hi'
    subst hi'
    simp only [astep, aSlice, ht, ex, hei, el, eh]
    exact ⟨rfl, hsz, ha, hab, hb, hK _ _ _ _ ⟨rfl, rfl, rfl, rfl⟩⟩) h

theorem r_sliceS (hT : TypesOk P T) {t : TypeId} {x : Operand} {lo hi : Option Operand} {i : TI} {a b : Int} {s : ByteArray} (hw : GW ops g sl) (hx : evS sl x = .c (.d (.lit (.string s)))) (ht : T t = some i) (hi' : i.desc = .str)
    (hlo : bndS sl 0 lo = some a) (hhi : bndS sl s.size hi = some b) (ha : 0 ≤ a) (hab : a ≤ b) (hb : b ≤ (s.size : Int))
    (h : Reg P F0 w0 dr ops K rest ⟨n, (d, .c (.d (.lit (.string (s.extract a.toNat b.toNat))))) :: sl, mem, ck, df⟩ (0 :: acc)) : Reg P F0 w0 dr ops K (⟨some d, .slice t x lo hi none, ty, pos, aft, g⟩ :: rest) ⟨n, sl, mem, ck, df⟩ acc :=
  at0 hw (fun m c => Does.of hT fun τ he hm hc Kk hK => by
    subst hm; subst hc
    have ex := he x (by simp [Op.operands])
    rw [hx] at ex
    have el := bnd_of (τ := τ) (fun y hy => he y (by simp only [Op.operands]; simp at hy ⊢; simp [hy])) hlo
    have eh := bnd_of (τ := τ) (fun y hy => he y (by simp only [Op.operands]; simp at hy ⊢; simp [hy])) hhi
    obtain ⟨a1, a2, a3, a4, a5⟩ := i
    simp only at hi'
    subst hi'
    simp only [astep, aSlice, ht, ex, el, eh]
    exact ⟨rfl, ha, hab, hb, hK _ _ _ _ ⟨rfl, rfl, rfl, rfl⟩⟩) h

theorem r_sliceE (hT : TypesOk P T) {t e : TypeId} {x : Operand} {lo hi : Option Operand} {i ei : TI} (hw : GW ops g sl) (hx : evS sl x = .c .emp) (ht : T t = some i) (hi' : i.desc = .slice e) (hei : T e = some ei)
    (hlo : bndS sl 0 lo = some 0) (hhi : bndS sl 0 hi = some 0)
    (h : Reg P F0 w0 dr ops K rest ⟨n, (d, .c .emp) :: sl, mem, ck, df⟩ (0 :: acc)) : Reg P F0 w0 dr ops K (⟨some d, .slice t x lo hi none, ty, pos, aft, g⟩ :: rest) ⟨n, sl, mem, ck, df⟩ acc :=
  at0 hw (fun m c => Does.of hT fun τ he hm hc Kk hK => by
    subst hm; subst hc
    have ex := he x (by simp [Op.operands])
    rw [hx] at ex
    have el := bnd_of (τ := τ) (fun y hy => he y (by simp only [Op.operands]; simp at hy ⊢; simp [hy])) hlo
    have eh := bnd_of (τ := τ) (fun y hy => he y (by simp only [Op.operands]; simp at hy ⊢; simp [hy])) hhi
    obtain ⟨a1, a2, a3, a4, a5⟩ := i
    simp only at hi'
    subst hi'
    simp only [astep, aSlice, ht, ex, hei, el, eh]
    exact ⟨rfl, trivial, trivial, hK _ _ _ _ ⟨rfl, rfl, rfl, rfl⟩⟩) h

/-- A beginning of an array of the call's own. -/
theorem r_sliceA (hT : TypesOk P T) {t e ety : TypeId} {x : Operand} {lo hi : Option Operand} {i ei : TI} {b : Int} {r k m m' esz : Nat} {es : List (List Dat)} (hw : GW ops g sl) (hx : evS sl x = .c (.arr r k m)) (ht : T t = some i) (hi' : i.desc = .slice e) (hei : T e = some ei)
    (hm : mem[r]? = some (.arr k ety esz es)) (hlo : bndS sl 0 lo = some 0) (hhi : bndS sl m hi = some b) (hml : m ≤ es.length) (h0 : 0 ≤ b) (hb : b ≤ (m : Int)) (hm' : b.toNat = m')
    (h : Reg P F0 w0 dr ops K rest ⟨n, (d, .c (.arr r k m')) :: sl, mem, ck, df⟩ (1 :: acc)) : Reg P F0 w0 dr ops K (⟨some d, .slice t x lo hi none, ty, pos, aft, g⟩ :: rest) ⟨n, sl, mem, ck, df⟩ acc :=
  at1 hw (Does.of hT fun τ he hmm hc Kk hK => by
    subst hmm; subst hc; subst hm'
    have ex := he x (by simp [Op.operands])
    rw [hx] at ex
    have el := bnd_of (τ := τ) (fun y hy => he y (by simp only [Op.operands]; simp at hy ⊢; simp [hy])) hlo
    have eh := bnd_of (τ := τ) (fun y hy => he y (by simp only [Op.operands]; simp at hy ⊢; simp [hy])) hhi
    obtain ⟨a1, a2, a3, a4, a5⟩ := i
    simp only at hi'
    subst hi'
    simp only [astep, aSlice, ht, ex, hei, el, eh, hm]
    exact ⟨rfl, trivial, hml, trivial, h0, hb, hK _ _ _ _ ⟨rfl, rfl, rfl, rfl⟩⟩) h

theorem r_bin (hT : TypesOk P T) {bo : BinOp} {t t' : TypeId} {x y : Operand} {u u' v : SVal} (hw : GW ops g sl) (hx : evS sl x = u) (hy : evS sl y = u') (hv : ∀ V : SVal → Prop, V v → aBin T bo t u u' V)
    (h : Reg P F0 w0 dr ops K rest ⟨n, (d, v) :: sl, mem, ck, df⟩ (0 :: acc)) : Reg P F0 w0 dr ops K (⟨some d, .binOp bo t x y t', ty, pos, aft, g⟩ :: rest) ⟨n, sl, mem, ck, df⟩ acc :=
  at0 hw (fun m c => Does.of hT fun τ he hm hc Kk hK => by
    subst hm; subst hc
    have ex := he x (by simp [Op.operands])
    have ey := he y (by simp [Op.operands])
    rw [hx] at ex
    rw [hy] at ey
    simp only [astep, ex, ey]
    exact hv _ (hK _ _ _ _ ⟨rfl, rfl, rfl, rfl⟩)) h

/-- Numbers: the result is told. -/
inductive IntOp : BinOp → IntKind → Int → Int → SVal → Prop
  | add64 {a b : Int} (h1 : -9223372036854775808 ≤ a + b) (h2 : a + b ≤ 9223372036854775807) : IntOp .add .i64 a b (.c (.d (.lit (.int .i64 (a + b)))))
  | add {k : IntKind} {a b : Int} : IntOp .add k a b (.c (.d (.lit (.int k (k.wrap (a + b))))))
  | sub64 {a b : Int} (h1 : -9223372036854775808 ≤ a - b) (h2 : a - b ≤ 9223372036854775807) : IntOp .sub .i64 a b (.c (.d (.lit (.int .i64 (a - b)))))
  | sub {k : IntKind} {a b : Int} : IntOp .sub k a b (.c (.d (.lit (.int k (k.wrap (a - b))))))
  | mul64 {a b : Int} (h1 : -9223372036854775808 ≤ a * b) (h2 : a * b ≤ 9223372036854775807) : IntOp .mul .i64 a b (.c (.d (.lit (.int .i64 (a * b)))))
  | mul {k : IntKind} {a b : Int} : IntOp .mul k a b (.c (.d (.lit (.int k (k.wrap (a * b))))))
  | quoN {a b : Nat} (h : 0 < b) (h2 : (a : Int) ≤ 9223372036854775807) : IntOp .quo .i64 (a : Int) (b : Int) (.c (.d (.lit (.int .i64 ((a / b : Nat) : Int)))))
  | quo {k : IntKind} {a b : Int} (h : b ≠ 0) : IntOp .quo k a b (.c (.d (.lit (.int k (k.wrap (a.tdiv b))))))
  | rem {k : IntKind} {a b : Int} (h : b ≠ 0) : IntOp .rem k a b (.c (.d (.lit (.int k (a.tmod b)))))
  | and {k : IntKind} {a b : Int} : IntOp .and k a b (.c (.d (.lit (.int k (andInt k a b)))))
  | eql {k : IntKind} {a b : Int} : IntOp .eql k a b (.c (.d (.lit (.bool (a == b)))))
  | neq {k : IntKind} {a b : Int} : IntOp .neq k a b (.c (.d (.lit (.bool (a != b)))))
  | lss {k : IntKind} {a b : Int} : IntOp .lss k a b (.c (.d (.lit (.bool (decide (a < b))))))
  | leq {k : IntKind} {a b : Int} : IntOp .leq k a b (.c (.d (.lit (.bool (decide (a ≤ b))))))
  | gtr {k : IntKind} {a b : Int} : IntOp .gtr k a b (.c (.d (.lit (.bool (decide (b < a))))))
  | geq {k : IntKind} {a b : Int} : IntOp .geq k a b (.c (.d (.lit (.bool (decide (b ≤ a))))))

theorem r_int (hT : TypesOk P T) {bo : BinOp} {t t' : TypeId} {x y : Operand} {k : IntKind} {a b : Int} {v : SVal} (hw : GW ops g sl) (hx : evS sl x = .c (.d (.lit (.int k a)))) (hy : evS sl y = .c (.d (.lit (.int k b)))) (hv : IntOp bo k a b v)
    (h : Reg P F0 w0 dr ops K rest ⟨n, (d, v) :: sl, mem, ck, df⟩ (0 :: acc)) : Reg P F0 w0 dr ops K (⟨some d, .binOp bo t x y t', ty, pos, aft, g⟩ :: rest) ⟨n, sl, mem, ck, df⟩ acc :=
  r_bin hT hw hx hy (fun V q => by
    cases hv with
    | add64 h1 h2 => exact ⟨rfl, by simp only [aInt, wrap_i64 h1 h2]; exact q⟩
    | sub64 h1 h2 => exact ⟨rfl, by simp only [aInt, wrap_i64 h1 h2]; exact q⟩
    | mul64 h1 h2 => exact ⟨rfl, by simp only [aInt, wrap_i64 h1 h2]; exact q⟩
    | quoN h1 h2 =>
      refine ⟨rfl, by omega, ?_⟩
      rename_i a b
      have e : IntKind.i64.wrap ((a : Int).tdiv (b : Int)) = ((a / b : Nat) : Int) := by
        have h3 := Nat.div_le_self a b
        rw [← Int.ofNat_tdiv]
        generalize a / b = c at h3
        exact wrap_i64 (by omega) (by omega)
      rw [e]
      exact q
    | quo h1 => exact ⟨rfl, h1, q⟩
    | rem h1 => exact ⟨rfl, h1, q⟩
    | _ => exact ⟨rfl, q⟩) h

inductive StrOp : BinOp → ByteArray → ByteArray → SVal → Prop
  | add {a b : ByteArray} (h : a.size + b.size ≤ maxLen) : StrOp .add a b (.c (.d (.lit (.string (a ++ b)))))
  | eql {a b : ByteArray} : StrOp .eql a b (.c (.d (.lit (.bool (a.toList == b.toList)))))
  | neq {a b : ByteArray} : StrOp .neq a b (.c (.d (.lit (.bool (!(a.toList == b.toList))))))
  | lss {a b : ByteArray} : StrOp .lss a b (.c (.d (.lit (.bool (Op.bytesLess a.toList b.toList)))))

theorem r_str (hT : TypesOk P T) {bo : BinOp} {t t' : TypeId} {x y : Operand} {a b : ByteArray} {v : SVal} (hw : GW ops g sl) (hx : evS sl x = .c (.d (.lit (.string a)))) (hy : evS sl y = .c (.d (.lit (.string b)))) (hv : StrOp bo a b v)
    (h : Reg P F0 w0 dr ops K rest ⟨n, (d, v) :: sl, mem, ck, df⟩ (0 :: acc)) : Reg P F0 w0 dr ops K (⟨some d, .binOp bo t x y t', ty, pos, aft, g⟩ :: rest) ⟨n, sl, mem, ck, df⟩ acc :=
  r_bin hT hw hx hy (fun V q => by
    cases hv with
    | add h1 => exact ⟨h1, q⟩
    | _ => exact q) h

theorem r_eqB (hT : TypesOk P T) {t t' : TypeId} {x y : Operand} {i : TI} {a b : Bool} (hw : GW ops g sl) (hx : evS sl x = .c (.d (.lit (.bool a)))) (hy : evS sl y = .c (.d (.lit (.bool b)))) (ht : T t = some i) (hi : i.desc = .bool)
    (h : Reg P F0 w0 dr ops K rest ⟨n, (d, .c (.d (.lit (.bool (a == b))))) :: sl, mem, ck, df⟩ (0 :: acc)) : Reg P F0 w0 dr ops K (⟨some d, .binOp .eql t x y t', ty, pos, aft, g⟩ :: rest) ⟨n, sl, mem, ck, df⟩ acc :=
  r_bin hT hw hx hy (fun V q => by
    obtain ⟨a1, a2, a3, a4, a5⟩ := i
    simp only at hi
    subst hi
    simp only [aBin, ht]
    exact q) h

theorem r_neB (hT : TypesOk P T) {t t' : TypeId} {x y : Operand} {i : TI} {a b : Bool} (hw : GW ops g sl) (hx : evS sl x = .c (.d (.lit (.bool a)))) (hy : evS sl y = .c (.d (.lit (.bool b)))) (ht : T t = some i) (hi : i.desc = .bool)
    (h : Reg P F0 w0 dr ops K rest ⟨n, (d, .c (.d (.lit (.bool (!(a == b)))))) :: sl, mem, ck, df⟩ (0 :: acc)) : Reg P F0 w0 dr ops K (⟨some d, .binOp .neq t x y t', ty, pos, aft, g⟩ :: rest) ⟨n, sl, mem, ck, df⟩ acc :=
  r_bin hT hw hx hy (fun V q => by
    obtain ⟨a1, a2, a3, a4, a5⟩ := i
    simp only at hi
    subst hi
    simp only [aBin, ht]
    exact q) h

theorem r_eqA (hT : TypesOk P T) {t t' : TypeId} {x y : Operand} {i : TI} {xs ys : List Cell} {us vs : List Value} (hw : GW ops g sl) (hx : evS sl x = .agg xs) (hy : evS sl y = .agg ys) (ht : T t = some i) (he : i.eqs = true) (hu : litsOf xs = some us) (hv : litsOf ys = some vs) (h1 : alikes i.zero us) (h2 : alikes i.zero vs)
    (h : Reg P F0 w0 dr ops K rest ⟨n, (d, .c (.d (.lit (.bool (litsEq us vs))))) :: sl, mem, ck, df⟩ (0 :: acc)) : Reg P F0 w0 dr ops K (⟨some d, .binOp .eql t x y t', ty, pos, aft, g⟩ :: rest) ⟨n, sl, mem, ck, df⟩ acc :=
  r_bin hT hw hx hy (fun V q => by
    simp only [aBin, ht, hu, hv]
    exact ⟨he, h1, h2, q⟩) h

theorem r_neA (hT : TypesOk P T) {t t' : TypeId} {x y : Operand} {i : TI} {xs ys : List Cell} {us vs : List Value} (hw : GW ops g sl) (hx : evS sl x = .agg xs) (hy : evS sl y = .agg ys) (ht : T t = some i) (he : i.eqs = true) (hu : litsOf xs = some us) (hv : litsOf ys = some vs) (h1 : alikes i.zero us) (h2 : alikes i.zero vs)
    (h : Reg P F0 w0 dr ops K rest ⟨n, (d, .c (.d (.lit (.bool (!(litsEq us vs)))))) :: sl, mem, ck, df⟩ (0 :: acc)) : Reg P F0 w0 dr ops K (⟨some d, .binOp .neq t x y t', ty, pos, aft, g⟩ :: rest) ⟨n, sl, mem, ck, df⟩ acc :=
  r_bin hT hw hx hy (fun V q => by
    simp only [aBin, ht, hu, hv]
    exact ⟨he, h1, h2, q⟩) h

theorem r_not (hT : TypesOk P T) {t : TypeId} {x : Operand} {b : Bool} (hw : GW ops g sl) (hx : evS sl x = .c (.d (.lit (.bool b))))
    (h : Reg P F0 w0 dr ops K rest ⟨n, (d, .c (.d (.lit (.bool (!b))))) :: sl, mem, ck, df⟩ (0 :: acc)) : Reg P F0 w0 dr ops K (⟨some d, .unOp .not t x, ty, pos, aft, g⟩ :: rest) ⟨n, sl, mem, ck, df⟩ acc :=
  at0 hw (fun m c => Does.of hT fun τ he hm hc Kk hK => by
    subst hm; subst hc
    have ex := he x (by simp [Op.operands])
    rw [hx] at ex
    simp only [astep, aUn, ex]
    exact hK _ _ _ _ ⟨rfl, rfl, rfl, rfl⟩) h

theorem r_neg (hT : TypesOk P T) {t : TypeId} {x : Operand} {k : IntKind} {z z' : Int} (hw : GW ops g sl) (hx : evS sl x = .c (.d (.lit (.int k z)))) (hz : k.wrap (0 - z) = z')
    (h : Reg P F0 w0 dr ops K rest ⟨n, (d, .c (.d (.lit (.int k z')))) :: sl, mem, ck, df⟩ (0 :: acc)) : Reg P F0 w0 dr ops K (⟨some d, .unOp .neg t x, ty, pos, aft, g⟩ :: rest) ⟨n, sl, mem, ck, df⟩ acc :=
  at0 hw (fun m c => Does.of hT fun τ he hm hc Kk hK => by
    subst hm; subst hc; subst hz
    have ex := he x (by simp [Op.operands])
    rw [hx] at ex
    simp only [astep, aUn, ex]
    exact hK _ _ _ _ ⟨rfl, rfl, rfl, rfl⟩) h

theorem r_conv (hT : TypesOk P T) {s t : TypeId} {x : Operand} {i j : TI} {k k' : IntKind} {z z' : Int} (hw : GW ops g sl) (hx : evS sl x = .c (.d (.lit (.int k z)))) (hs : T s = some i) (ht : T t = some j) (hj : j.desc = .int k') (hz : k'.wrap z = z')
    (h : Reg P F0 w0 dr ops K rest ⟨n, (d, .c (.d (.lit (.int k' z')))) :: sl, mem, ck, df⟩ (0 :: acc)) : Reg P F0 w0 dr ops K (⟨some d, .convert s t x, ty, pos, aft, g⟩ :: rest) ⟨n, sl, mem, ck, df⟩ acc :=
  at0 hw (fun m c => Does.of hT fun τ he hm hc Kk hK => by
    subst hm; subst hc; subst hz
    have ex := he x (by simp [Op.operands])
    rw [hx] at ex
    obtain ⟨a1, a2, a3, a4, a5⟩ := j
    simp only at hj
    subst hj
    simp only [astep, aConv, hs, ht, ex]
    exact hK _ _ _ _ ⟨rfl, rfl, rfl, rfl⟩) h

def fillS (T : TypeId → Option TI) (sl : List (Nat × SVal)) (fs : List (Nat × TypeId)) : List (Nat × Operand) → List Cell → Option (List Cell)
  | [], cs => some cs
  | (i, x) :: rest, cs => match fs[i]?, (evS sl x).cells with
    | some (off, ft), some ns => (match T ft with
      | some j => bif Nat.beq ns.length j.size && Nat.ble (off + ns.length) cs.length then fillS T sl fs rest (cs.take off ++ ns ++ cs.drop (off + ns.length)) else none
      | none => none)
    | _, _ => none

theorem fillS_eq {τ : St} {fs : List (Nat × TypeId)} : ∀ (parts : List (Nat × Operand)) (cs : List Cell), (∀ p ∈ parts, τ.ev p.2 = evS sl p.2) → ∀ cs', fillS T sl fs parts cs = some cs' → fillC T τ fs parts cs = some cs'
  | [], cs, _, cs', h => h
  | (i, x) :: rest, cs, he, cs', h => by
    have hx := he (i, x) (by simp)
    simp only at hx
    unfold fillS at h
    unfold fillC
    rw [hx]
    split at h
    · rename_i off ft ns e1 e2
      split at h
      · rename_i j hj
        cases hc : (Nat.beq ns.length j.size && Nat.ble (off + ns.length) cs.length) with
        | false => rw [hc] at h; simp at h
        | true =>
          rw [hc] at h
          simp only [cond_true] at h
          simp only [Bool.and_eq_true, Nat.beq_eq, Nat.ble_eq] at hc
          simp only [e1, e2, hj]
          rw [if_pos hc]
          have := fillS_eq (τ := τ) rest (cs.take off ++ ns ++ cs.drop (off + ns.length)) (fun p hp => he p (by simp [hp])) cs' h
          exact this
      · cases h
    · cases h

theorem r_build (hT : TypesOk P T) {t : TypeId} {parts : Array (Nat × Operand)} {i : TI} {fs : List (Nat × TypeId)} {cs cs' : List Cell} (hw : GW ops g sl) (ht : T t = some i) (hi : i.desc = .struct fs) (ha : fs.all (fun p => (T p.2).isSome) = true) (hf : fillS T sl fs parts.toList (i.zero.map valCell) = some cs) (hn : cs = cs')
    (h : Reg P F0 w0 dr ops K rest ⟨n, (d, .agg cs') :: sl, mem, ck, df⟩ (0 :: acc)) : Reg P F0 w0 dr ops K (⟨some d, .build t parts, ty, pos, aft, g⟩ :: rest) ⟨n, sl, mem, ck, df⟩ acc :=
  at0 hw (fun m c => Does.of hT fun τ he hm hc Kk hK => by
    subst hm; subst hc; subst hn
    obtain ⟨a1, a2, a3, a4, a5⟩ := i
    simp only at hi
    subst hi
    have hq := fillS_eq (τ := τ) parts.toList _ (fun p hp => he p.2 (by simp only [Op.operands]; simp; exact ⟨p.1, by simpa using hp⟩)) cs hf
    simp only [astep, aBuild, ht]
    refine ⟨ha, ?_⟩
    simp only at hq
    simp only [hq]
    exact hK _ _ _ _ ⟨rfl, rfl, rfl, rfl⟩) h

def partsS (sl : List (Nat × SVal)) (size : Nat) : List (Nat × Operand) → Nat → Option (List (List Dat))
  | [], _ => some []
  | (i, x) :: rest, k => bif Nat.beq i k then (match (evS sl x).cells with
      | some cs => (match dats cs, partsS sl size rest (k + 1) with
        | some ds, some r => bif Nat.beq ds.length size then some (ds :: r) else none
        | _, _ => none)
      | none => none) else none

theorem partsS_eq {τ : St} {size : Nat} : ∀ (parts : List (Nat × Operand)) (k : Nat), (∀ p ∈ parts, τ.ev p.2 = evS sl p.2) → ∀ es, partsS sl size parts k = some es → partsOf τ size parts k = some es
  | [], k, _, es, h => h
  | (i, x) :: rest, k, he, es, h => by
    have hx := he (i, x) (by simp)
    simp only at hx
    unfold partsS at h
    unfold partsOf
    rw [hx]
    cases hb : Nat.beq i k with
    | false => rw [hb] at h; simp at h
    | true =>
      rw [hb] at h
      simp only [cond_true] at h
      rw [if_pos (Nat.eq_of_beq_eq_true hb)]
      split at h
      · rename_i cs hcs
        split at h
        · rename_i ds r hds hr
          cases hc : Nat.beq ds.length size with
          | false => rw [hc] at h; simp at h
          | true =>
            rw [hc] at h
            simp only [cond_true] at h
            have hq := partsS_eq (τ := τ) rest (k + 1) (fun p hp => he p (by simp [hp])) r hr
            simp only [hcs, hds, hq]
            rw [if_pos (Nat.eq_of_beq_eq_true hc)]
            exact h
        · cases h
      · cases h

theorem r_bslice (hT : TypesOk P T) {t e : TypeId} {len : Nat} {parts : Array (Nat × Operand)} {i ei : TI} {es es' : List (List Dat)} (hw : GW ops g sl) (ht : T t = some i) (hi : i.desc = .slice e) (hei : T e = some ei) (hc : (Nat.blt 0 len && Nat.blt 0 ei.size && Nat.beq ei.zero.length ei.size && Nat.ble (len * ei.size) 16777216 && Nat.beq parts.size len) = true)
    (hp : partsS sl ei.size parts.toList 0 = some es) (hn : es = es')
    (h : Reg P F0 w0 dr ops K rest ⟨n, (d, .c (.d (.sl es'))) :: sl, mem, ck, df⟩ (0 :: acc)) : Reg P F0 w0 dr ops K (⟨some d, .buildSlice t len parts, ty, pos, aft, g⟩ :: rest) ⟨n, sl, mem, ck, df⟩ acc :=
  at0 hw (fun m c => Does.of hT fun τ he hm hc' Kk hK => by
    subst hm; subst hc'; subst hn
    obtain ⟨a1, a2, a3, a4, a5⟩ := i
    simp only at hi
    subst hi
    simp only [Bool.and_eq_true, Nat.beq_eq, Nat.ble_eq, Nat.blt, Nat.succ_le_iff] at hc
    obtain ⟨⟨⟨⟨h1, h2⟩, h3⟩, h4⟩, h5⟩ := hc
    have hq := partsS_eq (τ := τ) parts.toList _ (fun p hp => he p.2 (by simp only [Op.operands]; simp; exact ⟨p.1, by simpa using hp⟩)) es hp
    cases len with
    | zero => omega
    | succ len =>
      simp only [astep, aBuildSlice, ht, hei, hq]
      exact ⟨h2, h3, h4, by simpa using h5, hK _ _ _ _ ⟨rfl, rfl, rfl, rfl⟩⟩) h

theorem r_bslice0 (hT : TypesOk P T) {t e : TypeId} {i ei : TI} (hw : GW ops g sl) (ht : T t = some i) (hi : i.desc = .slice e) (hei : T e = some ei)
    (h : Reg P F0 w0 dr ops K rest ⟨n, (d, .c .emp) :: sl, mem, ck, df⟩ (0 :: acc)) : Reg P F0 w0 dr ops K (⟨some d, .buildSlice t 0 #[], ty, pos, aft, g⟩ :: rest) ⟨n, sl, mem, ck, df⟩ acc :=
  at0 hw (fun m c => Does.of hT fun τ he hm hc' Kk hK => by
    subst hm; subst hc'
    obtain ⟨a1, a2, a3, a4, a5⟩ := i
    simp only at hi
    subst hi
    simp only [astep, aBuildSlice, ht, hei]
    exact ⟨trivial, hK _ _ _ _ ⟨rfl, rfl, rfl, rfl⟩⟩) h

theorem r_make (hT : TypesOk P T) {t e : TypeId} {l c : Operand} {i ei : TI} {k k' : IntKind} {z z' : Int} {zs : List Dat} {r m : Nat} {mem' : List Blk} (hw : GW ops g sl) (hl : evS sl l = .c (.d (.lit (.int k z)))) (hc : evS sl c = .c (.d (.lit (.int k' z')))) (ht : T t = some i) (hi : i.desc = .slice e) (hei : T e = some ei)
    (hzs : dats (ei.zero.map valCell) = some zs) (hk : (Nat.blt 0 ei.size && Nat.beq ei.zero.length ei.size) = true) (h0 : 0 ≤ z) (hzz : z ≤ z') (hmx : z' ≤ 9223372036854775807) (hby : (ei.bytes : Int) * z' ≤ 281474976710656) (hr : mem.length = r) (hm : z.toNat = m) (hm' : mem ++ [Blk.arr (ck + 1) e ei.size (List.replicate m zs)] = mem')
    (h : Reg P F0 w0 dr ops K rest ⟨n, (d, .c (.arr r (ck + 1) m)) :: sl, mem', ck + 1, df⟩ (2 :: acc)) : Reg P F0 w0 dr ops K (⟨some d, .makeSlice t l c, ty, pos, aft, g⟩ :: rest) ⟨n, sl, mem, ck, df⟩ acc :=
  at2 (df' := []) hw (Does.of hT fun τ he hmm hck Kk hK => by
    subst hmm; subst hck; subst hr; subst hm; subst hm'
    have el := he l (by simp [Op.operands])
    have ec := he c (by simp [Op.operands])
    rw [hl] at el
    rw [hc] at ec
    obtain ⟨a1, a2, a3, a4, a5⟩ := i
    simp only at hi
    subst hi
    simp only [Bool.and_eq_true, Nat.beq_eq, Nat.ble_eq, Nat.blt, Nat.succ_le_iff] at hk
    simp only [astep, aMake, ht, hei, el, ec, hzs]
    exact ⟨hk.1, hk.2, h0, hzz, hmx, hby, hK _ _ _ _ ⟨rfl, rfl, rfl, rfl⟩⟩) h

def capsS (sl : List (Nat × SVal)) : List Operand → Option (List Cell)
  | [] => some []
  | x :: xs => match evS sl x, capsS sl xs with
    | .c c, some cs => some (c :: cs)
    | _, _ => none

theorem capsS_eq {τ : St} : ∀ (xs : List Operand), (∀ x ∈ xs, τ.ev x = evS sl x) → ∀ cs, capsS sl xs = some cs → capsOf τ xs = some cs
  | [], _, cs, h => h
  | x :: xs, he, cs, h => by
    unfold capsS at h
    unfold capsOf
    rw [he x (by simp)]
    split at h
    · rename_i c cs' e1 e2
      rw [e1, capsS_eq (τ := τ) xs (fun y hy => he y (by simp [hy])) cs' e2]
      exact h
    · cases h

theorem r_func0 (hT : TypesOk P T) {f : FuncId} (hw : GW ops g sl) (h : Reg P F0 w0 dr ops K rest ⟨n, (d, .c (.d (.lit (.func (.func f) #[] #[])))) :: sl, mem, ck, df⟩ (0 :: acc)) :
    Reg P F0 w0 dr ops K (⟨some d, .makeFunc (.func f) #[] #[], ty, pos, aft, g⟩ :: rest) ⟨n, sl, mem, ck, df⟩ acc :=
  at0 hw (fun m c => Does.of hT fun τ he hm hc' Kk hK => by
    subst hm; subst hc'
    simp only [astep, aFunc]
    exact hK _ _ _ _ ⟨rfl, rfl, rfl, rfl⟩) h

theorem r_funcD (hT : TypesOk P T) {f : FuncId} {x : Operand} {xs : List Operand} {cs : List Cell} {ds : List Dat} (hw : GW ops g sl) (hc : capsS sl (x :: xs) = some cs) (hd : dats cs = some ds) (h : Reg P F0 w0 dr ops K rest ⟨n, (d, .c (.d (.clo f ds))) :: sl, mem, ck, df⟩ (0 :: acc)) :
    Reg P F0 w0 dr ops K (⟨some d, .makeFunc (.func f) #[] ⟨x :: xs⟩, ty, pos, aft, g⟩ :: rest) ⟨n, sl, mem, ck, df⟩ acc :=
  at0 hw (fun m c => Does.of hT fun τ he hm hc' Kk hK => by
    subst hm; subst hc'
    have := capsS_eq (τ := τ) _ (fun y hy => he y (by simp only [Op.operands]; simpa using hy)) cs hc
    simp only [astep, aFunc, this, hd]
    exact hK _ _ _ _ ⟨rfl, rfl, rfl, rfl⟩) h

theorem r_funcC (hT : TypesOk P T) {f : FuncId} {x : Operand} {xs : List Operand} {cs cs' : List Cell} (hw : GW ops g sl) (hc : capsS sl (x :: xs) = some cs) (hd : dats cs = none) (hn : cs = cs') (h : Reg P F0 w0 dr ops K rest ⟨n, (d, .c (.clo f cs')) :: sl, mem, ck, df⟩ (0 :: acc)) :
    Reg P F0 w0 dr ops K (⟨some d, .makeFunc (.func f) #[] ⟨x :: xs⟩, ty, pos, aft, g⟩ :: rest) ⟨n, sl, mem, ck, df⟩ acc :=
  at0 hw (fun m c => Does.of hT fun τ he hm hc' Kk hK => by
    subst hm; subst hc'; subst hn
    have := capsS_eq (τ := τ) _ (fun y hy => he y (by simp only [Op.operands]; simpa using hy)) cs hc
    simp only [astep, aFunc, this, hd]
    exact hK _ _ _ _ ⟨rfl, rfl, rfl, rfl⟩) h

theorem r_extract (hT : TypesOk P T) {x : Operand} {i : Nat} {xs : List SVal} {v : SVal} (hw : GW ops g sl) (hx : evS sl x = .tup xs) (hv : xs[i]? = some v) (h : Reg P F0 w0 dr ops K rest ⟨n, (d, v) :: sl, mem, ck, df⟩ (0 :: acc)) :
    Reg P F0 w0 dr ops K (⟨some d, .extract x i, ty, pos, aft, g⟩ :: rest) ⟨n, sl, mem, ck, df⟩ acc :=
  at0 hw (fun m c => Does.of hT fun τ he hm hc' Kk hK => by
    subst hm; subst hc'
    have ex := he x (by simp [Op.operands])
    rw [hx] at ex
    simp only [astep, ex, hv]
    exact hK _ _ _ _ ⟨rfl, rfl, rfl, rfl⟩) h

theorem args_of {τ : St} {f : Operand} {args : Array Operand} {ats : Array TypeId} (he : ∀ x ∈ (Op.call ⟨.value f, args, ats⟩).operands.toList, τ.ev x = evS sl x) : τ.ev f = evS sl f ∧ args.toList.map τ.ev = args.toList.map (evS sl) :=
  ⟨he f (by simp [Op.operands, Call.operands]), List.map_congr_left fun x hx => he x (by simp only [Op.operands, Call.operands]; simp; exact .inr (by simpa using hx))⟩

/-- A call of a function that makes memory of its own alone. -/
theorem r_call (hT : TypesOk P T) {f : Operand} {fv : SVal} {args : Array Operand} {ats : Array TypeId} {fid : FuncId} {caps : List Cell} {as : List SVal} {pargs : List PV} {r : PRes} {v : SVal} (hp : PCall P fid pargs r) (hw : GW ops g sl) (hf : evS sl f = fv) (hc : calleeOf fv = some (fid, caps)) (has : args.toList.map (evS sl) ++ caps.map .c = as) (ha : SDs as pargs) (hv : r.s = v)
    (h : Reg P F0 w0 dr ops K rest ⟨n, (d, v) :: sl, mem, ck, df⟩ (0 :: acc)) : Reg P F0 w0 dr ops K (⟨some d, .call ⟨.value f, args, ats⟩, ty, pos, aft, g⟩ :: rest) ⟨n, sl, mem, ck, df⟩ acc :=
  at0 hw (fun m c => Does.of hT fun τ he hm hck Kk hK => by
    subst hm; subst hck; subst has; subst hv
    obtain ⟨e1, e2⟩ := args_of he
    rw [hf] at e1
    simp only [astep, aCall, e1, hc, e2]
    exact MCall.ofPure hp ha (hK _ _ _ _ ⟨rfl, rfl, rfl, rfl⟩)) h

/-- A call that may turn what is held. -/
theorem r_callM (hT : TypesOk P T) {f : Operand} {fv : SVal} {args : Array Operand} {ats : Array TypeId} {fid : FuncId} {caps : List Cell} {as : List SVal} {v : SVal} {m' : List Blk} {c' : Nat} (hw : GW ops g sl) (hf : evS sl f = fv) (hc : calleeOf fv = some (fid, caps)) (has : args.toList.map (evS sl) ++ caps.map .c = as) (hp : MCall P F0 w0 fid as mem ck fun v' m c => v' = v ∧ m = m' ∧ c = c')
    (h : Reg P F0 w0 dr ops K rest ⟨n, (d, v) :: sl, m', c', df⟩ (2 :: acc)) : Reg P F0 w0 dr ops K (⟨some d, .call ⟨.value f, args, ats⟩, ty, pos, aft, g⟩ :: rest) ⟨n, sl, mem, ck, df⟩ acc :=
  at2 (df' := []) hw (Does.of hT fun τ he hm hck Kk hK => by
    subst hm; subst hck; subst has
    obtain ⟨e1, e2⟩ := args_of he
    rw [hf] at e1
    simp only [astep, aCall, e1, hc, e2]
    refine ⟨hp.1, fun E w vs q1 q2 q3 => Calls.mono (hp.2 E w vs q1 q2 q3) fun _ _ ⟨v', E', r, m, c, p1, p2, p3, p4, p5, p6, p7⟩ => ⟨v', E', r, m, c, p1, p2, p3, p4, ?_⟩⟩
    subst p5; subst p6; subst p7
    exact hK _ _ _ _ ⟨rfl, rfl, rfl, rfl⟩) h

/-- The same, where what comes of it is only bounded. -/
theorem r_callR (hT : TypesOk P T) {f : Operand} {fv : SVal} {args : Array Operand} {ats : Array TypeId} {fid : FuncId} {caps : List Cell} {as : List SVal} {R : SVal → List Blk → Nat → Prop} (hdr : dr = false) (hw : GW ops g sl) (hf : evS sl f = fv) (hc : calleeOf fv = some (fid, caps)) (has : args.toList.map (evS sl) ++ caps.map .c = as) (hp : MCall P F0 w0 fid as mem ck R)
    (h : ∀ v m c, R v m c → Reg P F0 w0 dr ops K rest ⟨n, (d, v) :: sl, m, c, df⟩ (2 :: acc)) : Reg P F0 w0 dr ops K (⟨some d, .call ⟨.value f, args, ats⟩, ty, pos, aft, g⟩ :: rest) ⟨n, sl, mem, ck, df⟩ acc :=
  at2r (R := fun v m c df' => R v m c ∧ df' = []) hdr hw (Does.of hT fun τ he hm hck Kk hK => by
    subst hm; subst hck; subst has
    obtain ⟨e1, e2⟩ := args_of he
    rw [hf] at e1
    simp only [astep, aCall, e1, hc, e2]
    refine ⟨hp.1, fun E w vs q1 q2 q3 => Calls.mono (hp.2 E w vs q1 q2 q3) fun _ _ ⟨v', E', r, m, c, p1, p2, p3, p4, p5⟩ => ⟨v', E', r, m, c, p1, p2, p3, p4, ?_⟩⟩
    exact hK _ _ _ _ ⟨p5, rfl⟩) (fun v m c df' q => by obtain ⟨q1, rfl⟩ := q; exact h v m c q1)

theorem r_callRn (hT : TypesOk P T) {f : Operand} {fv : SVal} {args : Array Operand} {ats : Array TypeId} {fid : FuncId} {caps : List Cell} {as : List SVal} {R : SVal → List Blk → Nat → Prop} (hdr : dr = false) (hw : GW ops g sl) (hf : evS sl f = fv) (hc : calleeOf fv = some (fid, caps)) (has : args.toList.map (evS sl) ++ caps.map .c = as) (hp : MCall P F0 w0 fid as mem ck R)
    (h : ∀ v m c, R v m c → Reg P F0 w0 dr ops K rest ⟨n, sl, m, c, df⟩ (2 :: acc)) : Reg P F0 w0 dr ops K (⟨none, .call ⟨.value f, args, ats⟩, ty, pos, aft, g⟩ :: rest) ⟨n, sl, mem, ck, df⟩ acc :=
  at2nr (R := fun v m c df' => R v m c ∧ df' = []) hdr hw (Does.of hT fun τ he hm hck Kk hK => by
    subst hm; subst hck; subst has
    obtain ⟨e1, e2⟩ := args_of he
    rw [hf] at e1
    simp only [astep, aCall, e1, hc, e2]
    refine ⟨hp.1, fun E w vs q1 q2 q3 => Calls.mono (hp.2 E w vs q1 q2 q3) fun _ _ ⟨v', E', r, m, c, p1, p2, p3, p4, p5⟩ => ⟨v', E', r, m, c, p1, p2, p3, p4, ?_⟩⟩
    exact hK _ _ _ _ ⟨p5, rfl⟩) (fun v m c df' q => by obtain ⟨q1, rfl⟩ := q; exact h v m c q1)

theorem r_lenD (hT : TypesOk P T) {t e : TypeId} {x : Operand} {i : TI} {es : List (List Dat)} {k : Nat} (hw : GW ops g sl) (hx : evS sl x = .c (.d (.sl es))) (ht : T t = some i) (hi : i.desc = .slice e) (hk : es.length = k)
    (h : Reg P F0 w0 dr ops K rest ⟨n, (d, .c (.d (.lit (.int .i64 k)))) :: sl, mem, ck, df⟩ (0 :: acc)) : Reg P F0 w0 dr ops K (⟨some d, .call ⟨.builtin .len, #[x], #[t]⟩, ty, pos, aft, g⟩ :: rest) ⟨n, sl, mem, ck, df⟩ acc :=
  at0 hw (fun m c => Does.of hT fun τ he hm hck Kk hK => by
    subst hm; subst hck; subst hk
    have ex := he x (by simp [Op.operands, Call.operands])
    rw [hx] at ex
    obtain ⟨a1, a2, a3, a4, a5⟩ := i
    simp only at hi
    subst hi
    simp only [astep, aCall, aLen, ht, ex]
    exact hK _ _ _ _ ⟨rfl, rfl, rfl, rfl⟩) h

theorem r_lenE (hT : TypesOk P T) {t e : TypeId} {x : Operand} {i : TI} (hw : GW ops g sl) (hx : evS sl x = .c .emp) (ht : T t = some i) (hi : i.desc = .slice e)
    (h : Reg P F0 w0 dr ops K rest ⟨n, (d, .c (.d (.lit (.int .i64 0)))) :: sl, mem, ck, df⟩ (0 :: acc)) : Reg P F0 w0 dr ops K (⟨some d, .call ⟨.builtin .len, #[x], #[t]⟩, ty, pos, aft, g⟩ :: rest) ⟨n, sl, mem, ck, df⟩ acc :=
  at0 hw (fun m c => Does.of hT fun τ he hm hck Kk hK => by
    subst hm; subst hck
    have ex := he x (by simp [Op.operands, Call.operands])
    rw [hx] at ex
    obtain ⟨a1, a2, a3, a4, a5⟩ := i
    simp only at hi
    subst hi
    simp only [astep, aCall, aLen, ht, ex]
    exact hK _ _ _ _ ⟨rfl, rfl, rfl, rfl⟩) h

theorem r_lenS (hT : TypesOk P T) {t : TypeId} {x : Operand} {i : TI} {s : ByteArray} (hw : GW ops g sl) (hx : evS sl x = .c (.d (.lit (.string s)))) (ht : T t = some i) (hi : i.desc = .str)
    (h : Reg P F0 w0 dr ops K rest ⟨n, (d, .c (.d (.lit (.int .i64 s.size)))) :: sl, mem, ck, df⟩ (0 :: acc)) : Reg P F0 w0 dr ops K (⟨some d, .call ⟨.builtin .len, #[x], #[t]⟩, ty, pos, aft, g⟩ :: rest) ⟨n, sl, mem, ck, df⟩ acc :=
  at0 hw (fun m c => Does.of hT fun τ he hm hck Kk hK => by
    subst hm; subst hck
    have ex := he x (by simp [Op.operands, Call.operands])
    rw [hx] at ex
    obtain ⟨a1, a2, a3, a4, a5⟩ := i
    simp only at hi
    subst hi
    simp only [astep, aCall, aLen, ht, ex]
    exact hK _ _ _ _ ⟨rfl, rfl, rfl, rfl⟩) h

theorem r_lenA (hT : TypesOk P T) {t e ety : TypeId} {x : Operand} {i : TI} {r k m esz : Nat} {es : List (List Dat)} (hw : GW ops g sl) (hx : evS sl x = .c (.arr r k m)) (ht : T t = some i) (hi : i.desc = .slice e) (hm : mem[r]? = some (.arr k ety esz es))
    (h : Reg P F0 w0 dr ops K rest ⟨n, (d, .c (.d (.lit (.int .i64 m)))) :: sl, mem, ck, df⟩ (1 :: acc)) : Reg P F0 w0 dr ops K (⟨some d, .call ⟨.builtin .len, #[x], #[t]⟩, ty, pos, aft, g⟩ :: rest) ⟨n, sl, mem, ck, df⟩ acc :=
  at1 hw (Does.of hT fun τ he hmm hck Kk hK => by
    subst hmm; subst hck
    have ex := he x (by simp [Op.operands, Call.operands])
    rw [hx] at ex
    obtain ⟨a1, a2, a3, a4, a5⟩ := i
    simp only at hi
    subst hi
    simp only [astep, aCall, aLen, ht, ex, liveAt, hm]
    exact ⟨trivial, hK _ _ _ _ ⟨rfl, rfl, rfl, rfl⟩⟩) h

theorem r_appE (hT : TypesOk P T) {t e : TypeId} {x y : Operand} {i ei : TI} {u : SVal} {ys : List (List Dat)} {r m : Nat} {mem' : List Blk} (hw : GW ops g sl) (hx : evS sl x = .c .emp) (hy : evS sl y = u) (hs : srcOf u = some ys) (ht : T t = some i) (hi : i.desc = .slice e) (hei : T e = some ei) (hk : (Nat.blt 0 ei.size && Nat.beq ei.zero.length ei.size) = true)
    (hsz : ∀ el ∈ ys, el.length = ei.size) (hl : ys.length = m) (hmx : (m : Int) ≤ 9223372036854775807) (hby : m * ei.bytes ≤ 140737488355328) (hr : mem.length = r) (hm' : mem ++ [Blk.arr (ck + 1) e ei.size ys] = mem')
    (h : Reg P F0 w0 dr ops K rest ⟨n, (d, .c (.arr r (ck + 1) m)) :: sl, mem', ck + 1, df⟩ (2 :: acc)) : Reg P F0 w0 dr ops K (⟨some d, .call ⟨.builtin .append, #[x, y], #[t, t]⟩, ty, pos, aft, g⟩ :: rest) ⟨n, sl, mem, ck, df⟩ acc :=
  at2 (df' := []) hw (Does.of hT fun τ he hmm hck Kk hK => by
    subst hmm; subst hck; subst hr; subst hl; subst hm'
    have ex := he x (by simp [Op.operands, Call.operands])
    have ey := he y (by simp [Op.operands, Call.operands])
    rw [hx] at ex
    rw [hy] at ey
    obtain ⟨a1, a2, a3, a4, a5⟩ := i
    simp only at hi
    subst hi
    simp only [Bool.and_eq_true, Nat.beq_eq, Nat.ble_eq, Nat.blt, Nat.succ_le_iff] at hk
    simp only [astep, aCall, aAppend, ht, hei, ex, ey, hs]
    exact ⟨trivial, hk.1, hk.2, hsz, by simp only [maxLen]; omega, hby, hK _ _ _ _ ⟨rfl, rfl, rfl, rfl⟩⟩) h

theorem r_appA (hT : TypesOk P T) {t e : TypeId} {x y : Operand} {i ei : TI} {u : SVal} {ys es es' : List (List Dat)} {r k j m esz : Nat} {mem' : List Blk} (hw : GW ops g sl) (hx : evS sl x = .c (.arr r k j)) (hy : evS sl y = u) (hs : srcOf u = some ys) (ht : T t = some i) (hi : i.desc = .slice e) (hei : T e = some ei) (hk : (Nat.blt 0 ei.size && Nat.beq ei.zero.length ei.size) = true)
    (hm : mem[r]? = some (.arr k e esz es)) (hesz : esz = ei.size) (hsz : ∀ el ∈ ys, el.length = ei.size) (hj : j ≤ es.length) (hl : j + ys.length = m) (hmx : (m : Int) ≤ 9223372036854775807) (hby : m * ei.bytes ≤ 140737488355328) (hes : es.take j ++ ys = es') (hm' : mem.set r (Blk.arr (ck + 1) e ei.size es') = mem')
    (h : Reg P F0 w0 dr ops K rest ⟨n, (d, .c (.arr r (ck + 1) m)) :: sl, mem', ck + 1, df⟩ (2 :: acc)) : Reg P F0 w0 dr ops K (⟨some d, .call ⟨.builtin .append, #[x, y], #[t, t]⟩, ty, pos, aft, g⟩ :: rest) ⟨n, sl, mem, ck, df⟩ acc :=
  at2 (df' := []) hw (Does.of hT fun τ he hmm hck Kk hK => by
    subst hmm; subst hck; subst hl; subst hes; subst hm'; subst hesz
    have ex := he x (by simp [Op.operands, Call.operands])
    have ey := he y (by simp [Op.operands, Call.operands])
    rw [hx] at ex
    rw [hy] at ey
    obtain ⟨a1, a2, a3, a4, a5⟩ := i
    simp only at hi
    subst hi
    simp only [Bool.and_eq_true, Nat.beq_eq, Nat.ble_eq, Nat.blt, Nat.succ_le_iff] at hk
    simp only [astep, aCall, aAppend, ht, hei, ex, ey, hs, hm]
    exact ⟨trivial, hk.1, hk.2, hsz, trivial, trivial, trivial, hj, by simp only [maxLen]; omega, hby, hK _ _ _ _ ⟨rfl, rfl, rfl, rfl⟩⟩) h

theorem r_min (hT : TypesOk P T) {x y : Operand} {ats : Array TypeId} {k : IntKind} {a b z : Int} (hw : GW ops g sl) (hx : evS sl x = .c (.d (.lit (.int k a)))) (hy : evS sl y = .c (.d (.lit (.int k b)))) (hz : (if b < a then b else a) = z)
    (h : Reg P F0 w0 dr ops K rest ⟨n, (d, .c (.d (.lit (.int k z)))) :: sl, mem, ck, df⟩ (0 :: acc)) : Reg P F0 w0 dr ops K (⟨some d, .call ⟨.builtin .min, #[x, y], ats⟩, ty, pos, aft, g⟩ :: rest) ⟨n, sl, mem, ck, df⟩ acc :=
  at0 hw (fun m c => Does.of hT fun τ he hmm hck Kk hK => by
    subst hmm; subst hck; subst hz
    have ex := he x (by simp [Op.operands, Call.operands])
    have ey := he y (by simp [Op.operands, Call.operands])
    rw [hx] at ex
    rw [hy] at ey
    simp only [astep, aCall, ex, ey]
    exact ⟨trivial, hK _ _ _ _ ⟨rfl, rfl, rfl, rfl⟩⟩) h

theorem r_max (hT : TypesOk P T) {x y : Operand} {ats : Array TypeId} {k : IntKind} {a b z : Int} (hw : GW ops g sl) (hx : evS sl x = .c (.d (.lit (.int k a)))) (hy : evS sl y = .c (.d (.lit (.int k b)))) (hz : (if a < b then b else a) = z)
    (h : Reg P F0 w0 dr ops K rest ⟨n, (d, .c (.d (.lit (.int k z)))) :: sl, mem, ck, df⟩ (0 :: acc)) : Reg P F0 w0 dr ops K (⟨some d, .call ⟨.builtin .max, #[x, y], ats⟩, ty, pos, aft, g⟩ :: rest) ⟨n, sl, mem, ck, df⟩ acc :=
  at0 hw (fun m c => Does.of hT fun τ he hmm hck Kk hK => by
    subst hmm; subst hck; subst hz
    have ex := he x (by simp [Op.operands, Call.operands])
    have ey := he y (by simp [Op.operands, Call.operands])
    rw [hx] at ex
    rw [hy] at ey
    simp only [astep, aCall, ex, ey]
    exact ⟨trivial, hK _ _ _ _ ⟨rfl, rfl, rfl, rfl⟩⟩) h

theorem r_defer (hT : TypesOk P T) {f : Operand} {fv : SVal} {ats : Array TypeId} {fid : FuncId} {caps : List Cell} (hw : GW ops g sl) (hf : evS sl f = fv) (hc : calleeOf fv = some (fid, caps))
    (h : Reg P F0 w0 dr ops K rest ⟨n, sl, mem, ck, (fid, caps) :: df⟩ (2 :: acc)) : Reg P F0 w0 dr ops K (⟨none, .defer ⟨.value f, #[], ats⟩, ty, pos, aft, g⟩ :: rest) ⟨n, sl, mem, ck, df⟩ acc :=
  at2n (df' := [(fid, caps)]) (v := .junk) hw (Does.of hT fun τ he hmm hck Kk hK => by
    subst hmm; subst hck
    have ex := he f (by simp [Op.operands, Call.operands])
    rw [hf] at ex
    simp only [astep, ex, hc]
    exact hK _ _ _ _ ⟨rfl, rfl, rfl, rfl⟩) h
end
end Go.Abs
