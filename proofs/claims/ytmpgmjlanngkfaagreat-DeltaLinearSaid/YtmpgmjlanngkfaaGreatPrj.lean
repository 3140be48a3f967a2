/-
  Algebra: Project.
-/
import Derived.Test.YtmpgmjlanngkfaaGreatArx
import Derived.Test.YtmpgmjlanngkfaaGreatByt
import Derived.Test.YtmpgmjlanngkfaaGreatEnc
import Derived.Test.YtmpgmjlanngkfaaGreatSum
import Derived.Test.YtmpgmjlanngkfaaGreatBag
import Derived.Test.YtmpgmjlanngkfaaGreatNrm
import Derived.Test.YtmpgmjlanngkfaaGreatSam
section
section
section
namespace Go.Abs
open Go.RowKit
section
variable {P : Program} {T : TypeId → Option TI} {F0 : Nat → Prop} {w0 : World}
variable {dr : Bool} {ops rest : List Oper} {K : St → Prop} {n : Nat} {sl : List (Nat × SVal)} {mem : List Blk} {ck : Nat} {df : List (FuncId × List Cell)} {acc : List Nat}
variable {d : Tmp} {op : Op} {ty : TypeId} {pos : String} {aft : Array Edge} {g : Option (Nat × Bool)}

/-- What a cell is as data, once one array is. -/
def CFr (r k : Nat) (es : List (List Dat)) (c : Cell) (y : Dat) : Prop := (∃ m, c = .arr r k m ∧ m ≤ es.length ∧ y = .sl (es.take m)) ∨ c.dat = some y
def CFrs (r k : Nat) (es : List (List Dat)) : List Cell → List Dat → Prop
  | [], [] => True
  | c :: cs, y :: ys => CFr r k es c y ∧ CFrs r k es cs ys
  | _, _ => False

theorem CFrs.get {r k : Nat} {es : List (List Dat)} : ∀ {cs : List Cell} {ys : List Dat}, CFrs r k es cs ys → cs.length = ys.length ∧ ∀ (i : Nat) c y, cs[i]? = some c → ys[i]? = some y → CFr r k es c y
  | [], [], _ => ⟨rfl, by simp⟩
  | c :: cs, y :: ys, h => by
    obtain ⟨h1, h2⟩ := CFrs.get h.2
    refine ⟨by simp [h1], fun i c' y' hc hy => ?_⟩
    cases i with
    | zero => simp at hc hy; subst hc; subst hy; exact h.1
    | succ i => exact h2 i c' y' (by simpa using hc) (by simpa using hy)
  | [], _ :: _, h => h.elim
  | _ :: _, [], h => h.elim

/-- A slice of one element is laid; an array that the element holds becomes data. -/
theorem s_bsliceF [tc : TC P T] (r : Nat) {t e : TypeId} {x : Tmp} {i ei : TI} {k esz : Nat} {ety : TypeId} {es : List (List Dat)} {cs : List Cell} {ds : List Dat} {mem' : List Blk} (h : Reg P F0 w0 dr ops K rest ⟨n, (d, .c (.d (.sl [ds]))) :: sl, mem', ck, df⟩ (2 :: acc)) (hcs : CFrs r k es cs ds) (hm : mem[r]? = some (.arr k ety esz es) := by exact rfl) (hw : GW ops g sl := by first | exact trivial | exact rfl)
    (hx : evS sl (.tmp x) = .agg cs := by exact rfl) (ht : T t = some i := by exact rfl) (hi : i.desc = .slice e := by exact rfl) (hei : T e = some ei := by exact rfl) (hk : (Nat.blt 0 ei.size && (Nat.beq ei.zero.length ei.size && (Nat.ble ei.size 16777216 && Nat.beq cs.length ei.size))) = true := by exact rfl) (hm' : mem.set r .dead = mem' := by repeat' (first | exact nfNil rfl | apply nfCons rfl)) :
    Reg P F0 w0 dr ops K (⟨some d, .buildSlice t 1 #[(0, .tmp x)], ty, pos, aft, g⟩ :: rest) ⟨n, sl, mem, ck, df⟩ acc := by
  subst hm'
  refine at2 (df' := []) hw (fun B σ E a w hF hw0 he hmm hck hr hB hd next Q hn => ?_) h
  subst hF; subst hw0
  simp only [Bool.and_eq_true, Nat.beq_eq, Nat.ble_eq, Nat.blt, Nat.succ_le_iff] at hk
  have hm2 : σ.mem[r]? = some (.arr k ety esz es) := by rw [hmm]; exact hm
  have hfz := hr.1.freeze r k ety esz es hm2
  have hxv : SRep E w (a.eval (.tmp x)) (.agg cs) := by
    have := hr.ev (.tmp x)
    rw [he (.tmp x) (by simp [Op.operands]), hx] at this
    exact this
  obtain ⟨hcl, hcg⟩ := hcs.get
  have hxd : SRep { E with F := fun i => E.F i ∨ (i = E.blk r ∧ E.cap r ≠ 0) } w (a.eval (.tmp x)) (.agg (ds.map .d)) := by
    generalize a.eval (.tmp x) = v at hxv
    cases hxv with | agg _ vs hl hv =>
    refine .agg _ vs (by rw [hl, hcl]; simp) fun i u y hu hy => ?_
    rw [List.getElem?_map] at hy
    cases hq : ds[i]? with
    | none => rw [hq] at hy; cases hy
    | some z =>
      rw [hq] at hy
      simp only [Option.map_some, Option.some.injEq] at hy
      subst hy
      have hlt : i < cs.length := by rw [hcl]; exact lt_of_getElem? hq
      have hci : cs[i]? = some cs[i] := List.getElem?_eq_getElem hlt
      have hrep := hv i u _ hu hci
      rcases hcg i _ z hci hq with ⟨m, h1, h2, rfl⟩ | h1
      · rw [h1] at hrep
        exact .d (arr_dat hr.1 hm2 h2 hrep (fun b hb => .inl hb) fun hz => .inr ⟨rfl, hz⟩)
      · exact .d ((hrep.dat h1).mono (fun _ hb => .inl hb) (fun _ _ => rfl))
  have hput : a.eval (.tmp x) = a.tmps.getD x undef := rfl
  have hρ : ∀ o, SRep { E with F := fun i => E.F i ∨ (i = E.blk r ∧ E.cap r ≠ 0) } w (a.eval o) (St.ev { σ with mem := σ.mem.set r .dead, slots := (x, .agg (ds.map .d)) :: σ.slots } o) := by
    intro o
    cases o with
    | tmp s =>
      simp only [St.ev, St.get, look_put]
      split
      · rename_i q; subst q; exact hxd
      · exact (hr.ev (.tmp s)).le hfz.2
    | const v => exact (hr.ev (.const v)).le hfz.2
    | global q => exact (hr.ev (.global q)).le hfz.2
    | func q => exact (hr.ev (.func q)).le hfz.2
  obtain ⟨a1, a2, a3, a4, a5⟩ := i
  simp only at hi
  subst hi
  obtain ⟨v, w', E', y, q1, q2, q3, q4, q5⟩ := buildSlice_ok (P := P) tc.ok (σ := { σ with mem := σ.mem.set r .dead, slots := (x, .agg (ds.map .d)) :: σ.slots }) hfz.1 (t := t) (len := 1) (ρ := a.eval) hρ (parts := #[(0, .tmp x)]) (V := fun y => y = .c (.d (.sl [ds]))) (by
    have hdd : dats (ds.map Cell.d) = some ds := by
      have : ∀ l : List Dat, dats (l.map Cell.d) = some l := fun l => by
        induction l with
        | nil => rfl
        | cons z l ih => simp [dats, ih, Cell.dat]
      exact this ds
    simp only [aBuildSlice, ht, hei, partsOf, St.ev, St.get, look_put, if_true, SVal.cells, hdd]
    refine ⟨hk.1, hk.2.1, by omega, rfl, ?_⟩
    rw [if_pos (by rw [← hcl]; exact hk.2.2.2)])
  subst q5
  unfold Oper.wp
  rw [show (execOp a.eval ⟨some d, .buildSlice t 1 #[(0, .tmp x)], ty, pos, aft, g⟩).run P w = .ok (.value v) w' by have q1' := q1; simp at q1'; simp [execOp, q1']]
  refine hn _ _ _ [] _ _ ⟨rfl, rfl, rfl, rfl⟩ ⟨E', ?_, hB.trans (hfz.2.trans q2)⟩
  rw [upd_putO, ← hmm, ← hck]
  exact hr.putOE (hfz.2.trans q2) q3 hd q4

end
end Go.Abs
end
end
section
section
namespace Go.Abs
open Go.RowKit
section
variable {P : Program} {T : TypeId → Option TI} {F0 : Nat → Prop} {w0 : World}
variable {dr : Bool} {ops rest : List Oper} {K : St → Prop} {n : Nat} {sl : List (Nat × SVal)} {mem : List Blk} {ck : Nat} {df : List (FuncId × List Cell)} {acc : List Nat}
variable {d : Tmp} {ty : TypeId} {pos : String} {aft : Array Edge} {g : Option (Nat × Bool)}

theorem s_buildA [tc : TC P T] {t e : TypeId} {m : Nat} {parts : Array (Nat × Operand)} {i ei : TI} {cs cs' : List Cell} (h : Reg P F0 w0 dr ops K rest ⟨n, (d, .agg cs') :: sl, mem, ck, df⟩ (0 :: acc)) (hw : GW ops g sl := by first | exact trivial | exact rfl)
    (ht : T t = some i := by exact rfl) (hi : i.desc = .array m e := by exact rfl) (hei : T e = some ei := by exact rfl) (hf : fillS T sl ((List.range m).map fun q => (q * ei.size, e)) parts.toList (i.zero.map valCell) = some cs := by exact rfl) (hn : cs = cs' := by repeat' (first | exact nfNil rfl | apply nfCons rfl)) :
    Reg P F0 w0 dr ops K (⟨some d, .build t parts, ty, pos, aft, g⟩ :: rest) ⟨n, sl, mem, ck, df⟩ acc := by
  subst hn
  refine at0 hw (fun mm cc => fun B σ E a w hF hw0 he hmm hck hr hB hd next Q hn => ?_) h
  subst hF; subst hw0
  have htt := tc.ok t _ ht
  obtain ⟨a1, a2, zero, a4, a5⟩ := i
  simp only at hi hf
  subst hi
  have hq := fillS_eq (τ := σ) parts.toList _ (fun p hp => he p.2 (by simp only [Op.operands]; simp; exact ⟨p.1, by simpa using hp⟩)) cs hf
  have hu : P.underlying t = some (.array m e) := htt.desc
  obtain ⟨fi, z, hi1, hi2, hi3, hi4, hi5⟩ := htt.info
  have hs := (tc.ok e ei hei).sizeOf (w := w)
  obtain ⟨cells', q1, q2, q3⟩ := build_fill tc.ok (ρ := a.eval) (fun x => hr.ev x) _ (fun q => some (q * ei.size, ei.size)) (fun q off ft j hf hj => by
    rw [List.getElem?_map] at hf
    cases hr : (List.range m)[q]? with
    | none => rw [hr] at hf; cases hf
    | some r =>
      rw [hr] at hf
      simp only [Option.map_some, Option.some.injEq, Prod.mk.injEq] at hf
      obtain ⟨rfl, rfl⟩ := hf
      have hqr : r = q := by
        have hlt : q < (List.range m).length := (List.getElem?_eq_some_iff.1 hr).1
        rw [List.getElem?_eq_getElem hlt, List.getElem_range] at hr
        simpa using hr.symm
      rw [hei] at hj
      simp only [Option.some.injEq] at hj
      subst hj
      rw [hqr]) parts.toList _ cs zero.toArray hq (by simp) (zero_rep htt)
  have hv : SRep E w (.agg cells') (.agg cs) := by
    have := SRep.agg (E := E) (w := w) cs cells'.toList (by simpa using q2) (fun i v x hv hx => q3 i v x (by simpa using hv) hx)
    simpa using this
  have hrun : (Instr.build t (parts.map fun (i, x) => (i, a.eval x))).run P w = .ok (.agg cells') w := by
    have hmap : (parts.map fun (i, x) => (i, a.eval x)).toList = parts.toList.map fun p => (p.1, a.eval p.2) := by simp
    simp only [Instr.build, zeroValue, typeInfo, Sem.run_bind, run_program, Result.andThen_ok, hi1, Sem.run_pure, hi4, run_underlying hu, hs, hi5, hmap]
    rw [q1]
    rfl
  unfold Oper.wp
  rw [show (execOp a.eval ⟨some d, .build t parts, ty, pos, aft, g⟩).run P w = .ok (.value (.agg cells')) w by simp at hrun; simp [execOp, hrun]]
  refine hn _ _ _ [] _ _ ⟨rfl, rfl, rfl, rfl⟩ ⟨E, ?_, hB⟩
  rw [upd_putO, ← hmm, ← hck]
  exact hr.putOE (EnvLe.refl E w) hr.1 hd hv

end
end Go.Abs
end
end
end
section
section
section
namespace Go.Abs
open Go.RowKit
section
variable {P : Program} {T : TypeId → Option TI} {F0 : Nat → Prop} {w0 : World} {dr : Bool} {ops rest : List Oper} {K : St → Prop} {n : Nat} {sl : List (Nat × SVal)} {mem : List Blk} {ck : Nat} {df : List (FuncId × List Cell)} {acc : List Nat} {d : Tmp} {ty : TypeId} {pos : String} {aft : Array Edge} {g : Option (Nat × Bool)}

section
variable {B : Base} {R : Ex → St → Prop} {ks : List Fr}
/-- Ways that come together: what is known of the state there. -/
def joinR (τ0 : St) : Ex → St → Prop
  | .norm, τ => Weak τ τ0
  | _, _ => False
end
section
variable {B : Base} {m1 mem1 : List Blk} {r r1 : SVal}
end
end
end Go.Abs
end
section
namespace Go.Proofs.YtmpgmjlanngkfaaGreat
open Go.Abs Go.RowKit
attribute [local irreducible] ARun kont MCall PCall HCall resVal SF CF CFs defersOk slotsIn memIn fin finM VLe
set_option linter.unusedSimpArgs false
set_option maxRecDepth 100000
set_option maxHeartbeats 4000000

/-- A row's value in a column. -/
def atE (row : List Val) (col : Int) : Val := if col < 0 then Val.null else match row[col.toNat]? with | some v => v | none => Val.null

theorem atE_hi {row : List Val} {col : Int} (h : (row.length : Int) ≤ col) : atE row col = Val.null := by
  unfold atE
  split
  · rfl
  · rw [List.getElem?_eq_none (by omega)]
theorem atE_in {row : List Val} {k : Nat} {v : Val} (h : row[k]? = some v) : atE row k = v := by
  unfold atE
  rw [if_neg (by omega), Int.toNat_natCast, h]

/-- Whether a string begins with another one. -/
def hasPre (a b : ByteArray) : Bool := decide (b.size ≤ a.size) && ((a.extract 0 b.size).toList == b.toList)

def strD (l : List UInt8) : Dat := .lit (.string ⟨l.toArray⟩)

/-- Pairs of columns. -/
def onD (on : List (Int × Int)) : Dat := .sl (on.map fun p => [.lit (.int .i64 p.1), .lit (.int .i64 p.2)])

/-- The values of a row in the columns of one side; none if one of them is null. -/
def keyV (row : List Val) : List Int → Option (List Val)
  | [] => some []
  | c :: cs => if (atE row c).kind = 0 then none else (keyV row cs).map ((atE row c) :: ·)

def keyR (o : Option (List Val)) : PRes := match o with
  | some l => .tup [.one (strD (encRow l)), .one (.lit (.bool true))]
  | none => .tup [.one (strD []), .one (.lit (.bool false))]

end Go.Proofs.YtmpgmjlanngkfaaGreat
end
end
section
section
namespace Go.Proofs.YtmpgmjlanngkfaaGreat
open Go.Abs Go.RowKit
attribute [local irreducible] ARun kont MCall PCall HCall resVal SF CF CFs defersOk slotsIn memIn fin finM VLe
set_option linter.unusedSimpArgs false
set_option maxRecDepth 100000
set_option maxHeartbeats 4000000

def nlsD (l : List Int) : Dat := .sl (l.map fun n => [.lit (.int .i64 n)])

end Go.Proofs.YtmpgmjlanngkfaaGreat
end
section
namespace Go.Proofs.YtmpgmjlanngkfaaGreat
open Go.Abs Go.RowKit
attribute [local irreducible] ARun kont MCall PCall HCall resVal SF CF CFs defersOk slotsIn memIn fin finM VLe
set_option linter.unusedSimpArgs false
set_option maxRecDepth 100000
set_option maxHeartbeats 4000000

def proj1 (cols : List Int) (e : Entry) : Entry := ⟨cols.map (atE e.row), e.count⟩
def projE (b : List Entry) (cols : List Int) : List Entry × Int :=
  if bagValid b && (decide (cols.length ≤ 8) && cols.all fun n => decide (0 ≤ n)) then normE (b.map (proj1 cols)) else ([], 1)
def bagI (q : List Entry × Int) : PRes := .tup [.one (bagD q.1), .one (.lit (.int .i64 q.2))]

end Go.Proofs.YtmpgmjlanngkfaaGreat
end
end
end
