/-
  Rows: compared, cleaned, tested.
-/
import Derived.Test.YtmpgmjlanngkfaaGreatMpc
import Derived.Lib.Strings
import Derived.Lib.Slices
import Derived.Lib.Walk
import Derived.Lib.Bytealg
import Derived.Test.YtmpgmjlanngkfaaGreatByt
import Derived.Test.YtmpgmjlanngkfaaGreatOpa
section
namespace Go.Proofs.YtmpgmjlanngkfaaGreat
open Go.Abs Go.RowKit
set_option linter.unusedSimpArgs false
set_option maxRecDepth 100000
set_option maxHeartbeats 4000000
set_option maxHeartbeats 1000000 in
theorem H2 (a b : ByteArray) (w : World) :
  Calls Tryz.prog 216 #[.string a, .string b] w fun e w' => e = .returned (.int .i64 (Lib.compareBytes a.data.toList b.data.toList)) ∧ w' = w := by
 go_enter Tryz.func216, Tryz.ntmps216
 go_wp2
 rw [run_callFunc_extern Tryz.func244 (by kernel_rfl) (by kernel_rfl) (by kernel_rfl) (e := Extern.BytealgCompare.compare) (by kernel_rfl), Lib.run_compareString]
 simp only [Result.andThen]
 rw [Oper.upon_value]
 go_wp2
 go_ret
 exact ⟨rfl, rfl⟩
def Sx (a b : ByteArray) : Int := Lib.compareBytes a.toList b.toList
theorem I3 (a b : ByteArray) : PC 216 [.one (.lit (.string a)), .one (.lit (.string b))] (.v (.one (.lit (.int .i64 (Sx a b))))) := by
 refine ⟨⟨_, Tryz.func216, by kernel_rfl, by kernel_rfl⟩, fun F w vs hF hl hv => ?_⟩
 match vs, hl with
 | [x, y], _ =>
   clear hl
   have h1 := (hv 0 x _ rfl rfl)
   have h2 := (hv 1 y _ rfl rfl)
   clear hv
   obtain rfl := h1.lit_inv
   obtain rfl := h2.lit_inv
   refine Calls.mono (H2 a b w) fun e w' he => ?_
   obtain ⟨rfl, rfl⟩ := he
   refine ⟨_, rfl, Bel.refl _ _, .c (.d ?_)⟩
   rw [Sx, ByteArray.toList_eq, ByteArray.toList_eq]
   exact .lit _ rfl
attribute [local irreducible] ARun Aq MCall PCall HCall Am SF CF CFs Af Al Ap B5 AW VLe
theorem H3 (a b : ByteArray) : PC 174 [.one (.lit (.string a)), .one (.lit (.string b))] (.v (.one (.lit (.int .i64 (Sx a b))))) := by
 refine Ad hT Tryz.func174 Tryz.ntmps174 [.tmp 4] fun B => ?_
 repeat' first | refine kz ?_ | refine Aa (I3 _ _) ?_ | refine kf ?_ | fail
 all_goals rfl
theorem FE : ∀ (x y : List UInt8), Lib.compareBytes x y = if x == y then 0 else if Op.bytesLess x y then -1 else 1
 | [], [] => by simp [Lib.compareBytes]
 | [], _ :: _ => by simp [Lib.compareBytes, Op.bytesLess]
 | _ :: _, [] => by simp [Lib.compareBytes, Op.bytesLess]
 | a :: x, b :: y => by
   simp only [Lib.compareBytes, Op.bytesLess, FE x y, List.cons_beq_cons, beq_iff_eq]
   by_cases h : a < b
   ·have : ¬ a = b := fun e => by subst e; exact absurd h (UInt8.lt_irrefl a)
    simp [h, this]
   ·by_cases h2 : b < a
    ·have : ¬ a = b := fun e => by subst e; exact absurd h2 (UInt8.lt_irrefl a)
     simp [h, h2, this]
    ·have : a = b := UInt8.le_antisymm (UInt8.not_lt.1 h2) (UInt8.not_lt.1 h)
     subst this
     simp [h]
def Val.same (a b : Val) : Bool := (a.kind == b.kind) && ((a.int == b.int) && (a.text.toList == b.text.toList))
def Val.less (a b : Val) : Bool := decide (a.kind < b.kind) || ((a.kind == b.kind) && (decide (a.int < b.int) || Op.bytesLess a.text.toList b.text.toList))
def Val.cmp (a b : Val) : Int := if a.clean.same b.clean then 0 else if a.clean.less b.clean then -1 else 1
theorem AV (v : Val) : v.clean.valid = true := by
 unfold Val.clean
 split
 ·assumption
 ·simp [Val.null, Val.valid]
theorem Du {v : Val} (h : v.valid = true) (hk : v.kind ≠ 2) : v.text.toList = [] := by
 unfold Val.valid at h
 split at h
 ·simp at h; exact h.2
 ·split at h
  ·simp at h; exact h.2
  ·simp [hk] at h
theorem D9 {v : Val} (h : v.valid = true) (hk : v.kind ≠ 1) : v.int = 0 := by
 unfold Val.valid at h
 rw [if_neg hk] at h
 split at h
 ·simp at h; exact h.1
 ·split at h
  ·simp at h; exact h.1
  ·simp at h
theorem Q2 {x y : Val} (h : ¬ x.kind = y.kind) : GR x.kind y.kind = if x.same y = true then 0 else if x.less y = true then -1 else 1 := by
 simp only [GR, Val.same, Val.less, beq_false_of_ne h, Bool.false_and, Bool.or_false, decide_eq_true_eq, Bool.false_eq_true, if_false]
 split
 ·rfl
 ·rw [if_pos (by omega)]
theorem Sy {x y : Val} (hx : x.valid = true) (hy : y.valid = true) (hk : x.kind = 1) (h : x.kind = y.kind) : GR x.int y.int = if x.same y = true then 0 else if x.less y = true then -1 else 1 := by
 simp only [GR, Val.same, Val.less, Du hx (by omega), Du hy (by omega), h]
 simp [Op.bytesLess]
 by_cases h1 : x.int < y.int
 ·simp [h1, show ¬ x.int = y.int by omega]
 ·by_cases h2 : y.int < x.int
  ·simp [h1, h2, show ¬ x.int = y.int by omega]
  ·simp [h1, h2, show x.int = y.int by omega]
theorem Q3 {x y : Val} (hx : x.valid = true) (hy : y.valid = true) (hk : x.kind = 2) (h : x.kind = y.kind) : Sx x.text y.text = if x.same y = true then 0 else if x.less y = true then -1 else 1 := by
 simp only [Sx, Val.same, Val.less, D9 hx (by omega), D9 hy (by omega), h, FE]
 simp
theorem Q4 {x y : Val} (hx : x.valid = true) (hy : y.valid = true) (h1 : ¬ x.kind = 1) (h2 : ¬ x.kind = 2) (h : x.kind = y.kind) : (0 : Int) = if x.same y = true then 0 else if x.less y = true then -1 else 1 := by
 have : x.same y = true := by
  simp only [Val.same, Du hx (by omega), Du hy (by omega), D9 hx (by omega), D9 hy (by omega), h]
  simp
 rw [if_pos this]
theorem LU (a b : Val) : PC 225 [.agg a.d, .agg b.d] (.v (.one (.lit (.int .i64 (a.cmp b))))) := by
 refine Ad hT Tryz.func225 Tryz.ntmps225 [.tmp 4] fun B => ?_
 repeat' first | refine kz ?_ | refine AE rfl (fun hb => ?_) (fun hb => ?_) | refine Aa (Hm _) ?_ | refine Av rfl rfl (fun hb => ?_) (fun hb => ?_) | refine kf ?_ | fail
 all_goals (refine congrArg Dat.lit (congrArg (Value.int _) ?_))
 all_goals unfold Val.cmp
 all_goals (generalize a.clean = x at *; generalize b.clean = y at *)
 all_goals simp_all [Val.cmp, Val.same, Val.less, Cs, Jk]
 ·rw [if_neg (by rintro ⟨h1, h2⟩; exact absurd h2 (by simp_all)), if_neg (by omega)]
theorem H4 (a b : Val) : PC 111 [.agg a.d, .agg b.d] (.v (.one (.lit (.int .i64 (a.cmp b))))) := by
 refine Ad hT Tryz.func111 Tryz.ntmps111 [.tmp 4] fun B => ?_
 repeat' first | refine kz ?_ | refine AE rfl (fun hb => ?_) (fun hb => ?_) | refine Aa (HP _) ?_ | refine Aa (OG _ _) ?_ | refine Aa (PL _ _) ?_ | refine Aa (H3 _ _) ?_ | refine kf ?_ | fail
 all_goals (refine congrArg Dat.lit (congrArg (Value.int _) ?_))
 all_goals unfold Val.cmp
 all_goals (have hx := AV a; have hy := AV b; generalize a.clean = x at *; generalize b.clean = y at *)
 ·exact Q2 (by simpa using hb)
 ·exact Sy hx hy (by simp_all) (by simp_all)
 ·exact Q3 hx hy (by simp_all) (by simp_all)
 ·exact Q4 hx hy (by simp_all) (by simp_all) (by simp_all)
end Go.Proofs.YtmpgmjlanngkfaaGreat
end
section
namespace Go.Abs
open Go.RowKit
variable {cs : List Cell} {i : TI} {k o r : Nat} {mem' : List Blk} {t : TypeId} {x : Operand}
section
variable {P : Program} {B : Base} {n : Nat} {sl : List (Nat × SVal)} {mem : List Blk} {ck : Nat} {df : List (FuncId × List Cell)} {Q : Ex → St → Prop}
theorem Tp {a : Act} {w : World} (h : Rel B ⟨n, sl, mem, ck, df⟩ a w) : Rel B ⟨n, sl, mem ++ [.hole (ck + 1)], ck + 1, df⟩ a w := by
 obtain ⟨E, ⟨h1, h2, h3, h4⟩, hB⟩ := h
 refine ⟨E, ⟨⟨h1.below, h1.base, h1.F, ⟨fun r => ?_, fun r b hb => ?_, fun r r' b b' hb hb' q q' hne => ?_⟩, h1.N⟩, h2, h3, h4⟩, hB⟩
 ·have := h1.mem.clock r
  simp only at this ⊢; omega
 ·rcases getElem?_snoc hb with hb | ⟨_, rfl⟩
  ·exact h1.mem.ok r b hb
  ·have := h1.mem.clock r
   show E.ver r < ck + 1
   simp only at this; omega
 ·rcases getElem?_snoc hb with hb | ⟨_, rfl⟩
  ·rcases getElem?_snoc hb' with hb' | ⟨_, rfl⟩
   ·exact h1.mem.apart r r' b b' hb hb' q q' hne
   ·exact q'.elim
  ·exact q.elim
theorem Bz (m : Nat) {c : Code} (h : ARun P B c ⟨n, sl, mem', ck + 1, df⟩ Q) (_ : mem.length = m := by exact rfl) (hm' : mem ++ [.hole (ck + 1)] = mem' := by repeat' (first | exact A0 rfl | apply AI rfl)) : ARun P B c ⟨n, sl, mem, ck, df⟩ Q := by
 subst hm'
 exact L3 (τ := ⟨n, sl, mem ++ [.hole (ck + 1)], ck + 1, df⟩) rfl (fun a w hr => Tp hr) h
end
section
variable {P : Program} {T : TypeId → Option TI} {F0 : Nat → Prop} {w0 : World}
variable {dr : Bool} {ops rest : List Oper} {K : St → Prop} {n : Nat} {sl : List (Nat × SVal)} {mem : List Blk} {ck : Nat} {df : List (FuncId × List Cell)} {acc : List Nat}
variable {d : Tmp} {ty : TypeId} {pos : String} {aft : Array Edge} {g : Option (Nat × Bool)}
theorem A5 [tc : TC P T] (r : Nat) (h : Reg P F0 w0 dr ops K rest ⟨n, (d, .c (.bp r k 0)) :: sl, mem', ck, df⟩ (B3 r false :: acc)) (hm : mem[r]? = some (.hole k) := by exact rfl) (hk : k ≤ ck := by omega) (hw : GW ops g sl := by first | exact trivial | exact rfl) (ht : T t = some i := by exact rfl)
  (hcs : i.zero.map BP = cs := by repeat' (first | exact A0 rfl | apply AI rfl)) (hm' : mem.set r (.box k cs) = mem' := by exact rfl) : Reg P F0 w0 dr ops K (⟨some d, .alloc t, ty, pos, aft, g⟩ :: rest) ⟨n, sl, mem, ck, df⟩ acc := by
 subst hm'; subst hcs
 refine ZN hw hm hk (fun M c hM hc => B6 fun E w ρ hw' hρ => ?_) h
 have hTt := tc.ok t i ht
 obtain ⟨fi, z, hi1, hi2, hi3, hi4, hi5⟩ := hTt.info
 have hf := hw'.fresh
 have hv : E.ver r < k := hw'.mem.ok r _ hM
 have hle : EnvLe E w (E.upd r w.heap.size 0 k) (w.alloc (.cells i.zero.toArray t)) := Env.upd_le _ _ _ _ hv (fun j hj => Bel.heap_alloc w _ j (hw'.FN j hj))
 have htn := hw'.turnV (w' := w.alloc (.cells i.zero.toArray t)) (clock' := c) r w.heap.size 0 k (.box k (i.zero.map BP)) _ hv (Nat.le_refl _) hc (AX r _) ((Bel.refl _ w).alloc hw'.le0 _) (fun j hj _ => Bel.heap_alloc w _ j hj) (fun s x _ hx hh => hf.2 s x hx hh) hf.1
  ⟨by simp [Env.upd], by simp [Env.upd]; exact hw'.le0, by simp only [Env.upd, if_true]; exact hf.1, i.zero.toArray, t, by simp only [Env.upd, if_true]; exact RV w _, by simp, fun j v x a b => (Ee hTt j v x a b).le hle⟩
 exact ⟨.pointer (some ⟨w.heap.size, 0, none⟩), _, E.upd r w.heap.size 0 k, by simp [execOp, Instr.alloc, zeroValue, typeInfo, hi1, hi4, newVar, newRow, hi5], htn.2, htn.1, .c (.bp r k 0 _ rfl (by simp [Env.upd]) (fun _ => by simp [Env.upd]))⟩
theorem DL [tc : TC P T] {cs' : List Cell} (h : Reg P F0 w0 dr ops K rest ⟨n, (d, .agg cs') :: sl, mem, ck, df⟩ (B3 r true :: acc)) (hw : GW ops g sl := by first | exact trivial | exact rfl) (hx : AO sl x = .c (.bp r k o) := by exact rfl) (ht : T t = some i := by exact rfl) (ha : i.desc.agg = true := by exact rfl) (hm : mem[r]? = some (.box k cs) := by exact rfl) (hs : decide (o + i.size ≤ cs.length) = true := by exact rfl) (hcs : (cs.drop o).take i.size = cs' := by repeat' (first | exact A0 rfl | apply AI rfl)) : Reg P F0 w0 dr ops K (⟨some d, .load t x, ty, pos, aft, g⟩ :: rest) ⟨n, sl, mem, ck, df⟩ acc :=
 SJ hw hm (fun mem ck hm => Does.of tc.ok fun τ he hmm hc Kk hK => by
  subst hmm; subst hc; subst hcs
  have ex := he x (by simp [Op.operands])
  rw [hx] at ex
  simp only [AP, Dq, ht, ex, ha, hm]
  refine ⟨.inl trivial, trivial, by simpa using hs, ?_⟩
  exact hK _ _ _ _ ⟨rfl, rfl, rfl, rfl⟩) h
theorem DM [tc : TC P T] {y : Operand} {v : SVal} {cs0 cs' : List Cell} (h : Reg P F0 w0 dr ops K rest ⟨n, sl, mem', ck, df⟩ (B3 r false :: acc)) (hw : GW ops g sl := by first | exact trivial | exact rfl) (hx : AO sl x = .c (.bp r k o) := by exact rfl) (hy : AO sl y = v := by first | exact (rfl : _ = SVal.c _) | exact (rfl : _ = SVal.agg _) | exact (rfl : _ = SVal.tup _) | exact (rfl : _ = SVal.und) | exact rfl) (hc : v.cells = some cs := by exact rfl) (ht : T t = some i := by exact rfl) (hl : cs.length = i.size := by exact rfl) (hm : mem[r]? = some (.box k cs0) := by exact rfl) (hs : decide (o + i.size ≤ cs0.length) = true := by exact rfl) (hcs : cs0.take o ++ cs ++ cs0.drop (o + i.size) = cs' := by repeat' (first | exact A0 rfl | apply AI rfl)) (hm' : mem.set r (.box k cs') = mem' := by repeat' (first | exact A0 rfl | apply AI rfl)) : Reg P F0 w0 dr ops K (⟨none, .store t x y, ty, pos, aft, g⟩ :: rest) ⟨n, sl, mem, ck, df⟩ acc := by
 subst hm'
 exact YF (v := .junk) hw hm (fun M c hM => Does.of tc.ok fun τ he hmm hck Kk hK => by
  subst hmm; subst hck; subst hcs
  have ex := he x (by simp [Op.operands])
  have ey := he y (by simp [Op.operands])
  rw [hx] at ex
  rw [hy] at ey
  simp only [AP, EM, ht, ex, ey, hc, hM]
  exact ⟨hl, trivial, by simpa using hs, hK _ _ _ _ ⟨rfl, rfl, rfl, rfl⟩⟩) h
theorem Dx [tc : TC P T] {e : TypeId} {y : Operand} {ei : TI} {kk : IntKind} {z : Int} {m : Nat} (h : Reg P F0 w0 dr ops K rest ⟨n, (d, .c (.bp r k (o + z.toNat * ei.size))) :: sl, mem, ck, df⟩ (B3 r true :: acc)) (hw : GW ops g sl := by first | exact trivial | exact rfl) (hx : AO sl x = .c (.bp r k o) := by exact rfl) (hy : AO sl y = .c (.d (.lit (.int kk z))) := by exact rfl) (ht : T t = some i := by exact rfl) (hi : i.desc = .array m e := by exact rfl) (he' : T e = some ei := by exact rfl) (hm : mem[r]? = some (.box k cs) := by exact rfl) (hz : 0 ≤ z := by omega) (hzm : z < (m : Int) := by omega) : Reg P F0 w0 dr ops K (⟨some d, .indexAddr t x y, ty, pos, aft, g⟩ :: rest) ⟨n, sl, mem, ck, df⟩ acc :=
 SJ hw hm (fun mem ck hm => Does.of tc.ok fun τ he hmm hc Kk hK => by
  subst hmm; subst hc
  have ex := he x (by simp [Op.operands])
  have ey := he y (by simp [Op.operands])
  rw [hx] at ex
  rw [hy] at ey
  obtain ⟨a1, a2, a3, a4, a5⟩ := i
  simp only at hi
  subst hi
  simp only [AP, Fg, ht, he', ex, ey, Dt, hm]
  exact ⟨hz, hzm, trivial, hK _ _ _ _ ⟨rfl, rfl, rfl, rfl⟩⟩) h
end
end Go.Abs
end
section
namespace Go.Proofs.YtmpgmjlanngkfaaGreat
open Go.Abs Go.RowKit
attribute [local irreducible] ARun Aq MCall PCall HCall Am SF CF CFs Af Al Ap B5 AW VLe
set_option linter.unusedSimpArgs false
set_option maxRecDepth 100000
set_option maxHeartbeats 4000000
variable {i : Nat}
def BS (r : List Val) : Dat := .sl (r.map Val.d)
theorem CY {α : Type} (p : α → Bool) {l : List α} {v : α} (hv : l[i]? = some v) (h : (l.take i).all p = true) (hp : p v = true) : (l.take (i + 1)).all p = true := by
 rw [KL, List.all_append, h, hv]
 simp [hp]
theorem DC {α : Type} (p : α → Bool) {l : List α} {v : α} (hv : l[i]? = some v) (hp : p v = false) : l.all p = false := by
 rw [List.all_eq_false]
 exact ⟨v, Df hv, by simp [hp]⟩
theorem Az {α : Type} {l : List α} {v : α} (h : l[i]? = some v) : l.drop i = v :: l.drop (i + 1) := by
 have hlt := lt_of_getElem? h
 rw [XZ hlt]
 rw [Bi hlt] at h
 simp at h
 rw [h]
theorem Gh {α β : Type} (f : α → β) {l : List α} {v : α} (hv : l[i]? = some v) : (l.take (i + 1)).map f = (l.take i).map f ++ [f v] := by
 rw [KL, As', hv]
 rfl
theorem Ag {α : Type} {l : List α} (h : l.length ≤ i) : l.take i = l := Ua h
def A7 (r : List Val) : Bool := decide (r.length ≤ 16) && r.all Val.valid
theorem Kh (r : List Val) : PC 122 [.one (BS r)] (.v (.one (.lit (.bool (A7 r))))) := by
 refine Ad hT Tryz.func122 Tryz.ntmps122 [.tmp 2] fun B => ?_
 repeat' first | refine kz ?_ | refine AE rfl (fun hb => ?_) (fun hb => ?_) | refine As ?_ | refine kf ?_ | fail
 ·refine congrArg Dat.lit (congrArg Value.bool ?_)
  simp [A7]
  intros; omega
 ·have hl : r.length ≤ 16 := by omega
  refine AY (X := Nat) ([2, 4] ++ List.range' 10 8) (fun x => x ≤ r.length ∧ (r.take x).all Val.valid = true) (fun x lz => (10, (iC x)) :: lz) (fun x => []) (fun x => r.length - x) (0) ?_ ?_ ?_ ?_
  repeat' first | exact k0 | refine kw ?_ | omega
  ·exact ⟨by simp, by simp⟩
  rintro i c ⟨hi, hinv⟩
  by_cases hlt : i < r.length
  ·obtain ⟨v, hv⟩ := gx hlt
   repeat' first | refine kz ?_ | refine AE rfl (fun hb => ?_) (fun hb => ?_) | refine AT hv ?_ | refine As ?_ | refine Aa (Jg _) ?_ | refine kf ?_ | fail
   ·refine congrArg Dat.lit (congrArg Value.bool ?_)
    rw [A7, DC Val.valid hv hb, Bool.and_false]
   ·apply Ae (i + 1) <;> (try dsimp only) <;> try repeat' first | exact k0 | refine kw ?_ | omega
    exact ⟨by omega, CY _ hv hinv hb⟩
  ·repeat' first | refine kz ?_ | refine AE rfl (fun hb => ?_) (fun hb => ?_) | refine As ?_ | refine kf ?_ | fail
   refine congrArg Dat.lit (congrArg Value.bool ?_)
   rw [Ag (by omega)] at hinv
   simp [A7, hinv, hl]
theorem EU (r : List Val) : PC 74 [.one (BS r)] (.v (.one (.lit (.bool (A7 r))))) := by
 refine Ad hT Tryz.func74 Tryz.ntmps74 [.tmp 2] fun B => ?_
 repeat' first | refine kz ?_ | refine AE rfl (fun hb => ?_) (fun hb => ?_) | refine As ?_ | refine kf ?_ | fail
 ·refine congrArg Dat.lit (congrArg Value.bool ?_)
  simp [A7]
  intros; omega
 ·have hl : r.length ≤ 16 := by omega
  refine AY (X := Nat) ([2, 3] ++ List.range' 7 12) (fun x => x ≤ r.length ∧ (r.take x).all Val.valid = true) (fun x lz => (3, (iC x)) :: lz) (fun x => []) (fun x => r.length - x) (0) ?_ ?_ ?_ ?_
  repeat' first | exact k0 | refine kw ?_ | omega
  ·exact ⟨by simp, by simp⟩
  rintro i c ⟨hi, hinv⟩
  by_cases hlt : i < r.length
  ·obtain ⟨v, hv⟩ := gx hlt
   repeat' first | refine kz ?_ | refine AE rfl (fun hb => ?_) (fun hb => ?_) | refine AT hv ?_ | refine As ?_ | refine Aa (Kx _) ?_ | refine kf ?_ | fail
   ·refine congrArg Dat.lit (congrArg Value.bool ?_)
    rw [A7, DC Val.valid hv hb, Bool.and_false]
   ·apply Ae (i + 1) <;> (try dsimp only) <;> try repeat' first | exact k0 | refine kw ?_ | omega
    exact ⟨by omega, CY _ hv hinv hb⟩
  ·repeat' first | refine kz ?_ | refine AE rfl (fun hb => ?_) (fun hb => ?_) | refine As ?_ | refine kf ?_ | fail
   refine congrArg Dat.lit (congrArg Value.bool ?_)
   rw [Ag (by omega)] at hinv
   simp [A7, hinv, hl]
def Ai : List Val → List Val → Int
 | [], [] => 0
 | [], _ :: _ => -1
 | _ :: _, [] => 1
 | a :: x, b :: y => if a.cmp b = 0 then Ai x y else a.cmp b
theorem Ki (x y : List Val) (h : x = [] ∨ y = []) : Ai x y = GR x.length y.length := by
 rcases h with rfl | rfl
 ·cases y <;> simp [Ai, GR]
 ·cases x <;> simp [Ai, GR]; omega
theorem BC (r s : List Val) : PC 182 [.one (BS r), .one (BS s)] (.v (.one (.lit (.int .i64 (Ai r s))))) := by
 refine Ad hT Tryz.func182 Tryz.ntmps182 [.tmp 4] fun B => ?_
 refine Hy 0 rfl fun hlr => ?_
 refine Hy 1 rfl fun hls => ?_
 simp only [BT, maxLen] at hlr hls
 repeat' first | refine kz ?_ | refine AE rfl (fun hb => ?_) (fun hb => ?_) | refine As ?_ | refine kf ?_ | refine Av rfl rfl (fun hb => ?_) (fun hb => ?_)
 refine AY (X := Nat) (List.range' 4 27) (fun x => x ≤ r.length ∧ x ≤ s.length ∧ Ai r s = Ai (r.drop x) (s.drop x)) (fun x lz => (5, (iC x)) :: lz) (fun x => []) (fun x => r.length - x) (0) ?_ ?_ ?_ ?_
 repeat' first | exact k0 | refine kw ?_ | omega
 ·exact ⟨by simp, by simp, by simp⟩
 rintro i c ⟨hi, hj, hinv⟩
 by_cases hlt : i < r.length ∧ i < s.length
 ·obtain ⟨hlt, hlt2⟩ := hlt
  obtain ⟨a, hv⟩ := gx hlt
  obtain ⟨b, hu⟩ := gx hlt2
  rw [Az hv, Az hu, Ai] at hinv
  repeat' first | refine kz ?_ | refine AE rfl (fun hb => ?_) (fun hb => ?_) | refine AT hv ?_ | refine AT hu ?_ | refine As ?_ | refine Aa (LU _ _) ?_ | refine kf ?_ | refine Av rfl rfl (fun hb => ?_) (fun hb => ?_)
  ·rw [hinv, if_neg hb]
  ·apply Ae (i + 1) <;> (try dsimp only) <;> try repeat' first | exact k0 | refine kw ?_ | omega
   try exact ⟨by omega, by omega, by rw [hinv, if_pos hb]⟩
 ·have he : Ai r s = GR r.length s.length := by
   rw [hinv, Ki _ _ (by simp only [List.drop_eq_nil_iff]; omega)]
   simp only [Gm, GR]
   (repeat' split) <;> omega
  repeat' first | refine kz ?_ | refine AE rfl (fun hb => ?_) (fun hb => ?_) | refine As ?_ | refine kf ?_ | refine Av rfl rfl (fun hb => ?_) (fun hb => ?_)
  all_goals (rw [he, GR])
  all_goals (refine congrArg Dat.lit (congrArg (Value.int _) ?_); (repeat' split) <;> omega)
theorem AN (r s : List Val) : PC 59 [.one (BS r), .one (BS s)] (.v (.one (.lit (.int .i64 (Ai r s))))) := by
 refine Ad hT Tryz.func59 Tryz.ntmps59 [.tmp 4] fun B => ?_
 refine Hy 0 rfl fun hlr => ?_
 refine Hy 1 rfl fun hls => ?_
 simp only [BT, maxLen] at hlr hls
 repeat' first | refine kz ?_ | refine AE rfl (fun hb => ?_) (fun hb => ?_) | refine As ?_ | refine kf ?_ | fail
 have hm : (if (s.length : Int) < r.length then (s.length : Int) else r.length) = (min r.length s.length : Nat) := by
  split <;> omega
 simp only [hm]
 generalize hmn : min r.length s.length = m
 refine AY (X := Nat) ([4, 5, 6] ++ List.range' 12 16) (fun x => x ≤ m ∧ Ai r s = Ai (r.drop x) (s.drop x)) (fun x lz => (12, (iC x)) :: lz) (fun x => []) (fun x => m - x) (0) ?_ ?_ ?_ ?_
 repeat' first | exact k0 | refine kw ?_ | omega
 ·exact ⟨by simp, by simp⟩
 rintro i c ⟨hi, hinv⟩
 by_cases hlt : i < m
 ·obtain ⟨a, hv⟩ := gx (l := r) (i := i) (by omega)
  obtain ⟨b, hu⟩ := gx (l := s) (i := i) (by omega)
  rw [Az hv, Az hu, Ai] at hinv
  repeat' first | refine kz ?_ | refine AE rfl (fun hb => ?_) (fun hb => ?_) | refine AT hv ?_ | refine AT hu ?_ | refine As ?_ | refine Aa (H4 _ _) ?_ | refine kf ?_ | fail
  ·rw [hinv, if_neg hb]
  ·apply Ae (i + 1) <;> (try dsimp only) <;> try repeat' first | exact k0 | refine kw ?_ | omega
   try exact ⟨by omega, by rw [hinv, if_pos hb]⟩
 ·have he : Ai r s = GR r.length s.length := by
   rw [hinv, Ki _ _ (by simp only [List.drop_eq_nil_iff]; omega)]
   simp only [Gm, GR]
   (repeat' split) <;> omega
  repeat' first | refine kz ?_ | refine AE rfl (fun hb => ?_) (fun hb => ?_) | refine As ?_ | refine Aa (OG _ _) ?_ | refine kf ?_ | fail
  all_goals (rw [he])
end Go.Proofs.YtmpgmjlanngkfaaGreat
end
