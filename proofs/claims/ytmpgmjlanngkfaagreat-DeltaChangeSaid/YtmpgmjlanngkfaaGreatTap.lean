/-
  The tape of numbers from which the laws build their arguments.
-/
import Derived.Test.YtmpgmjlanngkfaaGreatLasn
import Derived.Test.YtmpgmjlanngkfaaGreatSrt
import Derived.Test.YtmpgmjlanngkfaaGreatTypes
import Derived.Recover
import Derived.Test.YtmpgmjlanngkfaaGreatOpa
import Derived.Test.YtmpgmjlanngkfaaGreatArz
import Derived.Test.YtmpgmjlanngkfaaGreatDex
section
namespace Go.Proofs.YtmpgmjlanngkfaaGreat
open Go.Abs Go.RowKit
set_option linter.unusedSimpArgs false
variable {x y : Val}
structure CmpOk {α κ : Type} (f : α → α → Int) (key : α → κ) : Prop where
 zero : ∀ a b, f a b = 0 ↔ key a = key b
 anti : ∀ a b, f b a < 0 ↔ 0 < f a b
 trans : ∀ a b c, f a b < 0 → f b c < 0 → f a c < 0
namespace CmpOk
variable {α κ : Type} {f : α → α → Int} {key : α → κ} (h : CmpOk f key)
include h
theorem refl (a : α) : f a a = 0 := (h.zero a a).2 rfl
theorem left {a a' b : α} (e : key a = key a') (hb : f a b < 0) : f a' b < 0 := by
 have h0 := (h.zero a a').2 e
 rcases Int.lt_trichotomy (f a' b) 0 with q | q | q
 ·exact q
 ·have := (h.zero a' b).1 q
  have := (h.zero a b).2 (e.trans this)
  omega
 ·have := h.trans a b a' hb ((h.anti a' b).2 q)
  omega
theorem right {a b b' : α} (e : key b = key b') (hb : f a b < 0) : f a b' < 0 := by
 have h0 := (h.zero b b').2 e
 rcases Int.lt_trichotomy (f a b') 0 with q | q | q
 ·exact q
 ·have := (h.zero a b').1 q
  have := (h.zero a b).2 (this.trans e.symm)
  omega
 ·have := h.trans b' a b ((h.anti a b').2 q) hb
  have := (h.zero b' b).2 e.symm
  omega
theorem swo : Go.Sort.SWO (Go.Proofs.ltOf f) where
 irrefl x := by have := h.refl x; simp [Go.Proofs.ltOf, this]
 trans x y z h1 h2 := by
  simp only [Go.Proofs.ltOf, decide_eq_true_eq] at *
  exact h.trans x y z h1 h2
 ntrans x y z h1 h2 := by
  simp only [Go.Proofs.ltOf, decide_eq_false_iff_not] at *
  intro q
  have hyz : f z y ≤ 0 := by
   by_cases w : 0 < f z y
   ·exact absurd ((h.anti z y).2 w) h2
   ·omega
  rcases Int.lt_or_eq_of_le hyz with w | w
  ·exact h1 (h.trans x z y q w)
  ·exact h1 (h.right ((h.zero z y).1 w) q)
end CmpOk
theorem CmpOk.comp {α β κ : Type} {f : α → α → Int} {key : α → κ} (h : CmpOk f key) (g : β → α) : CmpOk (fun x y => f (g x) (g y)) (fun x => key (g x)) :=
 ⟨fun _ _ => h.zero _ _, fun _ _ => h.anti _ _, fun _ _ _ => h.trans _ _ _⟩
theorem DN {α : Type} {R : α → α → Prop} (qx : ∀ a, ¬ R a a) (y8 : ∀ a b c, R a b → R b c → R a c) : ∀ {l m : List α}, l.Pairwise R → m.Pairwise R → (∀ x, x ∈ l ↔ x ∈ m) → l = m
 | [], [], _, _, _ => rfl
 | [], b :: m, _, _, h => by have := (h b).2 (by simp); simp at this
 | a :: l, [], _, _, h => by have := (h a).1 (by simp); simp at this
 | a :: l, b :: m, hl, hm, h => by
   obtain ⟨l1, l2⟩ := LW.1 hl
   obtain ⟨m1, m2⟩ := LW.1 hm
   have lZ : a = b := by
    rcases FL.1 ((h a).1 (by simp)) with q | q
    ·exact q
    ·rcases FL.1 ((h b).2 (by simp)) with p | p
     ·exact p.symm
     ·exact absurd (y8 _ _ _ (m1 a q) (l1 b p)) (qx b)
   subst lZ
   rw [DN qx y8 l2 m2 fun x => ?_]
   constructor
   ·intro hx
    rcases FL.1 ((h x).1 (by simp [hx])) with q | q
    ·subst q; exact absurd (l1 x hx) (qx x)
    ·exact q
   ·intro hx
    rcases FL.1 ((h x).2 (by simp [hx])) with q | q
    ·subst q; exact absurd (m1 x hx) (qx x)
    ·exact q
theorem M6 : ∀ l : List UInt8, Op.bytesLess l l = false
 | [] => rfl
 | a :: l => by simp [Op.bytesLess, M6 l]
theorem Qv : ∀ {x y z : List UInt8}, Op.bytesLess x y = true → Op.bytesLess y z = true → Op.bytesLess x z = true
 | [], [], _, h, _ => by simp [Op.bytesLess] at h
 | [], _ :: _, [], _, h => by simp [Op.bytesLess] at h
 | [], _ :: _, _ :: _, _, _ => by simp [Op.bytesLess]
 | _ :: _, [], _, h, _ => by simp [Op.bytesLess] at h
 | _ :: _, _ :: _, [], _, h => by simp [Op.bytesLess] at h
 | a :: x, b :: y, c :: z, h1, h2 => by
   have ih := @Qv x y z
   simp only [Op.bytesLess, Va, BM, decide_eq_true_eq, beq_iff_eq, UInt8.lt_iff_toNat_lt] at h1 h2 ⊢
   rcases h1 with h1 | ⟨rfl, h1⟩
   ·rcases h2 with h2 | ⟨rfl, _⟩
    ·exact .inl (by omega)
    ·exact .inl h1
   ·rcases h2 with h2 | ⟨rfl, h2⟩
    ·exact .inl h2
    ·exact .inr ⟨rfl, ih h1 h2⟩
theorem Qw : ∀ {x y : List UInt8}, Op.bytesLess x y = false → Op.bytesLess y x = false → x = y
 | [], [], _, _ => rfl
 | [], _ :: _, h, _ => by simp [Op.bytesLess] at h
 | _ :: _, [], _, h => by simp [Op.bytesLess] at h
 | a :: x, b :: y, h1, h2 => by
   have ih := @Qw x y
   simp only [Op.bytesLess, Bool.or_eq_false_iff, decide_eq_false_iff_not, UInt8.lt_iff_toNat_lt] at h1 h2
   have lZ : a = b := by
    apply UInt8.toNat_inj.1
    omega
   subst lZ
   rw [ih (by simpa using h1.2) (by simpa using h2.2)]
theorem Hz {a b : ByteArray} (h : a.toList = b.toList) : a = b := by
 rw [ByteArray.toList_eq, ByteArray.toList_eq] at h
 cases a; cases b
 simp only at h
 congr 1
 exact Q3 h
theorem G5 : x.same y = true ↔ x = y := by
 constructor
 ·intro h
  simp only [Val.same, BM, beq_iff_eq] at h
  cases x; cases y
  simp only at h
  rw [h.1, h.2.1, Hz h.2.2]
 ·rintro rfl
  simp [Val.same]
theorem G6 (x : Val) : x.less x = false := by
 simp [Val.less, M6]
theorem G7 (hx : x.valid = true) (hy : y.valid = true) : x.less y = true ↔ x.kind < y.kind ∨ (x.kind = y.kind ∧ (x.int < y.int ∨ (x.int = y.int ∧ Op.bytesLess x.text.toList y.text.toList = true))) := by
 simp only [Val.less, Va, BM, decide_eq_true_eq, beq_iff_eq]
 constructor
 ·rintro (h | ⟨h1, h2 | h2⟩)
  ·exact .inl h
  ·exact .inr ⟨h1, .inl h2⟩
  ·by_cases hk : x.kind = 2
   ·exact .inr ⟨h1, .inr ⟨by rw [EA hx (by omega), EA hy (by omega)], h2⟩⟩
   ·rw [Dz hx hk, Dz hy (by omega)] at h2
    simp [Op.bytesLess] at h2
 ·rintro (h | ⟨h1, h2 | ⟨_, h2⟩⟩)
  ·exact .inl h
  ·exact .inr ⟨h1, .inl h2⟩
  ·exact .inr ⟨h1, .inr h2⟩
theorem Lw {z : Val} (hx : x.valid = true) (hy : y.valid = true) (hz : z.valid = true) (h1 : x.less y = true) (h2 : y.less z = true) : x.less z = true := by
 rw [G7 hx hy] at h1
 rw [G7 hy hz] at h2
 rw [G7 hx hz]
 rcases h1 with h1 | ⟨h1, uU | ⟨uU, wG⟩⟩
 ·rcases h2 with h2 | ⟨h2, _⟩
  ·exact .inl (by omega)
  ·exact .inl (by omega)
 ·rcases h2 with h2 | ⟨h2, tf | ⟨tf, _⟩⟩
  ·exact .inl (by omega)
  ·exact .inr ⟨by omega, .inl (by omega)⟩
  ·exact .inr ⟨by omega, .inl (by omega)⟩
 ·rcases h2 with h2 | ⟨h2, tf | ⟨tf, wH⟩⟩
  ·exact .inl (by omega)
  ·exact .inr ⟨by omega, .inl (by omega)⟩
  ·exact .inr ⟨by omega, .inr ⟨by omega, Qv wG wH⟩⟩
theorem RU (hx : x.valid = true) (hy : y.valid = true) (h1 : x.less y = false) (h2 : y.less x = false) : x = y := by
 have n1 : ¬ x.less y = true := by simp [h1]
 have n2 : ¬ y.less x = true := by simp [h2]
 rw [G7 hx hy] at n1
 rw [G7 hy hx] at n2
 have hk : x.kind = y.kind := by omega
 have hi : x.int = y.int := by omega
 have ht : x.text = y.text := by
  apply Hz
  apply Qw
  ·cases hq : Op.bytesLess x.text.toList y.text.toList with
   | false => rfl
   | true => exact absurd (.inr ⟨hk, .inr ⟨hi, hq⟩⟩) n1
  ·cases hq : Op.bytesLess y.text.toList x.text.toList with
   | false => rfl
   | true => exact absurd (.inr ⟨hk.symm, .inr ⟨hi.symm, hq⟩⟩) n2
 cases x; cases y
 simp only at hk hi ht
 rw [hk, hi, ht]
theorem cmp_ok : CmpOk Val.cmp Val.clean := by
 have lt : ∀ a b : Val, a.cmp b < 0 ↔ a.clean.less b.clean = true := by
  intro a b
  unfold Val.cmp
  split
  ·rename_i h
   rw [G5] at h
   rw [h, G6]
   simp
  ·split <;> simp_all
 refine ⟨fun a b => ?_, fun a b => ?_, fun a b c h1 h2 => ?_⟩
 ·rw [← G5]
  unfold Val.cmp
  split
  ·simp_all
  ·split <;> simp_all
 ·rw [lt]
  unfold Val.cmp
  by_cases hs : a.clean = b.clean
  ·rw [if_pos (G5.2 hs), hs, G6]; simp
  ·rw [if_neg (fun q => hs (G5.1 q))]
   split
   ·rename_i h
    constructor
    · intro q
      have := Lw (A3 _) (A3 _) (A3 _) h q
      rw [G6] at this
      cases this
    · intro q; omega
   ·rename_i h
    simp only [Int.reduceLT, iff_true]
    cases hq : b.clean.less a.clean with
    | true => rfl
    | false => exact absurd (RU (A3 _) (A3 _) (by simpa using h) hq) hs
 ·rw [lt] at *
  exact Lw (A3 _) (A3 _) (A3 _) h1 h2
theorem rowCmp_ok : CmpOk Aj (fun r => r.map Val.clean) := by
 have hz : ∀ r s : List Val, Aj r s = 0 ↔ r.map Val.clean = s.map Val.clean := by
   intro r
   induction r with
   | nil => intro s; cases s <;> simp [Aj]
   | cons a r ih =>
     intro s
     cases s with
     | nil => simp [Aj]
     | cons b s =>
       simp only [Aj, List.map_cons, XV]
       by_cases h : a.cmp b = 0
       ·rw [if_pos h, ih s]
        exact ⟨fun q => ⟨(cmp_ok.zero a b).1 h, q⟩, fun q => q.2⟩
       ·rw [if_neg h]
        exact ⟨fun q => absurd q h, fun q => absurd ((cmp_ok.zero a b).2 q.1) h⟩
 have ha : ∀ r s : List Val, Aj s r < 0 ↔ 0 < Aj r s := by
   intro r
   induction r with
   | nil => intro s; cases s <;> simp [Aj]
   | cons a r ih =>
     intro s
     cases s with
     | nil => simp [Aj]
     | cons b s =>
       simp only [Aj]
       by_cases h : a.cmp b = 0
       ·rw [if_pos h, if_pos ((cmp_ok.zero b a).2 ((cmp_ok.zero a b).1 h).symm)]
        exact ih s
       ·rw [if_neg h, if_neg (fun q => h ((cmp_ok.zero a b).2 ((cmp_ok.zero b a).1 q).symm))]
        exact cmp_ok.anti a b
 refine ⟨hz, ha, ?_⟩
 intro r
 induction r with
 | nil =>
   intro s t h1 h2
   cases t with
   | nil => cases s <;> simp [Aj] at h1 h2
   | cons c t => simp [Aj]
 | cons a r ih =>
   intro s t h1 h2
   cases s with
   | nil => simp [Aj] at h1
   | cons b s =>
     cases t with
     | nil => simp [Aj] at h2
     | cons c t =>
       simp only [Aj] at h1 h2 ⊢
       by_cases lZ : a.cmp b = 0
       ·rw [if_pos lZ] at h1
        by_cases qN : b.cmp c = 0
        ·rw [if_pos qN] at h2
         rw [if_pos ((cmp_ok.zero a c).2 (((cmp_ok.zero a b).1 lZ).trans ((cmp_ok.zero b c).1 qN)))]
         exact ih s t h1 h2
        ·rw [if_neg qN] at h2
         have := cmp_ok.left ((cmp_ok.zero a b).1 lZ).symm h2
         rw [if_neg (by omega)]; exact this
       ·rw [if_neg lZ] at h1
        by_cases qN : b.cmp c = 0
        ·have := cmp_ok.right ((cmp_ok.zero b c).1 qN) h1
         rw [if_neg (by omega)]; exact this
        ·rw [if_neg qN] at h2
         have := cmp_ok.trans a b c h1 h2
         rw [if_neg (by omega)]; exact this
def eY {α : Type} (lt : α → α → Bool) (p : α) : List α → List α → List α
 | [], B => p :: B
 | q :: A, B => if lt p q then eY lt p A (q :: B) else A.reverse ++ q :: p :: B
def iR {α : Type} (lt : α → α → Bool) (p : α) (l : List α) : List α := eY lt p l.reverse []
end Go.Proofs.YtmpgmjlanngkfaaGreat
end
section
namespace Go.Proofs.YtmpgmjlanngkfaaGreat
open Go.Abs Go.RowKit
set_option linter.unusedSimpArgs false
set_option maxRecDepth 100000
theorem E3 : DeferOk Tryz.prog 95 0 := by
 refine ⟨⟨_, Tryz.func95, by kernel_rfl, by kernel_rfl⟩, fun vs w hl => ?_⟩
 match vs, hl with
 | [], _ =>
   refine callsD_of_wpS Tryz.func95 rfl fun c₀ cs hu => ?_
   apply wpS_region
   simp [wpOpsS, go_sem, recoverD, hu, Tryz.ntmps95, Exit.thenS]
   cases c₀
   simp_all [bodyPostS, results, Tryz.results95]
end Go.Proofs.YtmpgmjlanngkfaaGreat
end
section
namespace Go.Abs
open Go.RowKit
section
variable {P : Program} {T : TypeId → Option TI} {F0 : Nat → Prop} {w0 : World} {dr : Bool} {ops rest : List Oper} {K : St → Prop} {n : Nat} {sl : List (Nat × SVal)} {mem : List Blk} {ck : Nat} {df : List (FuncId × List Cell)} {acc : List Nat} {d : Tmp} {ty : TypeId} {pos : String} {iU : Array Edge} {g : Option (Nat × Bool)}
section
variable {B : Base} {R : Ex → St → Prop} {ks : List Fr}
def hY (τ0 : St) : Ex → St → Prop
 | .norm, τ => Weak τ τ0
 | _, _ => False
end
section
variable {B : Base} {m1 iW : List Blk} {r r1 : SVal}
end
end
section
variable {P : Program} {T : TypeId → Option TI} {F0 : Nat → Prop} {w0 : World}
variable {dr : Bool} {ops rest : List Oper} {K : St → Prop} {n : Nat} {sl : List (Nat × SVal)} {mem : List Blk} {ck : Nat} {df : List (FuncId × List Cell)} {acc : List Nat}
variable {d : Tmp} {op : Op} {ty : TypeId} {pos : String} {iU : Array Edge} {g : Option (Nat × Bool)}
theorem GX [tc : TC P T] {s ft : TypeId} {f off : Nat} {x : Operand} {i j : TI} {fs : List (Nat × TypeId)} {xs : List Cell} {y : Cell} (h : Reg P F0 w0 dr ops K rest ⟨n, (d, .c y) :: sl, mem, ck, df⟩ (0 :: acc)) (hw : GW ops g sl := by first | exact trivial | exact rfl)
  (hx : AH sl x = .agg xs := by exact rfl) (hs : T s = some i := by exact rfl) (hi : i.desc = .struct fs := by exact rfl) (hf : fs[f]? = some (off, ft) := by exact rfl) (hj : T ft = some j := by exact rfl) (ha : j.desc.agg = false := by exact rfl) (hy : xs[off]? = some y := by exact rfl) :
  Reg P F0 w0 dr ops K (⟨some d, .field s x f, ty, pos, iU, g⟩ :: rest) ⟨n, sl, mem, ck, df⟩ acc :=
 Gp hw (HO fun E w ρ hρ => by
  have e1 := hρ x (by simp [Op.operands])
  rw [hx] at e1
  have hd := (tc.ok s i hs).desc
  rw [hi] at hd
  obtain ⟨fields, hu, mC⟩ := hd
  have kY : ∃ fl, fields[f]? = some fl ∧ fl.offset = off ∧ fl.type = ft := by
    rw [← mC, BU] at hf
    cases hq : fields.toList[f]? with
    | none => rw [hq] at hf; cases hf
    | some fl =>
      rw [hq] at hf
      simp only [Option.map_some, Option.some.injEq, HK] at hf
      exact ⟨fl, by simpa using hq, hf.1, hf.2⟩
  obtain ⟨fl, hf1, rfl, rfl⟩ := kY
  have pO := (tc.ok _ j hj).isAgg (w := w)
  rw [ha] at pO
  generalize wI : ρ x = vx at e1
  cases e1 with
  | agg _ vs hl hd =>
    have i7 := lt_of_getElem? hy
    obtain ⟨v, hv⟩ : ∃ v, vs[fl.offset]? = some v := ⟨_, Bo (by omega)⟩
    refine ⟨v, ?_, .c (hd _ _ _ hv hy)⟩
    simp [execOp, wI, Instr.field, run_underlying hu, hf1, asAgg, part, pO, hv]) h
end
end Go.Abs
end
section
namespace Go.Proofs.YtmpgmjlanngkfaaGreat
open Go.Abs Go.RowKit
attribute [local irreducible] ARun Av MCall PCall HCall Ap SF CF CFs Ag Ai As fin AY VLe
set_option linter.unusedSimpArgs false
set_option maxRecDepth 100000
set_option maxHeartbeats 4000000
structure Trm where
 op : Int
 v : Val
 col : Int
def Trm.d (t : Trm) : List Dat := [.lit (.int .i64 t.op), .lit (.int .i64 t.v.kind), .lit (.int .i64 t.v.int), .lit (.string t.v.text), .lit (.int .i64 t.col)]
def AW (e : List Trm) : Dat := .sl (e.map Trm.d)
def EP (op : Int) : Int :=
 if op = 1 ∨ op = 2 then 0
 else if op = 3 ∨ op = 9 ∨ op = 13 ∨ op = 16 then 1
 else if op = 18 then 3
 else if 1 ≤ op ∧ op ≤ 18 then 2
 else -1
theorem II (op : Int) : -1 ≤ EP op ∧ EP op ≤ 3 := by
 unfold EP
 split
 ·omega
 split
 ·omega
 split
 ·omega
 split <;> omega
theorem N0 (op : Int) : PC 156 [.one (.lit (.int .i64 op))] (.v (.one (.lit (.int .i64 (EP op))))) := by
 refine Ac hT Tryz.func156 Tryz.ntmps156 [.tmp 2] fun B => ?_
 repeat' first | refine kz ?_ | refine Az rfl (fun hb => ?_) (fun hb => ?_) | refine kf ?_ | fail
 all_goals (refine congrArg Dat.lit (congrArg (Value.int _) ?_); unfold EP; simp_all)
 all_goals omega
theorem K6 (op : Int) : PC 72 [.one (.lit (.int .i64 op))] (.v (.one (.lit (.int .i64 (EP op))))) := by
 refine Ac hT Tryz.func72 Tryz.ntmps72 [.tmp 2] fun B => ?_
 repeat' first | refine kz ?_ | refine Az rfl (fun hb => ?_) (fun hb => ?_) | refine Al rfl rfl (fun hb => ?_) (fun hb => ?_) | refine kf ?_ | fail
 all_goals (refine congrArg Dat.lit (congrArg (Value.int _) ?_); unfold EP; simp_all)
 all_goals omega
def Di (t : Trm) : Bool :=
 if t.op = 1 then decide (t.col = 0) && decide (t.v.kind ≠ 0) && t.v.valid
 else if t.op = 2 then decide (0 ≤ t.col) && t.v.same Val.null
 else decide (t.col = 0) && t.v.same Val.null
def C6 (t : Trm) : Bool := decide (0 ≤ EP t.op) && Di t
theorem PO (v : Val) : v.same Val.null = ((v.kind == 0) && ((v.int == 0) && v.text.toList.isEmpty)) := by
 rw [Val.same, ← FJ]; rfl
theorem Kn (a b : Int) : (a == b) = decide (a = b) := by
 rw [Q2]; simp
theorem PQ (t : Trm) : PC 265 [.agg t.d] (.v (.one (.lit (.bool (Di t))))) := by
 have h1 := Io t.v
 refine Ac hT Tryz.func265 Tryz.ntmps265 [.tmp 2] fun B => ?_
 repeat' first | refine kz ?_ | refine Az rfl (fun hb => ?_) (fun hb => ?_) | refine Aa (h1) ?_ | refine Al rfl rfl (fun hb => ?_) (fun hb => ?_) | refine kf ?_ | fail
 all_goals (refine congrArg Dat.lit (congrArg Value.bool ?_); unfold Di; simp_all [PO, FJ, Cy, JH])
 all_goals exact Kn _ _
theorem PR (t : Trm) : PC 203 [.agg t.d] (.v (.one (.lit (.bool (C6 t))))) := by
 have h1 := Ks t.v
 have h2 := N0 t.op
 refine Ac hT Tryz.func203 Tryz.ntmps203 [.tmp 2] fun B => ?_
 repeat' first | refine kz ?_ | refine Az rfl (fun hb => ?_) (fun hb => ?_) | refine Aa (h1) ?_ | refine Aa (h2) ?_ | refine Al rfl rfl (fun hb => ?_) (fun hb => ?_) | refine kf ?_ | fail
 all_goals (refine congrArg Dat.lit (congrArg Value.bool ?_); unfold C6 Di; simp_all [PO, FJ, Cy, JH])
 all_goals first | exact Kn _ _ | (intros; omega)
structure Entry where
 row : List Val
 count : Int
def Entry.d (e : Entry) : List Dat := [A0 e.row, .lit (.int .i64 e.count)]
def Ak (l : List Entry) : Dat := .sl (l.map Entry.d)
def AD (n : Int) : Bool := decide (-262144 ≤ n) && decide (n ≤ 262144)
def Entry.ok (e : Entry) : Bool := AR e.row && AD e.count && decide (e.count ≠ 0)
def goodFrom : Option Entry → List Entry → Bool
 | _, [] => true
 | p, e :: l => e.ok && (match p with | none => true | some q => decide (Aj q.row e.row < 0)) && goodFrom (some e) l
def Am (l : List Entry) : Bool := decide (l.length ≤ 4096) && goodFrom none l
def C3 (l : List Entry) (i : Nat) : Option Entry := if i = 0 then none else l[i - 1]?
theorem Dy (n : Int) : PC 75 [.one (.lit (.int .i64 n))] (.v (.one (.lit (.bool (AD n))))) := by
 refine Ac hT Tryz.func75 Tryz.ntmps75 [.tmp 2] fun B => ?_
 repeat' first | refine kz ?_ | refine Al rfl rfl (fun hb => ?_) (fun hb => ?_) | refine kf ?_ | fail
 all_goals (refine congrArg Dat.lit (congrArg Value.bool ?_); simp_all [AD]; try omega)
theorem Mq (n : Int) : PC 150 [.one (.lit (.int .i64 n))] (.v (.one (.lit (.bool (AD n))))) := by
 refine Ac hT Tryz.func150 Tryz.ntmps150 [.tmp 2] fun B => ?_
 repeat' first | refine kz ?_ | refine Al rfl rfl (fun hb => ?_) (fun hb => ?_) | refine kf ?_ | fail
 all_goals (refine congrArg Dat.lit (congrArg Value.bool ?_); simp_all [AD]; try omega)
theorem Em (e : Entry) : PC 96 [.agg e.d] (.v (.one (.lit (.bool (AD e.count && AR e.row))))) := by
 refine Ac hT Tryz.func96 Tryz.ntmps96 [.tmp 2] fun B => ?_
 repeat' first | refine kz ?_ | refine Aa (Mq _) ?_ | refine Aa (R2 _) ?_ | refine Al rfl rfl (fun hb => ?_) (fun hb => ?_) | refine kf ?_ | fail
 all_goals (refine congrArg Dat.lit (congrArg Value.bool ?_); simp_all)
theorem Mr {l : List Entry} {i : Nat} {e : Entry} (h : l[i]? = some e) : goodFrom (C3 l i) (l.drop i) = (e.ok && (match C3 l i with | none => true | some q => decide (Aj q.row e.row < 0)) && goodFrom (C3 l (i + 1)) (l.drop (i + 1))) := by
 rw [AB h, goodFrom.eq_def]
 have : C3 l (i + 1) = some e := by simp [C3, h]
 rw [this]
set_option maxHeartbeats 1000000 in
theorem Ck (l : List Entry) : PC 47 [.one (Ak l)] (.v (.one (.lit (.bool (Am l))))) := by
 refine Ac hT Tryz.func47 Tryz.ntmps47 [.tmp 2] fun B => ?_
 repeat' first | refine kz ?_ | refine Az rfl (fun hb => ?_) (fun hb => ?_) | refine Ao ?_ | refine kf ?_ | refine Al rfl rfl (fun hb => ?_) (fun hb => ?_) | refine Bg (by repeat (first | exact Ad | refine Aq E3 ?_)) ?_
 ·refine congrArg Dat.lit (congrArg Value.bool ?_)
  simp [Am]
  intros; omega
 ·have hl : l.length ≤ 4096 := by omega
  refine AK (X := Nat) ([2, 3, 4] ++ List.range' 10 28) (fun x => x ≤ l.length ∧ goodFrom none l = goodFrom (C3 l x) (l.drop x)) (fun x lz => (10, (iC x)) :: lz) (fun x => []) (fun x => l.length - x) (0) ?_ ?_ ?_ ?_
  repeat' first | exact k0 | refine kw ?_ | omega
  ·exact ⟨by simp, by simp [C3]⟩
  rintro i c ⟨hi, hinv⟩
  by_cases i7 : i < l.length
  ·obtain ⟨e, hv⟩ := gx i7
   rw [Mr hv] at hinv
   rcases i with _ | j
   ·have hp : C3 l 0 = none := rfl
    rw [hp] at hinv
    repeat' first | refine kz ?_ | refine Az rfl (fun hb => ?_) (fun hb => ?_) | refine AF hv ?_ | refine Ao ?_ | refine Aa (Em _) ?_ | refine Aa (Bm _ _) ?_ | refine kf ?_ | refine Al rfl rfl (fun hb => ?_) (fun hb => ?_) | refine Bg (by repeat (first | exact Ad | refine Aq E3 ?_)) ?_
    all_goals first
     | (refine congrArg Dat.lit (congrArg Value.bool ?_); simp only [Am, hinv, Entry.ok]; cases h1 : AR e.row <;> cases h2 : AD e.count <;> simp_all <;> done)
     | (refine congrArg Dat.lit (congrArg Value.bool ?_); simp only [Am, hinv]; simp; intros; omega)
     | ((apply Af (1); all_goals (try dsimp only); all_goals (try (repeat' (first | exact k0 | refine kw ?_ | omega)))); (try exact ⟨by omega, by rw [hinv]; simp_all [Entry.ok]⟩))
   ·obtain ⟨p, hu⟩ := gx (l := l) (i := j) (by omega)
    have hp : C3 l (j + 1) = some p := by simp [C3, hu]
    rw [hp] at hinv
    repeat' first | refine kz ?_ | refine Az rfl (fun hb => ?_) (fun hb => ?_) | refine AF hv ?_ | refine AF hu ?_ | refine Ao ?_ | refine Aa (Em _) ?_ | refine Aa (Bm _ _) ?_ | refine kf ?_ | refine Al rfl rfl (fun hb => ?_) (fun hb => ?_) | refine Bg (by repeat (first | exact Ad | refine Aq E3 ?_)) ?_
    all_goals first
     | (refine congrArg Dat.lit (congrArg Value.bool ?_); simp only [Am, hinv, Entry.ok]; cases h1 : AR e.row <;> cases h2 : AD e.count <;> simp_all <;> done)
     | (refine congrArg Dat.lit (congrArg Value.bool ?_); simp only [Am, hinv]; simp; intros; omega)
     | ((apply Af (j + 1 + 1); all_goals (try dsimp only); all_goals (try (repeat' (first | exact k0 | refine kw ?_ | omega)))); (try exact ⟨by omega, by rw [hinv]; simp_all [Entry.ok]⟩))
  ·repeat' first | refine kz ?_ | refine Az rfl (fun hb => ?_) (fun hb => ?_) | refine Ao ?_ | refine kf ?_ | refine Al rfl rfl (fun hb => ?_) (fun hb => ?_) | refine Bg (by repeat (first | exact Ad | refine Aq E3 ?_)) ?_
   refine congrArg Dat.lit (congrArg Value.bool ?_)
   rw [R9 (by omega)] at hinv
   simp [Am, hinv, hl, goodFrom]
set_option maxHeartbeats 1000000 in
theorem Bz (l : List Entry) : PC 134 [.one (Ak l)] (.v (.one (.lit (.bool (Am l))))) := by
 refine Ac hT Tryz.func134 Tryz.ntmps134 [.tmp 2] fun B => ?_
 repeat' first | refine kz ?_ | refine Az rfl (fun hb => ?_) (fun hb => ?_) | refine Ao ?_ | refine kf ?_ | refine Al rfl rfl (fun hb => ?_) (fun hb => ?_)
 ·refine congrArg Dat.lit (congrArg Value.bool ?_)
  simp [Am]
  intros; omega
 ·have hl : l.length ≤ 4096 := by omega
  refine AK (X := Nat) ([2, 3] ++ List.range' 7 49) (fun x => x ≤ l.length ∧ goodFrom none l = goodFrom (C3 l x) (l.drop x)) (fun x lz => (3, (iC x)) :: lz) (fun x => []) (fun x => l.length - x) (0) ?_ ?_ ?_ ?_
  repeat' first | exact k0 | refine kw ?_ | omega
  ·exact ⟨by simp, by simp [C3]⟩
  rintro i c ⟨hi, hinv⟩
  by_cases i7 : i < l.length
  ·obtain ⟨e, hv⟩ := gx i7
   rw [Mr hv] at hinv
   rcases i with _ | j
   ·have hp : C3 l 0 = none := rfl
    rw [hp] at hinv
    repeat' first | refine kz ?_ | refine Az rfl (fun hb => ?_) (fun hb => ?_) | refine AF hv ?_ | refine Ao ?_ | refine Aa (CY _) ?_ | refine Aa (Dy _) ?_ | refine Aa (Bd _ _) ?_ | refine kf ?_ | refine Al rfl rfl (fun hb => ?_) (fun hb => ?_)
    all_goals first
     | (refine congrArg Dat.lit (congrArg Value.bool ?_); simp only [Am, hinv, Entry.ok]; cases h1 : AR e.row <;> cases h2 : AD e.count <;> simp_all <;> done)
     | (refine congrArg Dat.lit (congrArg Value.bool ?_); simp only [Am, hinv]; simp; intros; omega)
     | ((apply Af (1); all_goals (try dsimp only); all_goals (try (repeat' (first | exact k0 | refine kw ?_ | omega)))); (try exact ⟨by omega, by rw [hinv]; simp_all [Entry.ok]⟩))
   ·obtain ⟨p, hu⟩ := gx (l := l) (i := j) (by omega)
    have hp : C3 l (j + 1) = some p := by simp [C3, hu]
    rw [hp] at hinv
    repeat' first | refine kz ?_ | refine Az rfl (fun hb => ?_) (fun hb => ?_) | refine AF hv ?_ | refine AF hu ?_ | refine Ao ?_ | refine Aa (CY _) ?_ | refine Aa (Dy _) ?_ | refine Aa (Bd _ _) ?_ | refine kf ?_ | refine Al rfl rfl (fun hb => ?_) (fun hb => ?_)
    all_goals first
     | (refine congrArg Dat.lit (congrArg Value.bool ?_); simp only [Am, hinv, Entry.ok]; cases h1 : AR e.row <;> cases h2 : AD e.count <;> simp_all <;> done)
     | (refine congrArg Dat.lit (congrArg Value.bool ?_); simp only [Am, hinv]; simp; intros; omega)
     | ((apply Af (j + 1 + 1); all_goals (try dsimp only); all_goals (try (repeat' (first | exact k0 | refine kw ?_ | omega)))); (try exact ⟨by omega, by rw [hinv]; simp_all [Entry.ok]⟩))
  ·repeat' first | refine kz ?_ | refine Az rfl (fun hb => ?_) (fun hb => ?_) | refine Ao ?_ | refine kf ?_ | refine Al rfl rfl (fun hb => ?_) (fun hb => ?_)
   refine congrArg Dat.lit (congrArg Value.bool ?_)
   rw [R9 (by omega)] at hinv
   simp [Am, hinv, hl, goodFrom]
end Go.Proofs.YtmpgmjlanngkfaaGreat
end
section
namespace Go.Proofs.YtmpgmjlanngkfaaGreat
open Go.Abs Go.RowKit
set_option linter.unusedSimpArgs false
set_option maxRecDepth 100000
set_option maxHeartbeats 4000000
section
variable {P : Program} {T : TypeId → Option TI} {B : Base} {n : Nat} {sl : List (Nat × SVal)} {mem iW m1 : List Blk} {ck : Nat} {df : List (FuncId × List Cell)} {r1 r : SVal}
theorem CM {a t rr k o : Nat} {i : TI} {cs mb : List Cell} (hd : Ag P df) (h : As mem m1) (ha : AM (.agg mb) r) (hk : Lc mem iW 0 := by repeat' (first | exact trivial | refine And.intro rfl ?_ | refine And.intro trivial ?_)) (hl : Abs.look sl a = .c (.bp rr k o) := by exact rfl) (jn : mem[rr]? = some (.box k cs) := by exact rfl) (ht : T t = some i := by exact rfl) (pO : i.desc.agg = true := by exact rfl) (hs : decide (o + i.size ≤ cs.length) = true := by exact rfl) (jF : (cs.drop o).take i.size = mb := by repeat' (first | exact A6 rfl | apply AG rfl)) (hr : r1.up id (CK mem) = r := by exact rfl) (hm : Gj id (CK mem) iW 0 = m1 := by repeat' (first | exact A6 rfl | apply AG rfl)) : Av P B (AY P T [.cell a t] (fun r m _ => HR m iW r r1)) [] .ret ⟨n, sl, mem, ck, df⟩ := by
 subst jF
 refine ⟨hd, ?_⟩
 simp only [TZ, Ap, St.get, hl, Du, ht, pO, jn]
 refine ⟨.inl trivial, trivial, by simpa using hs, ?_⟩
 exact SX hm hr h ha hk
end
attribute [local irreducible] ARun Av MCall PCall HCall Ap SF CF CFs Ag Ai As fin AY VLe
set_option linter.unusedSimpArgs false
set_option maxRecDepth 100000
set_option maxHeartbeats 4000000
def iD (n : Int) : List Dat := [.lit (.int .i64 n)]
def Ds (l : List Int) : Dat := .sl (l.map iD)
structure Tape where
 l : List Int
 at_ : Nat
structure Tape.ok (t : Tape) : Prop where
 len : t.l.length ≤ 17592186044416
 pos : t.at_ ≤ 4 * t.l.length
def Tape.raw (t : Tape) : Int :=
 let x := t.l.getD (t.at_ % t.l.length) 0
 if 0 < t.at_ / t.l.length then Lu .i64 (CQ .i64 x ((t.at_ / t.l.length : Nat) : Int)) ((t.at_ / t.l.length : Nat) : Int) else x
def Tape.stop (t : Tape) (n : Int) : Prop := n < 2 ∨ t.l.length = 0 ∨ 4 * t.l.length ≤ t.at_
instance (t : Tape) (n : Int) : Decidable (t.stop n) := by unfold Tape.stop; infer_instance
def Tape.nx (t : Tape) (n : Int) : Int := if t.stop n then 0 else ((t.raw).tmod n + n).tmod n
def Tape.go (t : Tape) (n : Int) : Tape := if t.stop n then t else ⟨t.l, t.at_ + 1⟩
theorem Tape.nx_bd (t : Tape) (n : Int) : 0 ≤ t.nx n ∧ (t.nx n < n ∨ t.nx n = 0) := by
 unfold Tape.nx
 split
 ·exact ⟨by omega, .inr rfl⟩
 ·rename_i h
  have hn : 2 ≤ n := by unfold Tape.stop at h; omega
  have h1 : -n < (t.raw).tmod n := Int.lt_tmod_of_pos _ (by omega)
  have h2 : 0 ≤ (t.raw).tmod n + n := by omega
  rw [Int.tmod_eq_emod_of_nonneg h2]
  exact ⟨Int.emod_nonneg _ (by omega), .inl (Int.emod_lt_of_pos _ (by omega))⟩
theorem Tape.ok.go {t : Tape} (h : t.ok) (n : Int) : (t.go n).ok := by
 unfold Tape.go
 split
 ·exact h
 ·rename_i hs
  unfold Tape.stop at hs
  exact ⟨h.len, by have := h.pos; simp only; omega⟩
theorem fh (z : Int) : IntKind.u64.wrap z = z % 18446744073709551616 := by
 simp only [IntKind.wrap, IntKind.signed, IntKind.bits]
 simp
theorem Zn (z : Int) : 0 ≤ IntKind.u64.wrap z := by rw [fh]; omega
theorem Zo {z : Int} (h1 : 0 ≤ z) (h2 : z < 18446744073709551616) : IntKind.u64.wrap z = z := by rw [fh]; omega
theorem Ee (t : Tape) (n : Int) (ht : t.ok) (hn : n ≤ 1099511627776) (lX : -1099511627776 ≤ n) : HC 30 [.c (.bp 0 0 0), .c (.d (.lit (.int .i64 n)))] [(.box 0 [.d (Ds (t).l), .d (.lit (.int .i64 (t).at_))])] (iC (t.nx n)) [(.box 0 [.d (Ds (t.go n).l), .d (.lit (.int .i64 (t.go n).at_))])] := by
 obtain ⟨l, at_⟩ := t
 obtain ⟨hl, lI⟩ := ht
 dsimp only at hl lI
 by_cases h1 : n < 2
 ·have e : (Tape.mk l at_).stop n := .inl h1
  have e1 : (Tape.mk l at_).nx n = 0 := if_pos e
  have e2 : (Tape.mk l at_).go n = ⟨l, at_⟩ := if_pos e
  rw [e1, e2]
  change HCall _ _ _ [.box 0 [.d (Ds l), .d (.lit (.int .i64 at_))]] _ [.box 0 [.d (Ds l), .d (.lit (.int .i64 at_))]]
  refine Au hT Tryz.func30 Tryz.ntmps30 [.tmp 4] fun B => ?_
  repeat' first | refine kz ?_ | refine Az rfl (fun hb => ?_) (fun hb => ?_) | refine Ao ?_ | refine kf ?_ | refine kg ?_ ?_ | exact k0 | refine Ab ?_ | refine WJ rfl ?_
 by_cases h2 : l.length = 0
 ·have e : (Tape.mk l at_).stop n := .inr (.inl h2)
  have e1 : (Tape.mk l at_).nx n = 0 := if_pos e
  have e2 : (Tape.mk l at_).go n = ⟨l, at_⟩ := if_pos e
  rw [e1, e2]
  change HCall _ _ _ [.box 0 [.d (Ds l), .d (.lit (.int .i64 at_))]] _ [.box 0 [.d (Ds l), .d (.lit (.int .i64 at_))]]
  refine Au hT Tryz.func30 Tryz.ntmps30 [.tmp 4] fun B => ?_
  repeat' first | refine kz ?_ | refine Az rfl (fun hb => ?_) (fun hb => ?_) | refine Ao ?_ | refine kf ?_ | refine kg ?_ ?_ | exact k0 | refine Ab ?_ | refine WJ rfl ?_
 by_cases h3 : 4 * l.length ≤ at_
 ·have e : (Tape.mk l at_).stop n := .inr (.inr h3)
  have e1 : (Tape.mk l at_).nx n = 0 := if_pos e
  have e2 : (Tape.mk l at_).go n = ⟨l, at_⟩ := if_pos e
  rw [e1, e2]
  change HCall _ _ _ [.box 0 [.d (Ds l), .d (.lit (.int .i64 at_))]] _ [.box 0 [.d (Ds l), .d (.lit (.int .i64 at_))]]
  refine Au hT Tryz.func30 Tryz.ntmps30 [.tmp 4] fun B => ?_
  repeat' first | refine kz ?_ | refine Az rfl (fun hb => ?_) (fun hb => ?_) | refine Ao ?_ | refine kf ?_ | refine kg ?_ ?_ | exact k0 | refine Ab ?_ | refine WJ rfl ?_
 have e : ¬ (Tape.mk l at_).stop n := by rintro (q | q | q); exact h1 q; exact h2 q; exact h3 q
 have e1 : (Tape.mk l at_).nx n = (((Tape.mk l at_).raw).tmod n + n).tmod n := if_neg e
 have e2 : (Tape.mk l at_).go n = ⟨l, at_ + 1⟩ := if_neg e
 rw [e1, e2]
 have rf : (at_ : Int).tmod l.length = ((at_ % l.length : Nat) : Int) := by rw [Int.tmod_eq_emod_of_nonneg (by omega)]; rfl
 have ht2 : (at_ : Int).tdiv l.length = ((at_ / l.length : Nat) : Int) := by rw [Int.tdiv_eq_ediv_of_nonneg (by omega)]; rfl
 have mK : at_ % l.length < l.length := ZI _ (by omega)
 have lR : at_ / l.length ≤ 4 := by
  have : at_ / l.length < 5 := dS (by omega)
  omega
 have hv : l[at_ % l.length]? = some l[at_ % l.length] := Bo mK
 have wJ : (Tape.mk l at_).raw = if 0 < at_ / l.length then Lu .i64 (CQ .i64 l[at_ % l.length] ((at_ / l.length : Nat) : Int)) ((at_ / l.length : Nat) : Int) else l[at_ % l.length] := by
  unfold Tape.raw
  simp only [QW, hv, U4]
 rw [wJ]
 generalize l[at_ % l.length] = x at hv
 change HCall _ _ _ [.box 0 [.d (Ds l), .d (.lit (.int .i64 at_))]] _ [.box 0 [.d (Ds l), .d (.lit (.int .i64 (at_ + 1 : Nat)))]]
 refine Au hT Tryz.func30 Tryz.ntmps30 [.tmp 4] fun B => ?_
 have uj : ∀ y : Int, IntKind.i64.wrap (y.tmod n + n) = y.tmod n + n := fun y => by
  have q1 : -n < y.tmod n := Int.lt_tmod_of_pos _ (by omega)
  have q2 : y.tmod n < n := Int.tmod_lt_of_pos _ (by omega)
  exact BW (by omega) (by omega)
 repeat' first | refine kz ?_ | refine Az rfl (fun hb => ?_) (fun hb => ?_) | refine AF hv ?_ | refine Ao ?_ | refine Xj ?_ (hb := Zn _) | refine kf ?_ | refine kg ?_ ?_ | exact k0 | refine Ab ?_ | refine WJ rfl ?_
 ·rw [uj, Zo (by omega) (by omega), if_pos (by omega)]
 ·rw [uj, if_neg (by omega)]
def Val.ofText (s : ByteArray) : Val := (Val.mk 2 0 s).clean
theorem HA (s : ByteArray) : PC 129 [.one (.lit (.string s))] (.v (.agg (Val.ofText s).d)) := by
 have h := Gf ⟨2, 0, s⟩
 refine Ac hT Tryz.func129 Tryz.ntmps129 [.cell 2 73] fun B => ?_
 repeat' first | refine kz ?_ | refine Aa (h) ?_ | refine kh ?_ ?_ | exact ⟨⟩ | fail
 all_goals rfl
theorem fj (l : List Int) (hl : l.length ≤ 17592186044416) : HC 9 [.c (.d (Ds l))] [] (.c (.bp 1 1 0)) [.dead, .box 1 [.d (Ds l), .d (.lit (.int .i64 (0 : Nat)))]] := by
 have hf : List.take l.length (l.map iD) = l.map iD := Ah (by simp)
 refine Au hT Tryz.func9 Tryz.ntmps9 [.tmp 2] fun B => ?_
 repeat' first | refine GK 5 rfl rfl (by simp) hf rfl ?_ | refine kz ?_ | refine AO Ad ?_ ?_ | exact k0 | refine Ab ?_
def shortVals : List Val := [Val.null, Val.ofInt 1, Val.ofInt 2, Val.ofInt 3, Val.ofText ⟨#[97]⟩, Val.ofText ⟨#[98]⟩]
def Tape.short (t : Tape) : Val := shortVals.getD (t.nx 6).toNat Val.null
theorem Zp (t : Tape) (ht : t.ok) : HC 73 [.c (.bp 0 0 0)] [(.box 0 [.d (Ds (t).l), .d (.lit (.int .i64 (t).at_))])] (.agg (t.short.d.map .d)) [(.box 0 [.d (Ds (t.go 6).l), .d (.lit (.int .i64 (t.go 6).at_))])] := by
 have hn := Ee t 6 ht (by omega) (by omega)
 obtain ⟨b1, b2⟩ := t.nx_bd 6
 have hv : shortVals[(t.nx 6).toNat]? = some t.short := by
  unfold Tape.short
  rw [QW, Bo (by simp [shortVals]; omega)]; rfl
 have jN : (shortVals.map Val.d)[(t.nx 6).toNat]? = some t.short.d := by rw [BU, hv]; rfl
 have i1 := Bw 1
 have i2 := Bw 2
 have i3 := Bw 3
 generalize t.nx 6 = z at hn b1 b2 hv jN
 generalize t.go 6 = t' at hn
 refine Au hT Tryz.func73 Tryz.ntmps73 [.cell 2 73] fun B => ?_
 repeat' first | refine kz ?_ | refine AF jN ?_ | refine Ao ?_ | refine Aa (i1) ?_ | refine Aa (i2) ?_ | refine Aa (i3) ?_ | refine Aa (HA _) ?_ | refine Ae [0] (hn) ?_ | refine CM Ad ?_ ?_ | exact k0 | refine Ab ?_
abbrev tB (t : Tape) : Blk := .box 0 [.d (Ds t.l), .d (.lit (.int .i64 t.at_))]
end Go.Proofs.YtmpgmjlanngkfaaGreat
end
