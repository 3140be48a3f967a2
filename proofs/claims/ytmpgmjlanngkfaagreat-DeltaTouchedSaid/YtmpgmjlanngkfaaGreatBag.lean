/-
  Bags: when a list of entries is one.
-/
import Derived.Test.YtmpgmjlanngkfaaGreatMpc
import Derived.Recover
import Derived.Test.YtmpgmjlanngkfaaGreatByt
import Derived.Test.YtmpgmjlanngkfaaGreatLast
import Derived.Test.YtmpgmjlanngkfaaGreatOrd
import Derived.Test.YtmpgmjlanngkfaaGreatRowc
section
namespace Go.Proofs.YtmpgmjlanngkfaaGreat
open Go.Abs Go.RowKit
set_option linter.unusedSimpArgs false
set_option maxRecDepth 100000
theorem EF : DeferOk Tryz.prog 95 0 := by
 refine ⟨⟨_, Tryz.func95, by kernel_rfl, by kernel_rfl⟩, fun vs w hl => ?_⟩
 match vs, hl with
 | [], _ =>
   refine callsD_of_wpS Tryz.func95 rfl fun c₀ cs hu => ?_
   apply wpS_region
   simp [wpOpsS, go_sem, recoverD, hu, Tryz.ntmps95, Exit.thenS]
   cases c₀
   simp_all [bodyPostS, results, Tryz.results95]
end Go.Proofs.YtmpgmjlanngkfaaGreat
end
section
namespace Go.Abs
open Go.RowKit
section
variable {P : Program} {T : TypeId → Option TI} {F0 : Nat → Prop} {w0 : World} {dr : Bool} {ops rest : List Oper} {K : St → Prop} {n : Nat} {sl : List (Nat × SVal)} {mem : List Blk} {ck : Nat} {df : List (FuncId × List Cell)} {acc : List Nat} {d : Tmp} {ty : TypeId} {pos : String} {aft : Array Edge} {g : Option (Nat × Bool)}
section
variable {B : Base} {R : Ex → St → Prop} {ks : List Fr}
def ay (τ0 : St) : Ex → St → Prop
 | .norm, τ => Weak τ τ0
 | _, _ => False
end
section
variable {B : Base} {m1 mem1 : List Blk} {r r1 : SVal}
end
end
section
variable {P : Program} {T : TypeId → Option TI} {t : TypeId} {i : TI} {xs : List Dat}
theorem TS (hT : AB P T) (ht : T t = some i) : P.bytesOf t = i.bytes := by
 obtain ⟨f, z, h1, _, h3, _⟩ := (hT t i ht).info
 simp [Program.bytesOf, h1, h3]
def Y1 (z : Int) : Prop := -9223372036854775808 ≤ z ∧ z ≤ 9223372036854775807
theorem Xz (hT : AB P T) (ht : T t = some i) (hi : i.desc = .int .i64) (h : Yc P t xs) : ∃ z, xs = [.lit (.int .i64 z)] ∧ Y1 z := by
 have hu := (hT t i ht).desc
 rw [hi] at hu
 obtain ⟨n, h⟩ := h
 cases n with
 | zero => exact h.elim
 | succ n =>
   simp only [Lr, show P.underlying t = some (.int .i64) from hu] at h
   obtain ⟨z, h1, h2⟩ := h
   refine ⟨z, h1, ?_⟩
   simpa [Lit.wf, IntKind.min, IntKind.max, IntKind.signed, IntKind.bits, Y1] using h2
theorem TT (hT : AB P T) {e : TypeId} {ei : TI} (ht : T t = some i) (hi : i.desc = .slice e) (he : T e = some ei) (h : Yc P t xs) : ∃ es, xs = [.sl es] ∧ es.length * ei.bytes ≤ reachBytes ∧ ∀ el ∈ es, Yc P e el := by
 have hu := (hT t i ht).desc
 rw [hi] at hu
 obtain ⟨n, h⟩ := h
 cases n with
 | zero => exact h.elim
 | succ n =>
   simp only [Lr, show P.underlying t = some (.slice e) from hu] at h
   obtain ⟨es, h1, h2, h3⟩ := h
   rw [TS hT he] at h2
   exact ⟨es, h1, h2, fun el hel => ⟨n, h3 el hel⟩⟩
theorem LD {α : Type} {f : α → List Dat} {Q : α → Prop} : ∀ (es : List (List Dat)), (∀ el ∈ es, ∃ a, el = f a ∧ Q a) → ∃ l : List α, es = l.map f ∧ ∀ a ∈ l, Q a
 | [], _ => ⟨[], rfl, by simp⟩
 | e :: es, h => by
   obtain ⟨a, rfl, ha⟩ := h e (by simp)
   obtain ⟨l, rfl, hl⟩ := LD es (fun el hel => h el (by simp [hel]))
   exact ⟨a :: l, rfl, fun b hb => by rcases Dp.1 hb with rfl | hb; exact ha; exact hl b hb⟩
end
end Go.Abs
end
section
namespace Go.Proofs.YtmpgmjlanngkfaaGreat
open Go.Abs Go.RowKit
attribute [local irreducible] ARun Aq MCall PCall HCall Am SF CF CFs Af Al Ap B5 AW VLe
set_option linter.unusedSimpArgs false
set_option maxRecDepth 100000
set_option maxHeartbeats 4000000
structure Trm where
 op : Int
 v : Val
 col : Int
def Trm.d (t : Trm) : List Dat := [.lit (.int .i64 t.op), .lit (.int .i64 t.v.kind), .lit (.int .i64 t.v.int), .lit (.string t.v.text), .lit (.int .i64 t.col)]
def BR (e : List Trm) : Dat := .sl (e.map Trm.d)
def FK (op : Int) : Int :=
 if op = 1 ∨ op = 2 then 0
 else if op = 3 ∨ op = 9 ∨ op = 13 ∨ op = 16 then 1
 else if op = 18 then 3
 else if 1 ≤ op ∧ op ≤ 18 then 2
 else -1
theorem Mb (op : Int) : -1 ≤ FK op ∧ FK op ≤ 3 := by
 unfold FK
 split
 ·omega
 split
 ·omega
 split
 ·omega
 split <;> omega
theorem Mc (op : Int) : PC 156 [.one (.lit (.int .i64 op))] (.v (.one (.lit (.int .i64 (FK op))))) := by
 refine Ad hT Tryz.func156 Tryz.ntmps156 [.tmp 2] fun B => ?_
 repeat' first | refine kz ?_ | refine AE rfl (fun hb => ?_) (fun hb => ?_) | refine kf ?_ | fail
 all_goals (refine congrArg Dat.lit (congrArg (Value.int _) ?_); unfold FK; simp_all)
 all_goals omega
theorem Pn (op : Int) : PC 72 [.one (.lit (.int .i64 op))] (.v (.one (.lit (.int .i64 (FK op))))) := by
 refine Ad hT Tryz.func72 Tryz.ntmps72 [.tmp 2] fun B => ?_
 repeat' first | refine kz ?_ | refine AE rfl (fun hb => ?_) (fun hb => ?_) | refine Av rfl rfl (fun hb => ?_) (fun hb => ?_) | refine kf ?_ | fail
 all_goals (refine congrArg Dat.lit (congrArg (Value.int _) ?_); unfold FK; simp_all)
 all_goals omega
def HB (t : Trm) : Bool :=
 if t.op = 1 then decide (t.col = 0) && decide (t.v.kind ≠ 0) && t.v.valid
 else if t.op = 2 then decide (0 ≤ t.col) && t.v.same Val.null
 else decide (t.col = 0) && t.v.same Val.null
def Ep (t : Trm) : Bool := decide (0 ≤ FK t.op) && HB t
theorem S5 (v : Val) : v.same Val.null = ((v.kind == 0) && ((v.int == 0) && v.text.toList.isEmpty)) := by
 rw [Val.same, ← GJ]; rfl
theorem Qo (a b : Int) : (a == b) = decide (a = b) := by
 rw [Wu]; simp
theorem N4 (t : Trm) : PC 203 [.agg t.d] (.v (.one (.lit (.bool (Ep t))))) := by
 have h1 := Jg t.v
 have h2 := Mc t.op
 refine Ad hT Tryz.func203 Tryz.ntmps203 [.tmp 2] fun B => ?_
 repeat' first | refine kz ?_ | refine AE rfl (fun hb => ?_) (fun hb => ?_) | refine Aa (h1) ?_ | refine Aa (h2) ?_ | refine Av rfl rfl (fun hb => ?_) (fun hb => ?_) | refine kf ?_ | fail
 all_goals (refine congrArg Dat.lit (congrArg Value.bool ?_); unfold Ep HB; simp_all [S5, GJ, Cs, Jk])
 all_goals first | exact Qo _ _ | (intros; omega)
structure Entry where
 row : List Val
 count : Int
def Entry.d (e : Entry) : List Dat := [BS e.row, .lit (.int .i64 e.count)]
def Ao (l : List Entry) : Dat := .sl (l.map Entry.d)
def AH (n : Int) : Bool := decide (-262144 ≤ n) && decide (n ≤ 262144)
def Entry.ok (e : Entry) : Bool := A7 e.row && AH e.count && decide (e.count ≠ 0)
def goodFrom : Option Entry → List Entry → Bool
 | _, [] => true
 | p, e :: l => e.ok && (match p with | none => true | some q => decide (Ai q.row e.row < 0)) && goodFrom (some e) l
def Aj (l : List Entry) : Bool := decide (l.length ≤ 4096) && goodFrom none l
def ER (l : List Entry) (i : Nat) : Option Entry := if i = 0 then none else l[i - 1]?
theorem E2 (n : Int) : PC 75 [.one (.lit (.int .i64 n))] (.v (.one (.lit (.bool (AH n))))) := by
 refine Ad hT Tryz.func75 Tryz.ntmps75 [.tmp 2] fun B => ?_
 repeat' first | refine kz ?_ | refine Av rfl rfl (fun hb => ?_) (fun hb => ?_) | refine kf ?_ | fail
 all_goals (refine congrArg Dat.lit (congrArg Value.bool ?_); simp_all [AH]; try omega)
theorem K7 (n : Int) : PC 150 [.one (.lit (.int .i64 n))] (.v (.one (.lit (.bool (AH n))))) := by
 refine Ad hT Tryz.func150 Tryz.ntmps150 [.tmp 2] fun B => ?_
 repeat' first | refine kz ?_ | refine Av rfl rfl (fun hb => ?_) (fun hb => ?_) | refine kf ?_ | fail
 all_goals (refine congrArg Dat.lit (congrArg Value.bool ?_); simp_all [AH]; try omega)
theorem D1 (e : Entry) : PC 96 [.agg e.d] (.v (.one (.lit (.bool (AH e.count && A7 e.row))))) := by
 refine Ad hT Tryz.func96 Tryz.ntmps96 [.tmp 2] fun B => ?_
 repeat' first | refine kz ?_ | refine Aa (K7 _) ?_ | refine Aa (Kh _) ?_ | refine Av rfl rfl (fun hb => ?_) (fun hb => ?_) | refine kf ?_ | fail
 all_goals (refine congrArg Dat.lit (congrArg Value.bool ?_); simp_all)
theorem Q0 {l : List Entry} {i : Nat} {e : Entry} (h : l[i]? = some e) : goodFrom (ER l i) (l.drop i) = (e.ok && (match ER l i with | none => true | some q => decide (Ai q.row e.row < 0)) && goodFrom (ER l (i + 1)) (l.drop (i + 1))) := by
 rw [Az h, goodFrom.eq_def]
 have : ER l (i + 1) = some e := by simp [ER, h]
 rw [this]
set_option maxHeartbeats 1000000 in
theorem Cb (l : List Entry) : PC 47 [.one (Ao l)] (.v (.one (.lit (.bool (Aj l))))) := by
 refine Ad hT Tryz.func47 Tryz.ntmps47 [.tmp 2] fun B => ?_
 repeat' first | refine kz ?_ | refine AE rfl (fun hb => ?_) (fun hb => ?_) | refine As ?_ | refine kf ?_ | refine Av rfl rfl (fun hb => ?_) (fun hb => ?_) | refine Ay (by repeat (first | exact Ac | refine Ah EF ?_)) ?_
 ·refine congrArg Dat.lit (congrArg Value.bool ?_)
  simp [Aj]
  intros; omega
 ·have hl : l.length ≤ 4096 := by omega
  refine AY (X := Nat) ([2, 3, 4] ++ List.range' 10 28) (fun x => x ≤ l.length ∧ goodFrom none l = goodFrom (ER l x) (l.drop x)) (fun x lz => (10, (iC x)) :: lz) (fun x => []) (fun x => l.length - x) (0) ?_ ?_ ?_ ?_
  repeat' first | exact k0 | refine kw ?_ | omega
  ·exact ⟨by simp, by simp [ER]⟩
  rintro i c ⟨hi, hinv⟩
  by_cases hlt : i < l.length
  ·obtain ⟨e, hv⟩ := gx hlt
   rw [Q0 hv] at hinv
   rcases i with _ | j
   ·have hp : ER l 0 = none := rfl
    rw [hp] at hinv
    repeat' first | refine kz ?_ | refine AE rfl (fun hb => ?_) (fun hb => ?_) | refine AT hv ?_ | refine As ?_ | refine Aa (D1 _) ?_ | refine Aa (AN _ _) ?_ | refine kf ?_ | refine Av rfl rfl (fun hb => ?_) (fun hb => ?_) | refine Ay (by repeat (first | exact Ac | refine Ah EF ?_)) ?_
    all_goals first
     | (refine congrArg Dat.lit (congrArg Value.bool ?_); simp only [Aj, hinv, Entry.ok]; cases h1 : A7 e.row <;> cases h2 : AH e.count <;> simp_all <;> done)
     | (refine congrArg Dat.lit (congrArg Value.bool ?_); simp only [Aj, hinv]; simp; intros; omega)
     | ((apply Ae (1); all_goals (try dsimp only); all_goals (try (repeat' (first | exact k0 | refine kw ?_ | omega)))); (try exact ⟨by omega, by rw [hinv]; simp_all [Entry.ok]⟩))
   ·obtain ⟨p, hu⟩ := gx (l := l) (i := j) (by omega)
    have hp : ER l (j + 1) = some p := by simp [ER, hu]
    rw [hp] at hinv
    repeat' first | refine kz ?_ | refine AE rfl (fun hb => ?_) (fun hb => ?_) | refine AT hv ?_ | refine AT hu ?_ | refine As ?_ | refine Aa (D1 _) ?_ | refine Aa (AN _ _) ?_ | refine kf ?_ | refine Av rfl rfl (fun hb => ?_) (fun hb => ?_) | refine Ay (by repeat (first | exact Ac | refine Ah EF ?_)) ?_
    all_goals first
     | (refine congrArg Dat.lit (congrArg Value.bool ?_); simp only [Aj, hinv, Entry.ok]; cases h1 : A7 e.row <;> cases h2 : AH e.count <;> simp_all <;> done)
     | (refine congrArg Dat.lit (congrArg Value.bool ?_); simp only [Aj, hinv]; simp; intros; omega)
     | ((apply Ae (j + 1 + 1); all_goals (try dsimp only); all_goals (try (repeat' (first | exact k0 | refine kw ?_ | omega)))); (try exact ⟨by omega, by rw [hinv]; simp_all [Entry.ok]⟩))
  ·repeat' first | refine kz ?_ | refine AE rfl (fun hb => ?_) (fun hb => ?_) | refine As ?_ | refine kf ?_ | refine Av rfl rfl (fun hb => ?_) (fun hb => ?_) | refine Ay (by repeat (first | exact Ac | refine Ah EF ?_)) ?_
   refine congrArg Dat.lit (congrArg Value.bool ?_)
   rw [QF (by omega)] at hinv
   simp [Aj, hinv, hl, goodFrom]
end Go.Proofs.YtmpgmjlanngkfaaGreat
end
