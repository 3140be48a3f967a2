/-
  Algebra: Where.
-/
import Derived.Test.YtmpgmjlanngkfaaGreatTab
import Derived.Test.YtmpgmjlanngkfaaGreatOpa
import Derived.Test.YtmpgmjlanngkfaaGreatExb
import Derived.Test.YtmpgmjlanngkfaaGreatExh
import Derived.Test.YtmpgmjlanngkfaaGreatSam
import Derived.Test.YtmpgmjlanngkfaaGreatExg
import Derived.Test.YtmpgmjlanngkfaaGreatBag
section
namespace Go.Proofs.YtmpgmjlanngkfaaGreat
open Go.Abs Go.RowKit
attribute [local irreducible] ARun Aq MCall PCall HCall Am SF CF CFs Af Al Ap B5 AW VLe
set_option linter.unusedSimpArgs false
set_option maxRecDepth 100000
set_option maxHeartbeats 4000000
def txts : List ByteArray := [⟨#[97]⟩, ⟨#[98]⟩, ⟨#[]⟩, ⟨#[97, 98]⟩, ⟨#[97, 32, 98]⟩, ⟨#[120, 0, 121]⟩, ⟨#[255, 34, 92]⟩, ⟨#[98, 32, 97, 32, 98]⟩, ⟨#[108, 111, 110, 103, 32, 116, 101, 120, 116, 32, 111, 102, 32, 116, 104, 105, 114, 116, 121, 45, 116, 119, 111, 32, 98, 121, 116, 101, 115, 32, 105, 116]⟩, ⟨#[66]⟩]
def sD (s : ByteArray) : List Dat := [.lit (.string s)]
def ints : List Int := [0, 1, 2, 3, -1, -2, 7, 100, 4294967296, -4294967296, 5, 4]
def Tape.text (t : Tape) : Val := Val.ofText (txts.getD (t.nx 10).toNat ⟨#[]⟩)
def Tape.int (t : Tape) : Val := Val.ofInt (ints.getD (t.nx 12).toNat 0)
theorem Xq (t : Tape) (ht : t.ok) : HC 127 [.c (.bp 0 0 0)] [(tB t)] (.agg (t.text.d.map .d)) [(tB (t.go 10))] := by
 have hn := Ix t 10 ht (by omega) (by omega)
 obtain ⟨b1, b2⟩ := t.nx_bd 10
 have hv : txts[(t.nx 10).toNat]? = some (txts.getD (t.nx 10).toNat ⟨#[]⟩) := by
  rw [OM, Bi (by simp [txts]; omega)]; rfl
 have hv1 : (txts.map sD)[(t.nx 10).toNat]? = some (sD (txts.getD (t.nx 10).toNat ⟨#[]⟩)) := by rw [Ci, hv]; rfl
 have hr := LA (txts.getD (t.nx 10).toNat ⟨#[]⟩)
 change PCall _ _ _ (.v (.agg t.text.d)) at hr
 generalize txts.getD (t.nx 10).toNat ⟨#[]⟩ = s at hv hv1 hr
 generalize t.nx 10 = z at hn b1 b2 hv hv1
 generalize t.go 10 = t' at hn
 refine AF hT Tryz.func127 Tryz.ntmps127 [.cell 2 73] fun B => ?_
 repeat' first | refine kz ?_ | refine AT hv1 ?_ | refine As ?_ | refine Aa (hr) ?_ | refine Ak [0] (hn) ?_ | refine Kt Ac ?_ ?_ | exact k0 | refine Ab ?_
theorem YX (t : Tape) (ht : t.ok) : HC 128 [.c (.bp 0 0 0)] [(tB t)] (.agg (t.int.d.map .d)) [(tB (t.go 12))] := by
 have hn := Ix t 12 ht (by omega) (by omega)
 obtain ⟨b1, b2⟩ := t.nx_bd 12
 have hv : ints[(t.nx 12).toNat]? = some (ints.getD (t.nx 12).toNat 0) := by
  rw [OM, Bi (by simp [ints]; omega)]; rfl
 have hv1 : (ints.map iD)[(t.nx 12).toNat]? = some (iD (ints.getD (t.nx 12).toNat 0)) := by rw [Ci, hv]; rfl
 have hr := Fc (ints.getD (t.nx 12).toNat 0)
 change PCall _ _ _ (.v (.agg t.int.d)) at hr
 generalize ints.getD (t.nx 12).toNat 0 = s at hv hv1 hr
 generalize t.nx 12 = z at hn b1 b2 hv hv1
 generalize t.go 12 = t' at hn
 refine AF hT Tryz.func128 Tryz.ntmps128 [.cell 2 73] fun B => ?_
 repeat' first | refine kz ?_ | refine AT hv1 ?_ | refine As ?_ | refine Aa (hr) ?_ | refine Ak [0] (hn) ?_ | refine Kt Ac ?_ ?_ | exact k0 | refine Ab ?_
def Tape.val (t : Tape) : Val × Tape :=
 if t.nx 5 = 0 then (Val.null, t.go 5)
 else if t.nx 5 = 1 ∨ t.nx 5 = 2 then ((t.go 5).text, (t.go 5).go 10)
 else ((t.go 5).int, (t.go 5).go 12)
end Go.Proofs.YtmpgmjlanngkfaaGreat
end
section
namespace Go.Abs
open Go.RowKit
section
variable {P : Program} {T : TypeId → Option TI} {F0 : Nat → Prop} {w0 : World}
variable {dr : Bool} {ops rest : List Oper} {K : St → Prop} {n : Nat} {sl : List (Nat × SVal)} {mem : List Blk} {ck : Nat} {df : List (FuncId × List Cell)} {acc : List Nat}
variable {d : Tmp} {op : Op} {ty : TypeId} {pos : String} {aft : Array Edge} {g : Option (Nat × Bool)}
end
end Go.Abs
end
section
namespace Go.Proofs.YtmpgmjlanngkfaaGreat
open Go.Abs Go.RowKit
attribute [local irreducible] ARun Aq MCall PCall HCall Am SF CF CFs Af Al Ap B5 AW VLe
set_option linter.unusedSimpArgs false
set_option maxRecDepth 100000
set_option maxHeartbeats 4000000
def aU (e : List Trm) (pos n : Nat) : Int := match AS [] n (e.drop pos) with
 | none => -1
 | some (_, r) => ((e.length - r.length : Nat) : Int)
def ab (v : Val) : Int := if v.kind ≠ 1 then -1 else if v.int = 0 then 0 else 1
def ZR (a b : Int) : Val := if a = 0 ∨ b = 0 then Ch false else if a < 0 ∨ b < 0 then Val.null else Ch true
def ZS (a b : Int) : Val := if a = 1 ∨ b = 1 then Ch true else if a < 0 ∨ b < 0 then Val.null else Ch false
def az (op a b : Int) : Val := if op = 4 then Val.ofInt (a + b) else if op = 5 then Val.ofInt (a - b) else if op = 6 then Val.ofInt (a * b) else J2 a b
end Go.Proofs.YtmpgmjlanngkfaaGreat
end
section
namespace Go.Proofs.YtmpgmjlanngkfaaGreat
open Go.Abs Go.RowKit
set_option linter.unusedSimpArgs false
set_option maxRecDepth 100000
theorem RE {a b : ByteArray} (h : a.toList = b.toList) : a = b := by
 rw [ByteArray.toList_eq, ByteArray.toList_eq] at h
 cases a; cases b
 simp only at h
 congr
 exact Array.toList_inj.1 h
theorem Xp {a b : Val} : Fy a b = true ↔ a = b := by
 refine ⟨fun h => ?_, fun h => by rw [h]; exact HK _⟩
 simp only [Fy, BO, beq_iff_eq] at h
 obtain ⟨h1, h2, h3⟩ := h
 have := RE h3
 cases a; cases b; simp_all
theorem PI : ∀ {r s : List Val}, Br r s = true ↔ r = s
 | [], [] => by simp [Br]
 | a :: x, b :: y => by simp [Br, Xp, PI (r := x) (s := y)]
 | [], _ :: _ => by simp [Br]
 | _ :: _, [] => by simp [Br]
end Go.Proofs.YtmpgmjlanngkfaaGreat
end
section
namespace Go.Proofs.YtmpgmjlanngkfaaGreat
open Go.Abs Go.RowKit
attribute [local irreducible] ARun Aq MCall PCall HCall Am SF CF CFs Af Al Ap B5 AW VLe
set_option linter.unusedSimpArgs false
set_option maxRecDepth 100000
set_option maxHeartbeats 4000000
def Xr (t : Tape) : Nat → List Val × Tape
 | 0 => ([], t)
 | j + 1 => ((Xr t j).1 ++ [(Xr t j).2.val.1], (Xr t j).2.val.2)
def Pu (ss : List (List Trm)) : Dat := .sl (ss.map fun s => [BR s])
theorem F9 : DeferOk Tryz.prog 104 0 := by
 refine ⟨⟨_, Tryz.func104, by kernel_rfl, by kernel_rfl⟩, fun vs w hl => ?_⟩
 match vs, hl with
 | [], _ =>
   refine callsD_of_wpS Tryz.func104 rfl fun c₀ cs hu => ?_
   apply wpS_region
   simp [wpOpsS, go_sem, recoverD, hu, Tryz.ntmps104, Exit.thenS]
   cases c₀
   simp_all [bodyPostS, results, Tryz.results104]
def keepE (e : List Trm) (x : Entry) : Bool := decide (e.length = 0) || Im e x.row
def Bm (b : List Entry) (e : List Trm) : List Entry := if Aj b then b.filter (keepE e) else []
theorem N8 {α : Type} {p : α → Bool} {l : List α} {i : Nat} {x : α} (h : l[i]? = some x) : (l.take (i + 1)).filter p = (l.take i).filter p ++ if p x then [x] else [] := by
 rw [KL, h, Ue]
 congr 1
 cases hp : p x <;> simp [hp]
theorem Me (b : List Entry) (e : List Trm) : PC 56 [.one (Ao b), .one (BR e)] (.v (.one (Ao (Bm b e)))) := by
 have hv := Cb b
 cases hb : Aj b
 ·rw [show Bm b e = [] by rw [Bm, hb]; rfl]
  rw [hb] at hv
  refine Ad hT Tryz.func56 Tryz.ntmps56 [.tmp 4] fun B => ?_
  repeat' first | refine kz ?_ | refine As ?_ | refine Aa (hv) ?_ | refine kf ?_ | refine Ay (by repeat (first | exact Ac | refine Ah F9 ?_)) ?_
  all_goals rfl
 rw [hb] at hv
 obtain ⟨bl, bm⟩ := AG hb
 rw [show Bm b e = b.filter (keepE e) by rw [Bm, hb, if_pos rfl]]
 have hcl : ∀ (i : Nat), ((b.take i).filter (keepE e)).length ≤ 4096 := fun i => by
  have h1 := PN (keepE e) (b.take i)
  have h2 := List.length_take_le i b
  have h3 : (b.take i).length ≤ b.length := by simp; omega
  omega
 refine Ad hT Tryz.func56 Tryz.ntmps56 [.tmp 4] fun B => ?_
 repeat' first | refine kz ?_ | refine As ?_ | refine Aa (hv) ?_ | refine kf ?_ | refine Ay (by repeat (first | exact Ac | refine Ah F9 ?_)) ?_
 refine CN 5 56 2 ?_
 refine AY (X := Nat × Nat × List Entry) ([5, 7] ++ List.range' 13 23) (fun x => x.1 ≤ b.length ∧ x.2.2 = (b.take x.1).filter (keepE e)) (fun x lz => (5, .c (.arr 0 x.2.1 x.2.2.length)) :: (13, (iC x.1)) :: lz) (fun x => [.arr x.2.1 56 2 (x.2.2.map Entry.d)]) (fun x => b.length - x.1) ((0, 1, [])) ?_ ?_ ?_ ?_
 repeat' first | exact k0 | refine kw ?_ | refine kv ?_ ?_ | omega
 ·exact ⟨by simp, rfl⟩
 rintro ⟨i, k, out⟩ c ⟨hi, hout⟩
 dsimp only at hi hout ⊢
 have hol : out.length ≤ 4096 := by rw [hout]; exact hcl i
 by_cases hlt : i < b.length
 ·obtain ⟨x, hx⟩ := gx hlt
  have hxl : x.row.length ≤ 1000000 := by
   have := (bm x (Df hx)).1
   simp only [A7, BO, decide_eq_true_eq] at this
   omega
  have hsn := N8 (p := keepE e) hx
  rw [← hout] at hsn
  have hcln := HM x.row hxl
  have hh := Rk e x.row
  clear hout hv bm hb
  by_cases h0 : e.length = 0
  ·rw [show keepE e x = true by rw [keepE, decide_eq_true h0]; rfl, if_pos rfl] at hsn
   repeat' first | refine kz ?_ | refine AT hx ?_ | refine As ?_ | refine Aa (hcln) ?_ | refine kf ?_ | fail
   apply Ae ((i + 1, _, out ++ [x])) <;> (try dsimp only) <;> try repeat' first | exact k0 | refine w1 ?_ | refine Ab ?_ | refine m1 ?_ ?_ | omega
   all_goals first | (exact ⟨by omega, hsn.symm⟩) | (simp; done) | (rw [As']; rfl)
  ·cases hk : Im e x.row with
   | true =>
     rw [show keepE e x = true by rw [keepE, hk, Bool.or_true], if_pos rfl] at hsn
     rw [hk] at hh
     repeat' first | refine kz ?_ | refine AT hx ?_ | refine As ?_ | refine Aa (hcln) ?_ | refine Aa (hh) ?_ | refine kf ?_ | fail
     apply Ae ((i + 1, _, out ++ [x])) <;> (try dsimp only) <;> try repeat' first | exact k0 | refine w1 ?_ | refine Ab ?_ | refine m1 ?_ ?_ | omega
     all_goals first | (exact ⟨by omega, hsn.symm⟩) | (simp; done) | (rw [As']; rfl)
   | false =>
     rw [show keepE e x = false by rw [keepE, hk, decide_eq_false h0]; rfl] at hsn
     simp only [Bool.false_eq_true, if_false, List.append_nil] at hsn
     rw [hk] at hh
     repeat' first | refine kz ?_ | refine AT hx ?_ | refine As ?_ | refine Aa (hcln) ?_ | refine Aa (hh) ?_ | refine kf ?_ | fail
     apply Ae ((i + 1, _, out)) <;> (try dsimp only) <;> try repeat' first | exact k0 | refine w1 ?_ | refine Ab ?_ | refine m1 ?_ ?_ | omega
     all_goals exact ⟨by omega, hsn.symm⟩
 ·have hie : i = b.length := by omega
  subst hie
  rw [PQ] at hout
  rw [← hout]
  have hf : List.take out.length (out.map Entry.d) = out.map Entry.d := Ag (by simp)
  repeat' first | refine A8 5 ?_ (hes := hf) | refine kz ?_ | refine As ?_ | refine DU ?_ | refine De ?_ | refine Ay (by repeat (first | exact Ac | refine Ah F9 ?_)) ?_ | refine BB ?_ | refine Cf ?_
  all_goals rfl
end Go.Proofs.YtmpgmjlanngkfaaGreat
end
