/-
  Algebra: Where.
-/
import Derived.Test.YtmpgmjlanngkfaaGreatSum
import Derived.Test.YtmpgmjlanngkfaaGreatSrt
import Derived.Test.YtmpgmjlanngkfaaGreatExh
import Derived.Test.YtmpgmjlanngkfaaGreatExb
import Derived.Test.YtmpgmjlanngkfaaGreatDex
import Derived.Test.YtmpgmjlanngkfaaGreatPrj
import Derived.Test.YtmpgmjlanngkfaaGreatExg
import Derived.Test.YtmpgmjlanngkfaaGreatLaid
import Derived.Test.YtmpgmjlanngkfaaGreatSam
import Derived.Test.YtmpgmjlanngkfaaGreatBag
section
section
namespace Go.Proofs.YtmpgmjlanngkfaaGreat
open Go.Abs Go.RowKit
set_option linter.unusedSimpArgs false
set_option maxRecDepth 100000

-- keys

def kR (a b : List Val) : Prop := rowCmp a b < 0
def CleanK (b : List Entry) (kf : List Val → List Val) : Prop := ∀ e ∈ b, rowClean (kf e.row)
def atK (kf : List Val → List Val) (k : List Val) (e : Entry) : Bool := decide (rowCmp (kf e.row) k = 0)
def keysE (b : List Entry) (kf : List Val → List Val) : List (List Val) := (sortE (b.map fun e => ⟨kf e.row, 1⟩)).map Entry.row
def grpE (b : List Entry) (kf : List Val → List Val) : List (List Val × List Entry) := (keysE b kf).map fun k => (k, b.filter (atK kf k))

/-- What the program's groups are before they are sorted. -/
structure GI (b : List Entry) (kf : List Val → List Val) (acc : List (List Val × List Entry)) : Prop where
  nd : acc.Pairwise fun g h => g.1 ≠ h.1
  mem : ∀ g ∈ acc, (∃ e ∈ b, kf e.row = g.1) ∧ g.2 = b.filter (atK kf g.1)
  all : ∀ e ∈ b, ∃ g ∈ acc, g.1 = kf e.row

def grpCmp (g h : List Val × List Entry) : Int := rowCmp g.1 h.1
def ttl (L : List (Val × Int)) : Int := (L.map Prod.snd).sum
def sumV (L : List (Val × Int)) : Int := (L.map fun x => if x.1.kind = 1 then x.1.int * x.2 else 0).sum
def cntV (L : List (Val × Int)) : Int := (L.map fun x => if x.1.kind = 1 then x.2 else 0).sum
def nnE (L : List (Val × Int)) : List (Val × Int) := L.filter fun x => decide (x.1.kind ≠ 0)
def nthE : List (Val × Int) → Int → Val
  | [], _ => Val.null
  | x :: L, i => if i < x.2 then x.1 else nthE L (i - x.2)
def below (L : List (Val × Int)) (v : Val) : Int := (L.map fun x => if x.1.cmp v < 0 then x.2 else 0).sum
def upto (L : List (Val × Int)) (v : Val) : Int := (L.map fun x => if v.cmp x.1 < 0 then 0 else x.2).sum
def PosC (L : List (Val × Int)) : Prop := ∀ x ∈ L, 0 < x.2
def AscV (L : List (Val × Int)) : Prop := L.Pairwise fun x y => ¬ y.1.cmp x.1 < 0

noncomputable def ascE (L : List (Val × Int)) : List (Val × Int) := sortF (fun x y => x.1.cmp y.1) (nnE L)
noncomputable def foldE (f : Int) (L : List (Val × Int)) : Val :=
  if f = 0 then Val.ofInt (ttl L)
  else if f = 1 then (if cntV L = 0 then Val.null else Val.ofInt (sumV L))
  else if f = 2 then (if nnE L = [] then Val.null else nthE (ascE L) 0)
  else if f = 3 then (if nnE L = [] then Val.null else nthE (ascE L) (ttl (nnE L) - 1))
  else if f = 4 then (if nnE L = [] then Val.null else nthE (ascE L) ((ttl (nnE L) - 1) / 2))
  else Val.null

end Go.Proofs.YtmpgmjlanngkfaaGreat
end
section
section
section
section
namespace Go.Proofs.YtmpgmjlanngkfaaGreat
open Go.Abs Go.RowKit
attribute [local irreducible] ARun kont MCall PCall HCall resVal SF CF CFs defersOk slotsIn memIn fin finM VLe
set_option linter.unusedSimpArgs false
set_option maxRecDepth 100000
set_option maxHeartbeats 4000000

def truthR (v : Val) : Int := if v.kind ≠ 1 then -1 else if v.int = 0 then 0 else 1
def three14 (a b : Int) : Val := if a = 0 ∨ b = 0 then truthE false else if a < 0 ∨ b < 0 then Val.null else truthE true
def three15 (a b : Int) : Val := if a = 1 ∨ b = 1 then truthE true else if a < 0 ∨ b < 0 then Val.null else truthE false
end Go.Proofs.YtmpgmjlanngkfaaGreat
end
section
namespace Go.Proofs.YtmpgmjlanngkfaaGreat
open Go.Abs Go.RowKit
attribute [local irreducible] ARun kont MCall PCall HCall resVal SF CF CFs defersOk slotsIn memIn fin finM VLe
set_option linter.unusedSimpArgs false
set_option maxRecDepth 100000
set_option maxHeartbeats 4000000

def numsE (op a b : Int) : Val := if op = 4 then Val.ofInt (a + b) else if op = 5 then Val.ofInt (a - b) else if op = 6 then Val.ofInt (a * b) else quotE a b
end Go.Proofs.YtmpgmjlanngkfaaGreat
end
end
section
section
namespace Go.Proofs.YtmpgmjlanngkfaaGreat
open Go.Abs Go.RowKit
attribute [local irreducible] ARun kont MCall PCall HCall resVal SF CF CFs defersOk slotsIn memIn fin finM VLe
set_option linter.unusedSimpArgs false
set_option maxRecDepth 100000
set_option maxHeartbeats 4000000

def endR (e : List Trm) (pos n : Nat) : Int := match parse [] n (e.drop pos) with
  | none => -1
  | some (_, r) => ((e.length - r.length : Nat) : Int)

end Go.Proofs.YtmpgmjlanngkfaaGreat
end
section
namespace Go.Proofs.YtmpgmjlanngkfaaGreat
open Go.Abs Go.RowKit
attribute [local irreducible] ARun kont MCall PCall HCall resVal SF CF CFs defersOk slotsIn memIn fin finM VLe
set_option linter.unusedSimpArgs false
set_option maxRecDepth 100000
set_option maxHeartbeats 4000000

/-- The parts of an expression, one behind the other. -/
def partsD (ss : List (List Trm)) : Dat := .sl (ss.map fun s => [exprD s])
end Go.Proofs.YtmpgmjlanngkfaaGreat
end
end
end
section
section
section
namespace Go.Proofs.YtmpgmjlanngkfaaGreat
open Go.Abs Go.RowKit
attribute [local irreducible] ARun kont MCall PCall HCall resVal SF CF CFs defersOk slotsIn memIn fin finM VLe
set_option linter.unusedSimpArgs false
set_option maxRecDepth 100000
set_option maxHeartbeats 4000000

structure Itm where
  name : ByteArray
  expr : List Trm
def Itm.d (x : Itm) : List Dat := [.lit (.string x.name), exprD x.expr]
def itmD (l : List Itm) : Dat := .sl (l.map Itm.d)
def keyE (keys : List Itm) (row : List Val) : List Val := keys.map fun x => evE x.expr row
def rowX (r : List Val) : Dat := .ex (r.map Val.d)
abbrev GL := List (List Val × Nat × List Entry)
def gOf (L : GL) : List (List Val × List Entry) := L.map fun g => (g.1, g.2.2)
def grD (g : List Val × List Entry) : List Dat := [rowX g.1, bagD g.2]
def grpsD (l : List (List Val × List Entry)) : Dat := .sl (l.map grD)
def codeV (k : List Val) : Value := .string ⟨(encRow k).toArray⟩
def plE (L : GL) : List (Value × PV) := L.mapIdx fun i g => (codeV g.1, .one (.lit (.int .i64 (i : Nat))))
def axE (L : GL) : List (List Cell) := L.mapIdx fun i g => [.d (rowX g.1), .arr (i + 4) g.2.1 g.2.2.length]
def inG (L : GL) : List Blk := L.map fun g => .arr g.2.1 56 2 (g.2.2.map Entry.d)

end Go.Proofs.YtmpgmjlanngkfaaGreat
end
section
namespace Go.Proofs.YtmpgmjlanngkfaaGreat
open Go.Abs Go.RowKit
attribute [local irreducible] ARun kont MCall PCall HCall resVal SF CF CFs defersOk slotsIn memIn fin finM VLe
set_option linter.unusedSimpArgs false
set_option maxRecDepth 100000
set_option maxHeartbeats 4000000

def cnD (x : Val × Int) : List Dat := [.lit (.int .i64 x.1.kind), .lit (.int .i64 x.1.int), .lit (.string x.1.text), .lit (.int .i64 x.2)]
def cntsD (L : List (Val × Int)) : Dat := .sl (L.map cnD)
/-- Values and multiplicities of a bag. -/
def Bnd (L : List (Val × Int)) : Prop := L.length ≤ 4096 ∧ ∀ x ∈ L, (-4294967296 ≤ x.1.int ∧ x.1.int ≤ 4294967296) ∧ -262144 ≤ x.2 ∧ x.2 ≤ 262144

def nnP (x : Val × Int) : Bool := decide (x.1.kind ≠ 0)
def led (L : List (Val × Int)) : Nat := (L.takeWhile nnP).length
end Go.Proofs.YtmpgmjlanngkfaaGreat
end
end
section
section
section
namespace Go.Proofs.YtmpgmjlanngkfaaGreat
open Go.Abs Go.RowKit
attribute [local irreducible] ARun kont MCall PCall HCall resVal SF CF CFs defersOk slotsIn memIn fin finM VLe
set_option linter.unusedSimpArgs false
set_option maxRecDepth 100000
set_option maxHeartbeats 4000000

end Go.Proofs.YtmpgmjlanngkfaaGreat
end
section
namespace Go.Proofs.YtmpgmjlanngkfaaGreat
open Go.Abs Go.RowKit
attribute [local irreducible] ARun kont MCall PCall HCall resVal SF CF CFs defersOk slotsIn memIn fin finM VLe
set_option linter.unusedSimpArgs false
set_option maxRecDepth 100000
set_option maxHeartbeats 4000000

noncomputable def rkE (f : Int) (L : List (Val × Int)) : Val :=
  if nnE L = [] then Val.null else if f = 2 then nthE (ascE L) 0 else if f = 3 then nthE (ascE L) (ttl (nnE L) - 1) else nthE (ascE L) ((ttl (nnE L) - 1) / 2)

end Go.Proofs.YtmpgmjlanngkfaaGreat
end
end
section
namespace Go.Proofs.YtmpgmjlanngkfaaGreat
open Go.Abs Go.RowKit
attribute [local irreducible] ARun kont MCall PCall HCall resVal SF CF CFs defersOk slotsIn memIn fin finM VLe
set_option linter.unusedSimpArgs false
set_option maxRecDepth 100000
set_option maxHeartbeats 4000000

structure Agg where
  name : ByteArray
  func : Int
  expr : List Trm
def Agg.d (x : Agg) : List Dat := [.lit (.string x.name), .lit (.int .i64 x.func), exprD x.expr]
def aggD (l : List Agg) : Dat := .sl (l.map Agg.d)
def vlE (x : Agg) (e : Entry) : Val × Int := (if x.func = 0 then Val.null else evE x.expr e.row, e.count)
def valsE (x : Agg) (es : List Entry) : List (Val × Int) := es.map (vlE x)

end Go.Proofs.YtmpgmjlanngkfaaGreat
end
end
end
end
end
section
namespace Go.Proofs.YtmpgmjlanngkfaaGreat
open Go.Abs Go.RowKit
attribute [local irreducible] ARun kont MCall PCall HCall resVal SF CF CFs defersOk slotsIn memIn fin finM VLe
set_option linter.unusedSimpArgs false
set_option maxRecDepth 100000
set_option maxHeartbeats 4000000

theorem algWhere1_d : DeferOk Tryz.prog 104 0 := by
  refine ⟨⟨_, Tryz.func104, by kernel_rfl, by kernel_rfl⟩, fun vs w hl => ?_⟩
  match vs, hl with
  | [], _ =>
    refine callsD_of_wpS Tryz.func104 rfl fun c₀ cs hu => ?_
    apply wpS_region
    simp [wpOpsS, go_sem, recoverD, hu, Tryz.ntmps104, Exit.thenS]
    cases c₀
    simp_all [bodyPostS, results, Tryz.results104]

def keepE (e : List Trm) (x : Entry) : Bool := decide (e.length = 0) || holdsE e x.row
def whereE (b : List Entry) (e : List Trm) : List Entry := if bagValid b then b.filter (keepE e) else []

theorem filter_snoc {α : Type} {p : α → Bool} {l : List α} {i : Nat} {x : α} (h : l[i]? = some x) : (l.take (i + 1)).filter p = (l.take i).filter p ++ if p x then [x] else [] := by
  rw [List.take_add_one, h, List.filter_append]
  congr 1
  cases hp : p x <;> simp [hp]

theorem where_c (b : List Entry) (e : List Trm) : PCall Tryz.prog 56 [.one (bagD b), .one (exprD e)] (.v (.one (bagD (whereE b e)))) := by
  have hv := bagValid_c b
  cases hb : bagValid b
  · rw [show whereE b e = [] by rw [whereE, hb]; rfl]
    rw [hb] at hv
    refine pcallN hT Tryz.func56 Tryz.ntmps56 [.tmp 4] fun B => ?_
    repeat' (first | (with_reducible (first | refine k_seq ?_ | refine k_block ?_ | refine k_skip ?_ | refine k_exit ?_ | refine k_ret ?_ | refine n_seq ?_ | refine n_block ?_ | refine e_seq ?_ | refine e_here ?_ | refine r_seq ?_ | refine o_exit ?_)) | refine s_reg ?_ | refine s_ifT ?_ | refine s_ifF ?_ | refine r_end ?_ | refine s_endD ?_ | refine s_skipS ?_ | refine s_move ?_ | refine s_assign ?_ | refine s_int ?_ | refine s_loadB1 ?_ | refine s_loadFA ?_ | refine s_indexD ?_ (hel := (by first | exact rfl)) | refine s_fieldB ?_ | refine s_call (hv) ?_ | refine s_pick ?_ | refine s_lenD ?_ | refine s_appA ?_ | refine s_storeB ?_ | refine s_bslice ?_ | refine s_alloc ?_ | refine s_not ?_ | refine s_build ?_ | refine s_defer ?_ | refine s_kT ?_ | refine s_kF ?_ | refine f_ret1 (by repeat (first | exact def_nil | refine def_cons algWhere1_d ?_)) ?_ | refine t_tmp ?_ | refine t_tmpE ?_)
    all_goals rfl
  rw [hb] at hv
  obtain ⟨bl, bm⟩ := valid_mem hb
  rw [show whereE b e = b.filter (keepE e) by rw [whereE, hb, if_pos rfl]]
  have hcl : ∀ (i : Nat), ((b.take i).filter (keepE e)).length ≤ 4096 := fun i => by
    have h1 := List.length_filter_le (keepE e) (b.take i)
    have h2 := List.length_take_le i b
    have h3 : (b.take i).length ≤ b.length := by simp; omega
    omega
  refine pcallN hT Tryz.func56 Tryz.ntmps56 [.tmp 4] fun B => ?_
  repeat' (first | (with_reducible (first | refine k_seq ?_ | refine k_block ?_ | refine k_skip ?_ | refine k_exit ?_ | refine k_ret ?_ | refine n_seq ?_ | refine n_block ?_ | refine e_seq ?_ | refine e_here ?_ | refine r_seq ?_ | refine o_exit ?_)) | refine s_reg ?_ | refine s_ifT ?_ | refine s_ifF ?_ | refine r_end ?_ | refine s_endD ?_ | refine s_skipS ?_ | refine s_move ?_ | refine s_assign ?_ | refine s_int ?_ | refine s_loadB1 ?_ | refine s_loadFA ?_ | refine s_indexD ?_ (hel := (by first | exact rfl)) | refine s_fieldB ?_ | refine s_call (hv) ?_ | refine s_pick ?_ | refine s_lenD ?_ | refine s_appA ?_ | refine s_storeB ?_ | refine s_bslice ?_ | refine s_alloc ?_ | refine s_not ?_ | refine s_build ?_ | refine s_defer ?_ | refine s_kT ?_ | refine s_kF ?_ | refine f_ret1 (by repeat (first | exact def_nil | refine def_cons algWhere1_d ?_)) ?_ | refine t_tmp ?_ | refine t_tmpE ?_)
  refine s_own 5 56 2 ?_
  refine s_lp (X := Nat × Nat × List Entry) [5, 7, 13, 14, 15, 16, 17, 18, 19, 20, 21, 22, 23, 24, 25, 26, 27, 28, 29, 30, 31, 32, 33, 34, 35] (fun x => x.1 ≤ b.length ∧ x.2.2 = (b.take x.1).filter (keepE e)) (fun x lz => (5, .c (.arr 0 x.2.1 x.2.2.length)) :: (13, (.c (.d (.lit (.int .i64 x.1))))) :: lz) (fun x => [.arr x.2.1 56 2 (x.2.2.map Entry.d)]) (fun x => b.length - x.1) ((0, 1, [])) ?_ ?_ ?_ ?_
  repeat' (first | exact slots_nil | refine w1 ?_ | exact memIn_nil | refine memIn_same ?_ | refine m1 ?_ ?_ | omega)
  · exact ⟨by simp, rfl⟩
  rintro ⟨i, k, out⟩ c ⟨hi, hout⟩
  dsimp only at hi hout ⊢
  have hol : out.length ≤ 4096 := by rw [hout]; exact hcl i
  by_cases hlt : i < b.length
  · have hx : b[i]? = some b[i] := List.getElem?_eq_getElem hlt
    generalize b[i] = x at hx
    have hxl : x.row.length ≤ 1000000 := by
      have := (bm x (List.mem_of_getElem? hx)).1
      simp only [rowOK, Bool.and_eq_true, decide_eq_true_eq] at this
      omega
    have hsn := filter_snoc (p := keepE e) hx
    rw [← hout] at hsn
    have hcln := clone_c x.row hxl
    have hh := exHolds_c e x.row
    clear hout hv bm hb
    by_cases h0 : e.length = 0
    · rw [show keepE e x = true by rw [keepE, decide_eq_true h0]; rfl, if_pos rfl] at hsn
      repeat' (first | (with_reducible (first | refine k_seq ?_ | refine k_block ?_ | refine k_skip ?_ | refine k_exit ?_ | refine k_ret ?_ | refine n_seq ?_ | refine n_block ?_ | refine e_seq ?_ | refine e_here ?_ | refine r_seq ?_ | refine o_exit ?_)) | refine s_reg ?_ | refine s_ifT ?_ | refine s_ifF ?_ | refine r_end ?_ | refine s_endD ?_ | refine s_skipS ?_ | refine s_move ?_ | refine s_assign ?_ | refine s_int ?_ | refine s_loadB1 ?_ | refine s_loadFA ?_ | refine s_indexD ?_ (hel := (by first | exact idx_map hx (by omega) | exact hx | exact rfl)) | refine s_fieldB ?_ | refine s_call (hcln) ?_ | refine s_pick ?_ | refine s_lenD ?_ | refine s_appA ?_ | refine s_storeB ?_ | refine s_bslice ?_ | refine s_alloc ?_ | refine s_not ?_ | refine s_build ?_ | refine s_defer ?_ | refine s_kT ?_ | refine s_kF ?_ | refine f_ret1 def_nil ?_ | refine t_tmp ?_ | refine t_tmpE ?_)
      (apply s_round ((i + 1, _, out ++ [x])); all_goals (try dsimp only); all_goals (try (repeat' (first | exact slots_nil | refine w1 ?_ | exact memIn_nil | refine memIn_same ?_ | refine m1 ?_ ?_ | omega))))
      all_goals first | (exact ⟨by omega, hsn.symm⟩) | (simp; done) | (rw [List.map_append]; rfl)
    · cases hk : holdsE e x.row with
      | true =>
        rw [show keepE e x = true by rw [keepE, hk, Bool.or_true], if_pos rfl] at hsn
        rw [hk] at hh
        repeat' (first | (with_reducible (first | refine k_seq ?_ | refine k_block ?_ | refine k_skip ?_ | refine k_exit ?_ | refine k_ret ?_ | refine n_seq ?_ | refine n_block ?_ | refine e_seq ?_ | refine e_here ?_ | refine r_seq ?_ | refine o_exit ?_)) | refine s_reg ?_ | refine s_ifT ?_ | refine s_ifF ?_ | refine r_end ?_ | refine s_endD ?_ | refine s_skipS ?_ | refine s_move ?_ | refine s_assign ?_ | refine s_int ?_ | refine s_loadB1 ?_ | refine s_loadFA ?_ | refine s_indexD ?_ (hel := (by first | exact idx_map hx (by omega) | exact hx | exact rfl)) | refine s_fieldB ?_ | refine s_call (hcln) ?_ | refine s_call (hh) ?_ | refine s_pick ?_ | refine s_lenD ?_ | refine s_appA ?_ | refine s_storeB ?_ | refine s_bslice ?_ | refine s_alloc ?_ | refine s_not ?_ | refine s_build ?_ | refine s_defer ?_ | refine s_kT ?_ | refine s_kF ?_ | refine f_ret1 def_nil ?_ | refine t_tmp ?_ | refine t_tmpE ?_)
        (apply s_round ((i + 1, _, out ++ [x])); all_goals (try dsimp only); all_goals (try (repeat' (first | exact slots_nil | refine w1 ?_ | exact memIn_nil | refine memIn_same ?_ | refine m1 ?_ ?_ | omega))))
        all_goals first | (exact ⟨by omega, hsn.symm⟩) | (simp; done) | (rw [List.map_append]; rfl)
      | false =>
        rw [show keepE e x = false by rw [keepE, hk, decide_eq_false h0]; rfl] at hsn
        simp only [Bool.false_eq_true, if_false, List.append_nil] at hsn
        rw [hk] at hh
        repeat' (first | (with_reducible (first | refine k_seq ?_ | refine k_block ?_ | refine k_skip ?_ | refine k_exit ?_ | refine k_ret ?_ | refine n_seq ?_ | refine n_block ?_ | refine e_seq ?_ | refine e_here ?_ | refine r_seq ?_ | refine o_exit ?_)) | refine s_reg ?_ | refine s_ifT ?_ | refine s_ifF ?_ | refine r_end ?_ | refine s_endD ?_ | refine s_skipS ?_ | refine s_move ?_ | refine s_assign ?_ | refine s_int ?_ | refine s_loadB1 ?_ | refine s_loadFA ?_ | refine s_indexD ?_ (hel := (by first | exact idx_map hx (by omega) | exact hx | exact rfl)) | refine s_fieldB ?_ | refine s_call (hcln) ?_ | refine s_call (hh) ?_ | refine s_pick ?_ | refine s_lenD ?_ | refine s_appA ?_ | refine s_storeB ?_ | refine s_bslice ?_ | refine s_alloc ?_ | refine s_not ?_ | refine s_build ?_ | refine s_defer ?_ | refine s_kT ?_ | refine s_kF ?_ | refine f_ret1 def_nil ?_ | refine t_tmp ?_ | refine t_tmpE ?_)
        (apply s_round ((i + 1, _, out)); all_goals (try dsimp only); all_goals (try (repeat' (first | exact slots_nil | refine w1 ?_ | exact memIn_nil | refine memIn_same ?_ | refine m1 ?_ ?_ | omega))))
        all_goals exact ⟨by omega, hsn.symm⟩
  · have hie : i = b.length := by omega
    subst hie
    rw [List.take_length] at hout
    rw [← hout]
    have hf : List.take out.length (out.map Entry.d) = out.map Entry.d := take_ge (by simp)
    repeat' (first | refine s_freeze 5 ?_ (hes := hf) | (with_reducible (first | refine k_seq ?_ | refine k_block ?_ | refine k_skip ?_ | refine k_exit ?_ | refine k_ret ?_ | refine n_seq ?_ | refine n_block ?_ | refine e_seq ?_ | refine e_here ?_ | refine r_seq ?_ | refine o_exit ?_)) | refine s_reg ?_ | refine s_ifT ?_ | refine s_ifF ?_ | refine r_end ?_ | refine s_endD ?_ | refine s_skipS ?_ | refine s_move ?_ | refine s_assign ?_ | refine s_int ?_ | refine s_loadB1 ?_ | refine s_loadFA ?_ | refine s_indexD ?_ (hel := (by first | exact rfl)) | refine s_fieldB ?_ | refine s_pick ?_ | refine s_lenD ?_ | refine s_appA ?_ | refine s_storeB ?_ | refine s_bslice ?_ | refine s_alloc ?_ | refine s_not ?_ | refine s_build ?_ | refine s_defer ?_ | refine s_kT ?_ | refine s_kF ?_ | refine f_ret1 (by repeat (first | exact def_nil | refine def_cons algWhere1_d ?_)) ?_ | refine t_tmp ?_ | refine t_tmpE ?_)
    all_goals rfl

end Go.Proofs.YtmpgmjlanngkfaaGreat
end
