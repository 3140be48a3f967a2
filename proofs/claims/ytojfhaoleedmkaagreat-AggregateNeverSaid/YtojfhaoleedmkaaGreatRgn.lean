/-
  Aggregates, plain: states of sums of bags.
-/
import Derived.Test.YtojfhaoleedmkaaGreatOpa
import Derived.Test.YtojfhaoleedmkaaGreatAgj
import Derived.Test.YtojfhaoleedmkaaGreatPos
import Derived.Test.YtojfhaoleedmkaaGreatHom
import Derived.Test.YtojfhaoleedmkaaGreatAgk
import Derived.Test.YtojfhaoleedmkaaGreatTpo
import Derived.Test.YtojfhaoleedmkaaGreatExm
import Derived.Test.YtojfhaoleedmkaaGreatAgs
import Derived.Test.YtojfhaoleedmkaaGreatAgo
import Derived.Test.YtojfhaoleedmkaaGreatTny
section
section
section
section
section
namespace Go.Abs
open Go.RowKit
section
variable {P : Program} {T : TypeId → Option TI} {F0 : Nat → Prop} {w0 : World}
variable {dr : Bool} {ops rest : List Oper} {K : St → Prop} {n : Nat} {sl : List (Nat × SVal)} {mem : List Blk} {ck : Nat} {df : List (FuncId × List Cell)} {acc : List Nat}
variable {d : Tmp} {op : Op} {ty : TypeId} {pos : String} {aft : Array Edge} {g : Option (Nat × Bool)}
end
end Go.Abs
end
end
section
namespace Go.Proofs.YtojfhaoleedmkaaGreat
open Go.Abs Go.RowKit
attribute [local irreducible] ARun kont MCall PCall HCall resVal SF CF CFs defersOk slotsIn memIn fin finM VLe
set_option linter.unusedSimpArgs false
set_option maxRecDepth 100000
set_option maxHeartbeats 4000000
def firstV : List Val → Val
  | [] => Val.null
  | v :: _ => v
def vc (e : Entry) : Val × Int := (firstV e.row, e.count)
def vcs (l : List Entry) : List (Val × Int) := l.map vc
def ValC (L : List (Val × Int)) : Prop := ∀ x ∈ L, x.1.clean = x.1
end Go.Proofs.YtojfhaoleedmkaaGreat
end
end
section
section
namespace Go.Proofs.YtojfhaoleedmkaaGreat
open Go.Abs Go.RowKit
set_option linter.unusedSimpArgs false
set_option maxRecDepth 100000
theorem bytes_inj {a b : ByteArray} (h : a.toList = b.toList) : a = b := by
  rw [ByteArray.toList_eq, ByteArray.toList_eq] at h
  cases a; cases b
  simp only at h
  congr
  exact Array.toList_inj.1 h
theorem sv_iff {a b : Val} : sameVal a b = true ↔ a = b := by
  refine ⟨fun h => ?_, fun h => by rw [h]; exact sameVal_refl _⟩
  simp only [sameVal, Bool.and_eq_true, beq_iff_eq] at h
  obtain ⟨h1, h2, h3⟩ := h
  have := bytes_inj h3
  cases a; cases b; simp_all
theorem sr_iff : ∀ {r s : List Val}, sameRow r s = true ↔ r = s
  | [], [] => by simp [sameRow]
  | a :: x, b :: y => by simp [sameRow, sv_iff, sr_iff (r := x) (s := y)]
  | [], _ :: _ => by simp [sameRow]
  | _ :: _, [] => by simp [sameRow]
end Go.Proofs.YtojfhaoleedmkaaGreat
end
section
section
section
namespace Go.Abs
open Go.RowKit
section
variable {P : Program} {B : Base} {n : Nat} {sl : List (Nat × SVal)} {mem : List Blk} {ck : Nat} {df : List (FuncId × List Cell)} {Q : Ex → St → Prop}
end
section
variable {P : Program} {T : TypeId → Option TI} {F0 : Nat → Prop} {w0 : World}
variable {dr : Bool} {ops rest : List Oper} {K : St → Prop} {n : Nat} {sl : List (Nat × SVal)} {mem : List Blk} {ck : Nat} {df : List (FuncId × List Cell)} {acc : List Nat}
variable {d : Tmp} {op : Op} {ty : TypeId} {pos : String} {aft : Array Edge} {g : Option (Nat × Bool)}
end
end Go.Abs
end
end
section
section
namespace Go.Proofs.YtojfhaoleedmkaaGreat
open Go.Abs Go.RowKit
attribute [local irreducible] ARun kont MCall PCall HCall resVal SF CF CFs defersOk slotsIn memIn fin finM VLe
set_option linter.unusedSimpArgs false
set_option maxRecDepth 100000
set_option maxHeartbeats 4000000
noncomputable def foldP (f : Int) (b : List Entry) : Val := if positiveE b = true then foldE f (vcs b) else Val.null
end Go.Proofs.YtojfhaoleedmkaaGreat
end
section
namespace Go.Proofs.YtojfhaoleedmkaaGreat
open Go.Abs Go.RowKit
attribute [local irreducible] ARun kont MCall PCall HCall resVal SF CF CFs defersOk slotsIn memIn fin finM VLe
set_option linter.unusedSimpArgs false
set_option maxRecDepth 100000
set_option maxHeartbeats 4000000
def rowsD (l : List (List Val)) : Dat := .sl (l.map fun r => [rowD r])
def insE (x : Entry) : List Entry → List Entry
  | [] => [x]
  | o :: l => if rowCmp o.row x.row < 0 then o :: insE x l else x :: o :: l
def ltX (x o : Entry) : Bool := decide (rowCmp o.row x.row < 0)
def upR (a b : Entry) : Prop := ¬ rowCmp b.row a.row < 0
def valI (p : Entry → Bool) (f : Entry → Entry) (b : List Entry) : List Entry := b.foldl (fun o e => if p e = true then insE (f e) o else o) []
def kP (keys : List Itm) (key : List Val) (e : Entry) : Bool := sameRow (keyE keys e.row) key
def exF (ex : List Trm) (e : Entry) : Entry := ⟨[evE ex e.row], e.count⟩
end Go.Proofs.YtojfhaoleedmkaaGreat
end
end
end
end
end
section
namespace Go.Proofs.YtojfhaoleedmkaaGreat
open Go.Abs Go.RowKit
attribute [local irreducible] ARun kont MCall PCall HCall resVal SF CF CFs defersOk slotsIn memIn fin finM VLe
set_option linter.unusedSimpArgs false
set_option maxRecDepth 100000
set_option maxHeartbeats 4000000
theorem refExact_c (l : List Agg) (hl : l.length ≤ 100000) : PCall Tryz.prog 33 [.one (aggD l)] (.v (.one (.lit (.bool (exactE l))))) := by
  refine pcallN hT Tryz.func33 Tryz.ntmps33 [.tmp 2] fun B => ?_
  repeat' (first | refine ks ?_ | refine ko ?_ | refine s_indexD ?_ (hel := (by first | exact rfl)) | refine s_kT ?_ | refine s_kF ?_ | refine f_ret1 def_nil ?_ | refine t_tmp ?_)
  refine s_lp (X := Nat) [2, 3, 4, 5, 6, 7, 8, 9, 10, 11, 12, 13, 14, 15, 16, 17, 18, 19, 20, 21, 22, 23] (fun x => x ≤ l.length ∧ (l.take x).all (fun x => decide (x.func = 0 ∨ x.func = 1)) = true) (fun x lz => (3, (.c (.d (.lit (.int .i64 x))))) :: lz) (fun x => []) (fun x => l.length - x) (0) ?_ ?_ ?_ ?_
  repeat' (first | exact slots_nil | refine kw ?_ | exact memIn_nil | omega)
  · exact ⟨by simp, by simp⟩
  rintro i c ⟨hi, hinv⟩
  by_cases hlt : i < l.length
  · have hv : l[i]? = some l[i] := List.getElem?_eq_getElem hlt
    generalize l[i] = y at hv
    have hv2 : (l.map Agg.d)[i]? = some y.d := by rw [List.getElem?_map, hv]; rfl
    by_cases h0 : y.func = 0
    · repeat' (first | refine ks ?_ | refine ko ?_ | refine s_indexD ?_ (hel := (by first | exact idx_map hv2 (by omega) | exact hv2 | exact rfl)) | refine s_kT ?_ | refine s_kF ?_ | refine f_ret1 def_nil ?_ | refine t_tmp ?_)
      (apply s_round (i + 1); all_goals (try dsimp only); all_goals (try (repeat' (first | exact slots_nil | refine kw ?_ | exact memIn_nil | omega))))
      exact ⟨by omega, take_all (fun x : Agg => decide (x.func = 0 ∨ x.func = 1)) hv hinv (by simp [h0])⟩
    · by_cases h1 : y.func = 1
      · repeat' (first | refine ks ?_ | refine ko ?_ | refine s_indexD ?_ (hel := (by first | exact idx_map hv2 (by omega) | exact hv2 | exact rfl)) | refine s_kT ?_ | refine s_kF ?_ | refine f_ret1 def_nil ?_ | refine t_tmp ?_)
        (apply s_round (i + 1); all_goals (try dsimp only); all_goals (try (repeat' (first | exact slots_nil | refine kw ?_ | exact memIn_nil | omega))))
        exact ⟨by omega, take_all (fun x : Agg => decide (x.func = 0 ∨ x.func = 1)) hv hinv (by simp [h1])⟩
      · rw [exactE, not_all (fun x : Agg => decide (x.func = 0 ∨ x.func = 1)) hv (by simp [h0, h1])]
        repeat' (first | refine ks ?_ | refine ko ?_ | refine s_indexD ?_ (hel := (by first | exact idx_map hv2 (by omega) | exact hv2 | exact rfl)) | refine s_kT ?_ | refine s_kF ?_ | refine f_ret1 def_nil ?_ | refine t_tmp ?_)
        all_goals rfl
  · rw [take_ge (show l.length ≤ i by omega)] at hinv
    rw [exactE, hinv]
    repeat' (first | refine ks ?_ | refine ko ?_ | refine s_indexD ?_ (hel := (by first | exact rfl)) | refine s_kT ?_ | refine s_kF ?_ | refine f_ret1 def_nil ?_ | refine t_tmp ?_)
    all_goals rfl
theorem sameI_c (l : List Int) : PCall Tryz.prog 67 [.one (intsD l), .one (intsD l)] (.v (.one (.lit (.bool true)))) := by
  refine pcallN hT Tryz.func67 Tryz.ntmps67 [.tmp 4] fun B => ?_
  refine k_len 0 rfl fun hlr => ?_
  simp only [List.length_map, maxLen] at hlr
  repeat' (first | refine ks ?_ | refine ko ?_ | refine s_indexD ?_ (hel := (by first | exact rfl)) | refine f_ret1 def_nil ?_ | refine t_tmp ?_)
  refine s_lp (X := Nat) [4, 5, 11, 12, 13, 14, 15, 16, 17, 18, 19, 20, 21, 22, 23, 24, 25] (fun x => x ≤ l.length) (fun x lz => (5, (.c (.d (.lit (.int .i64 x))))) :: lz) (fun x => []) (fun x => l.length - x) (0) ?_ ?_ ?_ ?_
  repeat' (first | exact slots_nil | refine kw ?_ | exact memIn_nil | omega)
  rintro i c hi
  by_cases hlt : i < l.length
  · have hv : l[i]? = some l[i] := List.getElem?_eq_getElem hlt
    generalize l[i] = e at hv
    repeat' (first | refine ks ?_ | refine ko ?_ | refine s_indexD ?_ (hel := (by first | exact idx_map hv (by omega) | exact hv | exact rfl)) | refine f_ret1 def_nil ?_ | refine t_tmp ?_)
    (apply s_round (i + 1); all_goals (try dsimp only); all_goals (try (repeat' (first | exact slots_nil | refine kw ?_ | exact memIn_nil | omega))))
  · repeat' (first | refine ks ?_ | refine ko ?_ | refine s_indexD ?_ (hel := (by first | exact rfl)) | refine f_ret1 def_nil ?_ | refine t_tmp ?_)
    all_goals rfl
theorem sameG_c (l : List Sta) : PCall Tryz.prog 23 [.one (stsD l), .one (stsD l)] (.v (.one (.lit (.bool true)))) := by
  refine pcallN hT Tryz.func23 Tryz.ntmps23 [.tmp 4] fun B => ?_
  refine k_len 0 rfl fun hlr => ?_
  simp only [List.length_map, maxLen] at hlr
  repeat' (first | refine ks ?_ | refine ko ?_ | refine s_indexD ?_ (hel := (by first | exact rfl)) | refine s_kF ?_ | refine f_ret1 def_nil ?_ | refine t_tmp ?_)
  refine s_lp (X := Nat) [4, 5, 11, 12, 13, 14, 15, 16, 17, 18, 19, 20, 21, 22, 23, 24, 25, 26, 27, 28, 29, 30, 31, 32, 33, 34, 35, 36, 37, 38, 39, 40, 41, 42, 43, 44, 45, 46, 47, 48, 49, 50, 51, 52, 53, 54, 55, 56, 57, 58, 59, 60, 61, 62, 63, 64, 65, 66, 67, 68, 69] (fun x => x ≤ l.length) (fun x lz => (5, (.c (.d (.lit (.int .i64 x))))) :: lz) (fun x => []) (fun x => l.length - x) (0) ?_ ?_ ?_ ?_
  repeat' (first | exact slots_nil | refine kw ?_ | exact memIn_nil | omega)
  rintro i c hi
  by_cases hlt : i < l.length
  · have hv : l[i]? = some l[i] := List.getElem?_eq_getElem hlt
    generalize l[i] = e at hv
    have hv2 : (l.map Sta.d)[i]? = some e.d := by rw [List.getElem?_map, hv]; rfl
    have h1 := same01_c e.key e.key
    rw [show sameRow e.key e.key = true from sr_iff.2 rfl] at h1
    have h2 := sameI_c e.sums
    have h3 := sameI_c e.some
    repeat' (first | refine ks ?_ | refine ko ?_ | refine s_indexD ?_ (hel := (by first | exact idx_map hv2 (by omega) | exact hv2 | exact rfl)) | refine s_call (h1) ?_ | refine s_call (h2) ?_ | refine s_call (h3) ?_ | refine s_kF ?_ | refine f_ret1 def_nil ?_ | refine t_tmp ?_)
    (apply s_round (i + 1); all_goals (try dsimp only); all_goals (try (repeat' (first | exact slots_nil | refine kw ?_ | exact memIn_nil | omega))))
  · repeat' (first | refine ks ?_ | refine ko ?_ | refine s_indexD ?_ (hel := (by first | exact rfl)) | refine s_kF ?_ | refine f_ret1 def_nil ?_ | refine t_tmp ?_)
    all_goals rfl
def limP (t : Int × Int) : Bool := inW t.1 4611686018427387904 && inW t.2 1073741824
def limsE (s : Sta) : Bool := (s.sums.zip s.some).all limP && inW s.count 1073741824
def zerP (t : Int × Int) : Bool := decide (t.1 = 0) && decide (t.2 = 0)
def emptyE (s : Sta) : Bool := (s.sums.zip s.some).all zerP && decide (s.count = 0)
end Go.Proofs.YtojfhaoleedmkaaGreat
end
end
section
namespace Go.Proofs.YtojfhaoleedmkaaGreat
open Go.Abs Go.RowKit
set_option linter.unusedSimpArgs false
set_option maxRecDepth 100000
def w64 (z : Int) : Int := IntKind.i64.wrap z
def plusS (s t : Sta) : Sta := ⟨s.key, w64 (s.count + t.count), List.zipWith (fun x y => w64 (x + y)) s.sums t.sums, List.zipWith (fun x y => w64 (x + y)) s.some t.some⟩
def mergeS : List Sta → List Sta → List Sta
  | [], d => d
  | g, [] => g
  | x :: g, y :: d => if rowCmp x.key y.key < 0 then x :: mergeS g (y :: d) else if 0 < rowCmp x.key y.key then y :: mergeS (x :: g) d else plusS x y :: mergeS g d
termination_by g d => g.length + d.length
theorem mergeS_nil (a : List Sta) : mergeS a [] = a := by cases a <;> simp [mergeS]
theorem mergeS_nil' (b : List Sta) : mergeS [] b = b := by simp [mergeS]
def sR (x y : Sta) : Prop := rowCmp x.key y.key < 0
theorem sR_irr (x : Sta) : ¬ sR x x := by unfold sR; rw [rowCmp_ok.refl]; omega
theorem sR_tr (x y z : Sta) (h1 : sR x y) (h2 : sR y z) : sR x z := rowCmp_ok.trans _ _ _ h1 h2
def clS (l : List Sta) : Prop := ∀ s ∈ l, rowClean s.key
theorem mem_mergeS {s : Sta} : ∀ {g d : List Sta}, g.Pairwise sR → d.Pairwise sR → clS g → clS d → (s ∈ mergeS g d ↔ (s ∈ g ∧ ∀ t ∈ d, t.key ≠ s.key) ∨ (s ∈ d ∧ ∀ t ∈ g, t.key ≠ s.key) ∨ ∃ x ∈ g, ∃ y ∈ d, x.key = y.key ∧ s = plusS x y) := by
  intro g d
  induction g, d using mergeS.induct with
  | case1 d => intro _ _ _ _; rw [mergeS_nil']; simp
  | case2 g h => intro _ _ _ _; rw [mergeS_nil]; simp
  | case3 x g y d n1 ih =>
    intro hg hd cg cd
    rw [mergeS, if_pos n1, List.mem_cons, ih (List.pairwise_cons.1 hg).2 hd (fun s hs => cg s (by simp [hs])) cd]
    have hx : ∀ t ∈ y :: d, t.key ≠ x.key := fun t ht he => by
      have : sR x t := by
        rcases List.mem_cons.1 ht with rfl | ht
        · exact n1
        · exact sR_tr x y t n1 ((List.pairwise_cons.1 hd).1 t ht)
      unfold sR at this
      rw [he, rowCmp_ok.refl] at this; omega
    constructor
    · rintro (rfl | ⟨h1, h2⟩ | ⟨h1, h2⟩ | ⟨a, h1, b, h2, h3, h4⟩)
      · exact .inl ⟨by simp, hx⟩
      · exact .inl ⟨by simp [h1], h2⟩
      · refine .inr (.inl ⟨h1, fun t ht => ?_⟩)
        rcases List.mem_cons.1 ht with rfl | ht
        · exact fun e => hx s h1 e.symm
        · exact h2 t ht
      · exact .inr (.inr ⟨a, by simp [h1], b, h2, h3, h4⟩)
    · rintro (⟨h1, h2⟩ | ⟨h1, h2⟩ | ⟨a, h1, b, h2, h3, h4⟩)
      · rcases List.mem_cons.1 h1 with rfl | h1
        · exact .inl rfl
        · exact .inr (.inl ⟨h1, h2⟩)
      · exact .inr (.inr (.inl ⟨h1, fun t ht => h2 t (by simp [ht])⟩))
      · rcases List.mem_cons.1 h1 with rfl | h1
        · exact absurd h3.symm (hx b h2)
        · exact .inr (.inr (.inr ⟨a, h1, b, h2, h3, h4⟩))
  | case4 x g y d n1 n2 ih =>
    intro hg hd cg cd
    rw [mergeS, if_neg n1, if_pos n2, List.mem_cons, ih hg (List.pairwise_cons.1 hd).2 cg (fun s hs => cd s (by simp [hs]))]
    have hyx : sR y x := by
      have := rowCmp_ok.anti x.key y.key
      unfold sR; omega
    have hx : ∀ t ∈ x :: g, t.key ≠ y.key := fun t ht he => by
      have : sR y t := by
        rcases List.mem_cons.1 ht with rfl | ht
        · exact hyx
        · exact sR_tr y x t hyx ((List.pairwise_cons.1 hg).1 t ht)
      unfold sR at this
      rw [he, rowCmp_ok.refl] at this; omega
    constructor
    · rintro (rfl | ⟨h1, h2⟩ | ⟨h1, h2⟩ | ⟨a, h1, b, h2, h3, h4⟩)
      · exact .inr (.inl ⟨by simp, hx⟩)
      · refine .inl ⟨h1, fun t ht => ?_⟩
        rcases List.mem_cons.1 ht with rfl | ht
        · exact fun e => hx s h1 e.symm
        · exact h2 t ht
      · exact .inr (.inl ⟨by simp [h1], h2⟩)
      · exact .inr (.inr ⟨a, h1, b, by simp [h2], h3, h4⟩)
    · rintro (⟨h1, h2⟩ | ⟨h1, h2⟩ | ⟨a, h1, b, h2, h3, h4⟩)
      · exact .inr (.inl ⟨h1, fun t ht => h2 t (by simp [ht])⟩)
      · rcases List.mem_cons.1 h1 with rfl | h1
        · exact .inl rfl
        · exact .inr (.inr (.inl ⟨h1, h2⟩))
      · rcases List.mem_cons.1 h2 with rfl | h2
        · exact absurd h3 (hx a h1)
        · exact .inr (.inr (.inr ⟨a, h1, b, h2, h3, h4⟩))
  | case5 x g y d n1 n2 ih =>
    intro hg hd cg cd
    have hk : x.key = y.key := clean_eq (cg x (by simp)) (cd y (by simp)) (by omega)
    rw [mergeS, if_neg n1, if_neg n2, List.mem_cons, ih (List.pairwise_cons.1 hg).2 (List.pairwise_cons.1 hd).2 (fun s hs => cg s (by simp [hs])) (fun s hs => cd s (by simp [hs]))]
    have hgx : ∀ t ∈ g, t.key ≠ x.key := fun t ht he => by
      have := (List.pairwise_cons.1 hg).1 t ht
      unfold sR at this
      rw [he, rowCmp_ok.refl] at this; omega
    have hdx : ∀ t ∈ d, t.key ≠ x.key := fun t ht he => by
      have := (List.pairwise_cons.1 hd).1 t ht
      unfold sR at this
      rw [he, hk, rowCmp_ok.refl] at this; omega
    constructor
    · rintro (rfl | ⟨h1, h2⟩ | ⟨h1, h2⟩ | ⟨a, h1, b, h2, h3, h4⟩)
      · exact .inr (.inr ⟨x, by simp, y, by simp, hk, rfl⟩)
      · refine .inl ⟨by simp [h1], fun t ht => ?_⟩
        rcases List.mem_cons.1 ht with rfl | ht
        · exact fun e => hgx s h1 (e.symm.trans hk.symm)
        · exact h2 t ht
      · refine .inr (.inl ⟨by simp [h1], fun t ht => ?_⟩)
        rcases List.mem_cons.1 ht with rfl | ht
        · exact fun e => hdx s h1 e.symm
        · exact h2 t ht
      · exact .inr (.inr ⟨a, by simp [h1], b, by simp [h2], h3, h4⟩)
    · rintro (⟨h1, h2⟩ | ⟨h1, h2⟩ | ⟨a, h1, b, h2, h3, h4⟩)
      · rcases List.mem_cons.1 h1 with rfl | h1
        · exact absurd hk.symm (h2 y (by simp))
        · exact .inr (.inl ⟨h1, fun t ht => h2 t (by simp [ht])⟩)
      · rcases List.mem_cons.1 h1 with rfl | h1
        · exact absurd hk (h2 x (by simp))
        · exact .inr (.inr (.inl ⟨h1, fun t ht => h2 t (by simp [ht])⟩))
      · rcases List.mem_cons.1 h1 with rfl | h1
        · rcases List.mem_cons.1 h2 with rfl | h2
          · exact .inl h4
          · exact absurd h3.symm (hdx b h2)
        · rcases List.mem_cons.1 h2 with rfl | h2
          · exact absurd (h3.trans hk.symm) (hgx a h1)
          · exact .inr (.inr (.inr ⟨a, h1, b, h2, h3, h4⟩))
theorem mergeS_key {g d : List Sta} : ∀ {s : Sta}, s ∈ mergeS g d → ∃ x, (x ∈ g ∨ x ∈ d) ∧ x.key = s.key := by
  induction g, d using mergeS.induct with
  | case1 d => intro s h; rw [mergeS_nil'] at h; exact ⟨s, .inr h, rfl⟩
  | case2 g _ => intro s h; rw [mergeS_nil] at h; exact ⟨s, .inl h, rfl⟩
  | case3 x g y d h ih =>
    intro s hs
    rw [mergeS, if_pos h] at hs
    rcases List.mem_cons.1 hs with rfl | hs
    · exact ⟨s, .inl (by simp), rfl⟩
    · obtain ⟨z, hz, he⟩ := ih hs
      exact ⟨z, hz.imp (fun q => by simp [q]) id, he⟩
  | case4 x g y d h1 h2 ih =>
    intro s hs
    rw [mergeS, if_neg h1, if_pos h2] at hs
    rcases List.mem_cons.1 hs with rfl | hs
    · exact ⟨s, .inr (by simp), rfl⟩
    · obtain ⟨z, hz, he⟩ := ih hs
      exact ⟨z, hz.imp id (fun q => by simp [q]), he⟩
  | case5 x g y d h1 h2 ih =>
    intro s hs
    rw [mergeS, if_neg h1, if_neg h2] at hs
    rcases List.mem_cons.1 hs with rfl | hs
    · exact ⟨x, .inl (by simp), rfl⟩
    · obtain ⟨z, hz, he⟩ := ih hs
      exact ⟨z, hz.imp (fun q => by simp [q]) (fun q => by simp [q]), he⟩
theorem mergeS_up : ∀ {g d : List Sta}, g.Pairwise sR → d.Pairwise sR → clS g → clS d → (mergeS g d).Pairwise sR := by
  intro g d
  induction g, d using mergeS.induct with
  | case1 d => intro _ h _ _; rw [mergeS_nil']; exact h
  | case2 g _ => intro h _ _ _; rw [mergeS_nil]; exact h
  | case3 x g y d h ih =>
    intro hg hd cg cd
    rw [mergeS, if_pos h]
    refine List.pairwise_cons.2 ⟨fun s hs => ?_, ih (List.pairwise_cons.1 hg).2 hd (fun s hs => cg s (by simp [hs])) cd⟩
    obtain ⟨z, hz, he⟩ := mergeS_key hs
    show rowCmp x.key s.key < 0
    rw [← he]
    rcases hz with hz | hz
    · exact (List.pairwise_cons.1 hg).1 z hz
    · rcases List.mem_cons.1 hz with rfl | hz
      · exact h
      · exact sR_tr x y z h ((List.pairwise_cons.1 hd).1 z hz)
  | case4 x g y d h1 h2 ih =>
    intro hg hd cg cd
    have hyx : sR y x := by
      have := rowCmp_ok.anti x.key y.key
      unfold sR; omega
    rw [mergeS, if_neg h1, if_pos h2]
    refine List.pairwise_cons.2 ⟨fun s hs => ?_, ih hg (List.pairwise_cons.1 hd).2 cg (fun s hs => cd s (by simp [hs]))⟩
    obtain ⟨z, hz, he⟩ := mergeS_key hs
    show rowCmp y.key s.key < 0
    rw [← he]
    rcases hz with hz | hz
    · rcases List.mem_cons.1 hz with rfl | hz
      · exact hyx
      · exact sR_tr y x z hyx ((List.pairwise_cons.1 hg).1 z hz)
    · exact (List.pairwise_cons.1 hd).1 z hz
  | case5 x g y d h1 h2 ih =>
    intro hg hd cg cd
    have hk : x.key = y.key := clean_eq (cg x (by simp)) (cd y (by simp)) (by omega)
    rw [mergeS, if_neg h1, if_neg h2]
    refine List.pairwise_cons.2 ⟨fun s hs => ?_, ih (List.pairwise_cons.1 hg).2 (List.pairwise_cons.1 hd).2 (fun s hs => cg s (by simp [hs])) (fun s hs => cd s (by simp [hs]))⟩
    obtain ⟨z, hz, he⟩ := mergeS_key hs
    show rowCmp x.key s.key < 0
    rw [← he]
    rcases hz with hz | hz
    · exact (List.pairwise_cons.1 hg).1 z hz
    · rw [hk]; exact (List.pairwise_cons.1 hd).1 z hz
def atR (kf : List Val → List Val) (k : List Val) (f : List Val → Int) (r : List Val) : Int := if rowCmp (kf r) k = 0 then f r else 0
def suR (x : Agg) (r : List Val) : Int := if x.func = 1 then (if (evE x.expr r).kind = 1 then (evE x.expr r).int else 0) else 0
def coR (x : Agg) (r : List Val) : Int := if x.func = 1 then (if (evE x.expr r).kind = 1 then 1 else 0) else 0
theorem wS_atR (kf : List Val → List Val) (k : List Val) (f : List Val → Int) (b : List Entry) : wS f (b.filter (atK kf k)) = wS (atR kf k f) b := by
  induction b with
  | nil => rfl
  | cons e b ih =>
    rw [List.filter_cons, wS, ← ih]
    unfold atK atR
    by_cases h : rowCmp (kf e.row) k = 0
    · simp only [h, decide_true, if_true, wS]
    · simp only [h, decide_false, if_false, Bool.false_eq_true]; omega
theorem nE_w (es : List Entry) : nE es = wS (fun _ => 1) es := by
  induction es with
  | nil => rfl
  | cons e es ih =>
    have : nE (e :: es) = e.count + nE es := by simp [nE]
    rw [this, ih, wS]; omega
theorem suE_w (es : List Entry) (x : Agg) : suE es x = wS (suR x) es := by
  unfold suE
  by_cases h : x.func = 1
  · rw [if_pos h]
    induction es with
    | nil => rfl
    | cons e es ih =>
      have : sumV (valsE x (e :: es)) = (if (vlE x e).1.kind = 1 then (vlE x e).1.int * (vlE x e).2 else 0) + sumV (valsE x es) := by simp [sumV, valsE]
      rw [this, ih, wS]
      unfold vlE suR
      rw [if_neg (show ¬ x.func = 0 by omega), if_pos h]
      dsimp only
      split
      · rw [Int.mul_comm]
      · omega
  · rw [if_neg h]
    have : wS (suR x) es = wS (fun _ => 0) es := wS_congr fun e _ => by unfold suR; rw [if_neg h]
    rw [this, wS_zero]
theorem coE_w (es : List Entry) (x : Agg) : coE es x = wS (coR x) es := by
  unfold coE
  by_cases h : x.func = 1
  · rw [if_pos h]
    induction es with
    | nil => rfl
    | cons e es ih =>
      have : cntV (valsE x (e :: es)) = (if (vlE x e).1.kind = 1 then (vlE x e).2 else 0) + cntV (valsE x es) := by simp [cntV, valsE]
      rw [this, ih, wS]
      unfold vlE coR
      rw [if_neg (show ¬ x.func = 0 by omega), if_pos h]
      dsimp only
      split <;> omega
  · rw [if_neg h]
    have : wS (coR x) es = wS (fun _ => 0) es := wS_congr fun e _ => by unfold coR; rw [if_neg h]
    rw [this, wS_zero]
def stT (ag : List Agg) (kf : List Val → List Val) (b : List Entry) (k : List Val) : Sta :=
  ⟨k, wS (atR kf k fun _ => 1) b, ag.map fun x => wS (atR kf k (suR x)) b, ag.map fun x => wS (atR kf k (coR x)) b⟩
theorem stT_says (ag : List Agg) (kf : List Val → List Val) (b : List Entry) (k : List Val) : stE ag (k, b.filter (atK kf k)) = stT ag kf b k := by
  unfold stE stT
  dsimp only
  rw [nE_w, wS_atR]
  congr 1
  · exact List.map_congr_left fun x _ => by rw [suE_w, wS_atR]
  · exact List.map_congr_left fun x _ => by rw [coE_w, wS_atR]
def stsE (ag : List Agg) (kf : List Val → List Val) (b : List Entry) : List Sta := ((keysE b kf).map (stT ag kf b)).filter nzS
theorem stsE_says (ag : List Agg) (kf : List Val → List Val) (b : List Entry) : ((grpE b kf).map (stE ag)).filter nzS = stsE ag kf b := by
  unfold grpE stsE
  rw [List.map_map]
  congr 1
  exact List.map_congr_left fun k _ => stT_says ag kf b k
theorem zero_iff (s : Sta) : s.zero = true ↔ s.count = 0 ∧ (∀ n ∈ s.sums, n = 0) ∧ ∀ n ∈ s.some, n = 0 := by
  unfold Sta.zero
  simp only [Bool.and_eq_true, decide_eq_true_eq, Bool.not_eq_true', List.any_eq_false, decide_eq_true_eq, ne_eq, Decidable.not_not, and_assoc]
theorem stT_none {ag : List Agg} {kf : List Val → List Val} {b : List Entry} {k : List Val} (h : ∀ e ∈ b, kf e.row ≠ k) (hk : CleanK b kf) (hc : rowClean k) : (stT ag kf b k).zero = true := by
  have hz : ∀ f, wS (atR kf k f) b = 0 := fun f => by
    rw [wS_congr (g := fun _ => 0) fun e he => ?_, wS_zero]
    unfold atR
    rw [if_neg fun q => h e he (clean_eq (hk e he) hc q)]
  rw [zero_iff]
  refine ⟨hz _, fun n hn => ?_, fun n hn => ?_⟩
  · obtain ⟨x, _, rfl⟩ := List.mem_map.1 hn; exact hz _
  · obtain ⟨x, _, rfl⟩ := List.mem_map.1 hn; exact hz _
theorem stsE_mem {ag : List Agg} {kf : List Val → List Val} {b : List Entry} (hk : CleanK b kf) {s : Sta} : s ∈ stsE ag kf b ↔ s.zero = false ∧ rowClean s.key ∧ s = stT ag kf b s.key := by
  obtain ⟨_, k2, k3⟩ := keys_says hk
  constructor
  · intro h
    obtain ⟨h1, h2⟩ := List.mem_filter.1 h
    obtain ⟨k, hkm, rfl⟩ := List.mem_map.1 h1
    exact ⟨by simpa [nzS] using h2, k2 k hkm, rfl⟩
  · rintro ⟨h1, h2, h3⟩
    refine List.mem_filter.2 ⟨List.mem_map.2 ⟨s.key, (k3 _).2 ?_, h3.symm⟩, by unfold nzS; rw [h1]; rfl⟩
    apply Classical.byContradiction
    intro hn
    have := stT_none (ag := ag) (b := b) (kf := kf) (k := s.key) (fun e he q => hn ⟨e, he, q⟩) hk h2
    rw [← h3, h1] at this; cases this
theorem stsE_up {ag : List Agg} {kf : List Val → List Val} {b : List Entry} (hk : CleanK b kf) : (stsE ag kf b).Pairwise sR ∧ clS (stsE ag kf b) := by
  obtain ⟨k1, k2, _⟩ := keys_says hk
  refine ⟨List.Pairwise.sublist List.filter_sublist ?_, fun s hs => ((stsE_mem hk).1 hs).2.1⟩
  rw [List.pairwise_map]
  exact k1
def sml (n : Int) : Prop := -4611686018427387904 ≤ n ∧ n ≤ 4611686018427387903
def SmlS (s : Sta) : Prop := sml s.count ∧ (∀ n ∈ s.sums, sml n) ∧ ∀ n ∈ s.some, sml n
theorem w64_add {x y : Int} (hx : sml x) (hy : sml y) : w64 (x + y) = x + y := by
  unfold sml at hx hy
  exact wrap_i64 (by omega) (by omega)
theorem zip_w {α : Type} {f g : α → Int} {l : List α} (hf : ∀ n ∈ l.map f, sml n) (hg : ∀ n ∈ l.map g, sml n) : List.zipWith (fun x y => w64 (x + y)) (l.map f) (l.map g) = l.map fun x => f x + g x := by
  induction l with
  | nil => rfl
  | cons a l ih =>
    rw [List.map_cons, List.map_cons, List.zipWith_cons_cons, List.map_cons, w64_add (hf _ (by simp)) (hg _ (by simp)), ih (fun n hn => hf n (by simp [hn])) (fun n hn => hg n (by simp [hn]))]
theorem stT_plus {ag : List Agg} {kf : List Val → List Val} {a b s : List Entry} (h : ∀ g, wS g s = wS g a + wS g b) {k : List Val} (ha : SmlS (stT ag kf a k)) (hb : SmlS (stT ag kf b k)) : plusS (stT ag kf a k) (stT ag kf b k) = stT ag kf s k := by
  unfold plusS
  rw [w64_add ha.1 hb.1]
  show Sta.mk k _ _ _ = Sta.mk k _ _ _
  congr 1
  · exact (h _).symm
  · rw [show (stT ag kf a k).sums = ag.map fun x => wS (atR kf k (suR x)) a from rfl, show (stT ag kf b k).sums = ag.map fun x => wS (atR kf k (suR x)) b from rfl, zip_w ha.2.1 hb.2.1]
    exact List.map_congr_left fun x _ => (h _).symm
  · rw [show (stT ag kf a k).some = ag.map fun x => wS (atR kf k (coR x)) a from rfl, show (stT ag kf b k).some = ag.map fun x => wS (atR kf k (coR x)) b from rfl, zip_w ha.2.2 hb.2.2]
    exact List.map_congr_left fun x _ => (h _).symm
theorem plus_zero {ag : List Agg} {kf : List Val → List Val} {a b : List Entry} {k : List Val} (ha : SmlS (stT ag kf a k)) (hb : (stT ag kf b k).zero = true) : plusS (stT ag kf a k) (stT ag kf b k) = stT ag kf a k := by
  obtain ⟨z1, z2, z3⟩ := (zero_iff _).1 hb
  have s0 : sml 0 := by unfold sml; omega
  have hB : SmlS (stT ag kf b k) := ⟨by rw [z1]; exact s0, fun n hn => by rw [z2 n hn]; exact s0, fun n hn => by rw [z3 n hn]; exact s0⟩
  unfold plusS
  rw [w64_add ha.1 hB.1, z1, Int.add_zero]
  show Sta.mk k _ _ _ = Sta.mk k _ _ _
  congr 1
  · rw [show (stT ag kf a k).sums = ag.map fun x => wS (atR kf k (suR x)) a from rfl, show (stT ag kf b k).sums = ag.map fun x => wS (atR kf k (suR x)) b from rfl, zip_w ha.2.1 hB.2.1]
    exact List.map_congr_left fun x hx => by rw [z2 _ (List.mem_map.2 ⟨x, hx, rfl⟩), Int.add_zero]
  · rw [show (stT ag kf a k).some = ag.map fun x => wS (atR kf k (coR x)) a from rfl, show (stT ag kf b k).some = ag.map fun x => wS (atR kf k (coR x)) b from rfl, zip_w ha.2.2 hB.2.2]
    exact List.map_congr_left fun x hx => by rw [z3 _ (List.mem_map.2 ⟨x, hx, rfl⟩), Int.add_zero]
theorem zero_plus {ag : List Agg} {kf : List Val → List Val} {a b s : List Entry} (h : ∀ g, wS g s = wS g a + wS g b) {k : List Val} (ha : SmlS (stT ag kf a k)) (hb : SmlS (stT ag kf b k)) (hz : (stT ag kf a k).zero = true) : stT ag kf s k = stT ag kf b k := by
  rw [← stT_plus (s := s) (a := b) (b := a) (fun g => by rw [h]; omega) hb ha]
  exact plus_zero hb hz
theorem merge_states {ag : List Agg} {kf : List Val → List Val} {a b s : List Entry} (h : ∀ g, wS g s = wS g a + wS g b) (ka : CleanK a kf) (kb : CleanK b kf) (ks : CleanK s kf) (ha : ∀ k, SmlS (stT ag kf a k)) (hb : ∀ k, SmlS (stT ag kf b k)) : (mergeS (stsE ag kf a) (stsE ag kf b)).filter nzS = stsE ag kf s := by
  obtain ⟨ua, ca⟩ := stsE_up (ag := ag) ka
  obtain ⟨ub, cb⟩ := stsE_up (ag := ag) kb
  obtain ⟨us, cs⟩ := stsE_up (ag := ag) ks
  refine sorted_unique sR_irr sR_tr (List.Pairwise.sublist List.filter_sublist (mergeS_up ua ub ca cb)) us fun x => ?_
  rw [List.mem_filter, mem_mergeS ua ub ca cb, stsE_mem ks]
  have hnz : nzS x = true ↔ x.zero = false := by unfold nzS; simp
  rw [hnz]
  constructor
  · rintro ⟨h1, h2⟩
    refine ⟨h2, ?_⟩
    rcases h1 with ⟨h1, h3⟩ | ⟨h1, h3⟩ | ⟨y, hy, z, hz, h3, rfl⟩
    · obtain ⟨_, c1, e1⟩ := (stsE_mem ka).1 h1
      refine ⟨c1, ?_⟩
      have hzb : (stT ag kf b x.key).zero = true := by
        apply Classical.byContradiction
        intro hn
        exact h3 (stT ag kf b x.key) ((stsE_mem kb).2 ⟨by simpa using hn, c1, rfl⟩) rfl
      rw [← stT_plus h (ha _) (hb _), plus_zero (ha _) hzb]; exact e1
    · obtain ⟨_, c1, e1⟩ := (stsE_mem kb).1 h1
      refine ⟨c1, ?_⟩
      have hza : (stT ag kf a x.key).zero = true := by
        apply Classical.byContradiction
        intro hn
        exact h3 (stT ag kf a x.key) ((stsE_mem ka).2 ⟨by simpa using hn, c1, rfl⟩) rfl
      rw [zero_plus h (ha _) (hb _) hza]; exact e1
    · obtain ⟨_, c1, e1⟩ := (stsE_mem ka).1 hy
      obtain ⟨_, _, e2⟩ := (stsE_mem kb).1 hz
      refine ⟨c1, ?_⟩
      show plusS y z = stT ag kf s y.key
      rw [e1, e2, ← h3]
      exact stT_plus h (ha _) (hb _)
  · rintro ⟨h1, h2, h3⟩
    refine ⟨?_, h1⟩
    cases za : (stT ag kf a x.key).zero with
    | true =>
      have e1 := zero_plus h (ha x.key) (hb x.key) za
      refine .inr (.inl ⟨(stsE_mem kb).2 ⟨h1, h2, h3.trans e1⟩, fun t ht q => ?_⟩)
      obtain ⟨q1, _, q3⟩ := (stsE_mem ka).1 ht
      rw [q] at q3
      rw [q3, za] at q1; cases q1
    | false =>
      cases zb : (stT ag kf b x.key).zero with
      | true =>
        have e1 := plus_zero (ag := ag) (kf := kf) (b := b) (ha x.key) zb
        rw [stT_plus h (ha _) (hb _)] at e1
        refine .inl ⟨(stsE_mem ka).2 ⟨h1, h2, h3.trans e1⟩, fun t ht q => ?_⟩
        obtain ⟨q1, _, q3⟩ := (stsE_mem kb).1 ht
        rw [q] at q3
        rw [q3, zb] at q1; cases q1
      | false =>
        refine .inr (.inr ⟨stT ag kf a x.key, (stsE_mem ka).2 ⟨za, h2, rfl⟩, stT ag kf b x.key, (stsE_mem kb).2 ⟨zb, h2, rfl⟩, rfl, ?_⟩)
        rw [stT_plus h (ha _) (hb _)]; exact h3
end Go.Proofs.YtojfhaoleedmkaaGreat
end
