/-
  Views: whether the right source counts, whether a view can be derived, the join of its sources, and the changed bags.
-/
import Derived.Test.YtmpgmjlanngkfaaGreatExg
import Derived.Test.YtmpgmjlanngkfaaGreatExn
import Derived.Test.YtmpgmjlanngkfaaGreatSam
import Derived.Test.YtmpgmjlanngkfaaGreatNrm
import Derived.Test.YtmpgmjlanngkfaaGreatTap
import Derived.Test.YtmpgmjlanngkfaaGreatAgt
import Derived.Test.YtmpgmjlanngkfaaGreatBag
import Derived.Test.YtmpgmjlanngkfaaGreatAgj
import Derived.Test.YtmpgmjlanngkfaaGreatTny
import Derived.Test.YtmpgmjlanngkfaaGreatTab
section
namespace Go.Proofs.YtmpgmjlanngkfaaGreat
open Go.Abs Go.RowKit
attribute [local irreducible] ARun Aq MCall PCall HCall Am SF CF CFs Af Al Ap B5 AW VLe
set_option linter.unusedSimpArgs false
set_option maxRecDepth 100000
set_option maxHeartbeats 4000000
theorem Gz : DeferOk Tryz.prog 147 0 := by
 refine ⟨⟨_, Tryz.func147, by kernel_rfl, by kernel_rfl⟩, fun vs w hl => ?_⟩
 match vs, hl with
 | [], _ =>
   refine callsD_of_wpS Tryz.func147 rfl fun c₀ cs hu => ?_
   apply wpS_region
   simp [wpOpsS, go_sem, recoverD, hu, Tryz.ntmps147, Exit.thenS]
   cases c₀
   simp_all [bodyPostS, results, Tryz.results147]
def J5 (items : List (List Trm)) (e : Entry) : Entry := ⟨items.map fun t => GX t e.row, e.count⟩
def Hd (b : List Entry) (items : List (List Trm)) : List Entry × Int :=
 if Aj b && decide (items.length ≤ 8) then A9 (b.map (J5 items)) else ([], 1)
theorem YN (b : List Entry) (items : List (List Trm)) : PC 91 [.one (Ao b), .one (Pu items)] (B4 (Hd b items)) := by
 have hv := Cb b
 by_cases hil : 8 < items.length
 ·rw [show Hd b items = ([], 1) by rw [Hd, decide_eq_false (by omega), Bool.and_false]; rfl]
  refine Ad hT Tryz.func91 Tryz.ntmps91 [.tmp 4, .tmp 5] fun B => ?_
  repeat' first | refine kz ?_ | refine As ?_ | refine kf ?_ | refine Ar (by repeat (first | exact Ac | refine Ah Gz ?_)) ?_ ?_
  all_goals rfl
 cases hb : Aj b
 ·rw [show Hd b items = ([], 1) by rw [Hd, hb]; rfl]
  rw [hb] at hv
  refine Ad hT Tryz.func91 Tryz.ntmps91 [.tmp 4, .tmp 5] fun B => ?_
  repeat' first | refine kz ?_ | refine As ?_ | refine Aa (hv) ?_ | refine kf ?_ | refine Ar (by repeat (first | exact Ac | refine Ah Gz ?_)) ?_ ?_
  all_goals rfl
 rw [hb] at hv
 obtain ⟨bl, bm⟩ := AG hb
 have hpe : Hd b items = A9 (b.map (J5 items)) := by rw [Hd, hb, decide_eq_true (by omega)]; rfl
 rw [hpe]
 have hno := HG (b.map (J5 items)) (by simp; omega)
 generalize hN : A9 (b.map (J5 items)) = R at hno ⊢
 clear hN hpe
 unfold Pu
 refine Ad hT Tryz.func91 Tryz.ntmps91 [.tmp 4, .tmp 5] fun B => ?_
 repeat' first | refine kz ?_ | refine As ?_ | refine Aa (hv) ?_ | refine kf ?_ | refine Ar (by repeat (first | exact Ac | refine Ah Gz ?_)) ?_ ?_
 refine CN 6 56 2 ?_
 refine AY (X := Nat × Nat) ([6] ++ List.range' 8 4 ++ List.range' 22 30) (fun x => x.1 ≤ b.length) (fun x lz => (6, .c (.arr 0 x.2 (b.take x.1).length)) :: (22, (iC x.1)) :: lz) (fun x => [.arr x.2 56 2 (((b.take x.1).map (J5 items)).map Entry.d)]) (fun x => b.length - x.1) ((0, 1)) ?_ ?_ ?_ ?_
 repeat' first | exact k0 | refine kw ?_ | refine kv ?_ ?_ | omega
 rintro ⟨i, k⟩ c0 hi
 dsimp only at hi ⊢
 by_cases hlt2 : i < b.length
 ·obtain ⟨e, hx⟩ := gx hlt2
  have htk : b.take (i + 1) = b.take i ++ [e] := by rw [KL, hx]; rfl
  have htl : (b.take i).length = i := by simp; omega
  repeat' first | refine kz ?_ | refine AT hx ?_ | refine As ?_ | refine kh ?_ ?_ | exact ⟨⟩ | fail
  refine AY (X := Nat) ([10, 11] ++ List.range' 31 13) (fun x => x ≤ items.length) (fun x lz => (31, (iC x)) :: lz) (fun x => [.arr k 56 2 (((b.take i).map (J5 items)).map Entry.d), .box (c0 + 1) [.d (BS e.row), .d (.lit (.int .i64 e.count))], .arr (c0 + 1 + 1) 73 3 (((items.take x).map fun t => (GX t e.row).d) ++ List.replicate (items.length - x) Val.null.d)]) (fun x => items.length - x) (0) ?_ ?_ ?_ ?_
  repeat' first | exact k0 | refine kw ?_ | refine kv ?_ ?_ | omega
  rintro j c hj
  by_cases hlt3 : j < items.length
  ·obtain ⟨t, hy⟩ := gx hlt3
   have hy2 : (items.map fun s => [BR s])[j]? = some [BR t] := by rw [Ci, hy]; rfl
   have htk2 : items.take (j + 1) = items.take j ++ [t] := by rw [KL, hy]; rfl
   have hat := F8 t e.row
   have hrep : List.replicate (items.length - j) Val.null.d = Val.null.d :: List.replicate (items.length - (j + 1)) Val.null.d := by rw [show items.length - j = (items.length - (j + 1)) + 1 by omega, ZH]
   have he : (((items.take j).map fun t => (GX t e.row).d) ++ List.replicate (items.length - j) Val.null.d)[j]? = some Val.null.d := by rw [hrep, LH (by simp; omega)]; simp [X6 hj]
   have hset : (((items.take j).map fun t => (GX t e.row).d) ++ List.replicate (items.length - j) Val.null.d).set j (GX t e.row).d = ((items.take (j + 1)).map fun t => (GX t e.row).d) ++ List.replicate (items.length - (j + 1)) Val.null.d := by
    rw [hrep, VL _ _ (by simp; omega), htk2]; simp [X6 hj]
   repeat' first | refine kz ?_ | refine AT hx ?_ | refine AT hy2 ?_ | refine AT he ?_ | refine As ?_ | refine Aa (hat) ?_ | refine kh ?_ ?_ | exact ⟨⟩ | fail
   apply Ae (j + 1) <;> (try dsimp only) <;> try repeat' first | exact k0 | refine kw ?_ | refine kv ?_ ?_ | omega
   exact hset
  ·have hje : j = items.length := by omega
   subst hje
   have hcf : CFrs 2 (c0 + 1 + 1) (((items.take items.length).map fun t => (GX t e.row).d) ++ List.replicate (items.length - items.length) Val.null.d) [.arr 2 (c0 + 1 + 1) items.length, .d (.lit (.int .i64 e.count))] (J5 items e).d := ⟨.inl ⟨_, rfl, by simp, by rw [Ua (by simp)]; simp [J5, BS, X8, Function.comp_def]⟩, .inr rfl, trivial⟩
   repeat' first | refine kz ?_ | refine AT hx ?_ | refine As ?_ | refine Rs 2 ?_ hcf | refine kh ?_ ?_ | exact ⟨⟩ | fail
   apply Ae ((i + 1, _)) <;> (try dsimp only) <;> try repeat' first | exact k0 | refine w1 ?_ | refine Ab ?_ | refine m1 ?_ ?_ | omega
   rw [htk]; simp
 ·have hie : i = b.length := by omega
  subst hie
  rw [PQ]
  repeat' first | refine A8 6 ?_ (hes := show List.take b.length ((b.map (J5 items)).map Entry.d) = (b.map (J5 items)).map Entry.d from Ua (by simp)) | refine kz ?_ | refine As ?_ | refine Aa (hno) ?_ | refine DU ?_ | refine De ?_ | refine Ar (by repeat (first | exact Ac | refine Ah Gz ?_)) ?_ ?_ | refine BB ?_ | refine Cf ?_
  all_goals rfl
structure Vw where
 name : ByteArray
 kind : Int
 left : ByteArray
 right : ByteArray
 on : List (Int × Int)
 wher : List Trm
 items : List Itm
 distinct : Bool
 aggs : List Agg
def Vw.d (v : Vw) : List Dat := [.lit (.string v.name), .lit (.int .i64 v.kind), .lit (.string v.left), .lit (.string v.right), ZZ v.on, BR v.wher, KC v.items, .lit (.bool v.distinct), HW v.aggs]
def Cn (v : Vw) : Bool := v.right.toList == (⟨#[]⟩ : ByteArray).toList
def FI (v : Vw) : Bool := !Cn v || decide (v.kind = 2)
def IA (v : Vw) : Bool := decide (v.kind = 0) || decide (v.kind = 1) || decide (v.kind = 2)
def Co (v : Vw) (l r : List Entry) : Bool := IA v && (AA l && (!FI v || AA r))
def Ew (b c : List Entry) : List Entry × Int := if (Bj 1 b c).2 = 0 ∧ AA (Bj 1 b c).1 = true then ((Bj 1 b c).1, 0) else ([], 1)
def EA (v : Vw) (l r dl dr : List Entry) : List Entry × List Entry × Int :=
 if (Ew l dl).2 = 0 ∧ FI v = true then ((Ew l dl).1, (Ew r dr).1, (Ew r dr).2) else ((Ew l dl).1, [], (Ew l dl).2)
def XU (J : List Entry → List Entry → List (Int × Int) → List Entry × Int) (v : Vw) (l r : List Entry) : List Entry × Int :=
 if Cn v = true then (l, 0) else J l r v.on
theorem Ky {v : Vw} (h : Cn v = true) : (v.right.toList == (⟨#[]⟩ : ByteArray).toList) = true := h
theorem Kz {v : Vw} (h : Cn v = false) : (v.right.toList == (⟨#[]⟩ : ByteArray).toList) = false := h
theorem IZ (v : Vw) : PC 88 [.agg v.d] (.v (.one (.lit (.bool (FI v))))) := by
 cases hr : Cn v
 ·rw [show FI v = true by simp [FI, hr]]
  have h1 := Kz hr
  have h2 : (!(v.right.toList == (⟨#[]⟩ : ByteArray).toList)) = true := by rw [h1]; rfl
  refine Ad hT Tryz.func88 Tryz.ntmps88 [.tmp 2] fun B => ?_
  repeat' first | refine kz ?_ | refine kf ?_ | fail
  all_goals rfl
 ·rw [show FI v = decide (v.kind = 2) by simp [FI, hr]]
  have h1 := Ky hr
  have h2 : (!(v.right.toList == (⟨#[]⟩ : ByteArray).toList)) = false := by rw [h1]; rfl
  refine Ad hT Tryz.func88 Tryz.ntmps88 [.tmp 2] fun B => ?_
  repeat' first | refine kz ?_ | refine kf ?_ | fail
  all_goals rfl
theorem Gk (v : Vw) (l r : List Entry) : PC 40 [.agg v.d, .one (Ao l), .one (Ao r)] (.v (.one (.lit (.bool (Co v l r))))) := by
 have hu := IZ v
 have hl := Ev l
 have hq := Ev r
 unfold Co
 by_cases hk : IA v = true
 ·rw [hk, Bool.true_and]
  have hk3 : v.kind = 0 ∨ v.kind = 1 ∨ v.kind = 2 := by simpa [IA, or_assoc] using hk
  generalize FI v = u at hu ⊢
  generalize AA l = pl at hl ⊢
  generalize AA r = pr at hq ⊢
  obtain h0 | h0 | h0 := hk3
  all_goals
   cases pl <;> cases u <;> cases pr
  all_goals
   (refine Ad hT Tryz.func40 Tryz.ntmps40 [.tmp 6] fun B => ?_
    repeat' (first | refine kz ?_ | refine Aa (hl) ?_ | refine Aa (hu) ?_ | refine Aa (hq) ?_ | refine kf ?_ | fail))
  all_goals rfl
 ·have hk3 : ¬ (v.kind = 0) ∧ ¬ (v.kind = 1) ∧ ¬ (v.kind = 2) := by simpa [IA, not_or, and_assoc] using hk
  rw [show IA v = false by simpa using hk, Bool.false_and]
  obtain ⟨h0, h1, h2⟩ := hk3
  refine Ad hT Tryz.func40 Tryz.ntmps40 [.tmp 6] fun B => ?_
  repeat' first | refine kz ?_ | refine kf ?_ | fail
  all_goals rfl
theorem OI (b c : List Entry) : PC 149 [.one (Ao b), .one (Ao c)] (B4 (Ew b c)) := by
 have ha := PW b c
 have hp := Ev (Bj 1 b c).1
 unfold Ew
 generalize Bj 1 b c = s at ha hp ⊢
 obtain ⟨s, e⟩ := s
 dsimp only at ha hp ⊢
 by_cases he : e = 0
 ·subst he
  cases h : AA s
  ·rw [h] at hp
   rw [if_neg (by simp)]
   refine Ad hT Tryz.func149 Tryz.ntmps149 [.tmp 4, .tmp 5] fun B => ?_
   repeat' first | refine kz ?_ | refine Aa (ha) ?_ | refine Aa (hp) ?_ | refine kh ?_ ?_ | exact ⟨⟩ | fail
   all_goals rfl
  ·rw [h] at hp
   rw [if_pos ⟨rfl, rfl⟩]
   refine Ad hT Tryz.func149 Tryz.ntmps149 [.tmp 4, .tmp 5] fun B => ?_
   repeat' first | refine kz ?_ | refine Aa (ha) ?_ | refine Aa (hp) ?_ | refine kh ?_ ?_ | exact ⟨⟩ | fail
   all_goals rfl
 ·rw [if_neg fun h => he h.1]
  refine Ad hT Tryz.func149 Tryz.ntmps149 [.tmp 4, .tmp 5] fun B => ?_
  repeat' first | refine kz ?_ | refine Aa (ha) ?_ | refine Aa (hp) ?_ | refine kh ?_ ?_ | exact ⟨⟩ | fail
  all_goals rfl
theorem IB (v : Vw) (l r dl dr : List Entry) : PC 93 [.agg v.d, .one (Ao l), .one (Ao r), .one (Ao dl), .one (Ao dr)] (.tup [.one (Ao (EA v l r dl dr).1), .one (Ao (EA v l r dl dr).2.1), .one (.lit (.int .i64 (EA v l r dl dr).2.2))]) := by
 have hl := OI l dl
 have hr := OI r dr
 have hu := IZ v
 unfold EA
 generalize Ew l dl = x at hl ⊢
 generalize Ew r dr = y at hr ⊢
 obtain ⟨x, e⟩ := x
 dsimp only [B4] at hl hr ⊢
 by_cases he : e = 0
 ·subst he
  cases h : FI v
  ·rw [h] at hu
   rw [if_neg (by simp)]
   refine Ad hT Tryz.func93 Tryz.ntmps93 [.tmp 10, .tmp 11, .tmp 12] fun B => ?_
   repeat' first | refine kz ?_ | refine Aa (hl) ?_ | refine Aa (hu) ?_ | refine Aa (hr) ?_ | refine kf ?_ | refine G9 Ac ?_ ?_ ?_
   all_goals rfl
  ·rw [h] at hu
   rw [if_pos ⟨rfl, rfl⟩]
   refine Ad hT Tryz.func93 Tryz.ntmps93 [.tmp 10, .tmp 11, .tmp 12] fun B => ?_
   repeat' first | refine kz ?_ | refine Aa (hl) ?_ | refine Aa (hu) ?_ | refine Aa (hr) ?_ | refine kf ?_ | refine G9 Ac ?_ ?_ ?_
   all_goals rfl
 ·rw [if_neg fun h => he h.1]
  refine Ad hT Tryz.func93 Tryz.ntmps93 [.tmp 10, .tmp 11, .tmp 12] fun B => ?_
  repeat' first | refine kz ?_ | refine Aa (hl) ?_ | refine Aa (hu) ?_ | refine Aa (hr) ?_ | refine kf ?_ | refine G9 Ac ?_ ?_ ?_
  all_goals rfl
theorem KJ (J : List Entry → List Entry → List (Int × Int) → List Entry × Int) (v : Vw) (l r : List Entry) (hj : Cn v = false → PC 89 [.one (Ao l), .one (Ao r), .one (ZZ v.on)] (B4 (J l r v.on))) : PC 41 [.agg v.d, .one (Ao l), .one (Ao r)] (B4 (XU J v l r)) := by
 unfold XU
 cases h : Cn v
 ·have h1 := Kz h
  have hj := hj h
  rw [if_neg (by simp)]
  generalize J l r v.on = x at hj ⊢
  dsimp only [B4] at hj ⊢
  refine Ad hT Tryz.func41 Tryz.ntmps41 [.tmp 6, .tmp 7] fun B => ?_
  repeat' first | refine kz ?_ | refine Aa (hj) ?_ | refine kh ?_ ?_ | exact ⟨⟩ | fail
  all_goals rfl
 ·have h1 := Ky h
  rw [if_pos rfl]
  refine Ad hT Tryz.func41 Tryz.ntmps41 [.tmp 6, .tmp 7] fun B => ?_
  repeat' first | refine kz ?_ | refine kh ?_ ?_ | exact ⟨⟩ | fail
  all_goals rfl
end Go.Proofs.YtmpgmjlanngkfaaGreat
end
