/-
  Aggregates: Correct.
-/
import Derived.Test.YtmpgmjlanngkfaaGreatAgj
import Derived.Test.YtmpgmjlanngkfaaGreatExn
import Derived.Test.YtmpgmjlanngkfaaGreatAgk
import Derived.Test.YtmpgmjlanngkfaaGreatTab
import Derived.Test.YtmpgmjlanngkfaaGreatAgs
import Derived.Test.YtmpgmjlanngkfaaGreatBso
import Derived.Test.YtmpgmjlanngkfaaGreatNrm
import Derived.Test.YtmpgmjlanngkfaaGreatXca
import Derived.Test.YtmpgmjlanngkfaaGreatBag
import Derived.Test.YtmpgmjlanngkfaaGreatTap
import Derived.Test.YtmpgmjlanngkfaaGreatSam
import Derived.Test.YtmpgmjlanngkfaaGreatAgq
section
namespace Go.Proofs.YtmpgmjlanngkfaaGreat
open Go.Abs Go.RowKit
attribute [local irreducible] ARun Aq MCall PCall HCall Am SF CF CFs Af Al Ap B5 AW VLe
set_option linter.unusedSimpArgs false
set_option maxRecDepth 100000
set_option maxHeartbeats 4000000
def Xn : List Val → Val
 | [] => Val.null
 | v :: _ => v
def vc (e : Entry) : Val × Int := (Xn e.row, e.count)
def aW (l : List Entry) : List (Val × Int) := l.map vc
def aX (L : List (Val × Int)) : Prop := ∀ x ∈ L, x.1.clean = x.1
noncomputable def foldP (f : Int) (b : List Entry) : Val := if AA b = true then foldE f (aW b) else Val.null
def aF (l : List (List Val)) : Dat := .sl (l.map fun r => [BS r])
def YS (x : Entry) : List Entry → List Entry
 | [] => [x]
 | o :: l => if Ai o.row x.row < 0 then o :: YS x l else x :: o :: l
def ba (x o : Entry) : Bool := decide (Ai o.row x.row < 0)
def bc (a b : Entry) : Prop := ¬ Ai b.row a.row < 0
def aY (p : Entry → Bool) (f : Entry → Entry) (b : List Entry) : List Entry := b.foldl (fun o e => if p e = true then YS (f e) o else o) []
def kP (keys : List Itm) (key : List Val) (e : Entry) : Bool := Br (Ax keys e.row) key
def bf (ex : List Trm) (e : Entry) : Entry := ⟨[GX ex e.row], e.count⟩
end Go.Proofs.YtmpgmjlanngkfaaGreat
end
section
namespace Go.Proofs.YtmpgmjlanngkfaaGreat
open Go.Abs Go.RowKit
def Val.wf (v : Val) : Prop := Y1 v.kind ∧ Y1 v.int ∧ v.text.size ≤ reachBytes
theorem VD {xs : List Dat} (h : Yc Tryz.prog 22 xs) : ∃ r : List Int, xs = [DW r] ∧ r.length ≤ 17592186044416 := by
 obtain ⟨es, rfl, h1, h2⟩ := TT hT rfl rfl rfl h
 obtain ⟨l, rfl, hl⟩ := LD (f := iD) (Q := Y1) es (fun el hel => Xz hT rfl rfl (h2 el hel))
 refine ⟨l, rfl, ?_⟩
 rw [BT] at h1
 have h2 : l.length * 8 ≤ 140737488351232 := h1
 omega
end Go.Proofs.YtmpgmjlanngkfaaGreat
end
section
namespace Go.Proofs.YtmpgmjlanngkfaaGreat
open Go.Abs Go.RowKit
attribute [local irreducible] ARun Aq MCall PCall HCall Am SF CF CFs Af Al Ap B5 AW VLe
set_option linter.unusedSimpArgs false
set_option maxRecDepth 100000
set_option maxHeartbeats 4000000
def aZ (c : Int) (t : Agg × Int × Int) : Val := if t.1.func = 0 then Val.ofInt c else if t.2.2 = 0 then Val.null else Val.ofInt t.2.1
def YW (ag : List Agg) (s : Sta) : List Val := s.key ++ (Sp ag s).map (aZ s.count)
def bh (ag : List Agg) (s : Sta) : Entry := ⟨YW ag s, 1⟩
end Go.Proofs.YtmpgmjlanngkfaaGreat
end
section
namespace Go.Proofs.YtmpgmjlanngkfaaGreat
open Go.Abs Go.RowKit
set_option linter.unusedSimpArgs false
set_option maxRecDepth 100000
def bg (ex : List Trm) (e : Entry) : Val × Int := (GX ex e.row, e.count)
end Go.Proofs.YtmpgmjlanngkfaaGreat
end
section
namespace Go.Proofs.YtmpgmjlanngkfaaGreat
open Go.Abs Go.RowKit
attribute [local irreducible] ARun Aq MCall PCall HCall Am SF CF CFs Af Al Ap B5 AW VLe
set_option linter.unusedSimpArgs false
set_option maxRecDepth 100000
set_option maxHeartbeats 4000000
variable {ag : List Agg}
def aR (l : List Int) : Dat := .sl (l.map fun n => [.lit (.int .i64 n)])
def YR (cols : List Int) (e : Entry) : Entry := ⟨cols.map (T5 e.row), e.count⟩
def aD (b : List Entry) (cols : List Int) : List Entry × Int :=
 if Aj b && (decide (cols.length ≤ 8) && cols.all fun n => decide (0 ≤ n)) then A9 (b.map (YR cols)) else ([], 1)
def B4 (q : List Entry × Int) : PRes := .tup [.one (Ao q.1), .one (.lit (.int .i64 q.2))]
theorem K5 {ag : List Agg} : ∀ {l : List Sta} {p : Option Sta}, goodS ag p l = true → ∀ s ∈ l, Eh ag s = true
 | [], _, _, _, h => by cases h
 | e :: l, p, h, s, hs => by
   rw [goodS.eq_def] at h
   simp only [BO] at h
   rcases Dp.1 hs with rfl | hs
   ·exact h.1.1
   ·exact K5 h.2 s hs
theorem Pa {s : Sta} (h : Eh ag s = true) : s.key.length ≤ 8 ∧ A7 s.key = true ∧ Cm ag s = true := by
 simpa [Eh, BO, and_assoc] using h
theorem Pb {s : Sta} (h : Cm ag s = true) : s.sums.length = ag.length ∧ s.some.length = ag.length := by
 simp only [Cm, BO, decide_eq_true_eq] at h
 exact ⟨h.1.1.1.1, h.1.1.1.2⟩
theorem JM {l : List Sta} (h : Ei ag l = true) : l.length ≤ 4096 ∧ ∀ s ∈ l, Yy ag.length s := by
 simp only [Ei, BO, decide_eq_true_eq] at h
 refine ⟨h.1, fun s hs => ?_⟩
 obtain ⟨h1, _, h3⟩ := Pa (K5 h.2 s hs)
 obtain ⟨h4, h5⟩ := Pb h3
 exact ⟨by omega, h4, h5⟩
theorem Pc (b : List Entry) (keys : List Itm) (ag : List Agg) : (Bc b keys ag).2 = 0 ∨ Bc b keys ag = ([], 1) := by
 unfold Bc
 split
 ·exact .inl rfl
 ·exact .inr rfl
theorem Pd {b : List Entry} {keys : List Itm} (h : (Bc b keys ag).2 = 0) : keys.length + ag.length ≤ 8 ∧ (Bc b keys ag).1.length ≤ 4096 ∧ ∀ s ∈ (Bc b keys ag).1, Yy ag.length s := by
 unfold Bc at h ⊢
 split at h
 ·rename_i hc
  rw [if_pos hc]
  have hK : BG b (Ax keys) := fun e _ => AR keys e.row
  refine ⟨hc.2.1, ?_, fun s hs => ?_⟩
  ·have h1 := PN DR ((EY b (Ax keys)).map (IG ag))
   have h2 := JA b _ hK
   have h3 := (AG hc.1).1
   rw [BT] at h1
   dsimp only
   omega
  ·obtain ⟨g, hg, rfl⟩ := List.mem_map.1 (KB.1 hs).1
   obtain ⟨⟨e, _, h1⟩, _⟩ := JB hK hg
   refine ⟨?_, by simp [IG], by simp [IG]⟩
   show g.1.length ≤ 100000
   rw [← h1, E0]
   have := hc.2.1
   omega
 ·exact absurd h (by decide)
def FY (g : List Sta) (change : List Entry) (keys : List Itm) (ag : List Agg) : List Sta × Int :=
 if Ei ag g = true then
  if (Bc change keys ag).2 = 0 then
   if ((mergeS g (Bc change keys ag).1).filter DR).length ≤ 4096 then
    if Ei ag ((mergeS g (Bc change keys ag).1).filter DR) = true then ((mergeS g (Bc change keys ag).1).filter DR, 0) else ([], 9)
   else ([], 8)
  else ([], 1)
 else ([], 1)
theorem CV : DeferOk Tryz.prog 67 0 := by
 refine ⟨⟨_, Tryz.func67, by kernel_rfl, by kernel_rfl⟩, fun vs w hl => ?_⟩
 match vs, hl with
 | [], _ =>
   refine callsD_of_wpS Tryz.func67 rfl fun c₀ cs hu => ?_
   apply wpS_region
   simp [wpOpsS, go_sem, recoverD, hu, Tryz.ntmps67, Exit.thenS]
   cases c₀
   simp_all [bodyPostS, results, Tryz.results67]
theorem QW (g : List Sta) (change : List Entry) (keys : List Itm) (ag : List Agg) (hkl : keys.length ≤ 10000) (hal : ag.length ≤ 10000) : PC 28 [.one (I1 g), .one (Ao change), .one (KC keys), .one (HW ag)] (.tup [.one (I1 (FY g change keys ag).1), .one (.lit (.int .i64 (FY g change keys ag).2))]) := by
 have hv := JL g ag hal
 have hst := JG change keys ag hkl hal
 unfold FY
 by_cases h1 : Ei ag g = true
 ·rw [if_pos h1]
  rw [h1] at hv
  obtain ⟨hgl, hgm⟩ := JM h1
  by_cases h2 : (Bc change keys ag).2 = 0
  ·obtain ⟨_, hdl, hdm⟩ := Pd h2
   rw [if_pos h2]
   rw [h2] at hst
   have hm := Sh g (Bc change keys ag).1 ag.length hgl hdl hgm hdm hal
   have hv2 := JL ((mergeS g (Bc change keys ag).1).filter DR) ag hal
   generalize (mergeS g (Bc change keys ag).1).filter DR = M at hm hv2 ⊢
   generalize (Bc change keys ag).1 = D at hst hm
   by_cases h3 : M.length ≤ 4096
   ·rw [if_pos h3]
    by_cases h4 : Ei ag M = true
    ·rw [if_pos h4]
     rw [h4] at hv2
     refine Ad hT Tryz.func28 Tryz.ntmps28 [.tmp 8, .tmp 9] fun B => ?_
     repeat' first | refine kz ?_ | refine Aa (hv) ?_ | refine Aa (hst) ?_ | refine Aa (hm) ?_ | refine Aa (hv2) ?_ | refine Ar (by repeat (first | exact Ac | refine Ah CV ?_)) ?_ ?_ | refine kf ?_ | fail
     all_goals rfl
    ·rw [if_neg h4]
     rw [show Ei ag M = false by simpa using h4] at hv2
     refine Ad hT Tryz.func28 Tryz.ntmps28 [.tmp 8, .tmp 9] fun B => ?_
     repeat' first | refine kz ?_ | refine Aa (hv) ?_ | refine Aa (hst) ?_ | refine Aa (hm) ?_ | refine Aa (hv2) ?_ | refine Ar (by repeat (first | exact Ac | refine Ah CV ?_)) ?_ ?_ | refine kf ?_ | fail
     all_goals rfl
   ·rw [if_neg h3]
    refine Ad hT Tryz.func28 Tryz.ntmps28 [.tmp 8, .tmp 9] fun B => ?_
    repeat' first | refine kz ?_ | refine Aa (hv) ?_ | refine Aa (hst) ?_ | refine Aa (hm) ?_ | refine Ar (by repeat (first | exact Ac | refine Ah CV ?_)) ?_ ?_ | refine kf ?_ | fail
    all_goals rfl
  ·rw [if_neg h2]
   rcases Pc change keys ag with h | h
   ·exact absurd h h2
   rw [h] at hst
   refine Ad hT Tryz.func28 Tryz.ntmps28 [.tmp 8, .tmp 9] fun B => ?_
   repeat' first | refine kz ?_ | refine Aa (hv) ?_ | refine Aa (hst) ?_ | refine Ar (by repeat (first | exact Ac | refine Ah CV ?_)) ?_ ?_ | refine kf ?_ | fail
   all_goals rfl
 ·rw [if_neg h1]
  rw [show Ei ag g = false by simpa using h1] at hv
  refine Ad hT Tryz.func28 Tryz.ntmps28 [.tmp 8, .tmp 9] fun B => ?_
  repeat' first | refine kz ?_ | refine Aa (hv) ?_ | refine Ar (by repeat (first | exact Ac | refine Ah CV ?_)) ?_ ?_ | refine kf ?_ | fail
  all_goals rfl
end Go.Proofs.YtmpgmjlanngkfaaGreat
end
