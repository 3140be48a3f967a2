/-
  Algebra: the joiner's sums are made final: all of them, without room.
-/
import Derived.Test.YtmpgmjlanngkfaaGreatExn
import Derived.Test.YtmpgmjlanngkfaaGreatExo
import Derived.Test.YtmpgmjlanngkfaaGreatAgk
import Derived.Test.YtmpgmjlanngkfaaGreatPos
import Derived.Test.YtmpgmjlanngkfaaGreatMpd
import Derived.Test.YtmpgmjlanngkfaaGreatJoh
section
namespace Go.Proofs.YtmpgmjlanngkfaaGreat
open Go.Abs Go.RowKit
attribute [local irreducible] ARun Au MCall PCall HCall Ak SF CF CFs Af Ag Ar fin AP VLe
set_option linter.unusedSimpArgs false
set_option maxRecDepth 100000
set_option maxHeartbeats 4000000
structure Vw where
 name : ByteArray
 kind : Int
 left : ByteArray
 right : ByteArray
 on : List (Int × Int)
 wher : List Trm
 items : List Itm
 distinct : Bool
 aggs : List Agg
def Vw.d (v : Vw) : List Dat := [.lit (.string v.name), .lit (.int .i64 v.kind), .lit (.string v.left), .lit (.string v.right), VC v.on, Bw v.wher, MU v.items, .lit (.bool v.distinct), SI v.aggs]
def BH (v : Vw) : Bool := v.right.toList == (⟨#[]⟩ : ByteArray).toList
def Di (v : Vw) : Bool := !BH v || decide (v.kind = 2)
def GM (v : Vw) : Bool := decide (v.kind = 0) || decide (v.kind = 1) || decide (v.kind = 2)
def BY (v : Vw) (l r : List Entry) : Bool := GM v && (Ap l && (!Di v || Ap r))
def Dj (b c : List Entry) : List Entry × Int := if (Ba 1 b c).2 = 0 ∧ Ap (Ba 1 b c).1 = true then ((Ba 1 b c).1, 0) else ([], 1)
def C4 (v : Vw) (l r dl dr : List Entry) : List Entry × List Entry × Int :=
 if (Dj l dl).2 = 0 ∧ Di v = true then ((Dj l dl).1, (Dj r dr).1, (Dj r dr).2) else ((Dj l dl).1, [], (Dj l dl).2)
def Mn (J : List Entry → List Entry → List (Int × Int) → List Entry × Int) (v : Vw) (l r : List Entry) : List Entry × Int :=
 if BH v = true then (l, 0) else J l r v.on
theorem Ko {v : Vw} (h : BH v = true) : (v.right.toList == (⟨#[]⟩ : ByteArray).toList) = true := h
theorem Kp {v : Vw} (h : BH v = false) : (v.right.toList == (⟨#[]⟩ : ByteArray).toList) = false := h
theorem IH (v : Vw) : PC 88 [.agg v.d] (.v (.one (.lit (.bool (Di v))))) := by
 cases hr : BH v
 ·rw [show Di v = true by simp [Di, hr]]
  have h1 := Kp hr
  have h2 : (!(v.right.toList == (⟨#[]⟩ : ByteArray).toList)) = true := by rw [h1]; rfl
  refine Ac hT Tryz.func88 Tryz.ntmps88 [.tmp 2] fun B => ?_
  repeat' first | refine kz ?_ | refine kf ?_ | fail
  all_goals rfl
 ·rw [show Di v = decide (v.kind = 2) by simp [Di, hr]]
  have h1 := Ko hr
  have h2 : (!(v.right.toList == (⟨#[]⟩ : ByteArray).toList)) = false := by rw [h1]; rfl
  refine Ac hT Tryz.func88 Tryz.ntmps88 [.tmp 2] fun B => ?_
  repeat' first | refine kz ?_ | refine kf ?_ | fail
  all_goals rfl
theorem II (v : Vw) (l r : List Entry) : PC 40 [.agg v.d, .one (Am l), .one (Am r)] (.v (.one (.lit (.bool (BY v l r))))) := by
 have hu := IH v
 have hl := DY l
 have hq := DY r
 unfold BY
 by_cases hk : GM v = true
 ·rw [hk, Bool.true_and]
  have hk3 : v.kind = 0 ∨ v.kind = 1 ∨ v.kind = 2 := by simpa [GM, or_assoc] using hk
  generalize Di v = u at hu ⊢
  generalize Ap l = pl at hl ⊢
  generalize Ap r = pr at hq ⊢
  obtain h0 | h0 | h0 := hk3
  all_goals
   cases pl <;> cases u <;> cases pr
  all_goals
   (refine Ac hT Tryz.func40 Tryz.ntmps40 [.tmp 6] fun B => ?_
    repeat' (first | refine kz ?_ | refine Aa (hl) ?_ | refine Aa (hu) ?_ | refine Aa (hq) ?_ | refine kf ?_ | fail))
  all_goals rfl
 ·have hk3 : ¬ (v.kind = 0) ∧ ¬ (v.kind = 1) ∧ ¬ (v.kind = 2) := by simpa [GM, not_or, and_assoc] using hk
  rw [show GM v = false by simpa using hk, Bool.false_and]
  obtain ⟨h0, h1, h2⟩ := hk3
  refine Ac hT Tryz.func40 Tryz.ntmps40 [.tmp 6] fun B => ?_
  repeat' first | refine kz ?_ | refine kf ?_ | fail
  all_goals rfl
theorem OI (b c : List Entry) : PC 149 [.one (Am b), .one (Am c)] (Bt (Dj b c)) := by
 have ha := Fc b c
 have hp := DY (Ba 1 b c).1
 unfold Dj
 generalize Ba 1 b c = s at ha hp ⊢
 obtain ⟨s, e⟩ := s
 dsimp only at ha hp ⊢
 by_cases he : e = 0
 ·subst he
  cases h : Ap s
  ·rw [h] at hp
   rw [if_neg (by simp)]
   refine Ac hT Tryz.func149 Tryz.ntmps149 [.tmp 4, .tmp 5] fun B => ?_
   repeat' first | refine kz ?_ | refine Aa (ha) ?_ | refine Aa (hp) ?_ | refine kh ?_ ?_ | exact ⟨⟩ | fail
   all_goals rfl
  ·rw [h] at hp
   rw [if_pos ⟨rfl, rfl⟩]
   refine Ac hT Tryz.func149 Tryz.ntmps149 [.tmp 4, .tmp 5] fun B => ?_
   repeat' first | refine kz ?_ | refine Aa (ha) ?_ | refine Aa (hp) ?_ | refine kh ?_ ?_ | exact ⟨⟩ | fail
   all_goals rfl
 ·rw [if_neg fun h => he h.1]
  refine Ac hT Tryz.func149 Tryz.ntmps149 [.tmp 4, .tmp 5] fun B => ?_
  repeat' first | refine kz ?_ | refine Aa (ha) ?_ | refine Aa (hp) ?_ | refine kh ?_ ?_ | exact ⟨⟩ | fail
  all_goals rfl
theorem EN (v : Vw) (l r dl dr : List Entry) : PC 93 [.agg v.d, .one (Am l), .one (Am r), .one (Am dl), .one (Am dr)] (.tup [.one (Am (C4 v l r dl dr).1), .one (Am (C4 v l r dl dr).2.1), .one (.lit (.int .i64 (C4 v l r dl dr).2.2))]) := by
 have hl := OI l dl
 have hr := OI r dr
 have hu := IH v
 unfold C4
 generalize Dj l dl = x at hl ⊢
 generalize Dj r dr = y at hr ⊢
 obtain ⟨x, e⟩ := x
 dsimp only [Bt] at hl hr ⊢
 by_cases he : e = 0
 ·subst he
  cases h : Di v
  ·rw [h] at hu
   rw [if_neg (by simp)]
   refine Ac hT Tryz.func93 Tryz.ntmps93 [.tmp 10, .tmp 11, .tmp 12] fun B => ?_
   repeat' first | refine kz ?_ | refine Aa (hl) ?_ | refine Aa (hu) ?_ | refine Aa (hr) ?_ | refine kf ?_ | refine Em Ae ?_ ?_ ?_
   all_goals rfl
  ·rw [h] at hu
   rw [if_pos ⟨rfl, rfl⟩]
   refine Ac hT Tryz.func93 Tryz.ntmps93 [.tmp 10, .tmp 11, .tmp 12] fun B => ?_
   repeat' first | refine kz ?_ | refine Aa (hl) ?_ | refine Aa (hu) ?_ | refine Aa (hr) ?_ | refine kf ?_ | refine Em Ae ?_ ?_ ?_
   all_goals rfl
 ·rw [if_neg fun h => he h.1]
  refine Ac hT Tryz.func93 Tryz.ntmps93 [.tmp 10, .tmp 11, .tmp 12] fun B => ?_
  repeat' first | refine kz ?_ | refine Aa (hl) ?_ | refine Aa (hu) ?_ | refine Aa (hr) ?_ | refine kf ?_ | refine Em Ae ?_ ?_ ?_
  all_goals rfl
theorem Gj (J : List Entry → List Entry → List (Int × Int) → List Entry × Int) (v : Vw) (l r : List Entry) (hj : BH v = false → PC 89 [.one (Am l), .one (Am r), .one (VC v.on)] (Bt (J l r v.on))) : PC 41 [.agg v.d, .one (Am l), .one (Am r)] (Bt (Mn J v l r)) := by
 unfold Mn
 cases h : BH v
 ·have h1 := Kp h
  have hj := hj h
  rw [if_neg (by simp)]
  generalize J l r v.on = x at hj ⊢
  dsimp only [Bt] at hj ⊢
  refine Ac hT Tryz.func41 Tryz.ntmps41 [.tmp 6, .tmp 7] fun B => ?_
  repeat' first | refine kz ?_ | refine Aa (hj) ?_ | refine kh ?_ ?_ | exact ⟨⟩ | fail
  all_goals rfl
 ·have h1 := Ko h
  rw [if_pos rfl]
  refine Ac hT Tryz.func41 Tryz.ntmps41 [.tmp 6, .tmp 7] fun B => ?_
  repeat' first | refine kz ?_ | refine kh ?_ ?_ | exact ⟨⟩ | fail
  all_goals rfl
theorem Rx (st : List Lev) (s r : List (Bs × Int)) (h : closeE [] st.reverse s r = none) (hst : st.length ≤ 100000) (hop : ∀ l ∈ st, l.opened.length ≤ 100000) (hr : r.length ≤ 4096) :
  HC 195 [.c (.bp 0 0 0), .c (.d (CL []))] (jm st s r) (.c (.d (.lit (.bool false)))) [.dead, .dead, .dead, .dead] := by
 have hcn : ((⟨([] : Bs).toArray⟩ : ByteArray).toList == ({ data := #[] } : ByteArray).toList) = true := by rw [E2]; simp
 refine AI hT Tryz.func195 Tryz.ntmps195 [.tmp 4] fun B => ?_
 repeat' first | refine kz ?_ | refine Aw ?_ | refine kf ?_ | refine kg ?_ ?_ | exact k0 | refine Ab ?_ | refine m1 ?_ ?_ | refine AB ?_
 refine A0 (X := List Lev × List (Bs × Int) × List (Bs × Int) × List (List Dat) × Nat × Nat) ([4, 5] ++ List.range' 7 81) (fun x => closeE [] x.1.reverse x.2.1 x.2.2.1 = none ∧ x.1.length ≤ 100000 ∧ (∀ l ∈ x.1, l.opened.length ≤ 100000) ∧ x.2.2.1.length ≤ 4096) (fun x lz => lz) (fun x => [.box 0 [.arr 1 x.2.2.2.2.1 x.1.length, .mp 2 0, .arr 3 x.2.2.2.2.2 x.2.2.1.length], .arr x.2.2.2.2.1 232 2 (x.1.map Lev.d ++ x.2.2.2.1), .mapb 0 9 2 (x.2.1.map JR), .arr x.2.2.2.2.2 200 2 (x.2.2.1.map F5)]) (fun x => x.1.length) ((st, s, r, [], 0, 0)) ?_ ?_ ?_ ?_
 repeat' first | exact k0 | refine kw ?_ | refine kv ?_ ?_ | omega
 ·simp
 ·exact ⟨h, hst, hop, hr⟩
 rintro ⟨st1, s1, r1, tl, k1, k3⟩ c ⟨hinv, hl1, hop1, hr1⟩
 dsimp only at hinv hl1 hop1 hr1 ⊢
 refine QA 1 st1.length ?_ (show (st1.map Lev.d ++ tl).take st1.length = st1.map Lev.d by rw [bC (by simp)]; exact Mq (by simp))
 rcases Ed st1 with rfl | ⟨st2, l, rfl⟩
 ·simp only [List.reverse_nil, closeE] at hinv
  cases hinv
 ·have hl2 : st2.length + 1 ≤ 100000 := by simpa using hl1
  have hlen : (st2 ++ [l]).length = st2.length + 1 := by simp
  have he : ((st2 ++ [l]).map Lev.d)[(((st2 ++ [l]).length : Int) - 1).toNat]? = some l.d := by
   rw [hlen, show (((st2.length + 1 : Nat) : Int) - 1).toNat = st2.length by omega, Ah']; exact He _ _ (by simp)
  have hop2 : ∀ l ∈ st2, l.opened.length ≤ 100000 := fun l hl => hop1 l (by simp [hl])
  have hlo := hop1 l (by simp)
  rw [bO, bG, bI, closeE] at hinv
  rw [if_neg (by simp)] at hinv
  generalize hcl : closeLev l.opened s1 r1 = q at hinv
  repeat' first | (exfalso; rw [hcn] at hb; cases hb; done) | refine DS (m' := st2.length) ?_ (hm' := by omega) | refine kz ?_ | refine AX he ?_ | refine Aw ?_ | refine JH ?_ | refine Bb Ae ?_ ?_ | exact k0 | refine Ab ?_ | refine m1 ?_ ?_ | refine AB ?_
  refine A0 (X := Nat × List (Bs × Int) × List (Bs × Int) × Nat) ([4, 7, 8] ++ List.range' 52 36) (fun x => closeLev (l.opened.drop x.1) x.2.1 x.2.2.1 = q ∧ x.1 ≤ l.opened.length ∧ x.2.2.1.length ≤ 4096) (fun x lz => (52, (iC x.1)) :: lz) (fun x => [.box 0 [.arr 1 k1 st2.length, .mp 2 0, .arr 3 x.2.2.2 x.2.2.1.length], .arr k1 232 2 ((st2 ++ [l]).map Lev.d), .mapb 0 9 2 (x.2.1.map JR), .arr x.2.2.2 200 2 (x.2.2.1.map F5)]) (fun x => l.opened.length - x.1) ((0, s1, r1, k3)) ?_ ?_ ?_ ?_
  repeat' first | exact k0 | refine kw ?_ | refine kv ?_ ?_ | omega
  ·exact ⟨by simpa using hcl, by simp, hr1⟩
  rintro ⟨i, s3, r3, k4⟩ c4 ⟨hi3, hin, hr3⟩
  dsimp only at hi3 hin hr3 ⊢
  by_cases hlt : i < l.opened.length
  ·obtain ⟨cc, hv⟩ := gx hlt
   rw [Ay hv, closeLev] at hi3
   rcases BL cc s3 with ⟨i0, v, g1, g2, _, g4, _⟩ | ⟨g1, g2, _, g4, _⟩
   ·rw [g4] at hi3
    by_cases hz : v = 0
    ·have hn : BI cc s3 r3 = r3 := by rw [BI, g2, if_pos hz]
     rw [hn, if_neg (by omega)] at hi3
     repeat' first | refine kz ?_ | refine AX hv ?_ | refine Aw ?_ | refine Cs (Be g1) ⟨_, rfl⟩ (AK _) ?_ | refine B4 (Be g1) ⟨_, rfl⟩ (AK _) ?_ | refine kf ?_ | refine kg ?_ ?_ | exact k0 | refine Ab ?_ | refine m1 ?_ ?_ | refine AB ?_
     rw [Ec]
     generalize s3.eraseIdx i0 = s4 at hi3 ⊢
     apply Ad ((i + 1, s4, r3, k4)) <;> (try dsimp only) <;> try repeat' first | exact k0 | refine kw ?_ | refine kv ?_ ?_ | omega
     exact ⟨hi3, by omega, hr3⟩
    ·have hn : BI cc s3 r3 = r3 ++ [(cc, v)] := by rw [BI, g2, if_neg hz]
     rw [hn] at hi3
     have hl4 : (r3 ++ [(cc, v)]).length = r3.length + 1 := by simp
     have hl5 : r3.length + [[CL cc, Dat.lit (Value.int .i64 v)]].length = (r3 ++ [(cc, v)]).length := by simp
     have hm4 : r3.map F5 ++ [[CL cc, Dat.lit (Value.int .i64 v)]] = (r3 ++ [(cc, v)]).map F5 := by rw [Ah']; rfl
     by_cases hlen3 : 4096 < (r3 ++ [(cc, v)]).length
     ·repeat' first | refine kz ?_ | refine AX hv ?_ | refine Aw ?_ | refine Cs (Be g1) ⟨_, rfl⟩ (AK _) ?_ | refine B4 (Be g1) ⟨_, rfl⟩ (AK _) ?_ | refine kf ?_ | refine kg ?_ ?_ | exact k0 | refine Ab ?_ | refine m1 ?_ ?_ | refine AB ?_
     rw [if_neg hlen3] at hi3
     repeat' first | refine kz ?_ | refine AX hv ?_ | refine Aw ?_ | refine Cs (Be g1) ⟨_, rfl⟩ (AK _) ?_ | refine B4 (Be g1) ⟨_, rfl⟩ (AK _) ?_ | refine kf ?_ | refine kg ?_ ?_ | exact k0 | refine Ab ?_ | refine m1 ?_ ?_ | refine AB ?_
     rw [Ec, hm4, hl5]
     generalize s3.eraseIdx i0 = s4 at hi3 ⊢
     generalize r3 ++ [(cc, v)] = r4 at hi3 hl4 hlen3 ⊢
     apply Ad ((i + 1, s4, r4, c4 + 1)) <;> (try dsimp only) <;> try repeat' first | exact k0 | refine kw ?_ | refine kv ?_ ?_ | omega
     exact ⟨hi3, by omega, by omega⟩
   ·rw [g4] at hi3
    have hn : BI cc s3 r3 = r3 := by rw [BI, g2, if_pos rfl]
    rw [hn, if_neg (by omega)] at hi3
    repeat' first | refine kz ?_ | refine AX hv ?_ | refine Aw ?_ | refine FM (Dy g1) ⟨_, rfl⟩ (AK _) ?_ | refine E4 (Dy g1) ⟨_, rfl⟩ (AK _) ?_ | refine kf ?_ | refine kg ?_ ?_ | exact k0 | refine Ab ?_ | refine m1 ?_ ?_ | refine AB ?_
    apply Ad ((i + 1, s3, r3, k4)) <;> (try dsimp only) <;> try repeat' first | exact k0 | refine kw ?_ | refine kv ?_ ?_ | omega
    exact ⟨hi3, by omega, hr3⟩
  ·have hie : i = l.opened.length := by omega
   subst hie
   rw [XR, closeLev] at hi3
   subst hi3
   dsimp only at hinv
   repeat' first | refine kz ?_ | refine Aw ?_ | refine kf ?_ | refine kg ?_ ?_ | exact k0 | refine Ab ?_ | refine m1 ?_ ?_ | refine AB ?_
   apply Ad ((st2, s3, r3, [l.d], k1, k4)) <;> (try dsimp only) <;> try repeat' first | exact k0 | refine kw ?_ | refine kv ?_ ?_ | omega
   ·rw [Ah']; rfl
   ·exact ⟨hinv, by omega, hop2, hr3⟩
end Go.Proofs.YtmpgmjlanngkfaaGreat
end
