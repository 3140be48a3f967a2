/-
  Algebra: the document's join.
-/
import Derived.Test.YtmpgmjlanngkfaaGreatJoq
import Derived.Test.YtmpgmjlanngkfaaGreatExo
import Derived.Test.YtmpgmjlanngkfaaGreatAgf
import Derived.Test.YtmpgmjlanngkfaaGreatAlc
import Derived.Test.YtmpgmjlanngkfaaGreatMpd
import Derived.Test.YtmpgmjlanngkfaaGreatMrg
import Derived.Test.YtmpgmjlanngkfaaGreatJoh
import Derived.Test.YtmpgmjlanngkfaaGreatAgk
section
namespace Go.Proofs.YtmpgmjlanngkfaaGreat
open Go.Abs Go.RowKit
attribute [local irreducible] ARun Au MCall PCall HCall Ak SF CF CFs Af Ag Ar fin AP VLe
set_option linter.unusedSimpArgs false
set_option maxRecDepth 100000
set_option maxHeartbeats 4000000
def R7 (J : List Entry → List Entry → List (Int × Int) → List Entry × Int) (C : List Entry × Int) (v : Vw) (j l r dl dr : List Entry) : List Entry × Int :=
 if (C4 v l r dl dr).2.2 = 0 ∧ BH v = false then
  (if C.2 = 0 then Ba 1 j C.1 else J (C4 v l r dl dr).1 (C4 v l r dl dr).2.1 v.on)
 else ((C4 v l r dl dr).1, (C4 v l r dl dr).2.2)
theorem Gi (J : List Entry → List Entry → List (Int × Int) → List Entry × Int) (C : List Entry × Int) (v : Vw) (j l r dl dr : List Entry)
  (hj : BH v = false → PC 89 [.one (Am (C4 v l r dl dr).1), .one (Am (C4 v l r dl dr).2.1), .one (VC v.on)] (Bt (J (C4 v l r dl dr).1 (C4 v l r dl dr).2.1 v.on)))
  (hc : BH v = false → PC 103 [.agg v.d, .one (Am l), .one (Am r), .one (Am dl), .one (Am dr)] (Bt C)) :
  PC 55 [.agg v.d, .one (Am j), .one (Am l), .one (Am r), .one (Am dl), .one (Am dr)] (Bt (R7 J C v j l r dl dr)) := by
 have hs := EN v l r dl dr
 unfold R7
 generalize C4 v l r dl dr = s at hs hj ⊢
 obtain ⟨x, y, e⟩ := s
 dsimp only [Bt] at hs hj hc ⊢
 by_cases he : e = 0
 ·subst he
  cases hr : BH v
  · have h1 := Kp hr
    have hj := hj hr
    have hc := hc hr
    rw [if_pos ⟨rfl, rfl⟩]
    have ha := Fc j C.1
    generalize J x y v.on = q at hj ⊢
    generalize Ba 1 j C.1 = a at ha ⊢
    obtain ⟨C, f⟩ := C
    dsimp only at hc ha ⊢
    by_cases hf : f = 0
    ·subst hf
     rw [if_pos rfl]
     refine Ac hT Tryz.func55 Tryz.ntmps55 [.tmp 12, .tmp 13] fun B => ?_
     repeat' first | refine kz ?_ | refine Aa (hs) ?_ | refine Aa (hc) ?_ | refine Aa (ha) ?_ | refine kh ?_ ?_ | exact ⟨⟩ | fail
     all_goals rfl
    ·rw [if_neg hf]
     refine Ac hT Tryz.func55 Tryz.ntmps55 [.tmp 12, .tmp 13] fun B => ?_
     repeat' first | refine kz ?_ | refine Aa (hs) ?_ | refine Aa (hc) ?_ | refine Aa (hj) ?_ | refine kh ?_ ?_ | exact ⟨⟩ | fail
     all_goals rfl
  · have h1 := Ko hr
    rw [if_neg (by simp)]
    refine Ac hT Tryz.func55 Tryz.ntmps55 [.tmp 12, .tmp 13] fun B => ?_
    repeat' first | refine kz ?_ | refine Aa (hs) ?_ | refine kh ?_ ?_ | exact ⟨⟩ | fail
    all_goals rfl
 ·rw [if_neg fun h => he h.1]
  refine Ac hT Tryz.func55 Tryz.ntmps55 [.tmp 12, .tmp 13] fun B => ?_
  repeat' first | refine kz ?_ | refine Aa (hs) ?_ | refine kh ?_ ?_ | exact ⟨⟩ | fail
  all_goals rfl
def OE (v : Vw) (l r dl dr : List Entry) : List Entry × List Entry × Int :=
 if (Ba 1 l r).2 = 0 then
  (if (C4 v l r dl dr).2.2 = 0 then ((Ba 1 l r).1, (Ba 1 (C4 v l r dl dr).1 (C4 v l r dl dr).2.1).1, (Ba 1 (C4 v l r dl dr).1 (C4 v l r dl dr).2.1).2)
  else ([], [], (C4 v l r dl dr).2.2))
 else ([], [], (Ba 1 l r).2)
def Km (q : List Entry × List Entry × Int) : PRes := .tup [.one (Am q.1), .one (Am q.2.1), .one (.lit (.int .i64 q.2.2))]
theorem OF (v : Vw) (l r dl dr : List Entry) (hk : v.kind = 2) : PC 44 [.agg v.d, .one (Am l), .one (Am r), .one (Am dl), .one (Am dr)] (Km (OE v l r dl dr)) := by
 have ha := Fc l r
 have hs := EN v l r dl dr
 unfold OE
 generalize Ba 1 l r = a at ha ⊢
 generalize C4 v l r dl dr = s at hs ⊢
 obtain ⟨a, e⟩ := a
 obtain ⟨x, y, f⟩ := s
 dsimp only at ha hs ⊢
 have hb := Fc x y
 generalize Ba 1 x y = b at hb ⊢
 by_cases he : e = 0
 ·subst he
  rw [if_pos rfl]
  by_cases hf : f = 0
  ·subst hf
   rw [if_pos rfl]
   dsimp only [Km]
   refine Ac hT Tryz.func44 Tryz.ntmps44 [.tmp 10, .tmp 11, .tmp 12] fun B => ?_
   repeat' first | refine kz ?_ | refine Aa (ha) ?_ | refine Aa (hs) ?_ | refine Aa (hb) ?_ | refine Em Ae ?_ ?_ ?_ | refine kf ?_ | fail
   all_goals rfl
  ·rw [if_neg hf]
   dsimp only [Km]
   refine Ac hT Tryz.func44 Tryz.ntmps44 [.tmp 10, .tmp 11, .tmp 12] fun B => ?_
   repeat' first | refine kz ?_ | refine Aa (ha) ?_ | refine Aa (hs) ?_ | refine Em Ae ?_ ?_ ?_ | refine kf ?_ | fail
   all_goals rfl
 ·rw [if_neg he]
  dsimp only [Km]
  refine Ac hT Tryz.func44 Tryz.ntmps44 [.tmp 10, .tmp 11, .tmp 12] fun B => ?_
  repeat' first | refine kz ?_ | refine Aa (ha) ?_ | refine Em Ae ?_ ?_ ?_ | refine kf ?_ | fail
  all_goals rfl
def Lz (s o j p : List Entry × Int) : List Entry × List Entry × Int :=
 if s.2 = 0 then (if o.2 = 0 then (if j.2 = 0 then (o.1, p.1, p.2) else ([], [], j.2)) else ([], [], o.2)) else ([], [], s.2)
theorem IG (v : Vw) (l r dl dr : List Entry) (s o j p : List Entry × Int) (hk : v.kind ≠ 2)
  (hs : PC 41 [.agg v.d, .one (Am l), .one (Am r)] (Bt s))
  (ho : PC 42 [.agg v.d, .one (Am s.1)] (Bt o))
  (hj : PC 55 [.agg v.d, .one (Am s.1), .one (Am l), .one (Am r), .one (Am dl), .one (Am dr)] (Bt j))
  (hp : PC 42 [.agg v.d, .one (Am j.1)] (Bt p)) :
  PC 44 [.agg v.d, .one (Am l), .one (Am r), .one (Am dl), .one (Am dr)] (Km (Lz s o j p)) := by
 unfold Lz
 obtain ⟨s, e1⟩ := s
 obtain ⟨o, e2⟩ := o
 obtain ⟨j, e3⟩ := j
 dsimp only [Bt] at hs ho hj hp ⊢
 by_cases h1 : e1 = 0
 ·subst h1
  rw [if_pos rfl]
  by_cases h2 : e2 = 0
  · subst h2
    rw [if_pos rfl]
    by_cases h3 : e3 = 0
    ·subst h3
     rw [if_pos rfl]
     dsimp only [Km]
     refine Ac hT Tryz.func44 Tryz.ntmps44 [.tmp 10, .tmp 11, .tmp 12] fun B => ?_
     repeat' first | refine Aa (ha := by exact And.intro rfl (And.intro rfl (And.intro rfl (And.intro rfl (And.intro rfl (And.intro rfl trivial)))))) hj ?_ | refine kz ?_ | refine Aa (hs) ?_ | refine Aa (ho) ?_ | refine Aa (hp) ?_ | refine Em Ae ?_ ?_ ?_ | refine B7 ?_ | refine Cv ?_
     all_goals rfl
    ·rw [if_neg h3]
     dsimp only [Km]
     refine Ac hT Tryz.func44 Tryz.ntmps44 [.tmp 10, .tmp 11, .tmp 12] fun B => ?_
     repeat' first | refine Aa (ha := by exact And.intro rfl (And.intro rfl (And.intro rfl (And.intro rfl (And.intro rfl (And.intro rfl trivial)))))) hj ?_ | refine kz ?_ | refine Aa (hs) ?_ | refine Aa (ho) ?_ | refine Em Ae ?_ ?_ ?_ | refine B7 ?_ | refine Cv ?_
     all_goals rfl
  · rw [if_neg h2]
    dsimp only [Km]
    refine Ac hT Tryz.func44 Tryz.ntmps44 [.tmp 10, .tmp 11, .tmp 12] fun B => ?_
    repeat' first | refine kz ?_ | refine Aa (hs) ?_ | refine Aa (ho) ?_ | refine Em Ae ?_ ?_ ?_ | refine kf ?_ | fail
    all_goals rfl
 ·rw [if_neg h1]
  dsimp only [Km]
  refine Ac hT Tryz.func44 Tryz.ntmps44 [.tmp 10, .tmp 11, .tmp 12] fun B => ?_
  repeat' first | refine kz ?_ | refine Aa (hs) ?_ | refine Em Ae ?_ ?_ ?_ | refine kf ?_ | fail
  all_goals rfl
theorem Ij : DeferOk Tryz.prog 43 0 := by
 refine ⟨⟨_, Tryz.func43, by kernel_rfl, by kernel_rfl⟩, fun vs w hl => ?_⟩
 match vs, hl with
 | [], _ =>
   refine callsD_of_wpS Tryz.func43 rfl fun c₀ cs hu => ?_
   apply wpS_region
   simp [wpOpsS, go_sem, recoverD, hu, Tryz.ntmps43, Exit.thenS]
   cases c₀
   simp_all [bodyPostS, results, Tryz.results43]
def OG (ok : Bool) (q : List Entry × List Entry × Int) : List Entry × Int := if ok = true then (if q.2.2 = 0 then Ba (-1) q.2.1 q.1 else ([], q.2.2)) else ([], 1)
theorem Kn (v : Vw) (l r dl dr : List Entry) (q : List Entry × List Entry × Int)
  (hq : BY v l r = true → PC 44 [.agg v.d, .one (Am l), .one (Am r), .one (Am dl), .one (Am dr)] (Km q)) :
  PC 18 [.agg v.d, .one (Am l), .one (Am r), .one (Am dl), .one (Am dr)] (Bt (OG (BY v l r) q)) := by
 have hd := II v l r
 unfold OG
 cases h : BY v l r
 ·rw [h] at hd
  rw [if_neg (by simp)]
  dsimp only [Bt]
  refine Ac hT Tryz.func18 Tryz.ntmps18 [.tmp 10, .tmp 11] fun B => ?_
  repeat' first | refine kz ?_ | refine Aa (hd) ?_ | refine AA (by repeat (first | exact Ae | refine As Ij ?_)) ?_ ?_ | refine kf ?_ | fail
  all_goals rfl
 ·rw [h] at hd
  have hq := hq h
  rw [if_pos rfl]
  obtain ⟨x, y, e⟩ := q
  dsimp only [Km] at hq ⊢
  by_cases he : e = 0
  · subst he
    have ha := OU y x
    rw [if_pos rfl]
    generalize Ba (-1) y x = a at ha ⊢
    dsimp only [Bt]
    refine Ac hT Tryz.func18 Tryz.ntmps18 [.tmp 10, .tmp 11] fun B => ?_
    repeat' first | refine kz ?_ | refine Aa (hd) ?_ | refine Aa (hq) ?_ | refine Aa (ha) ?_ | refine AA (by repeat (first | exact Ae | refine As Ij ?_)) ?_ ?_ | refine kf ?_ | fail
    all_goals rfl
  · rw [if_neg he]
    dsimp only [Bt]
    refine Ac hT Tryz.func18 Tryz.ntmps18 [.tmp 10, .tmp 11] fun B => ?_
    repeat' first | refine kz ?_ | refine Aa (hd) ?_ | refine Aa (hq) ?_ | refine AA (by repeat (first | exact Ae | refine As Ij ?_)) ?_ ?_ | refine kf ?_ | fail
    all_goals rfl
theorem Ga : DeferOk Tryz.prog 39 0 := by
 refine ⟨⟨_, Tryz.func39, by kernel_rfl, by kernel_rfl⟩, fun vs w hl => ?_⟩
 match vs, hl with
 | [], _ =>
   refine callsD_of_wpS Tryz.func39 rfl fun c₀ cs hu => ?_
   apply wpS_region
   simp [wpOpsS, go_sem, recoverD, hu, Tryz.ntmps39, Exit.thenS]
   cases c₀
   simp_all [bodyPostS, results, Tryz.results39]
def WJ (ok : Bool) (v : Vw) (l r : List Entry) (s o : List Entry × Int) : List Entry × Int :=
 if ok = true then (if v.kind = 2 then Ba 1 l r else if s.2 = 0 then o else ([], s.2)) else ([], 1)
theorem OH (v : Vw) (l r : List Entry) (s o : List Entry × Int)
  (hs : v.kind ≠ 2 → PC 41 [.agg v.d, .one (Am l), .one (Am r)] (Bt s))
  (ho : v.kind ≠ 2 → PC 42 [.agg v.d, .one (Am s.1)] (Bt o)) :
  PC 17 [.agg v.d, .one (Am l), .one (Am r)] (Bt (WJ (BY v l r) v l r s o)) := by
 have hd := II v l r
 unfold WJ
 cases h : BY v l r
 ·rw [h] at hd
  rw [if_neg (by simp)]
  dsimp only [Bt]
  refine Ac hT Tryz.func17 Tryz.ntmps17 [.tmp 6, .tmp 7] fun B => ?_
  repeat' first | refine kz ?_ | refine Aa (hd) ?_ | refine AA (by repeat (first | exact Ae | refine As Ga ?_)) ?_ ?_ | refine kf ?_ | fail
  all_goals rfl
 ·rw [h] at hd
  rw [if_pos rfl]
  by_cases hk : v.kind = 2
  · have ha := Fc l r
    rw [if_pos hk]
    generalize Ba 1 l r = a at ha ⊢
    dsimp only [Bt]
    refine Ac hT Tryz.func17 Tryz.ntmps17 [.tmp 6, .tmp 7] fun B => ?_
    repeat' first | refine kz ?_ | refine Aa (hd) ?_ | refine Aa (ha) ?_ | refine AA (by repeat (first | exact Ae | refine As Ga ?_)) ?_ ?_ | refine kf ?_ | fail
    all_goals rfl
  · specialize hs hk
    specialize ho hk
    rw [if_neg hk]
    obtain ⟨s, e⟩ := s
    obtain ⟨o, f⟩ := o
    dsimp only [Bt] at hs ho ⊢
    by_cases he : e = 0
    ·subst he
     rw [if_pos rfl]
     dsimp only
     refine Ac hT Tryz.func17 Tryz.ntmps17 [.tmp 6, .tmp 7] fun B => ?_
     repeat' first | refine kz ?_ | refine Aa (hd) ?_ | refine Aa (hs) ?_ | refine Aa (ho) ?_ | refine AA (by repeat (first | exact Ae | refine As Ga ?_)) ?_ ?_ | refine kf ?_ | fail
     all_goals rfl
    ·rw [if_neg he]
     dsimp only
     refine Ac hT Tryz.func17 Tryz.ntmps17 [.tmp 6, .tmp 7] fun B => ?_
     repeat' first | refine kz ?_ | refine Aa (hd) ?_ | refine Aa (hs) ?_ | refine AA (by repeat (first | exact Ae | refine As Ga ?_)) ?_ ?_ | refine kf ?_ | fail
     all_goals rfl
def IQ (v : Vw) (j : List Entry) : List Entry × Int := Mp (fun _ _ _ => ([], 0)) v j
theorem UW (v : Vw) (j : List Entry) (hil : v.items.length ≤ 10000) (hk : v.kind ≠ 1) : PC 42 [.agg v.d, .one (Am j)] (Bt (IQ v j)) :=
 OJ _ v j hil fun h => absurd h hk
theorem UX (v : Vw) (l r : List Entry) (hr : BH v = true) : PC 41 [.agg v.d, .one (Am l), .one (Am r)] (Bt (l, 0)) := by
 have h := Gj (fun _ _ _ => ([], 0)) v l r (fun h => absurd hr (by rw [h]; decide))
 rw [Mn, if_pos hr] at h
 exact h
theorem R8 (v : Vw) (l r : List Entry) (hil : v.items.length ≤ 10000) (hk : v.kind = 0) (hr : BH v = true) : PC 17 [.agg v.d, .one (Am l), .one (Am r)] (Bt (if BY v l r = true then IQ v l else ([], 1))) := by
 have h := OH v l r (l, 0) (IQ v l) (fun _ => UX v l r hr) (fun _ => UW v l hil (by omega))
 rw [WJ, if_neg (show ¬ v.kind = 2 by omega), if_pos (show ((l, 0) : List Entry × Int).2 = 0 from rfl)] at h
 exact h
theorem bz {v : Vw} (l r dl dr : List Entry) (hk : v.kind ≠ 2) (hr : BH v = true) : C4 v l r dl dr = ((Dj l dl).1, [], (Dj l dl).2) := by
 rw [C4, if_neg]
 rintro ⟨_, h⟩
 simp [Di, hr, hk] at h
theorem LA (v : Vw) (l r dl dr : List Entry) (hil : v.items.length ≤ 10000) (hk : v.kind = 0) (hr : BH v = true) : PC 18 [.agg v.d, .one (Am l), .one (Am r), .one (Am dl), .one (Am dr)] (Bt (OG (BY v l r) (Lz (l, 0) (IQ v l) (Dj l dl) (IQ v (Dj l dl).1)))) := by
 refine Kn v l r dl dr _ fun _ => ?_
 refine IG v l r dl dr _ _ _ _ (by omega) (UX v l r hr) (UW v l hil (by omega)) ?_ (UW v _ hil (by omega))
 have h := Gi (fun _ _ _ => ([], 0)) ([], 0) v l l r dl dr (fun h => absurd hr (by rw [h]; decide)) (fun h => absurd hr (by rw [h]; decide))
 rw [R7, bz l r dl dr (by omega) hr, if_neg (by simp [hr])] at h
 exact h
theorem R9 (v : Vw) (l r dl dr : List Entry) (hk : v.kind = 2) : PC 18 [.agg v.d, .one (Am l), .one (Am r), .one (Am dl), .one (Am dr)] (Bt (OG (BY v l r) (OE v l r dl dr))) :=
 Kn v l r dl dr _ fun _ => OF v l r dl dr hk
def rD (r : List Val) : List Dat := [BP r]
def cA (l : List (List Val)) : Dat := .sl (l.map rD)
def dJ (a b : List Val) : Bool := decide (Ai a b = 0)
noncomputable def srtK (items : List Itm) (D : List Entry) : List (List Val) := sortF Ai (D.map fun e => Bm items e.row)
noncomputable def tkE (items : List Itm) (D : List Entry) : List (List Val) := W3 dJ (srtK items D) (srtK items D).length
noncomputable def tchE (v : Vw) (ok : Bool) (s j d : List Entry × Int) : List (List Val) × Int :=
 if v.kind = 1 ∧ ok = true then (if s.2 = 0 then (if j.2 = 0 then (if d.2 = 0 then (tkE v.items d.1, 0) else ([], d.2)) else ([], j.2)) else ([], s.2)) else ([], 1)
def dK (q : List (List Val) × Int) : PRes := .tup [.one (cA q.1), .one (.lit (.int .i64 q.2))]
def sumR (l : List Entry) : List Entry :=
 if h : l.length < 2 then l
 else mergeE (sumR (l.take (l.length / 2))) (sumR (l.drop (l.length / 2)))
 termination_by l.length
 decreasing_by
  ·simp; omega
  ·simp; omega
theorem Ls (l : List Entry) : (∀ e ∈ l, e.count ≠ 0) → sumR l = sortE l := by
 induction l using sumR.induct with
 | case1 l h =>
   intro hn
   rw [sumR, dif_pos h, sortE, dif_pos (by omega)]
   exact (ZR.2 fun e he => by simp [hn e he]).symm
 | case2 l h ih1 ih2 =>
   intro hn
   rw [sumR, dif_neg h, sortE, dif_neg (by omega), ih1 (fun e he => hn e (IS he)), ih2 (fun e he => hn e (U1 he))]
def Dm (x y : List Val) (on : List (Int × Int)) : Bool := on.all fun p => decide ((GQ x p.1).kind ≠ 0) && CJ (GQ x p.1) (GQ y p.2)
def Ca (b : List Entry) : Bool := b.all (fun e => decide (e.row.length ≤ 8)) && Aj b
end Go.Proofs.YtmpgmjlanngkfaaGreat
end
section
namespace Go.Proofs.YtmpgmjlanngkfaaGreat
open Go.Abs Go.RowKit
set_option linter.unusedSimpArgs false
set_option maxRecDepth 100000
theorem Yo (r s : List Val) : 0 ≤ UR r s := by unfold UR; split <;> omega
theorem Ng {a d s : List Entry} (vs : Aj s = true) (h : ∀ g, wS g s = wS g a + wS g d) (hf : ∀ g : List Val → Int, (∀ r, 0 ≤ g r) → 0 ≤ wS g a + wS g d) : Ap s = true := by
 unfold Ap
 rw [vs, Bool.true_and, CN]
 intro e he
 have h1 := DZ (BB (AY vs).up) he (rowCmp_ok.refl _)
 have h2 := hf (UR e.row) (Yo _)
 rw [PD, h] at h1
 simp; omega
theorem G4 {a : List Entry} (va : Aj a = true) (pa : ∀ e ∈ a, 0 < e.count) : Ap a = true := by
 unfold Ap
 rw [va, Bool.true_and, CN]
 intro e he
 have := pa e he
 simp; omega
theorem Nh {a d : List Entry} {A D w : Nat} (ha : Tiny A w a) (hd : Tiny D w d) (hf : ∀ g : List Val → Int, (∀ r, 0 ≤ g r) → 0 ≤ wS g a + wS g d) (hn : A + D ≤ 4096) : ∃ s, Dj a d = (s, 0) ∧ Ba 1 a d = (s, 0) ∧ Tiny (A + D) w s ∧ Ap s = true ∧ ∀ g, wS g s = wS g a + wS g d := by
 obtain ⟨s, h1, h2, h3⟩ := Ks ha hd hn
 have hp := Ng h2.v h3 hf
 refine ⟨s, ?_, h1, h2, hp, h3⟩
 unfold Dj
 rw [h1, if_pos ⟨rfl, hp⟩]
def dv (ks : List Itm) (ag : List Agg) : Vw := ⟨⟨#[]⟩, 1, ⟨#[]⟩, ⟨#[]⟩, [], [], ks, false, ag⟩
end Go.Proofs.YtmpgmjlanngkfaaGreat
end
section
namespace Go.Proofs.YtmpgmjlanngkfaaGreat
open Go.Abs Go.RowKit
attribute [local irreducible] ARun Au MCall PCall HCall Ak SF CF CFs Af Ag Ar fin AP VLe
set_option linter.unusedSimpArgs false
set_option maxRecDepth 100000
set_option maxHeartbeats 4000000
def Hm (x y : Entry) : Entry := ⟨x.row ++ y.row, x.count * y.count⟩
def C1 (x : Entry) (b : List Entry) (on : List (Int × Int)) : List Entry := (b.filter fun y => Dm x.row y.row on).map (Hm x)
def A3 (a b : List Entry) (on : List (Int × Int)) : List Entry := a.flatMap fun x => C1 x b on
theorem Ib {a b : List Entry} {on : List (Int × Int)} {e : Entry} (h : e ∈ A3 a b on) : ∃ x ∈ a, ∃ y ∈ b, Dm x.row y.row on = true ∧ e = Hm x y := by
 obtain ⟨x, hx, he⟩ := List.mem_flatMap.1 h
 obtain ⟨y, hy, rfl⟩ := List.mem_map.1 he
 obtain ⟨h1, h2⟩ := Ms.1 hy
 exact ⟨x, hx, y, h1, h2, rfl⟩
theorem E6 {l : List Entry} (h : Ca l = true) : l.length ≤ 4096 ∧ ∀ e ∈ l, AD e.row = true ∧ (-262144 ≤ e.count ∧ e.count ≤ 262144) ∧ e.row.length ≤ 8 ∧ e.count ≠ 0 := by
 unfold Ca at h
 simp only [Bi] at h
 obtain ⟨h1, h2⟩ := AF h.2
 refine ⟨h1, fun e he => ⟨(h2 e he).1, (h2 e he).2.1, ?_, (h2 e he).2.2⟩⟩
 have := CN.1 h.1 e he
 simpa using this
def E7 (l : List Entry) : List Entry × Nat :=
 if 4096 < l.length then ([], 8)
 else if l.all (fun e => decide (-262144 ≤ e.count ∧ e.count ≤ 262144)) then (l, 0)
 else ([], 9)
def EJ (a b : List Entry) (on : List (Int × Int)) : List Entry × Nat :=
 if Ca a && Ca b then E7 (sumR (A3 a b on)) else ([], 1)
def cx (q : List Entry × Nat) : PRes := .tup [.one (Am q.1), .one (.lit (.int .i64 q.2))]
end Go.Proofs.YtmpgmjlanngkfaaGreat
end
