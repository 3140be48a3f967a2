/-
  The document's Support, Add and Derive.
-/
import Derived.Test.YtmpgmjlanngkfaaGreatAgm
import Derived.Test.YtmpgmjlanngkfaaGreatFta
import Derived.Test.YtmpgmjlanngkfaaGreatJoj
import Derived.Test.YtmpgmjlanngkfaaGreatTap
import Derived.Test.YtmpgmjlanngkfaaGreatJod
import Derived.Test.YtmpgmjlanngkfaaGreatRgd
import Derived.Test.YtmpgmjlanngkfaaGreatAgh
section
namespace Go.Proofs.YtmpgmjlanngkfaaGreat
open Go.Abs Go.RowKit
attribute [local irreducible] ARun Av MCall PCall HCall Ap SF CF CFs Ag Ai As fin AY VLe
set_option linter.unusedSimpArgs false
set_option maxRecDepth 100000
set_option maxHeartbeats 4000000
def HI (J : List Entry → List Entry → List (Int × Int) → List Entry × Int) (C : List Entry × Int) (v : Vw) (j l r dl dr : List Entry) : List Entry × Int :=
 if (Dn v l r dl dr).2.2 = 0 ∧ Cf v = false then
  (if C.2 = 0 then AN 1 j C.1 else J (Dn v l r dl dr).1 (Dn v l r dl dr).2.1 v.on)
 else ((Dn v l r dl dr).1, (Dn v l r dl dr).2.2)
theorem HQ (J : List Entry → List Entry → List (Int × Int) → List Entry × Int) (C : List Entry × Int) (v : Vw) (j l r dl dr : List Entry)
  (hj : Cf v = false → PC 89 [.one (Ak (Dn v l r dl dr).1), .one (Ak (Dn v l r dl dr).2.1), .one (TG v.on)] (Bi (J (Dn v l r dl dr).1 (Dn v l r dl dr).2.1 v.on)))
  (hc : Cf v = false → PC 103 [.agg v.d, .one (Ak l), .one (Ak r), .one (Ak dl), .one (Ak dr)] (Bi C)) :
  PC 55 [.agg v.d, .one (Ak j), .one (Ak l), .one (Ak r), .one (Ak dl), .one (Ak dr)] (Bi (HI J C v j l r dl dr)) := by
 have hs := FK v l r dl dr
 unfold HI
 generalize Dn v l r dl dr = s at hs hj ⊢
 obtain ⟨x, y, e⟩ := s
 dsimp only [Bi] at hs hj hc ⊢
 by_cases he : e = 0
 ·subst he
  cases hr : Cf v
  · have h1 := Ha hr
    have hj := hj hr
    have hc := hc hr
    rw [if_pos ⟨rfl, rfl⟩]
    have ha := Mk j C.1
    generalize J x y v.on = q at hj ⊢
    generalize AN 1 j C.1 = a at ha ⊢
    obtain ⟨C, f⟩ := C
    dsimp only at hc ha ⊢
    by_cases hf : f = 0
    ·subst hf
     rw [if_pos rfl]
     refine Ac hT Tryz.func55 Tryz.ntmps55 [.tmp 12, .tmp 13] fun B => ?_
     repeat' first | refine kz ?_ | refine Aa (hs) ?_ | refine Aa (hc) ?_ | refine Aa (ha) ?_ | refine kh ?_ ?_ | exact ⟨⟩ | fail
     all_goals rfl
    ·rw [if_neg hf]
     refine Ac hT Tryz.func55 Tryz.ntmps55 [.tmp 12, .tmp 13] fun B => ?_
     repeat' first | refine kz ?_ | refine Aa (hs) ?_ | refine Aa (hc) ?_ | refine Aa (hj) ?_ | refine kh ?_ ?_ | exact ⟨⟩ | fail
     all_goals rfl
  · have h1 := G9 hr
    rw [if_neg (by simp)]
    refine Ac hT Tryz.func55 Tryz.ntmps55 [.tmp 12, .tmp 13] fun B => ?_
    repeat' first | refine kz ?_ | refine Aa (hs) ?_ | refine kh ?_ ?_ | exact ⟨⟩ | fail
    all_goals rfl
 ·rw [if_neg fun h => he h.1]
  refine Ac hT Tryz.func55 Tryz.ntmps55 [.tmp 12, .tmp 13] fun B => ?_
  repeat' first | refine kz ?_ | refine Aa (hs) ?_ | refine kh ?_ ?_ | exact ⟨⟩ | fail
  all_goals rfl
def Nl (v : Vw) (l r dl dr : List Entry) : List Entry × List Entry × Int :=
 if (AN 1 l r).2 = 0 then
  (if (Dn v l r dl dr).2.2 = 0 then ((AN 1 l r).1, (AN 1 (Dn v l r dl dr).1 (Dn v l r dl dr).2.1).1, (AN 1 (Dn v l r dl dr).1 (Dn v l r dl dr).2.1).2)
  else ([], [], (Dn v l r dl dr).2.2))
 else ([], [], (AN 1 l r).2)
def LR (q : List Entry × List Entry × Int) : PRes := .tup [.one (Ak q.1), .one (Ak q.2.1), .one (.lit (.int .i64 q.2.2))]
theorem QS (v : Vw) (l r dl dr : List Entry) (hk : v.kind = 2) : PC 44 [.agg v.d, .one (Ak l), .one (Ak r), .one (Ak dl), .one (Ak dr)] (LR (Nl v l r dl dr)) := by
 have ha := Mk l r
 have hs := FK v l r dl dr
 unfold Nl
 generalize AN 1 l r = a at ha ⊢
 generalize Dn v l r dl dr = s at hs ⊢
 obtain ⟨a, e⟩ := a
 obtain ⟨x, y, f⟩ := s
 dsimp only at ha hs ⊢
 have hb := Mk x y
 generalize AN 1 x y = b at hb ⊢
 by_cases he : e = 0
 ·subst he
  rw [if_pos rfl]
  by_cases hf : f = 0
  ·subst hf
   rw [if_pos rfl]
   dsimp only [LR]
   refine Ac hT Tryz.func44 Tryz.ntmps44 [.tmp 10, .tmp 11, .tmp 12] fun B => ?_
   repeat' first | refine kz ?_ | refine Aa (ha) ?_ | refine Aa (hs) ?_ | refine Aa (hb) ?_ | refine C5 Ad ?_ ?_ ?_ | refine kf ?_ | fail
   all_goals rfl
  ·rw [if_neg hf]
   dsimp only [LR]
   refine Ac hT Tryz.func44 Tryz.ntmps44 [.tmp 10, .tmp 11, .tmp 12] fun B => ?_
   repeat' first | refine kz ?_ | refine Aa (ha) ?_ | refine Aa (hs) ?_ | refine C5 Ad ?_ ?_ ?_ | refine kf ?_ | fail
   all_goals rfl
 ·rw [if_neg he]
  dsimp only [LR]
  refine Ac hT Tryz.func44 Tryz.ntmps44 [.tmp 10, .tmp 11, .tmp 12] fun B => ?_
  repeat' first | refine kz ?_ | refine Aa (ha) ?_ | refine C5 Ad ?_ ?_ ?_ | refine kf ?_ | fail
  all_goals rfl
def LS (s o j p : List Entry × Int) : List Entry × List Entry × Int :=
 if s.2 = 0 then (if o.2 = 0 then (if j.2 = 0 then (o.1, p.1, p.2) else ([], [], j.2)) else ([], [], o.2)) else ([], [], s.2)
theorem J3 (v : Vw) (l r dl dr : List Entry) (s o j p : List Entry × Int) (hk : v.kind ≠ 2)
  (hs : PC 41 [.agg v.d, .one (Ak l), .one (Ak r)] (Bi s))
  (ho : PC 42 [.agg v.d, .one (Ak s.1)] (Bi o))
  (hj : PC 55 [.agg v.d, .one (Ak s.1), .one (Ak l), .one (Ak r), .one (Ak dl), .one (Ak dr)] (Bi j))
  (hp : PC 42 [.agg v.d, .one (Ak j.1)] (Bi p)) :
  PC 44 [.agg v.d, .one (Ak l), .one (Ak r), .one (Ak dl), .one (Ak dr)] (LR (LS s o j p)) := by
 unfold LS
 obtain ⟨s, e1⟩ := s
 obtain ⟨o, e2⟩ := o
 obtain ⟨j, e3⟩ := j
 dsimp only [Bi] at hs ho hj hp ⊢
 by_cases h1 : e1 = 0
 ·subst h1
  rw [if_pos rfl]
  by_cases h2 : e2 = 0
  · subst h2
    rw [if_pos rfl]
    by_cases h3 : e3 = 0
    ·subst h3
     rw [if_pos rfl]
     dsimp only [LR]
     refine Ac hT Tryz.func44 Tryz.ntmps44 [.tmp 10, .tmp 11, .tmp 12] fun B => ?_
     repeat' first | refine Aa (ha := by exact And.intro rfl (And.intro rfl (And.intro rfl (And.intro rfl (And.intro rfl (And.intro rfl trivial)))))) hj ?_ | refine kz ?_ | refine Aa (hs) ?_ | refine Aa (ho) ?_ | refine Aa (hp) ?_ | refine C5 Ad ?_ ?_ ?_ | refine Bq ?_ | refine BC ?_
     all_goals rfl
    ·rw [if_neg h3]
     dsimp only [LR]
     refine Ac hT Tryz.func44 Tryz.ntmps44 [.tmp 10, .tmp 11, .tmp 12] fun B => ?_
     repeat' first | refine Aa (ha := by exact And.intro rfl (And.intro rfl (And.intro rfl (And.intro rfl (And.intro rfl (And.intro rfl trivial)))))) hj ?_ | refine kz ?_ | refine Aa (hs) ?_ | refine Aa (ho) ?_ | refine C5 Ad ?_ ?_ ?_ | refine Bq ?_ | refine BC ?_
     all_goals rfl
  · rw [if_neg h2]
    dsimp only [LR]
    refine Ac hT Tryz.func44 Tryz.ntmps44 [.tmp 10, .tmp 11, .tmp 12] fun B => ?_
    repeat' first | refine kz ?_ | refine Aa (hs) ?_ | refine Aa (ho) ?_ | refine C5 Ad ?_ ?_ ?_ | refine kf ?_ | fail
    all_goals rfl
 ·rw [if_neg h1]
  dsimp only [LR]
  refine Ac hT Tryz.func44 Tryz.ntmps44 [.tmp 10, .tmp 11, .tmp 12] fun B => ?_
  repeat' first | refine kz ?_ | refine Aa (hs) ?_ | refine C5 Ad ?_ ?_ ?_ | refine kf ?_ | fail
  all_goals rfl
theorem JD : DeferOk Tryz.prog 43 0 := by
 refine ⟨⟨_, Tryz.func43, by kernel_rfl, by kernel_rfl⟩, fun vs w hl => ?_⟩
 match vs, hl with
 | [], _ =>
   refine callsD_of_wpS Tryz.func43 rfl fun c₀ cs hu => ?_
   apply wpS_region
   simp [wpOpsS, go_sem, recoverD, hu, Tryz.ntmps43, Exit.thenS]
   cases c₀
   simp_all [bodyPostS, results, Tryz.results43]
def Mb (ok : Bool) (q : List Entry × List Entry × Int) : List Entry × Int := if ok = true then (if q.2.2 = 0 then AN (-1) q.2.1 q.1 else ([], q.2.2)) else ([], 1)
theorem LU (v : Vw) (l r dl dr : List Entry) (q : List Entry × List Entry × Int)
  (hq : A1 v l r = true → PC 44 [.agg v.d, .one (Ak l), .one (Ak r), .one (Ak dl), .one (Ak dr)] (LR q)) :
  PC 18 [.agg v.d, .one (Ak l), .one (Ak r), .one (Ak dl), .one (Ak dr)] (Bi (Mb (A1 v l r) q)) := by
 have hd := Hb v l r
 unfold Mb
 cases h : A1 v l r
 ·rw [h] at hd
  rw [if_neg (by simp)]
  dsimp only [Bi]
  refine Ac hT Tryz.func18 Tryz.ntmps18 [.tmp 10, .tmp 11] fun B => ?_
  repeat' first | refine kz ?_ | refine Aa (hd) ?_ | refine Aw (by repeat (first | exact Ad | refine Aq JD ?_)) ?_ ?_ | refine kf ?_ | fail
  all_goals rfl
 ·rw [h] at hd
  have hq := hq h
  rw [if_pos rfl]
  obtain ⟨x, y, e⟩ := q
  dsimp only [LR] at hq ⊢
  by_cases he : e = 0
  · subst he
    have ha := KD y x
    rw [if_pos rfl]
    generalize AN (-1) y x = a at ha ⊢
    dsimp only [Bi]
    refine Ac hT Tryz.func18 Tryz.ntmps18 [.tmp 10, .tmp 11] fun B => ?_
    repeat' first | refine kz ?_ | refine Aa (hd) ?_ | refine Aa (hq) ?_ | refine Aa (ha) ?_ | refine Aw (by repeat (first | exact Ad | refine Aq JD ?_)) ?_ ?_ | refine kf ?_ | fail
    all_goals rfl
  · rw [if_neg he]
    dsimp only [Bi]
    refine Ac hT Tryz.func18 Tryz.ntmps18 [.tmp 10, .tmp 11] fun B => ?_
    repeat' first | refine kz ?_ | refine Aa (hd) ?_ | refine Aa (hq) ?_ | refine Aw (by repeat (first | exact Ad | refine Aq JD ?_)) ?_ ?_ | refine kf ?_ | fail
    all_goals rfl
theorem OX (e : Entry) : PC 192 [.agg e.d] (.v (.one (.lit (.bool (decide (8 < (e.row.length : Int))))))) := by
 refine Ac hT Tryz.func192 Tryz.ntmps192 [.tmp 2] fun B => ?_
 repeat' first | refine kz ?_ | refine kf ?_ | fail
 all_goals rfl
theorem KM (b : List Entry) : PC 142 [.one (Ak b)] (.v (.one (.lit (.bool (A4 b))))) := by
 have hc := O9 192 _ OX b
 have hv := Ck b
 have hn : A4 b = (Am b && !(b.any fun e => decide (8 < (e.row.length : Int)))) := by
  unfold A4
  rw [Bool.and_comm]
  congr 1
  rw [List.not_any_eq_all_not]
  congr 1
  funext e
  rw [Q2]
  simp
  omega
 rw [hn]
 cases h : Am b <;> rw [h] at hv
 ·refine Ac hT Tryz.func142 Tryz.ntmps142 [.tmp 2] fun B => ?_
  repeat' first | refine kz ?_ | refine Aa (hv) ?_ | refine Aa (hc) ?_ | refine kf ?_ | fail
  all_goals rfl
 ·refine Ac hT Tryz.func142 Tryz.ntmps142 [.tmp 2] fun B => ?_
  repeat' first | refine kz ?_ | refine Aa (hv) ?_ | refine Aa (hc) ?_ | refine kf ?_ | fail
  all_goals rfl
theorem HY : DeferOk Tryz.prog 141 0 := by
 refine ⟨⟨_, Tryz.func141, by kernel_rfl, by kernel_rfl⟩, fun vs w hl => ?_⟩
 match vs, hl with
 | [], _ =>
   refine callsD_of_wpS Tryz.func141 rfl fun c₀ cs hu => ?_
   apply wpS_region
   simp [wpOpsS, go_sem, recoverD, hu, Tryz.ntmps141, Exit.thenS]
   cases c₀
   simp_all [bodyPostS, results, Tryz.results141]
theorem TH (a b : List Entry) (on : List (Int × Int)) (oz : on.length ≤ 10000) : PC 89 [.one (Ak a), .one (Ak b), .one (TG on)] (e8 (Dl a b on)) := by
 have oh := KM a
 have pN := KM b
 unfold Dl
 cases na : A4 a
 ·rw [na] at oh
  refine Ac hT Tryz.func89 Tryz.ntmps89 [.tmp 6, .tmp 7] fun B => ?_
  repeat' first | refine kz ?_ | refine Aa (oh) ?_ | refine Aw (by repeat (first | exact Ad | refine Aq HY ?_)) ?_ ?_ | refine kf ?_ | fail
  all_goals rfl
 cases nb : A4 b
 ·rw [na] at oh
  rw [nb] at pN
  refine Ac hT Tryz.func89 Tryz.ntmps89 [.tmp 6, .tmp 7] fun B => ?_
  repeat' first | refine kz ?_ | refine Aa (oh) ?_ | refine Aa (pN) ?_ | refine Aw (by repeat (first | exact Ad | refine Aq HY ?_)) ?_ ?_ | refine kf ?_ | fail
  all_goals rfl
 rw [na] at oh
 rw [nb] at pN
 rw [Bool.and_self, if_pos rfl]
 obtain ⟨al, am⟩ := BJ na
 obtain ⟨bl, bm⟩ := BJ nb
 have hs := Uu on na nb
 have hj := cg a b on al bl oz (fun e he => ⟨(am e he).1, (am e he).2.1⟩) (fun e he => ⟨(bm e he).1, (bm e he).2.1⟩) ((CA (sumR (A2 a b on))).1, ((CA (sumR (A2 a b on))).2 : Int)) (by
  cases hf : P8 a b on with
  | none => rw [hf] at hs; simp only at hs ⊢; rw [hs]; rfl
  | some r =>
    rw [hf] at hs
    obtain ⟨rs, h1, h2, h3⟩ := hs
    refine ⟨rs, h1, h2, ?_⟩
    rw [h3]
    split <;> rfl)
 simp only at hj
 generalize CA (sumR (A2 a b on)) = R at hj ⊢
 refine Ac hT Tryz.func89 Tryz.ntmps89 [.tmp 6, .tmp 7] fun B => ?_
 repeat' first | refine kz ?_ | refine Aa (oh) ?_ | refine Aa (pN) ?_ | refine Aa (hj) ?_ | refine Aw (by repeat (first | exact Ad | refine Aq HY ?_)) ?_ ?_ | refine kf ?_ | fail
 all_goals rfl
def A7 (a b : List Entry) (on : List (Int × Int)) : List Entry × Int := ((Dl a b on).1, ((Dl a b on).2 : Int))
theorem Ri (a b : List Entry) (on : List (Int × Int)) (oz : on.length ≤ 10000) : PC 89 [.one (Ak a), .one (Ak b), .one (TG on)] (.tup [.one (Ak (A7 a b on).1), .one (.lit (.int .i64 (A7 a b on).2))]) := TH a b on oz
theorem HB : DeferOk Tryz.prog 39 0 := by
 refine ⟨⟨_, Tryz.func39, by kernel_rfl, by kernel_rfl⟩, fun vs w hl => ?_⟩
 match vs, hl with
 | [], _ =>
   refine callsD_of_wpS Tryz.func39 rfl fun c₀ cs hu => ?_
   apply wpS_region
   simp [wpOpsS, go_sem, recoverD, hu, Tryz.ntmps39, Exit.thenS]
   cases c₀
   simp_all [bodyPostS, results, Tryz.results39]
def Ov (ok : Bool) (v : Vw) (l r : List Entry) (s o : List Entry × Int) : List Entry × Int :=
 if ok = true then (if v.kind = 2 then AN 1 l r else if s.2 = 0 then o else ([], s.2)) else ([], 1)
theorem XI (v : Vw) (l r : List Entry) (s o : List Entry × Int)
  (hs : v.kind ≠ 2 → PC 41 [.agg v.d, .one (Ak l), .one (Ak r)] (Bi s))
  (ho : v.kind ≠ 2 → PC 42 [.agg v.d, .one (Ak s.1)] (Bi o)) :
  PC 17 [.agg v.d, .one (Ak l), .one (Ak r)] (Bi (Ov (A1 v l r) v l r s o)) := by
 have hd := Hb v l r
 unfold Ov
 cases h : A1 v l r
 ·rw [h] at hd
  rw [if_neg (by simp)]
  dsimp only [Bi]
  refine Ac hT Tryz.func17 Tryz.ntmps17 [.tmp 6, .tmp 7] fun B => ?_
  repeat' first | refine kz ?_ | refine Aa (hd) ?_ | refine Aw (by repeat (first | exact Ad | refine Aq HB ?_)) ?_ ?_ | refine kf ?_ | fail
  all_goals rfl
 ·rw [h] at hd
  rw [if_pos rfl]
  by_cases hk : v.kind = 2
  · have ha := Mk l r
    rw [if_pos hk]
    generalize AN 1 l r = a at ha ⊢
    dsimp only [Bi]
    refine Ac hT Tryz.func17 Tryz.ntmps17 [.tmp 6, .tmp 7] fun B => ?_
    repeat' first | refine kz ?_ | refine Aa (hd) ?_ | refine Aa (ha) ?_ | refine Aw (by repeat (first | exact Ad | refine Aq HB ?_)) ?_ ?_ | refine kf ?_ | fail
    all_goals rfl
  · specialize hs hk
    specialize ho hk
    rw [if_neg hk]
    obtain ⟨s, e⟩ := s
    obtain ⟨o, f⟩ := o
    dsimp only [Bi] at hs ho ⊢
    by_cases he : e = 0
    ·subst he
     rw [if_pos rfl]
     dsimp only
     refine Ac hT Tryz.func17 Tryz.ntmps17 [.tmp 6, .tmp 7] fun B => ?_
     repeat' first | refine kz ?_ | refine Aa (hd) ?_ | refine Aa (hs) ?_ | refine Aa (ho) ?_ | refine Aw (by repeat (first | exact Ad | refine Aq HB ?_)) ?_ ?_ | refine kf ?_ | fail
     all_goals rfl
    ·rw [if_neg he]
     dsimp only
     refine Ac hT Tryz.func17 Tryz.ntmps17 [.tmp 6, .tmp 7] fun B => ?_
     repeat' first | refine kz ?_ | refine Aa (hd) ?_ | refine Aa (hs) ?_ | refine Aw (by repeat (first | exact Ad | refine Aq HB ?_)) ?_ ?_ | refine kf ?_ | fail
     all_goals rfl
def Kd (v : Vw) (j : List Entry) : List Entry × Int := JE (fun _ _ _ => ([], 0)) v j
theorem XJ (v : Vw) (j : List Entry) (kJ : v.items.length ≤ 10000) (hk : v.kind ≠ 1) : PC 42 [.agg v.d, .one (Ak j)] (Bi (Kd v j)) :=
 QU _ v j kJ fun h => absurd h hk
theorem XK (v : Vw) (l r : List Entry) (hr : Cf v = true) : PC 41 [.agg v.d, .one (Ak l), .one (Ak r)] (Bi (l, 0)) := by
 have h := HS (fun _ _ _ => ([], 0)) v l r (fun h => absurd hr (by rw [h]; decide))
 rw [B3, if_pos hr] at h
 exact h
theorem U0 (v : Vw) (l r : List Entry) (kJ : v.items.length ≤ 10000) (hk : v.kind = 0) (hr : Cf v = true) : PC 17 [.agg v.d, .one (Ak l), .one (Ak r)] (Bi (if A1 v l r = true then Kd v l else ([], 1))) := by
 have h := XI v l r (l, 0) (Kd v l) (fun _ => XK v l r hr) (fun _ => XJ v l kJ (by omega))
 rw [Ov, if_neg (show ¬ v.kind = 2 by omega), if_pos (show ((l, 0) : List Entry × Int).2 = 0 from rfl)] at h
 exact h
theorem gS {v : Vw} (l r dl dr : List Entry) (hk : v.kind ≠ 2) (hr : Cf v = true) : Dn v l r dl dr = ((CN l dl).1, [], (CN l dl).2) := by
 rw [Dn, if_neg]
 rintro ⟨_, h⟩
 simp [B8, hr, hk] at h
theorem Nn (v : Vw) (l r dl dr : List Entry) (kJ : v.items.length ≤ 10000) (hk : v.kind = 0) (hr : Cf v = true) : PC 18 [.agg v.d, .one (Ak l), .one (Ak r), .one (Ak dl), .one (Ak dr)] (Bi (Mb (A1 v l r) (LS (l, 0) (Kd v l) (CN l dl) (Kd v (CN l dl).1)))) := by
 refine LU v l r dl dr _ fun _ => ?_
 refine J3 v l r dl dr _ _ _ _ (by omega) (XK v l r hr) (XJ v l kJ (by omega)) ?_ (XJ v _ kJ (by omega))
 have h := HQ (fun _ _ _ => ([], 0)) ([], 0) v l l r dl dr (fun h => absurd hr (by rw [h]; decide)) (fun h => absurd hr (by rw [h]; decide))
 rw [HI, gS l r dl dr (by omega) hr, if_neg (by simp [hr])] at h
 exact h
theorem U1 (v : Vw) (l r dl dr : List Entry) (hk : v.kind = 2) : PC 18 [.agg v.d, .one (Ak l), .one (Ak r), .one (Ak dl), .one (Ak dr)] (Bi (Mb (A1 v l r) (Nl v l r dl dr))) :=
 LU v l r dl dr _ fun _ => QS v l r dl dr hk
theorem Of (l : List Entry) : PC 85 [.one (Ak l)] (.v (.one (Ak (BL l)))) := by
 have l6 := Bz l
 cases hb : Am l with
 | false =>
   rw [hb] at l6
   have he : BL l = [] := by simp [BL, hb]
   rw [he]
   refine Ac hT Tryz.func85 Tryz.ntmps85 [.tmp 2] fun B => ?_
   repeat' first | refine kz ?_ | refine Az rfl (fun hb => ?_) (fun hb => ?_) | refine Ao ?_ | refine Aa (l6) ?_ | refine kh ?_ ?_ | exact ⟨⟩ | fail
   all_goals rfl
 | true =>
   rw [hb] at l6
   have he : BL l = Il l := by simp [BL, hb]
   obtain ⟨hl, hm⟩ := AP hb
   rw [he]
   refine Ac hT Tryz.func85 Tryz.ntmps85 [.tmp 2] fun B => ?_
   repeat' first | refine kz ?_ | refine Az rfl (fun hb => ?_) (fun hb => ?_) | refine Ao ?_ | refine Aa (l6) ?_ | refine kh ?_ ?_ | exact ⟨⟩ | fail
   refine Bv 3 56 2 ?_
   refine AK (X := Nat × Nat) ([3, 4] ++ List.range' 8 21) (fun x => x.1 ≤ l.length) (fun x lz => (3, .c (.arr 0 x.2 (Il (l.take x.1)).length)) :: (4, (iC x.1)) :: lz) (fun x => [.arr x.2 56 2 ((Il (l.take x.1)).map Entry.d)]) (fun x => l.length - x.1) ((0, 1)) ?_ ?_ ?_ ?_
   repeat' first | exact k0 | refine kw ?_ | refine kv ?_ ?_ | omega
   rintro ⟨i, k⟩ c hi
   dsimp only at hi ⊢
   have jy : (Il (l.take i)).length ≤ i := by
    unfold Il
    rw [BR]
    refine LX (Q1 ..) (by simp; omega)
   by_cases i7 : i < l.length
   ·obtain ⟨e, hv⟩ := gx i7
    have jc := Nd hv
    repeat' first | refine kz ?_ | refine Az rfl (fun hb => ?_) (fun hb => ?_) | refine AF hv ?_ | refine Ao ?_ | refine kh ?_ ?_ | exact ⟨⟩ | fail
    ·rw [if_pos hb] at jc
     apply Af ((i + 1, _)) <;> (try dsimp only) <;> try repeat' first | exact k0 | refine w1 ?_ | refine w5 ?_ ?_ | refine Ab ?_ | refine m1 ?_ ?_ | omega
     ·rw [jc]; simp
     ·rw [jc, Ag']; rfl
    ·rw [if_neg (by omega), List.append_nil] at jc
     apply Af ((i + 1, _)) <;> (try dsimp only) <;> try repeat' first | exact k0 | refine w1 ?_ | refine w5 ?_ ?_ | refine Ab ?_ | refine m1 ?_ ?_ | omega
     all_goals (rw [jc])
   ·rw [Ah (by omega)]
    repeat' first | refine kz ?_ | refine Az rfl (fun hb => ?_) (fun hb => ?_) | refine Ao ?_ | refine kh ?_ ?_ | exact ⟨⟩ | fail
    ·simp
    ·rw [Ah (by simp)]; rfl
theorem Fa {l : List Entry} (h : Am l = true) : Ba 1152921504606846976 l := fun e he => by
 have := ((AP h).2 e he).2.1
 omega
theorem Ly (a b : List Entry) : PC 81 [.one (Ak a), .one (Ak b)] (.tup [.one (Ak (AN 1 a b).1), .one (.lit (.int .i64 (AN 1 a b).2))]) := by
 have h1 := Bz a
 have h2 := Bz b
 by_cases ha : Am a = true
 ·by_cases hb : Am b = true
  ·have l1 := (AP ha).1
   have l2 := (AP hb).1
   have hm := Oc a b (by omega) (by omega) (Fa ha) (Fa hb)
   have he : AN 1 a b = AU (mergeE a b) := by rw [AN, if_pos ⟨ha, hb⟩, Ip]
   have hf := RS (mergeE a b)
   rw [he]
   generalize mergeE a b = M at hm hf
   generalize AU M = R at hf
   obtain ⟨r, er⟩ := R
   dsimp only at hf ⊢
   rw [ha] at h1
   rw [hb] at h2
   refine Ac hT Tryz.func81 Tryz.ntmps81 [.tmp 4, .tmp 5] fun B => ?_
   repeat' first | refine kz ?_ | refine Aa (h1) ?_ | refine Aa (h2) ?_ | refine Aa (hm) ?_ | refine Aa (hf) ?_ | refine kh ?_ ?_ | exact ⟨⟩ | fail
   all_goals rfl
  ·have he : AN 1 a b = ([], 1) := if_neg (fun q => hb q.2)
   rw [he]
   rw [ha] at h1
   rw [show Am b = false by simpa using hb] at h2
   refine Ac hT Tryz.func81 Tryz.ntmps81 [.tmp 4, .tmp 5] fun B => ?_
   repeat' first | refine kz ?_ | refine Aa (h1) ?_ | refine Aa (h2) ?_ | refine kh ?_ ?_ | exact ⟨⟩ | fail
   all_goals rfl
 ·have he : AN 1 a b = ([], 1) := if_neg (fun q => ha q.1)
  rw [he]
  rw [show Am a = false by simpa using ha] at h1
  refine Ac hT Tryz.func81 Tryz.ntmps81 [.tmp 4, .tmp 5] fun B => ?_
  repeat' first | refine kz ?_ | refine Aa (h1) ?_ | refine Aa (h2) ?_ | refine kh ?_ ?_ | exact ⟨⟩ | fail
  all_goals rfl
theorem Ze (a b : List Entry) (on : List (Int × Int)) : PC 135 [.one (Ak a), .one (Ak b), .one (TG on)] (Bi (A7 a b on)) := UK a b on
theorem ah (v : Vw) : PC 133 [.agg v.d] (.v (.one (.lit (.bool (B8 v))))) := by
 cases hr : Cf v
 ·rw [show B8 v = true by simp [B8, hr]]
  have h1 := Ha hr
  have h2 : (!(v.right.toList == (⟨#[]⟩ : ByteArray).toList)) = true := by rw [h1]; rfl
  refine Ac hT Tryz.func133 Tryz.ntmps133 [.tmp 2] fun B => ?_
  repeat' first | refine kz ?_ | refine kf ?_ | fail
  all_goals rfl
 ·rw [show B8 v = decide (v.kind = 2) by simp [B8, hr]]
  have h1 := G9 hr
  have h2 : (!(v.right.toList == (⟨#[]⟩ : ByteArray).toList)) = false := by rw [h1]; rfl
  refine Ac hT Tryz.func133 Tryz.ntmps133 [.tmp 2] fun B => ?_
  repeat' first | refine kz ?_ | refine kf ?_ | fail
  all_goals rfl
theorem M7 (v : Vw) (l r : List Entry) : PC 80 [.agg v.d, .one (Ak l), .one (Ak r)] (.v (.one (.lit (.bool (!A1 v l r))))) := by
 have hu := ah v
 have hl := CW l
 have hq := CW r
 unfold A1
 by_cases hk : Ef v = true
 ·rw [hk, Bool.true_and]
  have oN : 0 ≤ v.kind ∧ v.kind ≤ 2 := by
   have : v.kind = 0 ∨ v.kind = 1 ∨ v.kind = 2 := by simpa [Ef, or_assoc] using hk
   omega
  generalize B8 v = u at hu ⊢
  generalize Ay l = pl at hl ⊢
  generalize Ay r = pr at hq ⊢
  cases pl <;> cases u <;> cases pr
  all_goals
   (refine Ac hT Tryz.func80 Tryz.ntmps80 [.tmp 6] fun B => ?_
    repeat' (first | refine kz ?_ | refine Aa (hl) ?_ | refine Aa (hu) ?_ | refine Aa (hq) ?_ | refine kf ?_ | fail))
  all_goals rfl
 ·have oN : v.kind < 0 ∨ 2 < v.kind := by
   have : ¬ (v.kind = 0) ∧ ¬ (v.kind = 1) ∧ ¬ (v.kind = 2) := by simpa [Ef, not_or, and_assoc] using hk
   omega
  rw [show Ef v = false by simpa using hk, Bool.false_and]
  rcases oN with oN | oN
  all_goals
   (refine Ac hT Tryz.func80 Tryz.ntmps80 [.tmp 6] fun B => ?_
    repeat' (first | refine kz ?_ | refine kf ?_ | fail))
  all_goals rfl
def EX (v : Vw) (l r : List Entry) : List Entry × Int := if (B3 A7 v l r).2 = 0 then (A9 (B3 A7 v l r).1 v.wher, 0) else ([], (B3 A7 v l r).2)
theorem Og (v : Vw) (l r : List Entry) : PC 82 [.agg v.d, .one (Ak l), .one (Ak r)] (Bi (EX v l r)) := by
 unfold EX B3
 cases h : Cf v
 ·have h1 := Ha h
  have h2 : (!(v.right.toList == (⟨#[]⟩ : ByteArray).toList)) = true := by rw [h1]; rfl
  have hj := Ze l r v.on
  have hw := K8 (A7 l r v.on).1 v.wher
  rw [if_neg (show ¬ (false = true) by decide)]
  generalize A7 l r v.on = q at hj hw ⊢
  obtain ⟨q, e⟩ := q
  dsimp only [Bi] at hj hw ⊢
  by_cases he : e = 0
  ·subst he
   rw [if_pos rfl]
   dsimp only
   refine Ac hT Tryz.func82 Tryz.ntmps82 [.tmp 6, .tmp 7] fun B => ?_
   repeat' first | refine kz ?_ | refine Aa (hj) ?_ | refine Aa (hw) ?_ | refine kh ?_ ?_ | exact ⟨⟩ | fail
   all_goals rfl
  ·rw [if_neg he]
   dsimp only
   refine Ac hT Tryz.func82 Tryz.ntmps82 [.tmp 6, .tmp 7] fun B => ?_
   repeat' first | refine kz ?_ | refine Aa (hj) ?_ | refine kh ?_ ?_ | exact ⟨⟩ | fail
   all_goals rfl
 ·have h1 := G9 h
  have h2 : (!(v.right.toList == (⟨#[]⟩ : ByteArray).toList)) = false := by rw [h1]; rfl
  have hw := K8 l v.wher
  rw [if_pos (show true = true from rfl), if_pos (show ((l, 0) : List Entry × Int).2 = 0 from rfl)]
  dsimp only [Bi]
  refine Ac hT Tryz.func82 Tryz.ntmps82 [.tmp 6, .tmp 7] fun B => ?_
  repeat' first | refine kz ?_ | refine Aa (hw) ?_ | refine kh ?_ ?_ | exact ⟨⟩ | fail
  all_goals rfl
theorem Xr {l : List Entry} (h : (AU l).2 ≠ 0) : (AU l).1 = [] := by
 unfold AU at *
 split
 ·rfl
 ·split
  ·rename_i h1 h2; rw [if_neg h1, if_pos h2] at h; exact absurd rfl h
  ·rfl
theorem Xs {b : List Entry} {p9 : List (List Trm)} (h : (DD b p9).2 ≠ 0) : (DD b p9).1 = [] := by
 unfold DD Bh at *
 split
 ·rename_i h1
  rw [if_pos h1] at h
  split
  ·rename_i h2
   rw [if_pos h2] at h
   exact Xr h
  ·rfl
 ·rfl
theorem JY (v : Vw) (l r : List Entry) (kJ : v.items.length ≤ 10000) (jM : v.aggs.length ≤ 10000) (hb : (B3 A7 v l r).1.length ≤ 1000) :
  PC 36 [.agg v.d, .one (Ak l), .one (Ak r)] (Bi (Ov (A1 v l r) v l r (B3 A7 v l r) (JE groupE v (B3 A7 v l r).1))) := by
 have hd := M7 v l r
 unfold Ov
 cases h : A1 v l r
 ·rw [h] at hd
  rw [if_neg (by decide)]
  dsimp only [Bi]
  refine Ac hT Tryz.func36 Tryz.ntmps36 [.tmp 6, .tmp 7] fun B => ?_
  repeat' first | refine kz ?_ | refine Ao ?_ | refine Aa (hd) ?_ | refine kh ?_ ?_ | exact ⟨⟩ | fail
  all_goals rfl
 rw [h] at hd
 rw [if_pos rfl]
 by_cases hk : v.kind = 2
 ·have ha := Ly l r
  rw [if_pos hk]
  generalize AN 1 l r = a at ha ⊢
  dsimp only [Bi]
  refine Ac hT Tryz.func36 Tryz.ntmps36 [.tmp 6, .tmp 7] fun B => ?_
  repeat' first | refine kz ?_ | refine Ao ?_ | refine Aa (hd) ?_ | refine Aa (ha) ?_ | refine kh ?_ ?_ | exact ⟨⟩ | fail
  all_goals rfl
 rw [if_neg hk]
 have hi := Og v l r
 unfold EX at hi
 generalize B3 A7 v l r = s at hi hb ⊢
 obtain ⟨s, e⟩ := s
 dsimp only at hi hb ⊢
 by_cases he : e = 0
 ·subst he
  rw [if_pos rfl] at hi ⊢
  unfold JE
  have xS : (A9 s v.wher).length ≤ 1000 := by
   unfold A9
   split
   ·exact LX (Q1 ..) hb
   ·simp
  generalize A9 s v.wher = W at hi xS ⊢
  dsimp only [Bi] at hi
  by_cases mZ : v.kind = 1
  ·rw [if_pos mZ]
   have hg := RZ W v.items v.aggs xS kJ jM
   generalize groupE W v.items v.aggs = x at hg ⊢
   dsimp only [Bi]
   refine Ac hT Tryz.func36 Tryz.ntmps36 [.tmp 6, .tmp 7] fun B => ?_
   repeat' first | refine kz ?_ | refine Ao ?_ | refine Aa (hd) ?_ | refine Aa (hi) ?_ | refine Aa (hg) ?_ | refine kh ?_ ?_ | exact ⟨⟩ | fail
   all_goals rfl
  rw [if_neg mZ]
  have hm := WD W (v.items.map Itm.expr)
  have hs := Of (DD W (v.items.map Itm.expr)).1
  have ny := @Xs W (v.items.map Itm.expr)
  have vT : (v.items.map Itm.expr).length = v.items.length := BR _
  have tI : ∀ i it, v.items[i]? = some it → (v.items.map Itm.expr)[i]? = some (Itm.expr it) := fun i it h => by rw [BU, h]; rfl
  generalize DD W (v.items.map Itm.expr) = m at hm hs ny ⊢
  obtain ⟨m, f⟩ := m
  generalize v.items.map Itm.expr = E at hm vT tI
  dsimp only [Bi, Fi] at hm hs ny ⊢
  refine Ac hT Tryz.func36 Tryz.ntmps36 [.tmp 6, .tmp 7] fun B => ?_
  repeat' first | refine kz ?_ | refine Ao ?_ | refine Aa (hd) ?_ | refine Aa (hi) ?_ | refine kh ?_ ?_ | exact ⟨⟩ | fail
  refine Bv 10 26 1 ?_
  refine AK (X := Nat × Nat) ([10, 11] ++ List.range' 45 16) (fun x => x.1 ≤ v.items.length) (fun x lz => (10, .c (.arr 1 x.2 (E.take x.1).length)) :: (11, (iC x.1)) :: lz) (fun x => [.box 1 (v.d.map .d), .arr x.2 26 1 ((E.take x.1).map fun s => [AW s])]) (fun x => v.items.length - x.1) ((0, 2)) ?_ ?_ ?_ ?_
  repeat' first | exact k0 | refine kw ?_ | refine kv ?_ ?_ | omega
  rintro ⟨i, k⟩ c0 kr
  dsimp only at kr ⊢
  by_cases i7 : i < v.items.length
  ·obtain ⟨it, hv⟩ := gx i7
   have ju : E.take (i + 1) = E.take i ++ [it.expr] := by rw [Gm, tI i it hv]; rfl
   have qk : (E.take i).length = i := by simp; omega
   repeat' first | refine kz ?_ | refine AF hv ?_ | refine Ao ?_ | refine kh ?_ ?_ | exact ⟨⟩ | fail
   apply Af ((i + 1, _)) <;> (try dsimp only) <;> try repeat' first | exact k0 | refine w1 ?_ | refine Ab ?_ | refine m1 ?_ ?_ | omega
   all_goals (rw [ju]; simp)
  ·have k8 : i = E.length := by omega
   subst k8
   rw [Ir]
   by_cases he : f = 0
   ·subst he
    rw [if_pos rfl]
    cases hdi : v.distinct
    ·rw [if_neg (by simp)]
     repeat' first | refine Ax 10 ?_ (j6 := show List.take E.length (E.map fun s => [AW s]) = (E.map fun s => [AW s]) from JF (by simp)) | refine kz ?_ | refine Ao ?_ | refine Aa (hm) ?_ | refine EW ?_ | refine Aw Ad ?_ ?_ | refine Bq ?_ | refine BC ?_
     all_goals rfl
    ·rw [if_pos rfl]
     repeat' first | refine Ax 10 ?_ (j6 := show List.take E.length (E.map fun s => [AW s]) = (E.map fun s => [AW s]) from JF (by simp)) | refine kz ?_ | refine Ao ?_ | refine Aa (hm) ?_ | refine Aa (hs) ?_ | refine EW ?_ | refine Aw Ad ?_ ?_ | refine Bq ?_ | refine BC ?_
     all_goals rfl
   ·obtain rfl := ny he
    rw [if_neg he]
    repeat' first | refine Ax 10 ?_ (j6 := show List.take E.length (E.map fun s => [AW s]) = (E.map fun s => [AW s]) from JF (by simp)) | refine kz ?_ | refine Ao ?_ | refine Aa (hm) ?_ | refine EW ?_ | refine Aw Ad ?_ ?_ | refine Bq ?_ | refine BC ?_
    all_goals rfl
 ·rw [if_neg he] at hi ⊢
  dsimp only [Bi] at hi ⊢
  refine Ac hT Tryz.func36 Tryz.ntmps36 [.tmp 6, .tmp 7] fun B => ?_
  repeat' first | refine kz ?_ | refine Ao ?_ | refine Aa (hd) ?_ | refine Aa (hi) ?_ | refine kh ?_ ?_ | exact ⟨⟩ | fail
  all_goals rfl
end Go.Proofs.YtmpgmjlanngkfaaGreat
end
