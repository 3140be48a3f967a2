/-
  Laws of layer 10: the sanity check.
-/
import Derived.Test.YtmpgmjlanngkfaaGreatVew
import Derived.Test.YtmpgmjlanngkfaaGreatExn
import Derived.Test.YtmpgmjlanngkfaaGreatMrg
section
namespace Go.Proofs.YtmpgmjlanngkfaaGreat
open Go.Abs Go.RowKit
attribute [local irreducible] ARun At MCall PCall HCall Am SF CF CFs Ah Aj Ar fin AW VLe
set_option linter.unusedSimpArgs false
set_option maxRecDepth 100000
set_option maxHeartbeats 4000000
def PB (G : List Entry → List Itm → List Agg → List Entry × Int) (v : Vw) (j : List Entry) : List Entry × Int :=
 if v.kind = 1 then G (Bt j v.wher) v.items v.aggs
 else if (Da (Bt j v.wher) (v.items.map Itm.expr)).2 = 0 then
  (if v.distinct = true then (Bq (Da (Bt j v.wher) (v.items.map Itm.expr)).1, 0) else ((Da (Bt j v.wher) (v.items.map Itm.expr)).1, 0))
 else ([], (Da (Bt j v.wher) (v.items.map Itm.expr)).2)
theorem OB (G : List Entry → List Itm → List Agg → List Entry × Int) (v : Vw) (j : List Entry) (hil : v.items.length ≤ 10000) (hg : v.kind = 1 → PCall Tryz.prog 90 [.one (Ap (Bt j v.wher)), .one (IU v.items), .one (QD v.aggs)] (Bw (G (Bt j v.wher) v.items v.aggs))) : PCall Tryz.prog 42 [.agg v.d, .one (Ap j)] (Bw (PB G v j)) := by
 have hw := Vr j v.wher
 unfold PB
 generalize Bt j v.wher = W at hw hg ⊢
 by_cases hk : v.kind = 1
 ·rw [if_pos hk]
  have hg := hg hk
  generalize G W v.items v.aggs = x at hg ⊢
  dsimp only [Bw] at hg ⊢
  refine Ac hT Tryz.func42 Tryz.ntmps42 [.tmp 4, .tmp 5] fun B => ?_
  repeat' (first | refine kz ?_ | refine ki ?_ | refine Aa (hw) ?_ | refine Aa (hg) ?_ | refine kg ?_ ?_ | refine kf ?_ | fail)
  all_goals rfl
 rw [if_neg hk]
 clear hg
 have hm := YV W (v.items.map Itm.expr)
 have hs := RO (Da W (v.items.map Itm.expr)).1
 have hEl : (v.items.map Itm.expr).length = v.items.length := List.length_map _
 have hEi : ∀ i it, v.items[i]? = some it → (v.items.map Itm.expr)[i]? = some (Itm.expr it) := fun i it h => by rw [List.getElem?_map, h]; rfl
 generalize Da W (v.items.map Itm.expr) = m at hm hs ⊢
 obtain ⟨m, e⟩ := m
 generalize v.items.map Itm.expr = E at hm hEl hEi
 dsimp only [Bw, Ey] at hm hs ⊢
 refine Ac hT Tryz.func42 Tryz.ntmps42 [.tmp 4, .tmp 5] fun B => ?_
 repeat' (first | refine kz ?_ | refine ki ?_ | refine Aa (hw) ?_ | refine kg ?_ ?_ | refine kf ?_ | fail)
 refine BA 7 26 1 ?_
 refine AO (X := Nat × Nat) [7, 9, 30, 31, 32, 33, 34, 35, 36, 37, 38, 39] (fun x => x.1 ≤ v.items.length) (fun x lz => (7, .c (.arr 1 x.2 (E.take x.1).length)) :: (30, (.c (.d (.lit (.int .i64 x.1))))) :: lz) (fun x => [.box 1 (v.d.map .d), .arr x.2 26 1 ((E.take x.1).map fun s => [AK s])]) (fun x => v.items.length - x.1) ((0, 2)) ?_ ?_ ?_ ?_
 repeat' (first | exact k0 | refine kw ?_ | refine kv ?_ ?_ | omega)
 rintro ⟨i, k⟩ c0 hi
 dsimp only at hi ⊢
 by_cases hlt : i < v.items.length
 ·have hv : v.items[i]? = some v.items[i] := List.getElem?_eq_getElem hlt
  generalize v.items[i] = it at hv
  have htk : E.take (i + 1) = E.take i ++ [it.expr] := by rw [List.take_add_one, hEi i it hv]; rfl
  have htl : (E.take i).length = i := by simp; omega
  repeat' (first | refine kz ?_ | refine kx hv ?_ | refine ki ?_ | refine kg ?_ ?_ | refine kf ?_ | fail)
  (apply Ae ((i + 1, _)); all_goals (try dsimp only); all_goals (try (repeat' (first | exact k0 | refine w1 ?_ | refine Ab ?_ | refine m1 ?_ ?_ | omega))))
  all_goals (rw [htk]; simp)
 ·have hie : i = E.length := by omega
  subst hie
  rw [List.take_length]
  by_cases he : e = 0
  · subst he
    rw [if_pos rfl]
    cases hd : v.distinct
    ·rw [if_neg (by simp)]
     repeat' (first | refine Aw 7 ?_ (hes := show List.take E.length (E.map fun s => [AK s]) = (E.map fun s => [AK s]) from List.take_of_length_le (by simp)) | refine kz ?_ | refine ki ?_ | refine Aa (hm) ?_ | refine Ay Af ?_ ?_ | refine Bo ?_ | refine BR ?_)
     all_goals rfl
    ·rw [if_pos rfl]
     repeat' (first | refine Aw 7 ?_ (hes := show List.take E.length (E.map fun s => [AK s]) = (E.map fun s => [AK s]) from List.take_of_length_le (by simp)) | refine kz ?_ | refine ki ?_ | refine Aa (hm) ?_ | refine Aa (hs) ?_ | refine Ay Af ?_ ?_ | refine Bo ?_ | refine BR ?_)
     all_goals rfl
  · rw [if_neg he]
    repeat' (first | refine Aw 7 ?_ (hes := show List.take E.length (E.map fun s => [AK s]) = (E.map fun s => [AK s]) from List.take_of_length_le (by simp)) | refine kz ?_ | refine ki ?_ | refine Aa (hm) ?_ | refine Ay Af ?_ ?_ | refine Bo ?_ | refine BR ?_)
    all_goals rfl
def Yy (J : List Entry → List Entry → List (Int × Int) → List Entry × Int) (C : List Entry × Int) (v : Vw) (j l r dl dr : List Entry) : List Entry × Int :=
 if (Ed v l r dl dr).2.2 = 0 ∧ B0 v = false then
  (if C.2 = 0 then B3 1 j C.1 else J (Ed v l r dl dr).1 (Ed v l r dl dr).2.1 v.on)
 else ((Ed v l r dl dr).1, (Ed v l r dl dr).2.2)
theorem Kp (J : List Entry → List Entry → List (Int × Int) → List Entry × Int) (C : List Entry × Int) (v : Vw) (j l r dl dr : List Entry)
  (hj : B0 v = false → PCall Tryz.prog 89 [.one (Ap (Ed v l r dl dr).1), .one (Ap (Ed v l r dl dr).2.1), .one (RX v.on)] (Bw (J (Ed v l r dl dr).1 (Ed v l r dl dr).2.1 v.on)))
  (hc : B0 v = false → PCall Tryz.prog 103 [.agg v.d, .one (Ap l), .one (Ap r), .one (Ap dl), .one (Ap dr)] (Bw C)) :
  PCall Tryz.prog 55 [.agg v.d, .one (Ap j), .one (Ap l), .one (Ap r), .one (Ap dl), .one (Ap dr)] (Bw (Yy J C v j l r dl dr)) := by
 have hs := Iu v l r dl dr
 unfold Yy
 generalize Ed v l r dl dr = s at hs hj ⊢
 obtain ⟨x, y, e⟩ := s
 dsimp only [Bw] at hs hj hc ⊢
 by_cases he : e = 0
 ·subst he
  cases hr : B0 v
  · have h1 := F9 hr
    have hj := hj hr
    have hc := hc hr
    rw [if_pos ⟨rfl, rfl⟩]
    have ha := Sa j C.1
    generalize J x y v.on = q at hj ⊢
    generalize B3 1 j C.1 = a at ha ⊢
    obtain ⟨C, f⟩ := C
    dsimp only at hc ha ⊢
    by_cases hf : f = 0
    ·subst hf
     rw [if_pos rfl]
     refine Ac hT Tryz.func55 Tryz.ntmps55 [.tmp 12, .tmp 13] fun B => ?_
     repeat' (first | refine kz ?_ | refine Aa (hs) ?_ | refine Aa (hc) ?_ | refine Aa (ha) ?_ | refine kf ?_ | refine kg ?_ ?_ | fail)
     all_goals rfl
    ·rw [if_neg hf]
     refine Ac hT Tryz.func55 Tryz.ntmps55 [.tmp 12, .tmp 13] fun B => ?_
     repeat' (first | refine kz ?_ | refine Aa (hs) ?_ | refine Aa (hc) ?_ | refine Aa (hj) ?_ | refine kf ?_ | refine kg ?_ ?_ | fail)
     all_goals rfl
  · have h1 := F8 hr
    rw [if_neg (by simp)]
    refine Ac hT Tryz.func55 Tryz.ntmps55 [.tmp 12, .tmp 13] fun B => ?_
    repeat' (first | refine kz ?_ | refine Aa (hs) ?_ | refine kf ?_ | refine kg ?_ ?_ | fail)
    all_goals rfl
 ·rw [if_neg fun h => he h.1]
  refine Ac hT Tryz.func55 Tryz.ntmps55 [.tmp 12, .tmp 13] fun B => ?_
  repeat' (first | refine kz ?_ | refine Aa (hs) ?_ | refine kf ?_ | refine kg ?_ ?_ | fail)
  all_goals rfl
def ai (v : Vw) (l r dl dr : List Entry) : List Entry × List Entry × Int :=
 if (B3 1 l r).2 = 0 then
  (if (Ed v l r dl dr).2.2 = 0 then ((B3 1 l r).1, (B3 1 (Ed v l r dl dr).1 (Ed v l r dl dr).2.1).1, (B3 1 (Ed v l r dl dr).1 (Ed v l r dl dr).2.1).2)
  else ([], [], (Ed v l r dl dr).2.2))
 else ([], [], (B3 1 l r).2)
def PA (q : List Entry × List Entry × Int) : PRes := .tup [.one (Ap q.1), .one (Ap q.2.1), .one (.lit (.int .i64 q.2.2))]
def Ox (s o j p : List Entry × Int) : List Entry × List Entry × Int :=
 if s.2 = 0 then (if o.2 = 0 then (if j.2 = 0 then (o.1, p.1, p.2) else ([], [], j.2)) else ([], [], o.2)) else ([], [], s.2)
theorem Oy (v : Vw) (l r dl dr : List Entry) (s o j p : List Entry × Int) (hk : v.kind ≠ 2)
  (hs : PCall Tryz.prog 41 [.agg v.d, .one (Ap l), .one (Ap r)] (Bw s))
  (ho : PCall Tryz.prog 42 [.agg v.d, .one (Ap s.1)] (Bw o))
  (hj : PCall Tryz.prog 55 [.agg v.d, .one (Ap s.1), .one (Ap l), .one (Ap r), .one (Ap dl), .one (Ap dr)] (Bw j))
  (hp : PCall Tryz.prog 42 [.agg v.d, .one (Ap j.1)] (Bw p)) :
  PCall Tryz.prog 44 [.agg v.d, .one (Ap l), .one (Ap r), .one (Ap dl), .one (Ap dr)] (PA (Ox s o j p)) := by
 unfold Ox
 obtain ⟨s, e1⟩ := s
 obtain ⟨o, e2⟩ := o
 obtain ⟨j, e3⟩ := j
 dsimp only [Bw] at hs ho hj hp ⊢
 by_cases h1 : e1 = 0
 ·subst h1
  rw [if_pos rfl]
  by_cases h2 : e2 = 0
  · subst h2
    rw [if_pos rfl]
    by_cases h3 : e3 = 0
    ·subst h3
     rw [if_pos rfl]
     dsimp only [PA]
     refine Ac hT Tryz.func44 Tryz.ntmps44 [.tmp 10, .tmp 11, .tmp 12] fun B => ?_
     repeat' (first | refine Aa (ha := by exact And.intro rfl (And.intro rfl (And.intro rfl (And.intro rfl (And.intro rfl (And.intro rfl trivial)))))) hj ?_ | refine kz ?_ | refine Aa (hs) ?_ | refine Aa (ho) ?_ | refine Aa (hp) ?_ | refine GU Af ?_ ?_ ?_ | refine Bo ?_ | refine BR ?_)
     all_goals rfl
    ·rw [if_neg h3]
     dsimp only [PA]
     refine Ac hT Tryz.func44 Tryz.ntmps44 [.tmp 10, .tmp 11, .tmp 12] fun B => ?_
     repeat' (first | refine Aa (ha := by exact And.intro rfl (And.intro rfl (And.intro rfl (And.intro rfl (And.intro rfl (And.intro rfl trivial)))))) hj ?_ | refine kz ?_ | refine Aa (hs) ?_ | refine Aa (ho) ?_ | refine GU Af ?_ ?_ ?_ | refine Bo ?_ | refine BR ?_)
     all_goals rfl
  · rw [if_neg h2]
    dsimp only [PA]
    refine Ac hT Tryz.func44 Tryz.ntmps44 [.tmp 10, .tmp 11, .tmp 12] fun B => ?_
    repeat' (first | refine kz ?_ | refine Aa (hs) ?_ | refine Aa (ho) ?_ | refine GU Af ?_ ?_ ?_ | refine kf ?_ | fail)
    all_goals rfl
 ·rw [if_neg h1]
  dsimp only [PA]
  refine Ac hT Tryz.func44 Tryz.ntmps44 [.tmp 10, .tmp 11, .tmp 12] fun B => ?_
  repeat' (first | refine kz ?_ | refine Aa (hs) ?_ | refine GU Af ?_ ?_ ?_ | refine kf ?_ | fail)
  all_goals rfl
theorem It : DeferOk Tryz.prog 43 0 := by
 refine ⟨⟨_, Tryz.func43, by kernel_rfl, by kernel_rfl⟩, fun vs w hl => ?_⟩
 match vs, hl with
 | [], _ =>
   refine callsD_of_wpS Tryz.func43 rfl fun c₀ cs hu => ?_
   apply wpS_region
   simp [wpOpsS, go_sem, recoverD, hu, Tryz.ntmps43, Exit.thenS]
   cases c₀
   simp_all [bodyPostS, results, Tryz.results43]
def Uw (ok : Bool) (q : List Entry × List Entry × Int) : List Entry × Int := if ok = true then (if q.2.2 = 0 then B3 (-1) q.2.1 q.1 else ([], q.2.2)) else ([], 1)
theorem Ux (v : Vw) (l r dl dr : List Entry) (q : List Entry × List Entry × Int)
  (hq : B1 v l r = true → PCall Tryz.prog 44 [.agg v.d, .one (Ap l), .one (Ap r), .one (Ap dl), .one (Ap dr)] (PA q)) :
  PCall Tryz.prog 18 [.agg v.d, .one (Ap l), .one (Ap r), .one (Ap dl), .one (Ap dr)] (Bw (Uw (B1 v l r) q)) := by
 have hd := IT v l r
 unfold Uw
 cases h : B1 v l r
 ·rw [h] at hd
  rw [if_neg (by simp)]
  dsimp only [Bw]
  refine Ac hT Tryz.func18 Tryz.ntmps18 [.tmp 10, .tmp 11] fun B => ?_
  repeat' (first | refine kz ?_ | refine Aa (hd) ?_ | refine Ay (by repeat (first | exact Af | refine Aq It ?_)) ?_ ?_ | refine kf ?_ | fail)
  all_goals rfl
 ·rw [h] at hd
  have hq := hq h
  rw [if_pos rfl]
  obtain ⟨x, y, e⟩ := q
  dsimp only [PA] at hq ⊢
  by_cases he : e = 0
  · subst he
    have ha := OL y x
    rw [if_pos rfl]
    generalize B3 (-1) y x = a at ha ⊢
    dsimp only [Bw]
    refine Ac hT Tryz.func18 Tryz.ntmps18 [.tmp 10, .tmp 11] fun B => ?_
    repeat' (first | refine kz ?_ | refine Aa (hd) ?_ | refine Aa (hq) ?_ | refine Aa (ha) ?_ | refine Ay (by repeat (first | exact Af | refine Aq It ?_)) ?_ ?_ | refine kf ?_ | fail)
    all_goals rfl
  · rw [if_neg he]
    dsimp only [Bw]
    refine Ac hT Tryz.func18 Tryz.ntmps18 [.tmp 10, .tmp 11] fun B => ?_
    repeat' (first | refine kz ?_ | refine Aa (hd) ?_ | refine Aa (hq) ?_ | refine Ay (by repeat (first | exact Af | refine Aq It ?_)) ?_ ?_ | refine kf ?_ | fail)
    all_goals rfl
theorem Gv : DeferOk Tryz.prog 39 0 := by
 refine ⟨⟨_, Tryz.func39, by kernel_rfl, by kernel_rfl⟩, fun vs w hl => ?_⟩
 match vs, hl with
 | [], _ =>
   refine callsD_of_wpS Tryz.func39 rfl fun c₀ cs hu => ?_
   apply wpS_region
   simp [wpOpsS, go_sem, recoverD, hu, Tryz.ntmps39, Exit.thenS]
   cases c₀
   simp_all [bodyPostS, results, Tryz.results39]
def RU (ok : Bool) (v : Vw) (l r : List Entry) (s o : List Entry × Int) : List Entry × Int :=
 if ok = true then (if v.kind = 2 then B3 1 l r else if s.2 = 0 then o else ([], s.2)) else ([], 1)
theorem Oz (v : Vw) (l r : List Entry) (s o : List Entry × Int)
  (hs : v.kind ≠ 2 → PCall Tryz.prog 41 [.agg v.d, .one (Ap l), .one (Ap r)] (Bw s))
  (ho : v.kind ≠ 2 → PCall Tryz.prog 42 [.agg v.d, .one (Ap s.1)] (Bw o)) :
  PCall Tryz.prog 17 [.agg v.d, .one (Ap l), .one (Ap r)] (Bw (RU (B1 v l r) v l r s o)) := by
 have hd := IT v l r
 unfold RU
 cases h : B1 v l r
 ·rw [h] at hd
  rw [if_neg (by simp)]
  dsimp only [Bw]
  refine Ac hT Tryz.func17 Tryz.ntmps17 [.tmp 6, .tmp 7] fun B => ?_
  repeat' (first | refine kz ?_ | refine Aa (hd) ?_ | refine Ay (by repeat (first | exact Af | refine Aq Gv ?_)) ?_ ?_ | refine kf ?_ | fail)
  all_goals rfl
 ·rw [h] at hd
  rw [if_pos rfl]
  by_cases hk : v.kind = 2
  · have ha := Sa l r
    rw [if_pos hk]
    generalize B3 1 l r = a at ha ⊢
    dsimp only [Bw]
    refine Ac hT Tryz.func17 Tryz.ntmps17 [.tmp 6, .tmp 7] fun B => ?_
    repeat' (first | refine kz ?_ | refine Aa (hd) ?_ | refine Aa (ha) ?_ | refine Ay (by repeat (first | exact Af | refine Aq Gv ?_)) ?_ ?_ | refine kf ?_ | fail)
    all_goals rfl
  · specialize hs hk
    specialize ho hk
    rw [if_neg hk]
    obtain ⟨s, e⟩ := s
    obtain ⟨o, f⟩ := o
    dsimp only [Bw] at hs ho ⊢
    by_cases he : e = 0
    ·subst he
     rw [if_pos rfl]
     dsimp only
     refine Ac hT Tryz.func17 Tryz.ntmps17 [.tmp 6, .tmp 7] fun B => ?_
     repeat' (first | refine kz ?_ | refine Aa (hd) ?_ | refine Aa (hs) ?_ | refine Aa (ho) ?_ | refine Ay (by repeat (first | exact Af | refine Aq Gv ?_)) ?_ ?_ | refine kf ?_ | fail)
     all_goals rfl
    ·rw [if_neg he]
     dsimp only
     refine Ac hT Tryz.func17 Tryz.ntmps17 [.tmp 6, .tmp 7] fun B => ?_
     repeat' (first | refine kz ?_ | refine Aa (hd) ?_ | refine Aa (hs) ?_ | refine Ay (by repeat (first | exact Af | refine Aq Gv ?_)) ?_ ?_ | refine kf ?_ | fail)
     all_goals rfl
def I0 (v : Vw) (j : List Entry) : List Entry × Int := PB (fun _ _ _ => ([], 0)) v j
theorem Uy (v : Vw) (j : List Entry) (hil : v.items.length ≤ 10000) (hk : v.kind ≠ 1) : PCall Tryz.prog 42 [.agg v.d, .one (Ap j)] (Bw (I0 v j)) :=
 OB _ v j hil fun h => absurd h hk
theorem Uz (v : Vw) (l r : List Entry) (hr : B0 v = true) : PCall Tryz.prog 41 [.agg v.d, .one (Ap l), .one (Ap r)] (Bw (l, 0)) := by
 have h := GD (fun _ _ _ => ([], 0)) v l r (fun h => absurd hr (by rw [h]; decide))
 rw [Hd, if_pos hr] at h
 exact h
theorem RV (v : Vw) (l r : List Entry) (hil : v.items.length ≤ 10000) (hk : v.kind = 0) (hr : B0 v = true) : PCall Tryz.prog 17 [.agg v.d, .one (Ap l), .one (Ap r)] (Bw (if B1 v l r = true then I0 v l else ([], 1))) := by
 have h := Oz v l r (l, 0) (I0 v l) (fun _ => Uz v l r hr) (fun _ => Uy v l hil (by omega))
 rw [RU, if_neg (show ¬ v.kind = 2 by omega), if_pos (show ((l, 0) : List Entry × Int).2 = 0 from rfl)] at h
 exact h
theorem Z0 {v : Vw} (l r dl dr : List Entry) (hk : v.kind ≠ 2) (hr : B0 v = true) : Ed v l r dl dr = ((EW l dl).1, [], (EW l dl).2) := by
 rw [Ed, if_neg]
 rintro ⟨_, h⟩
 simp [Dv, hr, hk] at h
theorem Lo (v : Vw) (l r dl dr : List Entry) (hil : v.items.length ≤ 10000) (hk : v.kind = 0) (hr : B0 v = true) : PCall Tryz.prog 18 [.agg v.d, .one (Ap l), .one (Ap r), .one (Ap dl), .one (Ap dr)] (Bw (Uw (B1 v l r) (Ox (l, 0) (I0 v l) (EW l dl) (I0 v (EW l dl).1)))) := by
 refine Ux v l r dl dr _ fun _ => ?_
 refine Oy v l r dl dr _ _ _ _ (by omega) (Uz v l r hr) (Uy v l hil (by omega)) ?_ (Uy v _ hil (by omega))
 have h := Kp (fun _ _ _ => ([], 0)) ([], 0) v l l r dl dr (fun h => absurd hr (by rw [h]; decide)) (fun h => absurd hr (by rw [h]; decide))
 rw [Yy, Z0 l r dl dr (by omega) hr, if_neg (by simp [hr])] at h
 exact h
end Go.Proofs.YtmpgmjlanngkfaaGreat
end
section
namespace Go.Proofs.YtmpgmjlanngkfaaGreat
open Go.Abs Go.RowKit
set_option linter.unusedSimpArgs false
set_option maxRecDepth 100000
theorem RN {a b : ByteArray} (h : a.toList = b.toList) : a = b := by
 rw [ByteArray.toList_eq, ByteArray.toList_eq] at h
 cases a; cases b
 simp only at h
 congr
 exact Array.toList_inj.1 h
theorem XY {a b : Val} : Cp a b = true ↔ a = b := by
 refine ⟨fun h => ?_, fun h => by rw [h]; exact Fi _⟩
 simp only [Cp, Bool.and_eq_true, beq_iff_eq] at h
 obtain ⟨h1, h2, h3⟩ := h
 have := RN h3
 cases a; cases b; simp_all
theorem Pw : ∀ {r s : List Val}, BH r s = true ↔ r = s
 | [], [] => by simp [BH]
 | a :: x, b :: y => by simp [BH, XY, Pw (r := x) (s := y)]
 | [], _ :: _ => by simp [BH]
 | _ :: _, [] => by simp [BH]
end Go.Proofs.YtmpgmjlanngkfaaGreat
end
section
namespace Go.Proofs.YtmpgmjlanngkfaaGreat
open Go.Abs Go.RowKit
attribute [local irreducible] ARun At MCall PCall HCall Am SF CF CFs Ah Aj Ar fin AW VLe
set_option linter.unusedSimpArgs false
set_option maxRecDepth 100000
set_option maxHeartbeats 4000000
def OT : List Val := [Val.ofInt 1]
def AN (n : Int) : List Entry := [⟨OT, n⟩]
def someW : List Trm := [⟨11, Val.null, 0⟩, ⟨2, Val.null, 0⟩, ⟨1, Val.ofInt 1, 0⟩]
def someI : List Itm := [⟨⟨#[]⟩, [⟨2, Val.null, 0⟩]⟩]
def CK (d : Bool) : Vw := ⟨⟨#[]⟩, 0, ⟨#[]⟩, ⟨#[]⟩, [], someW, someI, d, []⟩
theorem SE (n : Int) : PCall Tryz.prog 38 [.one (.lit (.int .i64 n))] (.v (.one (Ap (AN n)))) := by
 have hi := Ba 1
 refine Ac hT Tryz.func38 Tryz.ntmps38 [.tmp 2] fun B => ?_
 repeat' (first | refine kz ?_ | refine Aa (hi) ?_ | refine kf ?_ | fail)
 all_goals rfl
theorem SG (d : Bool) : PCall Tryz.prog 37 [.one (.lit (.bool d))] (.v (.agg (CK d).d)) := by
 have hi := Ba 1
 refine Ac hT Tryz.func37 Tryz.ntmps37 [.cell 2 30] fun B => ?_
 repeat' (first | refine kz ?_ | refine Aa (hi) ?_ | refine kf ?_ | exact k0 | refine kg ?_ ?_ | fail)
 all_goals rfl
theorem CA {n : Int} (h : Az n = true) (h0 : n ≠ 0) : Al (AN n) = true := by
 have hr : AQ OT = true := by decide +kernel
 simp [Al, AN, goodFrom, Entry.ok, hr, h, h0]
theorem OU (n : Int) : Bt (AN n) someW = if Al (AN n) = true then AN n else [] := by
 have hk : keepE someW ⟨OT, n⟩ = true := by
  show (decide (someW.length = 0) || E9 someW OT) = true
  decide +kernel
 unfold Bt
 split
 ·show List.filter _ [_] = _
  rw [List.filter_cons, hk, if_pos rfl]; rfl
 ·rfl
theorem SH {n : Int} (h : Al (AN n) = true) : Da (AN n) (someI.map Itm.expr) = (AN n, 0) := by
 have hm : (AN n).map (FE (someI.map Itm.expr)) = AN n := by
  have h0 : BH ((someI.map Itm.expr).map fun t => Ek t OT) OT = true := by decide +kernel
  have h1 := Pw.1 h0
  show [(⟨(someI.map Itm.expr).map (fun t => Ek t OT), n⟩ : Entry)] = _
  rw [h1]; rfl
 rw [Da, h, if_pos (by decide), hm, OV h]
theorem FM {n : Int} (d : Bool) (h : Al (AN n) = true) : I0 (CK d) (AN n) = (if d = true then Bq (AN n) else AN n, 0) := by
 unfold I0 PB
 rw [if_neg (show ¬ (CK d).kind = 1 by show ¬ (0 : Int) = 1; decide), show (CK d).wher = someW from rfl, show (CK d).items = someI from rfl, OU, if_pos h, SH h, if_pos rfl, show (CK d).distinct = d from rfl]
 cases d <;> rfl
theorem Jw {p q : Int} (hp : Al (AN p) = true) (hq : Al (AN q) = true) (s : Int) : B3 s (AN p) (AN q) = A2 (if p + s * q = 0 then [] else AN (p + s * q)) := by
 have hc : Ak OT OT = 0 := rowCmp_ok.refl _
 rw [B3, if_pos ⟨hp, hq⟩]
 show A2 (mergeE [⟨OT, p⟩] [⟨OT, s * q⟩]) = _
 rw [mergeE, if_neg (by show ¬ Ak OT OT < 0; omega), if_neg (by show ¬ 0 < Ak OT OT; omega), mergeE, List.append_nil]
 rfl
theorem MK : EW (AN 2) (AN (-1)) = (AN 1, 0) := by
 have h2 := CA (n := 2) (by decide) (by decide)
 have h1 := CA (n := -1) (by decide) (by decide)
 have h3 := CA (n := 1) (by decide) (by decide)
 have ha : B3 1 (AN 2) (AN (-1)) = (AN 1, 0) := by
  rw [Jw h2 h1, if_neg (by decide)]; rfl
 unfold EW
 rw [ha, if_pos]
 refine ⟨rfl, ?_⟩
 unfold AG
 rw [h3]; rfl
theorem Jx (d : Bool) : B1 (CK d) (AN 2) [] = true := by
 have h2 := CA (n := 2) (by decide) (by decide)
 have he : B0 (CK d) = true := beq_self_eq_true _
 unfold B1 AG Dv
 rw [h2, he]
 cases d <;> rfl
theorem ML {n : Int} (h : Al (AN n) = true) (hn : 0 < n) : Bq (AN n) = AN 1 := by
 unfold Bq
 rw [if_pos h]
 unfold AN Ha
 simp [hn]
theorem IC (l : List Entry) : PCall Tryz.prog 20 [.one (Ap l), .one (Ap l)] (.v (.one (.lit (.bool true)))) := by
 have h := Of l l
 rw [Fj] at h
 exact h
theorem QM : PCall Tryz.prog 15 [] (.v (.one (.lit (.bool true)))) := by
 have h2 := CA (n := 2) (by decide) (by decide)
 have h1 := CA (n := -1) (by decide) (by decide)
 have h3 := CA (n := 1) (by decide) (by decide)
 have he : ∀ d, B0 (CK d) = true := fun _ => beq_self_eq_true _
 have w1 : Uw (B1 (CK false) (AN 2) []) (Ox (AN 2, 0) (I0 (CK false) (AN 2)) (EW (AN 2) (AN (-1))) (I0 (CK false) (EW (AN 2) (AN (-1))).1)) = (AN (-1), 0) := by
  rw [Jx, MK, FM _ h2, FM _ h3]
  show B3 (-1) (AN 1) (AN 2) = _
  rw [Jw h3 h2, if_neg (by decide)]; rfl
 have w2 : Uw (B1 (CK true) (AN 2) []) (Ox (AN 2, 0) (I0 (CK true) (AN 2)) (EW (AN 2) (AN (-1))) (I0 (CK true) (EW (AN 2) (AN (-1))).1)) = ([], 0) := by
  rw [Jx, MK, FM _ h2, FM _ h3]
  show B3 (-1) (Bq (AN 1)) (Bq (AN 2)) = _
  rw [ML h3 (by decide), ML h2 (by decide), Jw h3 h3, if_pos (by decide)]; rfl
 have w3 : (if B1 (CK false) (AN 2) [] = true then I0 (CK false) (AN 2) else ([], 1)) = (AN 2, 0) := by
  rw [Jx, if_pos rfl, FM _ h2]; rfl
 have c1 := Lo (CK false) (AN 2) [] (AN (-1)) [] (by decide) rfl (he false)
 have c2 := Lo (CK true) (AN 2) [] (AN (-1)) [] (by decide) rfl (he true)
 have c3 := RV (CK false) (AN 2) [] (by decide) rfl (he false)
 rw [w1] at c1
 rw [w2] at c2
 rw [w3] at c3
 have v1 := SG false
 have v2 := SG true
 have o1 := SE 2
 have o2 := SE (-1)
 have s1 := IC (AN 2)
 have s2 := IC (AN (-1))
 clear w1 w2 w3 h1 h2 h3 he
 dsimp only [Bw] at c1 c2 c3
 generalize AN 2 = A at c1 c2 c3 o1 s1
 generalize AN (-1) = B at c1 c2 c3 o2 s2
 refine Ac hT Tryz.func15 Tryz.ntmps15 [.tmp 0] fun B => ?_
 repeat' (first | refine kz ?_ | refine Aa (v1) ?_ | refine Aa (v2) ?_ | refine Aa (o1) ?_ | refine Aa (o2) ?_ | refine Aa (c1) ?_ | refine Aa (c2) ?_ | refine Aa (c3) ?_ | refine Aa (s1) ?_ | refine Aa (s2) ?_ | refine kf ?_ | fail)
 all_goals rfl
end Go.Proofs.YtmpgmjlanngkfaaGreat
end
