/-
  The tape's bag of rows with positive multiplicities.
-/
import Derived.Test.YtmpgmjlanngkfaaGreatVch
import Derived.Test.YtmpgmjlanngkfaaGreatXct
import Derived.Test.YtmpgmjlanngkfaaGreatTch
import Derived.Test.YtmpgmjlanngkfaaGreatAgk
import Derived.Test.YtmpgmjlanngkfaaGreatSam
import Derived.Test.YtmpgmjlanngkfaaGreatTny
import Derived.Test.YtmpgmjlanngkfaaGreatExn
import Derived.Test.YtmpgmjlanngkfaaGreatTab
section
namespace Go.Proofs.YtmpgmjlanngkfaaGreat
open Go.Abs Go.RowKit
attribute [local irreducible] ARun Aq MCall PCall HCall Am SF CF CFs Af Al Ap B5 AW VLe
set_option linter.unusedSimpArgs false
set_option maxRecDepth 100000
set_option maxHeartbeats 4000000
theorem GK : DeferOk Tryz.prog 39 0 := by
 refine ⟨⟨_, Tryz.func39, by kernel_rfl, by kernel_rfl⟩, fun vs w hl => ?_⟩
 match vs, hl with
 | [], _ =>
   refine callsD_of_wpS Tryz.func39 rfl fun c₀ cs hu => ?_
   apply wpS_region
   simp [wpOpsS, go_sem, recoverD, hu, Tryz.ntmps39, Exit.thenS]
   cases c₀
   simp_all [bodyPostS, results, Tryz.results39]
def XT (ok : Bool) (v : Vw) (l r : List Entry) (s o : List Entry × Int) : List Entry × Int :=
 if ok = true then (if v.kind = 2 then Bj 1 l r else if s.2 = 0 then o else ([], s.2)) else ([], 1)
theorem TU (v : Vw) (l r : List Entry) (s o : List Entry × Int)
  (hs : v.kind ≠ 2 → PC 41 [.agg v.d, .one (Ao l), .one (Ao r)] (B4 s))
  (ho : v.kind ≠ 2 → PC 42 [.agg v.d, .one (Ao s.1)] (B4 o)) :
  PC 17 [.agg v.d, .one (Ao l), .one (Ao r)] (B4 (XT (Co v l r) v l r s o)) := by
 have hd := Gk v l r
 unfold XT
 cases h : Co v l r
 ·rw [h] at hd
  rw [if_neg (by simp)]
  dsimp only [B4]
  refine Ad hT Tryz.func17 Tryz.ntmps17 [.tmp 6, .tmp 7] fun B => ?_
  repeat' first | refine kz ?_ | refine Aa (hd) ?_ | refine Ar (by repeat (first | exact Ac | refine Ah GK ?_)) ?_ ?_ | refine kf ?_ | fail
  all_goals rfl
 ·rw [h] at hd
  rw [if_pos rfl]
  by_cases hk : v.kind = 2
  · have ha := PW l r
    rw [if_pos hk]
    generalize Bj 1 l r = a at ha ⊢
    dsimp only [B4]
    refine Ad hT Tryz.func17 Tryz.ntmps17 [.tmp 6, .tmp 7] fun B => ?_
    repeat' first | refine kz ?_ | refine Aa (hd) ?_ | refine Aa (ha) ?_ | refine Ar (by repeat (first | exact Ac | refine Ah GK ?_)) ?_ ?_ | refine kf ?_ | fail
    all_goals rfl
  · specialize hs hk
    specialize ho hk
    rw [if_neg hk]
    obtain ⟨s, e⟩ := s
    obtain ⟨o, f⟩ := o
    dsimp only [B4] at hs ho ⊢
    by_cases he : e = 0
    ·subst he
     rw [if_pos rfl]
     dsimp only
     refine Ad hT Tryz.func17 Tryz.ntmps17 [.tmp 6, .tmp 7] fun B => ?_
     repeat' first | refine kz ?_ | refine Aa (hd) ?_ | refine Aa (hs) ?_ | refine Aa (ho) ?_ | refine Ar (by repeat (first | exact Ac | refine Ah GK ?_)) ?_ ?_ | refine kf ?_ | fail
     all_goals rfl
    ·rw [if_neg he]
     dsimp only
     refine Ad hT Tryz.func17 Tryz.ntmps17 [.tmp 6, .tmp 7] fun B => ?_
     repeat' first | refine kz ?_ | refine Aa (hd) ?_ | refine Aa (hs) ?_ | refine Ar (by repeat (first | exact Ac | refine Ah GK ?_)) ?_ ?_ | refine kf ?_ | fail
     all_goals rfl
def I6 (v : Vw) (j : List Entry) : List Entry × Int := TW (fun _ _ _ => ([], 0)) v j
theorem TV (v : Vw) (j : List Entry) (hil : v.items.length ≤ 10000) (hk : v.kind ≠ 1) : PC 42 [.agg v.d, .one (Ao j)] (B4 (I6 v j)) :=
 OJ _ v j hil fun h => absurd h hk
theorem Mx (v : Vw) (l r : List Entry) (hr : Cn v = true) : PC 41 [.agg v.d, .one (Ao l), .one (Ao r)] (B4 (l, 0)) := by
 have h := KJ (fun _ _ _ => ([], 0)) v l r (fun h => absurd hr (by rw [h]; decide))
 rw [XU, if_pos hr] at h
 exact h
theorem RO (v : Vw) (l r : List Entry) (hil : v.items.length ≤ 10000) (hk : v.kind = 0) (hr : Cn v = true) : PC 17 [.agg v.d, .one (Ao l), .one (Ao r)] (B4 (if Co v l r = true then I6 v l else ([], 1))) := by
 have h := TU v l r (l, 0) (I6 v l) (fun _ => Mx v l r hr) (fun _ => TV v l hil (by omega))
 rw [XT, if_neg (show ¬ v.kind = 2 by omega), if_pos (show ((l, 0) : List Entry × Int).2 = 0 from rfl)] at h
 exact h
theorem ZA {v : Vw} (l r dl dr : List Entry) (hk : v.kind ≠ 2) (hr : Cn v = true) : EA v l r dl dr = ((Ew l dl).1, [], (Ew l dl).2) := by
 rw [EA, if_neg]
 rintro ⟨_, h⟩
 simp [FI, hr, hk] at h
theorem LG (v : Vw) (l r dl dr : List Entry) (hil : v.items.length ≤ 10000) (hk : v.kind = 0) (hr : Cn v = true) : PC 18 [.agg v.d, .one (Ao l), .one (Ao r), .one (Ao dl), .one (Ao dr)] (B4 (RN (Co v l r) (LF (l, 0) (I6 v l) (Ew l dl) (I6 v (Ew l dl).1)))) := by
 refine OH v l r dl dr _ fun _ => ?_
 refine IY v l r dl dr _ _ _ _ (by omega) (Mx v l r hr) (TV v l hil (by omega)) ?_ (TV v _ hil (by omega))
 have h := GZ (fun _ _ _ => ([], 0)) ([], 0) v l l r dl dr (fun h => absurd hr (by rw [h]; decide)) (fun h => absurd hr (by rw [h]; decide))
 rw [VG, ZA l r dl dr (by omega) hr, if_neg (by simp [hr])] at h
 exact h
end Go.Proofs.YtmpgmjlanngkfaaGreat
end
section
namespace Go.Proofs.YtmpgmjlanngkfaaGreat
open Go.Abs Go.RowKit
set_option linter.unusedSimpArgs false
set_option maxRecDepth 100000
variable {A D w : Nat} {a d : List Entry} {ag : List Agg} {ks : List Itm}
theorem WX (r s : List Val) : 0 ≤ TR r s := by unfold TR; split <;> omega
theorem SC {s : List Entry} (vs : Aj s = true) (h : ∀ g, wS g s = wS g a + wS g d) (hf : ∀ g : List Val → Int, (∀ r, 0 ≤ g r) → 0 ≤ wS g a + wS g d) : AA s = true := by
 unfold AA
 rw [vs, Bool.true_and, Ec]
 intro e he
 have h1 := DP (Bh (A3 vs).up) he (rowCmp_ok.refl _)
 have h2 := hf (TR e.row) (WX _)
 rw [Iy, h] at h1
 simp; omega
theorem Ny (va : Aj a = true) (pa : ∀ e ∈ a, 0 < e.count) : AA a = true := by
 unfold AA
 rw [va, Bool.true_and, Ec]
 intro e he
 have := pa e he
 simp; omega
theorem SE (ha : Tiny A w a) (hd : Tiny D w d) (hf : ∀ g : List Val → Int, (∀ r, 0 ≤ g r) → 0 ≤ wS g a + wS g d) (hn : A + D ≤ 4096) : ∃ s, Ew a d = (s, 0) ∧ Bj 1 a d = (s, 0) ∧ Tiny (A + D) w s ∧ AA s = true ∧ ∀ g, wS g s = wS g a + wS g d := by
 obtain ⟨s, h1, h2, h3⟩ := ZB ha hd hn
 have hp := SC h2.v h3 hf
 refine ⟨s, ?_, h1, h2, hp, h3⟩
 unfold Ew
 rw [h1, if_pos ⟨rfl, hp⟩]
theorem G5 {b : List Entry} (h : Aj b = true) : Bm b [] = b := by
 rw [Bm, h, if_pos rfl]
 exact Yn.2 fun e _ => rfl
def FJ (ks : List Itm) (ag : List Agg) : Vw := ⟨⟨#[]⟩, 1, ⟨#[]⟩, ⟨#[]⟩, [], [], ks, false, ag⟩
theorem C3 (ks : List Itm) (ag : List Agg) : Cn (FJ ks ag) = true := beq_self_eq_true _
theorem Nz {j : List Entry} (hp : AA j = true) (h8 : ks.length + ag.length ≤ 8) : PC 42 [.agg (FJ ks ag).d, .one (Ao j)] (B4 (GrE ag ks j, 0)) := by
 have hv : Aj j = true := by
  unfold AA at hp
  exact (BO _ _ ▸ hp).1
 have h := OJ groupE (FJ ks ag) j (by show ks.length ≤ 10000; omega) fun _ => Uv _ ks ag (by omega) (by omega)
 rw [TW, if_pos (show (FJ ks ag).kind = 1 from rfl), show (FJ ks ag).wher = [] from rfl, G5 hv, show (FJ ks ag).items = ks from rfl, show (FJ ks ag).aggs = ag from rfl, PA hp h8] at h
 exact h
theorem NA (pa : AA a = true) : Co (FJ ks ag) a [] = true := by
 unfold Co FI IA
 rw [C3, pa]; rfl
theorem NB {s : List Entry} (hf : Ew a d = (s, 0)) : PC 55 [.agg (FJ ks ag).d, .one (Ao a), .one (Ao a), .one (Ao []), .one (Ao d), .one (Ao [])] (B4 (s, 0)) := by
 have h := GZ (fun _ _ _ => ([], 0)) ([], 0) (FJ ks ag) a a [] d [] (fun h => absurd (C3 ks ag) (by rw [h]; decide)) (fun h => absurd (C3 ks ag) (by rw [h]; decide))
 rw [VG, ZA a [] d [] (show (1 : Int) ≠ 2 by decide) (C3 ks ag), if_neg (by simp [C3]), hf] at h
 exact h
theorem NC (ha : Tiny A w a) (hd : Tiny D w d) (pa : ∀ e ∈ a, 0 < e.count) (hf : ∀ g : List Val → Int, (∀ r, 0 ≤ g r) → 0 ≤ wS g a + wS g d) (hn : A + D + A ≤ 4096) (h8 : ks.length + ag.length ≤ 8) :
  ∃ X, Aj X = true ∧ (∀ e ∈ X, ks.length ≤ e.row.length ∧ e.row.take ks.length ∈ CU d (Ax ks)) ∧ X.length ≤ 4096 ∧ PC 18 [.agg (FJ ks ag).d, .one (Ao a), .one (Ao []), .one (Ao d), .one (Ao [])] (B4 (X, 0)) := by
 obtain ⟨s, f1, f2, ts, ps, hw⟩ := SE ha hd hf (by omega)
 have pa' := Ny ha.v pa
 obtain ⟨X, x1, x2, x3⟩ := Wr (Nx (ag := ag) (keys := ks) ts (by omega) h8) (Nx (ag := ag) (keys := ks) ha (by omega) h8) (by omega)
 refine ⟨X, x2.v, Q6 ha.v ts.v (fun g => by rw [hw]; omega) h8 x2.v x3, (AG x2.v).1, ?_⟩
 have h := OH (FJ ks ag) a [] d [] _ fun _ => IY (FJ ks ag) a [] d [] (a, 0) (GrE ag ks a, 0) (s, 0) (GrE ag ks s, 0) (show (1 : Int) ≠ 2 by decide) (Mx _ a [] (C3 ks ag)) (Nz pa' h8) (NB f1) (Nz ps h8)
 rw [NA pa'] at h
 rw [show RN true (LF (a, 0) (GrE ag ks a, 0) (s, 0) (GrE ag ks s, 0)) = Bj (-1) (GrE ag ks s) (GrE ag ks a) from rfl, x1] at h
 exact h
theorem LX (ha : Tiny A w a) (hd : Tiny D w d) (pa : ∀ e ∈ a, 0 < e.count) (hf : ∀ g : List Val → Int, (∀ r, 0 ≤ g r) → 0 ≤ wS g a + wS g d) (hn : A + D + A ≤ 4096) (h8 : ks.length + ag.length ≤ 8) :
  PC 24 [.agg (FJ ks ag).d, .one (Ao a), .one (Ao []), .one (Ao d), .one (Ao [])] (Ms (tkE ks d, 0)) := by
 obtain ⟨s, f1, f2, ts, ps, hw⟩ := SE ha hd hf (by omega)
 have pa' := Ny ha.v pa
 have hsub : Bj (-1) (Bm s (FJ ks ag).wher) (Bm a (FJ ks ag).wher) = (d, 0) := by
  rw [show (FJ ks ag).wher = [] from rfl, G5 ts.v, G5 ha.v]
  exact SB ha hd ts hn hw
 have h := RI (FJ ks ag) a [] d [] (a, 0) (s, 0) (by show ks.length ≤ 10000; omega) (fun _ => Mx _ a [] (C3 ks ag)) (fun _ => NB f1) (by rw [hsub]; have := (AG hd.v).1; dsimp only; omega)
 rw [hsub, NA pa', tchE, if_pos ⟨rfl, rfl⟩, if_pos rfl, if_pos rfl, if_pos rfl] at h
 exact h
theorem ND {k : List Val} (h : k ∈ CU d (Ax ks)) : k ∈ tkE ks d := by
 obtain ⟨_, _, h3⟩ := B2 (b := d) (kf := Ax ks) fun e _ => AR ks e.row
 obtain ⟨e, he, rfl⟩ := (h3 k).1 h
 exact Xv he
end Go.Proofs.YtmpgmjlanngkfaaGreat
end
section
namespace Go.Proofs.YtmpgmjlanngkfaaGreat
open Go.Abs Go.RowKit
attribute [local irreducible] ARun Aq MCall PCall HCall Am SF CF CFs Af Al Ap B5 AW VLe
set_option linter.unusedSimpArgs false
set_option maxRecDepth 100000
set_option maxHeartbeats 4000000
variable {n : Int}
def Pe : List Val := [Val.ofInt 1]
def AK (n : Int) : List Entry := [⟨Pe, n⟩]
def someW : List Trm := [⟨11, Val.null, 0⟩, ⟨2, Val.null, 0⟩, ⟨1, Val.ofInt 1, 0⟩]
def someI : List Itm := [⟨⟨#[]⟩, [⟨2, Val.null, 0⟩]⟩]
def Da (d : Bool) : Vw := ⟨⟨#[]⟩, 0, ⟨#[]⟩, ⟨#[]⟩, [], someW, someI, d, []⟩
theorem Sr (n : Int) : PC 38 [.one (.lit (.int .i64 n))] (.v (.one (Ao (AK n)))) := by
 have hi := Fc 1
 refine Ad hT Tryz.func38 Tryz.ntmps38 [.tmp 2] fun B => ?_
 repeat' first | refine kz ?_ | refine Aa (hi) ?_ | refine kf ?_ | fail
 all_goals rfl
theorem Ss (d : Bool) : PC 37 [.one (.lit (.bool d))] (.v (.agg (Da d).d)) := by
 have hi := Fc 1
 refine Ad hT Tryz.func37 Tryz.ntmps37 [.cell 2 30] fun B => ?_
 repeat' first | refine kz ?_ | refine Aa (hi) ?_ | refine kh ?_ ?_ | exact ⟨⟩ | fail
 all_goals rfl
theorem C2 (h : AH n = true) (h0 : n ≠ 0) : Aj (AK n) = true := by
 have hr : A7 Pe = true := by decide +kernel
 simp [Aj, AK, goodFrom, Entry.ok, hr, h, h0]
theorem Pf (n : Int) : Bm (AK n) someW = if Aj (AK n) = true then AK n else [] := by
 have hk : keepE someW ⟨Pe, n⟩ = true := by
  show (decide (someW.length = 0) || Im someW Pe) = true
  decide +kernel
 unfold Bm
 split
 ·show List.filter _ [_] = _
  rw [Ug, hk, if_pos rfl]; rfl
 ·rfl
theorem Su (h : Aj (AK n) = true) : Hd (AK n) (someI.map Itm.expr) = (AK n, 0) := by
 have hm : (AK n).map (J5 (someI.map Itm.expr)) = AK n := by
  have h0 : Br ((someI.map Itm.expr).map fun t => GX t Pe) Pe = true := by decide +kernel
  have h1 := PI.1 h0
  show [(⟨(someI.map Itm.expr).map (fun t => GX t Pe), n⟩ : Entry)] = _
  rw [h1]; rfl
 rw [Hd, h, if_pos (by decide), hm, JQ h]
theorem F1 (d : Bool) (h : Aj (AK n) = true) : I6 (Da d) (AK n) = (if d = true then CD (AK n) else AK n, 0) := by
 unfold I6 TW
 rw [if_neg (show ¬ (Da d).kind = 1 by show ¬ (0 : Int) = 1; decide), show (Da d).wher = someW from rfl, show (Da d).items = someI from rfl, Pf, if_pos h, Su h, if_pos rfl, show (Da d).distinct = d from rfl]
 cases d <;> rfl
theorem JO {p q : Int} (hp : Aj (AK p) = true) (hq : Aj (AK q) = true) (s : Int) : Bj s (AK p) (AK q) = AQ (if p + s * q = 0 then [] else AK (p + s * q)) := by
 have hc : Ai Pe Pe = 0 := rowCmp_ok.refl _
 rw [Bj, if_pos ⟨hp, hq⟩]
 show AQ (mergeE [⟨Pe, p⟩] [⟨Pe, s * q⟩]) = _
 rw [mergeE, if_neg (by show ¬ Ai Pe Pe < 0; omega), if_neg (by show ¬ 0 < Ai Pe Pe; omega), mergeE, List.append_nil]
 rfl
theorem Ni : Ew (AK 2) (AK (-1)) = (AK 1, 0) := by
 have h2 := C2 (n := 2) (by decide) (by decide)
 have h1 := C2 (n := -1) (by decide) (by decide)
 have h3 := C2 (n := 1) (by decide) (by decide)
 have ha : Bj 1 (AK 2) (AK (-1)) = (AK 1, 0) := by
  rw [JO h2 h1, if_neg (by decide)]; rfl
 unfold Ew
 rw [ha, if_pos]
 refine ⟨rfl, ?_⟩
 unfold AA
 rw [h3]; rfl
theorem JP (d : Bool) : Co (Da d) (AK 2) [] = true := by
 have h2 := C2 (n := 2) (by decide) (by decide)
 have he : Cn (Da d) = true := beq_self_eq_true _
 unfold Co AA FI
 rw [h2, he]
 cases d <;> rfl
theorem Nj (h : Aj (AK n) = true) (hn : 0 < n) : CD (AK n) = AK 1 := by
 unfold CD
 rw [if_pos h]
 unfold AK KH
 simp [hn]
theorem II (l : List Entry) : PC 20 [.one (Ao l), .one (Ao l)] (.v (.one (.lit (.bool true)))) := by
 have h := TL l l
 rw [HL] at h
 exact h
theorem QZ : PC 15 [] (.v (.one (.lit (.bool true)))) := by
 have h2 := C2 (n := 2) (by decide) (by decide)
 have h1 := C2 (n := -1) (by decide) (by decide)
 have h3 := C2 (n := 1) (by decide) (by decide)
 have he : ∀ d, Cn (Da d) = true := fun _ => beq_self_eq_true _
 have w1 : RN (Co (Da false) (AK 2) []) (LF (AK 2, 0) (I6 (Da false) (AK 2)) (Ew (AK 2) (AK (-1))) (I6 (Da false) (Ew (AK 2) (AK (-1))).1)) = (AK (-1), 0) := by
  rw [JP, Ni, F1 _ h2, F1 _ h3]
  show Bj (-1) (AK 1) (AK 2) = _
  rw [JO h3 h2, if_neg (by decide)]; rfl
 have w2 : RN (Co (Da true) (AK 2) []) (LF (AK 2, 0) (I6 (Da true) (AK 2)) (Ew (AK 2) (AK (-1))) (I6 (Da true) (Ew (AK 2) (AK (-1))).1)) = ([], 0) := by
  rw [JP, Ni, F1 _ h2, F1 _ h3]
  show Bj (-1) (CD (AK 1)) (CD (AK 2)) = _
  rw [Nj h3 (by decide), Nj h2 (by decide), JO h3 h3, if_pos (by decide)]; rfl
 have w3 : (if Co (Da false) (AK 2) [] = true then I6 (Da false) (AK 2) else ([], 1)) = (AK 2, 0) := by
  rw [JP, if_pos rfl, F1 _ h2]; rfl
 have c1 := LG (Da false) (AK 2) [] (AK (-1)) [] (by decide) rfl (he false)
 have c2 := LG (Da true) (AK 2) [] (AK (-1)) [] (by decide) rfl (he true)
 have c3 := RO (Da false) (AK 2) [] (by decide) rfl (he false)
 rw [w1] at c1
 rw [w2] at c2
 rw [w3] at c3
 have v1 := Ss false
 have v2 := Ss true
 have o1 := Sr 2
 have o2 := Sr (-1)
 have s1 := II (AK 2)
 have s2 := II (AK (-1))
 clear w1 w2 w3 h1 h2 h3 he
 dsimp only [B4] at c1 c2 c3
 generalize AK 2 = A at c1 c2 c3 o1 s1
 generalize AK (-1) = B at c1 c2 c3 o2 s2
 refine Ad hT Tryz.func15 Tryz.ntmps15 [.tmp 0] fun B => ?_
 repeat' first | refine kz ?_ | refine Aa (v1) ?_ | refine Aa (v2) ?_ | refine Aa (o1) ?_ | refine Aa (o2) ?_ | refine Aa (c1) ?_ | refine Aa (c2) ?_ | refine Aa (c3) ?_ | refine Aa (s1) ?_ | refine Aa (s2) ?_ | refine kf ?_ | fail
 all_goals rfl
theorem Mw {r : List Val} : ∀ {l : List Entry}, (∀ e ∈ l, 0 ≤ e.count) → 0 ≤ AZ l r
 | [], _ => Int.le_refl _
 | e :: l, h => by
   have h1 := Mw (r := r) (l := l) fun x hx => h x (by simp [hx])
   have h2 := h e (by simp)
   rw [AZ]; split <;> omega
theorem Xy (t : Tape) (w n : Nat) (ht : t.ok) (hw : w ≤ 16) (hn : n ≤ 999) : ∃ (b : List Entry) (t' : Tape), t'.ok ∧ Aj b = true ∧ A6 3000 b ∧ b.length ≤ n ∧ Tiny (3 * n) w b ∧ (∀ e ∈ b, 0 < e.count) ∧ HC 11 [.c (.bp 0 0 0), (iC (w : Int)), (iC (n : Int)), .c (.d (.lit (.bool false)))] [(tB t)] (.c (.d (Ao b))) [(tB t')] := by
 have hent := LB t w n ht (by omega) (by omega)
 obtain ⟨b1, b2⟩ := t.nx_bd ((n : Int) + 1)
 have hok1 := ht.go ((n : Int) + 1)
 obtain ⟨i0, hi0⟩ := T9 b1
 rw [hi0, QH] at hent
 rw [hi0] at b1 b2
 have hxo := Jf hok1 w i0
 have hgood := Iw (t.go ((n : Int) + 1)) w hw i0
 have hwid := Kr (t.go ((n : Int) + 1)) w i0
 generalize t.go ((n : Int) + 1) = t1 at hent hok1 hxo hgood hwid
 obtain ⟨hok2, hxl⟩ := hxo
 generalize DA t1 w i0 = E at hent hok2 hxl hgood hwid
 obtain ⟨es, t2⟩ := E
 dsimp only at hent hok2 hxl hgood hwid
 have hxn : es.length ≤ n := by omega
 subst hxl
 have hg2 : ∀ e ∈ es.map (BD false), A7 e.row = true ∧ -3 ≤ e.count ∧ e.count ≤ 3 := fun e he => by
  obtain ⟨x, hx, rfl⟩ := List.mem_map.1 he
  obtain ⟨g1, g2⟩ := hgood x hx
  unfold BD
  split
  ·exact ⟨g1, by simp only; omega⟩
  ·exact ⟨g1, g2⟩
 have hsm := Ks hg2 (by simp; omega)
 have htn : Tiny (3 * n) w (A9 (es.map (BD false))).1 := by
  rw [(D8 hsm.1).1]
  refine (Mv (fun e he => (hg2 e he).1) (fun e he => ?_) (OQ (Mu (n := 3) fun e he => ?_) ?_) (by omega)).1
  ·obtain ⟨x, hx, rfl⟩ := List.mem_map.1 he
   have := hwid x hx
   unfold BD
   split <;> exact this
  ·have := (hg2 e he).2
   omega
  ·rw [BT]
   omega
 have hpos : ∀ e ∈ (A9 (es.map (BD false))).1, 0 < e.count := by
  obtain ⟨q1, q2, _, q4⟩ := D8 hsm.1
  rw [q1]
  intro e he
  have h1 := q4 e.row
  rw [DP (Bh q2.up) he (rowCmp_ok.refl _)] at h1
  have h2 := Mw (r := e.row) (l := es.map (BD false)) fun x hx => by
   obtain ⟨y, _, rfl⟩ := List.mem_map.1 hx
   unfold BD
   split
   ·dsimp only; omega
   ·rename_i hq
    have : ¬ y.count < 0 := fun h => hq ⟨rfl, h⟩
    omega
  have h3 := q2.nz e he
  omega
 rw [BT] at hsm
 have hnc := IQ (es.map (BD false)) (by simp; omega)
 generalize A9 (es.map (BD false)) = R at hsm hnc htn hpos
 obtain ⟨rb, re⟩ := R
 dsimp only at hsm hnc htn hpos
 refine ⟨rb, t2, hok2, hsm.2.1, hsm.2.2.1, by omega, htn, hpos, ?_⟩
 have f9 : List.take es.length ((es.map (BD false)).map Entry.d) = (es.map (BD false)).map Entry.d := Ag (by simp)
 refine AF hT Tryz.func11 Tryz.ntmps11 [.tmp 8] fun B => ?_
 repeat' first | refine kz ?_ | refine Ak [0] (hent) ?_ | refine kg ?_ ?_ | exact k0 | refine Ab ?_ | refine m1 ?_ ?_
 refine AY (X := Nat) ([10] ++ List.range' 17 26) (fun x => x ≤ es.length) (fun x lz => (10, (iC x)) :: lz) (fun x => [(tB t2), .arr 1 56 2 ((es.take x).map (fun e => (BD false e).d) ++ (es.drop x).map Entry.d)]) (fun x => es.length - x) (0) ?_ ?_ ?_ ?_
 repeat' first | exact k0 | refine kw ?_ | refine kv ?_ ?_ | omega
 rintro i c hi
 by_cases hlt : i < es.length
 ·have hv : es[i]? = some es[i] := Bi hlt
  have hgc := (hgood _ (Gl hlt)).2
  generalize es[i] = e at hv hgc
  have hv1 := TM (f := fun e => (BD false e).d) (g := Entry.d) hv
  have hst := map_set (f := fun e => (BD false e).d) (g := Entry.d) hv
  generalize hA : (es.take i).map (fun e => (BD false e).d) ++ (es.drop i).map Entry.d = A at hv1 hst
  by_cases hc : e.count < 0
  ·have he : BD false e = ⟨e.row, -e.count⟩ := if_pos ⟨rfl, hc⟩
   simp only [he] at hst
   have hal : A.length = es.length := by rw [← hA]; simp; omega
   repeat' first | refine kz ?_ | refine AT hv1 ?_ | refine As ?_ | refine kg ?_ ?_ | exact k0 | refine Ab ?_ | refine m1 ?_ ?_
   apply Ae (i + 1) <;> (try dsimp only) <;> try repeat' first | exact k0 | refine kw ?_ | refine kv ?_ ?_ | omega
   exact hst
  ·have he : BD false e = e := if_neg fun q => hc q.2
   simp only [he] at hst
   rw [OD hv1] at hst
   have hal : A.length = es.length := by rw [← hA]; simp; omega
   repeat' first | refine kz ?_ | refine AT hv1 ?_ | refine As ?_ | refine kg ?_ ?_ | exact k0 | refine Ab ?_ | refine m1 ?_ ?_
   apply Ae (i + 1) <;> (try dsimp only) <;> try repeat' first | exact k0 | refine kw ?_ | refine kv ?_ ?_ | omega
 ·rw [Ag (show es.length ≤ i by omega), QF (by omega), List.map_nil, List.append_nil, show (es.map fun e => (BD false e).d) = (es.map (BD false)).map Entry.d by rw [X8]; rfl]
  have hl1 : (es.map (BD false)).length = es.length := by simp
  have hl2 : ((es.map (BD false)).map Entry.d).length = es.length := by simp
  repeat' first | refine A8 9 ?_ (hes := f9) | refine kz ?_ | refine Aa (hnc) ?_ | refine Bd Ac ?_ ?_ | exact k0 | refine Ab ?_ | refine m1 ?_ ?_
end Go.Proofs.YtmpgmjlanngkfaaGreat
end
