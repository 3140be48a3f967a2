/-
  Plain: the join of changed bags is the join and its change.
-/
import Derived.Test.YtmpgmjlanngkfaaGreatCmf
import Derived.Test.YtmpgmjlanngkfaaGreatAgr
import Derived.Test.YtmpgmjlanngkfaaGreatJoj
import Derived.Test.YtmpgmjlanngkfaaGreatRek
import Derived.Test.YtmpgmjlanngkfaaGreatRdr
import Derived.Test.YtmpgmjlanngkfaaGreatSpv
import Derived.Test.YtmpgmjlanngkfaaGreatRej
import Derived.Test.YtmpgmjlanngkfaaGreatSpe
import Derived.Test.YtmpgmjlanngkfaaGreatExn
import Derived.Test.YtmpgmjlanngkfaaGreatJoq
import Derived.Test.YtmpgmjlanngkfaaGreatJod
import Derived.Test.YtmpgmjlanngkfaaGreatAgi
import Derived.Test.YtmpgmjlanngkfaaGreatFta
import Derived.Test.YtmpgmjlanngkfaaGreatAgm
import Derived.Test.YtmpgmjlanngkfaaGreatRga
import Derived.Test.YtmpgmjlanngkfaaGreatAvw
section
namespace Go.Proofs.YtmpgmjlanngkfaaGreat
open Go.Abs Go.RowKit
attribute [local irreducible] ARun Av MCall PCall HCall Ap SF CF CFs Ag Ai As fin AY VLe
set_option linter.unusedSimpArgs false
set_option maxRecDepth 100000
set_option maxHeartbeats 4000000
theorem B6 : DeferOk Tryz.prog 54 0 := by
 refine ⟨⟨_, Tryz.func54, by kernel_rfl, by kernel_rfl⟩, fun vs w hl => ?_⟩
 match vs, hl with
 | [], _ =>
   refine callsD_of_wpS Tryz.func54 rfl fun c₀ cs hu => ?_
   apply wpS_region
   simp [wpOpsS, go_sem, recoverD, hu, Tryz.ntmps54, Exit.thenS]
   cases c₀
   simp_all [bodyPostS, results, Tryz.results54]
def rD (r : List Val) : List Dat := [A0 r]
def cO (l : List (List Val)) : Dat := .sl (l.map rD)
def fk (a b : List Val) : Bool := decide (Aj a b = 0)
theorem XD (a b : List Val) : PC 61 [.one (A0 a), .one (A0 b)] (.v (.one (.lit (.bool (fk a b))))) := by
 have h := Bm a b
 refine Ac hT Tryz.func61 Tryz.ntmps61 [.tmp 4] fun B => ?_
 repeat' first | refine kz ?_ | refine Aa (h) ?_ | refine kf ?_ | fail
 all_goals rfl
noncomputable def srtK (items : List Itm) (D : List Entry) : List (List Val) := sortF Aj (D.map fun e => AQ items e.row)
noncomputable def tkE (items : List Itm) (D : List Entry) : List (List Val) := CH fk (srtK items D) (srtK items D).length
theorem cP {items : List Itm} {D : List Entry} {e : Entry} (he : e ∈ D) : AQ items e.row ∈ tkE items D := by
 have hm : AQ items e.row ∈ srtK items D := (Br rowCmp_ok.swo _).mem_iff.2 (List.mem_map.2 ⟨e, he, rfl⟩)
 have hc : ∀ x ∈ srtK items D, AE x := fun x hx => by
  obtain ⟨y, _, rfl⟩ := List.mem_map.1 ((Br rowCmp_ok.swo _).mem_iff.1 hx)
  exact B4 _ _
 obtain ⟨i, hi⟩ := L0.1 hm
 exact VU (fun x hx y hy h => EV (hc x hx) (hc y hy) (of_decide_eq_true h)) _ (Nat.le_refl _) i _ (lt_of_getElem? hi) hi
noncomputable def tchE (v : Vw) (ok : Bool) (s j d : List Entry × Int) : List (List Val) × Int :=
 if v.kind = 1 ∧ ok = true then (if s.2 = 0 then (if j.2 = 0 then (if d.2 = 0 then (tkE v.items d.1, 0) else ([], d.2)) else ([], j.2)) else ([], s.2)) else ([], 1)
def HF (q : List (List Val) × Int) : PRes := .tup [.one (cO q.1), .one (.lit (.int .i64 q.2))]
theorem UW (v : Vw) (l r dl dr : List Entry) (s j : List Entry × Int) (kJ : v.items.length ≤ 10000)
  (hs : v.kind = 1 → PC 41 [.agg v.d, .one (Ak l), .one (Ak r)] (Bi s))
  (hj : v.kind = 1 → PC 55 [.agg v.d, .one (Ak s.1), .one (Ak l), .one (Ak r), .one (Ak dl), .one (Ak dr)] (Bi j))
  (lR : (AN (-1) (A9 j.1 v.wher) (A9 s.1 v.wher)).1.length ≤ 10000) :
  PC 24 [.agg v.d, .one (Ak l), .one (Ak r), .one (Ak dl), .one (Ak dr)] (HF (tchE v (A1 v l r) s j (AN (-1) (A9 j.1 v.wher) (A9 s.1 v.wher)))) := by
 have hd := Hb v l r
 unfold tchE
 by_cases hk : v.kind = 1
 ·specialize hs hk
  specialize hj hk
  cases pz : A1 v l r
  · rw [pz] at hd
    rw [if_neg (by simp)]
    dsimp only [HF]
    clear hs hj lR
    refine Ac hT Tryz.func24 Tryz.ntmps24 [.tmp 10, .tmp 11] fun B => ?_
    repeat' first | refine kz ?_ | refine Ao ?_ | refine Aa (hd) ?_ | refine kf ?_ | refine Aw (by repeat (first | exact Ad | refine Aq B6 ?_)) ?_ ?_
    all_goals rfl
  · rw [pz] at hd
    rw [if_pos ⟨hk, rfl⟩]
    obtain ⟨s, e1⟩ := s
    obtain ⟨j, e2⟩ := j
    dsimp only [Bi] at hs hj lR ⊢
    by_cases h1 : e1 = 0
    ·subst h1
     rw [if_pos rfl]
     by_cases h2 : e2 = 0
     ·subst h2
      rw [if_pos rfl]
      have w1 := N6 j v.wher
      have w2 := N6 s v.wher
      have lP := KD (A9 j v.wher) (A9 s v.wher)
      generalize A9 j v.wher = J at w1 lP lR ⊢
      generalize A9 s v.wher = S at w2 lP lR ⊢
      generalize AN (-1) J S = d at lP lR ⊢
      obtain ⟨D, e3⟩ := d
      dsimp only at lP lR ⊢
      by_cases h3 : e3 = 0
      ·subst h3
       rw [if_pos rfl]
       dsimp only [HF]
       refine Ac hT Tryz.func24 Tryz.ntmps24 [.tmp 10, .tmp 11] fun B => ?_
       repeat' first | refine Aa (ha := by exact And.intro rfl (And.intro rfl (And.intro rfl (And.intro rfl (And.intro rfl (And.intro rfl trivial)))))) hj ?_ | refine kz ?_ | refine Ao ?_ | refine Aa (hd) ?_ | refine Aa (hs) ?_ | refine Aa (w1) ?_ | refine Aa (w2) ?_ | refine Aa (lP) ?_ | refine H6 ?_ | refine EW ?_ | refine Aw (by repeat (first | exact Ad | refine Aq B6 ?_)) ?_ ?_ | refine Bq ?_ | refine BC ?_
       refine Bv 16 54 1 ?_
       refine AK (X := Nat × Nat) ([16] ++ List.range' 18 4 ++ List.range' 72 30) (fun x => x.1 ≤ D.length) (fun x lz => (72, (iC x.1)) :: (16, .c (.arr 1 x.2 ((D.take x.1).map fun e => AQ v.items e.row).length)) :: lz) (fun x => [.box 1 (v.d.map .d), .arr x.2 54 1 (((D.take x.1).map fun e => AQ v.items e.row).map rD)]) (fun x => D.length - x.1) ((0, 2)) ?_ ?_ ?_ ?_
       repeat' first | exact k0 | refine kw ?_ | refine kv ?_ ?_ | omega
       all_goals try rfl
       rintro ⟨i, k⟩ c hi
       dsimp only at hi ⊢
       by_cases i7 : i < D.length
       ·obtain ⟨e, hv⟩ := gx i7
        have jc := D3 (fun e : Entry => AQ v.items e.row) hv
        have qB : ((D.take i).map fun e => AQ v.items e.row).length = i := by simp; omega
        generalize xD : (D.take (i + 1)).map (fun e => AQ v.items e.row) = KS at jc
        generalize (D.take i).map (fun e => AQ v.items e.row) = K at jc qB ⊢
        clear hd hs hj w1 w2 lP
        repeat' first | refine kz ?_ | refine AF hv ?_ | refine Ao ?_ | refine kf ?_ | refine Aw (by repeat (first | exact Ad | refine Aq B6 ?_)) ?_ ?_
        refine AK (X := Nat) ([20, 21] ++ List.range' 83 14) (fun x => x ≤ v.items.length) (fun x lz => (83, (iC x)) :: lz) (fun x => [.box 1 (v.d.map .d), .arr k 54 1 (K.map rD), .box (c + 1) [.d (A0 e.row), .d (.lit (.int .i64 e.count))], .arr (c + 1 + 1) 73 3 ((AQ (v.items.take x) e.row).map Val.d ++ List.replicate (v.items.length - x) Val.null.d)]) (fun x => v.items.length - x) (0) ?_ ?_ ?_ ?_
        repeat' first | exact k0 | refine kw ?_ | refine kv ?_ ?_ | omega
        all_goals try rfl
        rintro n2 c2 kK
        by_cases lT : n2 < v.items.length
        ·obtain ⟨it, hw⟩ := gx lT
         have qe := GU it.expr e.row
         have oG : ((AQ (v.items.take n2) e.row).map Val.d).length = n2 := by simp [AQ]; omega
         have lA : ((AQ (v.items.take n2) e.row).map Val.d ++ List.replicate (v.items.length - n2) Val.null.d).set n2 (EC it.expr e.row).d = (AQ (v.items.take (n2 + 1)) e.row).map Val.d ++ List.replicate (v.items.length - (n2 + 1)) Val.null.d := by
          obtain ⟨k, hk⟩ : ∃ k, v.items.length - n2 = k + 1 := ⟨v.items.length - n2 - 1, by omega⟩
          rw [hk, show v.items.length - (n2 + 1) = k by omega, dV, aR _ _ (by omega), oG, Ts, List.set_cons_zero]
          unfold AQ
          rw [Gm, hw]; simp
         have jo : ((AQ (v.items.take n2) e.row).map Val.d ++ List.replicate (v.items.length - n2) Val.null.d)[n2]? = some Val.null.d := by
          rw [Oy (by omega), oG, Ts, gd, if_pos (by omega)]
         have nD : ((AQ (v.items.take n2) e.row).map Val.d ++ List.replicate (v.items.length - n2) Val.null.d).length = v.items.length := by rw [CR, oG, J6]; omega
         generalize (AQ (v.items.take n2) e.row).map Val.d ++ List.replicate (v.items.length - n2) Val.null.d = A at lA jo nD ⊢
         repeat' first | refine kz ?_ | refine AF hw ?_ | refine AF jo ?_ | refine Ao ?_ | refine Aa (qe) ?_ | refine kf ?_ | refine Aw (by repeat (first | exact Ad | refine Aq B6 ?_)) ?_ ?_
         apply Af (n2 + 1) <;> (try dsimp only) <;> try repeat' first | exact k0 | refine kw ?_ | refine kv ?_ ?_ | omega
         all_goals exact lA
        ·obtain rfl : n2 = v.items.length := by omega
         rw [Ir, Ts, List.replicate_zero, List.append_nil]
         have nZ : ((AQ v.items e.row).map Val.d).length = v.items.length := by rw [BR, DU]
         repeat' first | refine Ax (r := 3) (m := v.items.length) (lH := (AQ v.items e.row).map Val.d) 19 ?_ (hl := by omega) (j6 := Ah (by omega)) | refine kz ?_ | refine Ao ?_ | refine H6 ?_ | refine EW ?_ | refine Aw (by repeat (first | exact Ad | refine Aq B6 ?_)) ?_ ?_ | refine Bq ?_ | refine BC ?_
         apply Af ((i + 1, _)) <;> (try dsimp only) <;> try repeat' first | exact k0 | refine w1 ?_ | refine w3 ?_ ?_ | refine w5 ?_ ?_ | refine Ab ?_ | refine m1 ?_ ?_ | omega
         all_goals first
          | (rw [xD, jc, Ag']; rfl)
          | (rw [xD, jc]; simp; done)
          | skip
       ·rw [Ah (show D.length ≤ i by omega)]
        have hS := Uv A0 Aj rowCmp_ok.swo 59 (D.map fun e => AQ v.items e.row) (by simp; omega) (fun x _ y _ => Bm x y)
        have jU := (Br rowCmp_ok.swo (D.map fun e => AQ v.items e.row)).length_eq
        have hC := TP A0 fk 61 (srtK v.items D) (by unfold srtK; rw [jU]; simp; omega) (fun x _ y _ => XD x y)
        rw [show CH fk (srtK v.items D) (srtK v.items D).length = tkE v.items D from rfl] at hC
        rw [show sortF Aj (D.map fun e => AQ v.items e.row) = srtK v.items D from rfl] at hS jU
        generalize tkE v.items D = R at hC ⊢
        generalize srtK v.items D = Q at hC hS jU
        generalize (D.map fun e => AQ v.items e.row) = K at hS jU ⊢
        rw [jU] at hC
        clear hd hs hj w1 w2 lP
        repeat' first | ((with_reducible (refine NJ ?_)); refine Ax (r := 1) (m := R.length) (lH := R.map rD) 10 ?_ (hl := by simp) (j6 := Ah (by simp))) | refine kz ?_ | refine Ao ?_ | refine Ae [1] (hS) ?_ | refine Ae [1] (hC) ?_ | refine H6 ?_ | refine EW ?_ | refine Aw (by repeat (first | exact Ad | refine Aq B6 ?_)) ?_ ?_ | refine Bq ?_ | refine BC ?_
        all_goals rfl
      ·rw [if_neg h3]
       dsimp only [HF]
       refine Ac hT Tryz.func24 Tryz.ntmps24 [.tmp 10, .tmp 11] fun B => ?_
       repeat' first | refine Aa (ha := by exact And.intro rfl (And.intro rfl (And.intro rfl (And.intro rfl (And.intro rfl (And.intro rfl trivial)))))) hj ?_ | refine kz ?_ | refine Ao ?_ | refine Aa (hd) ?_ | refine Aa (hs) ?_ | refine Aa (w1) ?_ | refine Aa (w2) ?_ | refine Aa (lP) ?_ | refine H6 ?_ | refine EW ?_ | refine Aw (by repeat (first | exact Ad | refine Aq B6 ?_)) ?_ ?_ | refine Bq ?_ | refine BC ?_
       all_goals rfl
     ·rw [if_neg h2]
      dsimp only [HF]
      refine Ac hT Tryz.func24 Tryz.ntmps24 [.tmp 10, .tmp 11] fun B => ?_
      repeat' first | refine Aa (ha := by exact And.intro rfl (And.intro rfl (And.intro rfl (And.intro rfl (And.intro rfl (And.intro rfl trivial)))))) hj ?_ | refine kz ?_ | refine Ao ?_ | refine Aa (hd) ?_ | refine Aa (hs) ?_ | refine H6 ?_ | refine EW ?_ | refine Aw (by repeat (first | exact Ad | refine Aq B6 ?_)) ?_ ?_ | refine Bq ?_ | refine BC ?_
      all_goals rfl
    ·rw [if_neg h1]
     dsimp only [HF]
     refine Ac hT Tryz.func24 Tryz.ntmps24 [.tmp 10, .tmp 11] fun B => ?_
     repeat' first | refine kz ?_ | refine Ao ?_ | refine Aa (hd) ?_ | refine Aa (hs) ?_ | refine kf ?_ | refine Aw (by repeat (first | exact Ad | refine Aq B6 ?_)) ?_ ?_
     all_goals rfl
 ·rw [if_neg fun h => hk h.1]
  dsimp only [HF]
  clear hs hj lR
  refine Ac hT Tryz.func24 Tryz.ntmps24 [.tmp 10, .tmp 11] fun B => ?_
  repeat' first | refine kz ?_ | refine Ao ?_ | refine Aa (hd) ?_ | refine kf ?_ | refine Aw (by repeat (first | exact Ad | refine Aq B6 ?_)) ?_ ?_
  all_goals rfl
def LY (J : List Entry → List Entry → List (Int × Int) → List Entry × Int) (on : List (Int × Int)) : List (List Entry × List Entry) → List Entry → List Entry × Int
 | [], s => (s, 0)
 | p :: P, s => if (J p.1 p.2 on).2 = 0 then (if (AN 1 s (J p.1 p.2 on).1).2 = 0 then LY J on P (AN 1 s (J p.1 p.2 on).1).1 else ([], (AN 1 s (J p.1 p.2 on).1).2)) else ([], (J p.1 p.2 on).2)
def gT (p : List Entry × List Entry) : List Dat := [Ak p.1, Ak p.2]
theorem Ow (J : List Entry → List Entry → List (Int × Int) → List Entry × Int) (v : Vw) (l r dl dr : List Entry)
  (hJ : ∀ p ∈ ([(dl, r), (l, dr), (dl, dr)] : List (List Entry × List Entry)), PC 89 [.one (Ak p.1), .one (Ak p.2), .one (TG v.on)] (Bi (J p.1 p.2 v.on))) :
  PC 103 [.agg v.d, .one (Ak l), .one (Ak r), .one (Ak dl), .one (Ak dr)] (Bi (LY J v.on [(dl, r), (l, dr), (dl, dr)] [])) := by
 have hP : ∃ P : List (List Entry × List Entry), P = [(dl, r), (l, dr), (dl, dr)] := ⟨_, rfl⟩
 obtain ⟨P, hP⟩ := hP
 rw [← hP] at hJ ⊢
 have hPl : P.length = 3 := by rw [hP]; rfl
 have vS : ∀ (i : Nat) p, P[i]? = some p → ([[Ak dl, Ak r], [Ak l, Ak dr], [Ak dl, Ak dr]] : List (List Dat))[i]? = some [Ak p.1, Ak p.2] := fun i p h => by
  have : ([[Ak dl, Ak r], [Ak l, Ak dr], [Ak dl, Ak dr]] : List (List Dat)) = P.map gT := by rw [hP]; rfl
  rw [this, BU, h]; rfl
 clear hP
 refine Ac hT Tryz.func103 Tryz.ntmps103 [.tmp 10, .tmp 11] fun B => ?_
 repeat' first | refine kz ?_ | refine Ao ?_ | refine Ls ?_ | refine kh ?_ ?_ | exact ⟨⟩ | fail
 refine Bv 12 56 2 ?_
 refine Ax (r := 1) (m := 0) (lH := ([] : List Entry).map Entry.d) 12 ?_
 refine AK (X := Nat × List Entry) ([10, 11, 12, 14, 15, 16] ++ List.range' 28 27) (fun x => x.1 ≤ 3 ∧ LY J v.on (P.drop x.1) x.2 = LY J v.on P []) (fun x lz => (28, (iC x.1)) :: (12, .c (.d (Ak x.2))) :: lz) (fun x => [.box 1 (v.d.map .d), .dead]) (fun x => 3 - x.1) ((0, [])) ?_ ?_ ?_ ?_
 repeat' first | exact k0 | refine kw ?_ | omega
 all_goals try (first | rfl | exact ⟨by omega, rfl⟩)
 rintro ⟨i, s⟩ c ⟨hi, hinv⟩
 dsimp only at hi hinv ⊢
 by_cases i7 : i < 3
 ·have hv : P[i]? = some P[i] := Bo (by omega)
  have hj := hJ _ (Fo (show i < P.length by omega))
  generalize P[i] = p at hv hj
  have jN := vS i p hv
  obtain ⟨x1, y1⟩ := p
  dsimp only at hj jN
  rw [AB hv, LY] at hinv
  dsimp only at hinv
  have ha := Mk s (J x1 y1 v.on).1
  generalize J x1 y1 v.on = q at hj ha hinv
  obtain ⟨q, e⟩ := q
  dsimp only [Bi] at hj ha hinv
  clear hJ vS
  by_cases he : e = 0
  · subst he
    rw [if_pos rfl] at hinv
    generalize AN 1 s q = a at ha hinv
    obtain ⟨a, f⟩ := a
    dsimp only at ha hinv
    by_cases hf : f = 0
    ·subst hf
     rw [if_pos rfl] at hinv
     repeat' first | refine kz ?_ | refine AF jN ?_ | refine Ao ?_ | refine Aa (hj) ?_ | refine Aa (ha) ?_ | refine kh ?_ ?_ | exact ⟨⟩ | fail
     apply Af ((i + 1, a)) <;> (try dsimp only) <;> try repeat' first | exact k0 | refine kw ?_ | omega
     all_goals exact ⟨by omega, hinv⟩
    ·rw [if_neg hf] at hinv
     rw [← hinv]
     dsimp only [Bi]
     repeat' first | refine kz ?_ | refine AF jN ?_ | refine Ao ?_ | refine Aa (hj) ?_ | refine Aa (ha) ?_ | refine kh ?_ ?_ | exact ⟨⟩ | fail
     all_goals rfl
  · rw [if_neg he] at hinv
    rw [← hinv]
    dsimp only [Bi]
    repeat' first | refine kz ?_ | refine AF jN ?_ | refine Ao ?_ | refine Aa (hj) ?_ | refine kh ?_ ?_ | exact ⟨⟩ | fail
    all_goals rfl
 ·rw [R9 (by omega), LY] at hinv
  rw [← hinv]
  dsimp only [Bi]
  clear hJ vS
  repeat' first | refine kz ?_ | refine Ao ?_ | refine kh ?_ ?_ | exact ⟨⟩ | fail
  all_goals rfl
theorem Qg (a b : List Entry) (on : List (Int × Int)) : (A7 a b on).1.length ≤ a.length * b.length := by
 have h1 := RX a b on
 have h2 := IV (A2 a b on)
 unfold A7 Dl CA
 dsimp only
 split
 ·split
  ·simp
  ·split
   ·show (sumR (A2 a b on)).length ≤ _
    omega
   ·simp
 ·simp
theorem Qh (v : Vw) {a b : List Entry} (la : a.length ≤ 30) (lb : b.length ≤ 30) : (B3 A7 v a b).1.length ≤ 1000 := by
 unfold B3
 split
 ·dsimp only; omega
 ·have h1 := Qg a b v.on
  have h2 : a.length * b.length ≤ 30 * 30 := ZF la lb
  omega
noncomputable def cntK (v : Vw) (a b : List Entry) : List Entry × Int := Ov (A1 v a b) v a b (B3 A7 v a b) (JE groupE v (B3 A7 v a b).1)
theorem Y6 {v : Vw} (h : v.ok) : v.near := ⟨by have := h.items; omega, by have := h.aggs; omega, h.onl⟩
end Go.Proofs.YtmpgmjlanngkfaaGreat
end
section
namespace Go.Proofs.YtmpgmjlanngkfaaGreat
open Go.Abs Go.RowKit
set_option linter.unusedSimpArgs false
set_option maxRecDepth 100000
noncomputable def GrE (ag : List Agg) (keys : List Itm) (b : List Entry) : List Entry := (Dg b (AQ keys)).map (grE ag keys b)
open Classical in
def gC (e : List Trm) (r : List Val) : Bool := decide (e.length = 0) || Fh e r
theorem TL (f : List Val → Int) (x : Entry) (b : List Entry) (on : List (Int × Int)) : wS f (Cp x b on) = x.count * wS (fun t => if Co x.row t on then f (x.row ++ t) else 0) b := by
 induction b with
 | nil => simp [Cp, wS]
 | cons y b ih =>
   unfold Cp at ih ⊢
   rw [ZE, wS, Int.mul_add, ← ih]
   cases hm : Co x.row y.row on
   ·simp [wS]
   ·simp only [if_true, List.map_cons, wS, FI, Int.mul_assoc]
theorem TM (f : List Val → Int) (a b : List Entry) (on : List (Int × Int)) : wS f (A2 a b on) = wS (fun s => wS (fun t => if Co s t on then f (s ++ t) else 0) b) a := by
 induction a with
 | nil => rfl
 | cons x a ih =>
   have e1 : A2 (x :: a) b on = Cp x b on ++ A2 a b on := by simp [A2]
   rw [e1, EE, TL, wS, ih]
def iG (ks : List Itm) (ag : List Agg) : Vw := ⟨⟨#[]⟩, 1, ⟨#[]⟩, ⟨#[]⟩, [], [], ks, false, ag⟩
end Go.Proofs.YtmpgmjlanngkfaaGreat
end
section
namespace Go.Proofs.YtmpgmjlanngkfaaGreat
open Go.Abs Go.RowKit
attribute [local irreducible] ARun Av MCall PCall HCall Ap SF CF CFs Ag Ai As fin AY VLe
set_option linter.unusedSimpArgs false
set_option maxRecDepth 100000
set_option maxHeartbeats 4000000
theorem Tl {r : List Val} : ∀ {l : List Entry}, (∀ e ∈ l, 0 ≤ e.count) → 0 ≤ Bn l r
 | [], _ => Int.le_refl _
 | e :: l, h => by
   have h1 := Tl (r := r) (l := l) fun x hx => h x (by simp [hx])
   have h2 := h e (by simp)
   rw [Bn]; split <;> omega
end Go.Proofs.YtmpgmjlanngkfaaGreat
end
section
namespace Go.Proofs.YtmpgmjlanngkfaaGreat
open Go.Abs Go.RowKit
set_option linter.unusedSimpArgs false
set_option maxRecDepth 100000
def U9 (on : List (Int × Int)) (a b : List Entry) (g : List Val → Int) : Int := wS (fun s => wS (fun t => if Co s t on then g (s ++ t) else 0) b) a
theorem ga {on : List (Int × Int)} {s a d b : List Entry} (h : ∀ g, wS g s = wS g a + wS g d) (g : List Val → Int) : U9 on s b g = U9 on a b g + U9 on d b g := h _
theorem aN {on : List (Int × Int)} {s a d b : List Entry} (h : ∀ g, wS g s = wS g a + wS g d) (g : List Val → Int) : U9 on b s g = U9 on b a g + U9 on b d g := by
 unfold U9
 rw [← cR]
 exact XE fun e _ => h _
noncomputable def cntW (v : Vw) (l r : List Entry) : List Entry := if v.kind = 2 then (AN 1 l r).1 else (JE groupE v (B3 A7 v l r).1).1
end Go.Proofs.YtmpgmjlanngkfaaGreat
end
section
namespace Go.Proofs.YtmpgmjlanngkfaaGreat
open Go.Abs Go.RowKit
variable {a b j s : List Entry} {on : List (Int × Int)}
theorem Ld {l : List Entry} (hs : Sorted l) (hr : ∀ e ∈ l, AR e.row = true) (h : (AU l).2 = 0) : Am l = true := by
 unfold AU at h
 split at h
 ·cases h
 ·split at h
  ·rename_i hl hc
   simp only [Am, BM, decide_eq_true_eq]
   refine ⟨by omega, Kl (fun e he => ?_) hs.up (by simp)⟩
   simp only [Entry.ok, BM, decide_eq_true_eq]
   exact ⟨⟨hr e he, Eg.1 hc e he⟩, hs.nz e he⟩
  ·cases h
theorem Ui (h : AN 1 a b = (s, 0)) : Am a = true ∧ Am b = true ∧ s = mergeE a b ∧ Am s = true ∧ ∀ g, wS g s = wS g a + wS g b := by
 unfold AN at h
 split at h
 ·rename_i hv
  obtain ⟨ha, hb⟩ := hv
  rw [Ip] at h
  have hm : s = mergeE a b := by
   have := QV (a := mergeE a b) (by rw [h])
   rw [h] at this
   exact this
  have sa := BH ha
  have sb := BH hb
  refine ⟨ha, hb, hm, ?_, fun g => ?_⟩
  ·rw [hm]
   refine Ld (Fl a b sa sb) (fun e he => ?_) (by rw [h])
   obtain ⟨x, hx, hr⟩ := DK _ _ e he
   rw [← hr]
   rcases hx with hx | hx
   ·exact ((AP ha).2 x hx).1
   ·exact ((AP hb).2 x hx).1
  ·rw [hm]
   exact JC g a b sa.cl sb.cl
 ·cases h
theorem RF (l : List Entry) : ((CA l).1, ((CA l).2 : Int)) = AU l := by
 unfold CA AU
 rw [M0]
 split
 ·rfl
 ·split <;> rfl
theorem Jo (ha : A4 a = true) (hb : A4 b = true) : ∀ e ∈ A2 a b on, AR e.row = true ∧ e.count ≠ 0 := fun e he => by
 obtain ⟨x, hx, y, hy, _, rfl⟩ := Jv he
 have h := Lo (fun e he => ⟨((BJ ha).2 e he).1, ((BJ ha).2 e he).2.2⟩) (fun e he => ⟨((BJ hb).2 e he).1, ((BJ hb).2 e he).2.2⟩) hx hy
 exact h
theorem MQ (on : List (Int × Int)) (ha : A4 a = true) (hb : A4 b = true) : A7 a b on = AU (sortE (A2 a b on)) := by
 rw [← RF]
 unfold A7 Dl
 rw [ha, hb, if_pos (by decide), M8 _ fun e he => (Jo ha hb e he).2]
theorem Hu (h : A7 a b on = (j, 0)) : A4 a = true ∧ A4 b = true := by
 unfold A7 Dl at h
 cases ha : A4 a <;> cases hb : A4 b <;> simp [ha, hb] at h ⊢
theorem Le (on : List (Int × Int)) (ha : A4 a = true) (hb : A4 b = true) : Sorted (sortE (A2 a b on)) ∧ (∀ e ∈ sortE (A2 a b on), AR e.row = true) ∧ ∀ g, wS g (sortE (A2 a b on)) = U9 on a b g := by
 have hc : ∀ e ∈ A2 a b on, AE e.row := fun e he => Bu (Jo ha hb e he).1
 refine ⟨(B5 _ hc).1, fun e he => ?_, fun g => by rw [QQ _ _ hc, TM]; rfl⟩
 obtain ⟨x, hx, hr⟩ := Hg _ e he
 rw [← hr]
 exact (Jo ha hb x hx).1
theorem F3 (h : A7 a b on = (j, 0)) : Am j = true ∧ ∀ g, wS g j = U9 on a b g := by
 obtain ⟨ha, hb⟩ := Hu h
 obtain ⟨p1, p2, p3⟩ := Le on ha hb
 rw [MQ on ha hb] at h
 have hj : j = sortE (A2 a b on) := by
  have := QV (a := sortE (A2 a b on)) (by rw [h])
  rw [h] at this
  exact this
 rw [hj]
 exact ⟨Ld p1 p2 (by rw [h]), p3⟩
theorem Lf (h : AN 1 a b = (s, 0)) (ha : A4 a = true) (hb : A4 b = true) : A4 s = true := by
 obtain ⟨-, -, hm, hv, -⟩ := Ui h
 unfold A4
 rw [BM, Eg]
 refine ⟨fun e he => ?_, hv⟩
 rw [hm] at he
 obtain ⟨x, hx, hr⟩ := DK _ _ e he
 rw [← hr, decide_eq_true_eq]
 rcases hx with hx | hx
 ·exact ((BJ ha).2 x hx).2.2.1
 ·exact ((BJ hb).2 x hx).2.2.1
theorem Lg {p : List Entry × List Entry} {P : List (List Entry × List Entry)} {d : List Entry} (h : LY A7 on (p :: P) s = (d, 0)) : ∃ q t, A7 p.1 p.2 on = (q, 0) ∧ AN 1 s q = (t, 0) ∧ LY A7 on P t = (d, 0) := by
 rw [LY] at h
 by_cases h1 : (A7 p.1 p.2 on).2 = 0
 ·rw [if_pos h1] at h
  by_cases h2 : (AN 1 s (A7 p.1 p.2 on).1).2 = 0
  ·rw [if_pos h2] at h
   exact ⟨_, _, Prod.ext rfl h1, Prod.ext rfl h2, h⟩
  ·rw [if_neg h2] at h
   exact absurd (congrArg Prod.snd h) h2
 ·rw [if_neg h1] at h
  exact absurd (congrArg Prod.snd h) h1
theorem WS {l r dl dr l2 r2 d : List Entry} (h1 : AN 1 l dl = (l2, 0)) (h2 : AN 1 r dr = (r2, 0)) (hj : A7 l r on = (j, 0)) (hd : LY A7 on [(dl, r), (l, dr), (dl, dr)] [] = (d, 0)) : AN 1 j d = A7 l2 r2 on := by
 obtain ⟨q1, s1, a1, b1, hd⟩ := Lg hd
 obtain ⟨q2, s2, a2, b2, hd⟩ := Lg hd
 obtain ⟨q3, s3, a3, b3, hd⟩ := Lg hd
 rw [LY] at hd
 obtain rfl : s3 = d := congrArg Prod.fst hd
 dsimp only at a1 a2 a3
 obtain ⟨nl, nr⟩ := Hu hj
 obtain ⟨zk, _⟩ := Hu a1
 obtain ⟨_, zl⟩ := Hu a2
 have xE := Lf h1 nl zk
 have xF := Lf h2 nr zl
 obtain ⟨vj, wj⟩ := F3 hj
 obtain ⟨_, w1⟩ := F3 a1
 obtain ⟨_, w2⟩ := F3 a2
 obtain ⟨_, w3⟩ := F3 a3
 obtain ⟨-, -, -, -, u1⟩ := Ui b1
 obtain ⟨-, -, -, -, u2⟩ := Ui b2
 obtain ⟨-, -, -, vd, u3⟩ := Ui b3
 obtain ⟨-, -, -, -, wl⟩ := Ui h1
 obtain ⟨-, -, -, -, wr⟩ := Ui h2
 have wd : ∀ g, wS g s3 = U9 on dl r g + U9 on l dr g + U9 on dl dr g := fun g => by
  rw [u3, u2, u1, w1, w2, w3]
  show (0 : Int) + _ + _ + _ = _
  omega
 rw [MQ on xE xF, AN, if_pos ⟨vj, vd⟩, Ip]
 obtain ⟨p1, p2, p3⟩ := Le on xE xF
 have sj := BH vj
 have sd := BH vd
 rw [(Fl j s3 sj sd).unique p1 fun x => ?_]
 rw [XF, XF, JC _ _ _ sj.cl sd.cl, p3, wj, wd, ga wl, aN wr, aN wr]
 omega
theorem ab {α : Type} {R : α → α → Prop} {l : List α} {i j : Nat} {a b : α} (h : l.Pairwise R) (hi : l[i]? = some a) (hj : l[j]? = some b) (jY : i < j) : R a b := by
 obtain ⟨k6, rfl⟩ := dA.1 hi
 obtain ⟨ot, rfl⟩ := dA.1 hj
 exact XQ.1 h i j k6 ot jY
theorem YR {q : List Val → List Val → Bool} {l : List (List Val)} (hs : l.Pairwise fun a b => ¬ Aj b a < 0) (hq : ∀ a ∈ l, ∀ b ∈ l, q a b = decide (Aj a b = 0)) : ∀ n, n ≤ l.length → (CH q l n).Pairwise kR ∧ ∀ x ∈ CH q l n, x ∈ l.take n := by
 intro n
 induction n with
 | zero => intro _; exact ⟨.nil, fun x hx => by cases hx⟩
 | succ n ih =>
   intro hn
   obtain ⟨i1, i2⟩ := ih (by omega)
   obtain ⟨x, hx⟩ := gx (l := l) (i := n) (by omega)
   have ht : l.take (n + 1) = l.take n ++ [x] := by rw [Gm, hx]; rfl
   rw [ht]
   by_cases h0 : n = 0
   ·subst h0
    rw [KW]
    have h1 : l.take 1 = [x] := by rw [show (1 : Nat) = 0 + 1 from rfl, ht]; rfl
    rw [h1]
    exact ⟨dB .., fun y hy => by simpa using hy⟩
   ·obtain ⟨y, hy⟩ := gx (l := l) (i := n - 1) (by omega)
    have mx := Cb hx
    have my := Cb hy
    cases hd : q x y with
    | true =>
      rw [KU (by omega) hx hy hd]
      exact ⟨i1, fun z hz => XS _ (i2 z hz)⟩
    | false =>
      rw [KV (by omega) hx hy hd]
      refine ⟨?_, fun z hz => ?_⟩
      ·rw [aV]
       refine ⟨i1, dB .., fun z hz w hw => ?_⟩
       obtain rfl : w = x := by simpa using hw
       have ux : kR y w := by
        have j2 : ¬ Aj w y = 0 := by
         rw [hq w mx y my] at hd
         exact of_decide_eq_false hd
        have hle : ¬ Aj w y < 0 := ab hs hy hx (by omega)
        have := rowCmp_ok.anti w y
        unfold kR
        omega
       obtain ⟨m, hm⟩ := L0.1 (i2 z hz)
       rw [Mc] at hm
       split at hm
       ·rename_i uj
        by_cases zm : m = n - 1
        ·subst zm
         rw [hy] at hm
         cases hm
         exact ux
        ·have hle : ¬ Aj y z < 0 := ab hs hm hy (by omega)
         by_cases lY : Aj z y = 0
         ·unfold kR at ux ⊢
          exact rowCmp_ok.left ((rowCmp_ok.zero z y).1 lY).symm ux
         ·refine VA z y w ?_ ux
          have := rowCmp_ok.anti z y
          unfold kR
          omega
       ·cases hm
      ·rcases EY.1 hz with hz | hz
       ·exact XS _ (i2 z hz)
       ·exact dQ _ hz
theorem YS (items : List Itm) (D : List Entry) : tkE items D = Dg D (AQ items) := by
 have hK : D9 D (AQ items) := fun e _ => B4 _ _
 obtain ⟨k1, k2, k3⟩ := Hf hK
 have hp := Br rowCmp_ok.swo (D.map fun e => AQ items e.row)
 have hm : ∀ x, x ∈ srtK items D ↔ ∃ e ∈ D, AQ items e.row = x := fun x => by
  unfold srtK
  rw [hp.mem_iff, List.mem_map]
 obtain ⟨u1, u2⟩ := YR (q := fk) (l := srtK items D) (Ez rowCmp_ok.swo _) (fun a _ b _ => rfl) (srtK items D).length (Nat.le_refl _)
 refine DN Vz VA u1 k1 fun x => ?_
 rw [k3]
 constructor
 ·intro hx
  have := u2 x hx
  rw [Ir] at this
  exact (hm x).1 this
 ·rintro ⟨e, he, rfl⟩
  exact cP he
end Go.Proofs.YtmpgmjlanngkfaaGreat
end
