/-
  The tape's change that fits a bag: some entries are removed, others are added.
-/
import Derived.Test.YtmpgmjlanngkfaaGreatFta
import Derived.Test.YtmpgmjlanngkfaaGreatJch
import Derived.Test.YtmpgmjlanngkfaaGreatSpe
import Derived.Test.YtmpgmjlanngkfaaGreatJod
import Derived.Test.YtmpgmjlanngkfaaGreatRej
import Derived.Test.YtmpgmjlanngkfaaGreatArz
section
namespace Go.Abs
open Go.RowKit
section
variable {P : Program} {f : FuncId} {ja : List SVal} {j5 : List Blk} {cs : List Cell}
theorem HCall.dataB {t : TypeId} {z m : Nat} {es : List (List Dat)} {y : Dat} (h : HCall P f ja j5 (.c (.arr 2 1 m)) [.box 0 cs, .dead, .arr 1 t z es]) (hu : ∀ ρ ν, Cell.ups ρ ν cs = cs) (hm : m ≤ es.length) (hy : .sl (es.take m) = y) (hc : RE ja j5 (.c (.d y)) [.box 0 cs] = true) : HCall P f ja j5 (.c (.d y)) [.box 0 cs] := by
 obtain ⟨_, mS, jd⟩ := h
 refine ⟨hc, mS, fun F0 w0 => ⟨mS, fun E w vs hw hl hv => Calls.mono ((jd F0 w0).2 E w vs hw hl hv) fun e w' he => ?_⟩⟩
 obtain ⟨v, E', r, mm, c', rfl, hle, hk, j4, hr⟩ := he
 have mg := hr.mem 2 (.arr (Ch mm 2) t z es) rfl trivial
 have n9 := hr.mem 0 (.box (Ch mm 0) cs) (by simp [Gj, Blk.up, hu, CK]) trivial
 have hz := hk.freeze 2 _ t z es mg
 have hq := hr.res.rep j4
 simp only [SVal.up, Cell.up, id] at hq
 cases hq with | c hq =>
 have pZ : Ch (mm.set 2 .dead) 0 = Ch mm 0 := by
  unfold Ch
  rw [J7 (by decide)]
 refine ⟨v, _, .c (.d y), mm.set 2 .dead, c', rfl, hle.trans hz.2, hz.1, .c (.d ?_), ⟨fun s x hs _ => ?_, DM, fun i hi => ?_⟩⟩
 ·subst hy
  exact Ek hk mg hm hq (fun b hb => .inl hb) (fun hc => .inr ⟨rfl, hc⟩)
 ·match s, hs with
  | 0, hs =>
    simp only [Gj, Blk.up, hu, CK, pZ, List.getElem?_cons_zero, Option.some.injEq] at hs
    subst hs
    rw [J7 (by decide)]
    exact n9
  | s + 1, hs => simp [Gj] at hs
 ·match i, hi with
  | 0, _ => rw [pZ]; exact hr.kept 0 rfl
  | i + 1, hi => simp at hi
theorem HCall.dataE (h : HCall P f ja j5 (.c .emp) [.box 0 cs, .dead]) (hu : ∀ ρ ν, Cell.ups ρ ν cs = cs) (hc : RE ja j5 (.c (.d (.sl []))) [.box 0 cs] = true) : HCall P f ja j5 (.c (.d (.sl []))) [.box 0 cs] := by
 obtain ⟨_, mS, jd⟩ := h
 refine ⟨hc, mS, fun F0 w0 => ⟨mS, fun E w vs hw hl hv => Calls.mono ((jd F0 w0).2 E w vs hw hl hv) fun e w' he => ?_⟩⟩
 obtain ⟨v, E', r, mm, c', rfl, hle, hk, j4, hr⟩ := he
 have n9 := hr.mem 0 (.box (Ch mm 0) cs) (by simp [Gj, Blk.up, hu, CK]) trivial
 have hq := hr.res.rep j4
 simp only [SVal.up, Cell.up] at hq
 refine ⟨v, E', .c (.d (.sl [])), mm, c', rfl, hle, hk, ?_, ⟨fun s x hs _ => ?_, DM, fun i hi => ?_⟩⟩
 ·cases hq with | c hq =>
  cases hq with | emp a => exact .c (.d (.emp _ _))
 ·match s, hs with
  | 0, hs =>
    simp only [Gj, Blk.up, hu, CK, List.getElem?_cons_zero, Option.some.injEq] at hs
    subst hs
    exact n9
  | s + 1, hs => simp [Gj] at hs
 ·match i, hi with
  | 0, _ => exact hr.kept 0 rfl
  | i + 1, hi => simp at hi
end
end Go.Abs
end
section
namespace Go.Proofs.YtmpgmjlanngkfaaGreat
open Go.Abs Go.RowKit
attribute [local irreducible] ARun Av MCall PCall HCall Ap SF CF CFs Ag Ai As fin AY VLe
set_option linter.unusedSimpArgs false
set_option maxRecDepth 100000
set_option maxHeartbeats 4000000
theorem VS (t : Tape) (w n : Nat) (sg : Bool) (ht : t.ok) (hw : w ≤ 16) (hn : n ≤ 999) : ∃ (b : List Entry) (t' : Tape), t'.ok ∧ (Tiny (3 * n) w b ∧ b.length ≤ n ∧ (sg = false → ∀ e ∈ b, 0 < e.count)) ∧
  ((b = [] ∧ HC 11 [.c (.bp 0 0 0), (iC (w : Int)), (iC (n : Int)), .c (.d (.lit (.bool sg)))] [(tB t)] (.c .emp) [(tB t'), .dead]) ∨
  HC 11 [.c (.bp 0 0 0), (iC (w : Int)), (iC (n : Int)), .c (.d (.lit (.bool sg)))] [(tB t)] (.c (.arr 2 1 b.length)) [(tB t'), .dead, .arr 1 56 2 (b.map Entry.d)]) := by
 have mW := UU t w n ht (by omega) (by omega)
 obtain ⟨b1, b2⟩ := t.nx_bd ((n : Int) + 1)
 have tE := ht.go ((n : Int) + 1)
 obtain ⟨i0, sw⟩ := R8 b1
 rw [sw, To] at mW
 rw [sw] at b1 b2
 have xv := Ot tE w i0
 have nt := Nj (t.go ((n : Int) + 1)) w hw i0
 have pt := QN (t.go ((n : Int) + 1)) w i0
 generalize t.go ((n : Int) + 1) = t1 at mW tE xv nt pt
 obtain ⟨rR, oJ⟩ := xv
 generalize D6 t1 w i0 = E at mW rR oJ nt pt
 obtain ⟨es, t2⟩ := E
 dsimp only at mW rR oJ nt pt
 have rj : es.length ≤ n := by omega
 subst oJ
 have nA : ∀ e ∈ es.map (DL sg), AR e.row = true ∧ -3 ≤ e.count ∧ e.count ≤ 3 := fun e he => by
  obtain ⟨x, hx, rfl⟩ := List.mem_map.1 he
  obtain ⟨g1, g2⟩ := nt x hx
  unfold DL
  split
  · exact ⟨g1, by simp only; omega⟩
  · exact ⟨g1, g2⟩
 have nL := LO nA (by simp; omega)
 have j9 : (es.map (DL sg)).all Bb = true := Eg.2 fun e he => by
  obtain ⟨h1, h2, h3⟩ := nA e he
  simp only [Bb, AD, BM, decide_eq_true_eq]
  exact ⟨h1, by omega, by omega⟩
 have nk : Tiny (3 * n) w (Bh (es.map (DL sg))).1 := by
  rw [(Fw nL.1).1]
  refine (Tk (fun e he => (nA e he).1) (fun e he => ?_) (LX (Zs (n := 3) fun e he => ?_) ?_) (by omega)).1
  · obtain ⟨x, hx, rfl⟩ := List.mem_map.1 he
    have := pt x hx
    unfold DL
    split <;> exact this
  · have := (nA e he).2
    omega
  · rw [BR]
    omega
 have jD : sg = false → ∀ e ∈ (Bh (es.map (DL sg))).1, 0 < e.count := by
  rintro rfl
  obtain ⟨q1, q2, _, q4⟩ := Fw nL.1
  rw [q1]
  intro e he
  have h1 := q4 e.row
  rw [G8 (C0 q2.up) he (rowCmp_ok.refl _)] at h1
  have h2 := Tl (r := e.row) (l := es.map (DL false)) fun x hx => by
    obtain ⟨y, _, rfl⟩ := List.mem_map.1 hx
    unfold DL
    split
    · dsimp only; omega
    · rename_i hq
      have : ¬ y.count < 0 := fun h => hq ⟨rfl, h⟩
      omega
  have h3 := q2.nz e he
  omega
 have hL : (es.map (DL sg)).length ≤ 1000000 := by simp; omega
 have jP : L7 (es.map (DL sg)) = true → (Bh (es.map (DL sg))).1 = [] := fun h => by
  rw [(Fw nL.1).1, Uh h]
 have hN := fun h => YP (es.map (DL sg)) h j9
 have hA := fun h => YQ (es.map (DL sg)) h nL.1 hL
 have qB := nL.2.2.2
 rw [BR] at qB
 generalize (Bh (es.map (DL sg))).1 = rb at nk jD jP hA qB
 refine ⟨rb, t2, rR, ⟨nk, by omega, jD⟩, ?_⟩
 clear qB nL j9 nk jD nA hL pt
 have f9 : List.take es.length ((es.map (DL sg)).map Entry.d) = (es.map (DL sg)).map Entry.d := Ah (by simp)
 cases hq : L7 (es.map (DL sg))
 all_goals
  (first
    | (have hR := hA hq; refine Or.inr ?_; clear hN hA jP hq)
    | (have hR := hN hq; refine Or.inl ⟨jP hq, ?_⟩; clear hN hA jP hq)
   refine Au hT Tryz.func11 Tryz.ntmps11 [.tmp 8] fun B => ?_
   repeat' first | refine kz ?_ | refine Ae [0] (mW) ?_ | refine kg ?_ ?_ | exact k0 | refine Ab ?_ | refine m1 ?_ ?_
   refine AK (X := Nat) ([10] ++ List.range' 17 26) (fun x => x ≤ es.length) (fun x lz => (10, (iC x)) :: lz) (fun x => [(tB t2), .arr 1 56 2 ((es.take x).map (fun e => (DL sg e).d) ++ (es.drop x).map Entry.d)]) (fun x => es.length - x) (0) ?_ ?_ ?_ ?_
   repeat' first | exact k0 | refine kw ?_ | refine kv ?_ ?_ | omega
   rintro i c hi
   by_cases i7 : i < es.length
   · have hv : es[i]? = some es[i] := Bo i7
     have z6 := (nt _ (Fo i7)).2
     generalize es[i] = e at hv z6
     have jN := cM (f := fun e => (DL sg e).d) (g := Entry.d) hv
     have kp := map_set (f := fun e => (DL sg e).d) (g := Entry.d) hv
     generalize z7 : (es.take i).map (fun e => (DL sg e).d) ++ (es.drop i).map Entry.d = A at jN kp
     have jM : A.length = es.length := by rw [← z7]; simp; omega
     by_cases hc : sg = false ∧ e.count < 0
     · obtain ⟨rfl, hc⟩ := hc
       have he : DL false e = ⟨e.row, -e.count⟩ := if_pos ⟨rfl, hc⟩
       simp only [he] at kp
       repeat' first | refine kz ?_ | refine AF jN ?_ | refine Ao ?_ | refine kg ?_ ?_ | exact k0 | refine Ab ?_ | refine m1 ?_ ?_
       apply Af (i + 1) <;> (try dsimp only) <;> try repeat' first | exact k0 | refine kw ?_ | refine kv ?_ ?_ | omega
       exact kp
     · have he : DL sg e = e := if_neg hc
       simp only [he] at kp
       rw [XC jN] at kp
       cases sg with
       | true =>
         repeat' first | refine kz ?_ | refine AF jN ?_ | refine Ao ?_ | refine kg ?_ ?_ | exact k0 | refine Ab ?_ | refine m1 ?_ ?_
         apply Af (i + 1) <;> (try dsimp only) <;> try repeat' first | exact k0 | refine kw ?_ | refine kv ?_ ?_ | omega
       | false =>
         have hc : ¬ e.count < 0 := fun h => hc ⟨rfl, h⟩
         repeat' first | refine kz ?_ | refine AF jN ?_ | refine Ao ?_ | refine kg ?_ ?_ | exact k0 | refine Ab ?_ | refine m1 ?_ ?_
         apply Af (i + 1) <;> (try dsimp only) <;> try repeat' first | exact k0 | refine kw ?_ | refine kv ?_ ?_ | omega
   · rw [Ah (show es.length ≤ i by omega), R9 (by omega), List.map_nil, List.append_nil, show (es.map fun e => (DL sg e).d) = (es.map (DL sg)).map Entry.d by rw [Sc]; rfl]
     have lv : (es.map (DL sg)).length = es.length := by simp
     have mh : ((es.map (DL sg)).map Entry.d).length = es.length := by simp
     repeat' (first | refine Ax 9 ?_ (j6 := f9) | refine kz ?_ | refine Ae [] (hR) ?_ | refine AO Ad ?_ ?_ | exact k0 | refine Ab ?_ | refine m1 ?_ ?_))
theorem Rm (t : Tape) (w n : Nat) (sg : Bool) (ht : t.ok) (hw : w ≤ 16) (hn : n ≤ 999) : ∃ (b : List Entry) (t' : Tape), t'.ok ∧ (Tiny (3 * n) w b ∧ b.length ≤ n ∧ (sg = false → ∀ e ∈ b, 0 < e.count)) ∧ HC 11 [.c (.bp 0 0 0), (iC (w : Int)), (iC (n : Int)), .c (.d (.lit (.bool sg)))] [(tB t)] (.c (.d (Ak b))) [(tB t')] := by
 obtain ⟨b, t', ok, hb, h⟩ := VS t w n sg ht hw hn
 refine ⟨b, t', ok, hb, ?_⟩
 rcases h with ⟨rfl, h⟩ | h
 ·exact h.dataE (by intro _ _; simp only [Cell.ups, Cell.up]) rfl
 ·exact h.dataB (by intro _ _; simp only [Cell.ups, Cell.up]) (by simp) (by rw [Ah (by simp)]; rfl) rfl
theorem WE {f : List Val → Int} (hf : ∀ r, 0 ≤ f r) : ∀ {l : List Entry}, (∀ e ∈ l, 0 < e.count) → 0 ≤ wS f l
 | [], _ => Int.le_refl _
 | e :: l, h => by
   have h1 := WE hf (l := l) fun x hx => h x (by simp [hx])
   have h2 := ep (show (0 : Int) ≤ e.count by have := h e (by simp); omega) (hf e.row)
   rw [wS]; omega
theorem bX (t : Tape) (w n : Nat) (ht : t.ok) (hw : w ≤ 16) (hn : n ≤ 999) : ∃ (b : List Entry) (t' : Tape), t'.ok ∧ Tiny (3 * n) w b ∧ (∀ e ∈ b, 0 < e.count) ∧
  ((b = [] ∧ HC 11 [.c (.bp 0 0 0), (iC (w : Int)), (iC (n : Int)), .c (.d (.lit (.bool false)))] [(tB t)] (.c .emp) [(tB t'), .dead]) ∨
  HC 11 [.c (.bp 0 0 0), (iC (w : Int)), (iC (n : Int)), .c (.d (.lit (.bool false)))] [(tB t)] (.c (.arr 2 1 b.length)) [(tB t'), .dead, .arr 1 56 2 (b.map Entry.d)]) := by
 obtain ⟨b, t', ok, ⟨h1, _, h3⟩, h⟩ := VS t w n false ht hw hn
 exact ⟨b, t', ok, h1, h3 rfl, h⟩
theorem Ug {b l0 : List Entry} {A w : Nat} (hb : Tiny A w b) (pb : ∀ e ∈ b, 0 < e.count) (hA : A ≤ 1000000) (t0 : Tape) (z8 : t0.ok) : ∀ k : Nat, k ≤ b.length → ∃ (f : Nat → List Entry) (ts : Nat → Tape), f 0 = l0 ∧ ts 0 = t0 ∧ (ts k).ok ∧
   (∀ i e, i < k → b[i]? = some e → ∃ (z : Nat) (t2 : Tape), z < 3 ∧ HC 30 [.c (.bp 0 0 0), .c (.d (.lit (.int .i64 3)))] [(tB ((ts i)))] (iC z) [(tB t2)] ∧
     ((z ≠ 0 ∧ f (i + 1) = f i ∧ ts (i + 1) = t2) ∨ (z = 0 ∧ ∃ q : Nat, (q : Int) < e.count ∧ f (i + 1) = f i ++ [⟨e.row, -(1 + (q : Int))⟩] ∧ HC 30 [.c (.bp 0 0 0), .c (.d (.lit (.int .i64 e.count)))] [(tB t2)] (iC q) [(.box 0 [.d (Ds ((ts (i + 1))).l), .d (.lit (.int .i64 ((ts (i + 1))).at_))])]))) ∧
   (∀ i, i ≤ k → (f i).length ≤ l0.length + i ∧ (∀ e ∈ f i, e ∈ l0 ∨ (AR e.row = true ∧ e.row.length = w ∧ -1000000 ≤ e.count ∧ e.count ≤ 0)) ∧ Cq (f i) ≤ Cq l0 + Cq (b.take i) ∧ ∀ g : List Val → Int, (∀ r, 0 ≤ g r) → wS g l0 ≤ wS g (b.take i) + wS g (f i)) := by
 intro k
 induction k with
 | zero =>
   intro _
   refine ⟨fun _ => l0, fun _ => t0, rfl, rfl, z8, fun i _ hi => by omega, fun i hi => ?_⟩
   obtain rfl : i = 0 := by omega
   exact ⟨by simp, fun e he => .inl he, by simp [Cq], fun g _ => by simp [wS]⟩
 | succ k ih =>
   intro hk
   obtain ⟨f, ts, e0, e1, qj, hf, hp⟩ := ih (by omega)
   obtain ⟨z, t2, jr, hz, n2⟩ := A5 (ts k) 3 qj (by omega) (by omega)
   have hv : b[k]? = some b[k] := Bo (by omega)
   have ny : b[k] ∈ b := Fo (by omega)
   have nR := pb _ ny
   have za := IY ny
   have hs := hb.s
   have mu := ((AP hb.v).2 _ ny).1
   have xw := hb.w _ ny
   have ju : b.take (k + 1) = b.take k ++ [b[k]] := by rw [Gm, hv]; rfl
   generalize b[k] = e at hv ny nR za mu xw ju
   obtain ⟨q1, q2, q3, q4⟩ := hp k (Nat.le_refl _)
   obtain ⟨c, hc⟩ := R8 (show 0 ≤ e.count by omega)
   by_cases lY : z = 0
   · obtain ⟨q, t3, kl, hq, n3⟩ := A5 t2 c jr (by omega) (by omega)
     rw [← hc] at n3
     refine ⟨fun i => if i = k + 1 then f k ++ [⟨e.row, -(1 + (q : Int))⟩] else f i, fun i => if i = k + 1 then t3 else ts i, by simp [e0], by simp [e1], by simp [kl], fun i x hi hx => ?_, fun i hi => ?_⟩
     · by_cases kF : i = k
       ·subst kF
        rw [hv] at hx
        cases hx
        refine ⟨z, t2, hz, ?_, .inr ⟨lY, q, by omega, ?_, ?_⟩⟩
        ·simp only [show ¬ i = i + 1 by omega, if_false]; exact n2
        ·simp only [show ¬ i = i + 1 by omega, if_false, if_true]
        ·simp only [if_true]; exact n3
       ·have := hf i x (by omega) hx
        simp only [show ¬ i = k + 1 by omega, show ¬ i + 1 = k + 1 by omega, if_false]
        exact this
     · by_cases kF : i = k + 1
       ·subst kF
        simp only [if_true]
        refine ⟨by simp; omega, fun x hx => ?_, ?_, fun g hg => ?_⟩
        ·rcases EY.1 hx with hx | hx
         ·exact q2 x hx
         ·obtain rfl := Ke.1 hx
          exact .inr ⟨mu, xw, by show (-1000000 : Int) ≤ -(1 + (q : Int)); omega, by show -(1 + (q : Int)) ≤ 0; omega⟩
        ·rw [ju, D7, D7]
         have : (-(1 + (q : Int))).natAbs ≤ e.count.natAbs := by omega
         simp only [Cq]; omega
        ·have h1 := q4 g hg
         have h2 := ep (show (0 : Int) ≤ e.count + -(1 + (q : Int)) by omega) (hg e.row)
         rw [ju, EE, EE]
         simp only [wS]
         rw [Int.add_mul] at h2
         omega
       ·simp only [kF, if_false]
        exact hp i (by omega)
   · refine ⟨fun i => if i = k + 1 then f k else f i, fun i => if i = k + 1 then t2 else ts i, by simp [e0], by simp [e1], by simp [jr], fun i x hi hx => ?_, fun i hi => ?_⟩
     · by_cases kF : i = k
       ·subst kF
        refine ⟨z, t2, hz, ?_, .inl ⟨lY, ?_, ?_⟩⟩
        ·simp only [show ¬ i = i + 1 by omega, if_false]; exact n2
        ·simp only [show ¬ i = i + 1 by omega, if_false, if_true]
        ·simp only [if_true]
       ·have := hf i x (by omega) hx
        simp only [show ¬ i = k + 1 by omega, show ¬ i + 1 = k + 1 by omega, if_false]
        exact this
     · by_cases kF : i = k + 1
       ·subst kF
        simp only [if_true]
        refine ⟨by omega, q2, ?_, fun g hg => ?_⟩
        ·rw [ju, D7]; omega
        ·have h1 := q4 g hg
         have h2 := ep (show (0 : Int) ≤ e.count by omega) (hg e.row)
         rw [ju, EE]
         simp only [wS]
         omega
       ·simp only [kF, if_false]
        exact hp i (by omega)
theorem K9 (t : Tape) (b : List Entry) (A w : Nat) (ht : t.ok) (hb : Tiny A w b) (pb : ∀ e ∈ b, 0 < e.count) (hw : w ≤ 16) (hA : A ≤ 1000) : ∃ (d : List Entry) (t' : Tape), t'.ok ∧ (Tiny (12 + A) w d ∧ d.length ≤ 12 + b.length) ∧ (∀ g : List Val → Int, (∀ r, 0 ≤ g r) → 0 ≤ wS g b + wS g d) ∧ HC 16 [.c (.bp 0 0 0), .c (.d (Ak b)), (iC (w : Int))] [(tB t)] (.c (.d (Ak d))) [(tB t')] := by
 obtain ⟨l0, t1, jv, T0, p0, tF⟩ := bX t w 4 ht hw (by omega)
 obtain ⟨f, ts, e0, e1, xy, hf, hp⟩ := Ug (l0 := l0) hb pb (by omega) t1 jv b.length (Nat.le_refl _)
 have uW := hb.len9
 have oG := T0.len9
 have kY : ∀ i, i ≤ b.length → (f i).length ≤ 2000 := fun i hi => by have := (hp i hi).1; omega
 obtain ⟨q1, q2, q3, q4⟩ := hp b.length (Nat.le_refl _)
 rw [Ah (Nat.le_refl _)] at q3 q4
 have qD := T0.s
 have pM := hb.s
 have mc : ∀ e ∈ f b.length, AR e.row = true ∧ e.row.length = w := fun e he => by
  rcases q2 e he with h | h
  ·exact ⟨((AP T0.v).2 e h).1, T0.w e h⟩
  ·exact ⟨h.1, h.2.1⟩
 have hs : Cq (f b.length) ≤ 12 + A := by omega
 obtain ⟨vP, xz⟩ := Tk (fun e he => (mc e he).1) (fun e he => (mc e he).2) hs (by omega)
 have hlen := (AP vP.v).1
 have hN : Bh (f b.length) = (sortE (f b.length), 0) := by
  have j9 : (f b.length).all Bb = true := Eg.2 fun e he => by
   have h1 := IY he
   simp only [Bb, AD, BM, decide_eq_true_eq]
   exact ⟨(mc e he).1, by omega, by omega⟩
  rw [Bh, if_pos j9, AU, if_neg (by omega), if_pos]
  refine Eg.2 fun e he => ?_
  have h1 := xz e he
  simp only [AD, BM, decide_eq_true_eq]
  omega
 have jy := Hy (f b.length)
 refine ⟨sortE (f b.length), ts b.length, xy, ⟨vP, by omega⟩, fun g hg => ?_, ?_⟩
 ·rw [QQ _ _ fun e he => Bu (mc e he).1]
  have h1 := q4 g hg
  have h2 := WE hg p0
  omega
 have mf := E9 (f b.length) (by have := kY b.length (Nat.le_refl _); omega)
 rw [hN] at mf
 dsimp only at mf
 generalize sortE (f b.length) = D at mf
 have tG : ∀ e ∈ b, -1000000 ≤ e.count ∧ e.count ≤ 1000000 := fun e he => by have := IY he; omega
 clear jy hp q1 q2 q3 q4 qD pM mc hs vP xz hlen hN hb T0 p0 oG xy
 have oI : b.length ≤ 1000 := by omega
 subst e0
 rw [← e1] at tF
 rcases tF with ⟨jP, cb⟩ | cb
 ·have oG : (f 0).length = 0 := by rw [jP]; rfl
  refine Au hT Tryz.func16 Tryz.ntmps16 [.tmp 6] fun B => ?_
  repeat' first | refine kz ?_ | refine Ao ?_ | refine Ae [0] (cb) ?_ | refine kg ?_ ?_ | exact k0 | refine Ab ?_ | refine m1 ?_ ?_
  refine Bv 7 56 2 ?_
  refine AK (X := Nat × Nat × Tape) ([7, 8] ++ List.range' 14 27) (fun x => x.1 ≤ b.length ∧ x.2.2 = ts x.1) (fun x lz => (7, .c (.arr 2 x.2.1 (f x.1).length)) :: (8, (iC x.1)) :: lz) (fun x => [(tB x.2.2), .dead, .arr x.2.1 56 2 ((f x.1).map Entry.d)]) (fun x => b.length - x.1) ((0, 2, ts 0)) ?_ ?_ ?_ ?_
  repeat' first | exact k0 | refine kw ?_ | refine kv ?_ ?_ | omega
  all_goals try (first | rfl | exact ⟨Nat.zero_le _, rfl⟩ | (dsimp only; rw [jP]; rfl))
  rintro ⟨i, v, T'⟩ c ⟨hi, kI⟩
  dsimp only at hi kI ⊢
  by_cases i7 : i < b.length
  ·have hv : b[i]? = some b[i] := Bo i7
   have vQ := tG _ (Fo i7)
   have vR := kY i hi
   generalize b[i] = e at hv vQ
   obtain ⟨z, t2, hz, n2, kp⟩ := hf i e i7 hv
   rw [← kI] at n2
   clear hf kY mf
   have lR : ((f i).map Entry.d).length = (f i).length := BR _
   rcases kp with ⟨lY, mC, uu⟩ | ⟨rfl, q, hq, mC, n3⟩
   ·repeat' first | refine kz ?_ | refine Ao ?_ | refine Ae [0] (n2) ?_ | refine kg ?_ ?_ | exact k0 | refine Ab ?_ | refine m1 ?_ ?_
    apply Af ((i + 1, v, t2)) <;> (try dsimp only) <;> try repeat' first | exact k0 | refine kw ?_ | refine kv ?_ ?_ | omega
    all_goals first
     | exact ⟨by omega, uu.symm⟩
     | (rw [mC]; done)
     | (rw [mC])
     | skip
   ·have hs : (f i).map Entry.d ++ [[A0 e.row, .lit (.int .i64 (-(1 + (q : Int))))]] = (f (i + 1)).map Entry.d := by rw [mC]; simp [Entry.d]
    have mh : (f (i + 1)).length = (f i).length + 1 := by rw [mC]; simp
    generalize hZ : (f (i + 1)).map Entry.d = Z at hs
    generalize kU : ts (i + 1) = T2 at n3
    generalize (f i).map Entry.d = A at hs lR ⊢
    generalize (f i).length = m at vR lR mh ⊢
    refine SZ 2 fun hr => ?_
    refine F2 ?_
    repeat' first | refine El (dr := true) 0 n3 ?_ | (refine GZ (dr := true) (ei := Gt) (k := v) (es := A) (ys := [[A0 e.row, .lit (.int .i64 (-(1 + (q : Int))))]]) (ji := Z) 2 (c + 1) (j := m) (m := m + 1) ?_ (by omega) (by omega) (by omega) rfl (by simp only [maxLen]; omega) (by simp only [Gt]; omega) (AI rfl Bc) (by rw [Ah (by omega)]; exact hs)) | refine kz ?_ | refine AF hv ?_ | refine Ao ?_ | refine Ae [0] (n2) ?_ | refine AO Ad ?_ ?_ | exact k0 | refine Ab ?_ | refine m1 ?_ ?_
    apply Af ((i + 1, c + 1, T2)) <;> (try dsimp only) <;> try repeat' first | exact k0 | refine kw ?_ | refine kv ?_ ?_ | omega
    all_goals first
     | exact ⟨by omega, kU.symm⟩
     | exact hZ.symm
     | (rw [mh])
     | skip
  ·obtain rfl : i = b.length := by omega
   rw [kI]
   have lR : ((f b.length).map Entry.d).length = (f b.length).length := BR _
   clear hf kY
   generalize f b.length = L at mf lR ⊢
   repeat' first | refine Ax (r := 2) (m := L.length) (lH := L.map Entry.d) 7 ?_ (hl := by omega) (j6 := Ah (by omega)) | refine kz ?_ | refine Ao ?_ | refine Aa (mf) ?_ | refine AO Ad ?_ ?_ | exact k0 | refine Ab ?_ | refine m1 ?_ ?_
   all_goals rfl
 ·skip
  refine Au hT Tryz.func16 Tryz.ntmps16 [.tmp 6] fun B => ?_
  repeat' first | refine kz ?_ | refine Ao ?_ | refine Ae [0] (cb) ?_ | refine kg ?_ ?_ | exact k0 | refine Ab ?_ | refine m1 ?_ ?_
  refine AK (X := Nat × Nat × Tape) ([7, 8] ++ List.range' 14 27) (fun x => x.1 ≤ b.length ∧ x.2.2 = ts x.1) (fun x lz => (7, .c (.arr 2 x.2.1 (f x.1).length)) :: (8, (iC x.1)) :: lz) (fun x => [(tB x.2.2), .dead, .arr x.2.1 56 2 ((f x.1).map Entry.d)]) (fun x => b.length - x.1) ((0, 1, ts 0)) ?_ ?_ ?_ ?_
  repeat' first | exact k0 | refine kw ?_ | refine kv ?_ ?_ | omega
  all_goals try (first | rfl | exact ⟨Nat.zero_le _, rfl⟩ | (dsimp only; rw [jP]; rfl))
  rintro ⟨i, v, T'⟩ c ⟨hi, kI⟩
  dsimp only at hi kI ⊢
  by_cases i7 : i < b.length
  ·have hv : b[i]? = some b[i] := Bo i7
   have vQ := tG _ (Fo i7)
   have vR := kY i hi
   generalize b[i] = e at hv vQ
   obtain ⟨z, t2, hz, n2, kp⟩ := hf i e i7 hv
   rw [← kI] at n2
   clear hf kY mf
   have lR : ((f i).map Entry.d).length = (f i).length := BR _
   rcases kp with ⟨lY, mC, uu⟩ | ⟨rfl, q, hq, mC, n3⟩
   ·repeat' first | refine kz ?_ | refine Ao ?_ | refine Ae [0] (n2) ?_ | refine kg ?_ ?_ | exact k0 | refine Ab ?_ | refine m1 ?_ ?_
    apply Af ((i + 1, v, t2)) <;> (try dsimp only) <;> try repeat' first | exact k0 | refine kw ?_ | refine kv ?_ ?_ | omega
    all_goals first
     | exact ⟨by omega, uu.symm⟩
     | (rw [mC]; done)
     | (rw [mC])
     | skip
   ·have hs : (f i).map Entry.d ++ [[A0 e.row, .lit (.int .i64 (-(1 + (q : Int))))]] = (f (i + 1)).map Entry.d := by rw [mC]; simp [Entry.d]
    have mh : (f (i + 1)).length = (f i).length + 1 := by rw [mC]; simp
    generalize hZ : (f (i + 1)).map Entry.d = Z at hs
    generalize kU : ts (i + 1) = T2 at n3
    generalize (f i).map Entry.d = A at hs lR ⊢
    generalize (f i).length = m at vR lR mh ⊢
    refine SZ 2 fun hr => ?_
    refine F2 ?_
    repeat' first | refine El (dr := true) 0 n3 ?_ | (refine GZ (dr := true) (ei := Gt) (k := v) (es := A) (ys := [[A0 e.row, .lit (.int .i64 (-(1 + (q : Int))))]]) (ji := Z) 2 (c + 1) (j := m) (m := m + 1) ?_ (by omega) (by omega) (by omega) rfl (by simp only [maxLen]; omega) (by simp only [Gt]; omega) (AI rfl Bc) (by rw [Ah (by omega)]; exact hs)) | refine kz ?_ | refine AF hv ?_ | refine Ao ?_ | refine Ae [0] (n2) ?_ | refine AO Ad ?_ ?_ | exact k0 | refine Ab ?_ | refine m1 ?_ ?_
    apply Af ((i + 1, c + 1, T2)) <;> (try dsimp only) <;> try repeat' first | exact k0 | refine kw ?_ | refine kv ?_ ?_ | omega
    all_goals first
     | exact ⟨by omega, kU.symm⟩
     | exact hZ.symm
     | (rw [mh])
     | skip
  ·obtain rfl : i = b.length := by omega
   rw [kI]
   have lR : ((f b.length).map Entry.d).length = (f b.length).length := BR _
   clear hf kY
   generalize f b.length = L at mf lR ⊢
   repeat' first | refine Ax (r := 2) (m := L.length) (lH := L.map Entry.d) 7 ?_ (hl := by omega) (j6 := Ah (by omega)) | refine kz ?_ | refine Ao ?_ | refine Aa (mf) ?_ | refine AO Ad ?_ ?_ | exact k0 | refine Ab ?_ | refine m1 ?_ ?_
   all_goals rfl
end Go.Proofs.YtmpgmjlanngkfaaGreat
end
