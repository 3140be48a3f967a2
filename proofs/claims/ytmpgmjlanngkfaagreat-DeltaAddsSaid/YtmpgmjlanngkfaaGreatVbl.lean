/-
  Views, plain: contents of small bags, and the change of a join by its bilinear form.
-/
import Derived.Test.YtmpgmjlanngkfaaGreatFta
import Derived.Test.YtmpgmjlanngkfaaGreatTpo
import Derived.Test.YtmpgmjlanngkfaaGreatRek
import Derived.Test.YtmpgmjlanngkfaaGreatVjc
import Derived.Test.YtmpgmjlanngkfaaGreatAvw
section
namespace Go.Abs
open Go.RowKit
section
variable {P : Program} {f : FuncId} {args0 : List SVal} {mem0 : List Blk} {cs : List Cell}
end
end Go.Abs
end
section
namespace Go.Proofs.YtmpgmjlanngkfaaGreat
open Go.Abs Go.RowKit
attribute [local irreducible] ARun Au MCall PCall HCall Ak SF CF CFs Af Ag Ar fin AP VLe
set_option linter.unusedSimpArgs false
set_option maxRecDepth 100000
set_option maxHeartbeats 4000000
theorem Yk (t : Tape) (w n : Nat) (sg : Bool) (ht : t.ok) (hw : w ≤ 16) (hn : n ≤ 999) : ∃ (b : List Entry) (t' : Tape), t'.ok ∧ (Tiny (3 * n) w b ∧ b.length ≤ n ∧ (sg = false → ∀ e ∈ b, 0 < e.count)) ∧
  ((b = [] ∧ HC 11 [.c (.bp 0 0 0), (iC (w : Int)), (iC (n : Int)), .c (.d (.lit (.bool sg)))] [(tB t)] (.c .emp) [(tB t'), .dead]) ∨
  HC 11 [.c (.bp 0 0 0), (iC (w : Int)), (iC (n : Int)), .c (.d (.lit (.bool sg)))] [(tB t)] (.c (.arr 2 1 b.length)) [(tB t'), .dead, .arr 1 56 2 (b.map Entry.d)]) := by
 have hent := Lw t w n ht (by omega) (by omega)
 obtain ⟨b1, b2⟩ := t.nx_bd ((n : Int) + 1)
 have hok1 := ht.go ((n : Int) + 1)
 obtain ⟨i0, hi0⟩ := UY b1
 rw [hi0, QL] at hent
 rw [hi0] at b1 b2
 have hxo := I4 hok1 w i0
 have hgood := Ih (t.go ((n : Int) + 1)) w hw i0
 have hwid := Kd (t.go ((n : Int) + 1)) w i0
 generalize t.go ((n : Int) + 1) = t1 at hent hok1 hxo hgood hwid
 obtain ⟨hok2, hxl⟩ := hxo
 generalize C3 t1 w i0 = E at hent hok2 hxl hgood hwid
 obtain ⟨es, t2⟩ := E
 dsimp only at hent hok2 hxl hgood hwid
 have hxn : es.length ≤ n := by omega
 subst hxl
 have hg2 : ∀ e ∈ es.map (Bv sg), AD e.row = true ∧ -3 ≤ e.count ∧ e.count ≤ 3 := fun e he => by
  obtain ⟨x, hx, rfl⟩ := List.mem_map.1 he
  obtain ⟨g1, g2⟩ := hgood x hx
  unfold Bv
  split
  · exact ⟨g1, by simp only; omega⟩
  · exact ⟨g1, g2⟩
 have hsm := Ke hg2 (by simp; omega)
 have hall : (es.map (Bv sg)).all AU = true := CN.2 fun e he => by
  obtain ⟨h1, h2, h3⟩ := hg2 e he
  simp only [AU, Av, Bi, decide_eq_true_eq]
  exact ⟨h1, by omega, by omega⟩
 have htn : Tiny (3 * n) w (A4 (es.map (Bv sg))).1 := by
  rw [(DC hsm.1).1]
  refine (Ht (fun e he => (hg2 e he).1) (fun e he => ?_) (LF (I5 (n := 3) fun e he => ?_) ?_) (by omega)).1
  · obtain ⟨x, hx, rfl⟩ := List.mem_map.1 he
    have := hwid x hx
    unfold Bv
    split <;> exact this
  · have := (hg2 e he).2
    omega
  · rw [BQ]
    omega
 have hpos : sg = false → ∀ e ∈ (A4 (es.map (Bv sg))).1, 0 < e.count := by
  rintro rfl
  obtain ⟨q1, q2, _, q4⟩ := DC hsm.1
  rw [q1]
  intro e he
  have h1 := q4 e.row
  rw [DZ (BB q2.up) he (rowCmp_ok.refl _)] at h1
  have h2 := Ml (r := e.row) (l := es.map (Bv false)) fun x hx => by
    obtain ⟨y, _, rfl⟩ := List.mem_map.1 hx
    unfold Bv
    split
    · dsimp only; omega
    · rename_i hq
      have : ¬ y.count < 0 := fun h => hq ⟨rfl, h⟩
      omega
  have h3 := q2.nz e he
  omega
 have hL : (es.map (Bv sg)).length ≤ 1000000 := by simp; omega
 have hnil : KB (es.map (Bv sg)) = true → (A4 (es.map (Bv sg))).1 = [] := fun h => by
  rw [(DC hsm.1).1, Ru h]
 have hN := fun h => Wf (es.map (Bv sg)) h hall
 have hA := fun h => Wg (es.map (Bv sg)) h hsm.1 hL
 have hln := hsm.2.2.2
 rw [BQ] at hln
 generalize (A4 (es.map (Bv sg))).1 = rb at htn hpos hnil hA hln
 refine ⟨rb, t2, hok2, ⟨htn, by omega, hpos⟩, ?_⟩
 clear hln hsm hall htn hpos hg2 hL hwid
 have f9 : List.take es.length ((es.map (Bv sg)).map Entry.d) = (es.map (Bv sg)).map Entry.d := Ao (by simp)
 cases hq : KB (es.map (Bv sg))
 all_goals
  (first
    | (have hR := hA hq; refine Or.inr ?_; clear hN hA hnil hq)
    | (have hR := hN hq; refine Or.inl ⟨hnil hq, ?_⟩; clear hN hA hnil hq)
   refine AI hT Tryz.func11 Tryz.ntmps11 [.tmp 8] fun B => ?_
   repeat' first | refine kz ?_ | refine Ah [0] (hent) ?_ | refine kg ?_ ?_ | exact k0 | refine Ab ?_ | refine m1 ?_ ?_
   refine A0 (X := Nat) ([10] ++ List.range' 17 26) (fun x => x ≤ es.length) (fun x lz => (10, (iC x)) :: lz) (fun x => [(tB t2), .arr 1 56 2 ((es.take x).map (fun e => (Bv sg e).d) ++ (es.drop x).map Entry.d)]) (fun x => es.length - x) (0) ?_ ?_ ?_ ?_
   repeat' first | exact k0 | refine kw ?_ | refine kv ?_ ?_ | omega
   rintro i c hi
   by_cases hlt : i < es.length
   · have hv : es[i]? = some es[i] := Bh hlt
     have hgc := (hgood _ (Fp hlt)).2
     generalize es[i] = e at hv hgc
     have hv1 := UP (f := fun e => (Bv sg e).d) (g := Entry.d) hv
     have hst := map_set (f := fun e => (Bv sg e).d) (g := Entry.d) hv
     generalize hA2 : (es.take i).map (fun e => (Bv sg e).d) ++ (es.drop i).map Entry.d = A at hv1 hst
     have hal : A.length = es.length := by rw [← hA2]; simp; omega
     by_cases hc : sg = false ∧ e.count < 0
     · obtain ⟨rfl, hc⟩ := hc
       have he : Bv false e = ⟨e.row, -e.count⟩ := if_pos ⟨rfl, hc⟩
       simp only [he] at hst
       repeat' first | refine kz ?_ | refine AX hv1 ?_ | refine Aw ?_ | refine kg ?_ ?_ | exact k0 | refine Ab ?_ | refine m1 ?_ ?_
       apply Ad (i + 1) <;> (try dsimp only) <;> try repeat' first | exact k0 | refine kw ?_ | refine kv ?_ ?_ | omega
       exact hst
     · have he : Bv sg e = e := if_neg hc
       simp only [he] at hst
       rw [OA hv1] at hst
       cases sg with
       | true =>
         repeat' first | refine kz ?_ | refine AX hv1 ?_ | refine Aw ?_ | refine kg ?_ ?_ | exact k0 | refine Ab ?_ | refine m1 ?_ ?_
         apply Ad (i + 1) <;> (try dsimp only) <;> try repeat' first | exact k0 | refine kw ?_ | refine kv ?_ ?_ | omega
       | false =>
         have hc : ¬ e.count < 0 := fun h => hc ⟨rfl, h⟩
         repeat' first | refine kz ?_ | refine AX hv1 ?_ | refine Aw ?_ | refine kg ?_ ?_ | exact k0 | refine Ab ?_ | refine m1 ?_ ?_
         apply Ad (i + 1) <;> (try dsimp only) <;> try repeat' first | exact k0 | refine kw ?_ | refine kv ?_ ?_ | omega
   · rw [Ao (show es.length ≤ i by omega), Sd (by omega), List.map_nil, List.append_nil, show (es.map fun e => (Bv sg e).d) = (es.map (Bv sg)).map Entry.d by rw [Ve]; rfl]
     have hl1 : (es.map (Bv sg)).length = es.length := by simp
     have hl2 : ((es.map (Bv sg)).map Entry.d).length = es.length := by simp
     repeat' (first | refine Bc 9 ?_ (hes := f9) | refine kz ?_ | refine Ah [] (hR) ?_ | refine Bb Ae ?_ ?_ | exact k0 | refine Ab ?_ | refine m1 ?_ ?_))
end Go.Proofs.YtmpgmjlanngkfaaGreat
end
section
namespace Go.Proofs.YtmpgmjlanngkfaaGreat
open Go.Abs Go.RowKit
set_option linter.unusedSimpArgs false
set_option maxRecDepth 100000
variable {A B N : Nat} {a b l r : List Entry} {on : List (Int × Int)} {v : Vw}
theorem QI {f : List Val → Int} (hf : ∀ r, 0 ≤ f r) (h : Ap l = true) : 0 ≤ wS f l := by
 have h : ∀ e ∈ l, 0 ≤ e.count := fun e he => by
   unfold Ap at h
   rw [Bi, CN] at h
   exact of_decide_eq_true (h.2 e he)
 induction l with
 | nil => exact WT _
 | cons e l ih =>
   have h1 := XT (h e (by simp)) (hf e.row)
   have h2 : ∀ e ∈ l, 0 ≤ e.count := fun x hx => h x (by simp [hx])
   rw [wS]
   have h3 : ∀ {l : List Entry}, (∀ e ∈ l, 0 ≤ e.count) → 0 ≤ wS f l := fun {l} h => by
    induction l with
    | nil => exact WT _
    | cons e l ih =>
      have h1 := XT (h e (by simp)) (hf e.row)
      have h2 := ih fun x hx => h x (by simp [hx])
      rw [wS]; omega
   have := h3 h2
   omega
theorem Zp (v : Aj b = true) (h : ∀ g : List Val → Int, (∀ r, 0 ≤ g r) → 0 ≤ wS g b) : Ap b = true :=
 Ng (a := b) (d := []) v (fun g => by simp [wS]) fun g hg => by have := h g hg; simp [wS]; exact this
def R6 (on : List (Int × Int)) (a b : List Entry) (g : List Val → Int) : Int := wS (fun s => wS (fun t => if Dm s t on then g (s ++ t) else 0) b) a
theorem bx {s d : List Entry} (h : ∀ g, wS g s = wS g a + wS g d) (g : List Val → Int) : R6 on s b g = R6 on a b g + R6 on d b g := h _
theorem XK {s d : List Entry} (h : ∀ g, wS g s = wS g a + wS g d) (g : List Val → Int) : R6 on b s g = R6 on b a g + R6 on b d g := by
 unfold R6
 rw [← Y2]
 exact UQ fun e _ => h _
theorem QJ {w1 w2 : Nat} (ha : Tiny A w1 a) (hb : Tiny B w2 b) (on : List (Int × Int)) (h1 : w1 ≤ 8) (h2 : w2 ≤ 8) (hn : A * B ≤ 4096) : ∃ j, Fi a b on = (j, 0) ∧ Tiny (A * B) (w1 + w2) j ∧ ∀ g, wS g j = R6 on a b g := by
 obtain ⟨e, t⟩ := Z9 ha hb on h1 h2 hn
 have hp := Jt (on := on) ha.rows hb.rows (by omega)
 refine ⟨_, by unfold Fi; rw [e]; rfl, t, fun g => ?_⟩
 rw [Kh _ _ fun x hx => A8 (hp x hx).1, Q6]; rfl
theorem Zq (pa : Ap a = true) (pb : Ap b = true) {g : List Val → Int} (hg : ∀ r, 0 ≤ g r) : 0 ≤ R6 on a b g :=
 QI (fun s => QI (fun t => by split <;> first | exact hg _ | exact WT _) pb) pa
theorem WI {dl dr : List Entry} {D E : Nat} (hl : Tiny A 3 l) (hr : Tiny B 2 r) (hdl : Tiny D 3 dl) (hdr : Tiny E 2 dr) (on : List (Int × Int)) (hn : D * B + A * E + D * E ≤ 4096) :
  ∃ c, Sa Fi on [(dl, r), (l, dr), (dl, dr)] [] = (c, 0) ∧ Tiny (D * B + A * E + D * E) 5 c ∧ ∀ g, wS g c = R6 on dl r g + R6 on l dr g + R6 on dl dr g := by
 obtain ⟨j1, e1, t1, g1⟩ := QJ hdl hr on (by omega) (by omega) (by omega)
 obtain ⟨j2, e2, t2, g2⟩ := QJ hl hdr on (by omega) (by omega) (by omega)
 obtain ⟨j3, e3, t3, g3⟩ := QJ hdl hdr on (by omega) (by omega) (by omega)
 obtain ⟨s1, a1, u1, k1⟩ := Ks (FB 5) t1 (by omega)
 obtain ⟨s2, a2, u2, k2⟩ := Ks u1 t2 (by omega)
 obtain ⟨s3, a3, u3, k3⟩ := Ks u2 t3 (by omega)
 refine ⟨s3, ?_, Ik u3 (by omega), fun g => ?_⟩
 ·rw [Sa]
  dsimp only
  rw [e1, if_pos rfl]
  dsimp only
  rw [a1, if_pos rfl, Sa]
  dsimp only
  rw [e2, if_pos rfl]
  dsimp only
  rw [a2, if_pos rfl, Sa]
  dsimp only
  rw [e3, if_pos rfl]
  dsimp only
  rw [a3, if_pos rfl, Sa]
 ·rw [k3, k2, k1, g1, g2, g3]
  show (0 : Int) + _ + _ + _ = _
  omega
theorem PF {n : Nat} (h : TinV n b) : TinV n (BO b) := by
 unfold BO
 rw [if_pos h.v]
 have hs := AY h.v
 obtain ⟨hl, hm⟩ := AF h.v
 have hmem : ∀ e ∈ Fm b, e.count = 1 ∧ ∃ f ∈ b, f.row = e.row ∧ 0 < f.count := fun e he => by
  unfold Fm at he
  obtain ⟨f, hf, rfl⟩ := List.mem_map.1 he
  obtain ⟨h1, h2⟩ := Ms.1 hf
  exact ⟨rfl, f, h1, rfl, of_decide_eq_true h2⟩
 have hlen : (Fm b).length ≤ b.length := by
  unfold Fm
  rw [BQ]
  exact Sl ..
 have hup : (Fm b).Pairwise eR := by
  unfold Fm
  rw [XQ]
  exact hs.up.filter _
 refine ⟨?_, ?_⟩
 ·simp only [Aj, Bi, decide_eq_true_eq]
  refine ⟨LF hlen hl, D7 (fun e he => ?_) hup (by simp)⟩
  obtain ⟨h1, f, hf, hr, _⟩ := hmem e he
  have := (hm f hf).1
  simp [Entry.ok, Av, ← hr, this, h1]
 ·have h1 : A9 (Fm b) ≤ 1 * (Fm b).length := I5 fun e he => by rw [(hmem e he).1]; exact Nat.le_refl _
  have h2 := h.len9
  omega
theorem Kj (hv : v.ok) (hk : v.kind ≠ 2) {j : List Entry} {n w : Nat} (hj : Tiny n w j) (pj : Ap j = true) (hn : n ≤ 4096) : ∃ o, Mp groupE v j = (o, 0) ∧ TinV n o := by
 obtain ⟨tw, _⟩ := VM hj v.wher
 have hfit := hv.fits
 unfold Mp
 by_cases h1 : v.kind = 1
 ·rw [if_pos h1]
  have pw : Ap (BE j v.wher) = true := by
   rw [BE, hj.v, if_pos rfl]
   exact Pt _ pj
  rw [Ps pw hfit]
  exact ⟨_, rfl, (Tj (ag := v.aggs) (keys := v.items) tw hn hfit).tv⟩
 ·rw [if_neg h1]
  obtain ⟨m, m1, tm, _⟩ := ad tw (v.items.map Itm.expr) (by rw [BQ]; have := hv.items; omega) hn
  rw [m1, if_pos rfl]
  split
  ·exact ⟨_, rfl, PF tm.tv⟩
  ·exact ⟨_, rfl, tm.tv⟩
noncomputable def cntW (v : Vw) (l r : List Entry) : List Entry := if v.kind = 2 then (Ba 1 l r).1 else (Mp groupE v (Mn Fi v l r).1).1
theorem Kl (hl : Tiny A 3 l) (hr : Tiny B 2 r) (pl : Ap l = true) (pr : Ap r = true) (h1 : A ≤ N) (h2 : A * B ≤ N) (hN : N ≤ 4096) : ∃ j w, Mn Fi v l r = (j, 0) ∧ Tiny N w j ∧ Ap j = true ∧ (BH v = false → Fi l r v.on = (j, 0) ∧ Tiny (A * B) 5 j ∧ ∀ g, wS g j = R6 v.on l r g) ∧ (BH v = true → j = l) := by
 unfold Mn
 cases he : BH v
 ·obtain ⟨j, e, t, g⟩ := QJ hl hr v.on (by omega) (by omega) (by omega)
  refine ⟨j, 5, by rw [if_neg (by decide), e], Ik t h2, Zp t.v fun f hf => by rw [g]; exact Zq pl pr hf, fun _ => ⟨e, t, g⟩, fun h => by cases h⟩
 ·exact ⟨l, 3, by rw [if_pos rfl], Ik hl h1, pl, fun h => (by cases h), fun _ => rfl⟩
theorem PG (hv : v.ok) (j : List Entry) : PC 42 [.agg v.d, .one (Am j)] (Bt (Mp groupE v j)) :=
 OJ groupE v j (by have := hv.items; omega) fun _ => Vq _ _ _ (by have := hv.items; omega) (by have := hv.aggs; omega)
theorem UU (hv : v.ok) (l r : List Entry) : PC 41 [.agg v.d, .one (Am l), .one (Am r)] (Bt (Mn Fi v l r)) :=
 Gj Fi v l r fun _ => O2 l r v.on (by have := hv.onl; omega)
theorem Zr (hv : v.ok) (j l r dl dr : List Entry) : PC 55 [.agg v.d, .one (Am j), .one (Am l), .one (Am r), .one (Am dl), .one (Am dr)] (Bt (R7 Fi (Sa Fi v.on [(dl, r), (l, dr), (dl, dr)] []) v j l r dl dr)) :=
 Gi Fi _ v j l r dl dr (fun _ => O2 _ _ v.on (by have := hv.onl; omega)) fun _ => Mo Fi v l r dl dr fun p _ => O2 p.1 p.2 v.on (by have := hv.onl; omega)
theorem OD (hv : v.ok) : GM v = true := by
 rcases hv.kind with h | h | h <;> simp [GM, h]
theorem Eh (hv : v.ok) (hl : Tiny A 3 l) (hr : Tiny B 2 r) (pl : Ap l = true) (pr : Ap r = true) (h1 : A + B ≤ N) (h2 : A * B ≤ N) (hN : N ≤ 4096) :
  TinV N (cntW v l r) ∧ PC 17 [.agg v.d, .one (Am l), .one (Am r)] (Bt (cntW v l r, 0)) := by
 have hd : BY v l r = true := by unfold BY; rw [OD hv, pl, pr]; cases Di v <;> rfl
 have h := OH v l r (Mn Fi v l r) (Mp groupE v (Mn Fi v l r).1) (fun _ => UU hv l r) fun _ => PG hv _
 rw [hd] at h
 unfold WJ at h
 rw [if_pos rfl] at h
 unfold cntW
 by_cases hk : v.kind = 2
 ·obtain ⟨s, e, t, _, _⟩ := Kr hl.tv hr.tv (by omega)
  rw [if_pos hk, e] at h ⊢
  exact ⟨Sb t h1, h⟩
 ·obtain ⟨j, w, e, t, pj, _, _⟩ := Kl (v := v) hl hr pl pr (show A ≤ N by omega) h2 hN
  obtain ⟨o, eo, to⟩ := Kj hv hk t pj hN
  rw [if_neg hk, e] at h ⊢
  dsimp only at h ⊢
  rw [eo] at h ⊢
  rw [if_pos rfl] at h
  exact ⟨to, h⟩
theorem Ei (hv : v.ok) {dl dr l2 r2 : List Entry} {D E M : Nat} (hl : Tiny A 3 l) (hr : Tiny B 2 r) (hdl : Tiny D 3 dl) (hdr : Tiny E 2 dr) (pl : Ap l = true) (pr : Ap r = true)
  (f1 : Dj l dl = (l2, 0)) (t1 : Tiny (A + D) 3 l2) (p1 : Ap l2 = true) (w1 : ∀ g, wS g l2 = wS g l + wS g dl) (f2 : Dj r dr = (r2, 0)) (t2 : Tiny (B + E) 2 r2) (p2 : Ap r2 = true) (w2 : ∀ g, wS g r2 = wS g r + wS g dr)
  (h1 : A + B ≤ N) (h2 : A * B ≤ N) (h3 : A + D + (B + E) ≤ M) (h4 : (A + D) * (B + E) ≤ M) (hN : M + N ≤ 4096) :
  ∃ x, TinV (M + N) x ∧ (∀ g, wS g x = wS g (cntW v l2 r2) - wS g (cntW v l r)) ∧ PC 18 [.agg v.d, .one (Am l), .one (Am r), .one (Am dl), .one (Am dr)] (Bt (x, 0)) := by
 have hd : BY v l r = true := by unfold BY; rw [OD hv, pl, pr]; cases Di v <;> rfl
 obtain ⟨tc, _⟩ := Eh hv hl hr pl pr h1 h2 (by omega)
 obtain ⟨tp, _⟩ := Eh hv t1 t2 p1 p2 h3 h4 (by omega)
 obtain ⟨x, x1, x2, _, x4⟩ := bB tp tc hN
 refine ⟨x, x2, x4, ?_⟩
 by_cases hk : v.kind = 2
 ·have h := R9 v l r dl dr hk
  have hu : Di v = true := by simp [Di, hk]
  have hc : C4 v l r dl dr = (l2, r2, 0) := by
    unfold C4
    rw [f1, f2, if_pos ⟨rfl, hu⟩]
  obtain ⟨s, e, _, _, _⟩ := Kr hl.tv hr.tv (by omega)
  obtain ⟨s2, e2, _, _, _⟩ := Kr t1.tv t2.tv (by omega)
  have hq : OE v l r dl dr = (cntW v l r, cntW v l2 r2, 0) := by
    unfold OE cntW
    rw [hc, if_pos hk, if_pos hk, e, if_pos rfl, if_pos rfl]
    dsimp only
    rw [e2]
  rw [hd, hq, OG, if_pos rfl, if_pos rfl] at h
  dsimp only at h
  rw [x1] at h
  exact h
 ·obtain ⟨j, w, e, t, pj, hj1, hj2⟩ := Kl (v := v) hl hr pl pr (show A ≤ N by omega) h2 (by omega)
  obtain ⟨j2, w', e', t', pj', hj3, hj4⟩ := Kl (v := v) t1 t2 p1 p2 (show A + D ≤ M by omega) h4 (by omega)
  obtain ⟨o, eo, _⟩ := Kj hv hk t pj (by omega)
  obtain ⟨p, ep, _⟩ := Kj hv hk t' pj' (by omega)
  have hjc : R7 Fi (Sa Fi v.on [(dl, r), (l, dr), (dl, dr)] []) v j l r dl dr = (j2, 0) := by
    unfold R7
    cases he : BH v
    ·have hu : Di v = true := by simp [Di, he]
     have hc : C4 v l r dl dr = (l2, r2, 0) := by
      unfold C4
      rw [f1, f2, if_pos ⟨rfl, hu⟩]
     rw [hc, if_pos ⟨rfl, rfl⟩]
     obtain ⟨_, tj, gj⟩ := hj1 he
     obtain ⟨_, tj2, gj2⟩ := hj3 he
     have hmul : (A + D) * (B + E) = A * B + (D * B + A * E + D * E) := by rw [EO, Nat.mul_add, Nat.mul_add]; omega
     obtain ⟨c, ec, tcc, gc⟩ := WI hl hr hdl hdr v.on (by omega)
     rw [ec, if_pos rfl]
     dsimp only
     obtain ⟨s, es, ts, gs⟩ := Ks tj tcc (by omega)
     rw [es, Hv ts.v tj2.v fun g => by rw [gs, gj, gc, gj2, bx w1, XK w2, XK w2]; omega]
    ·rw [bz l r dl dr hk he, if_neg (by simp), f1, hj4 he]
  have hs := UU hv l r
  rw [e] at hs
  have ho := PG hv j
  rw [eo] at ho
  have hj := Zr hv j l r dl dr
  rw [hjc] at hj
  have hp := PG hv j2
  rw [ep] at hp
  have h := Kn v l r dl dr _ fun _ => IG v l r dl dr (j, 0) (o, 0) (j2, 0) (p, 0) hk hs ho hj hp
  have c1 : cntW v l r = o := by unfold cntW; rw [if_neg hk, e, eo]
  have c2 : cntW v l2 r2 = p := by unfold cntW; rw [if_neg hk, e', ep]
  rw [hd, show OG true (Lz (j, 0) (o, 0) (j2, 0) (p, 0)) = Ba (-1) p o from rfl, ← c1, ← c2, x1] at h
  exact h
end Go.Proofs.YtmpgmjlanngkfaaGreat
end
