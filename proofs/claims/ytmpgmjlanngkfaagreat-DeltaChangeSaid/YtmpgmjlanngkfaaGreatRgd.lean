/-
  Aggregates, the document's: Group.
-/
import Derived.Test.YtmpgmjlanngkfaaGreatJod
import Derived.Test.YtmpgmjlanngkfaaGreatExn
import Derived.Test.YtmpgmjlanngkfaaGreatRej
import Derived.Test.YtmpgmjlanngkfaaGreatOpa
import Derived.Test.YtmpgmjlanngkfaaGreatTypes
import Derived.Test.YtmpgmjlanngkfaaGreatNrm
section
namespace Go.Proofs.YtmpgmjlanngkfaaGreat
open Go.Abs Go.RowKit
attribute [local irreducible] ARun Av MCall PCall HCall Ap SF CF CFs Ag Ai As fin AY VLe
set_option linter.unusedSimpArgs false
set_option maxRecDepth 100000
set_option maxHeartbeats 4000000
theorem MR (code : Bs) (st : List Lev) (s r : List (Bs × Int)) (jK : List Lev) (s' r' : List (Bs × Int)) (h : closeE code st.reverse s r = some (jK.reverse, s', r')) (kp : st.length ≤ 100000) (kS : ∀ l ∈ st, l.opened.length ≤ 100000) (hr : r.length ≤ 4096) :
  HC 195 [.c (.bp 0 0 0), .c (.d (Dq code))] (jm st s r) (.c (.d (.lit (.bool true)))) (gu jK s' r') := by
 by_cases hc : code = []
 ·subst hc; exact Uj st s r jK s' r' h kp kS hr
 ·exact WT code hc st s r jK s' r' h kp kS hr
theorem MS (code : Bs) (st : List Lev) (s r : List (Bs × Int)) (h : closeE code st.reverse s r = none) (kp : st.length ≤ 100000) (kS : ∀ l ∈ st, l.opened.length ≤ 100000) (hr : r.length ≤ 4096) :
  HC 195 [.c (.bp 0 0 0), .c (.d (Dq code))] (jm st s r) (.c (.d (.lit (.bool false)))) [.dead, .dead, .dead, .dead] := by
 by_cases hc : code = []
 ·subst hc; exact Uk st s r h kp kS hr
 ·exact WU code hc st s r h kp kS hr
def A8 (x : Bs × Int) (q : List Bs × List (Bs × Int)) (y : Bs × Int) : List Bs × List (Bs × Int) :=
 (if RI (x.1 ++ y.1) q.2 then q.1 else q.1 ++ [x.1 ++ y.1], RJ (x.1 ++ y.1) (Li (x.1 ++ y.1) q.2 + x.2 * y.2) q.2)
def b7 (M : Int) (s : List (Bs × Int)) : Prop := ∀ e ∈ s, -M ≤ e.2 ∧ e.2 ≤ M
theorem WV (a b : Bs) : (⟨a.toArray⟩ : ByteArray) ++ (⟨b.toArray⟩ : ByteArray) = ⟨(a ++ b).toArray⟩ := by
 apply ByteArray.ext
 simp
theorem P6 (x : Bs × Int) (q : List Bs × List (Bs × Int)) (y : Bs × Int) : (A8 x q y).1.length ≤ q.1.length + 1 := by
 unfold A8
 split <;> simp
theorem JU {x : Bs × Int} {q : List Bs × List (Bs × Int)} {y : Bs × Int} {M K : Int} (h : b7 M q.2) (hk : -K ≤ x.2 * y.2 ∧ x.2 * y.2 ≤ K) (hM : 0 ≤ M) : b7 (M + K) (A8 x q y).2 := by
 unfold A8
 rcases Cd (x.1 ++ y.1) q.2 with ⟨i, v, g1, g2, _, _, g5⟩ | ⟨_, g2, _, _, g5⟩
 ·have hv := h _ (Cb g1)
  simp only [g5, g2]
  intro e he
  rcases aP he with he | rfl
  ·have := h e he; omega
  ·simp only at hv ⊢; omega
 ·simp only [g5, g2]
  intro e he
  rcases EY.1 he with he | he
  ·have := h e he; omega
  ·obtain rfl := Ke.1 he
   simp only; omega
theorem b8 (x : Bs × Int) (ps : List (Bs × Int)) (st : List Lev) (s r : List (Bs × Int)) (h : closeE x.1 st.reverse s r = none) (kp : st.length ≤ 100000) (kS : ∀ l ∈ st, l.opened.length ≤ 100000) (hr : r.length ≤ 4096) :
  HC 194 [.c (.bp 0 0 0), .agg ((Hv x).map .d), .c (.d (.sl (ps.map Hv)))] (jm st s r) (.c (.d (.lit (.bool false)))) [.dead, .dead, .dead, .dead] := by
 have jz := MS x.1 st s r h kp kS hr
 refine Au hT Tryz.func194 Tryz.ntmps194 [.tmp 6] fun B => ?_
 repeat' first | refine kz ?_ | refine Ae [0, 1, 2, 3] (jz) ?_ | refine kg ?_ ?_ | exact k0 | refine Ab ?_
theorem b9 (u : Bs × Int) (ps : List (Bs × Int)) (st : List Lev) (s r : List (Bs × Int)) (jK : List Lev) (s' r' : List (Bs × Int)) (h : closeE u.1 st.reverse s r = some (jK.reverse, s', r')) (kp : st.length ≤ 100000) (zT : jK.length ≤ 100000) (kS : ∀ l ∈ st, l.opened.length ≤ 100000) (hr : r.length ≤ 4096)
  (mF : ps.length ≤ 100000) (M : Int) (hM : 0 ≤ M) (hb : b7 M s') (hk : ∀ y ∈ ps, -68719476736 ≤ u.2 * y.2 ∧ u.2 * y.2 ≤ 68719476736) (hMb : M + 68719476736 * ps.length ≤ 2305843009213693952) (oJ : u.1.length ≤ 100000) (mO : ∀ y ∈ ps, y.1.length ≤ 100000) :
  HC 194 [.c (.bp 0 0 0), .agg ((Hv u).map .d), .c (.d (.sl (ps.map Hv)))] (jm st s r) (.c (.d (.lit (.bool true)))) (gu (jK ++ [⟨u.1, (ps.foldl (A8 u) ([], s')).1⟩]) (ps.foldl (A8 u) ([], s')).2 r') := by
 have jz := MR u.1 st s r jK s' r' h kp kS hr
 refine Au hT Tryz.func194 Tryz.ntmps194 [.tmp 6] fun B => ?_
 repeat' first | refine kz ?_ | refine Ao ?_ | refine Ae [0, 1, 2, 3] (jz) ?_ | refine kg ?_ ?_ | exact k0 | refine Ab ?_ | refine m1 ?_ ?_ | refine m2 ?_ ?_
 refine Bv 7 9 1 ?_
 refine AK (X := Nat × List Bs × List (Bs × Int) × Nat) ([7] ++ List.range' 9 4 ++ List.range' 20 37) (fun x => x.1 ≤ ps.length ∧ (ps.take x.1).foldl (A8 u) ([], s') = (x.2.1, x.2.2.1) ∧ x.2.1.length ≤ x.1 ∧ b7 (M + 68719476736 * x.1) x.2.2.1) (fun x lz => (7, .c (.arr 5 x.2.2.2 x.2.1.length)) :: (20, (iC x.1)) :: lz) (fun x => [.box 0 [.arr 1 2 jK.length, .mp 2 0, .arr 3 2 r'.length], .arr 2 232 2 (jK.map Lev.d), .mapb 0 9 2 (x.2.2.1.map Lh), .arr 2 200 2 (r'.map Hv), .box 1 [.d (Dq u.1), .d (.lit (.int .i64 u.2))], .arr x.2.2.2 9 1 (x.2.1.map fun c => [Dq c])]) (fun x => ps.length - x.1) ((0, [], s', 3)) ?_ ?_ ?_ ?_
 repeat' first | exact k0 | refine kw ?_ | refine kv ?_ ?_ | omega
 ·exact ⟨by omega, by simp, by simp, by simpa using hb⟩
 rintro ⟨i, op, s1, k5⟩ c ⟨hi, hinv, mP, lS⟩
 dsimp only at hi hinv mP lS ⊢
 by_cases i7 : i < ps.length
 ·have hv : ps[i]? = some ps[i] := Bo i7
  have r9 := hk _ (Fo i7)
  have wA := mO _ (Fo i7)
  generalize ps[i] = y at hv r9 wA
  have ju : (ps.take (i + 1)).foldl (A8 u) ([], s') = A8 u (op, s1) y := by rw [Gm, hv, List.foldl_append, hinv]; rfl
  have lC := JU (x := u) (q := (op, s1)) (y := y) (K := 68719476736) lS r9 (by omega)
  have mA := WV u.1 y.1
  have zU := Ft u.1
  have zV := Ft y.1
  have qg : -(M + 68719476736 * i) - 1 ≤ Li (u.1 ++ y.1) s1 ∧ Li (u.1 ++ y.1) s1 ≤ M + 68719476736 * i + 1 := by
    rcases Cd (u.1 ++ y.1) s1 with ⟨j, v, g1, g2, _⟩ | ⟨_, g2, _⟩
    ·have := lS _ (Cb g1); simp only at this; rw [g2]; omega
    ·rw [g2]; omega
  have hmi : M + 68719476736 * i ≤ 2305843009213693952 := by omega
  unfold A8 at ju lC
  rcases Cd (u.1 ++ y.1) s1 with ⟨j, v, g1, g2, g3, _, g5⟩ | ⟨g1, g2, g3, _, g5⟩
  · rw [g2] at qg
    simp only [g2, g3, g5, if_true] at ju lC
    have rX := BA g1
    rw [← mA] at rX
    repeat' first | refine kz ?_ | refine AF hv ?_ | refine Ao ?_ | refine Xd rX ⟨_, rfl⟩ (AS _) ?_ | refine UC rX ⟨_, rfl⟩ (AS _) ?_ | refine kg ?_ ?_ | exact k0 | refine Ab ?_ | refine m1 ?_ ?_ | refine m2 ?_ ?_
    rw [mA, YT]
    generalize s1.set j (u.1 ++ y.1, v + u.2 * y.2) = s4 at ju lC ⊢
    apply Af ((i + 1, op, s4, k5)) <;> (try dsimp only) <;> try repeat' first | exact k0 | refine kw ?_ | refine kv ?_ ?_ | omega
    exact ⟨by omega, ju, by omega, by have := lC; rw [show M + 68719476736 * (i : Int) + 68719476736 = M + 68719476736 * ((i + 1 : Nat) : Int) by omega] at this; exact this⟩
  · rw [g2] at qg
    simp only [g2, g3, g5, if_false, Bool.false_eq_true] at ju lC
    have rX := Er g1
    rw [← mA] at rX
    have qo : op.length + [[Dat.lit (Value.string ⟨(u.1 ++ y.1).toArray⟩)]].length = (op ++ [u.1 ++ y.1]).length := by simp
    have oH : (op.map fun c => [Dq c]) ++ [[Dat.lit (Value.string ⟨(u.1 ++ y.1).toArray⟩)]] = (op ++ [u.1 ++ y.1]).map fun c => [Dq c] := by rw [Ag']; rfl
    repeat' first | refine kz ?_ | refine AF hv ?_ | refine Ao ?_ | refine UA rX ⟨_, rfl⟩ (AS _) ?_ | refine UB rX ⟨_, rfl⟩ (AS _) ?_ | refine kg ?_ ?_ | exact k0 | refine Ab ?_ | refine m1 ?_ ?_ | refine m2 ?_ ?_
    rw [mA, WW, oH, qo]
    have wB : (op ++ [u.1 ++ y.1]).length ≤ i + 1 := by simp; omega
    generalize s1 ++ [(u.1 ++ y.1, 0 + u.2 * y.2)] = s4 at ju lC ⊢
    generalize op ++ [u.1 ++ y.1] = zW at ju wB ⊢
    apply Af ((i + 1, zW, s4, c + 2)) <;> (try dsimp only) <;> try repeat' first | exact k0 | refine kw ?_ | refine kv ?_ ?_ | omega
    exact ⟨by omega, ju, by omega, by have := lC; rw [show M + 68719476736 * (i : Int) + 68719476736 = M + 68719476736 * ((i + 1 : Nat) : Int) by omega] at this; exact this⟩
 ·have k8 : i = ps.length := by omega
  subst k8
  rw [Ir] at hinv
  rw [hinv]
  repeat' first | refine Ax 7 ?_ (j6 := show (op.map fun c => [Dq c]).take op.length = op.map fun c => [Dq c] from JF (by simp)) | refine kz ?_ | refine Ao ?_ | refine AO Ad ?_ ?_ | exact k0 | refine Ab ?_ | refine m1 ?_ ?_ | refine m2 ?_ ?_
  · simp only [CR, Tm]; rfl
  · rw [Ag']; rfl
end Go.Proofs.YtmpgmjlanngkfaaGreat
end
section
namespace Go.Proofs.YtmpgmjlanngkfaaGreat
open Go.Abs Go.RowKit
set_option linter.unusedSimpArgs false
set_option maxRecDepth 100000
variable {L L' : List (Val × Int)} {b : List Entry} {key : List Val} {keys : List Itm}
theorem LC (h : L.Perm L') : Dx L = Dx L' := EJ h
theorem UQ (h : L.Perm L') : Gz L = Gz L' := EJ h
theorem UR (h : L.Perm L') : Gn L = Gn L' := EJ h
theorem LD (h : L.Perm L') : (Cj L).Perm (Cj L') := h.filter _
theorem F8 (h : L.Perm L') (hp : Ea L) (hc : UL L) {i : Int} (h0 : 0 ≤ i) (h1 : i < Dx (Cj L)) : Cs (ascE L) i = Cs (ascE L') i := by
 have qc : (ascE L).Perm (ascE L') := (Cv L).trans ((LD h).trans (Cv L').symm)
 refine OS (KI L) (KI L') (fun x hx => hp x (L1.1 ((Cv L).mem_iff.1 hx)).1) qc (fun x hx => hc x (L1.1 ((Cv L).mem_iff.1 hx)).1) h0 ?_
 rw [LC (Cv L)]; exact h1
theorem R0 (h : L.Perm L') (hp : Ea L) (hc : UL L) (f : Int) : foldE f L = foldE f L' := by
 have hP : Ea (Cj L) := fun x hx => hp x (L1.1 hx).1
 have e1 := LC h
 have e2 := UR h
 have e3 := UQ h
 have e4 := LC (LD h)
 have e5 : Cj L = [] ↔ Cj L' = [] := by
  have := (LD h).length_eq
  rw [← XR, ← XR, this]
 unfold foldE
 rw [← e1, ← e2, ← e3, ← e4]
 by_cases hn : Cj L = []
 ·have lX := e5.1 hn
  rw [if_pos hn, if_pos hn, if_pos hn, if_pos lX, if_pos lX, if_pos lX]
 ·have lX : ¬ Cj L' = [] := fun q => hn (e5.2 q)
  have jD := Ix hP hn
  rw [if_neg hn, if_neg hn, if_neg hn, if_neg lX, if_neg lX, if_neg lX, F8 h hp hc (i := 0) (by omega) (by omega), F8 h hp hc (i := Dx (Cj L) - 1) (by omega) (by omega), F8 h hp hc (i := (Dx (Cj L) - 1) / 2) (by omega) (by omega)]
theorem R1 (h : Dx L = Dx L') : foldE 0 L = foldE 0 L' := by
 unfold foldE; rw [if_pos rfl, if_pos rfl, h]
def ak (ex : List Trm) (e : Entry) : Val × Int := (EC ex e.row, e.count)
theorem cv (ex : List Trm) (l : List Entry) : Dp (l.map (LB ex)) = l.map (ak ex) := by
 unfold Dp; rw [Sc]; rfl
theorem Xv (p : Entry → Bool) (ex : List Trm) (b : List Entry) : (Dp (EU p (LB ex) b)).Perm ((b.filter p).map (ak ex)) := by
 rw [← cv]; exact (Jx p (LB ex) b).2.map _
theorem cw (hc : AE key) : b.filter (kP keys key) = b.filter (Re (AQ keys) key) := by
 refine List.filter_congr fun e he => ?_
 have h1 := He (b := b) (kf := AQ keys) (fun e _ => B4 keys e.row) he hc
 rw [Q2, h1]
 exact R3
theorem Nb (ex : List Trm) (e : Entry) : (ak ex e).1.valid = true := Ho ..
theorem cx {ex : List Trm} {es : List Entry} (hl : es.length ≤ 4096) (hc : ∀ e ∈ es, -262144 ≤ e.count ∧ e.count ≤ 262144) : Nv (es.map (ak ex)) := by
 refine ⟨by rw [BR]; exact hl, fun y hy => ?_⟩
 obtain ⟨e, he, rfl⟩ := List.mem_map.1 hy
 exact ⟨Mn (Nb ex e), hc e he⟩
theorem cy {ex : List Trm} {es : List Entry} (hc : ∀ e ∈ es, 0 < e.count) : Ea (es.map (ak ex)) := fun y hy => by
 obtain ⟨e, he, rfl⟩ := List.mem_map.1 hy
 exact hc e he
theorem cz (ex : List Trm) (es : List Entry) : UL (es.map (ak ex)) := fun y hy => by
 obtain ⟨e, he, rfl⟩ := List.mem_map.1 hy
 unfold Val.clean
 rw [if_pos (Nb ex e)]
theorem Xw (h : L.Perm L') (hb : Nv L') : Nv L := ⟨by rw [h.length_eq]; exact hb.1, fun x hx => hb.2 x (h.mem_iff.1 hx)⟩
theorem Xx (p : Entry → Bool) (ex : List Trm) (b : List Entry) : NA (Dp (EU p (LB ex) b)) := by
 obtain ⟨h1, h2⟩ := Jx p (LB ex) b
 unfold NA Dp
 rw [dY]
 refine List.Pairwise.imp_of_mem (fun {x y} hx hy h => ?_) h1
 obtain ⟨a, _, rfl⟩ := List.mem_map.1 (h2.mem_iff.1 hx)
 obtain ⟨c, _, rfl⟩ := List.mem_map.1 (h2.mem_iff.1 hy)
 intro q
 refine h ?_
 have q : (EC ex c.row).cmp (EC ex a.row) < 0 := q
 show Aj [EC ex c.row] [EC ex a.row] < 0
 rw [Aj]
 split <;> first | exact q | (exfalso; omega)
theorem QD (hc : AE key) (hl : b.length ≤ 4096) (hb : ∀ e ∈ b, -262144 ≤ e.count ∧ e.count ≤ 262144) (ex : List Trm) :
  Nv (Dp (EU (kP keys key) (LB ex) b)) ∧ NA (Dp (EU (kP keys key) (LB ex) b)) ∧ UL (Dp (EU (kP keys key) (LB ex) b)) ∧ (Dp (EU (kP keys key) (LB ex) b)).Perm ((b.filter (Re (AQ keys) key)).map (ak ex)) := by
 have h := Xv (kP keys key) ex b
 rw [cw hc] at h
 refine ⟨Xw h (cx (LX (Q1 _ _) hl) fun e he => hb e (L1.1 he).1), Xx .., fun x hx => cz ex _ x (h.mem_iff.1 hx), h⟩
theorem Xy (hc : AE key) (hl : b.length ≤ 4096) (hb : ∀ e ∈ b, -262144 ≤ e.count ∧ e.count ≤ 262144) (hp : ∀ e ∈ b, 0 < e.count) (x : Agg) :
  Ea (Dp (EU (kP keys key) (LB x.expr) b)) ∧ foldE x.func (Dp (EU (kP keys key) (LB x.expr) b)) = foldE x.func (CG x (b.filter (Re (AQ keys) key))) := by
 obtain ⟨h1, h2, h3, h4⟩ := QD (keys := keys) hc hl hb x.expr
 have hP : Ea (Dp (EU (kP keys key) (LB x.expr) b)) := fun y hy => cy (ex := x.expr) (fun e he => hp e (L1.1 he).1) y (h4.mem_iff.1 hy)
 refine ⟨hP, ?_⟩
 rw [R0 h4 hP h3]
 by_cases hf : x.func = 0
 ·rw [hf]
  refine R1 ?_
  unfold Dx CG
  rw [Sc, Sc]; rfl
 ·congr 1
  unfold CG
  refine dE fun e _ => ?_
  unfold X7 ak
  rw [if_neg hf]
end Go.Proofs.YtmpgmjlanngkfaaGreat
end
section
namespace Go.Abs
open Go.RowKit
section
variable {P : Program} {T : TypeId → Option TI} {F0 : Nat → Prop} {w0 : World}
variable {dr : Bool} {ops rest : List Oper} {K : St → Prop} {n : Nat} {sl : List (Nat × SVal)} {mem : List Blk} {ck : Nat} {df : List (FuncId × List Cell)} {acc : List Nat}
variable {d : Tmp} {ty : TypeId} {pos : String} {iU : Array Edge} {g : Option (Nat × Bool)}
theorem Mt [tc : TC P T] {t e : TypeId} {len : Nat} {parts : Array (Nat × Operand)} {i ei : TI} {es ji : List (List Dat)} {r : Nat} {f' : List Blk} (h : Reg P F0 w0 dr ops K rest ⟨n, (d, .c (.arr r (ck + 1) len)) :: sl, f', ck + 1, df⟩ (2 :: acc)) (hw : GW ops g sl := by first | exact trivial | exact rfl) (ht : T t = some i := by exact rfl) (hi : i.desc = .slice e := by exact rfl) (jg : T e = some ei := by exact rfl)
  (hc : (Nat.blt 0 len && Nat.blt 0 ei.size && Nat.beq ei.zero.length ei.size && Nat.ble (len * ei.size) 16777216 && Nat.beq parts.size len) = true := by exact rfl) (hp : K0 sl ei.size parts.toList 0 = some es := by exact rfl) (hn : es = ji := by repeat' (first | exact A6 rfl | apply AG rfl)) (hr : mem.length = r := by exact rfl) (iZ : mem ++ [.arr (ck + 1) e ei.size ji] = f' := by repeat' (first | exact A6 rfl | apply AG rfl)) :
  Reg P F0 w0 dr ops K (⟨some d, .buildSlice t len parts, ty, pos, iU, g⟩ :: rest) ⟨n, sl, mem, ck, df⟩ acc := by
 subst iZ; subst hn; subst hr
 refine U6 (jx := []) hw (fun B σ E a w hF ow he jn je hr hB hd next Q mY => ?_) h
 subst hF; subst ow; subst jn; subst je
 obtain ⟨a1, a2, a3, a4, a5⟩ := i
 simp only at hi
 subst hi
 have hu : P.underlying t = some (.slice e) := (tc.ok t _ ht).desc
 simp only [BM, Sd, Md, Nat.blt, Tq] at hc
 obtain ⟨⟨⟨⟨h1, h2⟩, h3⟩, h4⟩, h5⟩ := hc
 have zX : parts.toList.length = len := by simpa using h5
 have hq := Ji (τ := σ) parts.toList _ (fun p hp => he p.2 (by simp only [Op.operands]; simp; exact ⟨p.1, by simpa using hp⟩)) es hp
 have j3 := (tc.ok e ei jg).sizeOf (w := w)
 obtain ⟨fi, z, k6, kr, jb, kG, kq⟩ := (tc.ok e ei jg).info
 obtain ⟨j1, q1, q2, q3, q4, q5, q6⟩ := HV (fun x => hr.ev x) ei.size parts.toList 0 es ((Array.range (len * ei.size)).map (z.cells[· % z.cells.size]!)) hq (by simp [zX])
 have jF : j1.size = len * ei.size := by rw [q2]; simp
 have j4 : ∀ (i j : Nat) el v x, es[i]? = some el → el[j]? = some x → j1[i * ei.size + j]? = some v → DRep E.F w v x := fun i j el v x b1 b2 b3 => q6 i j el v x b1 b2 (by simpa using b3)
 have mR : ∀ v ∈ j1, v.oneCell' = true := fun v hv => by
  obtain ⟨q, uG, kU⟩ := Array.getElem_of_mem hv
  have zY := eg q ei.size
  have i7 : q % ei.size < ei.size := ZI _ h2
  have lR : q / ei.size < len := by
    rw [Nat.div_lt_iff_lt_mul h2, ← jF]; exact uG
  have e1 : es[q / ei.size]? = some (es[q / ei.size]'(by omega)) := Bo _
  have l1 := q4 _ (Cb e1)
  have e2 : (es[q / ei.size]'(by omega))[q % ei.size]? = some ((es[q / ei.size]'(by omega))[q % ei.size]'(by omega)) := Bo _
  exact CRep.one (CRep.d (E := E) (j4 _ _ _ v _ e1 e2 (by rw [OB, zY, ← kU]; simp [uG])))
 have s8 : len * ei.size ≠ 0 := by
  have : 0 < len * ei.size := Nat.mul_pos h1 h2
  omega
 have pI : len ≤ maxLen := by
  have : len ≤ len * ei.size := Nat.le_mul_of_pos_right _ h2
  simp only [maxLen]; omega
 have jV := hr.1.newArr (w' := w.alloc (.cells j1 e)) e ei.size len es h2 q4 (by omega) pI ((Bel.refl _ w).alloc hr.1.le0 _) (fun k hk => Bel.heap_alloc w _ k hk) (.inr ⟨j1, XN w _, jF, mR, j4⟩)
 have lM : (parts.map fun (i, x) => (i, a.eval x)).toList = parts.toList.map fun p => (p.1, a.eval p.2) := by simp
 have j7 : (Instr.buildSlice t len (parts.map fun (i, x) => (i, a.eval x))).run P w = .ok (.slice (some ⟨w.heap.size, 0, none⟩) len len) (w.alloc (.cells j1 e)) := by
  simp only [Instr.buildSlice, Sem.run_bind, run_underlying hu, Result.andThen_ok, j3, lM]
  rw [if_neg (show ¬ len * ei.size > 2 ^ 24 by omega)]
  simp only [Sem.run_pure, Result.andThen_ok, if_neg s8, Sem.run_bind, zeroValue, typeInfo, run_program, k6, kG]
  rw [q1]
  simp only [Sem.run_bind, newRow, run_newObj, Result.andThen_ok, Sem.run_pure, World.alloc_eq]
 unfold Oper.wp
 rw [show (execOp a.eval ⟨some d, .buildSlice t len parts, ty, pos, iU, g⟩).run P w = .ok (.value (.slice (some ⟨w.heap.size, 0, none⟩) len len)) (w.alloc (.cells j1 e)) by simp at j7; simp [execOp, j7]]
 refine mY _ _ _ [] _ _ ⟨rfl, rfl, rfl, rfl⟩ ⟨_, ?_, hB.trans jV.2⟩
 rw [FH]
 exact hr.putOE jV.2 jV.1 hd (.c (.arr _ _ _ _ rfl (by simp [Env.upd]) (fun _ => .inr (by simp [Env.upd]; exact h1))))
end
end Go.Abs
end
section
namespace Go.Proofs.YtmpgmjlanngkfaaGreat
open Go.Abs Go.RowKit
attribute [local irreducible] ARun Av MCall PCall HCall Ap SF CF CFs Ag Ai As fin AY VLe
set_option linter.unusedSimpArgs false
set_option maxRecDepth 100000
set_option maxHeartbeats 4000000
def Ca (e : Entry) : Bs × Int := (Ar e.row, e.count)
def ca (e : Entry) : List Dat := [Dq (Ar e.row), .lit (.int .i64 e.count)]
theorem S0 (rs : List Entry) : (rs.map Ca).map Hv = rs.map ca := by rw [Sc]; rfl
theorem Ul (a b : Entry) : PC 233 [.agg a.d, .agg b.d] (.v (.one (.lit (.int .i64 (Ed a b))))) := by
 refine Ac hT Tryz.func233 Tryz.ntmps233 [.tmp 4] fun B => ?_
 repeat' first | refine kz ?_ | refine Aa (Bm _ _) ?_ | refine kf ?_ | fail
 all_goals rfl
theorem RG (st : List Lev) (s : List (Bs × Int)) (rs : List Entry) (nG : rs.length ≤ 4096) (ll : ∀ e ∈ rs, AR e.row = true) (nT : rs.all (fun e => AD e.count) = false) :
  HC 196 [.c (.bp 0 0 0)] (jm st s (rs.map Ca)) (.tup [.c .emp, .c (.d (.lit (.int .i64 9)))]) [.dead, .dead, .dead, .dead] := by
 refine Au hT Tryz.func196 Tryz.ntmps196 [.tmp 2, .tmp 3] fun B => ?_
 repeat' first | refine kz ?_ | refine kf ?_ | refine Al rfl rfl (fun hb => ?_) (fun hb => ?_) | refine kg ?_ ?_ | exact k0 | refine Ab ?_ | refine m1 ?_ ?_ | refine AJ ?_
 refine Bv 4 56 2 ?_
 refine AK (X := Nat × Nat) ([2, 3, 4, 6, 7, 8] ++ List.range' 14 29) (fun x => x.1 ≤ rs.length ∧ (rs.take x.1).all (fun e => AD e.count) = true) (fun x lz => (4, .c (.arr 4 x.2 (rs.take x.1).length)) :: (14, (iC x.1)) :: lz) (fun x => [.box 0 [.arr 1 0 st.length, .mp 2 0, .arr 3 0 (rs.map Ca).length], .arr 0 232 2 (st.map Lev.d), .mapb 0 9 2 (s.map Lh), .arr 0 200 2 (rs.map ca), .arr x.2 56 2 ((rs.take x.1).map Entry.d)]) (fun x => rs.length - x.1) ((0, 1)) ?_ ?_ ?_ ?_
 repeat' first | exact k0 | refine kw ?_ | refine kv ?_ ?_ | omega
 ·exact S0 rs
 ·exact ⟨by simp, by simp⟩
 rintro ⟨i, k⟩ c ⟨hi, hinv⟩
 dsimp only at hi hinv ⊢
 by_cases i7 : i < rs.length
 ·have hv : rs[i]? = some rs[i] := Bo i7
  have mu := ll _ (Fo i7)
  generalize rs[i] = e at hv mu
  have jL : (rs.map ca)[i]? = some (ca e) := by rw [BU, hv]; rfl
  have mK : (rs.map Ca).length = rs.length := by simp
  have ju : rs.take (i + 1) = rs.take i ++ [e] := by rw [Gm, hv]; rfl
  have qk : (rs.take i).length = i := by simp; omega
  have qw := GH _ mu
  by_cases hc : AD e.count = true
  ·have rY : -262144 ≤ e.count ∧ e.count ≤ 262144 := by simpa [AD] using hc
   repeat' first | refine kz ?_ | refine AF jL ?_ | refine Ao ?_ | refine Aa (qw) ?_ | refine kf ?_ | refine Al rfl rfl (fun hb => ?_) (fun hb => ?_) | refine kg ?_ ?_ | exact k0 | refine Ab ?_ | refine m1 ?_ ?_ | refine AJ ?_
   apply Af ((i + 1, _)) <;> (try dsimp only) <;> try repeat' first | exact k0 | refine w1 ?_ | refine Ab ?_ | refine m1 ?_ ?_ | refine AJ ?_ | omega
   ·rw [ju, Ag']; rfl
   ·exact ⟨by omega, CX (fun e : Entry => AD e.count) hv hinv hc⟩
  ·have rY : e.count < -262144 ∨ 262144 < e.count := by simp [AD] at hc; omega
   repeat' first | refine kz ?_ | refine AF jL ?_ | refine Ao ?_ | refine Aa (qw) ?_ | refine kf ?_ | refine Al rfl rfl (fun hb => ?_) (fun hb => ?_) | refine kg ?_ ?_ | exact k0 | refine Ab ?_ | refine m1 ?_ ?_ | refine AJ ?_
 ·rw [Ah (by omega)] at hinv
  rw [hinv] at nT
  cases nT
theorem RH (st : List Lev) (s : List (Bs × Int)) (rs : List Entry) (nG : rs.length ≤ 4096) (ll : ∀ e ∈ rs, AR e.row = true) (nT : ∀ e ∈ rs, AD e.count = true) :
  HC 196 [.c (.bp 0 0 0)] (jm st s (rs.map Ca)) (.tup [.c (.arr 4 1 rs.length), .c (.d (.lit (.int .i64 0)))]) [.dead, .dead, .dead, .dead, .arr 1 56 2 ((sortF Ed rs).map Entry.d)] := by
 have hS := Lp Entry.d (fun _ => rfl) Ed entCmp_ok.swo 233 rs (by omega) (fun x _ y _ => Ul x y)
 refine Au hT Tryz.func196 Tryz.ntmps196 [.tmp 2, .tmp 3] fun B => ?_
 repeat' first | refine kz ?_ | refine kf ?_ | refine kg ?_ ?_ | exact k0 | refine Ab ?_ | refine m1 ?_ ?_ | refine AJ ?_
 refine Bv 4 56 2 ?_
 refine AK (X := Nat × Nat) ([2, 3, 4, 6, 7, 8] ++ List.range' 14 29) (fun x => x.1 ≤ rs.length) (fun x lz => (4, .c (.arr 4 x.2 (rs.take x.1).length)) :: (14, (iC x.1)) :: lz) (fun x => [.box 0 [.arr 1 0 st.length, .mp 2 0, .arr 3 0 (rs.map Ca).length], .arr 0 232 2 (st.map Lev.d), .mapb 0 9 2 (s.map Lh), .arr 0 200 2 (rs.map ca), .arr x.2 56 2 ((rs.take x.1).map Entry.d)]) (fun x => rs.length - x.1) ((0, 1)) ?_ ?_ ?_ ?_
 repeat' first | exact k0 | refine kw ?_ | refine kv ?_ ?_ | omega
 ·exact S0 rs
 rintro ⟨i, k⟩ c hi
 dsimp only at hi ⊢
 by_cases i7 : i < rs.length
 ·have hv : rs[i]? = some rs[i] := Bo i7
  have mu := ll _ (Fo i7)
  have hc := nT _ (Fo i7)
  generalize rs[i] = e at hv mu hc
  have jL : (rs.map ca)[i]? = some (ca e) := by rw [BU, hv]; rfl
  have mK : (rs.map Ca).length = rs.length := by simp
  have ju : rs.take (i + 1) = rs.take i ++ [e] := by rw [Gm, hv]; rfl
  have qk : (rs.take i).length = i := by simp; omega
  have qw := GH _ mu
  have rY : -262144 ≤ e.count ∧ e.count ≤ 262144 := by simpa [AD] using hc
  repeat' first | refine kz ?_ | refine AF jL ?_ | refine Ao ?_ | refine Aa (qw) ?_ | refine kf ?_ | refine kg ?_ ?_ | exact k0 | refine Ab ?_ | refine m1 ?_ ?_ | refine AJ ?_
  apply Af ((i + 1, _)) <;> (try dsimp only) <;> try repeat' first | exact k0 | refine w1 ?_ | refine Ab ?_ | refine m1 ?_ ?_ | refine AJ ?_ | omega
  ·rw [ju, Ag']; rfl
 ·rw [Ah (show rs.length ≤ i by omega)]
  have mK : (rs.map Ca).length = rs.length := by simp
  repeat' first | refine kz ?_ | refine Ae [4] (hS) ?_ | refine kf ?_ | refine kg ?_ ?_ | exact k0 | refine Ab ?_ | refine m1 ?_ ?_ | refine AJ ?_
noncomputable def grE (ag : List Agg) (keys : List Itm) (b : List Entry) (k : List Val) : Entry := ⟨grpRow ag (k, b.filter (Re (AQ keys) k)), 1⟩
theorem QC {b : List Entry} {keys : List Itm} {ag : List Agg} (h : Ay b = true ∧ keys.length + ag.length ≤ 8) : groupE b keys ag = Bh ((Dg b (AQ keys)).map (grE ag keys b)) := by
 unfold groupE Iv
 rw [if_pos h, Sc]; rfl
theorem UP {b : List Entry} {keys : List Itm} {k : List Val} (h : k ∈ Dg b (AQ keys)) : AE k ∧ k.length = keys.length := by
 have hK : D9 b (AQ keys) := fun e _ => B4 keys e.row
 obtain ⟨_, h2, h3⟩ := Hf hK
 refine ⟨h2 k h, ?_⟩
 obtain ⟨e, _, rfl⟩ := (h3 k).1 h
 exact DU ..
theorem RZ (b : List Entry) (keys : List Itm) (ag : List Agg) (tU : b.length ≤ 1000) (nZ : keys.length ≤ 10000) (jM : ag.length ≤ 10000) : PC 83 [.one (Ak b), .one (J8 keys), .one (Tz ag)] (.tup [.one (Ak (groupE b keys ag).1), .one (.lit (.int .i64 (groupE b keys ag).2))]) := by
 have hp := CW b
 by_cases hc : Ay b = true ∧ keys.length + ag.length ≤ 8
 ·obtain ⟨lS, lC⟩ := hc
  obtain ⟨uX, uY⟩ := Sj lS
  obtain ⟨oI, ua⟩ := AP uX
  rw [QC ⟨lS, lC⟩]
  rw [lS] at hp
  have hg := Na b keys tU (by omega)
  have sk := I6 b _ (fun e _ => B4 keys e.row)
  have l5 := E9 ((Dg b (AQ keys)).map (grE ag keys b)) (by rw [BR]; omega)
  have nc : ∀ k ∈ Dg b (AQ keys), AE k ∧ k.length = keys.length := fun k hk => UP hk
  generalize Dg b (AQ keys) = G at hg sk l5 nc ⊢
  generalize Bh (G.map (grE ag keys b)) = R at l5 ⊢
  refine Ac hT Tryz.func83 Tryz.ntmps83 [.tmp 6, .tmp 7] fun B => ?_
  repeat' first | refine kz ?_ | refine Ao ?_ | refine Aa (hp) ?_ | refine Aa (hg) ?_ | refine kh ?_ ?_ | exact ⟨⟩ | fail
  refine Bv 8 56 2 ?_
  refine AK (X := Nat × Nat) ([8, 10, 11, 12] ++ List.range' 27 44) (fun x => x.1 ≤ G.length) (fun x lz => (10, (iC x.1)) :: (8, .c (.arr 0 x.2 x.1)) :: lz) (fun x => [.arr x.2 56 2 ((G.take x.1).map fun k => (grE ag keys b k).d)]) (fun x => G.length - x.1) ((0, 1)) ?_ ?_ ?_ ?_
  repeat' first | exact k0 | refine kw ?_ | refine kv ?_ ?_ | omega
  rintro ⟨i, v⟩ c0 hi
  dsimp only at hi ⊢
  by_cases i7 : i < G.length
  · have hx : G[i]? = some G[i] := Bo i7
    obtain ⟨lQ, np⟩ := nc _ (Fo i7)
    generalize G[i] = key at hx lQ np
    have rk : (G.map fun r => [A0 r])[i]? = some [A0 key] := by rw [BU, hx]; rfl
    have jc : ((G.take i).map fun k => (grE ag keys b k).d) ++ [[A0 (grpRow ag (key, b.filter (Re (AQ keys) key))), .lit (.int .i64 1)]] = (G.take (i + 1)).map fun k => (grE ag keys b k).d := by
     rw [Bp hx, Ag']; rfl
    have nD : ((G.take i).map fun k => (grE ag keys b k).d).length = i := by simp; omega
    have mK : (key.map Val.d).length = key.length := by simp
    generalize (G.take i).map (fun k => (grE ag keys b k).d) = A at jc nD ⊢
    generalize xY : (key, b.filter (Re (AQ keys) key)) = g at jc
    have mv : g.1 = key := by rw [← xY]
    have nA : g.2 = b.filter (Re (AQ keys) key) := by rw [← xY]
    have zZ : grpRow [] g = key := by rw [HW, mv]
    repeat' first | refine kz ?_ | refine AF rk ?_ | refine Ao ?_ | refine kh ?_ ?_ | exact ⟨⟩ | fail
    refine AK (X := Nat × Nat) ([11, 12] ++ List.range' 39 27) (fun x => x.1 ≤ ag.length) (fun x lz => (12, (iC x.1)) :: (11, .c (.arr 1 x.2 (key.length + x.1))) :: lz) (fun x => [.arr v 56 2 A, .arr x.2 73 3 ((grpRow (ag.take x.1) g).map Val.d)]) (fun x => ag.length - x.1) ((0, c0 + 1)) ?_ ?_ ?_ ?_
    repeat' first | exact k0 | refine kw ?_ | refine kv ?_ ?_ | omega
    all_goals try (rw [List.take_zero, zZ]; done)
    all_goals try (first | rfl | (simp; done))
    rintro ⟨k, r⟩ c1 hk
    dsimp only at hk ⊢
    have nG : ((grpRow (ag.take k) g).map Val.d).length = key.length + k := by rw [BR, FT, mv, Gu]; omega
    by_cases rm : k < ag.length
    ·obtain ⟨y, hy⟩ := gx rm
     have pJ : (ag.map Agg.d)[k]? = some y.d := by rw [BU, hy]; rfl
     have l6 := UO b keys key y.expr tU (by omega)
     obtain ⟨v1, v2, v3, v4⟩ := QD (keys := keys) lQ oI (fun e he => (ua e he).2.1) y.expr
     obtain ⟨v5, v6⟩ := Xy (keys := keys) lQ oI (fun e he => (ua e he).2.1) uY y
     have rn := Zg y.func _ v1 v5 v2 v3
     rw [v6, ← nA] at rn
     have kZ := congrArg (List.map Val.d) (JL (g := g) hy)
     rw [Ag', List.map_singleton] at kZ
     generalize (grpRow (ag.take k) g).map Val.d = Z at kZ nG ⊢
     generalize foldE y.func (CG y g.2) = F at rn kZ
     generalize EU (kP keys key) (LB y.expr) b = V at l6 rn
     clear v1 v2 v3 v4 v5 v6
     repeat' first | refine kz ?_ | refine AF rk ?_ | refine AF pJ ?_ | refine Ao ?_ | refine Aa (l6) ?_ | refine Aa (rn) ?_ | refine kh ?_ ?_ | exact ⟨⟩ | fail
     apply Af ((k + 1, c1 + 1)) <;> (try dsimp only) <;> try repeat' first | exact k0 | refine kw ?_ | refine kv ?_ ?_ | omega
     all_goals first
      | omega
      | (rw [Ah (by omega)]; exact kZ.symm)
    ·have qa : k = ag.length := by omega
     have aa' : ((grpRow ag g).map Val.d).length = key.length + ag.length := by rw [BR, FT, mv]
     rw [qa, Ah (Nat.le_refl _)]
     refine Ax (r := 1) (m := key.length + ag.length) (lH := (grpRow ag g).map Val.d) 11 ?_ (hl := by omega) (j6 := Ah (by omega))
     repeat' first | refine kz ?_ | refine Ao ?_ | refine kh ?_ ?_ | exact ⟨⟩ | fail
     apply Af ((i + 1, _)) <;> (try dsimp only) <;> try repeat' first | exact k0 | refine w1 ?_ | refine Ab ?_ | refine m1 ?_ ?_ | omega
     all_goals (rw [Ah (by omega)]; exact jc)
  · obtain rfl : i = G.length := by omega
    rw [Ah (Nat.le_refl _)]
    refine Ax (r := 0) (m := G.length) (lH := (G.map (grE ag keys b)).map Entry.d) 8 ?_ (hl := by simp) (j6 := by rw [Ah (by simp), Sc]; rfl)
    repeat' first | refine kz ?_ | refine Ao ?_ | refine Aa (l5) ?_ | refine kh ?_ ?_ | exact ⟨⟩ | fail
    all_goals rfl
 ·have he : groupE b keys ag = ([], 1) := if_neg hc
  rw [he]
  cases hb : Ay b with
  | false =>
    rw [hb] at hp
    refine Ac hT Tryz.func83 Tryz.ntmps83 [.tmp 6, .tmp 7] fun B => ?_
    repeat' first | refine kz ?_ | refine Ao ?_ | refine Aa (hp) ?_ | refine kh ?_ ?_ | exact ⟨⟩ | fail
    all_goals rfl
  | true =>
    rw [hb] at hp
    have nO : ¬ keys.length + ag.length ≤ 8 := fun h => hc ⟨hb, h⟩
    refine Ac hT Tryz.func83 Tryz.ntmps83 [.tmp 6, .tmp 7] fun B => ?_
    repeat' first | refine kz ?_ | refine Ao ?_ | refine Aa (hp) ?_ | refine kh ?_ ?_ | exact ⟨⟩ | fail
    all_goals rfl
end Go.Proofs.YtmpgmjlanngkfaaGreat
end
