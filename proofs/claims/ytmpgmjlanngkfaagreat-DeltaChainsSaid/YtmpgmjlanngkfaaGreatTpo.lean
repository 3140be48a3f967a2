/-
  The tape's bag of rows with positive multiplicities.
-/
import Derived.Test.YtmpgmjlanngkfaaGreatMrg
import Derived.Test.YtmpgmjlanngkfaaGreatPos
import Derived.Test.YtmpgmjlanngkfaaGreatAgk
import Derived.Test.YtmpgmjlanngkfaaGreatExn
import Derived.Test.YtmpgmjlanngkfaaGreatDex
import Derived.Test.YtmpgmjlanngkfaaGreatAgp
import Derived.Test.YtmpgmjlanngkfaaGreatNrm
import Derived.Test.YtmpgmjlanngkfaaGreatMpd
section
namespace Go.Proofs.YtmpgmjlanngkfaaGreat
open Go.Abs Go.RowKit
attribute [local irreducible] ARun Au MCall PCall HCall Ak SF CF CFs Af Ag Ar fin AP VLe
set_option linter.unusedSimpArgs false
set_option maxRecDepth 100000
set_option maxHeartbeats 4000000
def Z2 (s : Sta) : Bool := !s.zero
def IX (b : List Entry) (keys : List Itm) (ag : List Agg) : List Sta × Int :=
 if Aj b = true ∧ keys.length + ag.length ≤ 8 ∧ X8 ag = true then (((GX b (Bm keys)).map (dh ag)).filter Z2, 0) else ([], 1)
def YV : List Val → Val
 | [] => Val.null
 | v :: _ => v
def vc (e : Entry) : Val × Int := (YV e.row, e.count)
def dx (l : List Entry) : List (Val × Int) := l.map vc
def dA (L : List (Val × Int)) : Prop := ∀ x ∈ L, x.1.clean = x.1
def b8 (n m : Int) : Bool := decide (-m ≤ n) && decide (n ≤ m)
def cI (ag : List Agg) (s : Sta) : List (Agg × Int × Int) := ag.zip (s.sums.zip s.some)
def Z5 (t : Agg × Int × Int) : Bool := b8 t.2.2 1073741824 && b8 t.2.1 4611686018427387904 && (!decide (t.1.func = 0) || (decide (t.2.2 = 0) && decide (t.2.1 = 0)))
def Yd (ag : List Agg) (s : Sta) : Bool := decide (s.sums.length = ag.length) && decide (s.some.length = ag.length) && b8 s.count 1073741824 && !s.zero && (cI ag s).all Z5
def Z6 (ag : List Agg) (s : Sta) : Bool := decide (s.key.length ≤ 8) && AD s.key && Yd ag s
def W1 (ag : List Agg) : Option Sta → List Sta → Bool
 | _, [] => true
 | p, e :: l => Z6 ag e && (match p with | none => true | some q => decide (Ai q.key e.key < 0)) && W1 ag (some e) l
def W2 (ag : List Agg) (l : List Sta) : Bool := decide (l.length ≤ 4096) && W1 ag none l
def cJ (l : List Sta) (i : Nat) : Option Sta := if i = 0 then none else l[i - 1]?
def cH (l : List Int) : List (List Dat) := l.map fun n => [.lit (.int .i64 n)]
noncomputable def foldP (f : Int) (b : List Entry) : Val := if Ap b = true then foldE f (dx b) else Val.null
def cT (l : List (List Val)) : Dat := .sl (l.map fun r => [BP r])
def az (x : Entry) : List Entry → List Entry
 | [] => [x]
 | o :: l => if Ai o.row x.row < 0 then o :: az x l else x :: o :: l
def dP (x o : Entry) : Bool := decide (Ai o.row x.row < 0)
def dQ (a b : Entry) : Prop := ¬ Ai b.row a.row < 0
def dB (p : Entry → Bool) (f : Entry → Entry) (b : List Entry) : List Entry := b.foldl (fun o e => if p e = true then az (f e) o else o) []
def kP (keys : List Itm) (key : List Val) (e : Entry) : Bool := Bz (Bm keys e.row) key
def dR (ex : List Trm) (e : Entry) : Entry := ⟨[Gc ex e.row], e.count⟩
end Go.Proofs.YtmpgmjlanngkfaaGreat
end
section
namespace Go.Proofs.YtmpgmjlanngkfaaGreat
open Go.Abs Go.RowKit
set_option linter.unusedSimpArgs false
set_option maxRecDepth 100000
def bZ (z : Int) : Int := IntKind.i64.wrap z
def aA (s t : Sta) : Sta := ⟨s.key, bZ (s.count + t.count), List.zipWith (fun x y => bZ (x + y)) s.sums t.sums, List.zipWith (fun x y => bZ (x + y)) s.some t.some⟩
def Ic : List Sta → List Sta → List Sta
 | [], d => d
 | g, [] => g
 | x :: g, y :: d => if Ai x.key y.key < 0 then x :: Ic g (y :: d) else if 0 < Ai x.key y.key then y :: Ic (x :: g) d else aA x y :: Ic g d
termination_by g d => g.length + d.length
def sR (x y : Sta) : Prop := Ai x.key y.key < 0
def dS (l : List Sta) : Prop := ∀ s ∈ l, AG s.key
def cy (kf : List Val → List Val) (k : List Val) (f : List Val → Int) (r : List Val) : Int := if Ai (kf r) k = 0 then f r else 0
def dC (x : Agg) (r : List Val) : Int := if x.func = 1 then (if (Gc x.expr r).kind = 1 then (Gc x.expr r).int else 0) else 0
def dD (x : Agg) (r : List Val) : Int := if x.func = 1 then (if (Gc x.expr r).kind = 1 then 1 else 0) else 0
def dE (ag : List Agg) (kf : List Val → List Val) (b : List Entry) (k : List Val) : Sta :=
 ⟨k, wS (cy kf k fun _ => 1) b, ag.map fun x => wS (cy kf k (dC x)) b, ag.map fun x => wS (cy kf k (dD x)) b⟩
def dF (ag : List Agg) (kf : List Val → List Val) (b : List Entry) : List Sta := ((Dp b kf).map (dE ag kf b)).filter Z2
def cz (n : Int) : Prop := -4611686018427387904 ≤ n ∧ n ≤ 4611686018427387903
def dG (s : Sta) : Prop := cz s.count ∧ (∀ n ∈ s.sums, cz n) ∧ ∀ n ∈ s.some, cz n
def dT (ex : List Trm) (e : Entry) : Val × Int := (Gc ex e.row, e.count)
end Go.Proofs.YtmpgmjlanngkfaaGreat
end
section
namespace Go.Proofs.YtmpgmjlanngkfaaGreat
open Go.Abs Go.RowKit
attribute [local irreducible] ARun Au MCall PCall HCall Ak SF CF CFs Af Ag Ar fin AP VLe
set_option linter.unusedSimpArgs false
set_option maxRecDepth 100000
set_option maxHeartbeats 4000000
def YY (t : Tape) : Nat → List Val × Tape
 | 0 => ([], t)
 | j + 1 => ((YY t j).1 ++ [(YY t j).2.val.1], (YY t j).2.val.2)
noncomputable def grE (ag : List Agg) (keys : List Itm) (b : List Entry) (k : List Val) : Entry := ⟨grpRow ag (k, b.filter (Vr (Bm keys) k)), 1⟩
theorem Ou {b : List Entry} {keys : List Itm} {ag : List Agg} (h : Ap b = true ∧ keys.length + ag.length ≤ 8) : groupE b keys ag = A4 ((Dp b (Bm keys)).map (grE ag keys b)) := by
 unfold groupE GX
 rw [if_pos h, Ve]; rfl
theorem F8 {b : List Entry} {keys : List Itm} {k : List Val} (h : k ∈ Dp b (Bm keys)) : AG k ∧ k.length = keys.length := by
 have hK : CS b (Bm keys) := fun e _ => Ce keys e.row
 obtain ⟨_, h2, h3⟩ := Ew hK
 refine ⟨h2 k h, ?_⟩
 obtain ⟨e, _, rfl⟩ := (h3 k).1 h
 exact G0 ..
def dq (xs ys : List Int) (i : Nat) : List Int := (List.zipWith (fun x y => bZ (x + y)) xs ys).take i ++ xs.drop i
def dM (n : Nat) (s : Sta) : Prop := s.key.length ≤ 100000 ∧ s.sums.length = n ∧ s.some.length = n
end Go.Proofs.YtmpgmjlanngkfaaGreat
end
section
namespace Go.Proofs.YtmpgmjlanngkfaaGreat
open Go.Abs Go.RowKit
def Val.wf (v : Val) : Prop := aF v.kind ∧ aF v.int ∧ v.text.size ≤ reachBytes
theorem QH {xs : List Dat} (h : ZI Tryz.prog 22 xs) : ∃ r : List Int, xs = [Dh r] ∧ r.length ≤ 17592186044416 := by
 obtain ⟨es, rfl, h1, h2⟩ := UT hT rfl rfl rfl h
 obtain ⟨l, rfl, hl⟩ := Ly (f := iD) (Q := aF) es (fun el hel => Y3 hT rfl rfl (h2 el hel))
 refine ⟨l, rfl, ?_⟩
 rw [BQ] at h1
 have h2 : l.length * 8 ≤ 140737488351232 := h1
 omega
end Go.Proofs.YtmpgmjlanngkfaaGreat
end
section
namespace Go.Proofs.YtmpgmjlanngkfaaGreat
open Go.Abs Go.RowKit
attribute [local irreducible] ARun Au MCall PCall HCall Ak SF CF CFs Af Ag Ar fin AP VLe
set_option linter.unusedSimpArgs false
set_option maxRecDepth 100000
set_option maxHeartbeats 4000000
def dH (c : Int) (t : Agg × Int × Int) : Val := if t.1.func = 0 then Val.ofInt c else if t.2.2 = 0 then Val.null else Val.ofInt t.2.1
def aB (ag : List Agg) (s : Sta) : List Val := s.key ++ (cI ag s).map (dH s.count)
def dU (ag : List Agg) (s : Sta) : Entry := ⟨aB ag s, 1⟩
def Z7 (g : List Sta) (change : List Entry) (keys : List Itm) (ag : List Agg) : List Sta × Int :=
 if W2 ag g = true then
  if (IX change keys ag).2 = 0 then
   if ((Ic g (IX change keys ag).1).filter Z2).length ≤ 4096 then
    if W2 ag ((Ic g (IX change keys ag).1).filter Z2) = true then ((Ic g (IX change keys ag).1).filter Z2, 0) else ([], 9)
   else ([], 8)
  else ([], 1)
 else ([], 1)
end Go.Proofs.YtmpgmjlanngkfaaGreat
end
section
namespace Go.Abs
open Go.RowKit
section
variable {P : Program} {T : TypeId → Option TI} {F0 : Nat → Prop} {w0 : World}
variable {dr : Bool} {ops rest : List Oper} {K : St → Prop} {n : Nat} {sl : List (Nat × SVal)} {mem : List Blk} {ck : Nat} {df : List (FuncId × List Cell)} {acc : List Nat}
variable {d : Tmp} {ty : TypeId} {pos : String} {aft : Array Edge} {g : Option (Nat × Bool)}
theorem Og [tc : TC P T] {t e : TypeId} {m : Nat} {parts : Array (Nat × Operand)} {i ei : TI} {cs cs' : List Cell} (h : Reg P F0 w0 dr ops K rest ⟨n, (d, .agg cs') :: sl, mem, ck, df⟩ (0 :: acc)) (hw : GW ops g sl := by first | exact trivial | exact rfl)
  (ht : T t = some i := by exact rfl) (hi : i.desc = .array m e := by exact rfl) (hei : T e = some ei := by exact rfl) (hf : Nl T sl ((List.range m).map fun q => (q * ei.size, e)) parts.toList (i.zero.map By) = some cs := by exact rfl) (hn : cs = cs' := by repeat' (first | exact AT rfl | apply Az rfl)) :
  Reg P F0 w0 dr ops K (⟨some d, .build t parts, ty, pos, aft, g⟩ :: rest) ⟨n, sl, mem, ck, df⟩ acc := by
 subst hn
 refine FD hw (fun mm cc => fun B σ E a w hF hw0 he hmm hck hr hB hd next Q hn => ?_) h
 subst hF; subst hw0
 have htt := tc.ok t _ ht
 obtain ⟨a1, a2, zero, a4, a5⟩ := i
 simp only at hi hf
 subst hi
 have hq := JA (τ := σ) parts.toList _ (fun p hp => he p.2 (by simp only [Op.operands]; simp; exact ⟨p.1, by simpa using hp⟩)) cs hf
 have hu : P.underlying t = some (.array m e) := htt.desc
 obtain ⟨fi, z, hi1, hi2, hi3, hi4, hi5⟩ := htt.info
 have hs := (tc.ok e ei hei).sizeOf (w := w)
 obtain ⟨cells', q1, q2, q3⟩ := Gm tc.ok (ρ := a.eval) (fun x => hr.ev x) _ (fun q => some (q * ei.size, ei.size)) (fun q off ft j hf hj => by
  rw [B2] at hf
  cases hr : (List.range m)[q]? with
  | none => rw [hr] at hf; cases hf
  | some r =>
    rw [hr] at hf
    simp only [Option.map_some, Option.some.injEq, Gk] at hf
    obtain ⟨rfl, rfl⟩ := hf
    have hqr : r = q := by
     have hlt : q < (List.range m).length := (bD.1 hr).1
     rw [Bh hlt, List.getElem_range] at hr
     simpa using hr.symm
    rw [hei] at hj
    simp only [Option.some.injEq] at hj
    subst hj
    rw [hqr]) parts.toList _ cs zero.toArray hq (by simp) (DL htt)
 have hv : SRep E w (.agg cells') (.agg cs) := by
  have := SRep.agg (E := E) (w := w) cs cells'.toList (by simpa using q2) (fun i v x hv hx => q3 i v x (by simpa using hv) hx)
  simpa using this
 have hrun : (Instr.build t (parts.map fun (i, x) => (i, a.eval x))).run P w = .ok (.agg cells') w := by
  have hmap : (parts.map fun (i, x) => (i, a.eval x)).toList = parts.toList.map fun p => (p.1, a.eval p.2) := by simp
  simp only [Instr.build, zeroValue, typeInfo, Sem.run_bind, run_program, Result.andThen_ok, hi1, Sem.run_pure, hi4, run_underlying hu, hs, hi5, hmap]
  rw [q1]
  rfl
 unfold Oper.wp
 rw [show (execOp a.eval ⟨some d, .build t parts, ty, pos, aft, g⟩).run P w = .ok (.value (.agg cells')) w by simp at hrun; simp [execOp, hrun]]
 refine hn _ _ _ [] _ _ ⟨rfl, rfl, rfl, rfl⟩ ⟨E, ?_, hB⟩
 rw [EI, ← hmm, ← hck]
 exact hr.putOE (EnvLe.refl E w) hr.1 hd hv
end
end Go.Abs
end
section
namespace Go.Proofs.YtmpgmjlanngkfaaGreat
open Go.Abs Go.RowKit
attribute [local irreducible] ARun Au MCall PCall HCall Ak SF CF CFs Af Ag Ar fin AP VLe
set_option linter.unusedSimpArgs false
set_option maxRecDepth 100000
set_option maxHeartbeats 4000000
theorem Ml {r : List Val} : ∀ {l : List Entry}, (∀ e ∈ l, 0 ≤ e.count) → 0 ≤ A1 l r
 | [], _ => WT _
 | e :: l, h => by
   have h1 := Ml (r := r) (l := l) fun x hx => h x (by simp [hx])
   have h2 := h e (by simp)
   rw [A1]; split <;> omega
theorem Mm (t : Tape) (w n : Nat) (ht : t.ok) (hw : w ≤ 16) (hn : n ≤ 999) : ∃ (b : List Entry) (t' : Tape), t'.ok ∧ Aj b = true ∧ A2 3000 b ∧ b.length ≤ n ∧ Tiny (3 * n) w b ∧ (∀ e ∈ b, 0 < e.count) ∧ HC 11 [.c (.bp 0 0 0), (iC (w : Int)), (iC (n : Int)), .c (.d (.lit (.bool false)))] [(tB t)] (.c (.d (Am b))) [(tB t')] := by
 have hent := Lw t w n ht (by omega) (by omega)
 obtain ⟨b1, b2⟩ := t.nx_bd ((n : Int) + 1)
 have hok1 := ht.go ((n : Int) + 1)
 obtain ⟨i0, hi0⟩ := UY b1
 rw [hi0, QL] at hent
 rw [hi0] at b1 b2
 have hxo := I4 hok1 w i0
 have hgood := Ih (t.go ((n : Int) + 1)) w hw i0
 have hwid := Kd (t.go ((n : Int) + 1)) w i0
 generalize t.go ((n : Int) + 1) = t1 at hent hok1 hxo hgood hwid
 obtain ⟨hok2, hxl⟩ := hxo
 generalize C3 t1 w i0 = E at hent hok2 hxl hgood hwid
 obtain ⟨es, t2⟩ := E
 dsimp only at hent hok2 hxl hgood hwid
 have hxn : es.length ≤ n := by omega
 subst hxl
 have hg2 : ∀ e ∈ es.map (Bv false), AD e.row = true ∧ -3 ≤ e.count ∧ e.count ≤ 3 := fun e he => by
  obtain ⟨x, hx, rfl⟩ := List.mem_map.1 he
  obtain ⟨g1, g2⟩ := hgood x hx
  unfold Bv
  split
  ·exact ⟨g1, by simp only; omega⟩
  ·exact ⟨g1, g2⟩
 have hsm := Ke hg2 (by simp; omega)
 have htn : Tiny (3 * n) w (A4 (es.map (Bv false))).1 := by
  rw [(DC hsm.1).1]
  refine (Ht (fun e he => (hg2 e he).1) (fun e he => ?_) (LF (I5 (n := 3) fun e he => ?_) ?_) (by omega)).1
  ·obtain ⟨x, hx, rfl⟩ := List.mem_map.1 he
   have := hwid x hx
   unfold Bv
   split <;> exact this
  ·have := (hg2 e he).2
   omega
  ·rw [BQ]
   omega
 have hpos : ∀ e ∈ (A4 (es.map (Bv false))).1, 0 < e.count := by
  obtain ⟨q1, q2, _, q4⟩ := DC hsm.1
  rw [q1]
  intro e he
  have h1 := q4 e.row
  rw [DZ (BB q2.up) he (rowCmp_ok.refl _)] at h1
  have h2 := Ml (r := e.row) (l := es.map (Bv false)) fun x hx => by
   obtain ⟨y, _, rfl⟩ := List.mem_map.1 hx
   unfold Bv
   split
   ·dsimp only; omega
   ·rename_i hq
    have : ¬ y.count < 0 := fun h => hq ⟨rfl, h⟩
    omega
  have h3 := q2.nz e he
  omega
 rw [BQ] at hsm
 have hnc := Ix (es.map (Bv false)) (by simp; omega)
 generalize A4 (es.map (Bv false)) = R at hsm hnc htn hpos
 obtain ⟨rb, re⟩ := R
 dsimp only at hsm hnc htn hpos
 refine ⟨rb, t2, hok2, hsm.2.1, hsm.2.2.1, by omega, htn, hpos, ?_⟩
 have f9 : List.take es.length ((es.map (Bv false)).map Entry.d) = (es.map (Bv false)).map Entry.d := Ao (by simp)
 refine AI hT Tryz.func11 Tryz.ntmps11 [.tmp 8] fun B => ?_
 repeat' first | refine kz ?_ | refine Ah [0] (hent) ?_ | refine kg ?_ ?_ | exact k0 | refine Ab ?_ | refine m1 ?_ ?_
 refine A0 (X := Nat) ([10] ++ List.range' 17 26) (fun x => x ≤ es.length) (fun x lz => (10, (iC x)) :: lz) (fun x => [(tB t2), .arr 1 56 2 ((es.take x).map (fun e => (Bv false e).d) ++ (es.drop x).map Entry.d)]) (fun x => es.length - x) (0) ?_ ?_ ?_ ?_
 repeat' first | exact k0 | refine kw ?_ | refine kv ?_ ?_ | omega
 rintro i c hi
 by_cases hlt : i < es.length
 ·have hv : es[i]? = some es[i] := Bh hlt
  have hgc := (hgood _ (Fp hlt)).2
  generalize es[i] = e at hv hgc
  have hv1 := UP (f := fun e => (Bv false e).d) (g := Entry.d) hv
  have hst := map_set (f := fun e => (Bv false e).d) (g := Entry.d) hv
  generalize hA : (es.take i).map (fun e => (Bv false e).d) ++ (es.drop i).map Entry.d = A at hv1 hst
  by_cases hc : e.count < 0
  ·have he : Bv false e = ⟨e.row, -e.count⟩ := if_pos ⟨rfl, hc⟩
   simp only [he] at hst
   have hal : A.length = es.length := by rw [← hA]; simp; omega
   repeat' first | refine kz ?_ | refine AX hv1 ?_ | refine Aw ?_ | refine kg ?_ ?_ | exact k0 | refine Ab ?_ | refine m1 ?_ ?_
   apply Ad (i + 1) <;> (try dsimp only) <;> try repeat' first | exact k0 | refine kw ?_ | refine kv ?_ ?_ | omega
   exact hst
  ·have he : Bv false e = e := if_neg fun q => hc q.2
   simp only [he] at hst
   rw [OA hv1] at hst
   have hal : A.length = es.length := by rw [← hA]; simp; omega
   repeat' first | refine kz ?_ | refine AX hv1 ?_ | refine Aw ?_ | refine kg ?_ ?_ | exact k0 | refine Ab ?_ | refine m1 ?_ ?_
   apply Ad (i + 1) <;> (try dsimp only) <;> try repeat' first | exact k0 | refine kw ?_ | refine kv ?_ ?_ | omega
 ·rw [Ao (show es.length ≤ i by omega), Sd (by omega), List.map_nil, List.append_nil, show (es.map fun e => (Bv false e).d) = (es.map (Bv false)).map Entry.d by rw [Ve]; rfl]
  have hl1 : (es.map (Bv false)).length = es.length := by simp
  have hl2 : ((es.map (Bv false)).map Entry.d).length = es.length := by simp
  repeat' first | refine Bc 9 ?_ (hes := f9) | refine kz ?_ | refine Aa (hnc) ?_ | refine Bb Ae ?_ ?_ | exact k0 | refine Ab ?_ | refine m1 ?_ ?_
end Go.Proofs.YtmpgmjlanngkfaaGreat
end
