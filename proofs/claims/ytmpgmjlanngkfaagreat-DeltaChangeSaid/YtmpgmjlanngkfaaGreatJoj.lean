/-
  Algebra: join.
-/
import Derived.Test.YtmpgmjlanngkfaaGreatExn
import Derived.Test.YtmpgmjlanngkfaaGreatJoq
import Derived.Test.YtmpgmjlanngkfaaGreatRga
import Derived.Test.YtmpgmjlanngkfaaGreatCmf
import Derived.Test.YtmpgmjlanngkfaaGreatAgi
import Derived.Test.YtmpgmjlanngkfaaGreatArz
import Derived.Test.YtmpgmjlanngkfaaGreatRej
import Derived.Test.YtmpgmjlanngkfaaGreatRek
import Derived.Test.YtmpgmjlanngkfaaGreatSum
section
namespace Go.Proofs.YtmpgmjlanngkfaaGreat
open Go.Abs Go.RowKit
attribute [local irreducible] ARun Av MCall PCall HCall Ap SF CF CFs Ag Ai As fin AY VLe
set_option linter.unusedSimpArgs false
set_option maxRecDepth 100000
set_option maxHeartbeats 4000000
structure Vw where
 name : ByteArray
 kind : Int
 left : ByteArray
 right : ByteArray
 on : List (Int × Int)
 wher : List Trm
 items : List Itm
 distinct : Bool
 aggs : List Agg
def Vw.d (v : Vw) : List Dat := [.lit (.string v.name), .lit (.int .i64 v.kind), .lit (.string v.left), .lit (.string v.right), TG v.on, AW v.wher, J8 v.items, .lit (.bool v.distinct), Tz v.aggs]
def Cf (v : Vw) : Bool := v.right.toList == (⟨#[]⟩ : ByteArray).toList
def B8 (v : Vw) : Bool := !Cf v || decide (v.kind = 2)
def Ef (v : Vw) : Bool := decide (v.kind = 0) || decide (v.kind = 1) || decide (v.kind = 2)
def A1 (v : Vw) (l r : List Entry) : Bool := Ef v && (Ay l && (!B8 v || Ay r))
def CN (b c : List Entry) : List Entry × Int := if (AN 1 b c).2 = 0 ∧ Ay (AN 1 b c).1 = true then ((AN 1 b c).1, 0) else ([], 1)
def Dn (v : Vw) (l r dl dr : List Entry) : List Entry × List Entry × Int :=
 if (CN l dl).2 = 0 ∧ B8 v = true then ((CN l dl).1, (CN r dr).1, (CN r dr).2) else ((CN l dl).1, [], (CN l dl).2)
def B3 (J : List Entry → List Entry → List (Int × Int) → List Entry × Int) (v : Vw) (l r : List Entry) : List Entry × Int :=
 if Cf v = true then (l, 0) else J l r v.on
theorem G9 {v : Vw} (h : Cf v = true) : (v.right.toList == (⟨#[]⟩ : ByteArray).toList) = true := h
theorem Ha {v : Vw} (h : Cf v = false) : (v.right.toList == (⟨#[]⟩ : ByteArray).toList) = false := h
theorem J4 (v : Vw) : PC 88 [.agg v.d] (.v (.one (.lit (.bool (B8 v))))) := by
 cases hr : Cf v
 ·rw [show B8 v = true by simp [B8, hr]]
  have h1 := Ha hr
  have h2 : (!(v.right.toList == (⟨#[]⟩ : ByteArray).toList)) = true := by rw [h1]; rfl
  refine Ac hT Tryz.func88 Tryz.ntmps88 [.tmp 2] fun B => ?_
  repeat' first | refine kz ?_ | refine kf ?_ | fail
  all_goals rfl
 ·rw [show B8 v = decide (v.kind = 2) by simp [B8, hr]]
  have h1 := G9 hr
  have h2 : (!(v.right.toList == (⟨#[]⟩ : ByteArray).toList)) = false := by rw [h1]; rfl
  refine Ac hT Tryz.func88 Tryz.ntmps88 [.tmp 2] fun B => ?_
  repeat' first | refine kz ?_ | refine kf ?_ | fail
  all_goals rfl
theorem Hb (v : Vw) (l r : List Entry) : PC 40 [.agg v.d, .one (Ak l), .one (Ak r)] (.v (.one (.lit (.bool (A1 v l r))))) := by
 have hu := J4 v
 have hl := ET l
 have hq := ET r
 unfold A1
 by_cases hk : Ef v = true
 ·rw [hk, Bool.true_and]
  have oN : v.kind = 0 ∨ v.kind = 1 ∨ v.kind = 2 := by simpa [Ef, or_assoc] using hk
  generalize B8 v = u at hu ⊢
  generalize Ay l = pl at hl ⊢
  generalize Ay r = pr at hq ⊢
  obtain h0 | h0 | h0 := oN
  all_goals
   cases pl <;> cases u <;> cases pr
  all_goals
   (refine Ac hT Tryz.func40 Tryz.ntmps40 [.tmp 6] fun B => ?_
    repeat' (first | refine kz ?_ | refine Aa (hl) ?_ | refine Aa (hu) ?_ | refine Aa (hq) ?_ | refine kf ?_ | fail))
  all_goals rfl
 ·have oN : ¬ (v.kind = 0) ∧ ¬ (v.kind = 1) ∧ ¬ (v.kind = 2) := by simpa [Ef, not_or, and_assoc] using hk
  rw [show Ef v = false by simpa using hk, Bool.false_and]
  obtain ⟨h0, h1, h2⟩ := oN
  refine Ac hT Tryz.func40 Tryz.ntmps40 [.tmp 6] fun B => ?_
  repeat' first | refine kz ?_ | refine kf ?_ | fail
  all_goals rfl
theorem QT (b c : List Entry) : PC 149 [.one (Ak b), .one (Ak c)] (Bi (CN b c)) := by
 have ha := Mk b c
 have hp := ET (AN 1 b c).1
 unfold CN
 generalize AN 1 b c = s at ha hp ⊢
 obtain ⟨s, e⟩ := s
 dsimp only at ha hp ⊢
 by_cases he : e = 0
 ·subst he
  cases h : Ay s
  ·rw [h] at hp
   rw [if_neg (by simp)]
   refine Ac hT Tryz.func149 Tryz.ntmps149 [.tmp 4, .tmp 5] fun B => ?_
   repeat' first | refine kz ?_ | refine Aa (ha) ?_ | refine Aa (hp) ?_ | refine kh ?_ ?_ | exact ⟨⟩ | fail
   all_goals rfl
  ·rw [h] at hp
   rw [if_pos ⟨rfl, rfl⟩]
   refine Ac hT Tryz.func149 Tryz.ntmps149 [.tmp 4, .tmp 5] fun B => ?_
   repeat' first | refine kz ?_ | refine Aa (ha) ?_ | refine Aa (hp) ?_ | refine kh ?_ ?_ | exact ⟨⟩ | fail
   all_goals rfl
 ·rw [if_neg fun h => he h.1]
  refine Ac hT Tryz.func149 Tryz.ntmps149 [.tmp 4, .tmp 5] fun B => ?_
  repeat' first | refine kz ?_ | refine Aa (ha) ?_ | refine Aa (hp) ?_ | refine kh ?_ ?_ | exact ⟨⟩ | fail
  all_goals rfl
theorem FK (v : Vw) (l r dl dr : List Entry) : PC 93 [.agg v.d, .one (Ak l), .one (Ak r), .one (Ak dl), .one (Ak dr)] (.tup [.one (Ak (Dn v l r dl dr).1), .one (Ak (Dn v l r dl dr).2.1), .one (.lit (.int .i64 (Dn v l r dl dr).2.2))]) := by
 have hl := QT l dl
 have hr := QT r dr
 have hu := J4 v
 unfold Dn
 generalize CN l dl = x at hl ⊢
 generalize CN r dr = y at hr ⊢
 obtain ⟨x, e⟩ := x
 dsimp only [Bi] at hl hr ⊢
 by_cases he : e = 0
 ·subst he
  cases h : B8 v
  ·rw [h] at hu
   rw [if_neg (by simp)]
   refine Ac hT Tryz.func93 Tryz.ntmps93 [.tmp 10, .tmp 11, .tmp 12] fun B => ?_
   repeat' first | refine kz ?_ | refine Aa (hl) ?_ | refine Aa (hu) ?_ | refine Aa (hr) ?_ | refine kf ?_ | refine C5 Ad ?_ ?_ ?_
   all_goals rfl
  ·rw [h] at hu
   rw [if_pos ⟨rfl, rfl⟩]
   refine Ac hT Tryz.func93 Tryz.ntmps93 [.tmp 10, .tmp 11, .tmp 12] fun B => ?_
   repeat' first | refine kz ?_ | refine Aa (hl) ?_ | refine Aa (hu) ?_ | refine Aa (hr) ?_ | refine kf ?_ | refine C5 Ad ?_ ?_ ?_
   all_goals rfl
 ·rw [if_neg fun h => he h.1]
  refine Ac hT Tryz.func93 Tryz.ntmps93 [.tmp 10, .tmp 11, .tmp 12] fun B => ?_
  repeat' first | refine kz ?_ | refine Aa (hl) ?_ | refine Aa (hu) ?_ | refine Aa (hr) ?_ | refine kf ?_ | refine C5 Ad ?_ ?_ ?_
  all_goals rfl
theorem HS (J : List Entry → List Entry → List (Int × Int) → List Entry × Int) (v : Vw) (l r : List Entry) (hj : Cf v = false → PC 89 [.one (Ak l), .one (Ak r), .one (TG v.on)] (Bi (J l r v.on))) : PC 41 [.agg v.d, .one (Ak l), .one (Ak r)] (Bi (B3 J v l r)) := by
 unfold B3
 cases h : Cf v
 ·have h1 := Ha h
  have hj := hj h
  rw [if_neg (by simp)]
  generalize J l r v.on = x at hj ⊢
  dsimp only [Bi] at hj ⊢
  refine Ac hT Tryz.func41 Tryz.ntmps41 [.tmp 6, .tmp 7] fun B => ?_
  repeat' first | refine kz ?_ | refine Aa (hj) ?_ | refine kh ?_ ?_ | exact ⟨⟩ | fail
  all_goals rfl
 ·have h1 := G9 h
  rw [if_pos rfl]
  refine Ac hT Tryz.func41 Tryz.ntmps41 [.tmp 6, .tmp 7] fun B => ?_
  repeat' first | refine kz ?_ | refine kh ?_ ?_ | exact ⟨⟩ | fail
  all_goals rfl
def JE (G : List Entry → List Itm → List Agg → List Entry × Int) (v : Vw) (j : List Entry) : List Entry × Int :=
 if v.kind = 1 then G (A9 j v.wher) v.items v.aggs
 else if (DD (A9 j v.wher) (v.items.map Itm.expr)).2 = 0 then
  (if v.distinct = true then (BL (DD (A9 j v.wher) (v.items.map Itm.expr)).1, 0) else ((DD (A9 j v.wher) (v.items.map Itm.expr)).1, 0))
 else ([], (DD (A9 j v.wher) (v.items.map Itm.expr)).2)
theorem QU (G : List Entry → List Itm → List Agg → List Entry × Int) (v : Vw) (j : List Entry) (kJ : v.items.length ≤ 10000) (hg : v.kind = 1 → PC 90 [.one (Ak (A9 j v.wher)), .one (J8 v.items), .one (Tz v.aggs)] (Bi (G (A9 j v.wher) v.items v.aggs))) : PC 42 [.agg v.d, .one (Ak j)] (Bi (JE G v j)) := by
 have hw := N6 j v.wher
 unfold JE
 generalize A9 j v.wher = W at hw hg ⊢
 by_cases hk : v.kind = 1
 ·rw [if_pos hk]
  have hg := hg hk
  generalize G W v.items v.aggs = x at hg ⊢
  dsimp only [Bi] at hg ⊢
  refine Ac hT Tryz.func42 Tryz.ntmps42 [.tmp 4, .tmp 5] fun B => ?_
  repeat' first | refine kz ?_ | refine Ao ?_ | refine Aa (hw) ?_ | refine Aa (hg) ?_ | refine kh ?_ ?_ | exact ⟨⟩ | fail
  all_goals rfl
 rw [if_neg hk]
 clear hg
 have hm := eV W (v.items.map Itm.expr)
 have hs := UT (DD W (v.items.map Itm.expr)).1
 have vT : (v.items.map Itm.expr).length = v.items.length := BR _
 have tI : ∀ i it, v.items[i]? = some it → (v.items.map Itm.expr)[i]? = some (Itm.expr it) := fun i it h => by rw [BU, h]; rfl
 generalize DD W (v.items.map Itm.expr) = m at hm hs ⊢
 obtain ⟨m, e⟩ := m
 generalize v.items.map Itm.expr = E at hm vT tI
 dsimp only [Bi, Fi] at hm hs ⊢
 refine Ac hT Tryz.func42 Tryz.ntmps42 [.tmp 4, .tmp 5] fun B => ?_
 repeat' first | refine kz ?_ | refine Ao ?_ | refine Aa (hw) ?_ | refine kh ?_ ?_ | exact ⟨⟩ | fail
 refine Bv 7 26 1 ?_
 refine AK (X := Nat × Nat) ([7, 9] ++ List.range' 30 10) (fun x => x.1 ≤ v.items.length) (fun x lz => (7, .c (.arr 1 x.2 (E.take x.1).length)) :: (30, (iC x.1)) :: lz) (fun x => [.box 1 (v.d.map .d), .arr x.2 26 1 ((E.take x.1).map fun s => [AW s])]) (fun x => v.items.length - x.1) ((0, 2)) ?_ ?_ ?_ ?_
 repeat' first | exact k0 | refine kw ?_ | refine kv ?_ ?_ | omega
 rintro ⟨i, k⟩ c0 hi
 dsimp only at hi ⊢
 by_cases i7 : i < v.items.length
 ·obtain ⟨it, hv⟩ := gx i7
  have ju : E.take (i + 1) = E.take i ++ [it.expr] := by rw [Gm, tI i it hv]; rfl
  have qk : (E.take i).length = i := by simp; omega
  repeat' first | refine kz ?_ | refine AF hv ?_ | refine Ao ?_ | refine kh ?_ ?_ | exact ⟨⟩ | fail
  apply Af ((i + 1, _)) <;> (try dsimp only) <;> try repeat' first | exact k0 | refine w1 ?_ | refine Ab ?_ | refine m1 ?_ ?_ | omega
  all_goals (rw [ju]; simp)
 ·have k8 : i = E.length := by omega
  subst k8
  rw [Ir]
  by_cases he : e = 0
  ·subst he
   rw [if_pos rfl]
   cases hd : v.distinct
   ·rw [if_neg (by simp)]
    repeat' first | refine Ax 7 ?_ (j6 := show List.take E.length (E.map fun s => [AW s]) = (E.map fun s => [AW s]) from JF (by simp)) | refine kz ?_ | refine Ao ?_ | refine Aa (hm) ?_ | refine Aw Ad ?_ ?_ | refine Bq ?_ | refine BC ?_
    all_goals rfl
   ·rw [if_pos rfl]
    repeat' first | refine Ax 7 ?_ (j6 := show List.take E.length (E.map fun s => [AW s]) = (E.map fun s => [AW s]) from JF (by simp)) | refine kz ?_ | refine Ao ?_ | refine Aa (hm) ?_ | refine Aa (hs) ?_ | refine Aw Ad ?_ ?_ | refine Bq ?_ | refine BC ?_
    all_goals rfl
  ·rw [if_neg he]
   repeat' first | refine Ax 7 ?_ (j6 := show List.take E.length (E.map fun s => [AW s]) = (E.map fun s => [AW s]) from JF (by simp)) | refine kz ?_ | refine Ao ?_ | refine Aa (hm) ?_ | refine Aw Ad ?_ ?_ | refine Bq ?_ | refine BC ?_
   all_goals rfl
end Go.Proofs.YtmpgmjlanngkfaaGreat
end
section
namespace Go.Abs
open Go.RowKit
variable {es : List (List Dat)} {i6 k o r : Nat} {iX : TypeId} {i : TI} {x : Operand}
section
variable {P : Program} {T : TypeId → Option TI} {F0 : Nat → Prop} {w0 : World}
variable {dr : Bool} {ops rest : List Oper} {K : St → Prop} {n : Nat} {sl : List (Nat × SVal)} {mem : List Blk} {ck : Nat} {df : List (FuncId × List Cell)} {acc : List Nat}
variable {d : Tmp} {op : Op} {ty : TypeId} {pos : String} {iU : Array Edge} {g : Option (Nat × Bool)}
theorem KO [tc : TC P T] (r : Nat) {f : Operand} {fv : SVal} {args : Array Operand} {mT : Array TypeId} {mw : FuncId} {lg mb : List Cell} {y y2 z : Dat} {f' : List Blk} (hp : HCall P mw [.c (.bp 0 0 0), .c (.d y), .c (.d y2)] [.box 0 lg] (.c (.d z)) [.box 0 mb]) (h : Reg P F0 w0 dr ops K rest ⟨n, (d, .c (.d z)) :: sl, f', ck, df⟩ (BS r false :: acc))
  (hw : GW ops g sl := by first | exact trivial | exact rfl) (hf : AH sl f = fv := by exact rfl) (hc : Cr fv = some (mw, []) := by exact rfl) (has : args.toList.map (AH sl) = [.c (.bp r k 0), .c (.d y), .c (.d y2)] := by exact rfl) (hm : mem[r]? = some (.box k lg) := by exact rfl) (u0 : ∀ ρ ν, Cell.ups ρ ν lg = lg := by intro _ _; simp only [Cell.ups, Cell.up]) (u1 : ∀ ρ ν, Cell.ups ρ ν mb = mb := by intro _ _; simp only [Cell.ups, Cell.up]) (iZ : mem.set r (.box k mb) = f' := by exact rfl) :
  Reg P F0 w0 dr ops K (⟨some d, .call ⟨.value f, args, mT⟩, ty, pos, iU, g⟩ :: rest) ⟨n, sl, mem, ck, df⟩ acc := by
 subst iZ
 refine eM (bd := 0) hw hm (Nat.zero_le _) (fun M c hM _ => Does.of tc.ok fun τ he jn je Kk hK => ?_) h
 subst jn; subst je
 have i7 := lt_of_getElem? hM
 have hv : Ch τ.mem r = k := by simp [Ch, hM, Blk.vers]
 have hq := HCall.frame0 (F0 := F0) (w0 := w0) (mem := τ.mem) (ck := τ.clock) (oL := [.c (.bp r k 0), .c (.d y), .c (.d y2)]) [r] hp rfl (by simp) (by simpa using i7) rfl (fun i b0 hb => by
  cases i with
  | zero =>
    simp only [List.getElem?_cons_zero, Option.some.injEq] at hb
    subst hb
    simp only [Blk.up, u0, AA, Dr, hv]
    exact hM
  | succ i => simp at hb) (by
  simp only [List.map_cons, List.map_nil, SVal.up, Cell.up, AA, Dr, hv]
  exact FE DM (FE DM (FE DM trivial)))
 obtain ⟨e1, e2⟩ := IF he
 rw [hf] at e1
 have rC : args.toList.map (AH sl) ++ ([] : List Cell).map .c = [.c (.bp r k 0), .c (.d y), .c (.d y2)] := by rw [has]; rfl
 simp only [AV, DQ, e1, hc, e2, rC]
 refine ⟨hq.1, fun E w vs q1 q2 q3 => Calls.mono (hq.2 E w vs q1 q2 q3) fun _ _ ⟨v', E', rr, m, c, p1, p2, p3, p4, p5, p6, p7⟩ => ⟨v', E', rr, m, c, p1, p2, p3, p4, ?_⟩⟩
 subst p5; subst p6; subst p7
 have em : H9 τ.mem [r] (Gj (AA [r] τ.mem.length) (Dr τ.mem (AA [r] τ.mem.length) τ.clock) [.box 0 mb] 0) = τ.mem.set r (.box k mb) := by
  simp only [Gj, Blk.up, u1, AA, Dr, hv, H9, List.append_nil]
 rw [em]
 exact hK _ _ _ _ ⟨rfl, rfl, rfl, rfl⟩
theorem HZ [tc : TC P T] {cs : List Cell}
  (h : Reg P F0 w0 dr ops K rest ⟨n, (d, .c (.bp r k o)) :: sl, mem, ck, df⟩ (BS r true :: acc)) (hw : GW ops g sl := by first | exact trivial | exact rfl) (hx : AH sl x = .c (.bp r k o) := by exact rfl) (hm : mem[r]? = some (.box k cs) := by exact rfl) :
  Reg P F0 w0 dr ops K (⟨some d, .nilCheck x, ty, pos, iU, g⟩ :: rest) ⟨n, sl, mem, ck, df⟩ acc :=
 NP hw hm (fun mem ck hm => BF fun E w ρ j0 hρ => by
  have e1 := hρ x (by simp [Op.operands])
  rw [hx] at e1
  have hv := (j0.mem.ok r _ hm).1
  have e2 := e1.bp_inv hv
  exact ⟨ρ x, w, E, by simp [execOp, e2], EnvLe.refl _ _, j0, e1⟩) h
theorem VL [tc : TC P T] {t e : TypeId} {m : Nat} (h : Reg P F0 w0 dr ops K rest ⟨n, (d, .c (.d (.lit (.int .i64 m)))) :: sl, mem, ck, df⟩ (BS r true :: acc)) (hw : GW ops g sl := by first | exact trivial | exact rfl) (hx : AH sl x = .c (.arr r k m) := by exact rfl) (ht : T t = some i := by exact rfl) (hi : i.desc = .slice e := by exact rfl) (hm : mem[r]? = some (.arr k iX i6 es) := by exact rfl) :
  Reg P F0 w0 dr ops K (⟨some d, .call ⟨.builtin .len, #[x], #[t]⟩, ty, pos, iU, g⟩ :: rest) ⟨n, sl, mem, ck, df⟩ acc :=
 NP hw hm (fun mem ck hm => Does.of tc.ok fun τ he jn je Kk hK => by
  subst jn; subst je
  have ex := he x (by simp [Op.operands, Call.operands])
  rw [hx] at ex
  obtain ⟨a1, a2, a3, a4, a5⟩ := i
  simp only at hi
  subst hi
  simp only [AV, DQ, Nq, ht, ex, C1, hm]
  exact ⟨trivial, hK _ _ _ _ ⟨rfl, rfl, rfl, rfl⟩⟩) h
theorem VM [tc : TC P T] {s : TypeId} {f : Nat} {j : TI} {fs : List (Nat × TypeId)} {off : Nat} {ft : TypeId} {z : Nat} (h : Reg P F0 w0 dr ops K rest ⟨n, (d, .c (.ap r k i6 z (o + off))) :: sl, mem, ck, df⟩ (BS r true :: acc)) (hw : GW ops g sl := by first | exact trivial | exact rfl) (hx : AH sl x = .c (.ap r k i6 z o) := by exact rfl) (hs : T s = some i := by exact rfl) (hi : i.desc = .struct fs := by exact rfl) (hf : fs[f]? = some (off, ft) := by exact rfl) (hj : T ft = some j := by exact rfl) (hz : decide (j.size ≠ 0) = true := by exact rfl) (hm : mem[r]? = some (.arr k iX i6 es) := by exact rfl) :
  Reg P F0 w0 dr ops K (⟨some d, .fieldAddr s x f, ty, pos, iU, g⟩ :: rest) ⟨n, sl, mem, ck, df⟩ acc :=
 NP hw hm (fun mem ck hm => Does.of tc.ok fun τ he jn hc Kk hK => by
  subst jn; subst hc
  have ex := he x (by simp [Op.operands])
  rw [hx] at ex
  obtain ⟨a1, a2, a3, a4, a5⟩ := i
  simp only at hi
  subst hi
  simp only [AV, FM, hs, hf, hj, ex, C1, hm]
  exact ⟨by simpa using hz, trivial, hK _ _ _ _ ⟨rfl, rfl, rfl, rfl⟩⟩) h
theorem VN [tc : TC P T] {t : TypeId} {j : Nat} {e : List Dat} {y : Dat} (h : Reg P F0 w0 dr ops K rest ⟨n, (d, .c (.d y)) :: sl, mem, ck, df⟩ (BS r true :: acc)) (kd : es[j]? = some e) (hw : GW ops g sl := by first | exact trivial | exact rfl) (hx : AH sl x = .c (.ap r k i6 j o) := by exact rfl) (ht : T t = some i := by exact rfl) (ha : i.desc.agg = false := by exact rfl) (hs : i.size = 1 := by exact rfl) (hm : mem[r]? = some (.arr k iX i6 es) := by exact rfl) (hy : e[o]? = some y := by exact rfl) :
  Reg P F0 w0 dr ops K (⟨some d, .load t x, ty, pos, iU, g⟩ :: rest) ⟨n, sl, mem, ck, df⟩ acc :=
 NP hw hm (fun mem ck hm => Does.of tc.ok fun τ he jn hc Kk hK => by
  subst jn; subst hc
  have ex := he x (by simp [Op.operands])
  rw [hx] at ex
  have i7 := lt_of_getElem? hy
  have e1 : (e.drop o).take 1 = [y] := by
   rw [aQ i7]
   rw [Bo i7] at hy
   simp at hy
   simp [hy]
  simp only [AV, Du, ht, ex, ha, hs, hm]
  refine ⟨.inr trivial, trivial, trivial, Cg kd ⟨i7, ?_⟩⟩
  rw [e1]
  exact hK _ _ _ _ ⟨rfl, rfl, rfl, rfl⟩) h
end
end Go.Abs
end
section
namespace Go.Proofs.YtmpgmjlanngkfaaGreat
open Go.Abs Go.RowKit
attribute [local irreducible] ARun Av MCall PCall HCall Ap SF CF CFs Ag Ai As fin AY VLe
set_option linter.unusedSimpArgs false
set_option maxRecDepth 100000
set_option maxHeartbeats 4000000
variable {A : List (Bs × Int)} {b : List Entry} {c key : Bs} {e : Bs × Nat × List (Bs × Int)} {i j k : Nat} {l9 : List Int} {y : Entry}
abbrev PL := List (Bs × Nat × List (Bs × Int))
def MT (L : PL) : List (Value × Cell) := L.mapIdx fun i e => (.string ⟨e.1.toArray⟩, .arr (i + 2) e.2.1 e.2.2.length)
def Q0 (L : PL) : List Blk := L.map fun e => .arr e.2.1 200 2 (e.2.2.map Hv)
def YU (L : PL) : List (Value × Dat) := L.map fun e => (.string ⟨e.1.toArray⟩, .sl (e.2.2.map Hv))
theorem S1 {L : PL} (h : L[i]? = some e) : (MT L)[i]? = some (.string ⟨e.1.toArray⟩, .arr (i + 2) e.2.1 e.2.2.length) := by simp [MT, h]
theorem S2 {L : PL} (h : L[i]? = some e) : (Q0 L)[i]? = some (.arr e.2.1 200 2 (e.2.2.map Hv)) := by simp [Q0, h]
theorem IN (L : PL) : ∀ e ∈ MT L, JW e.1 := fun e he => by
 simp only [MT, List.mem_mapIdx] at he
 obtain ⟨i, hi, rfl⟩ := he
 exact ⟨_, rfl⟩
theorem S3 {L : PL} (h : ∀ e ∈ L, e.1 ≠ c) : ∀ e ∈ MT L, e.1 ≠ Value.string ⟨c.toArray⟩ := fun e he q => by
 simp only [MT, List.mem_mapIdx] at he
 obtain ⟨i, hi, rfl⟩ := he
 exact h _ (Fo hi) (Lj q)
theorem YV {L : PL} (hj : L[j]? = some e) : (MT L).set j (.string ⟨c.toArray⟩, .arr (j + 2) k A.length) = MT (L.set j (c, k, A)) := by
 apply Sa
 intro i
 by_cases jY : j = i
 ·subst jY
  rw [J5 (by have := lt_of_getElem? hj; simpa [MT] using this), S1 (J5 (lt_of_getElem? hj))]
 ·rw [J7 jY]
  simp [MT, J7 jY]
theorem YW (L : PL) (j k : Nat) (c : Bs) (A : List (Bs × Int)) : (Q0 L).set j (.arr k 200 2 (A.map Hv)) = Q0 (L.set j (c, k, A)) := by simp [Q0, Sb]
theorem WX (L : PL) (k : Nat) (c : Bs) (A : List (Bs × Int)) : MT L ++ [(.string ⟨c.toArray⟩, .arr (L.length + 2) k A.length)] = MT (L ++ [(c, k, A)]) := by simp [MT, List.mapIdx_append]
theorem WY (L : PL) (k : Nat) (c : Bs) (A : List (Bs × Int)) : Q0 L ++ [.arr k 200 2 (A.map Hv)] = Q0 (L ++ [(c, k, A)]) := by simp [Q0]
theorem YX (L : PL) : (Q0 L).length = L.length := by simp [Q0]
structure POk (b : List Entry) (l9 : List Int) (L : PL) : Prop where
 here : ∀ e ∈ L, e.2.2 = Dc b l9 e.1 ∧ e.2.2 ≠ []
 not : ∀ key, (∀ e ∈ L, e.1 ≠ key) → Dc b l9 key = []
theorem POk.other {L : PL} (h : POk b l9 L) (hy : Eu y.row l9 = none) : POk (b ++ [y]) l9 L :=
 ⟨fun e he => by rw [CL, hy]; simpa using h.here e he, fun key hk => by rw [CL, hy]; simpa using h.not key hk⟩
theorem POk.old {L : PL} (h : POk b l9 L) (hy : Eu y.row l9 = some key) (hj : L[j]? = some e) (hk : e.1 = key) (mQ : (L.map Prod.fst).Nodup) (_ : True) : POk (b ++ [y]) l9 (L.set j (key, k, e.2.2 ++ [Ca y])) := by
 have hl := lt_of_getElem? hj
 refine ⟨fun x hx => ?_, fun pA rK => ?_⟩
 ·obtain ⟨i, hi⟩ := L0.1 hx
  by_cases jY : j = i
  ·subst jY
   rw [J5 hl] at hi
   simp only [Option.some.injEq] at hi
   subst hi
   rw [CL, hy, if_pos rfl, ← hk, ← (h.here e (Cb hj)).1]
   exact ⟨rfl, by simp⟩
  ·rw [J7 jY] at hi
   have j2 : ¬ some key = some x.1 := fun q => by
    simp only [Option.some.injEq] at q
    have h1 : (L.map Prod.fst)[j]? = some key := by rw [BU, hj, ← hk]; rfl
    have h2 : (L.map Prod.fst)[i]? = some key := by rw [BU, hi, q]; rfl
    rcases Nat.lt_or_gt_of_ne jY with q1 | q1
    ·exact XQ.1 mQ j i (lt_of_getElem? h1) (lt_of_getElem? h2) q1 (by rw [Bo (lt_of_getElem? h1)] at h1; rw [Bo (lt_of_getElem? h2)] at h2; rw [aZ h1, aZ h2])
    ·exact XQ.1 mQ i j (lt_of_getElem? h2) (lt_of_getElem? h1) q1 (by rw [Bo (lt_of_getElem? h1)] at h1; rw [Bo (lt_of_getElem? h2)] at h2; rw [aZ h1, aZ h2])
   rw [CL, hy, if_neg j2, List.append_nil]
   exact h.here x (Cb hi)
 ·have j2 : ¬ some key = some pA := fun q => by
   simp only [Option.some.injEq] at q
   exact rK (key, k, e.2.2 ++ [Ca y]) (Cb (J5 hl)) q
  rw [CL, hy, if_neg j2, List.append_nil]
  refine h.not pA fun x hx q => ?_
  obtain ⟨i, hi⟩ := L0.1 hx
  by_cases jY : j = i
  ·subst jY
   rw [hj] at hi
   simp only [Option.some.injEq] at hi
   subst hi
   exact j2 (by rw [← hk, q])
  ·exact rK x (Cb (by rw [J7 jY]; exact hi)) q
theorem POk.new {L : PL} (h : POk b l9 L) (hy : Eu y.row l9 = some key) (hn : ∀ e ∈ L, e.1 ≠ key) : POk (b ++ [y]) l9 (L ++ [(key, k, [Ca y])]) := by
 refine ⟨fun x hx => ?_, fun pA rK => ?_⟩
 ·rcases EY.1 hx with hx | hx
  ·have j2 : ¬ some key = some x.1 := fun q => by simp only [Option.some.injEq] at q; exact hn x hx q.symm
   rw [CL, hy, if_neg j2, List.append_nil]
   exact h.here x hx
  ·obtain rfl := Ke.1 hx
   rw [CL, hy, if_pos rfl, h.not key hn]
   exact ⟨rfl, by simp⟩
 ·have j2 : ¬ some key = some pA := fun q => by simp only [Option.some.injEq] at q; exact rK (key, k, [Ca y]) (by simp) q
  rw [CL, hy, if_neg j2, List.append_nil]
  exact h.not pA fun x hx => rK x (by simp [hx])
theorem Um {L : PL} (hj : L[j]? = some e) (h : (L.map Prod.fst).Nodup) : ((L.set j (e.1, k, A)).map Prod.fst).Nodup := by
 rw [Sb, DV (by rw [BU, hj]; rfl)]; exact h
theorem Un {L : PL} (hn : ∀ e ∈ L, e.1 ≠ key) (h : (L.map Prod.fst).Nodup) : ((L ++ [(key, k, A)]).map Prod.fst).Nodup := by
 rw [Ag', ZD]
 refine ⟨h, by simp, fun x hx y hy q => ?_⟩
 obtain ⟨e, he, rfl⟩ := List.mem_map.1 hx
 simp only [List.map_cons, List.map_nil, Ke] at hy
 exact hn e he (q.trans hy)
theorem WZ (L : PL) (key : Bs) : (∃ (j : Nat) (e : Bs × Nat × List (Bs × Int)), L[j]? = some e ∧ e.1 = key) ∨ ∀ e ∈ L, e.1 ≠ key := by
 by_cases h : ∃ e ∈ L, e.1 = key
 ·obtain ⟨e, he, hk⟩ := h
  obtain ⟨j, hj⟩ := L0.1 he
  exact .inl ⟨j, e, hj, hk⟩
 ·exact .inr fun e he hk => h ⟨e, he, hk⟩
theorem MU {row : List Val} {cs : List Int} (h : Eu row cs = some key) : Yk (B9 row cs) = .tup [.one (Dq key), .one (.lit (.bool true))] := by
 unfold Eu at h
 cases hq : B9 row cs with
 | none => rw [hq] at h; cases h
 | some l => rw [hq] at h; simp only [Option.map_some, Option.some.injEq] at h; subst h; rfl
theorem MV {row : List Val} {cs : List Int} (h : Eu row cs = none) : Yk (B9 row cs) = .tup [.one (Dq []), .one (.lit (.bool false))] := by
 unfold Eu at h
 cases hq : B9 row cs with
 | none => rfl
 | some l => rw [hq] at h; cases h
theorem Lk (L : PL) : ∀ e ∈ YU L, JW e.1 := fun e he => by
 obtain ⟨x, _, rfl⟩ := List.mem_map.1 he
 exact ⟨_, rfl⟩
theorem YY {L : PL} (h : L[i]? = some e) : (YU L)[i]? = some (.string ⟨e.1.toArray⟩, .sl (e.2.2.map Hv)) := by simp [YU, h]
theorem YZ {L : PL} (h : ∀ e ∈ L, e.1 ≠ c) : ∀ e ∈ YU L, e.1 ≠ Value.string ⟨c.toArray⟩ := fun e he q => by
 obtain ⟨x, hx, rfl⟩ := List.mem_map.1 he
 exact h x hx (Lj q)
theorem MW {r : List Val} (h : AR r = true) : (Ar r).length ≤ 100000 := by
 have := H5 r
 have := Dd h
 omega
theorem cg (a b : List Entry) (on : List (Int × Int)) (jM : a.length ≤ 4096) (oI : b.length ≤ 4096) (oz : on.length ≤ 10000) (ha : ∀ e ∈ a, AR e.row = true ∧ (-262144 ≤ e.count ∧ e.count ≤ 262144)) (hb : ∀ e ∈ b, AR e.row = true ∧ (-262144 ≤ e.count ∧ e.count ≤ 262144)) (R : List Entry × Int)
  (hR : match P8 a b on with | none => R = ([], 8) | some r => ∃ rs : List Entry, r = rs.map Ca ∧ (∀ e ∈ rs, AR e.row = true) ∧ R = if rs.all (fun e => AD e.count) then (sortF Ed rs, 0) else ([], 9)) :
  PC 143 [.one (Ak a), .one (Ak b), .one (TG on)] (.tup [.one (Ak R.1), .one (.lit (.int .i64 R.2))]) := by
 refine Ac hT Tryz.func143 Tryz.ntmps143 [.tmp 6, .tmp 7] fun B => ?_
 repeat' first | refine kz ?_ | refine Ao ?_ | refine kh ?_ ?_ | exact ⟨⟩ | fail
 refine Xg 0 ?_
 refine AK (X := Nat × PL) ([10, 11, 12] ++ List.range' 21 26) (fun x => x.1 ≤ b.length ∧ POk (b.take x.1) (on.map Prod.snd) x.2 ∧ (x.2.map Prod.fst).Nodup) (fun x lz => (21, (iC x.1)) :: lz) (fun x => .mapc 1 9 198 (MT x.2) :: .dead :: Q0 x.2) (fun x => b.length - x.1) ((0, [])) ?_ ?_ ?_ ?_
 repeat' first | exact k0 | refine kw ?_ | omega
 ·exact Qm
 ·exact ⟨by simp, ⟨by simp, by simp [Dc]⟩, by simp⟩
 rintro ⟨i, L⟩ c ⟨hi, hP, hN⟩
 dsimp only at hi hP hN ⊢
 by_cases i7 : i < b.length
 ·have hv : b[i]? = some b[i] := Bo i7
  obtain ⟨mu, nT⟩ := hb _ (Fo i7)
  generalize b[i] = y at hv mu nT
  have ju : b.take (i + 1) = b.take i ++ [y] := by rw [Gm, hv]; rfl
  have lQ := VK y.row on oz
  have mJ := CJ y.row (by have := Dd mu; omega)
  cases hk : Eu y.row (on.map Prod.snd) with
  | none =>
    rw [MV hk] at lQ
    have qE := hP.other hk
    repeat' first | refine DI 1 (f' := _ :: _ :: _) ?_ (iZ := rfl) | refine EN (f' := _ :: _ :: _) ?_ (iZ := rfl) | refine kz ?_ | refine AF hv ?_ | refine Ao ?_ | refine Aa (lQ) ?_ | refine Aa (mJ) ?_ | refine Aw Ad ?_ ?_ | refine Bq ?_ | refine BC ?_ | refine H7 rfl rfl ?_ ?_
    apply Af ((i + 1, L)) <;> (try dsimp only) <;> try repeat' first | exact k0 | refine kw ?_ | omega
    · exact FG
    · exact ⟨by omega, by rw [ju]; exact qE, hN⟩
  | some key =>
    rw [MU hk] at lQ
    have xG : ∀ e ∈ L, e.2.2.length ≤ 4096 := fun e he => by rw [(hP.here e he).1]; have := Jq (b.take i) (on.map Prod.snd) e.1; simp at this; omega
    rcases WZ L key with ⟨j, e, hj, he⟩ | hn
    · obtain ⟨c1, k1, A⟩ := e
      have nD := xG _ (Cb hj)
      dsimp only at he nD
      subst he
      have mv := S1 hj
      have nA := S2 hj
      dsimp only at mv nA
      have qE := fun k => hP.old (k := k) hk hj rfl hN trivial
      have vU := fun k => Um (k := k) (A := A ++ [Ca y]) hj hN
      repeat' first | refine DI 1 (f' := _ :: _ :: _) ?_ (iZ := rfl) | refine EN (f' := _ :: _ :: _) ?_ (iZ := rfl) | refine kz ?_ | refine AF hv ?_ | refine Ao ?_ | refine Aa (lQ) ?_ | refine Aa (mJ) ?_ | refine Y9 mv ⟨_, rfl⟩ (IN _) ?_ | refine NY (f' := _ :: _ :: (Q0 L).set j _) ?_ (hm := nA) (iZ := rfl) | refine UE (f' := _ :: _ :: _) mv ⟨_, rfl⟩ (IN _) ?_ (iZ := rfl) | refine Aw Ad ?_ ?_ | refine Bq ?_ | refine BC ?_ | refine H7 rfl rfl ?_ ?_
      have hE := YV (k := c + 1 + 1) (c := c1) (A := A ++ [Ca y]) hj
      have hI := YW L j (c + 1 + 1) c1 (A ++ [Ca y])
      rw [CR] at hE
      rw [Ag'] at hI
      have oY : (MT L).set j (Value.string ⟨c1.toArray⟩, Cell.arr (j + 2) (c + 1 + 1) (A.length + [[Dat.lit (Value.string ⟨(Ar y.row).toArray⟩), Dat.lit (Value.int .i64 y.count)]].length)) = _ := hE
      have oZ : (Q0 L).set j (Blk.arr (c + 1 + 1) 200 2 (A.map Hv ++ [[Dat.lit (Value.string ⟨(Ar y.row).toArray⟩), Dat.lit (Value.int .i64 y.count)]])) = _ := hI
      have qO := qE (c + 1 + 1)
      have sH := vU (c + 1 + 1)
      rw [← ju] at qO
      dsimp only at qO sH
      generalize L.set j (c1, c + 1 + 1, A ++ [Ca y]) = L2 at oY oZ qO sH
      rw [oY, oZ]
      apply Af ((i + 1, L2)) <;> (try dsimp only) <;> try repeat' first | exact k0 | refine kw ?_ | omega
      · exact FG
      · exact ⟨by omega, qO, sH⟩
    · have qE := fun k => hP.new (k := k) hk hn
      have vU := fun k => Un (k := k) (A := [Ca y]) hn hN
      repeat' first | refine DI 1 (f' := _ :: _ :: _) ?_ (iZ := rfl) | refine EN (f' := _ :: _ :: _) ?_ (iZ := rfl) | refine kz ?_ | refine AF hv ?_ | refine Ao ?_ | refine Aa (lQ) ?_ | refine Aa (mJ) ?_ | refine Xe (by kernel_rfl) (S3 hn) ⟨_, rfl⟩ (IN _) ?_ | refine NW (r := L.length + 2) (f' := _ :: _ :: (Q0 L ++ [_])) ?_ (hr := by simp [YX]) (iZ := rfl) | refine UD (f' := _ :: _ :: _) (S3 hn) ⟨_, rfl⟩ (IN _) ?_ (iZ := rfl) | refine Aw Ad ?_ ?_ | refine Bq ?_ | refine BC ?_ | refine H7 rfl rfl ?_ ?_
      have hE := WX L (c + 1 + 1) key [Ca y]
      have hI := WY L (c + 1 + 1) key [Ca y]
      have oY : MT L ++ [(Value.string ⟨key.toArray⟩, Cell.arr (L.length + 2) (c + 1 + 1) 1)] = _ := hE
      have oZ : Q0 L ++ [Blk.arr (c + 1 + 1) 200 2 [[Dat.lit (Value.string ⟨(Ar y.row).toArray⟩), Dat.lit (Value.int .i64 y.count)]]] = _ := hI
      have qO := qE (c + 1 + 1)
      have sH := vU (c + 1 + 1)
      rw [← ju] at qO
      generalize L ++ [(key, c + 1 + 1, [Ca y])] = L2 at oY oZ qO sH
      rw [oY, oZ]
      apply Af ((i + 1, L2)) <;> (try dsimp only) <;> try repeat' first | exact k0 | refine kw ?_ | omega
      · exact FG
      · exact ⟨by omega, qO, sH⟩
 ·have k8 : i = b.length := by omega
  subst k8
  rw [Ir] at hP
  have zn : ∀ (i : Nat) (kv : Value) (x : Cell), (MT L)[i]? = some (kv, x) → ∃ y, (YU L)[i]? = some (kv, y) ∧ eW (Blk.mapc 1 9 198 (MT L) :: Blk.dead :: Q0 L) 2 x y := by
    intro i kv x hx
    simp only [MT, dC, gf] at hx
    obtain ⟨e, he, hx⟩ := hx
    simp only [HK] at hx
    obtain ⟨rfl, rfl⟩ := hx
    refine ⟨.sl (e.2.2.map Hv), by simp [YU, he], by omega, 200, 2, e.2.2.map Hv, S2 he, by simp, by rw [JF (by simp)]⟩
  refine cj 2 0 (YU L) ?_ rfl (by decide) (by simp [YU, MT]) zn rfl
  repeat' first | refine kz ?_ | refine Ao ?_ | refine kh ?_ ?_ | exact ⟨⟩ | fail
  refine Xf 2 ?_
  refine IH 3 0 232 2 ?_
  refine IH 3 2 200 2 ?_
  refine AK (X := Nat × JS × Nat × Nat) ([6, 7, 15, 16, 17] ++ List.range' 52 33) (fun x => x.1 ≤ a.length ∧ G0 b on (a.take x.1) ([], [], []) = some x.2.1 ∧ JOk x.1 4096 x.2.1) (fun x lz => (52, (iC x.1)) :: lz) (fun x => [.mapb 1 9 198 (YU L), .dead, .mapb (c + 1) 9 2 (x.2.1.2.1.map Lh), .box (c + 1 + 1) [.arr 4 x.2.2.1 x.2.1.1.length, .mp 2 (c + 1), .arr 5 x.2.2.2 x.2.1.2.2.length], .arr x.2.2.1 232 2 (x.2.1.1.map Lev.d), .arr x.2.2.2 200 2 (x.2.1.2.2.map Hv)]) (fun x => a.length - x.1) ((0, ([], [], []), c + 1 + 1 + 1, c + 1 + 1 + 1 + 1)) ?_ ?_ ?_ ?_
  repeat' first | exact k0 | refine kw ?_ | omega
  · exact ⟨by simp, by simp [G0], ⟨by simp, by simp, fun e he => by simp at he, by simp⟩⟩
  rintro ⟨i, ⟨st, s, r⟩, k4, k5⟩ c2 ⟨kr, j7, hJ⟩
  dsimp only at kr j7 hJ ⊢
  have zo : st.length ≤ i := hJ.st
  have qq : st.length ≤ 100000 := by omega
  have kc : ∀ l ∈ st, l.opened.length ≤ 100000 := fun l hl => by have := hJ.op l hl; omega
  have mM : r.length ≤ 4096 := hJ.rs
  by_cases jk : i < a.length
  · have hv : a[i]? = some a[i] := Bo jk
    obtain ⟨mu, nT⟩ := ha _ (Fo jk)
    generalize a[i] = u at hv mu nT
    have lQ := VJ u.row on oz
    have mJ := CJ u.row (by have := Dd mu; omega)
    obtain ⟨lu, om⟩ := Uo hv j7
    have vV := fun q' (h : Dv b on (st, s, r) u = some q') => W0 hJ oI (fun y hy => (hb y hy).2) nT h
    cases hk : Eu u.row (on.map Prod.fst) with
    | none =>
      rw [MV hk] at lQ
      have kp : Dv b on (st, s, r) u = some (st, s, r) := by unfold Dv; rw [hk]
      rw [kp] at lu
      have rS := vV _ kp
      repeat' first | refine kz ?_ | refine AF hv ?_ | refine Ao ?_ | refine Aa (lQ) ?_ | refine Aa (mJ) ?_ | refine kh ?_ ?_ | exact ⟨⟩ | fail
      apply Af ((i + 1, (st, s, r), k4, k5)) <;> (try dsimp only) <;> try repeat' first | exact k0 | refine kw ?_ | omega
      exact ⟨by omega, lu, rS⟩
    | some key =>
      rw [MU hk] at lQ
      rcases WZ L key with ⟨j, e, hj, he⟩ | hn
      · obtain ⟨c1, k1, A⟩ := e
        dsimp only at he
        subst he
        obtain ⟨hA, uz⟩ := hP.here _ (Cb hj)
        dsimp only at hA uz
        have mv := YY hj
        dsimp only at mv
        have nD : A.length ≤ 4096 := by rw [hA]; have := Jq b (on.map Prod.snd) c1; omega
        have hAp : 0 < A.length := by cases A with | nil => exact absurd rfl uz | cons _ _ => simp
        have xH : ∀ z ∈ A, ∃ y ∈ b, z = Ca y := fun z hz => by
          rw [hA] at hz
          obtain ⟨y, hy, h1, _⟩ := Jp hz
          exact ⟨y, hy, h1⟩
        cases hc : closeE (Ar u.row) st.reverse s r with
        | none =>
          have nU : Dv b on (st, s, r) u = none := by
           unfold Dv
           rw [hk]
           dsimp only
           rw [← hA, if_neg uz, hc]
          have rT : P8 a b on = none := by unfold P8; rw [om nU]
          rw [rT] at hR
          dsimp only at hR
          subst hR
          have jS := b8 (Ca u) A st s r hc qq kc mM
          repeat' first | refine kz ?_ | refine AF hv ?_ | refine Ao ?_ | refine Aa (lQ) ?_ | refine Aa (mJ) ?_ | refine Ae [3, 4, 2, 5] (jS) ?_ | refine CZ mv ⟨_, rfl⟩ (Lk _) ?_ | refine kh ?_ ?_ | exact ⟨⟩ | fail
          all_goals rfl
        | some q =>
          obtain ⟨stx, s', r'⟩ := q
          have nU : Dv b on (st, s, r) u = some (stx.reverse ++ [⟨Ar u.row, (A.foldl (A8 (Ca u)) ([], s')).1⟩], (A.foldl (A8 (Ca u)) ([], s')).2, r') := by
           unfold Dv
           rw [hk]
           dsimp only
           rw [← hA, if_neg uz, hc]
          rw [nU] at lu
          have rS := vV _ nU
          obtain ⟨h1, h2, h3, h4⟩ := DG hc mM
          simp only [List.length_reverse] at h1
          have jS := b9 (Ca u) A st s r stx.reverse s' r' (by rw [List.reverse_reverse]; exact hc) qq (by simp; omega) kc mM (by omega) (68719476736 * ((4096 * i : Nat) : Int)) (by omega) (fun e he => hJ.sm e (h3 e he)) (fun z hz => by
           obtain ⟨y, hy, rfl⟩ := xH z hz
           exact P9 nT (hb y hy).2) (by omega) (MW mu) (fun z hz => by
           obtain ⟨y, hy, rfl⟩ := xH z hz
           exact MW (hb y hy).1)
          generalize A.foldl (A8 (Ca u)) ([], s') = fo at jS lu rS
          have mI : (stx.reverse ++ [(⟨Ar u.row, fo.1⟩ : Lev)]).length = stx.length + 1 := by simp
          have zp : stx.length + 1 ≤ 100000 := by omega
          unfold Ca at jS
          dsimp only at jS
          generalize stx.reverse ++ [(⟨Ar u.row, fo.1⟩ : Lev)] = zq at jS lu rS mI
          repeat' first | refine kz ?_ | refine AF hv ?_ | refine Ao ?_ | refine Aa (lQ) ?_ | refine Aa (mJ) ?_ | refine Ae [3, 4, 2, 5] (jS) ?_ | refine CZ mv ⟨_, rfl⟩ (Lk _) ?_ | refine kh ?_ ?_ | exact ⟨⟩ | fail
          apply Af ((i + 1, (zq, fo.2, r'), _, _)) <;> (try dsimp only) <;> try repeat' first | exact k0 | refine w1 ?_ | refine Ab ?_ | refine AJ ?_ | omega
          exact ⟨by omega, lu, rS⟩
      · have hA := hP.not key hn
        have nU : Dv b on (st, s, r) u = some (st, s, r) := by
          unfold Dv
          rw [hk]
          dsimp only
          rw [hA, if_pos rfl]
        rw [nU] at lu
        have rS := vV _ nU
        repeat' first | refine kz ?_ | refine AF hv ?_ | refine Ao ?_ | refine Aa (lQ) ?_ | refine Aa (mJ) ?_ | refine G4 (YZ hn) ⟨_, rfl⟩ (Lk _) ?_ | refine kh ?_ ?_ | exact ⟨⟩ | fail
        apply Af ((i + 1, (st, s, r), k4, k5)) <;> (try dsimp only) <;> try repeat' first | exact k0 | refine kw ?_ | omega
        exact ⟨by omega, lu, rS⟩
  · have k8 : i = a.length := by omega
    subst k8
    rw [Ir] at j7
    unfold P8 at hR
    rw [j7] at hR
    dsimp only at hR
    cases hc : closeE [] st.reverse s r with
    | none =>
      rw [hc] at hR
      dsimp only at hR
      subst hR
      have jz := MS [] st s r hc qq kc mM
      repeat' first | refine kz ?_ | refine Ao ?_ | refine Ae [3, 4, 2, 5] (jz) ?_ | refine kh ?_ ?_ | exact ⟨⟩ | fail
      all_goals rfl
    | some q =>
      obtain ⟨stx, s', r'⟩ := q
      rw [hc] at hR
      dsimp only at hR
      obtain ⟨h1, h2, h3, h4⟩ := DG hc mM
      have jz := MR [] st s r stx.reverse s' r' (by rw [List.reverse_reverse]; exact hc) qq kc mM
      obtain ⟨rs, rfl, tJ, rfl⟩ := hR
      simp only [BR] at h4
      cases j9 : rs.all (fun e => AD e.count) with
      | false =>
        have mW := RG stx.reverse s' rs h4 tJ j9
        simp only [Bool.false_eq_true, if_false]
        repeat' first | refine kz ?_ | refine Ao ?_ | refine Ae [3, 4, 2, 5] (jz) ?_ | refine Ae [3, 4, 2, 5] (mW) ?_ | refine kh ?_ ?_ | exact ⟨⟩ | fail
        all_goals rfl
      | true =>
        have mW := RH stx.reverse s' rs h4 tJ (Eg.1 j9)
        simp only [if_true]
        have jy := (Br entCmp_ok.swo rs).length_eq
        repeat' first | refine kz ?_ | refine Ao ?_ | refine Ae [3, 4, 2, 5] (jz) ?_ | refine Ae [3, 4, 2, 5] (mW) ?_ | refine kh ?_ ?_ | exact ⟨⟩ | fail
        · simp [jy]
        · rw [Ah (by simp [jy])]; rfl
        · rfl
end Go.Proofs.YtmpgmjlanngkfaaGreat
end
