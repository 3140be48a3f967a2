/-
  Aggregates: Fold, the program's and the document's.
-/
import Derived.Test.YtmpgmjlanngkfaaGreatOpa
import Derived.Test.YtmpgmjlanngkfaaGreatAgj
import Derived.Test.YtmpgmjlanngkfaaGreatAgk
section
namespace Go.Abs
open Go.RowKit
section
variable {P : Program} {T : TypeId → Option TI} {F0 : Nat → Prop} {w0 : World}
variable {dr : Bool} {ops rest : List Oper} {K : St → Prop} {n : Nat} {sl : List (Nat × SVal)} {mem : List Blk} {ck : Nat} {df : List (FuncId × List Cell)} {acc : List Nat}
variable {d : Tmp} {op : Op} {ty : TypeId} {pos : String} {aft : Array Edge} {g : Option (Nat × Bool)}
theorem FY [tc : TC P T] {s ft : TypeId} {f off : Nat} {x : Operand} {i j : TI} {fs : List (Nat × TypeId)} {xs : List Cell} {y : Cell} (h : Reg P F0 w0 dr ops K rest ⟨n, (d, .c y) :: sl, mem, ck, df⟩ (0 :: acc)) (hw : GW ops g sl := by first | exact trivial | exact rfl)
  (hx : AC sl x = .agg xs := by exact rfl) (hs : T s = some i := by exact rfl) (hi : i.desc = .struct fs := by exact rfl) (hf : fs[f]? = some (off, ft) := by exact rfl) (hj : T ft = some j := by exact rfl) (ha : j.desc.agg = false := by exact rfl) (hy : xs[off]? = some y := by exact rfl) :
  Reg P F0 w0 dr ops K (⟨some d, .field s x f, ty, pos, aft, g⟩ :: rest) ⟨n, sl, mem, ck, df⟩ acc :=
 FG hw (GC fun E w ρ hρ => by
  have e1 := hρ x (by simp [Op.operands])
  rw [hx] at e1
  have hd := (tc.ok s i hs).desc
  rw [hi] at hd
  obtain ⟨fields, hu, hfs⟩ := hd
  have hfl : ∃ fl, fields[f]? = some fl ∧ fl.offset = off ∧ fl.type = ft := by
    rw [← hfs, List.getElem?_map] at hf
    cases hq : fields.toList[f]? with
    | none => rw [hq] at hf; cases hf
    | some fl =>
      rw [hq] at hf
      simp only [Option.map_some, Option.some.injEq, Prod.mk.injEq] at hf
      exact ⟨fl, by simpa using hq, hf.1, hf.2⟩
  obtain ⟨fl, hf1, rfl, rfl⟩ := hfl
  have hag := (tc.ok _ j hj).isAgg (w := w)
  rw [ha] at hag
  generalize hρx : ρ x = vx at e1
  cases e1 with
  | agg _ vs hl hd =>
    have hlt := lt_of_getElem? hy
    obtain ⟨v, hv⟩ : ∃ v, vs[fl.offset]? = some v := ⟨_, List.getElem?_eq_getElem (by omega)⟩
    refine ⟨v, ?_, .c (hd _ _ _ hv hy)⟩
    simp [execOp, hρx, Instr.field, run_underlying hu, hf1, asAgg, part, hag, hv]) h
end
end Go.Abs
end
section
namespace Go.Proofs.YtmpgmjlanngkfaaGreat
open Go.Abs Go.RowKit
attribute [local irreducible] ARun At MCall PCall HCall Am SF CF CFs Ah Aj Ar fin AW VLe
set_option linter.unusedSimpArgs false
set_option maxRecDepth 100000
set_option maxHeartbeats 4000000
def G9 : List Val → Val
 | [] => Val.null
 | v :: _ => v
def vc (e : Entry) : Val × Int := (G9 e.row, e.count)
def CX (l : List Entry) : List (Val × Int) := l.map vc
theorem Fg (l : List Entry) : (CX l).length = l.length := by simp [CX]
theorem DO {l : List Entry} {i : Nat} {e : Entry} (h : l[i]? = some e) : (CX l)[i]? = some (vc e) := by unfold CX; rw [List.getElem?_map, h]; rfl
theorem L6 (r : List Val) : PCall Tryz.prog 187 [.one (AU r)] (.v (.agg (G9 r).d)) := by
 cases r with
 | nil =>
   refine Ac hT Tryz.func187 Tryz.ntmps187 [.cell 2 73] fun B => ?_
   repeat' (first | refine kz ?_ | refine ki ?_ | refine kf ?_ | exact k0 | refine kg ?_ ?_ | fail)
   all_goals rfl
 | cons v r =>
   have hv : ((v :: r).map Val.d)[0]? = some v.d := rfl
   have hl : ((v :: r).map Val.d).length = r.length + 1 := by simp
   unfold AU
   generalize (v :: r).map Val.d = M at hv hl
   refine Ac hT Tryz.func187 Tryz.ntmps187 [.cell 2 73] fun B => ?_
   repeat' (first | refine kz ?_ | refine kx hv ?_ | refine ki ?_ | refine kf ?_ | exact k0 | refine kg ?_ ?_ | fail)
   all_goals rfl
theorem Pr (l : List Entry) (h : Ls (CX l)) : PCall Tryz.prog 188 [.one (Ap l)] (.tup [.one (.lit (.int .i64 (FL (CX l)))), .one (.lit (.int .i64 (FA (CX l))))]) := by
 have hl := h.1
 rw [Fg] at hl
 refine Ac hT Tryz.func188 Tryz.ntmps188 [.tmp 2, .tmp 3] fun B => ?_
 repeat' (first | refine kz ?_ | refine ki ?_ | refine kg ?_ ?_ | refine kf ?_ | fail)
 refine AO (X := Nat × Int × Int) [4, 5, 6, 7, 8, 9, 10, 11, 12, 13, 14, 15, 16, 17, 18, 19, 20, 21, 22, 23, 24, 25, 26, 27, 28, 29, 30, 31, 32, 33, 34, 35, 36, 37, 38, 39] (fun x => x.1 ≤ l.length ∧ x.2.1 = FL ((CX l).take x.1) ∧ x.2.2 = FA ((CX l).take x.1)) (fun x lz => (6, (.c (.d (.lit (.int .i64 x.1))))) :: (4, .c (.d (.lit (.int .i64 x.2.1)))) :: (5, .c (.d (.lit (.int .i64 x.2.2)))) :: lz) (fun x => []) (fun x => l.length - x.1) ((0, 0, 0)) ?_ ?_ ?_ ?_
 repeat' (first | exact k0 | refine kw ?_ | omega)
 ·exact ⟨by simp, rfl, rfl⟩
 rintro ⟨i, s, m⟩ c ⟨hi, hs, hm⟩
 dsimp only at hi hs hm ⊢
 by_cases hlt : i < l.length
 ·have hv : l[i]? = some l[i] := List.getElem?_eq_getElem hlt
  generalize l[i] = e at hv
  have hx := h.2 _ (List.mem_of_getElem? (DO hv))
  have hv2 : (l.map Entry.d)[i]? = some e.d := by rw [List.getElem?_map, hv]; rfl
  have b1 := I3 h i
  have b2 := PI h i
  have b3 := I3 h (i + 1)
  have b4 := Lt hx.1 hx.2
  have e1 := Kw (DO hv)
  have e2 := Kx (DO hv)
  rw [← hs] at b1 e1
  rw [← hm] at b2 e2
  have hf := L6 e.row
  unfold vc at e1 e2 b4 hx
  dsimp only at e1 e2 b4 hx
  generalize G9 e.row = u at hf e1 e2 b4 hx
  by_cases hk : u.kind = 1
  ·rw [if_pos hk] at e1 e2
   obtain ⟨p, hp⟩ : ∃ p, p = u.int * e.count := ⟨_, rfl⟩
   rw [← hp] at b4 e1
   repeat' (first | refine kz ?_ | refine kx hv2 ?_ | refine ki ?_ | refine Aa (hf) ?_ | refine kg ?_ ?_ | refine kf ?_ | fail)
   (apply Ae ((i + 1, s + u.int * e.count, m + e.count)); all_goals (try dsimp only); all_goals (try (repeat' (first | exact k0 | refine kw ?_ | omega))))
   all_goals exact ⟨by omega, by rw [e1, hp], e2.symm⟩
  ·rw [if_neg hk, Int.add_zero] at e1 e2
   repeat' (first | refine kz ?_ | refine kx hv2 ?_ | refine ki ?_ | refine Aa (hf) ?_ | refine kg ?_ ?_ | refine kf ?_ | fail)
   (apply Ae ((i + 1, s, m)); all_goals (try dsimp only); all_goals (try (repeat' (first | exact k0 | refine kw ?_ | omega))))
   all_goals exact ⟨by omega, e1.symm, e2.symm⟩
 ·rw [Ag (show (CX l).length ≤ i by rw [Fg]; omega)] at hs hm
  rw [← hs, ← hm]
  repeat' (first | refine kz ?_ | refine ki ?_ | refine kg ?_ ?_ | refine kf ?_ | fail)
  all_goals rfl
theorem Ui {L : List (Val × Int)} {i : Nat} {x : Val × Int} (h : L[i]? = some x) : BW (L.drop i) = (if OC x then [x] else []) ++ BW (L.drop (i + 1)) := by
 rw [AD h, Lv, List.filter_cons]
 split <;> rfl
theorem J4 (l : List Entry) (i0 : Int) (h : Ls (CX l)) (hp : Dx (CX l)) (h0 : 0 ≤ i0) (h1 : i0 ≤ 1099511627776) : PCall Tryz.prog 189 [.one (Ap l), .one (.lit (.int .i64 i0))] (.v (.agg (B4 (BW (CX l)) i0).d)) := by
 have hl := h.1
 rw [Fg] at hl
 refine Ac hT Tryz.func189 Tryz.ntmps189 [.cell 4 73] fun B => ?_
 repeat' (first | refine kz ?_ | refine ki ?_ | refine kf ?_ | exact k0 | refine kg ?_ ?_ | fail)
 refine AO (X := Nat × Int) [1, 5, 6, 7, 8, 9, 10, 11, 12, 13, 14, 15, 16, 17, 18, 19, 20, 21, 22, 23, 24, 25, 26, 27, 28, 29, 30, 31, 32, 33, 34] (fun x => x.1 ≤ l.length ∧ 0 ≤ x.2 ∧ x.2 ≤ 1099511627776 ∧ B4 (BW (CX l)) i0 = B4 (BW ((CX l).drop x.1)) x.2) (fun x lz => (5, (.c (.d (.lit (.int .i64 x.1))))) :: (1, .c (.d (.lit (.int .i64 x.2)))) :: lz) (fun x => [.box 1 (Val.null.d.map .d)]) (fun x => l.length - x.1) ((0, i0)) ?_ ?_ ?_ ?_
 repeat' (first | exact k0 | refine kw ?_ | omega)
 ·exact ⟨by simp, h0, h1, rfl⟩
 rintro ⟨i, m⟩ c ⟨hi, hm0, hm1, hinv⟩
 dsimp only at hi hm0 hm1 hinv ⊢
 by_cases hlt : i < l.length
 ·have hv : l[i]? = some l[i] := List.getElem?_eq_getElem hlt
  generalize l[i] = e at hv
  have hx := h.2 _ (List.mem_of_getElem? (DO hv))
  have hpx := hp _ (List.mem_of_getElem? (DO hv))
  have hv2 : (l.map Entry.d)[i]? = some e.d := by rw [List.getElem?_map, hv]; rfl
  have hf := L6 e.row
  rw [Ui (DO hv)] at hinv
  unfold vc OC at hinv
  unfold vc at hx hpx
  dsimp only at hinv hx hpx
  generalize G9 e.row = u at hf hinv hx
  by_cases hk : u.kind = 0
  ·rw [if_neg (by simp [hk]), List.nil_append] at hinv
   repeat' (first | refine FY ?_ | refine kz ?_ | refine kx hv2 ?_ | refine ki ?_ | refine Aa (hf) ?_ | refine A4 Af ?_ | refine Ce ?_ | exact k0 | refine BJ ?_ ?_ | refine GT ?_)
   (apply Ae ((i + 1, m)); all_goals (try dsimp only); all_goals (try (repeat' (first | exact k0 | refine kw ?_ | omega))))
   all_goals exact ⟨by omega, hm0, hm1, hinv⟩
  ·rw [if_pos (by simp [hk]), List.singleton_append, B4] at hinv
   dsimp only at hinv
   by_cases hc : m < e.count
   · rw [if_pos hc] at hinv
     rw [hinv]
     repeat' (first | refine FY ?_ | refine kz ?_ | refine kx hv2 ?_ | refine ki ?_ | refine Aa (hf) ?_ | refine A4 Af ?_ | refine Ce ?_ | exact k0 | refine BJ ?_ ?_ | refine GT ?_)
     all_goals rfl
   · rw [if_neg hc] at hinv
     repeat' (first | refine FY ?_ | refine kz ?_ | refine kx hv2 ?_ | refine ki ?_ | refine Aa (hf) ?_ | refine A4 Af ?_ | refine Ce ?_ | exact k0 | refine BJ ?_ ?_ | refine GT ?_)
     (apply Ae ((i + 1, m - e.count)); all_goals (try dsimp only); all_goals (try (repeat' (first | exact k0 | refine kw ?_ | omega))))
     all_goals exact ⟨by omega, by omega, by omega, hinv⟩
 ·rw [List.drop_eq_nil_of_le (show (CX l).length ≤ i by rw [Fg]; omega)] at hinv
  rw [hinv]
  repeat' (first | refine kz ?_ | refine ki ?_ | refine kf ?_ | exact k0 | refine kg ?_ ?_ | fail)
  all_goals rfl
theorem XR {L : List (Val × Int)} (hp : Dx L) : (C4 (BW L) = 0 ↔ BW L = []) ∧ (BW L ≠ [] → 0 < C4 (BW L)) := by
 have hP : Dx (BW L) := fun x hx => hp x (List.mem_filter.1 hx).1
 refine ⟨⟨fun h => ?_, fun h => by rw [h]; rfl⟩, fun h => Hk hP h⟩
 by_cases hn : BW L = []
 ·exact hn
 ·have := Hk hP hn; omega
theorem Lg {L : List (Val × Int)} (h : Ls L) (i : Nat) : -1073741824 ≤ C4 (BW (L.take i)) ∧ C4 (BW (L.take i)) ≤ 1073741824 := by
 have hB : Ls (BW (L.take i)) := ⟨Nat.le_trans (Lw _) (by rw [List.length_take]; have := h.1; omega), fun x hx => h.2 x (List.mem_of_mem_take (List.mem_filter.1 hx).1)⟩
 have := HT hB (BW (L.take i)).length
 rw [List.take_length] at this
 exact this
def RF (L : List (Val × Int)) : Prop := ∀ x ∈ L, x.1.clean = x.1
theorem L7 {L : List (Val × Int)} (ha : Lx L) (hp : Dx L) (hc : RF L) {i : Int} (h0 : 0 ≤ i) (h1 : i < C4 (BW L)) : B4 (BW L) i = B4 (ascE L) i :=
 My (ha.sublist List.filter_sublist) (Jp L) (fun x hx => hp x (List.mem_filter.1 hx).1) (B8 L).symm (fun x hx => hc x (List.mem_filter.1 hx).1) h0 h1
theorem VO (f : Int) (l : List Entry) (h : Ls (CX l)) (hp : Dx (CX l)) (ha : Lx (CX l)) (hc : RF (CX l)) : PCall Tryz.prog 137 [.one (.lit (.int .i64 f)), .one (Ap l)] (.v (.agg (foldE f (CX l)).d)) := by
 have hl := h.1
 rw [Fg] at hl
 refine Ac hT Tryz.func137 Tryz.ntmps137 [.cell 4 73] fun B => ?_
 repeat' (first | refine kz ?_ | refine ki ?_ | refine kf ?_ | exact k0 | refine kg ?_ ?_ | fail)
 refine AO (X := Nat × Int × Int) [5, 6, 7, 10, 11, 12, 13, 14, 15, 16, 17, 18, 19, 20, 21, 22, 23, 24, 25, 26, 27, 28, 29, 30, 31, 32, 33, 34, 35, 36, 37] (fun x => x.1 ≤ l.length ∧ x.2.1 = C4 ((CX l).take x.1) ∧ x.2.2 = C4 (BW ((CX l).take x.1))) (fun x lz => (7, (.c (.d (.lit (.int .i64 x.1))))) :: (5, .c (.d (.lit (.int .i64 x.2.1)))) :: (6, .c (.d (.lit (.int .i64 x.2.2)))) :: lz) (fun x => [.box 1 (Val.null.d.map .d)]) (fun x => l.length - x.1) ((0, 0, 0)) ?_ ?_ ?_ ?_
 repeat' (first | exact k0 | refine kw ?_ | omega)
 ·exact ⟨by simp, rfl, rfl⟩
 rintro ⟨i, s, m⟩ c ⟨hi, hs, hm⟩
 dsimp only at hi hs hm ⊢
 by_cases hlt : i < l.length
 ·have hv : l[i]? = some l[i] := List.getElem?_eq_getElem hlt
  generalize l[i] = e at hv
  have hx := h.2 _ (List.mem_of_getElem? (DO hv))
  have hv2 : (l.map Entry.d)[i]? = some e.d := by rw [List.getElem?_map, hv]; rfl
  have b1 := HT h i
  have b2 := Lg h i
  have e1 := Jl (DO hv)
  have e2 : C4 (BW ((CX l).take (i + 1))) = C4 (BW ((CX l).take i)) + (if (G9 e.row).kind = 0 then 0 else e.count) := by
   rw [Jm (DO hv)]
   unfold OC vc
   by_cases hk : (G9 e.row).kind = 0 <;> simp [hk, C4]
  rw [← hs] at b1 e1
  rw [← hm] at b2 e2
  have hf := L6 e.row
  unfold vc at e1 hx
  dsimp only at e1 hx
  generalize G9 e.row = u at hf e1 e2 hx
  by_cases hk : u.kind = 0
  ·rw [if_pos hk, Int.add_zero] at e2
   repeat' (first | refine FY ?_ | refine kz ?_ | refine kx hv2 ?_ | refine ki ?_ | refine Aa (hf) ?_ | refine A4 Af ?_ | refine Ce ?_ | exact k0 | refine BJ ?_ ?_ | refine GT ?_)
   (apply Ae ((i + 1, s + e.count, m)); all_goals (try dsimp only); all_goals (try (repeat' (first | exact k0 | refine kw ?_ | omega))))
   all_goals exact ⟨by omega, e1.symm, e2.symm⟩
  ·rw [if_neg hk] at e2
   repeat' (first | refine FY ?_ | refine kz ?_ | refine kx hv2 ?_ | refine ki ?_ | refine Aa (hf) ?_ | refine A4 Af ?_ | refine Ce ?_ | exact k0 | refine BJ ?_ ?_ | refine GT ?_)
   (apply Ae ((i + 1, s + e.count, m + e.count)); all_goals (try dsimp only); all_goals (try (repeat' (first | exact k0 | refine kw ?_ | omega))))
   all_goals exact ⟨by omega, e1.symm, e2.symm⟩
 ·rw [Ag (show (CX l).length ≤ i by rw [Fg]; omega)] at hs hm
  have hb := Lg h l.length
  rw [Ag (show (CX l).length ≤ l.length by rw [Fg]; omega)] at hb
  obtain ⟨n1, n2⟩ := XR hp
  have hz := Pr l h
  by_cases f0 : f = 0
  ·subst f0
   have he : foldE 0 (CX l) = Val.ofInt s := by unfold foldE; rw [if_pos rfl, hs]
   rw [he]
   repeat' (first | refine kz ?_ | refine ki ?_ | refine Aa (Ba _) ?_ | refine kf ?_ | exact k0 | refine kg ?_ ?_ | fail)
   all_goals rfl
  by_cases f1 : f = 1
  ·subst f1
   by_cases hcz : FA (CX l) = 0
   · have he : foldE 1 (CX l) = Val.null := by unfold foldE; rw [if_neg (by decide), if_pos rfl, if_pos hcz]
     rw [he]
     rw [hcz] at hz
     repeat' (first | refine kz ?_ | refine ki ?_ | refine Aa (hz) ?_ | refine Aa (Ba _) ?_ | refine kf ?_ | exact k0 | refine kg ?_ ?_ | fail)
     all_goals rfl
   · have he : foldE 1 (CX l) = Val.ofInt (FL (CX l)) := by unfold foldE; rw [if_neg (by decide), if_pos rfl, if_neg hcz]
     rw [he]
     generalize FA (CX l) = q at hz hcz
     repeat' (first | refine kz ?_ | refine ki ?_ | refine Aa (hz) ?_ | refine Aa (Ba _) ?_ | refine kf ?_ | exact k0 | refine kg ?_ ?_ | fail)
     all_goals rfl
  by_cases hnn : BW (CX l) = []
  ·have he : foldE f (CX l) = Val.null := by unfold foldE; rw [if_neg f0, if_neg f1]; simp [hnn]
   rw [he]
   rw [hnn] at hm
   have hm' : m = 0 := hm
   repeat' (first | refine kz ?_ | refine ki ?_ | refine kf ?_ | exact k0 | refine kg ?_ ?_ | fail)
   all_goals rfl
  have hpos := n2 hnn
  by_cases f2 : f = 2
  ·subst f2
   have he : foldE 2 (CX l) = B4 (BW (CX l)) 0 := by
     unfold foldE; rw [if_neg (by decide), if_neg (by decide), if_pos rfl, if_neg hnn, L7 ha hp hc (by omega) (by omega)]
   have hn := J4 l 0 h hp (by omega) (by omega)
   rw [he]
   generalize B4 (BW (CX l)) 0 = R at hn
   repeat' (first | refine kz ?_ | refine ki ?_ | refine Aa (hn) ?_ | refine kf ?_ | exact k0 | refine kg ?_ ?_ | fail)
   all_goals rfl
  by_cases f3 : f = 3
  ·subst f3
   have he : foldE 3 (CX l) = B4 (BW (CX l)) (m - 1) := by
     unfold foldE; rw [if_neg (by decide), if_neg (by decide), if_neg (by decide), if_pos rfl, if_neg hnn, ← L7 ha hp hc (by omega) (by omega), hm]
   have hn := J4 l (m - 1) h hp (by omega) (by omega)
   rw [he]
   generalize B4 (BW (CX l)) (m - 1) = R at hn
   repeat' (first | refine kz ?_ | refine ki ?_ | refine Aa (hn) ?_ | refine kf ?_ | exact k0 | refine kg ?_ ?_ | fail)
   all_goals rfl
  by_cases f4 : f = 4
  ·subst f4
   have hd : IntKind.i64.wrap ((m - 1).tdiv 2) = (m - 1) / 2 := by rw [Int.tdiv_eq_ediv_of_nonneg (by omega), BE (by omega) (by omega)]
   have he : foldE 4 (CX l) = B4 (BW (CX l)) ((m - 1) / 2) := by
     unfold foldE; rw [if_neg (by decide), if_neg (by decide), if_neg (by decide), if_neg (by decide), if_pos rfl, if_neg hnn, ← L7 ha hp hc (by omega) (by omega), hm]
   have hn := J4 l ((m - 1) / 2) h hp (by omega) (by omega)
   rw [he]
   rw [← hd] at hn ⊢
   generalize B4 (BW (CX l)) (IntKind.i64.wrap ((m - 1).tdiv 2)) = R at hn
   repeat' (first | refine kz ?_ | refine ki ?_ | refine Aa (hn) ?_ | refine kf ?_ | exact k0 | refine kg ?_ ?_ | fail)
   all_goals rfl
  ·have he : foldE f (CX l) = Val.null := by unfold foldE; rw [if_neg f0, if_neg f1, if_neg f2, if_neg f3, if_neg f4]
   rw [he]
   repeat' (first | refine kz ?_ | refine ki ?_ | refine kf ?_ | exact k0 | refine kg ?_ ?_ | fail)
   all_goals rfl
noncomputable def foldP (f : Int) (b : List Entry) : Val := if AG b = true then foldE f (CX b) else Val.null
end Go.Proofs.YtmpgmjlanngkfaaGreat
end
