/-
  Aggregates: key rows and groups.
-/
import Derived.Test.YtmpgmjlanngkfaaGreatTny
import Derived.Test.YtmpgmjlanngkfaaGreatDex
import Derived.Test.YtmpgmjlanngkfaaGreatTap
import Derived.Test.YtmpgmjlanngkfaaGreatExg
import Derived.Test.YtmpgmjlanngkfaaGreatExn
import Derived.Test.YtmpgmjlanngkfaaGreatLaid
section
namespace Go.Proofs.YtmpgmjlanngkfaaGreat
open Go.Abs Go.RowKit
attribute [local irreducible] ARun Aq MCall PCall HCall Am SF CF CFs Af Al Ap B5 AW VLe
set_option linter.unusedSimpArgs false
set_option maxRecDepth 100000
set_option maxHeartbeats 4000000
variable {g : List Val × Nat × List Entry} {i : Nat} {k : List Val}
structure Itm where
 name : ByteArray
 expr : List Trm
def Itm.d (x : Itm) : List Dat := [.lit (.string x.name), BR x.expr]
def KC (l : List Itm) : Dat := .sl (l.map Itm.d)
def Ax (keys : List Itm) (row : List Val) : List Val := keys.map fun x => GX x.expr row
theorem AR (keys : List Itm) (row : List Val) : Au (Ax keys row) := by
 unfold Au Ax
 rw [X8]
 refine RU fun x _ => ?_
 show (GX x.expr row).clean = GX x.expr row
 rw [Val.clean, if_pos (E5 ..)]
theorem E0 (keys : List Itm) (row : List Val) : (Ax keys row).length = keys.length := by simp [Ax]
def D0 (r : List Val) : Dat := .ex (r.map Val.d)
theorem Ja (r : List Val) : DLe (D0 r) (BS r) := DLe.ex _
theorem Si (row : List Val) (keys : List Itm) (hk : keys.length ≤ 100000) : PC 113 [.one (BS row), .one (KC keys)] (.v (.one (D0 (Ax keys row)))) := by
 refine Ad hT Tryz.func113 Tryz.ntmps113 [.tmp 4] fun B => ?_
 repeat' first | (refine UO (ei := RL) (m := keys.length) (z := (keys.length : Int)) (zd := Val.null.d) (fun b => ?_) (by omega) (by omega) (by omega) (by simp only [RL]; omega) (by exact rfl)) | refine kz ?_ | refine As ?_ | refine Ay Ac ?_ | refine BB ?_
 refine AY (X := Nat) ([6, 7] ++ List.range' 13 13) (fun x => x ≤ keys.length) (fun x lz => (13, (iC x)) :: lz) (fun x => [.arrc 1 73 3 ((Ax (keys.take x) row).map Val.d ++ List.replicate (keys.length - x) Val.null.d) b keys.length]) (fun x => keys.length - x) (0) ?_ ?_ ?_ ?_
 repeat' first | exact k0 | refine kw ?_ | omega
 rintro i c hi
 by_cases hlt : i < keys.length
 ·obtain ⟨it, hv⟩ := gx hlt
  have hev := F8 it.expr row
  have hl : ((Ax (keys.take i) row).map Val.d).length = i := by simp [Ax]; omega
  have hset : ((Ax (keys.take i) row).map Val.d ++ List.replicate (keys.length - i) Val.null.d).set i (GX it.expr row).d = (Ax (keys.take (i + 1)) row).map Val.d ++ List.replicate (keys.length - (i + 1)) Val.null.d := by
   obtain ⟨k, hk⟩ : ∃ k, keys.length - i = k + 1 := ⟨keys.length - i - 1, by omega⟩
   rw [hk, show keys.length - (i + 1) = k by omega, ZH, VL _ _ (by omega), hl, MF, List.set_cons_zero]
   unfold Ax
   rw [KL, hv]; simp
  have hel : ((Ax (keys.take i) row).map Val.d ++ List.replicate (keys.length - i) Val.null.d)[i]? = some Val.null.d := by
   rw [LH (by omega), hl, MF, Yf, if_pos (by omega)]
  have hAl : ((Ax (keys.take i) row).map Val.d ++ List.replicate (keys.length - i) Val.null.d).length = keys.length := by rw [Dg, hl, Jh]; omega
  generalize (Ax (keys.take i) row).map Val.d ++ List.replicate (keys.length - i) Val.null.d = A at hset hel hAl
  repeat' first | refine kz ?_ | refine AT hv ?_ | refine AT hel ?_ | refine As ?_ | refine Aa (hev) ?_ | refine SA (r := 0) (m := keys.length) (z := (i : Int)) ?_ (by omega) (by omega) (by exact rfl) | refine Nw (r := 0) (j := i) (e' := (GX it.expr row).d) (mem' := _ :: _) ?_ (by exact rfl) hel (hes := hset) (hm' := rfl) | refine kf ?_ | fail
  apply Ae (i + 1) <;> (try dsimp only) <;> try repeat' first | exact k0 | refine kw ?_ | omega
  all_goals exact Kc
 ·have hie : i = keys.length := by omega
  subst hie
  rw [PQ, MF, List.replicate_zero, List.append_nil]
  refine Q5 (r := 0) (m := keys.length) (es := (Ax keys row).map Val.d) 5 ?_ rfl (by rw [BT, E0]) rfl
  repeat' first | refine kz ?_ | refine As ?_ | refine kf ?_ | fail
  all_goals rfl
abbrev GL := List (List Val × Nat × List Entry)
def O5 (L : GL) : List (List Val × List Entry) := L.map fun g => (g.1, g.2.2)
def OR (g : List Val × List Entry) : List Dat := [D0 g.1, Ao g.2]
def Yz (l : List (List Val × List Entry)) : Dat := .sl (l.map OR)
def IH (k : List Val) : Value := .string ⟨(AD k).toArray⟩
def P3 (L : GL) : List (Value × PV) := L.mapIdx fun i g => (IH g.1, .one (.lit (.int .i64 (i : Nat))))
def LP (L : GL) : List (List Cell) := L.mapIdx fun i g => [.d (D0 g.1), .arr (i + 4) g.2.1 g.2.2.length]
def O6 (L : GL) : List Blk := L.map fun g => .arr g.2.1 56 2 (g.2.2.map Entry.d)
theorem QV {a b : List Val} (ha : Au a) (hb : Au b) (h : IH a = IH b) : a = b := by
 unfold IH at h
 injection h with h; injection h with h
 have h' : AD a = AD b := by simpa using congrArg Array.toList h
 have := Hb h'
 rw [ha, hb] at this; exact this
theorem JI (L : GL) : ∀ e ∈ P3 L, Oo e.1 := fun e he => by
 obtain ⟨i, hi⟩ := Mz.1 he
 simp only [P3, Yl, ZE] at hi
 obtain ⟨g, _, rfl⟩ := hi
 exact ⟨_, rfl⟩
theorem UB {L : GL} (h : L[i]? = some g) : (P3 L)[i]? = some (IH g.1, .one (.lit (.int .i64 (i : Nat)))) := by simp [P3, h]
theorem UC {L : GL} (hk : Au k) (hL : ∀ g ∈ L, Au g.1) (h : ∀ g ∈ L, g.1 ≠ k) : ∀ e ∈ P3 L, e.1 ≠ IH k := fun e he q => by
 obtain ⟨i, hi⟩ := Mz.1 he
 simp only [P3, Yl, ZE] at hi
 obtain ⟨g, hg, rfl⟩ := hi
 have hm := Df hg
 exact h g hm (QV (hL g hm) hk q)
theorem Sj (L : GL) (g : List Val × Nat × List Entry) : P3 L ++ [(IH g.1, .one (.lit (.int .i64 (L.length : Nat))))] = P3 (L ++ [g]) := by simp [P3, List.mapIdx_append]
theorem UD {L : GL} {j v : Nat} {es es' : List Entry} {v0 : Nat} (h : L[j]? = some (k, v0, es)) : P3 (L.set j (k, v, es')) = P3 L := by
 refine QG fun i => ?_
 simp only [P3, Yl, X4]
 split
 ·rename_i q; subst q
  have := lt_of_getElem? h
  rw [if_pos this, h]; rfl
 ·rfl
theorem UE {L : GL} (h : L[i]? = some g) : (LP L)[i]? = some [.d (D0 g.1), .arr (i + 4) g.2.1 g.2.2.length] := by simp [LP, h]
theorem Ht (L : GL) : (LP L).length = L.length := by simp [LP]
theorem UF {L : GL} {j v : Nat} {es es' : List Entry} {v0 : Nat} (h : L[j]? = some (k, v0, es)) : (LP L).set j [.d (D0 k), .arr (j + 4) v es'.length] = LP (L.set j (k, v, es')) := by
 refine QG fun i => ?_
 simp only [LP, Yl, X4, List.length_mapIdx]
 split
 ·rename_i q; subst q
  have := lt_of_getElem? h
  rw [if_pos this, if_pos this]; rfl
 ·rfl
theorem Sk (L : GL) (g : List Val × Nat × List Entry) : LP L ++ [[.d (D0 g.1), .arr (L.length + 4) g.2.1 g.2.2.length]] = LP (L ++ [g]) := by simp [LP, List.mapIdx_append]
theorem P4 {L : GL} (h : L[i]? = some g) : (O6 L)[i]? = some (.arr g.2.1 56 2 (g.2.2.map Entry.d)) := by simp [O6, h]
theorem UG (L : GL) : (O6 L).length = L.length := by simp [O6]
theorem UH (L : GL) (j : Nat) (g : List Val × Nat × List Entry) : (O6 L).set j (.arr g.2.1 56 2 (g.2.2.map Entry.d)) = O6 (L.set j g) := by simp [O6, VO]
theorem Sl (L : GL) (g : List Val × Nat × List Entry) : O6 L ++ [.arr g.2.1 56 2 (g.2.2.map Entry.d)] = O6 (L ++ [g]) := by simp [O6]
theorem LQ (L : GL) : (O5 L).length = L.length := by simp [O5]
theorem UI (L : GL) (j : Nat) (g : List Val × Nat × List Entry) : O5 (L.set j g) = (O5 L).set j (g.1, g.2.2) := by simp [O5, VO]
theorem Sm (L : GL) (g : List Val × Nat × List Entry) : O5 (L ++ [g]) = O5 L ++ [(g.1, g.2.2)] := by simp [O5]
theorem Sn {α : Type} {l : List α} {n : Nat} {a b : α} (h : n = l.length) : (l ++ [a]).set n b = l ++ [b] := by
 subst h; rw [VL _ _ (Nat.le_refl _), MF]; rfl
theorem O7 (g h : List Val × List Entry) : PC 116 [.agg (OR g), .agg (OR h)] (.v (.one (.lit (.int .i64 (G4 g h))))) := by
 unfold G4
 have h : PC 116 [.agg [BS g.1, Ao g.2], .agg [BS h.1, Ao h.2]] (.v (.one (.lit (.int .i64 (Ai g.1 h.1))))) := by
  refine Ad hT Tryz.func116 Tryz.ntmps116 [.tmp 4] fun B => ?_
  repeat' first | refine kz ?_ | refine Aa (AN _ _) ?_ | refine kf ?_ | fail
  all_goals rfl
 exact h.args ⟨⟨Ja _, .rfl, trivial⟩, ⟨Ja _, .rfl, trivial⟩, trivial⟩
theorem Nb (b : List Entry) (keys : List Itm) (hbl : b.length ≤ 4096) (hkl : keys.length ≤ 10000) : PC 64 [.one (Ao b), .one (KC keys)] (.v (.one (Yz (EY b (Ax keys))))) := by
 have hK : BG b (Ax keys) := fun e _ => AR keys e.row
 refine Ad hT Tryz.func64 Tryz.ntmps64 [.tmp 4] fun B => ?_
 repeat' first | refine kz ?_ | refine As ?_ | refine kh ?_ ?_ | exact ⟨⟩ | fail
 refine WT 5 98 2 ?_ (by decide)
 refine AY (X := Nat × GL × Nat) ([5] ++ List.range' 8 5 ++ List.range' 16 41) (fun x => x.1 ≤ b.length ∧ x.2.1.length ≤ x.1 ∧ GI (b.take x.1) (Ax keys) (O5 x.2.1)) (fun x lz => (16, (iC x.1)) :: (5, .c (.arr 1 x.2.2 x.2.1.length)) :: lz) (fun x => .map 1 9 3 (P3 x.2.1) (List.range x.2.1.length) x.2.1.length :: .arrx x.2.2 98 2 (LP x.2.1) :: .dead :: .dead :: O6 x.2.1) (fun x => b.length - x.1) ((0, [], 2)) ?_ ?_ ?_ ?_
 repeat' first | exact k0 | refine kw ?_ | refine m3 ?_ ?_ ?_ ?_ | omega
 ·exact Sq
 ·exact ⟨by simp, by simp, WL _⟩
 rintro ⟨i, L, kx⟩ c ⟨hi, hLi, hG⟩
 dsimp only at hi hLi hG ⊢
 by_cases hlt : i < b.length
 ·obtain ⟨y, hv⟩ := gx hlt
  have hkr := Si y.row keys (by omega)
  have hen : PC 114 [.one (D0 (Ax keys y.row))] _ := (F4 (Ax keys y.row) (by rw [E0]; omega)).args ⟨Ja _, trivial⟩
  have hkc := AR keys y.row
  have hLc : ∀ g ∈ L, Au g.1 := fun g hg => by
   obtain ⟨⟨e, _, hq⟩, _⟩ := hG.mem (g.1, g.2.2) (List.mem_map.2 ⟨g, hg, rfl⟩)
   exact hq ▸ AR keys e.row
  have hLe : ∀ g ∈ L, g.2.2.length ≤ 4096 := fun g hg => by
   obtain ⟨_, hq⟩ := hG.mem (g.1, g.2.2) (List.mem_map.2 ⟨g, hg, rfl⟩)
   have h1 := PN (I2 (Ax keys) g.1) (b.take i)
   have h2 : (b.take i).length ≤ i := by simp; omega
   have hq2 : g.2.2 = (b.take i).filter (I2 (Ax keys) g.1) := hq
   rw [hq2]; omega
  by_cases hex : ∃ (j : Nat) (v : Nat) (es : List Entry), L[j]? = some (Ax keys y.row, v, es)
  ·obtain ⟨j, v, es, hj⟩ := hex
   have hjl := lt_of_getElem? hj
   have hesl := hLe _ (Df hj)
   dsimp only at hesl
   have hgo := WM (i := i) hK hG hv (j := j) (es := es) (by simp [O5, hj])
   generalize Ax keys y.row = key at hkr hen hkc hj hgo
   have hpl := UB hj
   have hax := UE hj
   have hin := P4 hj
   dsimp only at hpl hax hin
   repeat' first | refine GD 2 (mem' := _ :: _ :: _ :: _ :: _) ?_ (hm' := rfl) | refine Bg (mem' := _ :: _ :: _ :: _ :: _) ?_ (hm' := rfl) | refine kz ?_ | refine AT hv ?_ | refine As ?_ | refine Aa (hkr) ?_ | refine Aa (hen) ?_ | refine TF hpl ⟨_, rfl⟩ (JI _) ?_ | refine Nd (r := 1) (m := L.length) (z := (j : Int)) (es := LP L) ?_ (by omega) (by omega) (by exact rfl) | refine Nf (r := 1) ?_ (by exact rfl) | refine Ng (r := 1) ?_ (by exact rfl) hax | refine Cz (mem' := _ :: _ :: _ :: _ :: (O6 L).set j _) ?_ (hm := hin) (hm' := rfl) | refine K6 (r := 1) (o := 1) (mem' := _ :: _ :: _ :: _ :: _) ?_ (by exact rfl) hax (by exact X5 1) rfl (hm' := rfl) | refine Ay Ac ?_ | refine Cg rfl rfl ?_ ?_
   have hE := UF (v := c + 1 + 1) (es' := es ++ [y]) hj
   have hI := UH L j (key, c + 1 + 1, es ++ [y])
   have hP := UD (v := c + 1 + 1) (es' := es ++ [y]) hj
   have hgs := UI L j (key, c + 1 + 1, es ++ [y])
   have hlen : L.length = (L.set j (key, c + 1 + 1, es ++ [y])).length := by simp
   rw [Dg] at hE
   rw [As'] at hI
   have hE2 : (LP L).set j ([Cell.d (D0 key), Cell.arr (j + 4) v es.length].set 1 (Cell.arr (j + 4) (c + 1 + 1) (es.length + [[BS y.row, Dat.lit (Value.int .i64 y.count)]].length))) = _ := hE
   have hI2 : (O6 L).set j (Blk.arr (c + 1 + 1) 56 2 (es.map Entry.d ++ [[BS y.row, Dat.lit (Value.int .i64 y.count)]])) = _ := hI
   rw [← hgs] at hgo
   generalize L.set j (key, c + 1 + 1, es ++ [y]) = L2 at hE2 hI2 hP hgo hlen
   rw [hE2, hI2, ← hP, hlen]
   apply Ae ((i + 1, L2, kx)) <;> (try dsimp only) <;> try repeat' first | exact k0 | refine kw ?_ | refine m3 ?_ ?_ ?_ ?_ | omega
   · exact Kc
   · exact ⟨by omega, by omega, hgo⟩
  ·have hn : ∀ g ∈ L, g.1 ≠ Ax keys y.row := fun g hg hq => by
     obtain ⟨q, hq2⟩ := Mz.1 hg
     exact hex ⟨q, g.2.1, g.2.2, by rw [hq2, ← hq]⟩
   have hgo := WN (i := i) hK hG hv (fun g hg => by
     obtain ⟨x, hx, rfl⟩ := List.mem_map.1 hg
     exact hn x hx)
   have hpn := UC hkc hLc hn
   generalize Ax keys y.row = key at hkr hen hn hgo hpn
   have hax : (LP L ++ [[Cell.d (D0 key), Cell.emp]])[L.length]? = some [Cell.d (D0 key), Cell.emp] := by rw [← Ht L]; simp
   have haxl : (LP L ++ [[Cell.d (D0 key), Cell.emp]]).length = L.length + 1 := by simp [Ht]
   repeat' first | refine GD 2 (mem' := _ :: _ :: _ :: _ :: _) ?_ (hm' := rfl) | refine Bg (mem' := _ :: _ :: _ :: _ :: _) ?_ (hm' := rfl) | refine QX 3 (e := 98) (mem' := _ :: _ :: _ :: _ :: _) ?_ (hm' := rfl) | refine kz ?_ | refine AT hv ?_ | refine As ?_ | refine Aa (hkr) ?_ | refine Aa (hen) ?_ | refine TG hpn ⟨_, rfl⟩ (JI _) ?_ | refine WS (r := 1) ?_ (by exact rfl) | refine Oq (mem' := _ :: _ :: _ :: _ :: _) hpn ⟨_, rfl⟩ (JI _) ?_ (hm' := rfl) | (refine WR 1 3 (ei := VE) (cs := [Cell.d (D0 key), Cell.emp]) (m := L.length) (es := LP L) (mem' := _ :: _ :: _ :: _ :: _) ?_ (Ht L) (by simp only [maxLen]; omega) (by simp only [VE]; omega) (by exact rfl) (by exact rfl) (by decide) (hm' := rfl)) | refine Nd (r := 1) (m := L.length + 1) (z := (L.length : Int)) (es := LP L ++ [[Cell.d (D0 key), Cell.emp]]) ?_ (by omega) (by omega) (by exact rfl) | refine Nf (r := 1) ?_ (by exact rfl) | refine Ng (r := 1) ?_ (by exact rfl) hax | refine Ha (r := L.length + 4) (mem' := _ :: _ :: _ :: _ :: (O6 L ++ [_])) ?_ (hr := by simp [UG]) (hm' := rfl) | refine K6 (r := 1) (o := 1) (mem' := _ :: _ :: _ :: _ :: _) ?_ (by exact rfl) hax (by exact X5 1) rfl (hm' := rfl) | refine Ay Ac ?_ | refine Cg rfl rfl ?_ ?_
   have hE := Sk L (key, c + 1 + 1 + 1 + 1, [y])
   have hI := Sl L (key, c + 1 + 1 + 1 + 1, [y])
   have hP := Sj L (key, c + 1 + 1 + 1 + 1, [y])
   have hgs := Sm L (key, c + 1 + 1 + 1 + 1, [y])
   have hlen : (L ++ [(key, c + 1 + 1 + 1 + 1, [y])]).length = L.length + 1 := by simp
   have hE2 : (LP L ++ [[Cell.d (D0 key), Cell.emp]]).set L.length ([Cell.d (D0 key), Cell.emp].set 1 (Cell.arr (L.length + 4) (c + 1 + 1 + 1 + 1) 1)) = _ := (Sn (Ht L).symm).trans hE
   have hI2 : O6 L ++ [Blk.arr (c + 1 + 1 + 1 + 1) 56 2 [[BS y.row, Dat.lit (Value.int .i64 y.count)]]] = _ := hI
   have hP2 : P3 L ++ [(IH key, PV.one (Dat.lit (Value.int .i64 (L.length : Nat))))] = _ := hP
   rw [← hgs] at hgo
   generalize L ++ [(key, c + 1 + 1 + 1 + 1, [y])] = L2 at hE2 hI2 hP2 hgo hlen
   rw [hE2, hI2, hP2, ← X7]
   apply Ae ((i + 1, L2, c + 1 + 1 + 1)) <;> (try dsimp only) <;> try repeat' first | exact k0 | refine kw ?_ | refine m3 ?_ ?_ ?_ ?_ | omega
   all_goals first
     | (rw [hlen]; done)
     | (rw [hlen]; rfl)
     | exact Kc
     | exact ⟨by omega, by omega, hgo⟩
     | rfl
 ·obtain rfl : i = b.length := by omega
  rw [PQ] at hG
  have hs := UA hK hG
  have hS := Pw OR (fun _ => rfl) G4 grpCmp_ok.swo 116 (O5 L) (by rw [LQ]; omega) (fun g _ h _ => O7 g h)
  have hgl := (Bt grpCmp_ok.swo (O5 L)).length_eq
  rw [hs] at hS hgl
  rw [LQ] at hS hgl
  refine UL 4 1 ((O5 L).map OR) ?_ rfl (by decide) (by simp [Ht, LQ]) (fun e he => by obtain ⟨g, _, rfl⟩ := List.mem_map.1 he; rfl) (fun q j e x hq hj => ?_) rfl
  ·repeat' first | refine kz ?_ | refine As ?_ | refine Ak [1] (hS) ?_ | refine kh ?_ ?_ | exact ⟨⟩ | fail
   all_goals first
     | (simp; omega)
     | (rw [Ag (by simp; omega)]; rfl)
     | rfl
  ·simp only [LP, Yl, ZE] at hq
   obtain ⟨g, hg, rfl⟩ := hq
   refine ⟨OR (g.1, g.2.2), ?_⟩
   have h1 : ((O5 L).map OR)[q]? = some (OR (g.1, g.2.2)) := by simp [O5, hg]
   match j, hj with
   | 0, hj =>
     simp only [List.getElem?_cons_zero, Option.some.injEq] at hj
     subst hj
     exact ⟨D0 g.1, h1, rfl, rfl⟩
   | 1, hj =>
     simp only [List.getElem?_cons_succ, List.getElem?_cons_zero, Option.some.injEq] at hj
     subst hj
     exact ⟨Ao g.2.2, h1, rfl, by omega, 56, 2, g.2.2.map Entry.d, P4 hg, by simp, by rw [Ua (by simp)]; rfl⟩
   | j + 2, hj => simp at hj
end Go.Proofs.YtmpgmjlanngkfaaGreat
end
