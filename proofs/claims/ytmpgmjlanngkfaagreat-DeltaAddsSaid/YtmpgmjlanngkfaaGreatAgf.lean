/-
  Aggregates: the values of functions.
-/
import Derived.Test.YtmpgmjlanngkfaaGreatAgp
import Derived.Test.YtmpgmjlanngkfaaGreatDex
import Derived.Test.YtmpgmjlanngkfaaGreatMpd
import Derived.Test.YtmpgmjlanngkfaaGreatExg
import Derived.Test.YtmpgmjlanngkfaaGreatMrg
import Derived.Test.YtmpgmjlanngkfaaGreatLaid
section
namespace Go.Proofs.YtmpgmjlanngkfaaGreat
open Go.Abs Go.RowKit
attribute [local irreducible] ARun Au MCall PCall HCall Ak SF CF CFs Af Ag Ar fin AP VLe
set_option linter.unusedSimpArgs false
set_option maxRecDepth 100000
set_option maxHeartbeats 4000000
variable {L : List (Val × Int)} {g : List Val × Nat × List Entry} {i : Nat} {k : List Val} {x : Val × Int}
structure Itm where
 name : ByteArray
 expr : List Trm
def Itm.d (x : Itm) : List Dat := [.lit (.string x.name), Bw x.expr]
def MU (l : List Itm) : Dat := .sl (l.map Itm.d)
def Bm (keys : List Itm) (row : List Val) : List Val := keys.map fun x => Gc x.expr row
theorem Ce (keys : List Itm) (row : List Val) : AG (Bm keys row) := by
 unfold AG Bm
 rw [Ve]
 refine bM fun x _ => ?_
 show (Gc x.expr row).clean = Gc x.expr row
 rw [Val.clean, if_pos (F1 ..)]
theorem G0 (keys : List Itm) (row : List Val) : (Bm keys row).length = keys.length := by simp [Bm]
def Ez (r : List Val) : Dat := .ex (r.map Val.d)
theorem LO (r : List Val) : DLe (Ez r) (BP r) := DLe.ex _
theorem SQ (row : List Val) (keys : List Itm) (hk : keys.length ≤ 100000) : PC 113 [.one (BP row), .one (MU keys)] (.v (.one (Ez (Bm keys row)))) := by
 refine Ac hT Tryz.func113 Tryz.ntmps113 [.tmp 4] fun B => ?_
 repeat' first | (refine VK (ei := R4) (m := keys.length) (z := (keys.length : Int)) (zd := Val.null.d) (fun b => ?_) (by omega) (by omega) (by omega) (by simp only [R4]; omega) (by exact rfl)) | refine kz ?_ | refine Aw ?_ | refine BA Ae ?_ | refine B7 ?_
 refine A0 (X := Nat) ([6, 7] ++ List.range' 13 13) (fun x => x ≤ keys.length) (fun x lz => (13, (iC x)) :: lz) (fun x => [.arrc 1 73 3 ((Bm (keys.take x) row).map Val.d ++ List.replicate (keys.length - x) Val.null.d) b keys.length]) (fun x => keys.length - x) (0) ?_ ?_ ?_ ?_
 repeat' first | exact k0 | refine kw ?_ | omega
 rintro i c hi
 by_cases hlt : i < keys.length
 ·obtain ⟨it, hv⟩ := gx hlt
  have hev := Hc it.expr row
  have hl : ((Bm (keys.take i) row).map Val.d).length = i := by simp [Bm]; omega
  have hset : ((Bm (keys.take i) row).map Val.d ++ List.replicate (keys.length - i) Val.null.d).set i (Gc it.expr row).d = (Bm (keys.take (i + 1)) row).map Val.d ++ List.replicate (keys.length - (i + 1)) Val.null.d := by
   obtain ⟨k, hk⟩ : ∃ k, keys.length - i = k + 1 := ⟨keys.length - i - 1, by omega⟩
   rw [hk, show keys.length - (i + 1) = k by omega, bN, Zt _ _ (by omega), hl, U6, List.set_cons_zero]
   unfold Bm
   rw [IU, hv]; simp
  have hel : ((Bm (keys.take i) row).map Val.d ++ List.replicate (keys.length - i) Val.null.d)[i]? = some Val.null.d := by
   rw [LB (by omega), hl, U6, List.getElem?_replicate, if_pos (by omega)]
  have hAl : ((Bm (keys.take i) row).map Val.d ++ List.replicate (keys.length - i) Val.null.d).length = keys.length := by rw [CP, hl, I8]; omega
  generalize (Bm (keys.take i) row).map Val.d ++ List.replicate (keys.length - i) Val.null.d = A at hset hel hAl
  repeat' first | refine kz ?_ | refine AX hv ?_ | refine AX hel ?_ | refine Aw ?_ | refine Aa (hev) ?_ | refine Te (r := 0) (m := keys.length) (z := (i : Int)) ?_ (by omega) (by omega) (by exact rfl) | refine Tf (r := 0) (j := i) (e' := (Gc it.expr row).d) (mem' := _ :: _) ?_ (by exact rfl) hel (hes := hset) (hm' := rfl) | refine kf ?_ | fail
  apply Ad (i + 1) <;> (try dsimp only) <;> try repeat' first | exact k0 | refine kw ?_ | omega
  all_goals exact EH
 ·have hie : i = keys.length := by omega
  subst hie
  rw [PK, U6, List.replicate_zero, List.append_nil]
  refine Rb (r := 0) (m := keys.length) (es := (Bm keys row).map Val.d) 5 ?_ rfl (by rw [BQ, G0]) rfl
  repeat' first | refine kz ?_ | refine Aw ?_ | refine kf ?_ | fail
  all_goals rfl
abbrev GL := List (List Val × Nat × List Entry)
def OZ (L : GL) : List (List Val × List Entry) := L.map fun g => (g.1, g.2.2)
def Si (g : List Val × List Entry) : List Dat := [Ez g.1, Am g.2]
def Z4 (l : List (List Val × List Entry)) : Dat := .sl (l.map Si)
def Ip (k : List Val) : Value := .string ⟨(Al k).toArray⟩
def P0 (L : GL) : List (Value × PV) := L.mapIdx fun i g => (Ip g.1, .one (.lit (.int .i64 (i : Nat))))
def LP (L : GL) : List (List Cell) := L.mapIdx fun i g => [.d (Ez g.1), .arr (i + 4) g.2.1 g.2.2.length]
def O0 (L : GL) : List Blk := L.map fun g => .arr g.2.1 56 2 (g.2.2.map Entry.d)
theorem Q0 {a b : List Val} (ha : AG a) (hb : AG b) (h : Ip a = Ip b) : a = b := by
 unfold Ip at h
 injection h with h; injection h with h
 have h' : Al a = Al b := by simpa using congrArg Array.toList h
 have := EZ h'
 rw [ha, hb] at this; exact this
theorem Jo (L : GL) : ∀ e ∈ P0 L, Iz e.1 := fun e he => by
 obtain ⟨i, hi⟩ := LC.1 he
 simp only [P0, Zv, ZM] at hi
 obtain ⟨g, _, rfl⟩ := hi
 exact ⟨_, rfl⟩
theorem Vt {L : GL} (h : L[i]? = some g) : (P0 L)[i]? = some (Ip g.1, .one (.lit (.int .i64 (i : Nat)))) := by simp [P0, h]
theorem Vu {L : GL} (hk : AG k) (hL : ∀ g ∈ L, AG g.1) (h : ∀ g ∈ L, g.1 ≠ k) : ∀ e ∈ P0 L, e.1 ≠ Ip k := fun e he q => by
 obtain ⟨i, hi⟩ := LC.1 he
 simp only [P0, Zv, ZM] at hi
 obtain ⟨g, hg, rfl⟩ := hi
 have hm := Cl hg
 exact h g hm (Q0 (hL g hm) hk q)
theorem SS (L : GL) (g : List Val × Nat × List Entry) : P0 L ++ [(Ip g.1, .one (.lit (.int .i64 (L.length : Nat))))] = P0 (L ++ [g]) := by simp [P0, List.mapIdx_append]
theorem Vv {L : GL} {j v : Nat} {es es' : List Entry} {v0 : Nat} (h : L[j]? = some (k, v0, es)) : P0 (L.set j (k, v, es')) = P0 L := by
 refine PJ fun i => ?_
 simp only [P0, Zv, bS]
 split
 ·rename_i q; subst q
  have := lt_of_getElem? h
  rw [if_pos this, h]; rfl
 ·rfl
theorem Vx {L : GL} (h : L[i]? = some g) : (LP L)[i]? = some [.d (Ez g.1), .arr (i + 4) g.2.1 g.2.2.length] := by simp [LP, h]
theorem G2 (L : GL) : (LP L).length = L.length := by simp [LP]
theorem Vy {L : GL} {j v : Nat} {es es' : List Entry} {v0 : Nat} (h : L[j]? = some (k, v0, es)) : (LP L).set j [.d (Ez k), .arr (j + 4) v es'.length] = LP (L.set j (k, v, es')) := by
 refine PJ fun i => ?_
 simp only [LP, Zv, bS, List.length_mapIdx]
 split
 ·rename_i q; subst q
  have := lt_of_getElem? h
  rw [if_pos this, if_pos this]; rfl
 ·rfl
theorem SU (L : GL) (g : List Val × Nat × List Entry) : LP L ++ [[.d (Ez g.1), .arr (L.length + 4) g.2.1 g.2.2.length]] = LP (L ++ [g]) := by simp [LP, List.mapIdx_append]
theorem P1 {L : GL} (h : L[i]? = some g) : (O0 L)[i]? = some (.arr g.2.1 56 2 (g.2.2.map Entry.d)) := by simp [O0, h]
theorem Vz (L : GL) : (O0 L).length = L.length := by simp [O0]
theorem VA (L : GL) (j : Nat) (g : List Val × Nat × List Entry) : (O0 L).set j (.arr g.2.1 56 2 (g.2.2.map Entry.d)) = O0 (L.set j g) := by simp [O0, U7]
theorem SV (L : GL) (g : List Val × Nat × List Entry) : O0 L ++ [.arr g.2.1 56 2 (g.2.2.map Entry.d)] = O0 (L ++ [g]) := by simp [O0]
theorem LQ (L : GL) : (OZ L).length = L.length := by simp [OZ]
theorem VB (L : GL) (j : Nat) (g : List Val × Nat × List Entry) : OZ (L.set j g) = (OZ L).set j (g.1, g.2.2) := by simp [OZ, U7]
theorem SX (L : GL) (g : List Val × Nat × List Entry) : OZ (L ++ [g]) = OZ L ++ [(g.1, g.2.2)] := by simp [OZ]
theorem SY {α : Type} {l : List α} {n : Nat} {a b : α} (h : n = l.length) : (l ++ [a]).set n b = l ++ [b] := by
 subst h; rw [Zt _ _ (Nat.le_refl _), U6]; rfl
theorem O1 (g h : List Val × List Entry) : PC 116 [.agg (Si g), .agg (Si h)] (.v (.one (.lit (.int .i64 (Gq g h))))) := by
 unfold Gq
 have h : PC 116 [.agg [BP g.1, Am g.2], .agg [BP h.1, Am h.2]] (.v (.one (.lit (.int .i64 (Ai g.1 h.1))))) := by
  refine Ac hT Tryz.func116 Tryz.ntmps116 [.tmp 4] fun B => ?_
  repeat' first | refine kz ?_ | refine Aa (Bf _ _) ?_ | refine kf ?_ | fail
  all_goals rfl
 exact h.args ⟨⟨LO _, .rfl, trivial⟩, ⟨LO _, .rfl, trivial⟩, trivial⟩
theorem SZ (b : List Entry) (keys : List Itm) (hbl : b.length ≤ 4096) (hkl : keys.length ≤ 10000) : PC 64 [.one (Am b), .one (MU keys)] (.v (.one (Z4 (GX b (Bm keys))))) := by
 have hK : CS b (Bm keys) := fun e _ => Ce keys e.row
 refine Ac hT Tryz.func64 Tryz.ntmps64 [.tmp 4] fun B => ?_
 repeat' first | refine kz ?_ | refine Aw ?_ | refine kh ?_ ?_ | exact ⟨⟩ | fail
 refine Yi 5 98 2 ?_ (by decide)
 refine A0 (X := Nat × GL × Nat) ([5] ++ List.range' 8 5 ++ List.range' 16 41) (fun x => x.1 ≤ b.length ∧ x.2.1.length ≤ x.1 ∧ GI (b.take x.1) (Bm keys) (OZ x.2.1)) (fun x lz => (16, (iC x.1)) :: (5, .c (.arr 1 x.2.2 x.2.1.length)) :: lz) (fun x => .map 1 9 3 (P0 x.2.1) (List.range x.2.1.length) x.2.1.length :: .arrx x.2.2 98 2 (LP x.2.1) :: .dead :: .dead :: O0 x.2.1) (fun x => b.length - x.1) ((0, [], 2)) ?_ ?_ ?_ ?_
 repeat' first | exact k0 | refine kw ?_ | refine m3 ?_ ?_ ?_ ?_ | omega
 ·exact S5
 ·exact ⟨by simp, by simp, Ya _⟩
 rintro ⟨i, L, kx⟩ c ⟨hi, hLi, hG⟩
 dsimp only at hi hLi hG ⊢
 by_cases hlt : i < b.length
 ·obtain ⟨y, hv⟩ := gx hlt
  have hkr := SQ y.row keys (by omega)
  have hen : PC 114 [.one (Ez (Bm keys y.row))] _ := (Cg (Bm keys y.row) (by rw [G0]; omega)).args ⟨LO _, trivial⟩
  have hkc := Ce keys y.row
  have hLc : ∀ g ∈ L, AG g.1 := fun g hg => by
   obtain ⟨⟨e, _, hq⟩, _⟩ := hG.mem (g.1, g.2.2) (List.mem_map.2 ⟨g, hg, rfl⟩)
   exact hq ▸ Ce keys e.row
  have hLe : ∀ g ∈ L, g.2.2.length ≤ 4096 := fun g hg => by
   obtain ⟨_, hq⟩ := hG.mem (g.1, g.2.2) (List.mem_map.2 ⟨g, hg, rfl⟩)
   have h1 := Sl (Vr (Bm keys) g.1) (b.take i)
   have h2 : (b.take i).length ≤ i := by simp; omega
   have hq2 : g.2.2 = (b.take i).filter (Vr (Bm keys) g.1) := hq
   rw [hq2]; omega
  by_cases hex : ∃ (j : Nat) (v : Nat) (es : List Entry), L[j]? = some (Bm keys y.row, v, es)
  ·obtain ⟨j, v, es, hj⟩ := hex
   have hjl := lt_of_getElem? hj
   have hesl := hLe _ (Cl hj)
   dsimp only at hesl
   have hgo := Yb (i := i) hK hG hv (j := j) (es := es) (by simp [OZ, hj])
   generalize Bm keys y.row = key at hkr hen hkc hj hgo
   have hpl := Vt hj
   have hax := Vx hj
   have hin := P1 hj
   dsimp only at hpl hax hin
   repeat' first | refine C0 2 (mem' := _ :: _ :: _ :: _ :: _) ?_ (hm' := rfl) | refine DR (mem' := _ :: _ :: _ :: _ :: _) ?_ (hm' := rfl) | refine kz ?_ | refine AX hv ?_ | refine Aw ?_ | refine Aa (hkr) ?_ | refine Aa (hen) ?_ | refine UJ hpl ⟨_, rfl⟩ (Jo _) ?_ | refine MZ (r := 1) (m := L.length) (z := (j : Int)) (es := LP L) ?_ (by omega) (by omega) (by exact rfl) | refine M0 (r := 1) ?_ (by exact rfl) | refine M1 (r := 1) ?_ (by exact rfl) hax | refine L7 (mem' := _ :: _ :: _ :: _ :: (O0 L).set j _) ?_ (hm := hin) (hm' := rfl) | refine KM (r := 1) (o := 1) (mem' := _ :: _ :: _ :: _ :: _) ?_ (by exact rfl) hax (by exact ZB 1) rfl (hm' := rfl) | refine BA Ae ?_ | refine Gx rfl rfl ?_ ?_
   have hE := Vy (v := c + 1 + 1) (es' := es ++ [y]) hj
   have hI := VA L j (key, c + 1 + 1, es ++ [y])
   have hP := Vv (v := c + 1 + 1) (es' := es ++ [y]) hj
   have hgs := VB L j (key, c + 1 + 1, es ++ [y])
   have hlen : L.length = (L.set j (key, c + 1 + 1, es ++ [y])).length := by simp
   rw [CP] at hE
   rw [Ah'] at hI
   have hE2 : (LP L).set j ([Cell.d (Ez key), Cell.arr (j + 4) v es.length].set 1 (Cell.arr (j + 4) (c + 1 + 1) (es.length + [[BP y.row, Dat.lit (Value.int .i64 y.count)]].length))) = _ := hE
   have hI2 : (O0 L).set j (Blk.arr (c + 1 + 1) 56 2 (es.map Entry.d ++ [[BP y.row, Dat.lit (Value.int .i64 y.count)]])) = _ := hI
   rw [← hgs] at hgo
   generalize L.set j (key, c + 1 + 1, es ++ [y]) = L2 at hE2 hI2 hP hgo hlen
   rw [hE2, hI2, ← hP, hlen]
   apply Ad ((i + 1, L2, kx)) <;> (try dsimp only) <;> try repeat' first | exact k0 | refine kw ?_ | refine m3 ?_ ?_ ?_ ?_ | omega
   · exact EH
   · exact ⟨by omega, by omega, hgo⟩
  ·have hn : ∀ g ∈ L, g.1 ≠ Bm keys y.row := fun g hg hq => by
     obtain ⟨q, hq2⟩ := LC.1 hg
     exact hex ⟨q, g.2.1, g.2.2, by rw [hq2, ← hq]⟩
   have hgo := Yc (i := i) hK hG hv (fun g hg => by
     obtain ⟨x, hx, rfl⟩ := List.mem_map.1 hg
     exact hn x hx)
   have hpn := Vu hkc hLc hn
   generalize Bm keys y.row = key at hkr hen hn hgo hpn
   have hax : (LP L ++ [[Cell.d (Ez key), Cell.emp]])[L.length]? = some [Cell.d (Ez key), Cell.emp] := by rw [← G2 L]; simp
   have haxl : (LP L ++ [[Cell.d (Ez key), Cell.emp]]).length = L.length + 1 := by simp [G2]
   repeat' first | refine C0 2 (mem' := _ :: _ :: _ :: _ :: _) ?_ (hm' := rfl) | refine DR (mem' := _ :: _ :: _ :: _ :: _) ?_ (hm' := rfl) | refine Q3 3 (e := 98) (mem' := _ :: _ :: _ :: _ :: _) ?_ (hm' := rfl) | refine kz ?_ | refine AX hv ?_ | refine Aw ?_ | refine Aa (hkr) ?_ | refine Aa (hen) ?_ | refine UK hpn ⟨_, rfl⟩ (Jo _) ?_ | refine Yh (r := 1) ?_ (by exact rfl) | refine On (mem' := _ :: _ :: _ :: _ :: _) hpn ⟨_, rfl⟩ (Jo _) ?_ (hm' := rfl) | (refine Yg 1 3 (ei := WG) (cs := [Cell.d (Ez key), Cell.emp]) (m := L.length) (es := LP L) (mem' := _ :: _ :: _ :: _ :: _) ?_ (G2 L) (by simp only [maxLen]; omega) (by simp only [WG]; omega) (by exact rfl) (by exact rfl) (by decide) (hm' := rfl)) | refine MZ (r := 1) (m := L.length + 1) (z := (L.length : Int)) (es := LP L ++ [[Cell.d (Ez key), Cell.emp]]) ?_ (by omega) (by omega) (by exact rfl) | refine M0 (r := 1) ?_ (by exact rfl) | refine M1 (r := 1) ?_ (by exact rfl) hax | refine L6 (r := L.length + 4) (mem' := _ :: _ :: _ :: _ :: (O0 L ++ [_])) ?_ (hr := by simp [Vz]) (hm' := rfl) | refine KM (r := 1) (o := 1) (mem' := _ :: _ :: _ :: _ :: _) ?_ (by exact rfl) hax (by exact ZB 1) rfl (hm' := rfl) | refine BA Ae ?_ | refine Gx rfl rfl ?_ ?_
   have hE := SU L (key, c + 1 + 1 + 1 + 1, [y])
   have hI := SV L (key, c + 1 + 1 + 1 + 1, [y])
   have hP := SS L (key, c + 1 + 1 + 1 + 1, [y])
   have hgs := SX L (key, c + 1 + 1 + 1 + 1, [y])
   have hlen : (L ++ [(key, c + 1 + 1 + 1 + 1, [y])]).length = L.length + 1 := by simp
   have hE2 : (LP L ++ [[Cell.d (Ez key), Cell.emp]]).set L.length ([Cell.d (Ez key), Cell.emp].set 1 (Cell.arr (L.length + 4) (c + 1 + 1 + 1 + 1) 1)) = _ := (SY (G2 L).symm).trans hE
   have hI2 : O0 L ++ [Blk.arr (c + 1 + 1 + 1 + 1) 56 2 [[BP y.row, Dat.lit (Value.int .i64 y.count)]]] = _ := hI
   have hP2 : P0 L ++ [(Ip key, PV.one (Dat.lit (Value.int .i64 (L.length : Nat))))] = _ := hP
   rw [← hgs] at hgo
   generalize L ++ [(key, c + 1 + 1 + 1 + 1, [y])] = L2 at hE2 hI2 hP2 hgo hlen
   rw [hE2, hI2, hP2, ← ZC]
   apply Ad ((i + 1, L2, c + 1 + 1 + 1)) <;> (try dsimp only) <;> try repeat' first | exact k0 | refine kw ?_ | refine m3 ?_ ?_ ?_ ?_ | omega
   all_goals first
     | (rw [hlen]; done)
     | (rw [hlen]; rfl)
     | exact EH
     | exact ⟨by omega, by omega, hgo⟩
     | rfl
 ·obtain rfl : i = b.length := by omega
  rw [PK] at hG
  have hs := Vs hK hG
  have hS := Pp Si (fun _ => rfl) Gq grpCmp_ok.swo 116 (OZ L) (by rw [LQ]; omega) (fun g _ h _ => O1 g h)
  have hgl := (BG grpCmp_ok.swo (OZ L)).length_eq
  rw [hs] at hS hgl
  rw [LQ] at hS hgl
  refine VF 4 1 ((OZ L).map Si) ?_ rfl (by decide) (by simp [G2, LQ]) (fun e he => by obtain ⟨g, _, rfl⟩ := List.mem_map.1 he; rfl) (fun q j e x hq hj => ?_) rfl
  ·repeat' first | refine kz ?_ | refine Aw ?_ | refine Ah [1] (hS) ?_ | refine kh ?_ ?_ | exact ⟨⟩ | fail
   all_goals first
     | (simp; omega)
     | (rw [Ao (by simp; omega)]; rfl)
     | rfl
  ·simp only [LP, Zv, ZM] at hq
   obtain ⟨g, hg, rfl⟩ := hq
   refine ⟨Si (g.1, g.2.2), ?_⟩
   have h1 : ((OZ L).map Si)[q]? = some (Si (g.1, g.2.2)) := by simp [OZ, hg]
   match j, hj with
   | 0, hj =>
     simp only [List.getElem?_cons_zero, Option.some.injEq] at hj
     subst hj
     exact ⟨Ez g.1, h1, rfl, rfl⟩
   | 1, hj =>
     simp only [List.getElem?_cons_succ, List.getElem?_cons_zero, Option.some.injEq] at hj
     subst hj
     exact ⟨Am g.2.2, h1, rfl, by omega, 56, 2, g.2.2.map Entry.d, P1 hg, by simp, by rw [Mq (by simp)]; rfl⟩
   | j + 2, hj => simp at hj
def Cp (x : Val × Int) : List Dat := [.lit (.int .i64 x.1.kind), .lit (.int .i64 x.1.int), .lit (.string x.1.text), .lit (.int .i64 x.2)]
def D4 (L : List (Val × Int)) : Dat := .sl (L.map Cp)
def U8 (L : List (Val × Int)) : Prop := L.length ≤ 4096 ∧ ∀ x ∈ L, (-4294967296 ≤ x.1.int ∧ x.1.int ≤ 4294967296) ∧ -262144 ≤ x.2 ∧ x.2 ≤ 262144
theorem PT {a b : Int} (ha : -4294967296 ≤ a ∧ a ≤ 4294967296) (hb : -262144 ≤ b ∧ b ≤ 262144) : -1125899906842624 ≤ a * b ∧ a * b ≤ 1125899906842624 := by
 have h1 : (a * b).natAbs ≤ 4294967296 * 262144 := by
  rw [ZE]
  exact Nat.mul_le_mul (by omega) (by omega)
 omega
theorem LL {α : Type} {f : α → Int} {M : Int} : ∀ {l : List α}, (∀ x ∈ l, -M ≤ f x ∧ f x ≤ M) → -(M * l.length) ≤ (l.map f).sum ∧ (l.map f).sum ≤ M * l.length
 | [], _ => by simp
 | x :: l, h => by
   have h1 := h x (by simp)
   have h2 := LL (l := l) fun y hy => h y (by simp [hy])
   simp only [List.map_cons, Sm, List.length_cons, Int.natCast_add, Int.mul_add, Int.mul_one, Int.natCast_one]
   omega
theorem LM (h : U8 L) (i : Nat) : -1073741824 ≤ GZ (L.take i) ∧ GZ (L.take i) ≤ 1073741824 := by
 have h1 := LL (f := Prod.snd) (M := 262144) (l := L.take i) fun x hx => (by have := h.2 x (IS hx); omega)
 have h2 : (L.take i).length ≤ 4096 := by have := h.1; simp; omega
 unfold GZ; omega
theorem PU (h : U8 L) (i : Nat) : -4611686018427387904 ≤ IJ (L.take i) ∧ IJ (L.take i) ≤ 4611686018427387904 := by
 have h1 := LL (f := fun x : Val × Int => if x.1.kind = 1 then x.1.int * x.2 else 0) (M := 1125899906842624) (l := L.take i) fun x hx => (by
  have := h.2 x (IS hx)
  have := PT this.1 this.2
  split <;> omega)
 have h2 : (L.take i).length ≤ 4096 := by have := h.1; simp; omega
 unfold IJ; omega
theorem Vo (h : U8 L) (i : Nat) : -1073741824 ≤ IK (L.take i) ∧ IK (L.take i) ≤ 1073741824 := by
 have h1 := LL (f := fun x : Val × Int => if x.1.kind = 1 then x.2 else 0) (M := 262144) (l := L.take i) fun x hx => (by
  have := h.2 x (IS hx)
  split <;> omega)
 have h2 : (L.take i).length ≤ 4096 := by have := h.1; simp; omega
 unfold IK; omega
theorem MK (h : L[i]? = some x) : GZ (L.take (i + 1)) = GZ (L.take i) + x.2 := by rw [BS h]; simp [GZ]
theorem QS (h : L[i]? = some x) : IJ (L.take (i + 1)) = IJ (L.take i) + if x.1.kind = 1 then x.1.int * x.2 else 0 := by rw [BS h]; simp [IJ]
theorem QT (h : L[i]? = some x) : IK (L.take (i + 1)) = IK (L.take i) + if x.1.kind = 1 then x.2 else 0 := by rw [BS h]; simp [IK]
theorem Io (n : Int) : PC 197 [.one (.lit (.int .i64 n))] (.v (.agg (Val.ofInt n).d)) := by
 have hc := Hu ⟨1, n, ⟨#[]⟩⟩
 have he : Val.ofInt n = (⟨1, n, ⟨#[]⟩⟩ : Val).clean := rfl
 rw [he]
 refine Ac hT Tryz.func197 Tryz.ntmps197 [.cell 2 73] fun B => ?_
 repeat' first | refine kz ?_ | refine Aa (hc) ?_ | refine kh ?_ ?_ | exact ⟨⟩ | fail
 all_goals rfl
theorem Sz (L : List (Val × Int)) (h : U8 L) : PC 117 [.one (D4 L)] (.tup [.one (.lit (.int .i64 (IJ L))), .one (.lit (.int .i64 (IK L)))]) := by
 have hl := h.1
 refine Ac hT Tryz.func117 Tryz.ntmps117 [.tmp 2, .tmp 3] fun B => ?_
 repeat' first | refine kz ?_ | refine Aw ?_ | refine kh ?_ ?_ | exact ⟨⟩ | fail
 refine A0 (X := Nat × Int × Int) ([4, 5, 7] ++ List.range' 10 21) (fun x => x.1 ≤ L.length ∧ x.2.1 = IJ (L.take x.1) ∧ x.2.2 = IK (L.take x.1)) (fun x lz => (10, (iC x.1)) :: (4, .c (.d (.lit (.int .i64 x.2.1)))) :: (5, .c (.d (.lit (.int .i64 x.2.2)))) :: lz) (fun x => []) (fun x => L.length - x.1) ((0, 0, 0)) ?_ ?_ ?_ ?_
 repeat' first | exact k0 | refine kw ?_ | omega
 ·exact ⟨by simp, rfl, rfl⟩
 rintro ⟨i, s, m⟩ c ⟨hi, hs, hm⟩
 dsimp only at hi hs hm ⊢
 by_cases hlt : i < L.length
 ·have hv : L[i]? = some L[i] := Bh hlt
  have hx := h.2 _ (Fp hlt)
  generalize L[i] = x at hv hx
  have hv2 : (L.map Cp)[i]? = some (Cp x) := by rw [B2, hv]; rfl
  have b1 := PU h i
  have b2 := Vo h i
  have b3 := PU h (i + 1)
  have b4 := PT hx.1 hx.2
  have e1 := QS hv
  have e2 := QT hv
  rw [← hs] at b1 e1
  rw [← hm] at b2 e2
  by_cases hk : x.1.kind = 1
  ·rw [if_pos hk] at e1 e2
   obtain ⟨p, hp⟩ : ∃ p, p = x.1.int * x.2 := ⟨_, rfl⟩
   rw [← hp] at b4 e1
   repeat' first | refine kz ?_ | refine AX hv2 ?_ | refine Aw ?_ | refine kh ?_ ?_ | exact ⟨⟩ | fail
   apply Ad ((i + 1, s + x.1.int * x.2, m + x.2)) <;> (try dsimp only) <;> try repeat' first | exact k0 | refine kw ?_ | omega
   all_goals exact ⟨by omega, by rw [e1, hp], e2.symm⟩
  ·rw [if_neg hk, Int.add_zero] at e1 e2
   repeat' first | refine kz ?_ | refine AX hv2 ?_ | refine Aw ?_ | refine kh ?_ ?_ | exact ⟨⟩ | fail
   apply Ad ((i + 1, s, m)) <;> (try dsimp only) <;> try repeat' first | exact k0 | refine kw ?_ | omega
   all_goals exact ⟨by omega, e1.symm, e2.symm⟩
 ·rw [Ao (show L.length ≤ i by omega)] at hs hm
  rw [← hs, ← hm]
  repeat' first | refine kz ?_ | refine Aw ?_ | refine kh ?_ ?_ | exact ⟨⟩ | fail
  all_goals rfl
def QU (x : Val × Int) : Bool := decide (x.1.kind ≠ 0)
def GO (L : List (Val × Int)) : Nat := (L.takeWhile QU).length
theorem OV (L : List (Val × Int)) : Eu L = L.filter QU := rfl
theorem SA (L : List (Val × Int)) : GO L ≤ L.length := (List.takeWhile_sublist _).length_le
theorem ML : ∀ L : List (Val × Int), L.take (GO L) = L.takeWhile QU
 | [] => rfl
 | x :: L => by
   unfold GO
   rw [List.takeWhile_cons]
   split
   ·rw [List.length_cons, List.take_succ_cons]; exact congrArg _ (ML L)
   ·rfl
theorem SB (hi : i < GO L) (h : L[i]? = some x) : QU x = true := by
 have h1 : (L.takeWhile QU)[i]? = some x := by
  rw [← ML, LD, if_pos hi]; exact h
 have h3 := List.all_takeWhile (p := QU) (l := L)
 rw [CN] at h3
 exact h3 x (Cl h1)
theorem OW : ∀ {L : List (Val × Int)} {x : Val × Int}, L[GO L]? = some x → QU x = false
 | [], _, h => by cases h
 | y :: L, x, h => by
   unfold GO at h
   rw [List.takeWhile_cons] at h
   cases hq : QU y with
   | true =>
     rw [hq, if_pos rfl, List.length_cons, List.getElem?_cons_succ] at h
     exact OW h
   | false =>
     rw [hq, if_neg (by decide)] at h
     simp only [List.length_nil, List.getElem?_cons_zero, Option.some.injEq] at h
     subst h; exact hq
theorem SC (L : List (Val × Int)) : Eu (L.take (GO L)) = L.take (GO L) := by
 rw [OV, ZR]
 intro x hx
 obtain ⟨i, hi⟩ := LC.1 hx
 rw [LD] at hi
 split at hi
 ·exact SB ‹_› hi
 ·cases hi
theorem MM (h : L[i]? = some x) : Eu (L.take (i + 1)) = Eu (L.take i) ++ (if QU x then [x] else []) := by
 rw [OV, OV, BS h, XP]
 congr 1
 by_cases hq : QU x = true <;> simp [hq]
theorem Jm (x : Val × Int) : PC 236 [.agg (Cp x)] (.v (.one (.lit (.bool (!QU x))))) := by
 refine Ac hT Tryz.func236 Tryz.ntmps236 [.tmp 2] fun B => ?_
 repeat' first | refine kz ?_ | refine kf ?_ | fail
 all_goals (refine congrArg Dat.lit (congrArg Value.bool ?_); unfold QU; by_cases h : x.1.kind = 0 <;> simp [h])
theorem OX (L : List (Val × Int)) (hl : L.length ≤ 4096) : PC 252 [.one (D4 L), .one (.lit (.func (.func 236) #[] #[]))] (.v (.one (.lit (.int .i64 (if GO L < L.length then (GO L : Int) else -1))))) := by
 have hll := SA L
 refine Ac hT Tryz.func252 Tryz.ntmps252 [.tmp 4] fun B => ?_
 repeat' first | refine kz ?_ | refine Aw ?_ | refine kf ?_ | fail
 refine A0 (X := Nat) ([4, 5] ++ List.range' 8 11) (fun x => x ≤ GO L) (fun x lz => (8, (iC x)) :: lz) (fun x => []) (fun x => GO L - x) (0) ?_ ?_ ?_ ?_
 repeat' first | exact k0 | refine kw ?_ | omega
 rintro i c hi
 by_cases hlt : i < GO L
 ·have hv : L[i]? = some L[i] := Bh (by omega)
  have hnn := SB hlt hv
  generalize L[i] = x at hv hnn
  have hv2 : (L.map Cp)[i]? = some (Cp x) := by rw [B2, hv]; rfl
  have hc := Jm x
  rw [hnn] at hc
  repeat' first | refine kz ?_ | refine AX hv2 ?_ | refine Aw ?_ | refine Aa (hc) ?_ | refine kf ?_ | fail
  apply Ad (i + 1) <;> (try dsimp only) <;> try repeat' first | exact k0 | refine kw ?_ | omega
 ·obtain rfl : i = GO L := by omega
  by_cases hpl : GO L < L.length
  ·rw [if_pos hpl]
   have hv : L[GO L]? = some L[GO L] := Bh hpl
   have hnn := OW hv
   generalize L[GO L] = x at hv hnn
   have hv2 : (L.map Cp)[GO L]? = some (Cp x) := by rw [B2, hv]; rfl
   have hc := Jm x
   rw [hnn] at hc
   repeat' first | refine kz ?_ | refine AX hv2 ?_ | refine Aw ?_ | refine Aa (hc) ?_ | refine kf ?_ | fail
   all_goals rfl
  ·rw [if_neg hpl]
   repeat' first | refine kz ?_ | refine Aw ?_ | refine kf ?_ | fail
   all_goals rfl
theorem MN (L : List (Val × Int)) (hl : L.length ≤ 4096) (hne : L ≠ []) : HC 235 [.c (.d (D4 L))] [] (.c (.arr 0 1 L.length)) [.arr 1 186 4 (L.map Cp)] := by
 have hpos : 0 < L.length := Zw.2 hne
 refine AI hT Tryz.func235 Tryz.ntmps235 [.tmp 2] fun B => ?_
 repeat' first | refine kz ?_ | refine AN rfl (fun hb => ?_) (fun hb => ?_) | refine LS (fun b hnil => ?_) | refine kg ?_ ?_ | exact k0 | refine Ab ?_
 all_goals first
  | (exfalso; exact hne (by simpa using hnil hb))
  | (simp; done)
  | rfl
theorem X1 (c s : Nat) : 0 = if c = Int.toNat 0 then 0 else 0 + Int.toNat 0 * s := by simp
end Go.Proofs.YtmpgmjlanngkfaaGreat
end
