/-
  Aggregates: fold, values of groups, Exact.
-/
import Derived.Test.YtmpgmjlanngkfaaGreatTex
section
namespace Go.Proofs.YtmpgmjlanngkfaaGreat
open Go.Abs Go.RowKit
attribute [local irreducible] ARun Aq MCall PCall HCall Am SF CF CFs Af Al Ap B5 AW VLe
set_option linter.unusedSimpArgs false
set_option maxRecDepth 100000
set_option maxHeartbeats 4000000
theorem R7 (L : List (Val × Int)) (hl : L.length ≤ 4096) (hne : L ≠ []) : HC 234 [.c (.arr 0 0 L.length), .c (.d (.lit (.func (.func 236) #[] #[])))] [.arr 0 186 4 (L.map CT)] (.c (.arr 0 1 (EW L).length)) [.arr 1 186 4 ((EW L).map CT)] := by
 by_cases h : Ho L < L.length
 ·exact WE L hl h
 ·exact WC L hl hne h
theorem QR (x y : Val × Int) : PC 238 [.agg (CT x), .agg (CT y)] (.v (.one (.lit (.int .i64 (x.1.cmp y.1))))) := by
 refine Ad hT Tryz.func238 Tryz.ntmps238 [.tmp 4] fun B => ?_
 repeat' first | refine kz ?_ | refine Aa (H4 x.1 y.1) ?_ | refine kf ?_ | fail
 all_goals rfl
noncomputable def rkE (f : Int) (L : List (Val × Int)) : Val :=
 if EW L = [] then Val.null else if f = 2 then Ey (ascE L) 0 else if f = 3 then Ey (ascE L) (Hs (EW L) - 1) else Ey (ascE L) ((Hs (EW L) - 1) / 2)
theorem R8 : PC 235 [.one (ED [])] (.v (.one (ED []))) := by
 refine Ad hT Tryz.func235 Tryz.ntmps235 [.tmp 2] fun B => ?_
 repeat' first | refine kz ?_ | refine AE rfl (fun hb => ?_) (fun hb => ?_) | refine CH (fun b hnil => ?_) | refine kh ?_ ?_ | exact ⟨⟩ | fail
 all_goals first
  | rfl
  | (simp; done)
theorem WG : PC 234 [.one (ED []), .one (.lit (.func (.func 236) #[] #[]))] (.v (.one (ED []))) := by
 have h := O2 [] (by simp)
 rw [if_neg (by decide)] at h
 refine Ad hT Tryz.func234 Tryz.ntmps234 [.tmp 4] fun B => ?_
 repeat' first | refine kz ?_ | refine Aa (h) ?_ | refine kf ?_ | fail
 all_goals rfl
theorem QS (f : Int) : PC 198 [.one (.lit (.int .i64 f)), .one (ED [])] (.v (.agg (rkE f []).d)) := by
 have h : rkE f [] = Val.null := by unfold rkE; exact if_pos rfl
 rw [h]
 refine Ad hT Tryz.func198 Tryz.ntmps198 [.cell 4 73] fun B => ?_
 repeat' first | refine kz ?_ | refine Aa (R8) ?_ | refine Aa (WG) ?_ | refine kh ?_ ?_ | exact ⟨⟩ | fail
 all_goals rfl
theorem MY (L : List (Val × Int)) : (ascE L).length = (EW L).length := (EZ L).length_eq
theorem WH {L : List (Val × Int)} (h : T4 L) : T4 (ascE L) := by
 refine ⟨by rw [MY]; exact OQ (PZ L) h.1, fun x hx => ?_⟩
 exact h.2 x (KB.1 ((EZ L).mem_iff.1 hx)).1
theorem QT (L : List (Val × Int)) (hb : T4 L) (hne : L ≠ []) (hn : EW L = []) (f : Int) : PC 198 [.one (.lit (.int .i64 f)), .one (ED L)] (.v (.agg (rkE f L).d)) := by
 have h : rkE f L = Val.null := by unfold rkE; rw [if_pos hn]
 rw [h]
 have h1 := MX L hb.1 hne
 have h2 := R7 L hb.1 hne
 rw [hn, List.length_nil, List.map_nil] at h2
 refine Ad hT Tryz.func198 Tryz.ntmps198 [.cell 4 73] fun B => ?_
 repeat' first | refine kz ?_ | refine Ak [] (h1) ?_ | refine Ak [1] (h2) ?_ | refine kh ?_ ?_ | exact ⟨⟩ | fail
 all_goals rfl
theorem R9 (L : List (Val × Int)) (hb : T4 L) (hp : M5 L) (f : Int) (hf : f = 2 ∨ f = 3 ∨ f = 4) : PC 198 [.one (.lit (.int .i64 f)), .one (ED L)] (.v (.agg (rkE f L).d)) := by
 by_cases hne : L = []
 ·subst hne; exact QS f
 by_cases hn : EW L = []
 ·exact QT L hb hne hn f
 have h1 := MX L hb.1 hne
 have h2 := R7 L hb.1 hne
 have hnl := PZ L
 have hbl := hb.1
 have hS := Py CT (fun _ => rfl) (fun x y => x.1.cmp y.1) vcmp_ok.swo 238 (EW L) (by omega) (fun x _ y _ => QR x y)
 have hse : sortF (fun x y : Val × Int => x.1.cmp y.1) (EW L) = ascE L := rfl
 rw [hse] at hS
 have hr : rkE f L = if f = 2 then Ey (ascE L) 0 else if f = 3 then Ey (ascE L) (Hs (EW L) - 1) else Ey (ascE L) ((Hs (EW L) - 1) / 2) := by unfold rkE; rw [if_neg hn]
 have ht : Hs (EW L) = Hs (ascE L) := (Se (EZ L)).symm
 rw [hr, ht]
 have hal := MY L
 have hB := WH hb
 have hP : M5 (ascE L) := fun x hx => hp x (KB.1 ((EZ L).mem_iff.1 hx)).1
 have hpos : 0 < (EW L).length := VM.2 hn
 clear hr ht hse
 generalize ascE L = S at hS hal hB hP ⊢
 generalize hN : (EW L).length = N at h2 hS hal hpos hnl
 clear hN
 rcases hf with rfl | rfl | rfl
 ·obtain ⟨x, S', rfl⟩ : ∃ x S', S = x :: S' := by
   cases S with
   | nil => simp at hal; omega
   | cons x S' => exact ⟨x, S', rfl⟩
  rw [if_pos rfl, QU hP]
  have hv : ((x :: S').map CT)[0]? = some (CT x) := rfl
  have hvl : ((x :: S').map CT).length = N := by rw [BT]; exact hal
  generalize (x :: S').map CT = M at hS hv hvl
  refine Ad hT Tryz.func198 Tryz.ntmps198 [.cell 4 73] fun B => ?_
  repeat' first | refine kz ?_ | refine AT hv ?_ | refine As ?_ | refine Ak [] (h1) ?_ | refine Ak [1] (h2) ?_ | refine Ak [1] (hS) ?_ | refine kh ?_ ?_ | exact ⟨⟩ | fail
  all_goals rfl
 ·obtain ⟨S', x, rfl⟩ : ∃ S' x, S = S' ++ [x] := by
   rcases List.eq_nil_or_concat S with h | ⟨a, b, h⟩
   · subst h; simp at hal; omega
   · exact ⟨a, b, by rw [h, List.concat_eq_append]⟩
  rw [if_neg (by decide), if_pos rfl, M7 hP]
  have hSl : S'.length + 1 = N := by simpa using hal
  have hv : ((S' ++ [x]).map CT)[((N : Int) - 1).toNat]? = some (CT x) := by
   rw [show ((N : Int) - 1).toNat = S'.length by omega, Ci]; simp
  have hvl : ((S' ++ [x]).map CT).length = N := by rw [BT]; exact hal
  generalize (S' ++ [x]).map CT = M at hS hv hvl
  refine Ad hT Tryz.func198 Tryz.ntmps198 [.cell 4 73] fun B => ?_
  repeat' first | refine kz ?_ | refine AT hv ?_ | refine As ?_ | refine Ak [] (h1) ?_ | refine Ak [1] (h2) ?_ | refine Ak [1] (hS) ?_ | refine kh ?_ ?_ | exact ⟨⟩ | fail
  all_goals rfl
 ·rw [if_neg (by decide), if_neg (by decide)]
  have hSl := hB.1
  have htp := P2 hP (fun q => by rw [q] at hal; simp at hal; omega)
  have htb := LO hB S.length
  rw [PQ] at htb
  refine Ad hT Tryz.func198 Tryz.ntmps198 [.cell 4 73] fun B => ?_
  repeat' first | refine kz ?_ | refine Ak [] (h1) ?_ | refine Ak [1] (h2) ?_ | refine Ak [1] (hS) ?_ | refine kh ?_ ?_ | exact ⟨⟩ | fail
  refine AY (X := Nat × Int) ([5, 7] ++ List.range' 38 9) (fun x => x.1 ≤ N ∧ x.2 = Hs (S.take x.1)) (fun x lz => (38, (iC x.1)) :: (5, .c (.d (.lit (.int .i64 x.2)))) :: lz) (fun x => [.box 1 (Val.null.d.map .d), .arr 3 186 4 (S.map CT)]) (fun x => N - x.1) ((0, 0)) ?_ ?_ ?_ ?_
  repeat' first | exact k0 | refine kw ?_ | refine kv ?_ ?_ | omega
  ·exact ⟨by simp, rfl⟩
  rintro ⟨k, m⟩ c ⟨hk, hm⟩
  dsimp only at hk hm ⊢
  by_cases hkl : k < N
  ·obtain ⟨x, hv⟩ := gx (l := S) (i := k) (by omega)
   have hv2 : (S.map CT)[k]? = some (CT x) := by rw [Ci, hv]; rfl
   have e1 := MT hv
   have b1 := LO hB (k + 1)
   have b2 := LO hB k
   rw [← hm] at e1 b2
   have hvl : (S.map CT).length = N := by rw [BT]; exact hal
   generalize S.map CT = M at hv2 hvl ⊢
   repeat' first | refine kz ?_ | refine AT hv2 ?_ | refine As ?_ | refine kh ?_ ?_ | exact ⟨⟩ | fail
   apply Ae ((k + 1, m + x.2)) <;> (try dsimp only) <;> try repeat' first | exact k0 | refine kw ?_ | refine kv ?_ ?_ | omega
   all_goals exact ⟨by omega, e1.symm⟩
  ·obtain rfl : k = N := by omega
   rw [Ag (by omega)] at hm
   rw [← hm] at htp htb ⊢
   repeat' first | refine kz ?_ | refine kh ?_ ?_ | exact ⟨⟩ | fail
   refine AY (X := Nat × Int) ([8, 10] ++ List.range' 52 15) (fun x => x.1 ≤ k ∧ 0 ≤ x.2 ∧ x.2 ≤ 1073741824 ∧ Ey S ((m - 1) / 2) = Ey (S.drop x.1) x.2) (fun x lz => (52, (iC x.1)) :: (8, .c (.d (.lit (.int .i64 x.2)))) :: lz) (fun x => [.box 1 (Val.null.d.map .d), .arr 3 186 4 (S.map CT)]) (fun x => k - x.1) ((0, (m - 1) / 2)) ?_ ?_ ?_ ?_
   repeat' first | exact k0 | refine kw ?_ | refine kv ?_ ?_ | omega
   all_goals try (dsimp only; rw [Int.tdiv_eq_ediv_of_nonneg (by omega), BW (by omega) (by omega)]; done)
   all_goals try (exact ⟨by omega, by dsimp only; omega, by dsimp only; omega, rfl⟩)
   rintro ⟨q, z⟩ c2 ⟨hq, hz0, hz1, hnt⟩
   dsimp only at hq hz0 hz1 hnt ⊢
   by_cases hql : q < k
   · have hv : S[q]? = some S[q] := Bi (by omega)
     have hpx := hP _ (Df hv)
     generalize S[q] = x at hv hpx
     have hv2 : (S.map CT)[q]? = some (CT x) := by rw [Ci, hv]; rfl
     have hvl : (S.map CT).length = k := by rw [BT]; exact hal
     rw [Az hv, Ey] at hnt
     generalize S.map CT = M at hv2 hvl ⊢
     by_cases hzx : z < x.2
     ·rw [if_pos hzx] at hnt
      rw [hnt]
      repeat' first | refine kz ?_ | refine AT hv2 ?_ | refine As ?_ | refine kh ?_ ?_ | exact ⟨⟩ | fail
      all_goals rfl
     ·rw [if_neg hzx] at hnt
      repeat' first | refine kz ?_ | refine AT hv2 ?_ | refine As ?_ | refine kh ?_ ?_ | exact ⟨⟩ | fail
      apply Ae ((q + 1, z - x.2)) <;> (try dsimp only) <;> try repeat' first | exact k0 | refine kw ?_ | refine kv ?_ ?_ | omega
      all_goals exact ⟨by omega, by omega, by omega, hnt⟩
   · rw [QF (by omega), Ey] at hnt
     rw [hnt]
     repeat' first | refine kz ?_ | refine kh ?_ ?_ | exact ⟨⟩ | fail
     all_goals rfl
theorem Uu (f : Int) (L : List (Val × Int)) (hf : f = 2 ∨ f = 3 ∨ f = 4) : foldE f L = rkE f L := by
 unfold foldE rkE
 rcases hf with rfl | rfl | rfl
 ·rw [if_neg (by decide), if_neg (by decide), if_pos rfl]; simp
 ·rw [if_neg (by decide), if_neg (by decide), if_neg (by decide), if_pos rfl]; simp
 ·rw [if_neg (by decide), if_neg (by decide), if_neg (by decide), if_neg (by decide), if_pos rfl]; simp
theorem WI (f : Int) (L : List (Val × Int)) (hb : T4 L) (hp : M5 L) : PC 145 [.one (.lit (.int .i64 f)), .one (ED L)] (.v (.agg (foldE f L).d)) := by
 have hl := hb.1
 by_cases h0 : f = 0
 ·subst h0
  have hn := IE (Hs L)
  have he : foldE 0 L = Val.ofInt (Hs L) := by unfold foldE; rw [if_pos rfl]
  rw [he]
  refine Ad hT Tryz.func145 Tryz.ntmps145 [.cell 4 73] fun B => ?_
  repeat' first | refine kz ?_ | refine As ?_ | refine kh ?_ ?_ | exact ⟨⟩ | fail
  refine AY (X := Nat × Int) ([5, 7] ++ List.range' 15 9) (fun x => x.1 ≤ L.length ∧ x.2 = Hs (L.take x.1)) (fun x lz => (15, (iC x.1)) :: (5, .c (.d (.lit (.int .i64 x.2)))) :: lz) (fun x => [.box 1 (Val.null.d.map .d)]) (fun x => L.length - x.1) ((0, 0)) ?_ ?_ ?_ ?_
  repeat' first | exact k0 | refine kw ?_ | omega
  ·exact ⟨by simp, rfl⟩
  rintro ⟨k, m⟩ c ⟨hk, hm⟩
  dsimp only at hk hm ⊢
  by_cases hkl : k < L.length
  ·obtain ⟨x, hv⟩ := gx (l := L) (i := k) (by omega)
   have hv2 : (L.map CT)[k]? = some (CT x) := by rw [Ci, hv]; rfl
   have e1 := MT hv
   have b1 := LO hb (k + 1)
   rw [← hm] at e1
   repeat' first | refine kz ?_ | refine AT hv2 ?_ | refine As ?_ | refine kh ?_ ?_ | exact ⟨⟩ | fail
   apply Ae ((k + 1, m + x.2)) <;> (try dsimp only) <;> try repeat' first | exact k0 | refine kw ?_ | omega
   all_goals exact ⟨by omega, e1.symm⟩
  ·rw [Ag (show L.length ≤ k by omega)] at hm
   rw [← hm] at hn ⊢
   repeat' first | refine kz ?_ | refine As ?_ | refine Aa (hn) ?_ | refine kh ?_ ?_ | exact ⟨⟩ | fail
   all_goals rfl
 by_cases h1 : f = 1
 ·subst h1
  have hs := MU L hb
  have hn := IE (GM L)
  by_cases hc : GN L = 0
  ·have he : foldE 1 L = Val.null := by unfold foldE; rw [if_neg (by decide), if_pos rfl, if_pos hc]
   rw [he]
   rw [hc] at hs
   refine Ad hT Tryz.func145 Tryz.ntmps145 [.cell 4 73] fun B => ?_
   repeat' first | refine kz ?_ | refine As ?_ | refine Aa (hs) ?_ | refine kh ?_ ?_ | exact ⟨⟩ | fail
   all_goals rfl
  ·have he : foldE 1 L = Val.ofInt (GM L) := by unfold foldE; rw [if_neg (by decide), if_pos rfl, if_neg hc]
   rw [he]
   generalize GN L = n at hs hc
   refine Ad hT Tryz.func145 Tryz.ntmps145 [.cell 4 73] fun B => ?_
   repeat' first | refine kz ?_ | refine As ?_ | refine Aa (hs) ?_ | refine Aa (hn) ?_ | refine kh ?_ ?_ | exact ⟨⟩ | fail
   all_goals rfl
 by_cases h2 : f = 2 ∨ f = 3 ∨ f = 4
 ·have hr := R9 L hb hp f h2
  rw [Uu f L h2]
  rcases h2 with rfl | rfl | rfl
  all_goals
   refine Ad hT Tryz.func145 Tryz.ntmps145 [.cell 4 73] fun B => ?_
   repeat' first | refine kz ?_ | refine As ?_ | refine Aa (hr) ?_ | refine kh ?_ ?_ | exact ⟨⟩ | fail
   all_goals rfl
 ·have he : foldE f L = Val.null := by unfold foldE; rw [if_neg h0, if_neg h1, if_neg (by omega), if_neg (by omega), if_neg (by omega)]
  rw [he]
  refine Ad hT Tryz.func145 Tryz.ntmps145 [.cell 4 73] fun B => ?_
  repeat' first | refine kz ?_ | refine As ?_ | refine kh ?_ ?_ | exact ⟨⟩ | fail
  all_goals first
   | rfl
   | (exfalso; simp at hb; omega)
structure Agg where
 name : ByteArray
 func : Int
 expr : List Trm
def Agg.d (x : Agg) : List Dat := [.lit (.string x.name), .lit (.int .i64 x.func), BR x.expr]
def HW (l : List Agg) : Dat := .sl (l.map Agg.d)
def O3 (x : Agg) (e : Entry) : Val × Int := (if x.func = 0 then Val.null else GX x.expr e.row, e.count)
def BU (x : Agg) (es : List Entry) : List (Val × Int) := es.map (O3 x)
theorem O4 {ag : Agg} {es : List Entry} {i : Nat} {y : Entry} (h : es[i]? = some y) : (BU ag (es.take i)).map CT ++ [CT (O3 ag y)] = (BU ag (es.take (i + 1))).map CT := by
 rw [Ba h]; simp [BU]
theorem HX (ag : Agg) (es : List Entry) : (BU ag es).length = es.length := by simp [BU]
theorem MZ (g : List Val × List Entry) (ag : Agg) (hl : g.2.length ≤ 4096) : PC 118 [.agg (OR g), .agg ag.d] (.v (.one (ED (BU ag g.2)))) := by
 obtain ⟨key, es⟩ := g
 dsimp only at hl ⊢
 refine Ad hT Tryz.func118 Tryz.ntmps118 [.tmp 4] fun B => ?_
 repeat' first | refine kz ?_ | refine As ?_ | refine kf ?_ | fail
 refine CN 5 186 4 ?_
 refine AY (X := Nat × Nat) ([5, 7, 8] ++ List.range' 12 20) (fun x => x.1 ≤ es.length) (fun x lz => (12, (iC x.1)) :: (5, .c (.arr 2 x.2 x.1)) :: lz) (fun x => [.box 1 [.d (D0 key), .d (Ao es)], .box 2 (ag.d.map .d), .arr x.2 186 4 ((BU ag (es.take x.1)).map CT)]) (fun x => es.length - x.1) ((0, 3)) ?_ ?_ ?_ ?_
 repeat' first | exact k0 | refine kw ?_ | refine kv ?_ ?_ | omega
 rintro ⟨i, k⟩ c hi
 dsimp only at hi ⊢
 by_cases hlt : i < es.length
 ·obtain ⟨y, hv⟩ := gx hlt
  have hs := O4 (ag := ag) hv
  have hal : ((BU ag (es.take i)).map CT).length = i := by simp [BU]; omega
  have hv2 : (es.map Entry.d)[i]? = some y.d := by rw [Ci, hv]; rfl
  generalize (BU ag (es.take i)).map CT = A at hs hal ⊢
  by_cases hf : ag.func = 0
  ·have hy : CT (O3 ag y) = Val.null.d ++ [.lit (.int .i64 y.count)] := by unfold O3 CT; rw [if_pos hf]; rfl
   rw [hy] at hs
   repeat' first | refine kz ?_ | refine AT hv2 ?_ | refine As ?_ | refine kf ?_ | fail
   apply Ae ((i + 1, c + 3)) <;> (try dsimp only) <;> try repeat' first | exact k0 | refine kw ?_ | refine kv ?_ ?_ | omega
   all_goals first
    | omega
    | (rw [Ag (by omega)]; exact hs)
  ·have hev := F8 ag.expr y.row
   have hy : CT (O3 ag y) = (GX ag.expr y.row).d ++ [.lit (.int .i64 y.count)] := by unfold O3 CT; rw [if_neg hf]; rfl
   rw [hy] at hs
   repeat' first | refine kz ?_ | refine AT hv2 ?_ | refine As ?_ | refine Aa (hev) ?_ | refine kf ?_ | fail
   apply Ae ((i + 1, c + 3)) <;> (try dsimp only) <;> try repeat' first | exact k0 | refine kw ?_ | refine kv ?_ ?_ | omega
   all_goals first
    | omega
    | (rw [Ag (by omega)]; exact hs)
 ·obtain rfl : i = es.length := by omega
  rw [Ag (Nat.le_refl _)]
  refine A8 (m := es.length) (r := 2) (es := (BU ag es).map CT) 5 ?_ (hl := by rw [BT, HX]; omega) (hes := Ag (by rw [BT, HX]; omega))
  repeat' first | refine kz ?_ | refine As ?_ | refine kf ?_ | fail
  all_goals rfl
end Go.Proofs.YtmpgmjlanngkfaaGreat
end
