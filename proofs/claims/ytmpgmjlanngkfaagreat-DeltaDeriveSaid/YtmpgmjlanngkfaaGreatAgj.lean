/-
  Aggregates: fold, values of groups, Exact.
-/
import Derived.Test.YtmpgmjlanngkfaaGreatAgh
section
namespace Go.Proofs.YtmpgmjlanngkfaaGreat
open Go.Abs Go.RowKit
attribute [local irreducible] ARun At MCall PCall HCall Am SF CF CFs Ah Aj Ar fin AW VLe
set_option linter.unusedSimpArgs false
set_option maxRecDepth 100000
set_option maxHeartbeats 4000000
theorem Sf (L : List (Val × Int)) (hl : L.length ≤ 4096) (hne : L ≠ []) : HCall Tryz.prog 234 [.c (.arr 0 0 L.length), .c (.d (.lit (.func (.func 236) #[] #[])))] [.arr 0 186 4 (L.map Cu)] (.c (.arr 0 1 (BW L).length)) [.arr 1 186 4 ((BW L).map Cu)] := by
 by_cases h : He L < L.length
 ·exact W4 L hl h
 ·exact W2 L hl hne h
theorem QA (x y : Val × Int) : PCall Tryz.prog 238 [.agg (Cu x), .agg (Cu y)] (.v (.one (.lit (.int .i64 (x.1.cmp y.1))))) := by
 refine Ac hT Tryz.func238 Tryz.ntmps238 [.tmp 4] fun B => ?_
 repeat' (first | refine kz ?_ | refine Aa (H2 x.1 y.1) ?_ | refine kf ?_ | fail)
 all_goals rfl
noncomputable def rkE (f : Int) (L : List (Val × Int)) : Val :=
 if BW L = [] then Val.null else if f = 2 then B4 (ascE L) 0 else if f = 3 then B4 (ascE L) (C4 (BW L) - 1) else B4 (ascE L) ((C4 (BW L) - 1) / 2)
theorem Sg : PCall Tryz.prog 235 [.one (Eg [])] (.v (.one (Eg []))) := by
 refine Ac hT Tryz.func235 Tryz.ntmps235 [.tmp 2] fun B => ?_
 repeat' (first | refine kz ?_ | refine Au rfl (fun hb => ?_) (fun hb => ?_) | refine LF (fun b hnil => ?_) | refine kf ?_ | refine kg ?_ ?_ | fail)
 all_goals first
  | rfl
  | (simp; done)
theorem W5 : PCall Tryz.prog 234 [.one (Eg []), .one (.lit (.func (.func 236) #[] #[]))] (.v (.one (Eg []))) := by
 have h := ON [] (by simp)
 rw [if_neg (by decide)] at h
 refine Ac hT Tryz.func234 Tryz.ntmps234 [.tmp 4] fun B => ?_
 repeat' (first | refine kz ?_ | refine Aa (h) ?_ | refine kf ?_ | fail)
 all_goals rfl
theorem QB (f : Int) : PCall Tryz.prog 198 [.one (.lit (.int .i64 f)), .one (Eg [])] (.v (.agg (rkE f []).d)) := by
 have h : rkE f [] = Val.null := by unfold rkE; exact if_pos rfl
 rw [h]
 refine Ac hT Tryz.func198 Tryz.ntmps198 [.cell 4 73] fun B => ?_
 repeat' (first | refine kz ?_ | refine Aa (Sg) ?_ | refine Aa (W5) ?_ | refine kf ?_ | exact k0 | refine kg ?_ ?_ | fail)
 all_goals rfl
theorem Mw (L : List (Val × Int)) : (ascE L).length = (BW L).length := (B8 L).length_eq
theorem W6 {L : List (Val × Int)} (h : Ls L) : Ls (ascE L) := by
 refine ⟨by rw [Mw]; exact Nat.le_trans (Lw L) h.1, fun x hx => ?_⟩
 exact h.2 x (List.mem_filter.1 ((B8 L).mem_iff.1 hx)).1
theorem QC (L : List (Val × Int)) (hb : Ls L) (hne : L ≠ []) (hn : BW L = []) (f : Int) : PCall Tryz.prog 198 [.one (.lit (.int .i64 f)), .one (Eg L)] (.v (.agg (rkE f L).d)) := by
 have h : rkE f L = Val.null := by unfold rkE; rw [if_pos hn]
 rw [h]
 have h1 := Mv L hb.1 hne
 have h2 := Sf L hb.1 hne
 rw [hn, List.length_nil, List.map_nil] at h2
 refine Ac hT Tryz.func198 Tryz.ntmps198 [.cell 4 73] fun B => ?_
 repeat' (first | refine kz ?_ | refine Ad [] (h1) ?_ | refine Ad [1] (h2) ?_ | refine kf ?_ | exact k0 | refine kg ?_ ?_ | fail)
 all_goals rfl
theorem Sh (L : List (Val × Int)) (hb : Ls L) (hp : Dx L) (f : Int) (hf : f = 2 ∨ f = 3 ∨ f = 4) : PCall Tryz.prog 198 [.one (.lit (.int .i64 f)), .one (Eg L)] (.v (.agg (rkE f L).d)) := by
 by_cases hne : L = []
 ·subst hne; exact QB f
 by_cases hn : BW L = []
 ·exact QC L hb hne hn f
 have h1 := Mv L hb.1 hne
 have h2 := Sf L hb.1 hne
 have hnl := Lw L
 have hbl := hb.1
 have hS := Pl Cu (fun _ => rfl) (fun x y => x.1.cmp y.1) vcmp_ok.swo 238 (BW L) (by omega) (fun x _ y _ => QA x y)
 have hse : sortF (fun x y : Val × Int => x.1.cmp y.1) (BW L) = ascE L := rfl
 rw [hse] at hS
 have hr : rkE f L = if f = 2 then B4 (ascE L) 0 else if f = 3 then B4 (ascE L) (C4 (BW L) - 1) else B4 (ascE L) ((C4 (BW L) - 1) / 2) := by unfold rkE; rw [if_neg hn]
 have ht : C4 (BW L) = C4 (ascE L) := (DZ (B8 L)).symm
 rw [hr, ht]
 have hal := Mw L
 have hB := W6 hb
 have hP : Dx (ascE L) := fun x hx => hp x (List.mem_filter.1 ((B8 L).mem_iff.1 hx)).1
 have hpos : 0 < (BW L).length := List.length_pos_iff.2 hn
 clear hr ht hse
 generalize ascE L = S at hS hal hB hP ⊢
 generalize hN : (BW L).length = N at h2 hS hal hpos hnl
 clear hN
 rcases hf with rfl | rfl | rfl
 ·obtain ⟨x, S', rfl⟩ : ∃ x S', S = x :: S' := by
   cases S with
   | nil => simp at hal; omega
   | cons x S' => exact ⟨x, S', rfl⟩
  rw [if_pos rfl, QF hP]
  have hv : ((x :: S').map Cu)[0]? = some (Cu x) := rfl
  have hvl : ((x :: S').map Cu).length = N := by rw [List.length_map]; exact hal
  generalize (x :: S').map Cu = M at hS hv hvl
  refine Ac hT Tryz.func198 Tryz.ntmps198 [.cell 4 73] fun B => ?_
  repeat' (first | refine kz ?_ | refine kx hv ?_ | refine ki ?_ | refine Ad [] (h1) ?_ | refine Ad [1] (h2) ?_ | refine Ad [1] (hS) ?_ | refine kf ?_ | exact k0 | refine kg ?_ ?_ | fail)
  all_goals rfl
 ·obtain ⟨S', x, rfl⟩ : ∃ S' x, S = S' ++ [x] := by
   rcases List.eq_nil_or_concat S with h | ⟨a, b, h⟩
   · subst h; simp at hal; omega
   · exact ⟨a, b, by rw [h, List.concat_eq_append]⟩
  rw [if_neg (by decide), if_pos rfl, Mz hP]
  have hSl : S'.length + 1 = N := by simpa using hal
  have hv : ((S' ++ [x]).map Cu)[((N : Int) - 1).toNat]? = some (Cu x) := by
   rw [show ((N : Int) - 1).toNat = S'.length by omega, List.getElem?_map]; simp
  have hvl : ((S' ++ [x]).map Cu).length = N := by rw [List.length_map]; exact hal
  generalize (S' ++ [x]).map Cu = M at hS hv hvl
  refine Ac hT Tryz.func198 Tryz.ntmps198 [.cell 4 73] fun B => ?_
  repeat' (first | refine kz ?_ | refine kx hv ?_ | refine ki ?_ | refine Ad [] (h1) ?_ | refine Ad [1] (h2) ?_ | refine Ad [1] (hS) ?_ | refine kf ?_ | exact k0 | refine kg ?_ ?_ | fail)
  all_goals rfl
 ·rw [if_neg (by decide), if_neg (by decide)]
  have hSl := hB.1
  have htp := Hk hP (fun q => by rw [q] at hal; simp at hal; omega)
  have htb := HT hB S.length
  rw [List.take_length] at htb
  refine Ac hT Tryz.func198 Tryz.ntmps198 [.cell 4 73] fun B => ?_
  repeat' (first | refine kz ?_ | refine Ad [] (h1) ?_ | refine Ad [1] (h2) ?_ | refine Ad [1] (hS) ?_ | refine kf ?_ | exact k0 | refine kg ?_ ?_ | fail)
  refine AO (X := Nat × Int) [5, 7, 38, 39, 40, 41, 42, 43, 44, 45, 46] (fun x => x.1 ≤ N ∧ x.2 = C4 (S.take x.1)) (fun x lz => (38, (.c (.d (.lit (.int .i64 x.1))))) :: (5, .c (.d (.lit (.int .i64 x.2)))) :: lz) (fun x => [.box 1 (Val.null.d.map .d), .arr 3 186 4 (S.map Cu)]) (fun x => N - x.1) ((0, 0)) ?_ ?_ ?_ ?_
  repeat' (first | exact k0 | refine kw ?_ | refine kv ?_ ?_ | omega)
  ·exact ⟨by simp, rfl⟩
  rintro ⟨k, m⟩ c ⟨hk, hm⟩
  dsimp only at hk hm ⊢
  by_cases hkl : k < N
  ·have hv : S[k]? = some S[k] := List.getElem?_eq_getElem (by omega)
   generalize S[k] = x at hv
   have hv2 : (S.map Cu)[k]? = some (Cu x) := by rw [List.getElem?_map, hv]; rfl
   have e1 := Jl hv
   have b1 := HT hB (k + 1)
   have b2 := HT hB k
   rw [← hm] at e1 b2
   have hvl : (S.map Cu).length = N := by rw [List.length_map]; exact hal
   generalize S.map Cu = M at hv2 hvl ⊢
   repeat' (first | refine kz ?_ | refine kx hv2 ?_ | refine ki ?_ | refine kf ?_ | exact k0 | refine kg ?_ ?_ | fail)
   (apply Ae ((k + 1, m + x.2)); all_goals (try dsimp only); all_goals (try (repeat' (first | exact k0 | refine kw ?_ | refine kv ?_ ?_ | omega))))
   all_goals exact ⟨by omega, e1.symm⟩
  ·obtain rfl : k = N := by omega
   rw [Ag (by omega)] at hm
   rw [← hm] at htp htb ⊢
   repeat' (first | refine kz ?_ | refine kf ?_ | exact k0 | refine kg ?_ ?_ | fail)
   refine AO (X := Nat × Int) [8, 10, 52, 53, 54, 55, 56, 57, 58, 59, 60, 61, 62, 63, 64, 65, 66] (fun x => x.1 ≤ k ∧ 0 ≤ x.2 ∧ x.2 ≤ 1073741824 ∧ B4 S ((m - 1) / 2) = B4 (S.drop x.1) x.2) (fun x lz => (52, (.c (.d (.lit (.int .i64 x.1))))) :: (8, .c (.d (.lit (.int .i64 x.2)))) :: lz) (fun x => [.box 1 (Val.null.d.map .d), .arr 3 186 4 (S.map Cu)]) (fun x => k - x.1) ((0, (m - 1) / 2)) ?_ ?_ ?_ ?_
   repeat' (first | exact k0 | refine kw ?_ | refine kv ?_ ?_ | omega)
   all_goals try (dsimp only; rw [Int.tdiv_eq_ediv_of_nonneg (by omega), BE (by omega) (by omega)]; done)
   all_goals try (exact ⟨by omega, by dsimp only; omega, by dsimp only; omega, rfl⟩)
   rintro ⟨q, z⟩ c2 ⟨hq, hz0, hz1, hnt⟩
   dsimp only at hq hz0 hz1 hnt ⊢
   by_cases hql : q < k
   · have hv : S[q]? = some S[q] := List.getElem?_eq_getElem (by omega)
     have hpx := hP _ (List.mem_of_getElem? hv)
     generalize S[q] = x at hv hpx
     have hv2 : (S.map Cu)[q]? = some (Cu x) := by rw [List.getElem?_map, hv]; rfl
     have hvl : (S.map Cu).length = k := by rw [List.length_map]; exact hal
     rw [AD hv, B4] at hnt
     generalize S.map Cu = M at hv2 hvl ⊢
     by_cases hzx : z < x.2
     ·rw [if_pos hzx] at hnt
      rw [hnt]
      repeat' (first | refine kz ?_ | refine kx hv2 ?_ | refine ki ?_ | refine kf ?_ | exact k0 | refine kg ?_ ?_ | fail)
      all_goals rfl
     ·rw [if_neg hzx] at hnt
      repeat' (first | refine kz ?_ | refine kx hv2 ?_ | refine ki ?_ | refine kf ?_ | exact k0 | refine kg ?_ ?_ | fail)
      (apply Ae ((q + 1, z - x.2)); all_goals (try dsimp only); all_goals (try (repeat' (first | exact k0 | refine kw ?_ | refine kv ?_ ?_ | omega))))
      all_goals exact ⟨by omega, by omega, by omega, hnt⟩
   · rw [List.drop_eq_nil_of_le (by omega), B4] at hnt
     rw [hnt]
     repeat' (first | refine kz ?_ | refine kf ?_ | exact k0 | refine kg ?_ ?_ | fail)
     all_goals rfl
theorem UJ (f : Int) (L : List (Val × Int)) (hf : f = 2 ∨ f = 3 ∨ f = 4) : foldE f L = rkE f L := by
 unfold foldE rkE
 rcases hf with rfl | rfl | rfl
 ·rw [if_neg (by decide), if_neg (by decide), if_pos rfl]; simp
 ·rw [if_neg (by decide), if_neg (by decide), if_neg (by decide), if_pos rfl]; simp
 ·rw [if_neg (by decide), if_neg (by decide), if_neg (by decide), if_neg (by decide), if_pos rfl]; simp
theorem W7 (f : Int) (L : List (Val × Int)) (hb : Ls L) (hp : Dx L) : PCall Tryz.prog 145 [.one (.lit (.int .i64 f)), .one (Eg L)] (.v (.agg (foldE f L).d)) := by
 have hl := hb.1
 by_cases h0 : f = 0
 ·subst h0
  have hn := Iy (C4 L)
  have he : foldE 0 L = Val.ofInt (C4 L) := by unfold foldE; rw [if_pos rfl]
  rw [he]
  refine Ac hT Tryz.func145 Tryz.ntmps145 [.cell 4 73] fun B => ?_
  repeat' (first | refine kz ?_ | refine ki ?_ | refine kf ?_ | exact k0 | refine kg ?_ ?_ | fail)
  refine AO (X := Nat × Int) [5, 7, 15, 16, 17, 18, 19, 20, 21, 22, 23] (fun x => x.1 ≤ L.length ∧ x.2 = C4 (L.take x.1)) (fun x lz => (15, (.c (.d (.lit (.int .i64 x.1))))) :: (5, .c (.d (.lit (.int .i64 x.2)))) :: lz) (fun x => [.box 1 (Val.null.d.map .d)]) (fun x => L.length - x.1) ((0, 0)) ?_ ?_ ?_ ?_
  repeat' (first | exact k0 | refine kw ?_ | omega)
  ·exact ⟨by simp, rfl⟩
  rintro ⟨k, m⟩ c ⟨hk, hm⟩
  dsimp only at hk hm ⊢
  by_cases hkl : k < L.length
  ·have hv : L[k]? = some L[k] := List.getElem?_eq_getElem (by omega)
   generalize L[k] = x at hv
   have hv2 : (L.map Cu)[k]? = some (Cu x) := by rw [List.getElem?_map, hv]; rfl
   have e1 := Jl hv
   have b1 := HT hb (k + 1)
   rw [← hm] at e1
   repeat' (first | refine kz ?_ | refine kx hv2 ?_ | refine ki ?_ | refine kf ?_ | exact k0 | refine kg ?_ ?_ | fail)
   (apply Ae ((k + 1, m + x.2)); all_goals (try dsimp only); all_goals (try (repeat' (first | exact k0 | refine kw ?_ | omega))))
   all_goals exact ⟨by omega, e1.symm⟩
  ·rw [Ag (show L.length ≤ k by omega)] at hm
   rw [← hm] at hn ⊢
   repeat' (first | refine kz ?_ | refine ki ?_ | refine Aa (hn) ?_ | refine kf ?_ | exact k0 | refine kg ?_ ?_ | fail)
   all_goals rfl
 by_cases h1 : f = 1
 ·subst h1
  have hs := Sb L hb
  have hn := Iy (FL L)
  by_cases hc : FA L = 0
  ·have he : foldE 1 L = Val.null := by unfold foldE; rw [if_neg (by decide), if_pos rfl, if_pos hc]
   rw [he]
   rw [hc] at hs
   refine Ac hT Tryz.func145 Tryz.ntmps145 [.cell 4 73] fun B => ?_
   repeat' (first | refine kz ?_ | refine ki ?_ | refine Aa (hs) ?_ | refine kf ?_ | exact k0 | refine kg ?_ ?_ | fail)
   all_goals rfl
  ·have he : foldE 1 L = Val.ofInt (FL L) := by unfold foldE; rw [if_neg (by decide), if_pos rfl, if_neg hc]
   rw [he]
   generalize FA L = n at hs hc
   refine Ac hT Tryz.func145 Tryz.ntmps145 [.cell 4 73] fun B => ?_
   repeat' (first | refine kz ?_ | refine ki ?_ | refine Aa (hs) ?_ | refine Aa (hn) ?_ | refine kf ?_ | exact k0 | refine kg ?_ ?_ | fail)
   all_goals rfl
 by_cases h2 : f = 2 ∨ f = 3 ∨ f = 4
 ·have hr := Sh L hb hp f h2
  rw [UJ f L h2]
  rcases h2 with rfl | rfl | rfl
  all_goals
   refine Ac hT Tryz.func145 Tryz.ntmps145 [.cell 4 73] fun B => ?_
   repeat' (first | refine kz ?_ | refine ki ?_ | refine Aa (hr) ?_ | refine kf ?_ | exact k0 | refine kg ?_ ?_ | fail)
   all_goals rfl
 ·have he : foldE f L = Val.null := by unfold foldE; rw [if_neg h0, if_neg h1, if_neg (by omega), if_neg (by omega), if_neg (by omega)]
  rw [he]
  refine Ac hT Tryz.func145 Tryz.ntmps145 [.cell 4 73] fun B => ?_
  repeat' (first | refine kz ?_ | refine ki ?_ | refine kf ?_ | exact k0 | refine kg ?_ ?_ | fail)
  all_goals first
   | rfl
   | (exfalso; simp at hb; omega)
structure Agg where
 name : ByteArray
 func : Int
 expr : List Trm
def Agg.d (x : Agg) : List Dat := [.lit (.string x.name), .lit (.int .i64 x.func), AK x.expr]
def QD (l : List Agg) : Dat := .sl (l.map Agg.d)
def UK (x : Agg) (e : Entry) : Val × Int := (if x.func = 0 then Val.null else Ek x.expr e.row, e.count)
def Cj (x : Agg) (es : List Entry) : List (Val × Int) := es.map (UK x)
theorem OO {ag : Agg} {es : List Entry} {i : Nat} {y : Entry} (h : es[i]? = some y) : (Cj ag (es.take i)).map Cu ++ [Cu (UK ag y)] = (Cj ag (es.take (i + 1))).map Cu := by
 rw [A9 h]; simp [Cj]
theorem HU (ag : Agg) (es : List Entry) : (Cj ag es).length = es.length := by simp [Cj]
theorem Si (g : List Val × List Entry) (ag : Agg) (hl : g.2.length ≤ 4096) : PCall Tryz.prog 118 [.agg (RW g), .agg ag.d] (.v (.one (Eg (Cj ag g.2)))) := by
 obtain ⟨key, es⟩ := g
 dsimp only at hl ⊢
 refine Ac hT Tryz.func118 Tryz.ntmps118 [.tmp 4] fun B => ?_
 repeat' (first | refine kz ?_ | refine ki ?_ | refine kf ?_ | fail)
 refine BA 5 186 4 ?_
 refine AO (X := Nat × Nat) [5, 7, 8, 12, 13, 14, 15, 16, 17, 18, 19, 20, 21, 22, 23, 24, 25, 26, 27, 28, 29, 30, 31] (fun x => x.1 ≤ es.length) (fun x lz => (12, (.c (.d (.lit (.int .i64 x.1))))) :: (5, .c (.arr 2 x.2 x.1)) :: lz) (fun x => [.box 1 [.d (EG key), .d (Ap es)], .box 2 (ag.d.map .d), .arr x.2 186 4 ((Cj ag (es.take x.1)).map Cu)]) (fun x => es.length - x.1) ((0, 3)) ?_ ?_ ?_ ?_
 repeat' (first | exact k0 | refine kw ?_ | refine kv ?_ ?_ | omega)
 rintro ⟨i, k⟩ c hi
 dsimp only at hi ⊢
 by_cases hlt : i < es.length
 ·have hv : es[i]? = some es[i] := List.getElem?_eq_getElem hlt
  generalize es[i] = y at hv
  have hs := OO (ag := ag) hv
  have hal : ((Cj ag (es.take i)).map Cu).length = i := by simp [Cj]; omega
  have hv2 : (es.map Entry.d)[i]? = some y.d := by rw [List.getElem?_map, hv]; rfl
  generalize (Cj ag (es.take i)).map Cu = A at hs hal ⊢
  by_cases hf : ag.func = 0
  ·have hy : Cu (UK ag y) = Val.null.d ++ [.lit (.int .i64 y.count)] := by unfold UK Cu; rw [if_pos hf]; rfl
   rw [hy] at hs
   repeat' (first | refine kz ?_ | refine kx hv2 ?_ | refine ki ?_ | refine kf ?_ | fail)
   (apply Ae ((i + 1, c + 3)); all_goals (try dsimp only); all_goals (try (repeat' (first | exact k0 | refine kw ?_ | refine kv ?_ ?_ | omega))))
   all_goals first
     | omega
     | (rw [Ag (by omega)]; exact hs)
  ·have hev := Hx ag.expr y.row
   have hy : Cu (UK ag y) = (Ek ag.expr y.row).d ++ [.lit (.int .i64 y.count)] := by unfold UK Cu; rw [if_neg hf]; rfl
   rw [hy] at hs
   repeat' (first | refine kz ?_ | refine kx hv2 ?_ | refine ki ?_ | refine Aa (hev) ?_ | refine kf ?_ | fail)
   (apply Ae ((i + 1, c + 3)); all_goals (try dsimp only); all_goals (try (repeat' (first | exact k0 | refine kw ?_ | refine kv ?_ ?_ | omega))))
   all_goals first
     | omega
     | (rw [Ag (by omega)]; exact hs)
 ·obtain rfl : i = es.length := by omega
  rw [Ag (Nat.le_refl _)]
  refine Aw (m := es.length) (r := 2) (es := (Cj ag es).map Cu) 5 ?_ (hl := by rw [List.length_map, HU]; omega) (hes := Ag (by rw [List.length_map, HU]; omega))
  repeat' (first | refine kz ?_ | refine ki ?_ | refine kf ?_ | fail)
  all_goals rfl
end Go.Proofs.YtmpgmjlanngkfaaGreat
end
