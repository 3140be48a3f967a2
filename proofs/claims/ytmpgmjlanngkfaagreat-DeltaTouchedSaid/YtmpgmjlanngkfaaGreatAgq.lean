/-
  Aggregates: merge of states.
-/
import Derived.Test.YtmpgmjlanngkfaaGreatXca
import Derived.Test.YtmpgmjlanngkfaaGreatRgn
section
namespace Go.Proofs.YtmpgmjlanngkfaaGreat
open Go.Abs Go.RowKit
attribute [local irreducible] ARun Aq MCall PCall HCall Am SF CF CFs Af Al Ap B5 AW VLe
set_option linter.unusedSimpArgs false
set_option maxRecDepth 100000
set_option maxHeartbeats 4000000
variable {xs ys : List Int}
theorem I8 (s : Sta) (hz : s.zero = true) (out : List Sta) : HC 124 [.agg (s.d.map .d), .c (.bp 0 0 0)] [.box 0 [.arr 1 0 out.length], .arr 0 100 4 (out.map Sta.d)] (.tup []) [.box 0 [.arr 1 0 out.length], .arr 0 100 4 (out.map Sta.d)] := by
 have h := Hr s
 rw [hz] at h
 refine AF hT Tryz.func124 Tryz.ntmps124 [] fun B => ?_
 repeat' first | (with_reducible (first | refine CJ ?_ | refine B1 ?_ | refine CK ?_)) | refine CM ?_ | refine DY ?_ | refine CL ?_ | refine Bq ?_ | refine Aa (h) ?_ | refine Qm ?_ | refine N2 ?_ | refine Jd Ac ?_ | exact A4 | refine Ab ?_
theorem I9 (s : Sta) (hz : s.zero = false) (out : List Sta) (ho : out.length ≤ 1000000) : HC 124 [.agg (s.d.map .d), .c (.bp 0 0 0)] [.box 0 [.arr 1 0 out.length], .arr 0 100 4 (out.map Sta.d)] (.tup []) [.box 0 [.arr 1 1 (out.length + 1)], .arr 1 100 4 ((out ++ [s]).map Sta.d)] := by
 have h := Hr s
 rw [hz] at h
 refine AF hT Tryz.func124 Tryz.ntmps124 [] fun B => ?_
 repeat' first | (with_reducible (first | refine CJ ?_ | refine CK ?_)) | refine CM ?_ | refine DX ?_ | refine CL ?_ | refine Bp ?_ | refine Bq ?_ | refine Aa (h) ?_ | refine Cz ?_ | refine Bg ?_ | refine J1 ?_ | refine Qm ?_ | refine N2 ?_ | refine Jd Ac ?_ | exact A4 | refine Ab ?_ | refine m1 ?_ ?_
 rw [As']; rfl
theorem Sg (l : List Sta) (hl : l.length ≤ 100000) : HC 126 [.c (.d (I1 l))] [] (.c (.arr 0 1 l.length)) [.arr 1 100 4 (l.map Sta.d)] := by
 by_cases hne : l = []
 ·subst hne
  refine AF hT Tryz.func126 Tryz.ntmps126 [.tmp 2] fun B => ?_
  repeat' first | ((with_reducible (refine Hv ?_)); refine CN 2 100 4 ?_) | (with_reducible (first | refine CJ ?_ | refine B1 ?_ | refine C9 ?_ | refine CK ?_ | refine KQ ?_)) | refine CM ?_ | refine AE rfl (fun hb => ?_) (fun hb => ?_) | refine CL ?_ | refine Cd ?_ | refine Bf ?_ | refine CH (fun b hnil => ?_) | refine Ha ?_ | refine Ea ?_ | refine CH (fun b hnil => ?_) | refine Bd Ac ?_ ?_ | exact A4 | refine Ab ?_ | exact EI
  all_goals first
   | (simp; done)
   | rfl
 ·have hpos : 0 < l.length := VM.2 hne
  refine AF hT Tryz.func126 Tryz.ntmps126 [.tmp 2] fun B => ?_
  repeat' first | (with_reducible (first | refine CJ ?_ | refine B1 ?_ | refine C9 ?_ | refine CK ?_ | refine KQ ?_)) | refine CM ?_ | refine AE rfl (fun hb => ?_) (fun hb => ?_) | refine CL ?_ | refine Cd ?_ | refine Bf ?_ | refine CH (fun b hnil => ?_) | refine Ha ?_ | refine Ea ?_ | refine CH (fun b hnil => ?_) | refine Bd Ac ?_ ?_ | exact A4 | refine Ab ?_ | exact EI
  all_goals first
   | (exfalso; exact hne (by simpa using hnil hb))
   | (simp; done)
   | rfl
theorem K2 (l : List Int) (hl : l.length ≤ 100000) : PC 181 [.one (FD l)] (.v (.one (FD l))) := by
 by_cases hne : l = []
 ·subst hne
  refine Ad hT Tryz.func181 Tryz.ntmps181 [.tmp 2] fun B => ?_
  repeat' first | (with_reducible (first | refine CJ ?_ | refine B1 ?_ | refine C9 ?_ | refine CK ?_ | refine KQ ?_)) | refine CM ?_ | refine AE rfl (fun hb => ?_) (fun hb => ?_) | refine CL ?_ | refine Cd ?_ | refine Bf ?_ | refine CH (fun b hnil => ?_) | refine Ha ?_ | refine Ea ?_ | refine CH (fun b hnil => ?_) | refine Ay Ac ?_ | refine Cf ?_ | refine Cg rfl rfl ?_ ?_
  all_goals first
   | rfl
   | (simp; done)
 ·have hpos : 0 < l.length := VM.2 hne
  refine Ad hT Tryz.func181 Tryz.ntmps181 [.tmp 2] fun B => ?_
  repeat' first | (with_reducible (first | refine CJ ?_ | refine B1 ?_ | refine C9 ?_ | refine CK ?_ | refine KQ ?_)) | refine CM ?_ | refine AE rfl (fun hb => ?_) (fun hb => ?_) | refine CL ?_ | refine Cd ?_ | refine Bf ?_ | refine CH (fun b hnil => ?_) | refine Ha ?_ | refine Ea ?_ | refine CH (fun b hnil => ?_) | refine Ay Ac ?_ | refine Cf ?_ | refine Cg rfl rfl ?_ ?_
  all_goals first
   | (exfalso; exact hne (by simpa using hnil hb))
   | (simp; done)
   | rfl
   | (rw [Ag (by simp)]; rfl)
theorem JH (s : Sta) (hk : s.key.length ≤ 1000000) (h1 : s.sums.length ≤ 100000) (h2 : s.some.length ≤ 100000) : PC 125 [.agg s.d] (.v (.agg s.d)) := by
 have hc := HM s.key hk
 have c1 := K2 s.sums h1
 have c2 := K2 s.some h2
 refine Ad hT Tryz.func125 Tryz.ntmps125 [.cell 2 100] fun B => ?_
 repeat' first | (with_reducible (first | refine CJ ?_ | refine C9 ?_ | refine CK ?_)) | refine CM ?_ | refine CL ?_ | refine CO ?_ | refine Bp ?_ | refine Bv ?_ | refine Aa (hc) ?_ | refine Aa (c1) ?_ | refine Aa (c2) ?_ | refine Bg ?_ | refine B0 ?_ | refine N2 ?_ | refine L9 ?_ | refine Ay Ac ?_ | refine CZ ?_ | exact L5 | refine Cj ?_ ?_ | refine Ic ?_
 all_goals rfl
def DT (xs ys : List Int) (i : Nat) : List Int := (List.zipWith (fun x y => Ry (x + y)) xs ys).take i ++ xs.drop i
theorem K3 (xs ys : List Int) : DT xs ys 0 = xs := by simp [DT]
theorem M8 (h : xs.length = ys.length) (i : Nat) : (DT xs ys i).length = xs.length := by simp [DT]; omega
theorem M9 (h : xs.length = ys.length) {i : Nat} (hi : i < xs.length) : (DT xs ys i)[i]? = xs[i]? := by
 have hl : ((List.zipWith (fun x y => Ry (x + y)) xs ys).take i).length = i := by simp; omega
 unfold DT
 rw [LH (by omega), hl, MF, T3]; rfl
theorem Na (h : xs.length = ys.length) {i : Nat} {x y : Int} (hx : xs[i]? = some x) (hy : ys[i]? = some y) : (DT xs ys i).set i (Ry (x + y)) = DT xs ys (i + 1) := by
 have hi := lt_of_getElem? hx
 have hl : ((List.zipWith (fun x y => Ry (x + y)) xs ys).take i).length = i := by simp; omega
 have hz : (List.zipWith (fun x y => Ry (x + y)) xs ys)[i]? = some (Ry (x + y)) := by simp [List.getElem?_zipWith, hx, hy]
 unfold DT
 rw [Ba hz, Az hx, VL _ _ (by omega), hl, MF, List.set_cons_zero, G1]; rfl
theorem K4 (h : xs.length = ys.length) : DT xs ys xs.length = List.zipWith (fun x y => Ry (x + y)) xs ys := by
 unfold DT
 rw [List.drop_length, List.append_nil, Ua (by rw [List.length_zipWith]; omega)]
def Yy (n : Nat) (s : Sta) : Prop := s.key.length ≤ 100000 ∧ s.sums.length = n ∧ s.some.length = n
theorem Sh (a b : List Sta) (n : Nat) (hal : a.length ≤ 4096) (hbl : b.length ≤ 4096) (hma : ∀ s ∈ a, Yy n s) (hmb : ∀ s ∈ b, Yy n s) (hn : n ≤ 10000) : PC 69 [.one (I1 a), .one (I1 b)] (.v (.one (I1 ((mergeS a b).filter DR)))) := by
 refine Ad hT Tryz.func69 Tryz.ntmps69 [.tmp 4] fun B => ?_
 repeat' first | (with_reducible (first | refine CJ ?_ | refine B9 ?_ | refine B1 ?_ | refine C0 ?_ | refine C9 ?_ | refine CK ?_ | refine Ca ?_ | refine Ef ?_ | refine C1 ?_ | refine C5 ?_)) | refine CM ?_ | refine DX ?_ | refine DY ?_ | refine CL ?_ | refine CO ?_ | refine Cc ?_ | refine Cd ?_ | refine Bf ?_ | refine Eo ?_ | refine BH ?_ | refine Bp ?_ | refine BI ?_ | refine Bq ?_ | refine Bw ?_ (hel := (by first | exact rfl)) | refine BK ?_ | refine BJ ?_ | refine Bv ?_ | refine C8 ?_ | refine C6 ?_ | refine C7 ?_ | refine Cz ?_ | refine Bg ?_ | refine B0 ?_ | refine BL ?_ | refine Ce ?_ | refine DU ?_ | refine De ?_ | refine Ay Ac ?_ | refine Cg rfl rfl ?_ ?_
 refine N3 0 0 100 4 ?_
 refine AY (X := List Sta × List Sta × Nat × List Sta) ([0, 1, 7, 8, 9] ++ List.range' 13 93) (fun x => (∀ e ∈ x.1, e ∈ a) ∧ (∀ e ∈ x.2.1, e ∈ b) ∧ x.1.length ≤ a.length ∧ x.2.1.length ≤ b.length ∧ x.2.2.2.length + x.1.length + x.2.1.length ≤ a.length + b.length ∧ x.2.2.2 ++ (mergeS x.1 x.2.1).filter DR = (mergeS a b).filter DR) (fun x lz => (0, .c (.d (I1 x.1))) :: (1, .c (.d (I1 x.2.1))) :: lz) (fun x => [.box 1 [.arr 1 x.2.2.1 x.2.2.2.length], .arr x.2.2.1 100 4 (x.2.2.2.map Sta.d)]) (fun x => x.1.length + x.2.1.length) ((a, b, 2, [])) ?_ ?_ ?_ ?_
 repeat' first | exact Bl | refine w1 ?_ | refine w3 ?_ ?_ | exact A4 | refine Ab ?_ | refine m1 ?_ ?_ | refine m2 ?_ ?_ | omega
 ·exact ⟨fun e h => h, fun e h => h, Nat.le_refl _, Nat.le_refl _, by simp, rfl⟩
 rintro ⟨a', b', k, out⟩ c ⟨h1, h2, h3, h4, h5, hinv⟩
 dsimp only at h1 h2 h3 h4 h5 hinv ⊢
 by_cases hend : a'.length = 0 ∨ b'.length = 0
 ·have hM : out ++ (a' ++ b').filter DR = (mergeS a b).filter DR := by
   rw [← hinv]
   rcases hend with h | h
   · obtain rfl := Yi.1 h
     rw [EJ]; rfl
   · obtain rfl := Yi.1 h
     rw [Fx, List.append_nil]
  clear hinv
  generalize (mergeS a b).filter DR = M at hM
  have hcl := Sg a' (by omega)
  have hLl : (a' ++ b').length = a'.length + b'.length := by simp
  have hLm : ∀ s ∈ a' ++ b', Yy n s := fun s hs => by
   rcases Gn.1 hs with h | h
   · exact hma s (h1 s h)
   · exact hmb s (h2 s h)
  have hbl2 : (b'.map Sta.d).length = b'.length := by simp
  have hLd : (a' ++ b').map Sta.d = a'.map Sta.d ++ b'.map Sta.d := by simp
  have hend : a'.length = 0 ∨ (0 < a'.length ∧ b'.length = 0) := by omega
  rcases hend with hend | hend
  all_goals
   repeat' first | (with_reducible (first | refine CJ ?_ | refine B9 ?_ | refine B1 ?_ | refine C0 ?_ | refine C9 ?_ | refine CK ?_ | refine Ca ?_ | refine Ef ?_ | refine C1 ?_ | refine C5 ?_)) | refine CM ?_ | refine DX ?_ | refine DY ?_ | refine CL ?_ | refine CO ?_ | refine Cc ?_ | refine Cd ?_ | refine Bf ?_ | refine Eo ?_ | refine BH ?_ | refine Bp ?_ | refine BI ?_ | refine Bq ?_ | refine Bw ?_ (hel := (by first | exact rfl)) | refine BK ?_ | refine BJ ?_ | refine Bv ?_ | refine Ak [] (hcl) ?_ | refine C8 ?_ | refine C6 ?_ | refine C7 ?_ | refine Cz ?_ | refine Bg ?_ | refine B0 ?_ | refine BL ?_ | refine Ce ?_ | refine DU ?_ | refine De ?_ | refine Ay Ac ?_ | refine Cg rfl rfl ?_ ?_
   refine A8 (r := 2) 109 ?_ (hl := by simp) (hes := (show _ = (a' ++ b').map Sta.d from by rw [hLd]; exact Ag (by simp)))
   generalize a' ++ b' = L at hM hLl hLm
   refine AY (X := Nat × Nat) ([11] ++ List.range' 111 9) (fun x => x.1 ≤ L.length) (fun x lz => (111, (iC x.1)) :: lz) (fun x => [.box 1 [.arr 1 x.2 (out ++ (L.take x.1).filter DR).length], .arr x.2 100 4 ((out ++ (L.take x.1).filter DR).map Sta.d)]) (fun x => L.length - x.1) ((0, k)) ?_ ?_ ?_ ?_
   repeat' first | exact Bl | refine w1 ?_ | refine w3 ?_ ?_ | exact A4 | refine Ab ?_ | refine m1 ?_ ?_ | refine m2 ?_ ?_ | omega
   all_goals try (simp; done)
   rintro ⟨i, k1⟩ c1 hi
   dsimp only at hi ⊢
   by_cases hlt : i < L.length
   · have hv : L[i]? = some L[i] := Bi hlt
     obtain ⟨hs1, hs2, hs3⟩ := hLm _ (Gl hlt)
     generalize L[i] = s at hv hs1 hs2 hs3
     have hv2 : (L.map Sta.d)[i]? = some s.d := by rw [Ci, hv]; rfl
     have hcs := JH s (by omega) (by omega) (by omega)
     have htk : out ++ (L.take (i + 1)).filter DR = out ++ (L.take i).filter DR ++ (if DR s = true then [s] else []) := by
       rw [Ba hv, Ue, ← G1]
       congr 1
       rw [Ug]; rfl
     have hol : (out ++ (L.take i).filter DR).length ≤ 100000 := by
       have := PN DR (L.take i)
       rw [Dg, Hn] at *
       omega
     generalize out ++ (L.take i).filter DR = O at htk hol ⊢
     cases hz : s.zero with
     | true =>
       rw [show DR s = false by unfold DR; rw [hz]; rfl, if_neg (by decide), List.append_nil] at htk
       have hadd := I8 s hz O
       repeat' first | (with_reducible (first | refine CJ ?_ | refine B9 ?_ | refine B1 ?_ | refine C0 ?_ | refine C9 ?_ | refine CK ?_ | refine Ca ?_ | refine Ef ?_ | refine C1 ?_ | refine C5 ?_)) | refine CM ?_ | refine DX ?_ | refine DY ?_ | refine CL ?_ | refine CO ?_ | refine Cc ?_ | refine Cd ?_ | refine Bf ?_ | refine Eo ?_ | refine BH ?_ | refine Bp ?_ | refine BI ?_ | refine Bq ?_ | refine CX ?_ (he' := (by first | exact hv2 | exact rfl)) | refine Bw ?_ (hel := (by first | exact BQ hv2 (by omega) | exact hv2 | exact rfl)) | refine BK ?_ | refine BJ ?_ | refine Bv ?_ | refine Aa (hcs) ?_ | refine Ak [0, 1] (hadd) ?_ | refine C8 ?_ | refine C6 ?_ | refine C7 ?_ | refine Cz ?_ | refine Bg ?_ | refine Cy ?_ (hj := (by first | exact hv2 | exact rfl)) | refine B0 ?_ | refine BL ?_ | refine Ce ?_ | refine DU ?_ | refine De ?_ | refine Ay Ac ?_ | refine Cg rfl rfl ?_ ?_
       apply Ae ((i + 1, k1)) <;> (try dsimp only) <;> try repeat' first | exact Bl | refine w1 ?_ | refine w3 ?_ ?_ | exact A4 | refine Ab ?_ | refine m1 ?_ ?_ | refine m2 ?_ ?_ | omega
       all_goals rw [htk]
     | false =>
       rw [show DR s = true by unfold DR; rw [hz]; rfl, if_pos rfl] at htk
       have hadd := I9 s hz O (by omega)
       repeat' first | (with_reducible (first | refine CJ ?_ | refine B9 ?_ | refine B1 ?_ | refine C0 ?_ | refine C9 ?_ | refine CK ?_ | refine Ca ?_ | refine Ef ?_ | refine C1 ?_ | refine C5 ?_)) | refine CM ?_ | refine DX ?_ | refine DY ?_ | refine CL ?_ | refine CO ?_ | refine Cc ?_ | refine Cd ?_ | refine Bf ?_ | refine Eo ?_ | refine BH ?_ | refine Bp ?_ | refine BI ?_ | refine Bq ?_ | refine CX ?_ (he' := (by first | exact hv2 | exact rfl)) | refine Bw ?_ (hel := (by first | exact BQ hv2 (by omega) | exact hv2 | exact rfl)) | refine BK ?_ | refine BJ ?_ | refine Bv ?_ | refine Aa (hcs) ?_ | refine Ak [0, 1] (hadd) ?_ | refine C8 ?_ | refine C6 ?_ | refine C7 ?_ | refine Cz ?_ | refine Bg ?_ | refine Cy ?_ (hj := (by first | exact hv2 | exact rfl)) | refine B0 ?_ | refine BL ?_ | refine Ce ?_ | refine DU ?_ | refine De ?_ | refine Ay Ac ?_ | refine Cg rfl rfl ?_ ?_
       apply Ae ((i + 1, c1 + 2)) <;> (try dsimp only) <;> try repeat' first | exact Bl | refine w1 ?_ | refine w3 ?_ ?_ | exact A4 | refine Ab ?_ | refine m1 ?_ ?_ | refine m2 ?_ ?_ | omega
       all_goals rw [htk]
       all_goals (rw [Dg]; rfl)
   · rw [Ag (show L.length ≤ i by omega), hM]
     repeat' first | (with_reducible (first | refine CJ ?_ | refine B9 ?_ | refine B1 ?_ | refine C0 ?_ | refine C9 ?_ | refine CK ?_ | refine Ca ?_ | refine Ef ?_ | refine C1 ?_ | refine C5 ?_)) | refine CM ?_ | refine DX ?_ | refine DY ?_ | refine CL ?_ | refine CO ?_ | refine Cc ?_ | refine Cd ?_ | refine Bf ?_ | refine Eo ?_ | refine BH ?_ | refine Bp ?_ | refine BI ?_ | refine Bq ?_ | refine Bw ?_ (hel := (by first | exact rfl)) | refine BK ?_ | refine BJ ?_ | refine Bv ?_ | refine C8 ?_ | refine C6 ?_ | refine C7 ?_ | refine Cz ?_ | refine Bg ?_ | refine B0 ?_ | refine BL ?_ | refine Ce ?_ | refine DU ?_ | refine De ?_ | refine Ay Ac ?_ | refine Cg rfl rfl ?_ ?_
     all_goals first
       | (simp; done)
       | (rw [Ag (by simp)]; rfl)
       | rfl
 ·obtain ⟨p, a2, rfl⟩ : ∃ p a2, a' = p :: a2 := by
   cases a' with
   | nil => exact absurd (.inl rfl) hend
   | cons p a2 => exact ⟨p, a2, rfl⟩
  obtain ⟨q, b2, rfl⟩ : ∃ q b2, b' = q :: b2 := by
   cases b' with
   | nil => exact absurd (.inr rfl) hend
   | cons q b2 => exact ⟨q, b2, rfl⟩
  obtain ⟨hx1, hx2, hx3⟩ := hma p (h1 p (by simp))
  obtain ⟨hy1, hy2, hy3⟩ := hmb q (h2 q (by simp))
  have hvx : ((p :: a2).map Sta.d)[0]? = some p.d := rfl
  have hvy : ((q :: b2).map Sta.d)[0]? = some q.d := rfl
  have hla : (p :: a2).length = a2.length + 1 := rfl
  have hlb : (q :: b2).length = b2.length + 1 := rfl
  rw [mergeS] at hinv
  rcases ZM (Ai p.key q.key) 0 with hc | hc | hc
  ·rw [if_pos hc] at hinv
   have hcl := JH p (by omega) (by omega) (by omega)
   cases hz : p.zero with
   | true =>
     have hadd := I8 p hz out
     rw [Yh (by unfold DR; rw [hz]; decide)] at hinv
     repeat' first | (with_reducible (first | refine CJ ?_ | refine B9 ?_ | refine B1 ?_ | refine C0 ?_ | refine C9 ?_ | refine CK ?_ | refine Ca ?_ | refine Ef ?_ | refine C1 ?_ | refine C5 ?_)) | refine CM ?_ | refine DX ?_ | refine DY ?_ | refine CL ?_ | refine CO ?_ | refine Cc ?_ | refine Cd ?_ | refine Bf ?_ | refine Eo ?_ | refine BH ?_ | refine Bp ?_ | refine BI ?_ | refine Bq ?_ | refine CX ?_ (he' := (by first | exact hvx | exact hvy | exact rfl)) | refine Bw ?_ (hel := (by first | exact BQ hvx (by omega) | exact BQ hvy (by omega) | exact hvx | exact hvy | exact rfl)) | refine BK ?_ | refine BJ ?_ | refine Bv ?_ | refine Aa (AN _ _) ?_ | refine Aa (hcl) ?_ | refine Ak [0, 1] (hadd) ?_ | refine C8 ?_ | refine C6 ?_ | refine C7 ?_ | refine Cz ?_ | refine Bg ?_ | refine Cy ?_ (hj := (by first | exact hvx | exact hvy | exact rfl)) | refine B0 ?_ | refine BL ?_ | refine Ce ?_ | refine DU ?_ | refine De ?_ | refine Ay Ac ?_ | refine Cg rfl rfl ?_ ?_
     apply Ae ((a2, q :: b2, _, out)) <;> (try dsimp only) <;> try repeat' first | exact Bl | refine w1 ?_ | refine w3 ?_ ?_ | exact A4 | refine Ab ?_ | refine m1 ?_ ?_ | refine m2 ?_ ?_ | omega
     · rw [Ag (by simp)]; rfl
     · exact ⟨fun e h => h1 e (by simp [h]), h2, by omega, by omega, by omega, hinv⟩
   | false =>
     have hadd := I9 p hz out (by omega)
     rw [Yg (by unfold DR; rw [hz]; decide)] at hinv
     repeat' first | (with_reducible (first | refine CJ ?_ | refine B9 ?_ | refine B1 ?_ | refine C0 ?_ | refine C9 ?_ | refine CK ?_ | refine Ca ?_ | refine Ef ?_ | refine C1 ?_ | refine C5 ?_)) | refine CM ?_ | refine DX ?_ | refine DY ?_ | refine CL ?_ | refine CO ?_ | refine Cc ?_ | refine Cd ?_ | refine Bf ?_ | refine Eo ?_ | refine BH ?_ | refine Bp ?_ | refine BI ?_ | refine Bq ?_ | refine CX ?_ (he' := (by first | exact hvx | exact hvy | exact rfl)) | refine Bw ?_ (hel := (by first | exact BQ hvx (by omega) | exact BQ hvy (by omega) | exact hvx | exact hvy | exact rfl)) | refine BK ?_ | refine BJ ?_ | refine Bv ?_ | refine Aa (AN _ _) ?_ | refine Aa (hcl) ?_ | refine Ak [0, 1] (hadd) ?_ | refine C8 ?_ | refine C6 ?_ | refine C7 ?_ | refine Cz ?_ | refine Bg ?_ | refine Cy ?_ (hj := (by first | exact hvx | exact hvy | exact rfl)) | refine B0 ?_ | refine BL ?_ | refine Ce ?_ | refine DU ?_ | refine De ?_ | refine Ay Ac ?_ | refine Cg rfl rfl ?_ ?_
     apply Ae ((a2, q :: b2, _, out ++ [p])) <;> (try dsimp only) <;> try repeat' first | exact Bl | refine w1 ?_ | refine w3 ?_ ?_ | exact A4 | refine Ab ?_ | refine m1 ?_ ?_ | refine m2 ?_ ?_ | omega
     · rw [Ag (by simp)]; rfl
     · rw [Dg]; rfl
     · refine ⟨fun e h => h1 e (by simp [h]), h2, by omega, by omega, by rw [Dg, OT]; omega, ?_⟩
       rw [← hinv, G1]; rfl
  ·rw [if_neg (by omega), if_neg (by omega)] at hinv
   have hcl := Sd p (by omega) (by omega) (by omega)
   have m1 := K3 p.sums q.sums
   have m2 := K3 p.some q.some
   repeat' first | (with_reducible (first | refine CJ ?_ | refine B9 ?_ | refine B1 ?_ | refine C0 ?_ | refine C9 ?_ | refine CK ?_ | refine Ca ?_ | refine Ef ?_ | refine C1 ?_ | refine C5 ?_)) | refine CM ?_ | refine DX ?_ | refine DY ?_ | refine CL ?_ | refine CO ?_ | refine Cc ?_ | refine Cd ?_ | refine Bf ?_ | refine Eo ?_ | refine BH ?_ | refine Bp ?_ | refine BI ?_ | refine Bq ?_ | refine CX ?_ (he' := (by first | exact hvx | exact hvy | exact rfl)) | refine Bw ?_ (hel := (by first | exact BQ hvx (by omega) | exact BQ hvy (by omega) | exact hvx | exact hvy | exact rfl)) | refine BK ?_ | refine BJ ?_ | refine Bv ?_ | refine Aa (AN _ _) ?_ | refine Ak [] (hcl) ?_ | refine C8 ?_ | refine C6 ?_ | refine C7 ?_ | refine Cz ?_ | refine Bg ?_ | refine Cy ?_ (hj := (by first | exact hvx | exact hvy | exact rfl)) | refine B0 ?_ | refine BL ?_ | refine Ce ?_ | refine DU ?_ | refine De ?_ | refine Ay Ac ?_ | refine Cg rfl rfl ?_ ?_
   refine AY (X := Nat) ([9] ++ List.range' 45 32) (fun x => x ≤ n) (fun x lz => (45, (iC x)) :: lz) (fun x => [.box 1 [.arr 1 k out.length], .arr k 100 4 (out.map Sta.d), .dead, .dead, .arr (c + 1) 2 1 (BF (DT p.sums q.sums x)), .arr (c + 1) 2 1 (BF (DT p.some q.some x)), .box (c + 1 + 1) [.d (BS p.key), .d (.lit (.int .i64 (Ry (p.count + q.count)))), .arr 4 (c + 1) p.sums.length, .arr 5 (c + 1) p.some.length]]) (fun x => n - x) (0) ?_ ?_ ?_ ?_
   repeat' first | exact Bl | refine w1 ?_ | refine w3 ?_ ?_ | exact A4 | refine Ab ?_ | refine m1 ?_ ?_ | refine m2 ?_ ?_ | omega
   rintro i c1 hi
   have z1 : p.sums.length = q.sums.length := by omega
   have z2 : p.some.length = q.some.length := by omega
   have ml1 := M8 z1 i
   have ml2 := M8 z2 i
   by_cases hil : i < n
   · have u1 : p.sums[i]? = some (p.sums[i]'(by omega)) := Bi _
     have u2 : p.some[i]? = some (p.some[i]'(by omega)) := Bi _
     have v1 : q.sums[i]? = some (q.sums[i]'(by omega)) := Bi _
     have v2 : q.some[i]? = some (q.some[i]'(by omega)) := Bi _
     generalize p.sums[i]'(by omega) = pu1 at u1
     generalize p.some[i]'(by omega) = pu2 at u2
     generalize q.sums[i]'(by omega) = qv1 at v1
     generalize q.some[i]'(by omega) = qv2 at v2
     have g1 : (BF (DT p.sums q.sums i))[i]? = some [Dat.lit (.int .i64 pu1)] := by unfold BF; rw [Ci, M9 z1 (by omega), u1]; rfl
     have g2 : (BF (DT p.some q.some i))[i]? = some [Dat.lit (.int .i64 pu2)] := by unfold BF; rw [Ci, M9 z2 (by omega), u2]; rfl
     have d1 : (q.sums.map fun n => [Dat.lit (.int .i64 n)])[i]? = some [Dat.lit (.int .i64 qv1)] := by rw [Ci, v1]; rfl
     have d2 : (q.some.map fun n => [Dat.lit (.int .i64 n)])[i]? = some [Dat.lit (.int .i64 qv2)] := by rw [Ci, v2]; rfl
     have s1 : (BF (DT p.sums q.sums i)).set i [Dat.lit (.int .i64 (IntKind.i64.wrap (pu1 + qv1)))] = BF (DT p.sums q.sums (i + 1)) := by rw [← Na z1 u1 v1]; unfold BF; rw [VO]; rfl
     have s2 : (BF (DT p.some q.some i)).set i [Dat.lit (.int .i64 (IntKind.i64.wrap (pu2 + qv2)))] = BF (DT p.some q.some (i + 1)) := by rw [← Na z2 u2 v2]; unfold BF; rw [VO]; rfl
     have w1 : (BF (DT p.sums q.sums i)).length = n := by unfold BF; rw [BT]; omega
     have w2 : (BF (DT p.some q.some i)).length = n := by unfold BF; rw [BT]; omega
     generalize BF (DT p.sums q.sums i) = A1 at g1 s1 w1 ⊢
     generalize BF (DT p.some q.some i) = A2 at g2 s2 w2 ⊢
     repeat' first | refine Cy ?_ (hj := (by first | exact g1 | exact g2)) (hes := (by first | exact s1 | exact s2)) | (with_reducible (first | refine CJ ?_ | refine B9 ?_ | refine B1 ?_ | refine C0 ?_ | refine C9 ?_ | refine CK ?_ | refine Ca ?_ | refine Ef ?_ | refine C1 ?_ | refine C5 ?_)) | refine CM ?_ | refine DX ?_ | refine DY ?_ | refine CL ?_ | refine CO ?_ | refine Cc ?_ | refine Cd ?_ | refine Bf ?_ | refine Eo ?_ | refine BH ?_ | refine Bp ?_ | refine BI ?_ | refine Bq ?_ | refine CX ?_ (he' := (by first | exact hvy | exact g1 | exact g2 | exact d1 | exact d2 | exact rfl)) | refine Bw ?_ (hel := (by first | exact BQ hvy (by omega) | exact BQ g1 (by omega) | exact BQ g2 (by omega) | exact BQ d1 (by omega) | exact BQ d2 (by omega) | exact hvy | exact g1 | exact g2 | exact d1 | exact d2 | exact rfl)) | refine BK ?_ | refine BJ ?_ | refine Bv ?_ | refine C8 ?_ | refine C6 ?_ | refine C7 ?_ | refine Cz ?_ | refine Bg ?_ | refine Cy ?_ (hj := (by first | exact hvy | exact g1 | exact g2 | exact d1 | exact d2 | exact rfl)) | refine B0 ?_ | refine BL ?_ | refine Ce ?_ | refine DU ?_ | refine De ?_ | refine Ay Ac ?_ | refine Cg rfl rfl ?_ ?_
     apply Ae (i + 1) <;> (try dsimp only) <;> try repeat' first | exact Bl | refine w1 ?_ | refine w3 ?_ ?_ | exact A4 | refine Ab ?_ | refine m1 ?_ ?_ | refine m2 ?_ ?_ | omega
     all_goals rfl
   · obtain rfl : i = n := by omega
     have f1 : (BF (DT p.sums q.sums i)).take p.sums.length = BF (E8 p q).sums := by rw [← hx2, K4 z1]; exact Ag (by unfold BF; rw [BT, List.length_zipWith]; omega)
     have f2 : (BF (DT p.some q.some i)).take p.some.length = BF (E8 p q).some := by rw [← hx3, K4 z2]; exact Ag (by unfold BF; rw [BT, List.length_zipWith]; omega)
     refine E7 6 2 4 ?_ rfl rfl rfl (by unfold BF; rw [BT]; omega) f1 rfl
     refine E7 6 3 5 ?_ rfl rfl rfl (by unfold BF; rw [BT]; omega) f2 rfl
     cases hz : (E8 p q).zero with
     | true =>
       have hadd := I8 (E8 p q) hz out
       rw [Yh (by unfold DR; rw [hz]; decide)] at hinv
       repeat' first | (with_reducible (first | refine CJ ?_ | refine B9 ?_ | refine B1 ?_ | refine C0 ?_ | refine C9 ?_ | refine CK ?_ | refine Ca ?_ | refine Ef ?_ | refine C1 ?_ | refine C5 ?_)) | refine CM ?_ | refine DX ?_ | refine DY ?_ | refine CL ?_ | refine CO ?_ | refine Cc ?_ | refine Cd ?_ | refine Bf ?_ | refine Eo ?_ | refine BH ?_ | refine Bp ?_ | refine BI ?_ | refine Bq ?_ | refine Bw ?_ (hel := (by first | exact rfl)) | refine BK ?_ | refine BJ ?_ | refine Bv ?_ | refine Ak [0, 1] (hadd) ?_ | refine C8 ?_ | refine C6 ?_ | refine C7 ?_ | refine Cz ?_ | refine Bg ?_ | refine B0 ?_ | refine BL ?_ | refine Ce ?_ | refine DU ?_ | refine De ?_ | refine Ay Ac ?_ | refine Cg rfl rfl ?_ ?_
       apply Ae ((a2, b2, _, out)) <;> (try dsimp only) <;> try repeat' first | exact Bl | refine w1 ?_ | refine w3 ?_ ?_ | exact A4 | refine Ab ?_ | refine m1 ?_ ?_ | refine m2 ?_ ?_ | omega
       · rw [Ag (by simp)]; rfl
       · rw [Ag (by simp)]; rfl
       · exact ⟨fun e h => h1 e (by simp [h]), fun e h => h2 e (by simp [h]), by omega, by omega, by omega, hinv⟩
     | false =>
       have hadd := I9 (E8 p q) hz out (by omega)
       rw [Yg (by unfold DR; rw [hz]; decide)] at hinv
       repeat' first | (with_reducible (first | refine CJ ?_ | refine B9 ?_ | refine B1 ?_ | refine C0 ?_ | refine C9 ?_ | refine CK ?_ | refine Ca ?_ | refine Ef ?_ | refine C1 ?_ | refine C5 ?_)) | refine CM ?_ | refine DX ?_ | refine DY ?_ | refine CL ?_ | refine CO ?_ | refine Cc ?_ | refine Cd ?_ | refine Bf ?_ | refine Eo ?_ | refine BH ?_ | refine Bp ?_ | refine BI ?_ | refine Bq ?_ | refine Bw ?_ (hel := (by first | exact rfl)) | refine BK ?_ | refine BJ ?_ | refine Bv ?_ | refine Ak [0, 1] (hadd) ?_ | refine C8 ?_ | refine C6 ?_ | refine C7 ?_ | refine Cz ?_ | refine Bg ?_ | refine B0 ?_ | refine BL ?_ | refine Ce ?_ | refine DU ?_ | refine De ?_ | refine Ay Ac ?_ | refine Cg rfl rfl ?_ ?_
       apply Ae ((a2, b2, c1 + 1, out ++ [E8 p q])) <;> (try dsimp only) <;> try repeat' first | exact Bl | refine w1 ?_ | refine w3 ?_ ?_ | exact A4 | refine Ab ?_ | refine m1 ?_ ?_ | refine m2 ?_ ?_ | omega
       · rw [Ag (by simp)]; rfl
       · rw [Ag (by simp)]; rfl
       · rw [Dg, OT]; repeat' (first | exact Bl | refine w1 ?_ | refine w3 ?_ ?_ | exact A4 | refine Ab ?_ | refine m1 ?_ ?_ | refine m2 ?_ ?_ | omega)
       · refine ⟨fun e h => h1 e (by simp [h]), fun e h => h2 e (by simp [h]), by omega, by omega, by rw [Dg, OT]; omega, ?_⟩
         rw [← hinv, G1]; rfl
  ·rw [if_neg (by omega), if_pos hc] at hinv
   have hcl := JH q (by omega) (by omega) (by omega)
   cases hz : q.zero with
   | true =>
     have hadd := I8 q hz out
     rw [Yh (by unfold DR; rw [hz]; decide)] at hinv
     repeat' first | (with_reducible (first | refine CJ ?_ | refine B9 ?_ | refine B1 ?_ | refine C0 ?_ | refine C9 ?_ | refine CK ?_ | refine Ca ?_ | refine Ef ?_ | refine C1 ?_ | refine C5 ?_)) | refine CM ?_ | refine DX ?_ | refine DY ?_ | refine CL ?_ | refine CO ?_ | refine Cc ?_ | refine Cd ?_ | refine Bf ?_ | refine Eo ?_ | refine BH ?_ | refine Bp ?_ | refine BI ?_ | refine Bq ?_ | refine CX ?_ (he' := (by first | exact hvx | exact hvy | exact rfl)) | refine Bw ?_ (hel := (by first | exact BQ hvx (by omega) | exact BQ hvy (by omega) | exact hvx | exact hvy | exact rfl)) | refine BK ?_ | refine BJ ?_ | refine Bv ?_ | refine Aa (AN _ _) ?_ | refine Aa (hcl) ?_ | refine Ak [0, 1] (hadd) ?_ | refine C8 ?_ | refine C6 ?_ | refine C7 ?_ | refine Cz ?_ | refine Bg ?_ | refine Cy ?_ (hj := (by first | exact hvx | exact hvy | exact rfl)) | refine B0 ?_ | refine BL ?_ | refine Ce ?_ | refine DU ?_ | refine De ?_ | refine Ay Ac ?_ | refine Cg rfl rfl ?_ ?_
     apply Ae ((p :: a2, b2, _, out)) <;> (try dsimp only) <;> try repeat' first | exact Bl | refine w1 ?_ | refine w3 ?_ ?_ | exact A4 | refine Ab ?_ | refine m1 ?_ ?_ | refine m2 ?_ ?_ | omega
     · rw [Ag (by simp)]; rfl
     · exact ⟨h1, fun e h => h2 e (by simp [h]), by omega, by omega, by omega, hinv⟩
   | false =>
     have hadd := I9 q hz out (by omega)
     rw [Yg (by unfold DR; rw [hz]; decide)] at hinv
     repeat' first | (with_reducible (first | refine CJ ?_ | refine B9 ?_ | refine B1 ?_ | refine C0 ?_ | refine C9 ?_ | refine CK ?_ | refine Ca ?_ | refine Ef ?_ | refine C1 ?_ | refine C5 ?_)) | refine CM ?_ | refine DX ?_ | refine DY ?_ | refine CL ?_ | refine CO ?_ | refine Cc ?_ | refine Cd ?_ | refine Bf ?_ | refine Eo ?_ | refine BH ?_ | refine Bp ?_ | refine BI ?_ | refine Bq ?_ | refine CX ?_ (he' := (by first | exact hvx | exact hvy | exact rfl)) | refine Bw ?_ (hel := (by first | exact BQ hvx (by omega) | exact BQ hvy (by omega) | exact hvx | exact hvy | exact rfl)) | refine BK ?_ | refine BJ ?_ | refine Bv ?_ | refine Aa (AN _ _) ?_ | refine Aa (hcl) ?_ | refine Ak [0, 1] (hadd) ?_ | refine C8 ?_ | refine C6 ?_ | refine C7 ?_ | refine Cz ?_ | refine Bg ?_ | refine Cy ?_ (hj := (by first | exact hvx | exact hvy | exact rfl)) | refine B0 ?_ | refine BL ?_ | refine Ce ?_ | refine DU ?_ | refine De ?_ | refine Ay Ac ?_ | refine Cg rfl rfl ?_ ?_
     apply Ae ((p :: a2, b2, _, out ++ [q])) <;> (try dsimp only) <;> try repeat' first | exact Bl | refine w1 ?_ | refine w3 ?_ ?_ | exact A4 | refine Ab ?_ | refine m1 ?_ ?_ | refine m2 ?_ ?_ | omega
     · rw [Ag (by simp)]; rfl
     · rw [Dg]; rfl
     · refine ⟨h1, fun e h => h2 e (by simp [h]), by omega, by omega, by rw [Dg, OT]; omega, ?_⟩
       rw [← hinv, G1]; rfl
end Go.Proofs.YtmpgmjlanngkfaaGreat
end
