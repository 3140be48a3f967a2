/-
  Aggregates: ranked values, fold.
-/
import Derived.Test.YtmpgmjlanngkfaaGreatAgf
section
namespace Go.Proofs.YtmpgmjlanngkfaaGreat
open Go.Abs Go.RowKit
attribute [local irreducible] ARun Au MCall PCall HCall Ak SF CF CFs Af Ag Ar fin AP VLe
set_option linter.unusedSimpArgs false
set_option maxRecDepth 100000
set_option maxHeartbeats 4000000
theorem X2 (L : List (Val × Int)) (hl : L.length ≤ 4096) (hne : L ≠ []) (hpl : ¬ GO L < L.length) : HC 234 [.c (.arr 0 0 L.length), .c (.d (.lit (.func (.func 236) #[] #[])))] [.arr 0 186 4 (L.map Cp)] (.c (.arr 0 1 (Eu L).length)) [.arr 1 186 4 ((Eu L).map Cp)] := by
 have hpos : 0 < L.length := Zw.2 hne
 have hidx := OX L hl
 have hll := SA L
 have hsf : ∀ mem : List Blk, mem[0]? = some (.arr 0 186 4 (L.map Cp)) → SFs mem [.c (.arr 0 0 L.length), .c (.d (.lit (.func (.func 236) #[] #[])))] [.one (D4 L), .one (.lit (.func (.func 236) #[] #[]))] := fun mem hm => M3 hm (by simp) (Ao (by simp))
 rw [if_neg hpl] at hidx
 have hnn : Eu L = L := by
  have := SC L
  rw [show GO L = L.length by omega, PK] at this; exact this
 rw [hnn]
 refine AI hT Tryz.func234 Tryz.ntmps234 [.tmp 4] fun B => ?_
 repeat' first | refine kz ?_ | refine Eb hidx (hsf _ rfl) ?_ | refine kg ?_ ?_ | exact k0 | refine Ab ?_
theorem X3 {c s : Nat} {a : Int} {i : Nat} (ha : a = i) (h : i < c) : i * s = if c = a.toNat then 0 else 0 + a.toNat * s := by
 subst ha; rw [if_neg (by omega)]; simp
theorem PW (L : List (Val × Int)) : (Eu L).length ≤ L.length := Sl ..
theorem X4 (L : List (Val × Int)) (hl : L.length ≤ 4096) (hpl : GO L < L.length) : HC 234 [.c (.arr 0 0 L.length), .c (.d (.lit (.func (.func 236) #[] #[])))] [.arr 0 186 4 (L.map Cp)] (.c (.arr 0 1 (Eu L).length)) [.arr 1 186 4 ((Eu L).map Cp)] := by
 have hidx := OX L hl
 have hsf : ∀ mem : List Blk, mem[0]? = some (.arr 0 186 4 (L.map Cp)) → SFs mem [.c (.arr 0 0 L.length), .c (.d (.lit (.func (.func 236) #[] #[])))] [.one (D4 L), .one (.lit (.func (.func 236) #[] #[]))] := fun mem hm => M3 hm (by simp) (Ao (by simp))
 rw [if_pos hpl] at hidx
 have hv0 : L[GO L]? = some L[GO L] := Bh hpl
 have hn0 := OW hv0
 have hs0 := MM hv0
 rw [if_neg (by simp [hn0]), List.append_nil, SC] at hs0
 have hl0 : (Eu (L.take (GO L + 1))).length = GO L := by rw [hs0]; simp; omega
 have hm0 : (L.map Cp).take (GO L) = (Eu (L.take (GO L + 1))).map Cp := by rw [hs0, List.map_take]
 generalize GO L = p at hidx hpl hl0 hm0
 clear hv0 hn0 hs0
 refine AI hT Tryz.func234 Tryz.ntmps234 [.tmp 4] fun B => ?_
 repeat' first | refine kz ?_ | refine Eb hidx (hsf _ rfl) ?_ | refine kg ?_ ?_ | exact k0 | refine Ab ?_
 refine A0 (X := Nat × List (List Dat)) ([5, 6, 7] ++ List.range' 16 20) (fun x => x.1 ≤ L.length ∧ x.2.length = L.length ∧ (Eu (L.take x.1)).length < x.1 ∧ x.2.take (Eu (L.take x.1)).length = (Eu (L.take x.1)).map Cp ∧ x.2.drop x.1 = (L.drop x.1).map Cp ∧ (∀ e ∈ x.2, e.length = 4)) (fun x lz => (6, (iC x.1)) :: (5, (iC ((Eu (L.take x.1)).length))) :: lz) (fun x => [.arr 0 186 4 x.2]) (fun x => L.length - x.1) ((p + 1, L.map Cp)) ?_ ?_ ?_ ?_
 repeat' first | exact k0 | refine kw ?_ | refine kv ?_ ?_ | omega
 all_goals first
  | (rw [hl0]; done)
  | (dsimp only; exact ⟨by omega, by simp, by omega, by rw [hl0]; exact hm0, by rw [List.map_drop], fun e he => by obtain ⟨y, _, rfl⟩ := List.mem_map.1 he; rfl⟩)
  | skip
 rintro ⟨j, M⟩ c ⟨hj, hM, hij, hT, hD, h4⟩
 dsimp only at hj hM hij hT hD h4 ⊢
 by_cases hjl : j < L.length
 ·obtain ⟨x, hv⟩ := gx hjl
  have hMv : M[j]? = some (Cp x) := by
    have h1 : (M.drop j)[0]? = some (Cp x) := by rw [hD, Ay hv]; rfl
    rw [Zz] at h1; simpa using h1
  have hsn := MM hv
  have hnu := Jm x
  have hD' : M.drop (j + 1) = (L.drop (j + 1)).map Cp := by
    have : (M.drop j).drop 1 = ((L.drop j).map Cp).drop 1 := by rw [hD]
    rw [U5, Ay hv, List.map_cons, List.drop_succ_cons, List.drop_zero] at this
    exact this
  obtain ⟨n, hn⟩ : ∃ n, n = (Eu (L.take j)).length := ⟨_, rfl⟩
  rw [← hn] at hij hT ⊢
  cases hnn : QU x with
  | true =>
    rw [hnn] at hnu hsn
    rw [if_pos rfl] at hsn
    have hn' : (Eu (L.take (j + 1))).length = n + 1 := by rw [hsn, CP, ← hn]; rfl
    have hT' : (M.set n (Cp x)).take (n + 1) = (Eu (L.take (j + 1))).map Cp := by
      rw [IU, I7 (by omega), List.take_set_of_le (Nat.le_refl _), hT, hsn, Ah']; rfl
    have hD2 : (M.set n (Cp x)).drop (j + 1) = (L.drop (j + 1)).map Cp := by
      rw [List.drop_set_of_lt (by omega)]; exact hD'
    have hMn : M[n]? = some M[n] := Bh (by omega)
    have hm4 := h4 _ (Cl hMn)
    generalize M[n] = mn at hMn hm4
    obtain ⟨m1, m2, m3, m4, rfl⟩ : ∃ a b c d, mn = [a, b, c, d] := by
      match mn, hm4 with
      | [a, b, c, d], _ => exact ⟨a, b, c, d, rfl⟩
    repeat' first | refine kz ?_ | refine AX hMv ?_ | refine AX hMn ?_ | refine Aw ?_ | refine Aa (hnu) ?_ | refine kg ?_ ?_ | exact k0 | refine Ab ?_
    apply Ad ((j + 1, M.set n (Cp x))) <;> (try dsimp only) <;> try repeat' first | exact k0 | refine kw ?_ | refine kv ?_ ?_ | omega
    all_goals first
      | (rw [hn']; done)
      | (rw [hn']; rfl)
      | exact ⟨by omega, by simp [hM], by omega, by rw [hn']; exact hT', hD2, fun e he => by
          rcases Zs he with q | q
          ·exact h4 e q
          ·subst q; rfl⟩
      | trace_state
  | false =>
    rw [hnn] at hnu hsn
    rw [if_neg (by decide), List.append_nil] at hsn
    repeat' first | refine kz ?_ | refine AX hMv ?_ | refine Aw ?_ | refine Aa (hnu) ?_ | refine kg ?_ ?_ | exact k0 | refine Ab ?_
    apply Ad ((j + 1, M)) <;> (try dsimp only) <;> try repeat' first | exact k0 | refine kw ?_ | refine kv ?_ ?_ | omega
    all_goals first
      | (rw [hsn, ← hn]; done)
      | exact ⟨by omega, hM, by rw [hsn, ← hn]; omega, by rw [hsn, ← hn]; exact hT, hD', h4⟩
      | trace_state
 ·obtain rfl : j = L.length := by omega
  rw [PK] at hij hT ⊢
  obtain ⟨n, hn⟩ : ∃ n, n = (Eu L).length := ⟨_, rfl⟩
  rw [← hn] at hij hT ⊢
  refine Z8 0 rfl rfl (fun h _ => absurd (congrArg List.length h) (by simp; omega)) ?_
  intro bb cc hc hlc hcm
  rw [hM] at hlc
  simp only [List.set_cons_zero]
  have hof : L.length - n = 0 ∨ n * ti186.size = n * ti186.size := .inr rfl
  repeat' first | ((with_reducible (refine VG ?_)); refine ca 0 0 ?_ (by exact rfl) hc; refine VE 4 (r := 0) ?_ (by exact rfl) hc) | refine kz ?_ | refine Yf ?_ | refine MY (a := (n : Int)) (b := (L.length : Int)) (c := cc) (off' := n * ti186.size) (m' := L.length - n) (c' := cc - n) ?_ (by omega) (by omega) (by omega) (X3 rfl (by omega)) (by omega) (by omega) | refine MY (a := 0) (b := (n : Int)) (c := cc) (off' := 0) (m' := n) (c' := cc) ?_ (by omega) (by omega) (by omega) (X1 _ _) (by omega) (by omega) | refine S4 (ei := ti186) (r := 0) (c := cc) (o := n) (m := L.length - n) ?_ (by exact rfl) hc (by omega) (by omega) (.inr rfl) (by exact hT) | refine Bb Ae ?_ ?_ | exact k0 | refine Ab ?_
  all_goals trace_state
theorem SE (L : List (Val × Int)) (hl : L.length ≤ 4096) (hne : L ≠ []) : HC 234 [.c (.arr 0 0 L.length), .c (.d (.lit (.func (.func 236) #[] #[])))] [.arr 0 186 4 (L.map Cp)] (.c (.arr 0 1 (Eu L).length)) [.arr 1 186 4 ((Eu L).map Cp)] := by
 by_cases h : GO L < L.length
 ·exact X4 L hl h
 ·exact X2 L hl hne h
theorem QV (x y : Val × Int) : PC 238 [.agg (Cp x), .agg (Cp y)] (.v (.one (.lit (.int .i64 (x.1.cmp y.1))))) := by
 refine Ac hT Tryz.func238 Tryz.ntmps238 [.tmp 4] fun B => ?_
 repeat' first | refine kz ?_ | refine Aa (HJ x.1 y.1) ?_ | refine kf ?_ | fail
 all_goals rfl
noncomputable def rkE (f : Int) (L : List (Val × Int)) : Val :=
 if Eu L = [] then Val.null else if f = 2 then D0 (ascE L) 0 else if f = 3 then D0 (ascE L) (GZ (Eu L) - 1) else D0 (ascE L) ((GZ (Eu L) - 1) / 2)
theorem SG : PC 235 [.one (D4 [])] (.v (.one (D4 []))) := by
 refine Ac hT Tryz.func235 Tryz.ntmps235 [.tmp 2] fun B => ?_
 repeat' first | refine kz ?_ | refine AN rfl (fun hb => ?_) (fun hb => ?_) | refine LS (fun b hnil => ?_) | refine kh ?_ ?_ | exact ⟨⟩ | fail
 all_goals first
  | rfl
  | (simp; done)
theorem X5 : PC 234 [.one (D4 []), .one (.lit (.func (.func 236) #[] #[]))] (.v (.one (D4 []))) := by
 have h := OX [] (by simp)
 rw [if_neg (by decide)] at h
 refine Ac hT Tryz.func234 Tryz.ntmps234 [.tmp 4] fun B => ?_
 repeat' first | refine kz ?_ | refine Aa (h) ?_ | refine kf ?_ | fail
 all_goals rfl
theorem QW (f : Int) : PC 198 [.one (.lit (.int .i64 f)), .one (D4 [])] (.v (.agg (rkE f []).d)) := by
 have h : rkE f [] = Val.null := by unfold rkE; exact if_pos rfl
 rw [h]
 refine Ac hT Tryz.func198 Tryz.ntmps198 [.cell 4 73] fun B => ?_
 repeat' first | refine kz ?_ | refine Aa (SG) ?_ | refine Aa (X5) ?_ | refine kh ?_ ?_ | exact ⟨⟩ | fail
 all_goals rfl
theorem MO (L : List (Val × Int)) : (ascE L).length = (Eu L).length := (Ey L).length_eq
theorem X6 {L : List (Val × Int)} (h : U8 L) : U8 (ascE L) := by
 refine ⟨by rw [MO]; exact LF (PW L) h.1, fun x hx => ?_⟩
 exact h.2 x (Ms.1 ((Ey L).mem_iff.1 hx)).1
theorem QX (L : List (Val × Int)) (hb : U8 L) (hne : L ≠ []) (hn : Eu L = []) (f : Int) : PC 198 [.one (.lit (.int .i64 f)), .one (D4 L)] (.v (.agg (rkE f L).d)) := by
 have h : rkE f L = Val.null := by unfold rkE; rw [if_pos hn]
 rw [h]
 have h1 := MN L hb.1 hne
 have h2 := SE L hb.1 hne
 rw [hn, List.length_nil, List.map_nil] at h2
 refine Ac hT Tryz.func198 Tryz.ntmps198 [.cell 4 73] fun B => ?_
 repeat' first | refine kz ?_ | refine Ah [] (h1) ?_ | refine Ah [1] (h2) ?_ | refine kh ?_ ?_ | exact ⟨⟩ | fail
 all_goals rfl
theorem SH (L : List (Val × Int)) (hb : U8 L) (hp : MR L) (f : Int) (hf : f = 2 ∨ f = 3 ∨ f = 4) : PC 198 [.one (.lit (.int .i64 f)), .one (D4 L)] (.v (.agg (rkE f L).d)) := by
 by_cases hne : L = []
 ·subst hne; exact QW f
 by_cases hn : Eu L = []
 ·exact QX L hb hne hn f
 have h1 := MN L hb.1 hne
 have h2 := SE L hb.1 hne
 have hnl := PW L
 have hbl := hb.1
 have hS := Pq Cp (fun _ => rfl) (fun x y => x.1.cmp y.1) vcmp_ok.swo 238 (Eu L) (by omega) (fun x _ y _ => QV x y)
 have hse : sortF (fun x y : Val × Int => x.1.cmp y.1) (Eu L) = ascE L := rfl
 rw [hse] at hS
 have hr : rkE f L = if f = 2 then D0 (ascE L) 0 else if f = 3 then D0 (ascE L) (GZ (Eu L) - 1) else D0 (ascE L) ((GZ (Eu L) - 1) / 2) := by unfold rkE; rw [if_neg hn]
 have ht : GZ (Eu L) = GZ (ascE L) := (SO (Ey L)).symm
 rw [hr, ht]
 have hal := MO L
 have hB := X6 hb
 have hP : MR (ascE L) := fun x hx => hp x (Ms.1 ((Ey L).mem_iff.1 hx)).1
 have hpos : 0 < (Eu L).length := Zw.2 hn
 clear hr ht hse
 generalize ascE L = S at hS hal hB hP ⊢
 generalize hN : (Eu L).length = N at h2 hS hal hpos hnl
 clear hN
 rcases hf with rfl | rfl | rfl
 ·obtain ⟨x, S', rfl⟩ : ∃ x S', S = x :: S' := by
   cases S with
   | nil => simp at hal; omega
   | cons x S' => exact ⟨x, S', rfl⟩
  rw [if_pos rfl, QZ hP]
  have hv : ((x :: S').map Cp)[0]? = some (Cp x) := rfl
  have hvl : ((x :: S').map Cp).length = N := by rw [BQ]; exact hal
  generalize (x :: S').map Cp = M at hS hv hvl
  refine Ac hT Tryz.func198 Tryz.ntmps198 [.cell 4 73] fun B => ?_
  repeat' first | refine kz ?_ | refine AX hv ?_ | refine Aw ?_ | refine Ah [] (h1) ?_ | refine Ah [1] (h2) ?_ | refine Ah [1] (hS) ?_ | refine kh ?_ ?_ | exact ⟨⟩ | fail
  all_goals rfl
 ·obtain ⟨S', x, rfl⟩ : ∃ S' x, S = S' ++ [x] := by
   rcases List.eq_nil_or_concat S with h | ⟨a, b, h⟩
   · subst h; simp at hal; omega
   · exact ⟨a, b, by rw [h, List.concat_eq_append]⟩
  rw [if_neg (by decide), if_pos rfl, MT hP]
  have hSl : S'.length + 1 = N := by simpa using hal
  have hv : ((S' ++ [x]).map Cp)[((N : Int) - 1).toNat]? = some (Cp x) := by
   rw [show ((N : Int) - 1).toNat = S'.length by omega, B2]; simp
  have hvl : ((S' ++ [x]).map Cp).length = N := by rw [BQ]; exact hal
  generalize (S' ++ [x]).map Cp = M at hS hv hvl
  refine Ac hT Tryz.func198 Tryz.ntmps198 [.cell 4 73] fun B => ?_
  repeat' first | refine kz ?_ | refine AX hv ?_ | refine Aw ?_ | refine Ah [] (h1) ?_ | refine Ah [1] (h2) ?_ | refine Ah [1] (hS) ?_ | refine kh ?_ ?_ | exact ⟨⟩ | fail
  all_goals rfl
 ·rw [if_neg (by decide), if_neg (by decide)]
  have hSl := hB.1
  have htp := PZ hP (fun q => by rw [q] at hal; simp at hal; omega)
  have htb := LM hB S.length
  rw [PK] at htb
  refine Ac hT Tryz.func198 Tryz.ntmps198 [.cell 4 73] fun B => ?_
  repeat' first | refine kz ?_ | refine Ah [] (h1) ?_ | refine Ah [1] (h2) ?_ | refine Ah [1] (hS) ?_ | refine kh ?_ ?_ | exact ⟨⟩ | fail
  refine A0 (X := Nat × Int) ([5, 7] ++ List.range' 38 9) (fun x => x.1 ≤ N ∧ x.2 = GZ (S.take x.1)) (fun x lz => (38, (iC x.1)) :: (5, .c (.d (.lit (.int .i64 x.2)))) :: lz) (fun x => [.box 1 (Val.null.d.map .d), .arr 3 186 4 (S.map Cp)]) (fun x => N - x.1) ((0, 0)) ?_ ?_ ?_ ?_
  repeat' first | exact k0 | refine kw ?_ | refine kv ?_ ?_ | omega
  ·exact ⟨by simp, rfl⟩
  rintro ⟨k, m⟩ c ⟨hk, hm⟩
  dsimp only at hk hm ⊢
  by_cases hkl : k < N
  ·obtain ⟨x, hv⟩ := gx (l := S) (i := k) (by omega)
   have hv2 : (S.map Cp)[k]? = some (Cp x) := by rw [B2, hv]; rfl
   have e1 := MK hv
   have b1 := LM hB (k + 1)
   have b2 := LM hB k
   rw [← hm] at e1 b2
   have hvl : (S.map Cp).length = N := by rw [BQ]; exact hal
   generalize S.map Cp = M at hv2 hvl ⊢
   repeat' first | refine kz ?_ | refine AX hv2 ?_ | refine Aw ?_ | refine kh ?_ ?_ | exact ⟨⟩ | fail
   apply Ad ((k + 1, m + x.2)) <;> (try dsimp only) <;> try repeat' first | exact k0 | refine kw ?_ | refine kv ?_ ?_ | omega
   all_goals exact ⟨by omega, e1.symm⟩
  ·obtain rfl : k = N := by omega
   rw [Ao (by omega)] at hm
   rw [← hm] at htp htb ⊢
   repeat' first | refine kz ?_ | refine kh ?_ ?_ | exact ⟨⟩ | fail
   refine A0 (X := Nat × Int) ([8, 10] ++ List.range' 52 15) (fun x => x.1 ≤ k ∧ 0 ≤ x.2 ∧ x.2 ≤ 1073741824 ∧ D0 S ((m - 1) / 2) = D0 (S.drop x.1) x.2) (fun x lz => (52, (iC x.1)) :: (8, .c (.d (.lit (.int .i64 x.2)))) :: lz) (fun x => [.box 1 (Val.null.d.map .d), .arr 3 186 4 (S.map Cp)]) (fun x => k - x.1) ((0, (m - 1) / 2)) ?_ ?_ ?_ ?_
   repeat' first | exact k0 | refine kw ?_ | refine kv ?_ ?_ | omega
   all_goals try (dsimp only; rw [Int.tdiv_eq_ediv_of_nonneg (by omega), BZ (by omega) (by omega)]; done)
   all_goals try (exact ⟨by omega, by dsimp only; omega, by dsimp only; omega, rfl⟩)
   rintro ⟨q, z⟩ c2 ⟨hq, hz0, hz1, hnt⟩
   dsimp only at hq hz0 hz1 hnt ⊢
   by_cases hql : q < k
   · have hv : S[q]? = some S[q] := Bh (by omega)
     have hpx := hP _ (Cl hv)
     generalize S[q] = x at hv hpx
     have hv2 : (S.map Cp)[q]? = some (Cp x) := by rw [B2, hv]; rfl
     have hvl : (S.map Cp).length = k := by rw [BQ]; exact hal
     rw [Ay hv, D0] at hnt
     generalize S.map Cp = M at hv2 hvl ⊢
     by_cases hzx : z < x.2
     ·rw [if_pos hzx] at hnt
      rw [hnt]
      repeat' first | refine kz ?_ | refine AX hv2 ?_ | refine Aw ?_ | refine kh ?_ ?_ | exact ⟨⟩ | fail
      all_goals rfl
     ·rw [if_neg hzx] at hnt
      repeat' first | refine kz ?_ | refine AX hv2 ?_ | refine Aw ?_ | refine kh ?_ ?_ | exact ⟨⟩ | fail
      apply Ad ((q + 1, z - x.2)) <;> (try dsimp only) <;> try repeat' first | exact k0 | refine kw ?_ | refine kv ?_ ?_ | omega
      all_goals exact ⟨by omega, by omega, by omega, hnt⟩
   · rw [Sd (by omega), D0] at hnt
     rw [hnt]
     repeat' first | refine kz ?_ | refine kh ?_ ?_ | exact ⟨⟩ | fail
     all_goals rfl
end Go.Proofs.YtmpgmjlanngkfaaGreat
end
