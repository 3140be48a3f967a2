/-
  Expressions: the document's evaluation.
-/
import Derived.Test.YtmpgmjlanngkfaaGreatNrm
import Derived.Test.YtmpgmjlanngkfaaGreatDec
section
namespace Go.Proofs.YtmpgmjlanngkfaaGreat
open Go.Abs Go.RowKit
attribute [local irreducible] ARun Av MCall PCall HCall Ap SF CF CFs Ag Ai As fin AY VLe
set_option linter.unusedSimpArgs false
set_option maxRecDepth 100000
set_option maxHeartbeats 4000000
theorem P0 (op : Int) (kS : op = 3 ∨ op = 9 ∨ op = 13 ∨ op = 16) (a b c : Val) (va : a.valid = true) : PC 250 [.one (.lit (.int .i64 op)), .one (A0 [a])] (.v (.agg (DW op a b c).d)) := by
 have hv : ∀ v ∈ [a], v.valid = true := by simp [va]
 rcases kS with rfl | rfl | rfl | rfl
 ·rw [show DW 3 a b c = H8 3 a a by simp [DW]]
  exact BE 3 (by omega) [a] _ (fun _ => Uc a va) (fun ⟨v, h1, h2⟩ => by simp at h1; subst h1; exact if_pos (.inl (by omega))) hv
 ·rw [show DW 9 a b c = Ct 9 a b by simp [DW]]
  exact BE 9 (by omega) [a] _ (fun _ => Ue a b) (fun ⟨v, h1, h2⟩ => by simp at h1; subst h1; exact if_pos (by omega)) hv
 ·rw [show DW 13 a b c = H8 13 a a by simp [DW]]
  exact BE 13 (by omega) [a] _ (fun _ => Rw a) (fun ⟨v, h1, h2⟩ => by simp at h1; subst h1; exact if_pos (.inl (by omega))) hv
 ·rw [show DW 16 a b c = BO (a.same Val.null) by rw [F1 va]; simp [DW, Kc], ← PX]
  refine Ac hT Tryz.func250 Tryz.ntmps250 [.cell 4 73] fun B => ?_
  repeat' first | refine kz ?_ | refine Ao ?_ | refine Aa (DY _) ?_ | refine kh ?_ ?_ | exact ⟨⟩ | fail
  all_goals rfl
theorem P1 (op : Int) (kS : op = 4 ∨ op = 5 ∨ op = 6 ∨ op = 7 ∨ op = 8 ∨ op = 10 ∨ op = 11 ∨ op = 12 ∨ op = 14 ∨ op = 15 ∨ op = 17) (a b c : Val) (va : a.valid = true) (vb : b.valid = true) : PC 250 [.one (.lit (.int .i64 op)), .one (A0 [a, b])] (.v (.agg (DW op a b c).d)) := by
 have hv : ∀ v ∈ [a, b], v.valid = true := by simp [va, vb]
 have hn : ∀ {R : Val}, (a.kind = 0 → R = Val.null) → (b.kind = 0 → R = Val.null) → (∃ v ∈ [a, b], v.kind = 0) → R = Val.null := fun {R} h1 h2 ⟨v, h3, h4⟩ => by
  simp at h3
  rcases h3 with rfl | rfl
  ·exact h1 h4
  ·exact h2 h4
 have qJ : ∀ o : Int, (a.kind = 0 → H8 o a b = Val.null) ∧ (b.kind = 0 → H8 o a b = Val.null) := fun o => ⟨fun h => if_pos (.inl (by omega)), fun h => if_pos (.inr (by omega))⟩
 have s8 : (∀ v ∈ [a, b], v.kind ≠ 0) → a.kind ≠ 0 := fun h => h a (by simp)
 rcases kS with h | h | h | h | rfl | rfl | rfl | rfl | rfl | rfl | rfl
 ·rw [show DW op a b c = H8 op a b by rw [h]; simp [DW]]
  exact BE op (by omega) [a, b] _ (fun _ => Hq op (by omega) a b va vb) (hn (qJ op).1 (qJ op).2) hv
 ·rw [show DW op a b c = H8 op a b by rw [h]; simp [DW]]
  exact BE op (by omega) [a, b] _ (fun _ => Hq op (by omega) a b va vb) (hn (qJ op).1 (qJ op).2) hv
 ·rw [show DW op a b c = H8 op a b by rw [h]; simp [DW]]
  exact BE op (by omega) [a, b] _ (fun _ => Hq op (by omega) a b va vb) (hn (qJ op).1 (qJ op).2) hv
 ·rw [show DW op a b c = H8 op a b by rw [h]; simp [DW]]
  exact BE op (by omega) [a, b] _ (fun _ => Hq op (by omega) a b va vb) (hn (qJ op).1 (qJ op).2) hv
 ·rw [show DW 8 a b c = Ct 8 a b by simp [DW]]
  exact BE 8 (by omega) [a, b] _ (fun _ => Ud a b va vb) (hn (fun h => if_pos (by omega)) (fun h => by
   unfold Ct
   split
   ·rfl
   ·rw [if_neg (by omega), if_neg (fun q => by omega), if_neg (fun q => by omega)])) hv
 ·rw [show DW 10 a b c = Ct 10 a b by simp [DW]]
  exact BE 10 (by omega) [a, b] _ (fun _ => Rx a b) (hn (fun h => if_pos (by omega)) (fun h => by
   unfold Ct
   split
   ·rfl
   ·rw [if_neg (by omega), if_neg (fun q => by omega), if_neg (fun q => by omega)])) hv
 ·rw [show DW 11 a b c = Fz 11 a b by simp [DW]]
  exact BE 11 (by omega) [a, b] _ (fun h => Ry a b (s8 h)) (hn (fun h => if_pos (.inl h)) (fun h => by
   by_cases k : a.kind = 0
   ·exact if_pos (.inl k)
   ·exact if_pos (.inr (by omega)))) hv
 ·rw [show DW 12 a b c = Fz 12 a b by simp [DW]]
  exact BE 12 (by omega) [a, b] _ (fun h => Rz a b (s8 h)) (hn (fun h => if_pos (.inl h)) (fun h => by
   by_cases k : a.kind = 0
   ·exact if_pos (.inl k)
   ·exact if_pos (.inr (by omega)))) hv
 ·rw [show DW 14 a b c = PS a b by simp [DW, Kc]]
  have h1 := DC a
  have h2 := DC b
  have h3 := N2 a b
  refine Ac hT Tryz.func250 Tryz.ntmps250 [.cell 4 73] fun B => ?_
  repeat' first | refine kz ?_ | refine Ao ?_ | refine Aa (h1) ?_ | refine Aa (h2) ?_ | refine Aa (h3) ?_ | refine kh ?_ ?_ | exact ⟨⟩ | fail
  all_goals rfl
 ·rw [show DW 15 a b c = Z7 a b by simp [DW, Kc]]
  have h1 := DC a
  have h2 := DC b
  have h3 := N3 a b
  refine Ac hT Tryz.func250 Tryz.ntmps250 [.cell 4 73] fun B => ?_
  repeat' first | refine kz ?_ | refine Ao ?_ | refine Aa (h1) ?_ | refine Aa (h2) ?_ | refine Aa (h3) ?_ | refine kh ?_ ?_ | exact ⟨⟩ | fail
  all_goals rfl
 ·have jc := F1 va
  rw [← PX] at jc
  by_cases k : a.kind = 0
  ·rw [show DW 17 a b c = b by simp [DW, Kc, k]]
   rw [decide_eq_true k] at jc
   refine Ac hT Tryz.func250 Tryz.ntmps250 [.cell 4 73] fun B => ?_
   repeat' first | refine kz ?_ | refine Ao ?_ | refine kh ?_ ?_ | exact ⟨⟩ | fail
   all_goals first | rfl | (exfalso; simp_all; done)
  ·rw [show DW 17 a b c = a by simp [DW, Kc, k]]
   rw [decide_eq_false k] at jc
   refine Ac hT Tryz.func250 Tryz.ntmps250 [.cell 4 73] fun B => ?_
   repeat' first | refine kz ?_ | refine Ao ?_ | refine kh ?_ ?_ | exact ⟨⟩ | fail
   all_goals first | rfl | (exfalso; simp_all; done)
theorem P2 (a b c : Val) : PC 250 [.one (.lit (.int .i64 18)), .one (A0 [a, b, c])] (.v (.agg (DW 18 a b c).d)) := by
 have h1 := DC a
 rw [show DW 18 a b c = if QZ a then b else c by simp [DW, Kc]]
 cases ht : QZ a with
 | true =>
   rw [(IL a).1 ht] at h1
   refine Ac hT Tryz.func250 Tryz.ntmps250 [.cell 4 73] fun B => ?_
   repeat' first | refine kz ?_ | refine Ao ?_ | refine Aa (h1) ?_ | refine kh ?_ ?_ | exact ⟨⟩ | fail
   all_goals rfl
 | false =>
   have j2 : BD a ≠ 1 := fun q => by rw [(IL a).2 q] at ht; cases ht
   generalize BD a = z at h1 j2
   refine Ac hT Tryz.func250 Tryz.ntmps250 [.cell 4 73] fun B => ?_
   repeat' first | refine kz ?_ | refine Ao ?_ | refine Aa (h1) ?_ | refine kh ?_ ?_ | exact ⟨⟩ | fail
   all_goals first | rfl | (exfalso; simp_all; done)
theorem RA (op : Int) (vs : List Val) (hl : (vs.length : Int) = EP op) (h3 : op ≠ 1 ∧ op ≠ 2) (hv : ∀ v ∈ vs, v.valid = true) : PC 250 [.one (.lit (.int .i64 op)), .one (A0 vs)] (.v (.agg (DW op (FA vs 0) (FA vs 1) (FA vs 2)).d)) := by
 unfold EP at hl
 split at hl
 ·omega
 split at hl
 ·rename_i _ h
  match vs, hl with
  | [a], _ => exact P0 op (by omega) a _ _ (hv a (by simp))
 split at hl
 ·rename_i _ _ h
  match vs, hl with
  | [a, b, c], _ => rw [h]; exact P2 a b c
 split at hl
 ·rename_i _ _ _ h
  match vs, hl with
  | [a, b], _ => exact P1 op (by omega) a b _ (hv a (by simp)) (hv b (by simp))
 ·omega
def Fi (ss : List (List Trm)) : Dat := .sl (ss.map fun s => [AW s])
theorem Uf {ss : List (List Trm)} {i : Nat} {s : List Trm} (h : ss[i]? = some s) : ss.flatten.drop (ss.take i).flatten.length = s ++ (ss.drop (i + 1)).flatten := by
 have e : ss.flatten = (ss.take i).flatten ++ (s ++ (ss.drop (i + 1)).flatten) := by
  conv => lhs; rw [← aT i ss, List.flatten_append, AB h, List.flatten_cons]
 rw [e, List.drop_left]
theorem ML {ss : List (List Trm)} {i : Nat} {s : List Trm} (h : ss[i]? = some s) : (ss.take (i + 1)).flatten.length = (ss.take i).flatten.length + s.length := by
 rw [Gm, h]; simp
theorem SV (ss : List (List Trm)) (i : Nat) : (ss.take i).flatten.length ≤ ss.flatten.length := by
 conv => rhs; rw [← aT i ss, List.flatten_append, CR]
 omega
theorem RB (e : List Trm) (t : Trm) (ss : List (List Trm)) (he : e = t :: ss.flatten) (hl : e.length ≤ 90000) (h : ∀ s ∈ ss, 0 < s.length ∧ ∃ x, ∀ r, AZ [] 16 (s ++ r) = some (x, r)) : PC 249 [.one (AW e)] (.v (.one (Fi ss))) := by
 have jo : e.length = ss.flatten.length + 1 := by rw [he, List.length_cons]
 have hlen : ss.length ≤ ss.flatten.length := by
  clear hl jo he
  induction ss with
  | nil => simp
  | cons s ss ih =>
    have h1 := ih fun x hx => h x (by simp [hx])
    have h2 := (h s (by simp)).1
    simp only [List.flatten_cons, CR, List.length_cons]; omega
 have hf : List.take ss.length (ss.map fun s => [AW s]) = ss.map fun s => [AW s] := Ah (by simp)
 refine Ac hT Tryz.func249 Tryz.ntmps249 [.tmp 2] fun B => ?_
 repeat' first | refine kz ?_ | refine kf ?_ | fail
 refine Bv 3 26 1 ?_
 refine AK (X := Nat × Nat) (List.range' 3 18) (fun x => x.1 ≤ ss.length) (fun x lz => (3, .c (.arr 0 x.2 x.1)) :: (4, (.c (.d (.lit (.int .i64 ((1 + (ss.take x.1).flatten.length : Nat) : Int)))))) :: lz) (fun x => [.arr x.2 26 1 ((ss.take x.1).map fun s => [AW s])]) (fun x => ss.length - x.1) ((0, 1)) ?_ ?_ ?_ ?_
 repeat' first | exact k0 | refine kw ?_ | refine kv ?_ ?_ | omega
 rintro ⟨i, k⟩ c hi
 dsimp only at hi ⊢
 have kJ : (ss.take i).length = i := by simp; omega
 by_cases i7 : i < ss.length
 ·obtain ⟨s, hv⟩ := gx i7
  obtain ⟨h0, x, hx⟩ := h s (Cb hv)
  have hft := ML hv
  have kY := SV ss (i + 1)
  have kV : e.drop (1 + (ss.take i).flatten.length) = s ++ (ss.drop (i + 1)).flatten := by
    rw [he, Nat.add_comm, List.drop_succ_cons, Uf hv]
  have hc := Z8 e (by omega) 16 (1 + (ss.take i).flatten.length) (by omega) (by omega)
  have hr : ((ss.drop (i + 1)).flatten).length + (s.length + (1 + (ss.take i).flatten.length)) = e.length := by
    have := congrArg List.length kV
    rw [Fm, CR] at this
    omega
  have hE : Gr e (1 + (ss.take i).flatten.length) 16 = ((1 + (ss.take i).flatten.length + s.length : Nat) : Int) := by
    rw [Gr, kV, hx]
    simp only
    congr 1; omega
  rw [hE] at hc
  have jy : (e.take (1 + (ss.take i).flatten.length + s.length)).drop (1 + (ss.take i).flatten.length) = s := by
    rw [List.drop_take, Nat.add_sub_cancel_left, kV]; simp
  have lM : (ss.take (i + 1)).map (fun s => [AW s]) = (ss.take i).map (fun s => [AW s]) ++ [[AW s]] := D3 _ hv
  generalize hn : 1 + (ss.take i).flatten.length = n at *
  have kQ : 1 + (ss.take (i + 1)).flatten.length = n + s.length := by omega
  clear hx kV hE h he
  repeat' first | refine kz ?_ | refine Aa (hc) ?_ | refine kf ?_ | fail
  rw [jy]
  apply Af ((i + 1, _)) <;> (try dsimp only) <;> try repeat' first | exact k0 | refine w1 ?_ | refine Ab ?_ | refine m1 ?_ ?_ | omega
  all_goals first | (exact lM.symm) | (refine congrArg _ ?_; omega) | skip
 ·obtain rfl : i = ss.length := by omega
  rw [show ss.take ss.length = ss from Ah (Nat.le_refl _)]
  clear h he
  repeat' first | refine Ax 3 ?_ (j6 := hf) | refine kz ?_ | refine Bg Ad ?_ | refine Bq ?_
  all_goals rfl
theorem RC (row : List Val) : ∀ (n : Nat) (e : List Trm) (x : Nat × Val), n ≤ 16 → e.length ≤ 64 → AZ row n e = some (x, []) → PC 229 [.one (AW e), .one (A0 row)] (.v (.agg x.2.d)) := by
 intro n
 induction n with
 | zero => intro e x _ _ h; cases h
 | succ n ih =>
   intro e x hn hl hx
   obtain ⟨m, t, l', xs, hm, he, ht, hs, nI⟩ := C7 hx
   obtain rfl : n = m := by omega
   simp only at hs nI
   have hv : e[0]? = some t := by rw [he]; rfl
   have h0 : 0 ≤ EP t.op ∧ Di t = true := by
    simpa only [C6, BM, decide_eq_true_eq] using ht
   rw [nI]
   dsimp only
   by_cases o1 : t.op = 1
   ·rw [show Wq t row (xs.map Prod.snd) = t.v from if_pos o1]
    clear ih
    refine Ac hT Tryz.func229 Tryz.ntmps229 [.cell 4 73] fun B => ?_
    repeat' first | refine kz ?_ | refine AF hv ?_ | refine Ao ?_ | refine kh ?_ ?_ | exact ⟨⟩ | fail
    all_goals rfl
   by_cases o2 : t.op = 2
   ·rw [show Wq t row (xs.map Prod.snd) = (Fs row t.col).clean by rw [Wq, if_neg o1, if_pos o2]]
    have rq : 0 ≤ t.col := by
     have := h0.2
     rw [Di, if_neg o1, if_pos o2, BM, decide_eq_true_eq] at this
     exact this.1
    clear ih
    by_cases hk : t.col.toNat < row.length
    ·have hr : row[t.col.toNat]? = some row[t.col.toNat] := Bo hk
     have lI : Fs row t.col = row[t.col.toNat] := by
      have := NH hr
      rwa [Int.toNat_of_nonneg rq] at this
     rw [lI]
     generalize row[t.col.toNat] = v at hr
     have pL : (row.map Val.d)[t.col.toNat]? = some v.d := by rw [BU, hr]; rfl
     refine Ac hT Tryz.func229 Tryz.ntmps229 [.cell 4 73] fun B => ?_
     repeat' first | refine kz ?_ | refine AF hv ?_ | refine AF pL ?_ | refine Ao ?_ | refine Aa (Gf v) ?_ | refine kh ?_ ?_ | exact ⟨⟩ | fail
     all_goals rfl
    ·rw [NG (by omega), show Val.null.clean = Val.null by unfold Val.clean; split <;> rfl]
     refine Ac hT Tryz.func229 Tryz.ntmps229 [.cell 4 73] fun B => ?_
     repeat' first | refine kz ?_ | refine AF hv ?_ | refine Ao ?_ | refine kh ?_ ?_ | exact ⟨⟩ | fail
     all_goals rfl
   obtain ⟨ss, qA, jy, uq⟩ := IK (Q := fun s a => 0 < s.length ∧ ∀ r', AZ row n (s ++ r') = some (a, r')) (fun l a r hh => EB row n l a r hh) hs
   rw [List.append_nil] at qA
   have oJ := GQ hs
   have qK : ∀ s ∈ ss, 0 < s.length ∧ ∃ y, ∀ r, AZ [] 16 (s ++ r) = some (y, r) := fun s iZ => by
    obtain ⟨i, hi, rfl⟩ := aW.1 iZ
    obtain ⟨q1, q2⟩ := uq i ss[i] xs[i] (Bo hi) (Bo (by omega))
    obtain ⟨y, hy, _⟩ := Hn row [] n _ _ _ (q2 [])
    have yr := (B2 [] n _ _ _ hy).2.2
    have vN := ER [] n _ _ _ hy 16 (by omega)
    obtain ⟨s', e1, _, e3⟩ := EB [] 16 _ _ _ vN
    rw [List.append_nil, List.append_nil] at e1
    refine ⟨q1, y, fun r => ?_⟩
    rw [e1]; exact e3 r
   have h1 := RB e t ss (by rw [he, qA]) (by omega) qK
   obtain ⟨vs, nF⟩ : ∃ vs, vs = xs.map Prod.snd := ⟨_, rfl⟩
   have kM : vs.length = ss.length := by rw [nF, BR, oJ, jy]
   have qG : ∀ v ∈ vs, v.valid = true := fun v jE => by
    rw [nF] at jE
    obtain ⟨a, ha, rfl⟩ := List.mem_map.1 jE
    obtain ⟨i, hi, rfl⟩ := aW.1 ha
    obtain ⟨q1, q2⟩ := uq i (ss[i]'(by omega)) xs[i] (Bo _) (Bo hi)
    exact (B2 row n _ _ _ (q2 [])).1
   have qz : ∀ (i : Nat) (s : List Trm), ss[i]? = some s → ∃ v, vs[i]? = some v ∧ PC 229 [.one (AW s), .one (A0 row)] (.v (.agg v.d)) := fun i s hi => by
    have i7 := lt_of_getElem? hi
    have rN : xs[i]? = some (xs[i]'(by omega)) := Bo _
    obtain ⟨q1, q2⟩ := uq i s _ hi rN
    have q3 := q2 []
    rw [List.append_nil] at q3
    have vO : s.length ≤ 64 := by
     have h1 := SV ss (i + 1)
     have h2 := ML hi
     have h3 : e.length = ss.flatten.length + 1 := by rw [he, qA, List.length_cons]
     omega
    refine ⟨_, ?_, ih s _ (by omega) vO q3⟩
    subst nF
    rw [BU, rN]; rfl
   have qL := RA t.op vs (by rw [kM, jy]; omega) ⟨o1, o2⟩ qG
   rw [show Wq t row (xs.map Prod.snd) = DW t.op (FA vs 0) (FA vs 1) (FA vs 2) by rw [Wq, if_neg o1, if_neg o2, nF]]
   generalize DW t.op (FA vs 0) (FA vs 1) (FA vs 2) = R at qL ⊢
   have hf : List.take vs.length (vs.map Val.d) = vs.map Val.d := Ah (by simp)
   have pM : ss.length ≤ 3 := by have := (II t.op).2; omega
   clear ih hs uq qA hx nI qK nF oJ qG he ht h0
   unfold Fi at h1
   refine Ac hT Tryz.func229 Tryz.ntmps229 [.cell 4 73] fun B => ?_
   repeat' first | refine kz ?_ | refine AF hv ?_ | refine Ao ?_ | refine Aa (h1) ?_ | refine kh ?_ ?_ | exact ⟨⟩ | fail
   refine Bv 5 73 3 ?_
   refine AK (X := Nat × Nat) ([5, 7] ++ List.range' 38 15) (fun x => x.1 ≤ ss.length) (fun x lz => (5, .c (.arr 1 x.2 x.1)) :: (7, (iC x.1)) :: lz) (fun x => [.box 1 (Val.null.d.map .d), .arr x.2 73 3 ((vs.take x.1).map Val.d)]) (fun x => ss.length - x.1) ((0, 2)) ?_ ?_ ?_ ?_
   repeat' first | exact k0 | refine kw ?_ | refine kv ?_ ?_ | omega
   rintro ⟨i, k⟩ c hi
   dsimp only at hi ⊢
   by_cases i7 : i < ss.length
   ·obtain ⟨s, xr⟩ := gx i7
    obtain ⟨v, mr, jd⟩ := qz i s xr
    have yX : (ss.map fun s => [AW s])[i]? = some [AW s] := by rw [BU, xr]; rfl
    have lM : (vs.take (i + 1)).map Val.d = (vs.take i).map Val.d ++ [v.d] := D3 _ mr
    have kJ : (vs.take i).length = i := by simp; omega
    clear qz qL h1
    repeat' first | refine kz ?_ | refine AF hv ?_ | refine AF yX ?_ | refine Ao ?_ | refine Aa (jd) ?_ | refine kh ?_ ?_ | exact ⟨⟩ | fail
    apply Af ((i + 1, _)) <;> (try dsimp only) <;> try repeat' first | exact k0 | refine w1 ?_ | refine Ab ?_ | refine m1 ?_ ?_ | omega
    all_goals first | exact lM.symm | skip
   ·obtain rfl : i = ss.length := by omega
    rw [← kM, show vs.take vs.length = vs from Ah (Nat.le_refl _)]
    clear qz h1
    repeat' first | refine Ax 5 ?_ (j6 := hf) | refine kz ?_ | refine AF hv ?_ | refine Ao ?_ | refine Aa (qL) ?_ | refine Bg Ad ?_ | refine Cl ?_ | exact k0 | refine BX ?_ ?_ | refine HD ?_
    all_goals rfl
theorem Hr (e : List Trm) (row : List Val) : PC 190 [.one (AW e), .one (A0 row)] (.v (.agg (EC e row).d)) := by
 have h1 := K7 e
 cases hv : Cz e with
 | false =>
   rw [Wt hv]
   rw [hv] at h1
   refine Ac hT Tryz.func190 Tryz.ntmps190 [.cell 4 73] fun B => ?_
   repeat' first | refine kz ?_ | refine Aa (h1) ?_ | refine kh ?_ ?_ | exact ⟨⟩ | fail
   all_goals rfl
 | true =>
   rw [hv] at h1
   obtain ⟨hl, x, hx⟩ := (DB e row).1 hv
   rw [Ws hv hx]
   have h2 := RC row 16 e x (by omega) hl hx
   clear hx
   generalize x.2 = v at h2 ⊢
   refine Ac hT Tryz.func190 Tryz.ntmps190 [.cell 4 73] fun B => ?_
   repeat' first | refine kz ?_ | refine Aa (h1) ?_ | refine Aa (h2) ?_ | refine kh ?_ ?_ | exact ⟨⟩ | fail
   all_goals rfl
theorem RD (e : List Trm) (row : List Val) : PC 186 [.one (AW e), .one (A0 row)] (.v (.one (.lit (.bool (Fh e row))))) := by
 have h1 := Hr e row
 have h2 := DC (EC e row)
 have h3 : Fh e row = (BD (EC e row) == 1) := by
  rw [Q2, Fh, IL]; simp
 rw [h3]
 generalize EC e row = v at h1 h2 ⊢
 generalize BD v = z at h2 ⊢
 refine Ac hT Tryz.func186 Tryz.ntmps186 [.tmp 4] fun B => ?_
 repeat' first | refine kz ?_ | refine Aa (h1) ?_ | refine Aa (h2) ?_ | refine kf ?_ | fail
 all_goals rfl
end Go.Proofs.YtmpgmjlanngkfaaGreat
end
