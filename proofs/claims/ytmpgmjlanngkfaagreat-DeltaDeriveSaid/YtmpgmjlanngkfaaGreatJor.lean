/-
  Algebra: the joiner's sums are those of the document's join. Plain, no program.
-/
import Derived.Test.YtmpgmjlanngkfaaGreatRej
import Derived.Test.YtmpgmjlanngkfaaGreatJoq
section
namespace Go.Proofs.YtmpgmjlanngkfaaGreat
open Go.Abs Go.RowKit
attribute [local irreducible] ARun At MCall PCall HCall Am SF CF CFs Ah Aj Ar fin AW VLe
set_option linter.unusedSimpArgs false
set_option maxRecDepth 100000
set_option maxHeartbeats 4000000
def Fy (x y : Entry) : Entry := ⟨x.row ++ y.row, x.count * y.count⟩
def CH (x : Entry) (b : List Entry) (on : List (Int × Int)) : List Entry := (b.filter fun y => CG x.row y.row on).map (Fy x)
def A7 (a b : List Entry) (on : List (Int × Int)) : List Entry := a.flatMap fun x => CH x b on
theorem N9 {x y : Entry} {b : List Entry} {k : Nat} (on : List (Int × Int)) (h : b[k]? = some y) : CH x (b.take (k + 1)) on = CH x (b.take k) on ++ if CG x.row y.row on then [Fy x y] else [] := by
 unfold CH
 rw [List.take_add_one, h, List.filter_append, List.map_append]
 congr 1
 by_cases hq : CG x.row y.row on = true <;> simp [hq]
theorem Oa {x : Entry} {a : List Entry} {i : Nat} (b : List Entry) (on : List (Int × Int)) (h : a[i]? = some x) : A7 (a.take (i + 1)) b on = A7 (a.take i) b on ++ CH x b on := by
 unfold A7
 rw [List.take_add_one, h, List.flatMap_append]
 simp
theorem Pp (x : Entry) (b : List Entry) (on : List (Int × Int)) : (CH x b on).length ≤ b.length := by
 unfold CH
 rw [List.length_map]
 exact List.length_filter_le ..
theorem Pq (a b : List Entry) (on : List (Int × Int)) : (A7 a b on).length ≤ a.length * b.length := by
 induction a with
 | nil => simp [A7]
 | cons x a ih =>
   have := Pp x b on
   unfold A7 at ih ⊢
   rw [List.flatMap_cons, List.length_append, List.length_cons, Nat.add_mul]
   omega
theorem Wz {x y : Int} (h : -262144 ≤ x ∧ x ≤ 262144) (g : -262144 ≤ y ∧ y ≤ 262144) : -68719476736 ≤ x * y ∧ x * y ≤ 68719476736 := by
 have h1 : x.natAbs ≤ 262144 := by omega
 have h2 : y.natAbs ≤ 262144 := by omega
 have h3 : (x * y).natAbs ≤ 262144 * 262144 := by rw [Int.natAbs_mul]; exact Nat.mul_le_mul h1 h2
 omega
theorem Lf {a b : List Entry} {on : List (Int × Int)} {e : Entry} (h : e ∈ A7 a b on) : ∃ x ∈ a, ∃ y ∈ b, CG x.row y.row on = true ∧ e = Fy x y := by
 obtain ⟨x, hx, he⟩ := List.mem_flatMap.1 h
 obtain ⟨y, hy, rfl⟩ := List.mem_map.1 he
 obtain ⟨h1, h2⟩ := List.mem_filter.1 hy
 exact ⟨x, hx, y, h1, h2, rfl⟩
theorem Kl {a b : List Entry} {on : List (Int × Int)} (ha : ∀ e ∈ a, -262144 ≤ e.count ∧ e.count ≤ 262144) (hb : ∀ e ∈ b, -262144 ≤ e.count ∧ e.count ≤ 262144) : A6 68719476736 (A7 a b on) := fun e he => by
 obtain ⟨x, hx, y, hy, _, rfl⟩ := Lf he
 exact Wz (ha x hx) (hb y hy)
theorem Df {l : List Entry} (h : Bx l = true) : l.length ≤ 4096 ∧ ∀ e ∈ l, AQ e.row = true ∧ (-262144 ≤ e.count ∧ e.count ≤ 262144) ∧ e.row.length ≤ 8 ∧ e.count ≠ 0 := by
 unfold Bx at h
 simp only [Bool.and_eq_true] at h
 obtain ⟨h1, h2⟩ := AZ h.2
 refine ⟨h1, fun e he => ⟨(h2 e he).1, (h2 e he).2.1, ?_, (h2 e he).2.2⟩⟩
 have := List.all_eq_true.1 h.1 e he
 simpa using this
def CI (l : List Entry) : List Entry × Nat :=
 if 4096 < l.length then ([], 8)
 else if l.all (fun e => decide (-262144 ≤ e.count ∧ e.count ≤ 262144)) then (l, 0)
 else ([], 9)
def Eb (a b : List Entry) (on : List (Int × Int)) : List Entry × Nat :=
 if Bx a && Bx b then CI (sumR (A7 a b on)) else ([], 1)
def Y3 (q : List Entry × Nat) : PRes := .tup [.one (Ap q.1), .one (.lit (.int .i64 q.2))]
theorem RE (a b : List Entry) (on : List (Int × Int)) : PCall Tryz.prog 135 [.one (Ap a), .one (Ap b), .one (RX on)] (Y3 (Eb a b on)) := by
 have hna := N8 a
 have hnb := N8 b
 unfold Eb
 cases na : Bx a
 ·rw [na] at hna
  refine Ac hT Tryz.func135 Tryz.ntmps135 [.tmp 6, .tmp 7] fun B => ?_
  repeat' (first | refine kz ?_ | refine Au rfl (fun hb => ?_) (fun hb => ?_) | refine ki ?_ | refine Aa (hna) ?_ | refine Ai rfl rfl (fun hb => ?_) (fun hb => ?_) | refine kg ?_ ?_ | refine kf ?_ | fail)
  all_goals rfl
 cases nb : Bx b
 ·rw [na] at hna
  rw [nb] at hnb
  refine Ac hT Tryz.func135 Tryz.ntmps135 [.tmp 6, .tmp 7] fun B => ?_
  repeat' (first | refine kz ?_ | refine Au rfl (fun hb => ?_) (fun hb => ?_) | refine ki ?_ | refine Aa (hna) ?_ | refine Aa (hnb) ?_ | refine Ai rfl rfl (fun hb => ?_) (fun hb => ?_) | refine kg ?_ ?_ | refine kf ?_ | fail)
  all_goals rfl
 rw [na] at hna
 rw [nb] at hnb
 rw [Bool.and_self, if_pos rfl]
 obtain ⟨al, am⟩ := Df na
 obtain ⟨bl, bm⟩ := Df nb
 refine Ac hT Tryz.func135 Tryz.ntmps135 [.tmp 6, .tmp 7] fun B => ?_
 repeat' (first | refine kz ?_ | refine Au rfl (fun hb => ?_) (fun hb => ?_) | refine ki ?_ | refine Aa (hna) ?_ | refine Aa (hnb) ?_ | refine Ai rfl rfl (fun hb => ?_) (fun hb => ?_) | refine kg ?_ ?_ | refine kf ?_ | fail)
 clear hna hnb
 refine BA 8 56 2 ?_
 refine AO (X := Nat × List Entry × Nat) [8, 9, 10, 20, 21, 22, 23, 24, 25, 26, 27, 28, 29, 30, 31, 32, 33, 34, 35, 36, 37, 38, 39, 40, 41, 42, 43, 44, 45, 46, 47, 48, 49, 50, 51, 52, 53, 54, 55, 56, 57, 58, 59, 60, 61, 62, 63, 64, 65, 66, 67, 68, 69, 70, 71] (fun x => x.1 ≤ a.length ∧ x.2.1 = A7 (a.take x.1) b on ∧ x.2.1.length ≤ x.1 * b.length) (fun x lz => (8, .c (.arr 0 x.2.2 x.2.1.length)) :: (9, (.c (.d (.lit (.int .i64 x.1))))) :: lz) (fun x => [.arr x.2.2 56 2 (x.2.1.map Entry.d)]) (fun x => a.length - x.1) ((0, [], 1)) ?_ ?_ ?_ ?_
 repeat' (first | exact k0 | refine kw ?_ | omega)
 ·exact ⟨by omega, by simp [A7], by simp⟩
 rintro ⟨i, l, k⟩ c ⟨hi, hinv, hll⟩
 dsimp only at hi hinv hll ⊢
 by_cases hlt : i < a.length
 ·have hv : a[i]? = some a[i] := List.getElem?_eq_getElem hlt
  generalize a[i] = p at hv
  have hsn := Oa b on hv
  obtain ⟨p1, p2, p3⟩ := am p (List.mem_of_getElem? hv)
  have hmul : i * b.length ≤ 4095 * 4096 := Nat.mul_le_mul (by omega) bl
  have hmul1 : (i + 1) * b.length = i * b.length + b.length := by rw [Nat.add_mul]; omega
  repeat' (first | refine kz ?_ | refine Au rfl (fun hb => ?_) (fun hb => ?_) | refine ki ?_ | refine Ai rfl rfl (fun hb => ?_) (fun hb => ?_) | refine kg ?_ ?_ | refine kf ?_ | fail)
  refine AO (X := Nat × List Entry × Nat) [8, 10, 26, 27, 28, 29, 30, 31, 32, 33, 34, 35, 36, 37, 38, 39, 40, 41, 42, 43, 44, 45, 46, 47, 48, 49, 50, 51, 52, 53, 54, 55, 56, 57, 58, 59, 60, 61, 62, 63, 64, 65, 66, 67, 68, 69, 70, 71] (fun x => x.1 ≤ b.length ∧ x.2.1 = l ++ CH p (b.take x.1) on ∧ x.2.1.length ≤ l.length + x.1) (fun x lz => (8, .c (.arr 0 x.2.2 x.2.1.length)) :: (10, (.c (.d (.lit (.int .i64 x.1))))) :: lz) (fun x => [.arr x.2.2 56 2 (x.2.1.map Entry.d)]) (fun x => b.length - x.1) ((0, l, k)) ?_ ?_ ?_ ?_
  repeat' (first | exact k0 | refine kw ?_ | omega)
  ·exact ⟨by omega, by simp [CH], by simp⟩
  rintro ⟨j, m, k2⟩ c ⟨hj, hinv2, hml⟩
  dsimp only at hj hinv2 hml ⊢
  by_cases hlt2 : j < b.length
  ·have hv2 : b[j]? = some b[j] := List.getElem?_eq_getElem hlt2
   generalize b[j] = q at hv2
   obtain ⟨q1, q2, q3⟩ := bm q (List.mem_of_getElem? hv2)
   have hsn2 := N9 (x := p) on hv2
   have hpr := Wz p2 q2
   have hmt := VN p.row q.row on
   cases hme : CG p.row q.row on
   · rw [hme] at hmt
     rw [hme, if_neg (by simp), List.append_nil] at hsn2
     repeat' (first | refine kz ?_ | refine Au rfl (fun hb => ?_) (fun hb => ?_) | refine kx hv ?_ | refine kx hv2 ?_ | refine ki ?_ | refine Aa (hmt) ?_ | refine Ai rfl rfl (fun hb => ?_) (fun hb => ?_) | refine kg ?_ ?_ | refine kf ?_ | fail)
     (apply Ae ((j + 1, m, k2)); all_goals (try dsimp only); all_goals (try (repeat' (first | exact k0 | refine kw ?_ | omega))))
     exact ⟨by omega, by rw [hsn2]; exact hinv2, by omega⟩
   · rw [hme] at hmt
     rw [hme, if_pos rfl] at hsn2
     have o1 : m.length + [[AU (p.row ++ q.row), Dat.lit (Value.int IntKind.i64 (p.count * q.count))]].length = (m ++ [Fy p q]).length := by simp
     have o2 : m.map Entry.d ++ [[AU (p.row ++ q.row), Dat.lit (Value.int IntKind.i64 (p.count * q.count))]] = (m ++ [Fy p q]).map Entry.d := by rw [List.map_append]; rfl
     have hcf : CFrs 1 (c + 1 + 1) (p.row.map Val.d ++ q.row.map Val.d) [.arr 1 (c + 1 + 1) (p.row.length + (q.row.map Val.d).length), .d (.lit (.int .i64 (p.count * q.count)))] [AU (p.row ++ q.row), .lit (.int .i64 (p.count * q.count))] := ⟨.inl ⟨_, rfl, by simp, by rw [List.take_of_length_le (by simp), ← List.map_append]; rfl⟩, .inr rfl, trivial⟩
     repeat' (first | refine kz ?_ | refine Au rfl (fun hb => ?_) (fun hb => ?_) | refine kx hv ?_ | refine kx hv2 ?_ | refine ki ?_ | refine Aa (hmt) ?_ | refine La 1 ?_ hcf | refine Ai rfl rfl (fun hb => ?_) (fun hb => ?_) | refine kg ?_ ?_ | refine kf ?_ | fail)
     rw [o1, o2]
     have hq1 : (m ++ [Fy p q]).length ≤ m.length + 1 := by simp
     have hq2 : m ++ [Fy p q] = l ++ CH p (b.take (j + 1)) on := by rw [hsn2, hinv2, List.append_assoc]
     generalize m ++ [Fy p q] = m2 at hq1 hq2 ⊢
     (apply Ae ((j + 1, m2, _)); all_goals (try dsimp only); all_goals (try (repeat' (first | exact k0 | refine w1 ?_ | refine Ab ?_ | omega))))
     exact ⟨by omega, hq2, by omega⟩
  ·have hje : j = b.length := by omega
   subst hje
   rw [List.take_length] at hinv2
   repeat' (first | refine kz ?_ | refine Au rfl (fun hb => ?_) (fun hb => ?_) | refine ki ?_ | refine Ai rfl rfl (fun hb => ?_) (fun hb => ?_) | refine kg ?_ ?_ | refine kf ?_ | fail)
   (apply Ae ((i + 1, m, k2)); all_goals (try dsimp only); all_goals (try (repeat' (first | exact k0 | refine kw ?_ | omega))))
   exact ⟨by omega, by rw [hsn, hinv2, hinv], by omega⟩
 ·have hie : i = a.length := by omega
  subst hie
  rw [List.take_length] at hinv
  have hlb : l.length ≤ 16777216 := by
   have : a.length * b.length ≤ 4096 * 4096 := Nat.mul_le_mul al bl
   omega
  rw [← hinv]
  have hsum := Y2 l.length l (Nat.le_refl _) hlb (by rw [hinv]; exact Kl (fun e he => (am e he).2.1) (fun e he => (bm e he).2.1))
  have hlr := HH l
  have hlr : (sumR l).length ≤ 16777216 := by omega
  generalize sumR l = r at hsum hlr ⊢
  repeat' (first | refine Aw 8 ?_ | refine kz ?_ | refine Au rfl (fun hb => ?_) (fun hb => ?_) | refine ki ?_ | refine Aa (hsum) ?_ | refine Ai rfl rfl (fun hb => ?_) (fun hb => ?_) | refine Ay Af ?_ ?_ | refine Bo ?_ | refine BR ?_)
  ·unfold CI; rw [if_pos (by omega)]; rfl
  ·unfold CI; rw [if_pos (by omega)]; rfl
  have hfl : ∀ t : Nat, ∀ e, r[t]? = some e → ¬ (-262144 ≤ e.count ∧ e.count ≤ 262144) → CI r = ([], 9) := fun t e he hn => by
   unfold CI
   rw [if_neg (by omega), if_neg]
   intro hh
   have := List.all_eq_true.1 hh e (List.mem_of_getElem? he)
   simp only [decide_eq_true_eq] at this
   exact hn this
  refine AO (X := Nat) [6, 7, 11, 77, 78, 79, 80, 81, 82, 83, 84, 85, 86, 87, 88, 89, 90, 91, 92, 93, 94, 95, 96] (fun x => x ≤ r.length ∧ (r.take x).all (fun e => decide (-262144 ≤ e.count ∧ e.count ≤ 262144)) = true) (fun x lz => (11, (.c (.d (.lit (.int .i64 x))))) :: lz) (fun x => [.dead]) (fun x => r.length - x) (0) ?_ ?_ ?_ ?_
  repeat' (first | exact k0 | refine kw ?_ | omega)
  ·exact ⟨by simp, by simp⟩
  rintro t c ⟨ht, hq⟩
  by_cases hlt2 : t < r.length
  ·have hv : r[t]? = some r[t] := List.getElem?_eq_getElem hlt2
   generalize r[t] = e at hv
   have htk : ∀ f : Entry → Bool, (r.take (t + 1)).all f = ((r.take t).all f && f e) := fun f => by rw [List.take_add_one, hv, List.all_append]; simp
   have hfe := hfl t e hv
   repeat' (first | refine kz ?_ | refine Au rfl (fun hb => ?_) (fun hb => ?_) | refine kx hv ?_ | refine ki ?_ | refine Ai rfl rfl (fun hb => ?_) (fun hb => ?_) | refine kg ?_ ?_ | refine kf ?_ | fail)
   · rw [hfe (by omega)]; rfl
   · rw [hfe (by omega)]; rfl
   · rw [hfe (by omega)]; rfl
   · rw [hfe (by omega)]; rfl
   · (apply Ae (t + 1); all_goals (try dsimp only); all_goals (try (repeat' (first | exact k0 | refine kw ?_ | omega))))
     exact ⟨by omega, by rw [htk, hq]; simp; omega⟩
  ·have hte : t = r.length := by omega
   subst hte
   rw [List.take_length] at hq
   have hbe : CI r = (r, 0) := by unfold CI; rw [if_neg (by omega), if_pos hq]
   rw [hbe]
   repeat' (first | refine kz ?_ | refine Au rfl (fun hb => ?_) (fun hb => ?_) | refine ki ?_ | refine Ai rfl rfl (fun hb => ?_) (fun hb => ?_) | refine kg ?_ ?_ | refine kf ?_ | fail)
   all_goals rfl
end Go.Proofs.YtmpgmjlanngkfaaGreat
end
section
namespace Go.Proofs.YtmpgmjlanngkfaaGreat
open Go.Abs Go.RowKit
set_option linter.unusedSimpArgs false
set_option maxRecDepth 100000
theorem TO {a b : ByteArray} (h : a.toList = b.toList) : a = b := by
 rw [ByteArray.toList_eq, ByteArray.toList_eq] at h
 cases a; cases b
 simpa using h
theorem NO {a b : Val} : Cp a b = true ↔ a = b := by
 refine ⟨fun h => ?_, fun h => by rw [h]; exact Fi _⟩
 simp only [Cp, Bool.and_eq_true, beq_iff_eq] at h
 obtain ⟨h1, h2, h3⟩ := h
 have := TO h3
 cases a; cases b; simp_all
def Fw (b : List Entry) (on : List (Int × Int)) (u : Entry) : Option Fe := match DN u.row (on.map Prod.fst) with
 | none => none
 | some key => if CO b (on.map Prod.snd) key = [] then none else some (BQ u, CO b (on.map Prod.snd) key)
def Dd (a b : List Entry) (on : List (Int × Int)) : List Fe := a.filterMap (Fw b on)
theorem L3 (b : List Entry) (on : List (Int × Int)) : ∀ (a : List Entry) (q : JS), F1 b on a q = Gx (Dd a b on) q
 | [], q => rfl
 | u :: a, q => by
   rw [F1, C2, Dd, List.filterMap_cons, Fw]
   cases hk : DN u.row (on.map Prod.fst) with
   | none => simp only; exact L3 b on a q
   | some key =>
     simp only
     by_cases hp : CO b (on.map Prod.snd) key = []
     ·rw [if_pos hp, if_pos hp]; exact L3 b on a q
     ·rw [if_neg hp, if_neg hp]
      simp only [Gx, Qm]
      have ih := L3 b on a
      unfold Dd at ih
      show (match (match closeE (Ao u.row) q.1.reverse q.2.1 q.2.2 with | none => none | some (st', s', r') => _) with | none => none | some q' => F1 b on a q') = (match (match closeE (Ao u.row) q.1.reverse q.2.1 q.2.2 with | none => none | some (st', s', r') => _) with | none => none | some q' => Gx (List.filterMap (Fw b on) a) q')
      cases closeE (Ao u.row) q.1.reverse q.2.1 q.2.2 with
      | none => rfl
      | some z => exact ih _
theorem XI (a b : List Entry) (on : List (Int × Int)) : NK a b on = Pj (Dd a b on) := by
 unfold NK Pj
 rw [L3]
 cases Gx (Dd a b on) ([], [], []) with
 | none => rfl
 | some q =>
   simp only
   cases closeE [] q.1.reverse q.2.1 q.2.2 with
   | none => rfl
   | some z => rfl
theorem F2 (a : Val) (r : List Val) : Ao (a :: r) = AJ a.clean ++ Ao r := by simp [Ao]
theorem Ez (r s : List Val) : Ao (r ++ s) = Ao r ++ Ao s := by simp [Ao]
theorem G3 : ∀ {r s : List Val}, Ao r <+: Ao s → r.map Val.clean <+: s.map Val.clean
 | [], s, _ => List.nil_prefix
 | a :: r, [], h => by
   rw [F2] at h
   have hl := h.length_le
   have hne : 0 < (AJ a.clean).length := List.length_pos_iff.2 (Gh a.clean)
   rw [List.length_append, show (Ao []).length = 0 from rfl] at hl
   omega
 | a :: r, b :: s, h => by
   obtain ⟨t, h⟩ := h
   rw [F2, F2, List.append_assoc] at h
   obtain ⟨q1, q2⟩ := JH (AR a) (AR b) h
   obtain ⟨z, hz⟩ := G3 ⟨t, q2⟩
   exact ⟨z, by rw [List.map_cons, List.map_cons, q1, ← hz]; rfl⟩
theorem NP {r s : List Val} (h : r.map Val.clean <+: s.map Val.clean) : Ao r <+: Ao s := by
 obtain ⟨t, h⟩ := h
 rw [← DJ r, ← DJ s, ← h, Ez]
 exact List.prefix_append ..
theorem TP : ∀ {r s : List Val}, r.map Val.clean <+: s.map Val.clean → ¬ Ak s r < 0
 | [], s, _ => by cases s <;> simp [Ak]
 | a :: r, [], h => by simp at h
 | a :: r, b :: s, h => by
   rw [List.map_cons, List.map_cons, List.cons_prefix_cons] at h
   rw [Ak, if_pos ((cmp_ok.zero b a).2 h.1.symm)]
   exact TP h.2
theorem NQ : ∀ {r s t : List Val}, r.map Val.clean <+: t.map Val.clean → Ak r s < 0 → Ak s t < 0 → r.map Val.clean <+: s.map Val.clean
 | [], s, t, _, _, _ => List.nil_prefix
 | a :: r, [], t, _, h, _ => by simp [Ak] at h
 | a :: r, b :: s, [], _, _, h => by simp [Ak] at h
 | a :: r, b :: s, c :: t, h, h1, h2 => by
   rw [List.map_cons, List.map_cons, List.cons_prefix_cons] at h
   rw [List.map_cons, List.map_cons, List.cons_prefix_cons]
   rw [Ak] at h1 h2
   have hab : a.cmp b = 0 := by
    apply Classical.byContradiction
    intro hne
    rw [if_neg hne] at h1
    have h3 := cmp_ok.left h.1 h1
    have h4 := (cmp_ok.anti c b).2
    have h5 := (cmp_ok.anti b c).1 h3
    rw [if_neg (by omega)] at h2
    omega
   have hbc : b.cmp c = 0 := (cmp_ok.zero b c).2 (((cmp_ok.zero a b).1 hab).symm.trans h.1)
   rw [if_pos hab] at h1
   rw [if_pos hbc] at h2
   exact ⟨(cmp_ok.zero a b).1 hab, NQ h.2 h1 h2⟩
theorem Ik {b : List Entry} {on : List (Int × Int)} {u : Entry} {x : Fe} (h : Fw b on u = some x) : ∃ key, DN u.row (on.map Prod.fst) = some key ∧ x = (BQ u, CO b (on.map Prod.snd) key) := by
 unfold Fw at h
 split at h
 ·cases h
 ·rename_i key hk
  split at h
  ·cases h
  ·simp only [Option.some.injEq] at h
   exact ⟨key, hk, h.symm⟩
def SR (x y : Fe) : Prop := ∃ u w : List Val, x.1.1 = Ao u ∧ y.1.1 = Ao w ∧ Ak u w < 0
theorem TQ {a : List Entry} (b : List Entry) (on : List (Int × Int)) (h : a.Pairwise eR) : (Dd a b on).Pairwise SR := by
 refine h.filterMap (Fw b on) fun u w huw x hx y hy => ?_
 obtain ⟨_, _, rfl⟩ := Ik hx
 obtain ⟨_, _, rfl⟩ := Ik hy
 exact ⟨u.row, w.row, rfl, rfl, huw⟩
theorem Rj {a : List Entry} (b : List Entry) (on : List (Int × Int)) (h : a.Pairwise eR) : InOrd (Dd a b on) := by
 have hS := TQ b on h
 refine ⟨hS.imp fun {x y} hxy q => ?_, fun d x0 t hd x hx y hy hp => ?_⟩
 ·obtain ⟨u, w, h1, h2, h3⟩ := hxy
  rw [h1, h2] at q
  exact TP (G3 q) h3
 ·rw [hd] at hS
  obtain ⟨_, g1, g2⟩ := List.pairwise_append.1 hS
  obtain ⟨u, v, e1, e2, e3⟩ := g2 x hx x0 (by simp)
  obtain ⟨v', w, f1, f2, f3⟩ := (List.pairwise_cons.1 g1).1 y hy
  have hvv : Ak v' w < 0 := f3
  have hvw : Ak v w < 0 := rowCmp_ok.left ((rowCmp_ok.zero _ _).1 (BY.1 (f1.symm.trans e2))) f3
  rw [e1, f2] at hp
  rw [e1, e2]
  exact NP (NQ (G3 hp) e3 hvw)
theorem Rk {row : List Val} (h : AQ row = true) (col : Int) : (EH row col).clean = EH row col := by
 simp only [AQ, Bool.and_eq_true, List.all_eq_true] at h
 have hn : Val.null.clean = Val.null := by unfold Val.clean; split <;> rfl
 unfold EH
 split
 ·exact hn
 ·split
  ·rename_i v hv
   rw [Val.clean, if_pos (h.2 v (List.mem_of_getElem? hv))]
  ·exact hn
theorem G4 {row : List Val} (h : AQ row = true) : ∀ {cs : List Int} {l : List Val}, BP row cs = some l → l.map Val.clean = l
 | [], l, hl => by simp [BP] at hl; subst hl; rfl
 | c :: cs, l, hl => by
   rw [BP] at hl
   split at hl
   ·cases hl
   ·cases hq : BP row cs with
    | none => rw [hq] at hl; cases hl
    | some m =>
      rw [hq] at hl
      simp at hl
      subst hl
      rw [List.map_cons, Rk h, G4 h hq]
theorem K6 (x y : List Val) : ∀ on : List (Int × Int), CG x y on = true ↔ ∃ l, BP x (on.map Prod.fst) = some l ∧ BP y (on.map Prod.snd) = some l
 | [] => by simp [CG, BP]
 | p :: on => by
   have ih := K6 x y on
   have e : CG x y (p :: on) = ((decide ((EH x p.1).kind ≠ 0) && Cp (EH x p.1) (EH y p.2)) && CG x y on) := by simp [CG]
   rw [e, Bool.and_eq_true, Bool.and_eq_true, ih, NO, List.map_cons, List.map_cons, BP, BP]
   constructor
   ·rintro ⟨⟨h1, h2⟩, l, h3, h4⟩
    simp only [decide_eq_true_eq] at h1
    rw [← h2, if_neg h1, if_neg h1, h3, h4]
    exact ⟨_, rfl, rfl⟩
   ·rintro ⟨l, h3, h4⟩
    split at h3
    ·cases h3
    ·rename_i hk
     split at h4
     ·cases h4
     ·cases h5 : BP x (on.map Prod.fst) with
      | none => rw [h5] at h3; cases h3
      | some m =>
        cases h6 : BP y (on.map Prod.snd) with
        | none => rw [h6] at h4; cases h4
        | some m' =>
          rw [h5] at h3
          rw [h6] at h4
          simp only [Option.map_some, Option.some.injEq] at h3 h4
          rw [← h4] at h3
          injection h3 with q1 q2
          exact ⟨⟨by simpa using hk, q1⟩, m, rfl, by rw [q2]⟩
theorem JW {x y : List Val} (hx : AQ x = true) (hy : AQ y = true) (on : List (Int × Int)) : CG x y on = true ↔ ∃ k, DN x (on.map Prod.fst) = some k ∧ DN y (on.map Prod.snd) = some k := by
 rw [K6]
 unfold DN
 constructor
 ·rintro ⟨l, h1, h2⟩
  exact ⟨Ao l, by rw [h1]; rfl, by rw [h2]; rfl⟩
 ·rintro ⟨k, h1, h2⟩
  cases h3 : BP x (on.map Prod.fst) with
  | none => rw [h3] at h1; cases h1
  | some l =>
    cases h4 : BP y (on.map Prod.snd) with
    | none => rw [h4] at h2; cases h2
    | some m =>
      rw [h3] at h1
      rw [h4] at h2
      simp only [Option.map_some, Option.some.injEq] at h1 h2
      have := E8 (h1.trans h2.symm)
      rw [G4 hx h3, G4 hy h4] at this
      exact ⟨l, rfl, by rw [this]⟩
theorem Qn (u : Entry) (on2 : List Int) (key : Bs) (r : List Val) : ∀ b : List Entry, T1 (BQ u) (CO b on2 key) (Ao r) = A8 ((b.filter fun y => decide (DN y.row on2 = some key)).map (Fy u)) r
 | [] => rfl
 | y :: b => by
   have ih := Qn u on2 key r b
   unfold CO at ih ⊢
   rw [List.filterMap_cons, List.filter_cons]
   by_cases h : DN y.row on2 = some key
   ·rw [if_pos h, if_pos (by simpa using h)]
    simp only [T1, List.map_cons, List.sum_cons, A8] at ih ⊢
    rw [ih]
    have he : ((BQ u).1 ++ (BQ y).1 = Ao r) ↔ Ak (Fy u y).row r = 0 := by
     show Ao u.row ++ Ao y.row = Ao r ↔ Ak (u.row ++ y.row) r = 0
     rw [← Ez, BY]
    by_cases hq : Ak (Fy u y).row r = 0
    ·rw [if_pos hq, if_pos (he.2 hq)]; rfl
    ·rw [if_neg hq, if_neg (fun z => hq (he.1 z))]
   ·rw [if_neg h, if_neg (by simpa using h)]
    exact ih
theorem Rl {a b : List Entry} (on : List (Int × Int)) (ha : ∀ e ∈ a, AQ e.row = true) (hb : ∀ e ∈ b, AQ e.row = true) (r : List Val) : TT (Dd a b on) (Ao r) = A8 (A7 a b on) r := by
 induction a with
 | nil => rfl
 | cons u a ih =>
   have ih := ih (fun e he => ha e (by simp [he]))
   have hu := ha u (by simp)
   have e1 : A7 (u :: a) b on = CH u b on ++ A7 a b on := by simp [A7]
   rw [e1, CQ, ← ih]
   unfold Dd
   rw [List.filterMap_cons]
   cases hk : DN u.row (on.map Prod.fst) with
   | none =>
     have hp : CH u b on = [] := by
      unfold CH
      rw [List.filter_eq_nil_iff.2]
      ·rfl
      ·intro y hy hm
       obtain ⟨k, h1, _⟩ := (JW hu (hb y hy) on).1 hm
       rw [hk] at h1; cases h1
     rw [hp]
     have hi : Fw b on u = none := by unfold Fw; rw [hk]
     rw [hi]
     simp [A8]
   | some key =>
     have hp : CH u b on = (b.filter fun y => decide (DN y.row (on.map Prod.snd) = some key)).map (Fy u) := by
      unfold CH
      congr 1
      apply List.filter_congr
      intro y hy
      rw [Bool.eq_iff_iff, JW hu (hb y hy), decide_eq_true_eq]
      constructor
      ·rintro ⟨k, h1, h2⟩
       rw [hk] at h1
       simp only [Option.some.injEq] at h1
       rw [h1]; exact h2
      ·intro h; exact ⟨key, hk, h⟩
     rw [hp, ← Qn]
     by_cases hpe : CO b (on.map Prod.snd) key = []
     ·have hi : Fw b on u = none := by unfold Fw; rw [hk]; simp only; rw [if_pos hpe]
      rw [hi, hpe]
      simp [T1]
     ·have hi : Fw b on u = some (BQ u, CO b (on.map Prod.snd) key) := by unfold Fw; rw [hk]; simp only; rw [if_neg hpe]
      rw [hi]
      simp [TT]
theorem Rm {a b : List Entry} {on : List (Int × Int)} {c : Bs} (h : TT (Dd a b on) c ≠ 0) : ∃ u ∈ a, ∃ y ∈ b, c = Ao (u.row ++ y.row) := by
 have hG : GG (Dd a b on) c := by
  apply Classical.byContradiction
  intro hn
  apply h
  unfold TT
  have : ∀ l : List Fe, ¬ GG l c → (l.map fun x => T1 x.1 x.2 c).sum = 0 := by
   intro l
   induction l with
   | nil => intro _; rfl
   | cons x l ih =>
     intro hl
     have h1 : ¬ G1 x.1 x.2 c := fun q => hl ⟨x, by simp, q⟩
     have h2 : ¬ GG l c := fun ⟨y, hy, q⟩ => hl ⟨y, by simp [hy], q⟩
     have h3 : T1 x.1 x.2 c = 0 := by
      unfold T1
      have : ∀ ps : List (Bs × Int), (∀ y ∈ ps, x.1.1 ++ y.1 ≠ c) → (ps.map fun y => if x.1.1 ++ y.1 = c then x.1.2 * y.2 else 0).sum = 0 := by
       intro ps
       induction ps with
       | nil => intro _; rfl
       | cons y ps ih2 => intro hps; rw [List.map_cons, List.sum_cons, ih2 (fun z hz => hps z (by simp [hz])), if_neg (hps y (by simp))]; rfl
      exact this _ fun y hy q => h1 ⟨y, hy, q⟩
     rw [List.map_cons, List.sum_cons, ih h2, h3]; rfl
  exact this _ hn
 obtain ⟨x, hx, y, hy, hc⟩ := hG
 obtain ⟨u, hu, hi⟩ := List.mem_filterMap.1 hx
 obtain ⟨key, _, rfl⟩ := Ik hi
 obtain ⟨z, hz, rfl, _⟩ := Ih hy
 exact ⟨u, hu, z, hz, by rw [Ez]; exact hc.symm⟩
theorem K7 {α : Type} [DecidableEq α] : ∀ {l m : List α}, l.Nodup → (∀ x ∈ l, x ∈ m) → l.length ≤ m.length
 | [], m, _, _ => Nat.zero_le _
 | x :: l, m, h, hs => by
   obtain ⟨h1, h2⟩ := List.nodup_cons.1 h
   have hx := hs x (by simp)
   have := K7 (l := l) (m := m.erase x) h2 fun y hy => (List.mem_erase_of_ne (by rintro rfl; exact h1 hy)).2 (hs y (by simp [hy]))
   rw [List.length_erase_of_mem hx] at this
   have hpos := List.length_pos_of_mem hx
   rw [List.length_cons]; omega
theorem TR {α β : Type} {f : α → β} {P : α → Prop} : ∀ {l : List β}, (∀ y ∈ l, ∃ x, f x = y ∧ P x) → ∃ xs : List α, xs.map f = l ∧ ∀ x ∈ xs, P x
 | [], _ => ⟨[], rfl, by simp⟩
 | y :: l, h => by
   obtain ⟨x, hx, hp⟩ := h y (by simp)
   obtain ⟨xs, h1, h2⟩ := TR (l := l) (fun z hz => h z (by simp [hz]))
   exact ⟨x :: xs, by rw [List.map_cons, hx, h1], fun z hz => by
    rcases List.mem_cons.1 hz with rfl | hz
    ·exact hp
    ·exact h2 z hz⟩
theorem NR : ∀ {l : List Fe} {q q' : JS}, Gx l q = some q' → q.2.2.length ≤ 4096 → q'.2.2.length ≤ 4096
 | [], q, q', h, hq => by simp only [Gx, Option.some.injEq] at h; subst h; exact hq
 | x :: l, q, q', h, hq => by
   rw [Gx, Qm] at h
   cases hc : closeE x.1.1 q.1.reverse q.2.1 q.2.2 with
   | none => rw [hc] at h; cases h
   | some z =>
     obtain ⟨st', s', r'⟩ := z
     rw [hc] at h
     exact NR h (Dc hc hq).2.2.2
theorem TS {l : List Fe} {r : List (Bs × Int)} (h : Pj l = some r) : r.length ≤ 4096 := by
 unfold Pj at h
 cases hq : Gx l ([], [], []) with
 | none => rw [hq] at h; cases h
 | some q =>
   rw [hq] at h
   simp only at h
   cases hc : closeE [] q.1.reverse q.2.1 q.2.2 with
   | none => rw [hc] at h; cases h
   | some z =>
     obtain ⟨st', s', r'⟩ := z
     rw [hc] at h
     simp only [Option.some.injEq] at h
     subst h
     exact (Dc hc (NR hq (by simp))).2.2.2
theorem NS {a b : List Entry} (ha : ∀ e ∈ a, AQ e.row = true ∧ e.row.length ≤ 8 ∧ e.count ≠ 0) (hb : ∀ e ∈ b, AQ e.row = true ∧ e.row.length ≤ 8 ∧ e.count ≠ 0) {u y : Entry} (hu : u ∈ a) (hy : y ∈ b) : AQ (u.row ++ y.row) = true ∧ u.count * y.count ≠ 0 := by
 obtain ⟨h1, h2, h3⟩ := ha u hu
 obtain ⟨h4, h5, h6⟩ := hb y hy
 simp only [AQ, Bool.and_eq_true, decide_eq_true_eq] at h1 h4 ⊢
 refine ⟨⟨by simp; omega, by rw [List.all_append, h1.2, h4.2]; rfl⟩, fun q => ?_⟩
 rcases Int.mul_eq_zero.1 q with q | q
 ·exact h3 q
 ·exact h6 q
theorem Rn (l : List Entry) : (l.all fun e => decide (-262144 ≤ e.count ∧ e.count ≤ 262144)) = l.all fun e => Az e.count := by
 congr 1
 funext e
 simp [Az]
theorem Ro {a b : List Entry} (on : List (Int × Int)) (ha : Bx a = true) (hb : Bx b = true) :
   match NK a b on with
   | none => CI (sumR (A7 a b on)) = ([], 8)
   | some r => ∃ rs : List Entry, r = rs.map BQ ∧ (∀ e ∈ rs, AQ e.row = true) ∧ CI (sumR (A7 a b on)) = if rs.all (fun e => Az e.count) then (sortF DB rs, 0) else ([], 9) := by
 obtain ⟨_, am⟩ := Df ha
 obtain ⟨_, bm⟩ := Df hb
 have am1 : ∀ e ∈ a, AQ e.row = true ∧ e.row.length ≤ 8 ∧ e.count ≠ 0 := fun e he => ⟨(am e he).1, (am e he).2.2⟩
 have bm1 : ∀ e ∈ b, AQ e.row = true ∧ e.row.length ≤ 8 ∧ e.count ≠ 0 := fun e he => ⟨(bm e he).1, (bm e he).2.2⟩
 have hva : Al a = true := by unfold Bx at ha; simp only [Bool.and_eq_true] at ha; exact ha.2
 have hO := Rj b on (Fu hva).up
 have hsum := Rl on (fun e he => (am e he).1) (fun e he => (bm e he).1)
 have hpc : ∀ e ∈ A7 a b on, AQ e.row = true ∧ e.count ≠ 0 := fun e he => by
   obtain ⟨x, hx, y, hy, _, rfl⟩ := Lf he
   exact NS am1 bm1 hx hy
 have hsr := RD (A7 a b on) fun e he => (hpc e he).2
 obtain ⟨s1, s2⟩ := CJ (A7 a b on) fun e he => BD (hpc e he).1
 have hrow : ∀ r : List (Bs × Int), Pi (TT (Dd a b on)) r → ∃ rs : List Entry, rs.map BQ = r ∧ ∀ e ∈ rs, AQ e.row = true ∧ e.count ≠ 0 ∧ A8 (A7 a b on) e.row = e.count := fun r hr => by
   refine TR fun e he => ?_
   obtain ⟨h1, h2⟩ := hr.2 e he
   obtain ⟨u, hu, y, hy, hc⟩ := Rm (h1 ▸ h2)
   refine ⟨⟨u.row ++ y.row, e.2⟩, ?_, (NS am1 bm1 hu hy).1, h2, ?_⟩
   · show (Ao (u.row ++ y.row), e.2) = e
     rw [← hc]
   · rw [← hsum, ← hc, ← h1]
 have hF := Ri hO
 rw [XI]
 cases hq : Pj (Dd a b on) with
 | none =>
   rw [hq] at hF
   obtain ⟨r, hl, hr⟩ := hF
   obtain ⟨rs, h1, h2⟩ := hrow r hr
   have hle : r.length ≤ (sortE (A7 a b on)).length := by
     have := K7 (l := r.map Prod.fst) (m := (sortE (A7 a b on)).map fun e => Ao e.row) hr.1 fun c hc => by
      rw [← h1, List.map_map] at hc
      obtain ⟨e, he, rfl⟩ := List.mem_map.1 hc
      obtain ⟨_, q2, q3⟩ := h2 e he
      rw [← s2] at q3
      obtain ⟨x, hx, hz⟩ := I9 (l := sortE (A7 a b on)) (r := e.row) (by rw [q3]; exact q2)
      exact List.mem_map.2 ⟨x, hx, BY.2 hz⟩
     simpa using this
   simp only
   unfold CI
   rw [hsr, if_pos (by omega)]
 | some r =>
   rw [hq] at hF
   obtain ⟨hr, hall⟩ := hF
   obtain ⟨rs, h1, h2⟩ := hrow r hr
   have hap : apart rs := by
     have hn := hr.1
     rw [← h1, List.map_map] at hn
     unfold apart
     rw [List.nodup_iff_pairwise_ne, List.pairwise_map] at hn
     exact hn.imp fun {x y} q z => q (BY.2 z)
   have hsu : ∀ ρ, A8 rs ρ = A8 (A7 a b on) ρ := fun ρ => by
     by_cases hex : ∃ e ∈ rs, Ak e.row ρ = 0
     ·obtain ⟨e, he, hz⟩ := hex
      rw [HM hap he hz, ← (h2 e he).2.2, ← hsum, ← hsum, BY.2 hz]
     ·rw [Is fun e he z => hex ⟨e, he, z⟩]
      apply Classical.byContradiction
      intro hne
      rw [← hsum] at hne
      have hm := hall _ (fun z => hne z.symm)
      rw [← h1] at hm
      obtain ⟨e, he, hee⟩ := List.mem_map.1 hm
      exact hex ⟨e, he, BY.1 (congrArg Prod.fst hee)⟩
   have hso := Ka (fun e he => BD (hpc e he).1) hap (fun e he => (h2 e he).2.1) (fun e he => BD (h2 e he).1) hsu
   have hperm := BM entCmp_ok.swo rs
   refine ⟨rs, h1.symm, fun e he => (h2 e he).1, ?_⟩
   have hlen := TS hq
   rw [← h1, List.length_map] at hlen
   unfold CI
   rw [hsr, ← hso, if_neg (by rw [hperm.length_eq]; omega), Rn, hperm.all_eq]
end Go.Proofs.YtmpgmjlanngkfaaGreat
end
