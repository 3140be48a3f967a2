/-
  DeltaTouched: the law returns true.
-/
import Derived.Test.YtmpgmjlanngkfaaGreatArz
import Derived.Test.YtmpgmjlanngkfaaGreatTpo
import Derived.Test.YtmpgmjlanngkfaaGreatTex
import Derived.Test.YtmpgmjlanngkfaaGreatXca
import Derived.Test.YtmpgmjlanngkfaaGreatBso
import Derived.Test.YtmpgmjlanngkfaaGreatTkg
import Derived.Test.YtmpgmjlanngkfaaGreatXct
import Derived.Test.YtmpgmjlanngkfaaGreatAgt
section
namespace Go.Proofs.YtmpgmjlanngkfaaGreat
open Go.Abs Go.RowKit
attribute [local irreducible] ARun Aq MCall PCall HCall Am SF CF CFs Af Al Ap B5 AW VLe
set_option linter.unusedSimpArgs false
set_option maxRecDepth 100000
set_option maxHeartbeats 4000000
theorem Te {f : List Val → Int} (hf : ∀ r, 0 ≤ f r) : ∀ {l : List Entry}, (∀ e ∈ l, 0 < e.count) → 0 ≤ wS f l
 | [], _ => Int.le_refl _
 | e :: l, h => by
   have h1 := Te hf (l := l) fun x hx => h x (by simp [hx])
   have h2 := Ys (show (0 : Int) ≤ e.count by have := h e (by simp); omega) (hf e.row)
   rw [wS]; omega
theorem Xf (t : Tape) (w n : Nat) (ht : t.ok) (hw : w ≤ 16) (hn : n ≤ 999) : ∃ (b : List Entry) (t' : Tape), t'.ok ∧ Tiny (3 * n) w b ∧ (∀ e ∈ b, 0 < e.count) ∧
  ((b = [] ∧ HC 11 [.c (.bp 0 0 0), (iC (w : Int)), (iC (n : Int)), .c (.d (.lit (.bool false)))] [(tB t)] (.c .emp) [(tB t'), .dead]) ∨
  HC 11 [.c (.bp 0 0 0), (iC (w : Int)), (iC (n : Int)), .c (.d (.lit (.bool false)))] [(tB t)] (.c (.arr 2 1 b.length)) [(tB t'), .dead, .arr 1 56 2 (b.map Entry.d)]) := by
 obtain ⟨b, t', ok, ⟨h1, _, h3⟩, h⟩ := WU t w n false ht hw hn
 exact ⟨b, t', ok, h1, h3 rfl, h⟩
theorem Rm {b l0 : List Entry} {A w : Nat} (hb : Tiny A w b) (pb : ∀ e ∈ b, 0 < e.count) (hA : A ≤ 1000000) (t0 : Tape) (ok0 : t0.ok) : ∀ k : Nat, k ≤ b.length → ∃ (f : Nat → List Entry) (ts : Nat → Tape), f 0 = l0 ∧ ts 0 = t0 ∧ (ts k).ok ∧
   (∀ i e, i < k → b[i]? = some e → ∃ (z : Nat) (t2 : Tape), z < 3 ∧ HC 30 [.c (.bp 0 0 0), .c (.d (.lit (.int .i64 3)))] [(tB ((ts i)))] (iC z) [(tB t2)] ∧
     ((z ≠ 0 ∧ f (i + 1) = f i ∧ ts (i + 1) = t2) ∨ (z = 0 ∧ ∃ q : Nat, (q : Int) < e.count ∧ f (i + 1) = f i ++ [⟨e.row, -(1 + (q : Int))⟩] ∧ HC 30 [.c (.bp 0 0 0), .c (.d (.lit (.int .i64 e.count)))] [(tB t2)] (iC q) [(.box 0 [.d (DW ((ts (i + 1))).l), .d (.lit (.int .i64 ((ts (i + 1))).at_))])]))) ∧
   (∀ i, i ≤ k → (f i).length ≤ l0.length + i ∧ (∀ e ∈ f i, e ∈ l0 ∨ (A7 e.row = true ∧ e.row.length = w ∧ -1000000 ≤ e.count ∧ e.count ≤ 0)) ∧ BE (f i) ≤ BE l0 + BE (b.take i) ∧ ∀ g : List Val → Int, (∀ r, 0 ≤ g r) → wS g l0 ≤ wS g (b.take i) + wS g (f i)) := by
 intro k
 induction k with
 | zero =>
   intro _
   refine ⟨fun _ => l0, fun _ => t0, rfl, rfl, ok0, fun i _ hi => by omega, fun i hi => ?_⟩
   obtain rfl : i = 0 := by omega
   exact ⟨by simp, fun e he => .inl he, by simp [BE], fun g _ => by simp [wS]⟩
 | succ k ih =>
   intro hk
   obtain ⟨f, ts, e0, e1, okk, hf, hp⟩ := ih (by omega)
   obtain ⟨z, t2, ok2, hz, n2⟩ := CI (ts k) 3 okk (by omega) (by omega)
   have hv : b[k]? = some b[k] := Bi (by omega)
   have hme : b[k] ∈ b := Gl (by omega)
   have hpe := pb _ hme
   have hae := Gj hme
   have hs := hb.s
   have hro := ((AG hb.v).2 _ hme).1
   have hwi := hb.w _ hme
   have htk : b.take (k + 1) = b.take k ++ [b[k]] := by rw [KL, hv]; rfl
   generalize b[k] = e at hv hme hpe hae hro hwi htk
   obtain ⟨q1, q2, q3, q4⟩ := hp k (Nat.le_refl _)
   obtain ⟨c, hc⟩ := T9 (show 0 ≤ e.count by omega)
   by_cases hz0 : z = 0
   · obtain ⟨q, t3, ok3, hq, n3⟩ := CI t2 c ok2 (by omega) (by omega)
     rw [← hc] at n3
     refine ⟨fun i => if i = k + 1 then f k ++ [⟨e.row, -(1 + (q : Int))⟩] else f i, fun i => if i = k + 1 then t3 else ts i, by simp [e0], by simp [e1], by simp [ok3], fun i x hi hx => ?_, fun i hi => ?_⟩
     · by_cases him : i = k
       ·subst him
        rw [hv] at hx
        cases hx
        refine ⟨z, t2, hz, ?_, .inr ⟨hz0, q, by omega, ?_, ?_⟩⟩
        ·simp only [show ¬ i = i + 1 by omega, if_false]; exact n2
        ·simp only [show ¬ i = i + 1 by omega, if_false, if_true]
        ·simp only [if_true]; exact n3
       ·have := hf i x (by omega) hx
        simp only [show ¬ i = k + 1 by omega, show ¬ i + 1 = k + 1 by omega, if_false]
        exact this
     · by_cases him : i = k + 1
       ·subst him
        simp only [if_true]
        refine ⟨by simp; omega, fun x hx => ?_, ?_, fun g hg => ?_⟩
        ·rcases Gn.1 hx with hx | hx
         ·exact q2 x hx
         ·obtain rfl := OP.1 hx
          exact .inr ⟨hro, hwi, by show (-1000000 : Int) ≤ -(1 + (q : Int)); omega, by show -(1 + (q : Int)) ≤ 0; omega⟩
        ·rw [htk, DQ, DQ]
         have : (-(1 + (q : Int))).natAbs ≤ e.count.natAbs := by omega
         simp only [BE]; omega
        ·have h1 := q4 g hg
         have h2 := Ys (show (0 : Int) ≤ e.count + -(1 + (q : Int)) by omega) (hg e.row)
         rw [htk, Fa, Fa]
         simp only [wS]
         rw [Int.add_mul] at h2
         omega
       ·simp only [him, if_false]
        exact hp i (by omega)
   · refine ⟨fun i => if i = k + 1 then f k else f i, fun i => if i = k + 1 then t2 else ts i, by simp [e0], by simp [e1], by simp [ok2], fun i x hi hx => ?_, fun i hi => ?_⟩
     · by_cases him : i = k
       ·subst him
        refine ⟨z, t2, hz, ?_, .inl ⟨hz0, ?_, ?_⟩⟩
        ·simp only [show ¬ i = i + 1 by omega, if_false]; exact n2
        ·simp only [show ¬ i = i + 1 by omega, if_false, if_true]
        ·simp only [if_true]
       ·have := hf i x (by omega) hx
        simp only [show ¬ i = k + 1 by omega, show ¬ i + 1 = k + 1 by omega, if_false]
        exact this
     · by_cases him : i = k + 1
       ·subst him
        simp only [if_true]
        refine ⟨by omega, q2, ?_, fun g hg => ?_⟩
        ·rw [htk, DQ]; omega
        ·have h1 := q4 g hg
         have h2 := Ys (show (0 : Int) ≤ e.count by omega) (hg e.row)
         rw [htk, Fa]
         simp only [wS]
         omega
       ·simp only [him, if_false]
        exact hp i (by omega)
theorem Pv (t : Tape) (b : List Entry) (A w : Nat) (ht : t.ok) (hb : Tiny A w b) (pb : ∀ e ∈ b, 0 < e.count) (hw : w ≤ 16) (hA : A ≤ 1000) : ∃ (d : List Entry) (t' : Tape), t'.ok ∧ (Tiny (12 + A) w d ∧ d.length ≤ 12 + b.length) ∧ (∀ g : List Val → Int, (∀ r, 0 ≤ g r) → 0 ≤ wS g b + wS g d) ∧ HC 16 [.c (.bp 0 0 0), .c (.d (Ao b)), (iC (w : Int))] [(tB t)] (.c (.d (Ao d))) [(tB t')] := by
 obtain ⟨l0, t1, ok1, T0, p0, hbag⟩ := Xf t w 4 ht hw (by omega)
 obtain ⟨f, ts, e0, e1, okn, hf, hp⟩ := Rm (l0 := l0) hb pb (by omega) t1 ok1 b.length (Nat.le_refl _)
 have hlb := hb.len9
 have hl0 := T0.len9
 have hfl : ∀ i, i ≤ b.length → (f i).length ≤ 2000 := fun i hi => by have := (hp i hi).1; omega
 obtain ⟨q1, q2, q3, q4⟩ := hp b.length (Nat.le_refl _)
 rw [Ag (Nat.le_refl _)] at q3 q4
 have hs0 := T0.s
 have hsb := hb.s
 have hrow : ∀ e ∈ f b.length, A7 e.row = true ∧ e.row.length = w := fun e he => by
  rcases q2 e he with h | h
  ·exact ⟨((AG T0.v).2 e h).1, T0.w e h⟩
  ·exact ⟨h.1, h.2.1⟩
 have hs : BE (f b.length) ≤ 12 + A := by omega
 obtain ⟨t1', t2'⟩ := Mv (fun e he => (hrow e he).1) (fun e he => (hrow e he).2) hs (by omega)
 have hlen := (AG t1'.v).1
 have hN : A9 (f b.length) = (sortE (f b.length), 0) := by
  have hall : (f b.length).all AU = true := Ec.2 fun e he => by
   have h1 := Gj he
   simp only [AU, AH, BO, decide_eq_true_eq]
   exact ⟨(hrow e he).1, by omega, by omega⟩
  rw [A9, if_pos hall, AQ, if_neg (by omega), if_pos]
  refine Ec.2 fun e he => ?_
  have h1 := t2' e he
  simp only [AH, BO, decide_eq_true_eq]
  omega
 have hsl := GF (f b.length)
 refine ⟨sortE (f b.length), ts b.length, okn, ⟨t1', by omega⟩, fun g hg => ?_, ?_⟩
 ·rw [TQ _ _ fun e he => B7 (hrow e he).1]
  have h1 := q4 g hg
  have h2 := Te hg p0
  omega
 have hnc := IQ (f b.length) (by have := hfl b.length (Nat.le_refl _); omega)
 rw [hN] at hnc
 dsimp only at hnc
 generalize sortE (f b.length) = D at hnc
 have hcnt : ∀ e ∈ b, -1000000 ≤ e.count ∧ e.count ≤ 1000000 := fun e he => by have := Gj he; omega
 clear hsl hp q1 q2 q3 q4 hs0 hsb hrow hs t1' t2' hlen hN hb T0 p0 hl0 okn
 have hbl : b.length ≤ 1000 := by omega
 subst e0
 rw [← e1] at hbag
 rcases hbag with ⟨hnil, cb⟩ | cb
 ·have hl0 : (f 0).length = 0 := by rw [hnil]; rfl
  refine AF hT Tryz.func16 Tryz.ntmps16 [.tmp 6] fun B => ?_
  repeat' first | refine kz ?_ | refine As ?_ | refine Ak [0] (cb) ?_ | refine kg ?_ ?_ | exact k0 | refine Ab ?_ | refine m1 ?_ ?_
  refine CN 7 56 2 ?_
  refine AY (X := Nat × Nat × Tape) ([7, 8] ++ List.range' 14 27) (fun x => x.1 ≤ b.length ∧ x.2.2 = ts x.1) (fun x lz => (7, .c (.arr 2 x.2.1 (f x.1).length)) :: (8, (iC x.1)) :: lz) (fun x => [(tB x.2.2), .dead, .arr x.2.1 56 2 ((f x.1).map Entry.d)]) (fun x => b.length - x.1) ((0, 2, ts 0)) ?_ ?_ ?_ ?_
  repeat' first | exact k0 | refine kw ?_ | refine kv ?_ ?_ | omega
  all_goals try (first | rfl | exact ⟨Nat.zero_le _, rfl⟩ | (dsimp only; rw [hnil]; rfl))
  rintro ⟨i, v, T'⟩ c ⟨hi, hT'⟩
  dsimp only at hi hT' ⊢
  by_cases hlt : i < b.length
  ·have hv : b[i]? = some b[i] := Bi hlt
   have hce := hcnt _ (Gl hlt)
   have hfi := hfl i hi
   generalize b[i] = e at hv hce
   obtain ⟨z, t2, hz, n2, hst⟩ := hf i e hlt hv
   rw [← hT'] at n2
   clear hf hfl hnc
   have hdl : ((f i).map Entry.d).length = (f i).length := BT _
   rcases hst with ⟨hz0, hfs, hts⟩ | ⟨rfl, q, hq, hfs, n3⟩
   ·repeat' first | refine kz ?_ | refine As ?_ | refine Ak [0] (n2) ?_ | refine kg ?_ ?_ | exact k0 | refine Ab ?_ | refine m1 ?_ ?_
    apply Ae ((i + 1, v, t2)) <;> (try dsimp only) <;> try repeat' first | exact k0 | refine kw ?_ | refine kv ?_ ?_ | omega
    all_goals first
     | exact ⟨by omega, hts.symm⟩
     | (rw [hfs]; done)
     | (rw [hfs])
     | skip
   ·have hs : (f i).map Entry.d ++ [[BS e.row, .lit (.int .i64 (-(1 + (q : Int))))]] = (f (i + 1)).map Entry.d := by rw [hfs]; simp [Entry.d]
    have hl2 : (f (i + 1)).length = (f i).length + 1 := by rw [hfs]; simp
    generalize hZ : (f (i + 1)).map Entry.d = Z at hs
    generalize hq2 : ts (i + 1) = T2 at n3
    generalize (f i).map Entry.d = A at hs hdl ⊢
    generalize (f i).length = m at hfi hdl hl2 ⊢
    refine V3 2 fun hr => ?_
    refine Tn ?_
    repeat' first | refine P6 (dr := true) 0 n3 ?_ | (refine To (dr := true) (ei := RK) (k := v) (es := A) (ys := [[BS e.row, .lit (.int .i64 (-(1 + (q : Int))))]]) (es' := Z) 2 (c + 1) (j := m) (m := m + 1) ?_ (by omega) (by omega) (by omega) rfl (by simp only [maxLen]; omega) (by simp only [RK]; omega) (AJ rfl Bb) (by rw [Ag (by omega)]; exact hs)) | refine kz ?_ | refine AT hv ?_ | refine As ?_ | refine Ak [0] (n2) ?_ | refine Bd Ac ?_ ?_ | exact k0 | refine Ab ?_ | refine m1 ?_ ?_
    apply Ae ((i + 1, c + 1, T2)) <;> (try dsimp only) <;> try repeat' first | exact k0 | refine kw ?_ | refine kv ?_ ?_ | omega
    all_goals first
     | exact ⟨by omega, hq2.symm⟩
     | exact hZ.symm
     | (rw [hl2])
     | skip
  ·obtain rfl : i = b.length := by omega
   rw [hT']
   have hdl : ((f b.length).map Entry.d).length = (f b.length).length := BT _
   clear hf hfl
   generalize f b.length = L at hnc hdl ⊢
   repeat' first | refine A8 (r := 2) (m := L.length) (es1 := L.map Entry.d) 7 ?_ (hl := by omega) (hes := Ag (by omega)) | refine kz ?_ | refine As ?_ | refine Aa (hnc) ?_ | refine Bd Ac ?_ ?_ | exact k0 | refine Ab ?_ | refine m1 ?_ ?_
   all_goals rfl
 ·skip
  refine AF hT Tryz.func16 Tryz.ntmps16 [.tmp 6] fun B => ?_
  repeat' first | refine kz ?_ | refine As ?_ | refine Ak [0] (cb) ?_ | refine kg ?_ ?_ | exact k0 | refine Ab ?_ | refine m1 ?_ ?_
  refine AY (X := Nat × Nat × Tape) ([7, 8] ++ List.range' 14 27) (fun x => x.1 ≤ b.length ∧ x.2.2 = ts x.1) (fun x lz => (7, .c (.arr 2 x.2.1 (f x.1).length)) :: (8, (iC x.1)) :: lz) (fun x => [(tB x.2.2), .dead, .arr x.2.1 56 2 ((f x.1).map Entry.d)]) (fun x => b.length - x.1) ((0, 1, ts 0)) ?_ ?_ ?_ ?_
  repeat' first | exact k0 | refine kw ?_ | refine kv ?_ ?_ | omega
  all_goals try (first | rfl | exact ⟨Nat.zero_le _, rfl⟩ | (dsimp only; rw [hnil]; rfl))
  rintro ⟨i, v, T'⟩ c ⟨hi, hT'⟩
  dsimp only at hi hT' ⊢
  by_cases hlt : i < b.length
  ·have hv : b[i]? = some b[i] := Bi hlt
   have hce := hcnt _ (Gl hlt)
   have hfi := hfl i hi
   generalize b[i] = e at hv hce
   obtain ⟨z, t2, hz, n2, hst⟩ := hf i e hlt hv
   rw [← hT'] at n2
   clear hf hfl hnc
   have hdl : ((f i).map Entry.d).length = (f i).length := BT _
   rcases hst with ⟨hz0, hfs, hts⟩ | ⟨rfl, q, hq, hfs, n3⟩
   ·repeat' first | refine kz ?_ | refine As ?_ | refine Ak [0] (n2) ?_ | refine kg ?_ ?_ | exact k0 | refine Ab ?_ | refine m1 ?_ ?_
    apply Ae ((i + 1, v, t2)) <;> (try dsimp only) <;> try repeat' first | exact k0 | refine kw ?_ | refine kv ?_ ?_ | omega
    all_goals first
     | exact ⟨by omega, hts.symm⟩
     | (rw [hfs]; done)
     | (rw [hfs])
     | skip
   ·have hs : (f i).map Entry.d ++ [[BS e.row, .lit (.int .i64 (-(1 + (q : Int))))]] = (f (i + 1)).map Entry.d := by rw [hfs]; simp [Entry.d]
    have hl2 : (f (i + 1)).length = (f i).length + 1 := by rw [hfs]; simp
    generalize hZ : (f (i + 1)).map Entry.d = Z at hs
    generalize hq2 : ts (i + 1) = T2 at n3
    generalize (f i).map Entry.d = A at hs hdl ⊢
    generalize (f i).length = m at hfi hdl hl2 ⊢
    refine V3 2 fun hr => ?_
    refine Tn ?_
    repeat' first | refine P6 (dr := true) 0 n3 ?_ | (refine To (dr := true) (ei := RK) (k := v) (es := A) (ys := [[BS e.row, .lit (.int .i64 (-(1 + (q : Int))))]]) (es' := Z) 2 (c + 1) (j := m) (m := m + 1) ?_ (by omega) (by omega) (by omega) rfl (by simp only [maxLen]; omega) (by simp only [RK]; omega) (AJ rfl Bb) (by rw [Ag (by omega)]; exact hs)) | refine kz ?_ | refine AT hv ?_ | refine As ?_ | refine Ak [0] (n2) ?_ | refine Bd Ac ?_ ?_ | exact k0 | refine Ab ?_ | refine m1 ?_ ?_
    apply Ae ((i + 1, c + 1, T2)) <;> (try dsimp only) <;> try repeat' first | exact k0 | refine kw ?_ | refine kv ?_ ?_ | omega
    all_goals first
     | exact ⟨by omega, hq2.symm⟩
     | exact hZ.symm
     | (rw [hl2])
     | skip
  ·obtain rfl : i = b.length := by omega
   rw [hT']
   have hdl : ((f b.length).map Entry.d).length = (f b.length).length := BT _
   clear hf hfl
   generalize f b.length = L at hnc hdl ⊢
   repeat' first | refine A8 (r := 2) (m := L.length) (es1 := L.map Entry.d) 7 ?_ (hl := by omega) (hes := Ag (by omega)) | refine kz ?_ | refine As ?_ | refine Aa (hnc) ?_ | refine Bd Ac ?_ ?_ | exact k0 | refine Ab ?_ | refine m1 ?_ ?_
   all_goals rfl
theorem Rn (t : Tape) (b : List Entry) (A w : Nat) (ht : t.ok) (hb : Tiny A w b) (pb : ∀ e ∈ b, 0 < e.count) (hw : w ≤ 16) (hA : A ≤ 1000) : ∃ (d : List Entry) (t' : Tape), t'.ok ∧ Tiny (12 + A) w d ∧ (∀ g : List Val → Int, (∀ r, 0 ≤ g r) → 0 ≤ wS g b + wS g d) ∧ HC 16 [.c (.bp 0 0 0), .c (.d (Ao b)), (iC (w : Int))] [(tB t)] (.c (.d (Ao d))) [(tB t')] := by
 obtain ⟨d, t', ok', ⟨h1, _⟩, h2, h3⟩ := Pv t b A w ht hb pb hw hA
 exact ⟨d, t', ok', h1, h2, h3⟩
theorem Vm (l : List (List Val)) (r : List Val) (h : r ∈ l) (hl : l.length ≤ 1000000) : PC 25 [.one (Xu l), .one (BS r)] (.v (.one (.lit (.bool true)))) := by
 refine Ad hT Tryz.func25 Tryz.ntmps25 [.tmp 4] fun B => ?_
 repeat' first | refine Go.Abs.ks ?_ | refine ko ?_ | refine As ?_ | refine Ay Ac ?_ | refine BB ?_
 refine AY (X := Nat) (List.range' 4 14) (fun x => x ≤ l.length ∧ (∀ i q, i < x → l[i]? = some q → q ≠ r)) (fun x lz => (5, (iC x)) :: lz) (fun x => []) (fun x => l.length - x) (0) ?_ ?_ ?_ ?_
 repeat' first | exact k0 | refine kw ?_ | omega
 all_goals try exact ⟨Nat.zero_le _, fun i q hi => by omega⟩
 rintro i c ⟨hi, hinv⟩
 by_cases hlt : i < l.length
 ·obtain ⟨q, hv⟩ := gx hlt
  have hs := Kj q r
  have hv1 : (l.map rD)[i]? = some [BS q] := by rw [Ci, hv]; rfl
  cases hq : Br q r
  ·rw [hq] at hs
   repeat' first | refine Go.Abs.ks ?_ | refine ko ?_ | refine AT hv1 ?_ | refine As ?_ | refine Aa (hs) ?_ | refine Ay Ac ?_ | refine BB ?_
   apply Ae (i + 1) <;> (try dsimp only) <;> try repeat' first | exact k0 | refine kw ?_ | omega
   refine ⟨by omega, fun j p hj hp => ?_⟩
   by_cases hji : j = i
   ·subst hji
    rw [hv] at hp
    cases hp
    rintro rfl
    rw [Fz] at hq
    cases hq
   ·exact hinv j p (by omega) hp
  ·rw [hq] at hs
   repeat' first | refine Go.Abs.ks ?_ | refine ko ?_ | refine AT hv1 ?_ | refine As ?_ | refine Aa (hs) ?_ | refine Ay Ac ?_ | refine BB ?_
   all_goals rfl
 ·obtain ⟨i2, hi2⟩ := Mz.1 h
  exact absurd rfl (hinv i2 r (by have := lt_of_getElem? hi2; omega) hi2)
theorem YO {P : Program} {B : Base} {os : Array Oper} {d : Bool} {σ : St} {Q : Ex → St → Prop} (h : ARun P B (.region 5 os d) σ Q) : ARun P B (.region 5 os d) σ Q := h
theorem Mj (t : List Int) (ht : t.length ≤ 17592186044416) : PC 8 [.one (DW t)] (.v (.one (.lit (.bool true)))) := by
 have hnew := YZ t ht
 have hok : (Tape.mk t 0).ok := ⟨ht, by simp⟩
 have haw := QZ
 obtain ⟨a, t1, ok1, -, -, -, ta, pa, c1⟩ := Xy ⟨t, 0⟩ 3 8 hok (by omega) (by omega)
 obtain ⟨d, t2, ok2, td, hf, c2⟩ := Rn t1 a (3 * 8) 3 ok1 ta pa (by omega) (by omega)
 obtain ⟨ks, t3, ok3, lk, c3⟩ := Xw t2 2 3 ok2 (by omega) (by omega) (by omega)
 obtain ⟨ag, t4, ok4, la, -, c4⟩ := Xx t3 2 3 ok3 (by omega) (by omega) (by omega)
 obtain ⟨ex, t5, ok5, lx, hx, c5⟩ := TP t4 3 3 ok4 (by omega) (by omega) (by omega)
 have h8 : ks.length + (⟨⟨#[]⟩, 0, []⟩ :: ag : List Agg).length ≤ 8 := by simp; omega
 have h8x : ks.length + ex.length ≤ 8 := by omega
 obtain ⟨X, vX, hX, lX, g1⟩ := NC ta td pa hf (by omega) h8
 have g2 := LX ta td pa hf (by omega) h8
 obtain ⟨s, -, hadd, ts, -, hw⟩ := SE ta td hf (by omega)
 have g3 := JG a ks ex (by omega) (by omega)
 rw [FC ta h8x hx] at g3
 have g4 := QW (FM ex (Ax ks) a) d ks ex (by omega) (by omega)
 rw [My ta td ts (by omega) (by omega) (by omega) h8x hx hw] at g4
 have g5 := PW a d
 rw [hadd] at g5
 have g6 := JG s ks ex (by omega) (by omega)
 rw [FC ts h8x hx] at g6
 have s1 := Vs (FM ex (Ax ks) s)
 generalize FM ex (Ax ks) a = S at g3 g4
 generalize FM ex (Ax ks) s = U at g4 g6 s1
 have ham : ∀ (i : Nat) e, X[i]? = some e → ks.length ≤ e.row.length ∧ PC 25 [.one (Xu (tkE ks d)), .one (BS (e.row.take ks.length))] (.v (.one (.lit (.bool true)))) := fun i e he => by
  obtain ⟨h1, h2⟩ := hX e (Df he)
  refine ⟨h1, Vm _ _ (ND h2) ?_⟩
  have h3 := Nr Y0 (srtK ks d) (srtK ks d).length
  have h4 := (Bt rowCmp_ok.swo (d.map fun e => Ax ks e.row)).length_eq
  have h5 := (AG td.v).1
  rw [BT] at h4
  unfold tkE
  unfold srtK at h3 ⊢
  omega
 clear hX vX ta td pa hf ts hw hadd hx
 dsimp only [B4, Ms] at g1 g2 g3 g4 g5 g6
 generalize tkE ks d = K at g2 ham
 have hal : ([Agg.d ⟨⟨#[]⟩, 0, []⟩] ++ ag.map Agg.d).length = ag.length + 1 := by simp
 refine Ad hT Tryz.func8 Tryz.ntmps8 [.tmp 2] fun B => ?_
 repeat' first | refine HZ (r := 2) ?_ | ((with_reducible (refine YO ?_)); refine E7 3 8 2 (es1 := (⟨⟨#[]⟩, 0, []⟩ :: ag : List Agg).map Agg.d) ?_ rfl rfl rfl (by simp; omega) (Ag (by simp; omega)) rfl) | refine Go.Abs.ks ?_ | refine ko ?_ | refine As ?_ | refine Aa (g1) ?_ | refine Aa (g2) ?_ | refine Ak [] (hnew) ?_ | refine Ak [1] (c1) ?_ | refine Ak [1] (c2) ?_ | refine Ak [1] (c3) ?_ | refine Ak [1] (c4) ?_ | refine De ?_ | refine Ay Ac ?_ | refine BB ?_
 refine AY (X := Nat) ([2, 11] ++ List.range' 55 30) (fun x => x ≤ X.length) (fun x lz => (11, (iC x)) :: lz) (fun x => [.dead, .box 1 [.d (DW t4.l), .d (.lit (.int .i64 t4.at_))], .dead, .box 8 [.d (.lit (.string ⟨#[]⟩)), .d (.lit (.int .i64 1)), .d (.lit (.string ⟨#[]⟩)), .d (.lit (.string ⟨#[]⟩)), .emp, .emp, .d (KC ks), .d (.lit (.bool false)), .d (HW (⟨⟨#[]⟩, 0, []⟩ :: ag : List Agg))]]) (fun x => X.length - x) (0) ?_ ?_ ?_ ?_
 repeat' first | exact k0 | refine kw ?_ | omega
 rintro i c hi
 by_cases hlt : i < X.length
 ·obtain ⟨e, hv⟩ := gx hlt
  obtain ⟨h1, hc⟩ := ham i e hv
  clear ham
  repeat' first | refine Go.Abs.ks ?_ | refine ko ?_ | refine AT hv ?_ | refine As ?_ | refine Aa (hc) ?_ | refine De ?_ | refine Ay Ac ?_ | refine BB ?_
  apply Ae (i + 1) <;> (try dsimp only) <;> try repeat' first | exact k0 | refine kw ?_ | omega
 ·clear ham
  repeat' first | refine Go.Abs.ks ?_ | refine ko ?_ | refine As ?_ | refine Aa (g3) ?_ | refine Aa (g4) ?_ | refine Aa (g5) ?_ | refine Aa (g6) ?_ | refine Aa (s1) ?_ | refine Aa (haw) ?_ | refine Ak [1] (c5) ?_ | refine De ?_ | refine Ay Ac ?_ | refine BB ?_
  all_goals rfl
end Go.Proofs.YtmpgmjlanngkfaaGreat
end
