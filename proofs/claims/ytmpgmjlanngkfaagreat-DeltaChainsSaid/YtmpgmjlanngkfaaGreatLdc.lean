/-
  DeltaChains: the law returns true.
-/
import Derived.Test.YtmpgmjlanngkfaaGreatVbl
import Derived.Test.YtmpgmjlanngkfaaGreatTpo
import Derived.Test.YtmpgmjlanngkfaaGreatTkg
import Derived.Test.YtmpgmjlanngkfaaGreatMpd
import Derived.Test.YtmpgmjlanngkfaaGreatExn
import Derived.Test.YtmpgmjlanngkfaaGreatArz
import Derived.Test.YtmpgmjlanngkfaaGreatRek
import Derived.Test.YtmpgmjlanngkfaaGreatPos
import Derived.Test.YtmpgmjlanngkfaaGreatMrg
import Derived.Test.YtmpgmjlanngkfaaGreatAvw
section
namespace Go.Proofs.YtmpgmjlanngkfaaGreat
open Go.Abs Go.RowKit
attribute [local irreducible] ARun Au MCall PCall HCall Ak SF CF CFs Af Ag Ar fin AP VLe
set_option linter.unusedSimpArgs false
set_option maxRecDepth 100000
set_option maxHeartbeats 4000000
variable {b : List Entry} {n : Int}
theorem T3 {f : List Val → Int} (hf : ∀ r, 0 ≤ f r) : ∀ {l : List Entry}, (∀ e ∈ l, 0 < e.count) → 0 ≤ wS f l
 | [], _ => WT _
 | e :: l, h => by
   have h1 := T3 hf (l := l) fun x hx => h x (by simp [hx])
   have h2 := XT (show (0 : Int) ≤ e.count by have := h e (by simp); omega) (hf e.row)
   rw [wS]; omega
theorem YG (t : Tape) (w n : Nat) (ht : t.ok) (hw : w ≤ 16) (hn : n ≤ 999) : ∃ (b : List Entry) (t' : Tape), t'.ok ∧ Tiny (3 * n) w b ∧ (∀ e ∈ b, 0 < e.count) ∧
  ((b = [] ∧ HC 11 [.c (.bp 0 0 0), (iC (w : Int)), (iC (n : Int)), .c (.d (.lit (.bool false)))] [(tB t)] (.c .emp) [(tB t'), .dead]) ∨
  HC 11 [.c (.bp 0 0 0), (iC (w : Int)), (iC (n : Int)), .c (.d (.lit (.bool false)))] [(tB t)] (.c (.arr 2 1 b.length)) [(tB t'), .dead, .arr 1 56 2 (b.map Entry.d)]) := by
 obtain ⟨b, t', ok, ⟨h1, _, h3⟩, h⟩ := Yk t w n false ht hw hn
 exact ⟨b, t', ok, h1, h3 rfl, h⟩
theorem Rt {l0 : List Entry} {A w : Nat} (hb : Tiny A w b) (pb : ∀ e ∈ b, 0 < e.count) (hA : A ≤ 1000000) (t0 : Tape) (ok0 : t0.ok) : ∀ k : Nat, k ≤ b.length → ∃ (f : Nat → List Entry) (ts : Nat → Tape), f 0 = l0 ∧ ts 0 = t0 ∧ (ts k).ok ∧
   (∀ i e, i < k → b[i]? = some e → ∃ (z : Nat) (t2 : Tape), z < 3 ∧ HC 30 [.c (.bp 0 0 0), .c (.d (.lit (.int .i64 3)))] [(tB ((ts i)))] (iC z) [(tB t2)] ∧
     ((z ≠ 0 ∧ f (i + 1) = f i ∧ ts (i + 1) = t2) ∨ (z = 0 ∧ ∃ q : Nat, (q : Int) < e.count ∧ f (i + 1) = f i ++ [⟨e.row, -(1 + (q : Int))⟩] ∧ HC 30 [.c (.bp 0 0 0), .c (.d (.lit (.int .i64 e.count)))] [(tB t2)] (iC q) [(.box 0 [.d (Dh ((ts (i + 1))).l), .d (.lit (.int .i64 ((ts (i + 1))).at_))])]))) ∧
   (∀ i, i ≤ k → (f i).length ≤ l0.length + i ∧ (∀ e ∈ f i, e ∈ l0 ∨ (AD e.row = true ∧ e.row.length = w ∧ -1000000 ≤ e.count ∧ e.count ≤ 0)) ∧ A9 (f i) ≤ A9 l0 + A9 (b.take i) ∧ ∀ g : List Val → Int, (∀ r, 0 ≤ g r) → wS g l0 ≤ wS g (b.take i) + wS g (f i)) := by
 intro k
 induction k with
 | zero =>
   intro _
   refine ⟨fun _ => l0, fun _ => t0, rfl, rfl, ok0, fun i _ hi => by omega, fun i hi => ?_⟩
   obtain rfl : i = 0 := by omega
   exact ⟨by simp, fun e he => .inl he, by simp [A9], fun g _ => by simp [wS]⟩
 | succ k ih =>
   intro hk
   obtain ⟨f, ts, e0, e1, okk, hf, hp⟩ := ih (by omega)
   obtain ⟨z, t2, ok2, hz, n2⟩ := Bq (ts k) 3 okk (by omega) (by omega)
   have hv : b[k]? = some b[k] := Bh (by omega)
   have hme : b[k] ∈ b := Fp (by omega)
   have hpe := pb _ hme
   have hae := FR hme
   have hs := hb.s
   have hro := ((AF hb.v).2 _ hme).1
   have hwi := hb.w _ hme
   have htk : b.take (k + 1) = b.take k ++ [b[k]] := by rw [IU, hv]; rfl
   generalize b[k] = e at hv hme hpe hae hro hwi htk
   obtain ⟨q1, q2, q3, q4⟩ := hp k (Nat.le_refl _)
   obtain ⟨c, hc⟩ := UY (show 0 ≤ e.count by omega)
   by_cases hz0 : z = 0
   · obtain ⟨q, t3, ok3, hq, n3⟩ := Bq t2 c ok2 (by omega) (by omega)
     rw [← hc] at n3
     refine ⟨fun i => if i = k + 1 then f k ++ [⟨e.row, -(1 + (q : Int))⟩] else f i, fun i => if i = k + 1 then t3 else ts i, by simp [e0], by simp [e1], by simp [ok3], fun i x hi hx => ?_, fun i hi => ?_⟩
     · by_cases him : i = k
       ·subst him
        rw [hv] at hx
        cases hx
        refine ⟨z, t2, hz, ?_, .inr ⟨hz0, q, by omega, ?_, ?_⟩⟩
        ·simp only [show ¬ i = i + 1 by omega, if_false]; exact n2
        ·simp only [show ¬ i = i + 1 by omega, if_false, if_true]
        ·simp only [if_true]; exact n3
       ·have := hf i x (by omega) hx
        simp only [show ¬ i = k + 1 by omega, show ¬ i + 1 = k + 1 by omega, if_false]
        exact this
     · by_cases him : i = k + 1
       ·subst him
        simp only [if_true]
        refine ⟨by simp; omega, fun x hx => ?_, ?_, fun g hg => ?_⟩
        ·rcases Ej.1 hx with hx | hx
         ·exact q2 x hx
         ·obtain rfl := IT.1 hx
          exact .inr ⟨hro, hwi, by show (-1000000 : Int) ≤ -(1 + (q : Int)); omega, by show -(1 + (q : Int)) ≤ 0; omega⟩
        ·rw [htk, CC, CC]
         have : (-(1 + (q : Int))).natAbs ≤ e.count.natAbs := by omega
         simp only [A9]; omega
        ·have h1 := q4 g hg
         have h2 := XT (show (0 : Int) ≤ e.count + -(1 + (q : Int)) by omega) (hg e.row)
         rw [htk, DF, DF]
         simp only [wS]
         rw [Int.add_mul] at h2
         omega
       ·simp only [him, if_false]
        exact hp i (by omega)
   · refine ⟨fun i => if i = k + 1 then f k else f i, fun i => if i = k + 1 then t2 else ts i, by simp [e0], by simp [e1], by simp [ok2], fun i x hi hx => ?_, fun i hi => ?_⟩
     · by_cases him : i = k
       ·subst him
        refine ⟨z, t2, hz, ?_, .inl ⟨hz0, ?_, ?_⟩⟩
        ·simp only [show ¬ i = i + 1 by omega, if_false]; exact n2
        ·simp only [show ¬ i = i + 1 by omega, if_false, if_true]
        ·simp only [if_true]
       ·have := hf i x (by omega) hx
        simp only [show ¬ i = k + 1 by omega, show ¬ i + 1 = k + 1 by omega, if_false]
        exact this
     · by_cases him : i = k + 1
       ·subst him
        simp only [if_true]
        refine ⟨by omega, q2, ?_, fun g hg => ?_⟩
        ·rw [htk, CC]; omega
        ·have h1 := q4 g hg
         have h2 := XT (show (0 : Int) ≤ e.count by omega) (hg e.row)
         rw [htk, DF]
         simp only [wS]
         omega
       ·simp only [him, if_false]
        exact hp i (by omega)
theorem Pf (t : Tape) (b : List Entry) (A w : Nat) (ht : t.ok) (hb : Tiny A w b) (pb : ∀ e ∈ b, 0 < e.count) (hw : w ≤ 16) (hA : A ≤ 1000) : ∃ (d : List Entry) (t' : Tape), t'.ok ∧ (Tiny (12 + A) w d ∧ d.length ≤ 12 + b.length) ∧ (∀ g : List Val → Int, (∀ r, 0 ≤ g r) → 0 ≤ wS g b + wS g d) ∧ HC 16 [.c (.bp 0 0 0), .c (.d (Am b)), (iC (w : Int))] [(tB t)] (.c (.d (Am d))) [(tB t')] := by
 obtain ⟨l0, t1, ok1, T0, p0, hbag⟩ := YG t w 4 ht hw (by omega)
 obtain ⟨f, ts, e0, e1, okn, hf, hp⟩ := Rt (l0 := l0) hb pb (by omega) t1 ok1 b.length (Nat.le_refl _)
 have hlb := hb.len9
 have hl0 := T0.len9
 have hfl : ∀ i, i ≤ b.length → (f i).length ≤ 2000 := fun i hi => by have := (hp i hi).1; omega
 obtain ⟨q1, q2, q3, q4⟩ := hp b.length (Nat.le_refl _)
 rw [Ao (Nat.le_refl _)] at q3 q4
 have hs0 := T0.s
 have hsb := hb.s
 have hrow : ∀ e ∈ f b.length, AD e.row = true ∧ e.row.length = w := fun e he => by
  rcases q2 e he with h | h
  ·exact ⟨((AF T0.v).2 e h).1, T0.w e h⟩
  ·exact ⟨h.1, h.2.1⟩
 have hs : A9 (f b.length) ≤ 12 + A := by omega
 obtain ⟨t1', t2'⟩ := Ht (fun e he => (hrow e he).1) (fun e he => (hrow e he).2) hs (by omega)
 have hlen := (AF t1'.v).1
 have hN : A4 (f b.length) = (sortE (f b.length), 0) := by
  have hall : (f b.length).all AU = true := CN.2 fun e he => by
   have h1 := FR he
   simp only [AU, Av, Bi, decide_eq_true_eq]
   exact ⟨(hrow e he).1, by omega, by omega⟩
  rw [A4, if_pos hall, AS, if_neg (by omega), if_pos]
  refine CN.2 fun e he => ?_
  have h1 := t2' e he
  simp only [Av, Bi, decide_eq_true_eq]
  omega
 have hsl := F6 (f b.length)
 refine ⟨sortE (f b.length), ts b.length, okn, ⟨t1', by omega⟩, fun g hg => ?_, ?_⟩
 ·rw [Kh _ _ fun e he => A8 (hrow e he).1]
  have h1 := q4 g hg
  have h2 := T3 hg p0
  omega
 have hnc := Ix (f b.length) (by have := hfl b.length (Nat.le_refl _); omega)
 rw [hN] at hnc
 dsimp only at hnc
 generalize sortE (f b.length) = D at hnc
 have hcnt : ∀ e ∈ b, -1000000 ≤ e.count ∧ e.count ≤ 1000000 := fun e he => by have := FR he; omega
 clear hsl hp q1 q2 q3 q4 hs0 hsb hrow hs t1' t2' hlen hN hb T0 p0 hl0 okn
 have hbl : b.length ≤ 1000 := by omega
 subst e0
 rw [← e1] at hbag
 rcases hbag with ⟨hnil, cb⟩ | cb
 ·have hl0 : (f 0).length = 0 := by rw [hnil]; rfl
  refine AI hT Tryz.func16 Tryz.ntmps16 [.tmp 6] fun B => ?_
  repeat' first | refine kz ?_ | refine Aw ?_ | refine Ah [0] (cb) ?_ | refine kg ?_ ?_ | exact k0 | refine Ab ?_ | refine m1 ?_ ?_
  refine Cr 7 56 2 ?_
  refine A0 (X := Nat × Nat × Tape) ([7, 8] ++ List.range' 14 27) (fun x => x.1 ≤ b.length ∧ x.2.2 = ts x.1) (fun x lz => (7, .c (.arr 2 x.2.1 (f x.1).length)) :: (8, (iC x.1)) :: lz) (fun x => [(tB x.2.2), .dead, .arr x.2.1 56 2 ((f x.1).map Entry.d)]) (fun x => b.length - x.1) ((0, 2, ts 0)) ?_ ?_ ?_ ?_
  repeat' first | exact k0 | refine kw ?_ | refine kv ?_ ?_ | omega
  all_goals try (first | rfl | exact ⟨Nat.zero_le _, rfl⟩ | (dsimp only; rw [hnil]; rfl))
  rintro ⟨i, v, T'⟩ c ⟨hi, hT'⟩
  dsimp only at hi hT' ⊢
  by_cases hlt : i < b.length
  ·have hv : b[i]? = some b[i] := Bh hlt
   have hce := hcnt _ (Fp hlt)
   have hfi := hfl i hi
   generalize b[i] = e at hv hce
   obtain ⟨z, t2, hz, n2, hst⟩ := hf i e hlt hv
   rw [← hT'] at n2
   clear hf hfl hnc
   have hdl : ((f i).map Entry.d).length = (f i).length := BQ _
   rcases hst with ⟨hz0, hfs, hts⟩ | ⟨rfl, q, hq, hfs, n3⟩
   ·repeat' first | refine kz ?_ | refine Aw ?_ | refine Ah [0] (n2) ?_ | refine kg ?_ ?_ | exact k0 | refine Ab ?_ | refine m1 ?_ ?_
    apply Ad ((i + 1, v, t2)) <;> (try dsimp only) <;> try repeat' first | exact k0 | refine kw ?_ | refine kv ?_ ?_ | omega
    all_goals first
     | exact ⟨by omega, hts.symm⟩
     | (rw [hfs]; done)
     | (rw [hfs])
     | skip
   ·have hs : (f i).map Entry.d ++ [[BP e.row, .lit (.int .i64 (-(1 + (q : Int))))]] = (f (i + 1)).map Entry.d := by rw [hfs]; simp [Entry.d]
    have hl2 : (f (i + 1)).length = (f i).length + 1 := by rw [hfs]; simp
    generalize hZ : (f (i + 1)).map Entry.d = Z at hs
    generalize hq2 : ts (i + 1) = T2 at n3
    generalize (f i).map Entry.d = A at hs hdl ⊢
    generalize (f i).length = m at hfi hdl hl2 ⊢
    refine Uc 2 fun hr => ?_
    refine Pg ?_
    repeat' first | refine IY (dr := true) 0 n3 ?_ | (refine Ph (dr := true) (ei := R3) (k := v) (es := A) (ys := [[BP e.row, .lit (.int .i64 (-(1 + (q : Int))))]]) (es' := Z) 2 (c + 1) (j := m) (m := m + 1) ?_ (by omega) (by omega) (by omega) rfl (by simp only [maxLen]; omega) (by simp only [R3]; omega) (AJ rfl A5) (by rw [Ao (by omega)]; exact hs)) | refine kz ?_ | refine AX hv ?_ | refine Aw ?_ | refine Ah [0] (n2) ?_ | refine Bb Ae ?_ ?_ | exact k0 | refine Ab ?_ | refine m1 ?_ ?_
    apply Ad ((i + 1, c + 1, T2)) <;> (try dsimp only) <;> try repeat' first | exact k0 | refine kw ?_ | refine kv ?_ ?_ | omega
    all_goals first
     | exact ⟨by omega, hq2.symm⟩
     | exact hZ.symm
     | (rw [hl2])
     | skip
  ·obtain rfl : i = b.length := by omega
   rw [hT']
   have hdl : ((f b.length).map Entry.d).length = (f b.length).length := BQ _
   clear hf hfl
   generalize f b.length = L at hnc hdl ⊢
   repeat' first | refine Bc (r := 2) (m := L.length) (es1 := L.map Entry.d) 7 ?_ (hl := by omega) (hes := Ao (by omega)) | refine kz ?_ | refine Aw ?_ | refine Aa (hnc) ?_ | refine Bb Ae ?_ ?_ | exact k0 | refine Ab ?_ | refine m1 ?_ ?_
   all_goals rfl
 ·skip
  refine AI hT Tryz.func16 Tryz.ntmps16 [.tmp 6] fun B => ?_
  repeat' first | refine kz ?_ | refine Aw ?_ | refine Ah [0] (cb) ?_ | refine kg ?_ ?_ | exact k0 | refine Ab ?_ | refine m1 ?_ ?_
  refine A0 (X := Nat × Nat × Tape) ([7, 8] ++ List.range' 14 27) (fun x => x.1 ≤ b.length ∧ x.2.2 = ts x.1) (fun x lz => (7, .c (.arr 2 x.2.1 (f x.1).length)) :: (8, (iC x.1)) :: lz) (fun x => [(tB x.2.2), .dead, .arr x.2.1 56 2 ((f x.1).map Entry.d)]) (fun x => b.length - x.1) ((0, 1, ts 0)) ?_ ?_ ?_ ?_
  repeat' first | exact k0 | refine kw ?_ | refine kv ?_ ?_ | omega
  all_goals try (first | rfl | exact ⟨Nat.zero_le _, rfl⟩ | (dsimp only; rw [hnil]; rfl))
  rintro ⟨i, v, T'⟩ c ⟨hi, hT'⟩
  dsimp only at hi hT' ⊢
  by_cases hlt : i < b.length
  ·have hv : b[i]? = some b[i] := Bh hlt
   have hce := hcnt _ (Fp hlt)
   have hfi := hfl i hi
   generalize b[i] = e at hv hce
   obtain ⟨z, t2, hz, n2, hst⟩ := hf i e hlt hv
   rw [← hT'] at n2
   clear hf hfl hnc
   have hdl : ((f i).map Entry.d).length = (f i).length := BQ _
   rcases hst with ⟨hz0, hfs, hts⟩ | ⟨rfl, q, hq, hfs, n3⟩
   ·repeat' first | refine kz ?_ | refine Aw ?_ | refine Ah [0] (n2) ?_ | refine kg ?_ ?_ | exact k0 | refine Ab ?_ | refine m1 ?_ ?_
    apply Ad ((i + 1, v, t2)) <;> (try dsimp only) <;> try repeat' first | exact k0 | refine kw ?_ | refine kv ?_ ?_ | omega
    all_goals first
     | exact ⟨by omega, hts.symm⟩
     | (rw [hfs]; done)
     | (rw [hfs])
     | skip
   ·have hs : (f i).map Entry.d ++ [[BP e.row, .lit (.int .i64 (-(1 + (q : Int))))]] = (f (i + 1)).map Entry.d := by rw [hfs]; simp [Entry.d]
    have hl2 : (f (i + 1)).length = (f i).length + 1 := by rw [hfs]; simp
    generalize hZ : (f (i + 1)).map Entry.d = Z at hs
    generalize hq2 : ts (i + 1) = T2 at n3
    generalize (f i).map Entry.d = A at hs hdl ⊢
    generalize (f i).length = m at hfi hdl hl2 ⊢
    refine Uc 2 fun hr => ?_
    refine Pg ?_
    repeat' first | refine IY (dr := true) 0 n3 ?_ | (refine Ph (dr := true) (ei := R3) (k := v) (es := A) (ys := [[BP e.row, .lit (.int .i64 (-(1 + (q : Int))))]]) (es' := Z) 2 (c + 1) (j := m) (m := m + 1) ?_ (by omega) (by omega) (by omega) rfl (by simp only [maxLen]; omega) (by simp only [R3]; omega) (AJ rfl A5) (by rw [Ao (by omega)]; exact hs)) | refine kz ?_ | refine AX hv ?_ | refine Aw ?_ | refine Ah [0] (n2) ?_ | refine Bb Ae ?_ ?_ | exact k0 | refine Ab ?_ | refine m1 ?_ ?_
    apply Ad ((i + 1, c + 1, T2)) <;> (try dsimp only) <;> try repeat' first | exact k0 | refine kw ?_ | refine kv ?_ ?_ | omega
    all_goals first
     | exact ⟨by omega, hq2.symm⟩
     | exact hZ.symm
     | (rw [hl2])
     | skip
  ·obtain rfl : i = b.length := by omega
   rw [hT']
   have hdl : ((f b.length).map Entry.d).length = (f b.length).length := BQ _
   clear hf hfl
   generalize f b.length = L at hnc hdl ⊢
   repeat' first | refine Bc (r := 2) (m := L.length) (es1 := L.map Entry.d) 7 ?_ (hl := by omega) (hes := Ao (by omega)) | refine kz ?_ | refine Aw ?_ | refine Aa (hnc) ?_ | refine Bb Ae ?_ ?_ | exact k0 | refine Ab ?_ | refine m1 ?_ ?_
   all_goals rfl
theorem F4 (t : Tape) (b : List Entry) (A w : Nat) (ht : t.ok) (hb : Tiny A w b) (pb : ∀ e ∈ b, 0 < e.count) (hw : w ≤ 16) (hA : A ≤ 1000) : ∃ (d : List Entry) (t' : Tape), t'.ok ∧ Tiny (12 + A) w d ∧ (∀ g : List Val → Int, (∀ r, 0 ≤ g r) → 0 ≤ wS g b + wS g d) ∧ HC 16 [.c (.bp 0 0 0), .c (.d (Am b)), (iC (w : Int))] [(tB t)] (.c (.d (Am d))) [(tB t')] := by
 obtain ⟨d, t', ok', ⟨h1, _⟩, h2, h3⟩ := Pf t b A w ht hb pb hw hA
 exact ⟨d, t', ok', h1, h2, h3⟩
def O3 : List Val := [Val.ofInt 1]
def AO (n : Int) : List Entry := [⟨O3, n⟩]
def someW : List Trm := [⟨11, Val.null, 0⟩, ⟨2, Val.null, 0⟩, ⟨1, Val.ofInt 1, 0⟩]
def someI : List Itm := [⟨⟨#[]⟩, [⟨2, Val.null, 0⟩]⟩]
def Cw (d : Bool) : Vw := ⟨⟨#[]⟩, 0, ⟨#[]⟩, ⟨#[]⟩, [], someW, someI, d, []⟩
theorem S7 (n : Int) : PC 38 [.one (.lit (.int .i64 n))] (.v (.one (Am (AO n)))) := by
 have hi := EM 1
 refine Ac hT Tryz.func38 Tryz.ntmps38 [.tmp 2] fun B => ?_
 repeat' first | refine kz ?_ | refine Aa (hi) ?_ | refine kf ?_ | fail
 all_goals rfl
theorem S8 (d : Bool) : PC 37 [.one (.lit (.bool d))] (.v (.agg (Cw d).d)) := by
 have hi := EM 1
 refine Ac hT Tryz.func37 Tryz.ntmps37 [.cell 2 30] fun B => ?_
 repeat' first | refine kz ?_ | refine Aa (hi) ?_ | refine kh ?_ ?_ | exact ⟨⟩ | fail
 all_goals rfl
theorem Ct (h : Av n = true) (h0 : n ≠ 0) : Aj (AO n) = true := by
 have hr : AD O3 = true := by decide +kernel
 simp [Aj, AO, goodFrom, Entry.ok, hr, h, h0]
theorem O4 (n : Int) : BE (AO n) someW = if Aj (AO n) = true then AO n else [] := by
 have hk : keepE someW ⟨O3, n⟩ = true := by
  show (decide (someW.length = 0) || H0 someW O3) = true
  decide +kernel
 unfold BE
 split
 ·show List.filter _ [_] = _
  rw [WQ, hk, if_pos rfl]; rfl
 ·rfl
theorem S9 (h : Aj (AO n) = true) : FI (AO n) (someI.map Itm.expr) = (AO n, 0) := by
 have hm : (AO n).map (Fl (someI.map Itm.expr)) = AO n := by
  have h0 : Bz ((someI.map Itm.expr).map fun t => Gc t O3) O3 = true := by decide +kernel
  have h1 := UM.1 h0
  show [(⟨(someI.map Itm.expr).map (fun t => Gc t O3), n⟩ : Entry)] = _
  rw [h1]; rfl
 rw [FI, h, if_pos (by decide), hm, Jw h]
theorem Fy (d : Bool) (h : Aj (AO n) = true) : IQ (Cw d) (AO n) = (if d = true then BO (AO n) else AO n, 0) := by
 unfold IQ Mp
 rw [if_neg (show ¬ (Cw d).kind = 1 by show ¬ (0 : Int) = 1; decide), show (Cw d).wher = someW from rfl, show (Cw d).items = someI from rfl, O4, if_pos h, S9 h, if_pos rfl, show (Cw d).distinct = d from rfl]
 cases d <;> rfl
theorem Ju {p q : Int} (hp : Aj (AO p) = true) (hq : Aj (AO q) = true) (s : Int) : Ba s (AO p) (AO q) = AS (if p + s * q = 0 then [] else AO (p + s * q)) := by
 have hc : Ai O3 O3 = 0 := rowCmp_ok.refl _
 rw [Ba, if_pos ⟨hp, hq⟩]
 show AS (mergeE [⟨O3, p⟩] [⟨O3, s * q⟩]) = _
 rw [mergeE, if_neg (by show ¬ Ai O3 O3 < 0; omega), if_neg (by show ¬ 0 < Ai O3 O3; omega), mergeE, List.append_nil]
 rfl
theorem M7 : Dj (AO 2) (AO (-1)) = (AO 1, 0) := by
 have h2 := Ct (n := 2) (by decide) (by decide)
 have h1 := Ct (n := -1) (by decide) (by decide)
 have h3 := Ct (n := 1) (by decide) (by decide)
 have ha : Ba 1 (AO 2) (AO (-1)) = (AO 1, 0) := by
  rw [Ju h2 h1, if_neg (by decide)]; rfl
 unfold Dj
 rw [ha, if_pos]
 refine ⟨rfl, ?_⟩
 unfold Ap
 rw [h3]; rfl
theorem Jv (d : Bool) : BY (Cw d) (AO 2) [] = true := by
 have h2 := Ct (n := 2) (by decide) (by decide)
 have he : BH (Cw d) = true := beq_self_eq_true _
 unfold BY Ap Di
 rw [h2, he]
 cases d <;> rfl
theorem M8 (h : Aj (AO n) = true) (hn : 0 < n) : BO (AO n) = AO 1 := by
 unfold BO
 rw [if_pos h]
 unfold AO Fm
 simp [hn]
theorem D6 (l : List Entry) : PC 20 [.one (Am l), .one (Am l)] (.v (.one (.lit (.bool true)))) := by
 have h := UO l l
 rw [Hp] at h
 exact h
theorem KO : PC 15 [] (.v (.one (.lit (.bool true)))) := by
 have h2 := Ct (n := 2) (by decide) (by decide)
 have h1 := Ct (n := -1) (by decide) (by decide)
 have h3 := Ct (n := 1) (by decide) (by decide)
 have he : ∀ d, BH (Cw d) = true := fun _ => beq_self_eq_true _
 have w1 : OG (BY (Cw false) (AO 2) []) (Lz (AO 2, 0) (IQ (Cw false) (AO 2)) (Dj (AO 2) (AO (-1))) (IQ (Cw false) (Dj (AO 2) (AO (-1))).1)) = (AO (-1), 0) := by
  rw [Jv, M7, Fy _ h2, Fy _ h3]
  show Ba (-1) (AO 1) (AO 2) = _
  rw [Ju h3 h2, if_neg (by decide)]; rfl
 have w2 : OG (BY (Cw true) (AO 2) []) (Lz (AO 2, 0) (IQ (Cw true) (AO 2)) (Dj (AO 2) (AO (-1))) (IQ (Cw true) (Dj (AO 2) (AO (-1))).1)) = ([], 0) := by
  rw [Jv, M7, Fy _ h2, Fy _ h3]
  show Ba (-1) (BO (AO 1)) (BO (AO 2)) = _
  rw [M8 h3 (by decide), M8 h2 (by decide), Ju h3 h3, if_pos (by decide)]; rfl
 have w3 : (if BY (Cw false) (AO 2) [] = true then IQ (Cw false) (AO 2) else ([], 1)) = (AO 2, 0) := by
  rw [Jv, if_pos rfl, Fy _ h2]; rfl
 have c1 := LA (Cw false) (AO 2) [] (AO (-1)) [] (by decide) rfl (he false)
 have c2 := LA (Cw true) (AO 2) [] (AO (-1)) [] (by decide) rfl (he true)
 have c3 := R8 (Cw false) (AO 2) [] (by decide) rfl (he false)
 rw [w1] at c1
 rw [w2] at c2
 rw [w3] at c3
 have v1 := S8 false
 have v2 := S8 true
 have o1 := S7 2
 have o2 := S7 (-1)
 have s1 := D6 (AO 2)
 have s2 := D6 (AO (-1))
 clear w1 w2 w3 h1 h2 h3 he
 dsimp only [Bt] at c1 c2 c3
 generalize AO 2 = A at c1 c2 c3 o1 s1
 generalize AO (-1) = B at c1 c2 c3 o2 s2
 refine Ac hT Tryz.func15 Tryz.ntmps15 [.tmp 0] fun B => ?_
 repeat' first | refine kz ?_ | refine Aa (v1) ?_ | refine Aa (v2) ?_ | refine Aa (o1) ?_ | refine Aa (o2) ?_ | refine Aa (c1) ?_ | refine Aa (c2) ?_ | refine Aa (c3) ?_ | refine Aa (s1) ?_ | refine Aa (s2) ?_ | refine kf ?_ | fail
 all_goals rfl
theorem RJ (t : List Int) (ht : t.length ≤ 17592186044416) : PC 4 [.one (Dh t)] (.v (.one (.lit (.bool true)))) := by
 have hnew := Xq t ht
 have hok : (Tape.mk t 0).ok := ⟨ht, by simp⟩
 have haw := KO
 obtain ⟨v, t1, ok1, hv, c1⟩ := KN ⟨t, 0⟩ hok
 obtain ⟨a, t2, ok2, -, -, -, ta, pa, c2⟩ := Mm t1 3 6 ok1 (by omega) (by omega)
 obtain ⟨b, t3, ok3, -, -, -, tb, pb, c3⟩ := Mm t2 2 6 ok2 (by omega) (by omega)
 obtain ⟨da, t4, ok4, tda, fa, c4⟩ := F4 t3 a (3 * 6) 3 ok3 ta pa (by omega) (by omega)
 obtain ⟨db, t5, ok5, tdb, fb, c5⟩ := F4 t4 b (3 * 6) 2 ok4 tb pb (by omega) (by omega)
 obtain ⟨a2, f1, h1, ta2, pa2, w1⟩ := Nh ta tda fa (by omega)
 obtain ⟨b2, f2, h2, tb2, pb2, w2⟩ := Nh tb tdb fb (by omega)
 have pa' := G4 ta.v pa
 have pb' := G4 tb.v pb
 obtain ⟨u1, g1⟩ := Eh (N := 324) hv ta tb pa' pb' (by decide) (by decide) (by decide)
 obtain ⟨u2, g2⟩ := Eh (N := 2304) hv ta2 tb2 pa2 pb2 (by decide) (by decide) (by decide)
 obtain ⟨x, u3, wx, g3⟩ := Ei (N := 324) (M := 2304) hv ta tb tda tdb pa' pb' f1 ta2 pa2 w1 f2 tb2 pb2 w2 (by decide) (by decide) (by decide) (by decide) (by decide)
 obtain ⟨s, e4, u4, -, w4⟩ := Kr u1 u3 (by decide)
 have hs : s = cntW v a2 b2 := Hv u4.v u2.v fun g => by rw [w4, wx]; omega
 rw [hs] at e4
 have g4 := Fc a da
 rw [h1] at g4
 have g5 := Fc b db
 rw [h2] at g5
 have g6 := Fc (cntW v a b) x
 rw [e4] at g6
 have s1 := D6 (cntW v a2 b2)
 clear hv pa pb ta tb tda tdb fa fb f1 f2 h1 h2 ta2 pa2 w1 tb2 pb2 w2 pa' pb' u1 u2 u3 wx u4 w4 hs e4
 generalize cntW v a b = C at g1 g6
 generalize cntW v a2 b2 = Z at g2 g6 s1
 dsimp only [Bt] at g1 g2 g3 g4 g5 g6
 obtain ⟨vn, vk, vl, vr, von, vw, vi, vd, va⟩ := v
 refine Ac hT Tryz.func4 Tryz.ntmps4 [.tmp 2] fun B => ?_
 repeat' first | refine kz ?_ | refine Aa (g1) ?_ | refine Aa (g2) ?_ | refine Aa (g3) ?_ | refine Aa (g4) ?_ | refine Aa (g5) ?_ | refine Aa (g6) ?_ | refine Aa (s1) ?_ | refine Aa (haw) ?_ | refine Ah [] (hnew) ?_ | refine Ah [1] (c1) ?_ | refine Ah [1] (c2) ?_ | refine Ah [1] (c3) ?_ | refine Ah [1] (c4) ?_ | refine Ah [1] (c5) ?_ | refine kf ?_ | fail
 all_goals rfl
theorem Ux {B w : Nat} (hb : Tiny B w b) (pb : Ap b = true) (hn : B ≤ 4096) : Dj b [] = (b, 0) := by
 unfold Dj
 rw [Ti hb hn, if_pos ⟨rfl, pb⟩]
theorem Wr (pb : Ap b = true) : ∀ e ∈ b, 0 < e.count := fun e he => by
 unfold Ap at pb
 rw [Bi, CN] at pb
 have h1 := of_decide_eq_true (pb.2 e he)
 have h2 := ((AF pb.1).2 e he).2.2
 omega
theorem Oc (t : List Int) (ht : t.length ≤ 17592186044416) : PC 5 [.one (Dh t)] (.v (.one (.lit (.bool true)))) := by
 have hnew := Xq t ht
 have hok : (Tape.mk t 0).ok := ⟨ht, by simp⟩
 have haw := KO
 obtain ⟨v, t1, ok1, hv, c1⟩ := KN ⟨t, 0⟩ hok
 obtain ⟨a, t2, ok2, -, -, -, ta, pa, c2⟩ := Mm t1 3 6 ok1 (by omega) (by omega)
 obtain ⟨b, t3, ok3, -, -, -, tb, pb, c3⟩ := Mm t2 2 6 ok2 (by omega) (by omega)
 obtain ⟨da, t4, ok4, tda, fa, c4⟩ := F4 t3 a (3 * 6) 3 ok3 ta pa (by omega) (by omega)
 obtain ⟨a2, f1, h1, ta2, pa2, w1⟩ := Nh ta tda fa (by omega)
 obtain ⟨d2, t5, ok5, td2, fd, c5⟩ := F4 t4 a2 (3 * 6 + (12 + 3 * 6)) 3 ok4 ta2 (Wr pa2) (by omega) (by omega)
 obtain ⟨a3, f3, h3, ta3, pa3, w3⟩ := Nh ta2 td2 fd (by omega)
 obtain ⟨s, h2, ts, ws⟩ := Ks tda td2 (by omega)
 obtain ⟨a4, f4, h4, ta4, pa4, w4⟩ := Nh ta ts (fun g hg => by have h := fd g hg; rw [w1] at h; rw [ws]; omega) (by omega)
 obtain rfl : a4 = a3 := Hv ta4.v ta3.v fun g => by rw [w4, ws, w3, w1]; omega
 have pa' := G4 ta.v pa
 have pb' := G4 tb.v pb
 have fb := Ux tb pb' (by decide)
 have wb : ∀ g, wS g b = wS g b + wS g [] := fun g => by simp [wS]
 obtain ⟨x, ux, wx, g1⟩ := Ei (N := 324) (M := 864) hv ta tb tda (FB 2) pa' pb' f1 ta2 pa2 w1 fb tb pb' wb (by decide) (by decide) (by decide) (by decide) (by decide)
 obtain ⟨y, uy, wy, g2⟩ := Ei (N := 864) (M := 1944) hv ta2 tb td2 (FB 2) pa2 pb' f3 ta3 pa3 w3 fb tb pb' wb (by decide) (by decide) (by decide) (by decide) (by decide)
 obtain ⟨z, uz, wz, g3⟩ := Ei (N := 324) (M := 1944) hv ta tb ts (FB 2) pa' pb' f4 ta4 pa4 w4 fb tb pb' wb (by decide) (by decide) (by decide) (by decide) (by decide)
 obtain ⟨w, e4, u4, -, ww⟩ := Kr ux uy (by decide)
 obtain rfl : w = z := Hv u4.v uz.v fun g => by rw [ww, wx, wy, wz]; omega
 have g4 := Fc a da
 rw [h1] at g4
 have g5 := Fc da d2
 rw [h2] at g5
 have g6 := Fc x y
 rw [e4] at g6
 have s1 := D6 w
 clear hv pa pb ta tb tda fa f1 h1 ta2 pa2 w1 td2 fd f3 h3 ta3 pa3 w3 h2 ts ws f4 h4 ta4 pa4 w4 pa' pb' fb wb ux wx uy wy uz wz e4 u4 ww
 dsimp only [Bt] at g1 g2 g3 g4 g5 g6
 obtain ⟨vn, vk, vl, vr, von, vw, vi, vd, va⟩ := v
 refine Ac hT Tryz.func5 Tryz.ntmps5 [.tmp 2] fun B => ?_
 repeat' first | refine kz ?_ | refine Aa (g1) ?_ | refine Aa (g2) ?_ | refine Aa (g3) ?_ | refine Aa (g4) ?_ | refine Aa (g5) ?_ | refine Aa (g6) ?_ | refine Aa (s1) ?_ | refine Aa (haw) ?_ | refine Ah [] (hnew) ?_ | refine Ah [1] (c1) ?_ | refine Ah [1] (c2) ?_ | refine Ah [1] (c3) ?_ | refine Ah [1] (c4) ?_ | refine Ah [1] (c5) ?_ | refine kf ?_ | fail
 all_goals rfl
end Go.Proofs.YtmpgmjlanngkfaaGreat
end
