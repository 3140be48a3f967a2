/-
  The tape: Keys, Aggregates, Exacts.
-/
import Derived.Test.YtmpgmjlanngkfaaGreatMrg
import Derived.Test.YtmpgmjlanngkfaaGreatTpo
import Derived.Test.YtmpgmjlanngkfaaGreatVjc
import Derived.Test.YtmpgmjlanngkfaaGreatExn
section
namespace Go.Proofs.YtmpgmjlanngkfaaGreat
open Go.Abs Go.RowKit
attribute [local irreducible] ARun Au MCall PCall HCall Ak SF CF CFs Af Ag Ar fin AP VLe
set_option linter.unusedSimpArgs false
set_option maxRecDepth 100000
set_option maxHeartbeats 4000000
theorem Bq (t : Tape) (n : Nat) (ht : t.ok) (h1 : 1 ≤ n) (h2 : n ≤ 1000000) : ∃ (v : Nat) (t' : Tape), t'.ok ∧ v < n ∧ HC 30 [.c (.bp 0 0 0), .c (.d (.lit (.int .i64 n)))] [(tB t)] (iC v) [(tB t')] := by
 have h := Ii t n ht (by omega) (by omega)
 obtain ⟨b1, b2⟩ := t.nx_bd n
 have e : t.nx n = ((t.nx n).toNat : Int) := by omega
 rw [e] at h
 exact ⟨_, _, ht.go n, by omega, h⟩
def WC (n : Nat) (x : Trm) : Prop := x.op = 2 → 0 ≤ x.col ∧ x.col < n
theorem Pz (t : Tape) (n : Nat) (ht : t.ok) (h1 : 1 ≤ n) (hn : n ≤ 1000) : ∃ (x : Trm) (t' : Tape), t'.ok ∧ WC n x ∧ HC 71 [.c (.bp 0 0 0), (iC (n : Int))] [(tB t)] (.c (.d (Bw [x]))) [(tB t')] := by
 obtain ⟨v1, t1, ok1, l1, n1⟩ := Bq t 3 ht (by omega) (by omega)
 by_cases h0 : v1 = 0
 ·subst h0
  obtain ⟨v2, t2, ok2, l2, n2⟩ := Bq t1 2 ok1 (by omega) (by omega)
  by_cases h3 : v2 = 0
  ·subst h3
   have hc := YX t2 ok2
   refine ⟨⟨1, t2.text, 0⟩, t2.go 10, ok2.go 10, fun h => absurd (show (1 : Int) = 2 from h) (by decide), ?_⟩
   generalize t2.go 10 = t3 at hc
   generalize t2.text = v at hc
   refine AI hT Tryz.func71 Tryz.ntmps71 [.tmp 4] fun B => ?_
   repeat' first | refine kz ?_ | refine Ah [0] (n1) ?_ | refine Ah [0] (n2) ?_ | refine Ah [0] (hc) ?_ | refine kg ?_ ?_ | exact k0 | refine Ab ?_
  ·have hc := aC t2 ok2
   refine ⟨⟨1, t2.int, 0⟩, t2.go 12, ok2.go 12, fun h => absurd (show (1 : Int) = 2 from h) (by decide), ?_⟩
   generalize t2.go 12 = t3 at hc
   generalize t2.int = v at hc
   refine AI hT Tryz.func71 Tryz.ntmps71 [.tmp 4] fun B => ?_
   repeat' first | refine kz ?_ | refine Ah [0] (n1) ?_ | refine Ah [0] (n2) ?_ | refine Ah [0] (hc) ?_ | refine kg ?_ ?_ | exact k0 | refine Ab ?_
 ·obtain ⟨v2, t2, ok2, l2, n2⟩ := Bq t1 n ok1 h1 (by omega)
  refine ⟨⟨2, Val.null, v2⟩, t2, ok2, fun _ => ⟨Int.natCast_nonneg _, by show (v2 : Int) < n; omega⟩, ?_⟩
  refine AI hT Tryz.func71 Tryz.ntmps71 [.tmp 4] fun B => ?_
  repeat' first | refine kz ?_ | refine Ah [0] (n1) ?_ | refine Ah [0] (n2) ?_ | refine kg ?_ ?_ | exact k0 | refine Ab ?_
theorem WD (n : Nat) (h1 : 1 ≤ n) (hn : n ≤ 1000) : ∀ (dp : Nat) (t : Tape), t.ok → dp ≤ 8 → ∃ (e : List Trm) (t' : Tape), t'.ok ∧ e.length ≤ 4 ^ dp ∧ (∀ x ∈ e, WC n x) ∧ HC 31 [.c (.bp 0 0 0), (iC (dp : Int)), (iC (n : Int))] [(tB t)] (.c (.d (Bw e))) [(tB t')] := by
 intro dp
 induction dp with
 | zero =>
   intro t ht _
   obtain ⟨x, t', ok', hx, hc⟩ := Pz t n ht h1 hn
   refine ⟨[x], t', ok', by simp, by simpa using hx, ?_⟩
   refine AI hT Tryz.func31 Tryz.ntmps31 [.tmp 6] fun B => ?_
   repeat' first | refine kz ?_ | refine Ah [0] (hc) ?_ | refine kf ?_ | refine kg ?_ ?_ | exact k0 | refine Ab ?_ | refine m1 ?_ ?_
 | succ dp ih =>
   intro t ht hdp
   have hpow : 1 ≤ 4 ^ dp := Nat.pos_of_ne_zero (by simp)
   have hpow2 : 4 ^ dp ≤ 4 ^ 7 := Nat.pow_le_pow_right (by omega) (by omega)
   have hpow3 : 4 ^ (dp + 1) = 4 * 4 ^ dp := by rw [Nat.pow_succ, OL]
   by_cases hd0 : dp = 0
   ·subst hd0
    obtain ⟨x, t', ok', hx, hc⟩ := Pz t n ht h1 hn
    refine ⟨[x], t', ok', by simp, by simpa using hx, ?_⟩
    clear ih
    refine AI hT Tryz.func31 Tryz.ntmps31 [.tmp 6] fun B => ?_
    repeat' first | refine kz ?_ | refine Ah [0] (hc) ?_ | refine kf ?_ | refine kg ?_ ?_ | exact k0 | refine Ab ?_ | refine m1 ?_ ?_
   obtain ⟨v1, t1, ok1, l1, n1⟩ := Bq t 4 ht (by omega) (by omega)
   by_cases h0 : v1 = 0
   ·subst h0
    obtain ⟨x, t', ok', hx, hc⟩ := Pz t1 n ok1 h1 hn
    refine ⟨[x], t', ok', by simp; omega, by simpa using hx, ?_⟩
    clear ih
    refine AI hT Tryz.func31 Tryz.ntmps31 [.tmp 6] fun B => ?_
    repeat' first | refine kz ?_ | refine Ah [0] (n1) ?_ | refine Ah [0] (hc) ?_ | refine kf ?_ | refine kg ?_ ?_ | exact k0 | refine Ab ?_ | refine m1 ?_ ?_
   obtain ⟨v2, t2, ok2, l2, n2⟩ := Bq t1 16 ok1 (by omega) (by omega)
   have ha := O7 ((3 : Int) + v2)
   obtain ⟨k, hk⟩ := UY (show 0 ≤ Fj ((3 : Int) + v2) by
    unfold Fj
    split
    · omega
    split
    · omega
    split
    · omega
    split <;> omega)
   have hk3 : k ≤ 3 := by have := (L9 ((3 : Int) + v2)).2; omega
   rw [hk] at ha
   have hops : ∀ m : Nat, m ≤ 3 → ∃ (f : Nat → List Trm) (ts : Nat → Tape), ts 0 = t2 ∧ ∀ i, i < m → (ts i).ok ∧ (ts (i + 1)).ok ∧ ((f i).length ≤ 4 ^ dp ∧ ∀ x ∈ f i, WC n x) ∧ HC 31 [.c (.bp 0 0 0), (iC (dp : Int)), (iC (n : Int))] [(tB ((ts i)))] (.c (.d (Bw (f i)))) [(.box 0 [.d (Dh ((ts (i + 1))).l), .d (.lit (.int .i64 ((ts (i + 1))).at_))])] := by
    intro m
    induction m with
    | zero => intro _; exact ⟨fun _ => [], fun _ => t2, rfl, fun i hi => by omega⟩
    | succ m ihm =>
      intro hm
      obtain ⟨f, ts, e0, hf⟩ := ihm (by omega)
      have okm : (ts m).ok := by
       cases m with
       | zero => rw [e0]; exact ok2
       | succ m => exact (hf m (by omega)).2.1
      obtain ⟨e, t', ok', hle, hcb, hc⟩ := ih (ts m) okm (by omega)
      refine ⟨fun i => if i = m then e else f i, fun i => if i = m + 1 then t' else ts i, by simp [e0], fun i hi => ?_⟩
      by_cases him : i = m
      ·subst him
       simp only [if_true, show ¬ i = i + 1 by omega, if_false]
       exact ⟨okm, ok', ⟨hle, hcb⟩, hc⟩
      ·have := hf i (by omega)
       simp only [if_neg him, show ¬ i = m + 1 by omega, show ¬ i + 1 = m + 1 by omega, if_false]
       exact this
   obtain ⟨f, ts, e0, hf⟩ := hops 3 (by omega)
   clear hops ih
   have hcat : ∀ i, ∃ L : List Trm, L = ⟨(3 : Int) + v2, Val.null, 0⟩ :: ((List.range i).map f).flatten := fun i => ⟨_, rfl⟩
   obtain ⟨cat, hcat⟩ : ∃ cat : Nat → List Trm, ∀ i, cat i = ⟨(3 : Int) + v2, Val.null, 0⟩ :: ((List.range i).map f).flatten := ⟨fun i => _, fun i => rfl⟩
   have hc0 : cat 0 = [⟨(3 : Int) + v2, Val.null, 0⟩] := by rw [hcat]; rfl
   have hcs : ∀ i, cat (i + 1) = cat i ++ f i := fun i => by rw [hcat, hcat, ZC]; simp
   have hcl : ∀ i, i ≤ 3 → (cat i).length ≤ 1 + i * 4 ^ dp := by
    intro i
    induction i with
    | zero => intro _; rw [hc0]; simp
    | succ i ihi =>
      intro hi
      have h1 := ihi (by omega)
      have h2 := (hf i (by omega)).2.2.1.1
      rw [hcs, CP, EO, Hw]; omega
   have hck : (cat k).length ≤ 4 ^ (dp + 1) := by
    have h1 := hcl k hk3
    have h2 : k * 4 ^ dp ≤ 3 * 4 ^ dp := Gb _ hk3
    omega
   have okk : (ts k).ok := by
    cases k with
    | zero => rw [e0]; exact ok2
    | succ k => exact (hf k (by omega)).2.1
   have hcb : ∀ i, i ≤ 3 → ∀ x ∈ cat i, WC n x := by
    intro i
    induction i with
    | zero =>
      intro _ x hx
      rw [hc0] at hx
      obtain rfl := IT.1 hx
      intro h
      have h : (3 : Int) + v2 = 2 := h
      omega
    | succ i ihi =>
      intro hi x hx
      rw [hcs] at hx
      rcases Ej.1 hx with hx | hx
      ·exact ihi (by omega) x hx
      ·exact (hf i (by omega)).2.2.1.2 x hx
   refine ⟨cat k, ts k, okk, hck, hcb k hk3, ?_⟩
   clear hcb
   have hfr : List.take (cat k).length ((cat k).map Trm.d) = (cat k).map Trm.d := Ao (by simp)
   clear hcat
   rw [← e0] at n2
   refine AI hT Tryz.func31 Tryz.ntmps31 [.tmp 6] fun B => ?_
   repeat' first | refine KR (r := 1) ?_ | refine kz ?_ | refine Aa (ha) ?_ | refine Ah [0] (n1) ?_ | refine Ah [0] (n2) ?_ | refine JH ?_ | refine Bb Ae ?_ ?_ | exact k0 | refine Ab ?_ | refine m1 ?_ ?_
   refine A0 (X := Nat × Nat × Nat × List Trm × Tape) ([8, 9] ++ List.range' 28 11) (fun x => x.1 ≤ k ∧ x.2.2.1 = x.2.2.2.1.length ∧ x.2.2.2.1 = cat x.1 ∧ x.2.2.2.2 = ts x.1) (fun x lz => (8, .c (.arr 1 x.2.1 x.2.2.1)) :: (9, (iC ((k - x.1 : Nat) : Int))) :: lz) (fun x => [(tB x.2.2.2.2), .arr x.2.1 109 5 (x.2.2.2.1.map Trm.d)]) (fun x => k - x.1) ((0, 3, 1, [⟨(3 : Int) + v2, Val.null, 0⟩], ts 0)) ?_ ?_ ?_ ?_
   repeat' first | exact k0 | refine kw ?_ | refine Go.Abs.kv ?_ ?_ | omega
   ·exact ⟨by simp, rfl, hc0.symm, rfl⟩
   rintro ⟨i, kv, len, L, T'⟩ c ⟨hi, hlen, hL, hT'⟩
   dsimp only at hi hlen hL hT' ⊢
   have hLl : L.length ≤ 100000 := by
    have h1 := hcl i (by omega)
    have h2 : i * 4 ^ dp ≤ 3 * 4 ^ dp := Gb _ (by omega)
    rw [hL]
    have h3 : (4 : Nat) ^ 7 = 16384 := by decide
    omega
   by_cases hlt : i < k
   ·obtain ⟨_, _, ⟨hfl, _⟩, hcall⟩ := hf i (by omega)
    rw [← hT'] at hcall
    rw [show (dp : Int) = ((dp + 1 : Nat) : Int) - 1 by omega] at hcall
    have hfl2 : (f i).length ≤ 100000 := by
      have h3 : (4 : Nat) ^ 7 = 16384 := by decide
      omega
    have hnext := hcs i
    rw [← hL] at hnext
    have hts : ts (i + 1) = ts (i + 1) := rfl
    clear hf hcl hcs hL hck hc0 hT'
    generalize f i = fi at *
    generalize hq : ts (i + 1) = T2 at hcall
    repeat' first | refine kz ?_ | refine Ah [0] (hcall) ?_ | refine kf ?_ | refine kg ?_ ?_ | exact k0 | refine Ab ?_ | refine m1 ?_ ?_
    apply Ad ((i + 1, _, len + fi.length, L ++ fi, T2)) <;> (try dsimp only) <;> try repeat' first | exact k0 | refine w1 ?_ | refine Ab ?_ | refine m1 ?_ ?_ | omega
    all_goals first | (exact ⟨by omega, by simp; omega, hnext.symm, hq.symm⟩) | exact Ah'.symm | skip
   ·obtain rfl : i = k := by omega
    rw [← hL, ← hT']
    rw [← hL] at hfr
    rw [hlen]
    clear hf hcl hcs
    repeat' first | refine Bc 8 ?_ (hes := hfr) | refine kz ?_ | refine JH ?_ | refine Bb Ae ?_ ?_ | exact k0 | refine Ab ?_ | refine m1 ?_ ?_
    all_goals skip
theorem PA (n : Nat) (h1 : 1 ≤ n) (hn : n ≤ 1000) (dp : Nat) (t : Tape) (ht : t.ok) (hd : dp ≤ 8) : ∃ (e : List Trm) (t' : Tape), t'.ok ∧ e.length ≤ 4 ^ dp ∧ HC 31 [.c (.bp 0 0 0), (iC (dp : Int)), (iC (n : Int))] [(tB t)] (.c (.d (Bw e))) [(tB t')] := by
 obtain ⟨e, t', h2, h3, _, h4⟩ := WD n h1 hn dp t ht hd
 exact ⟨e, t', h2, h3, h4⟩
theorem QF (s : ByteArray) (hs : s.size ≤ 100) (n : Nat) (hn : n < 10) : PC 50 [.one (.lit (.string s)), .one (.lit (.int .i64 n))] (.v (.one (.lit (.string (s ++ (⟨#[UInt8.ofNat (48 + n)]⟩ : ByteArray)))))) := by
 have h1 : (⟨#[UInt8.ofNat (48 + n)]⟩ : ByteArray).size = 1 := rfl
 have hes : [[Dat.lit (.int .u8 (IntKind.u8.wrap (IntKind.i64.wrap (48 + (n : Int).tmod 10))))]] = [UInt8.ofNat (48 + n)].map Mu := by
  have hc : n = 0 ∨ n = 1 ∨ n = 2 ∨ n = 3 ∨ n = 4 ∨ n = 5 ∨ n = 6 ∨ n = 7 ∨ n = 8 ∨ n = 9 := by omega
  rcases hc with rfl | rfl | rfl | rfl | rfl | rfl | rfl | rfl | rfl | rfl <;> rfl
 refine Ac hT Tryz.func50 Tryz.ntmps50 [.tmp 4] fun B => ?_
 repeat' first | refine HG (l := [UInt8.ofNat (48 + n)]) ?_ (hes := hes) | (refine TB (b := (⟨#[UInt8.ofNat (48 + n)]⟩ : ByteArray)) ?_ (hv := .add (by simp only [maxLen]; omega))) | refine kz ?_ | refine BA Ae ?_ | refine B7 ?_
 all_goals rfl
theorem QG (t : Tape) (n m : Nat) (ht : t.ok) (hn : n ≤ 3) (h1 : 1 ≤ m) (hm : m ≤ 1000) : ∃ (l : List Itm) (t' : Tape), t'.ok ∧ l.length ≤ n ∧ (∀ x ∈ l, x.expr.length ≤ 16) ∧ HC 21 [.c (.bp 0 0 0), (iC (n : Int)), (iC (m : Int))] [(tB t)] (.c (.d (MU l))) [(tB t')] := by
 obtain ⟨w, t1, ok1, hw, n1⟩ := Bq t (n + 1) ht (by omega) (by omega)
 rw [show ((n + 1 : Nat) : Int) = (n : Int) + 1 by omega] at n1
 have hits : ∀ k : Nat, k ≤ w → ∃ (f : Nat → Itm) (ts : Nat → Tape), ts 0 = t1 ∧ (ts k).ok ∧ ∀ i, i < k → ∃ (z : Nat) (t2 : Tape), (z < 2 ∧ (f i).expr.length ≤ 16) ∧ (f i).name = (⟨#[107]⟩ : ByteArray) ++ (⟨#[UInt8.ofNat (48 + i)]⟩ : ByteArray) ∧ HC 30 [.c (.bp 0 0 0), .c (.d (.lit (.int .i64 2)))] [(tB ((ts i)))] (iC z) [(tB t2)] ∧ HC 31 [.c (.bp 0 0 0), (iC ((z + 1 : Nat) : Int)), (iC (m : Int))] [(tB t2)] (.c (.d (Bw (f i).expr))) [(.box 0 [.d (Dh ((ts (i + 1))).l), .d (.lit (.int .i64 ((ts (i + 1))).at_))])] := by
  intro k
  induction k with
  | zero => intro _; exact ⟨fun _ => ⟨⟨#[]⟩, []⟩, fun _ => t1, rfl, ok1, fun i hi => by omega⟩
  | succ k ih =>
    intro hk
    obtain ⟨f, ts, e0, okk, hf⟩ := ih (by omega)
    obtain ⟨z, t2, ok2, hz, n2⟩ := Bq (ts k) 2 okk (by omega) (by omega)
    obtain ⟨e, t3, ok3, hel, c3⟩ := PA m h1 hm (z + 1) t2 ok2 (by omega)
    have hel : e.length ≤ 16 := LF hel (Nat.pow_le_pow_right (show 0 < 4 by omega) (show z + 1 ≤ 2 by omega))
    refine ⟨fun i => if i = k then ⟨(⟨#[107]⟩ : ByteArray) ++ (⟨#[UInt8.ofNat (48 + k)]⟩ : ByteArray), e⟩ else f i, fun i => if i = k + 1 then t3 else ts i, by simp [e0], by simp [ok3], fun i hi => ?_⟩
    by_cases him : i = k
    · subst him
      refine ⟨z, t2, ⟨hz, by simpa using hel⟩, by simp, ?_, ?_⟩
      · simp only [show ¬ i = i + 1 by omega, if_false]; exact n2
      · simp only [if_true]; exact c3
    · have := hf i (by omega)
      simp only [if_neg him, show ¬ i = k + 1 by omega, show ¬ i + 1 = k + 1 by omega, if_false]
      exact this
 obtain ⟨f, ts, e0, okw, hf⟩ := hits w (Nat.le_refl _)
 clear hits
 refine ⟨(List.range w).map f, ts w, okw, by simp; omega, fun x hx => ?_, ?_⟩
 ·obtain ⟨i, hi, rfl⟩ := List.mem_map.1 hx
  obtain ⟨_, _, ⟨_, h⟩, _⟩ := hf i (Vd.1 hi)
  exact h
 rw [← e0] at n1
 refine AI hT Tryz.func21 Tryz.ntmps21 [.tmp 6] fun B => ?_
 repeat' first | refine kz ?_ | refine Ah [0] (n1) ?_ | refine kg ?_ ?_ | exact k0 | refine Ab ?_ | refine m1 ?_ ?_
 refine Cr 7 86 2 ?_
 refine A0 (X := Nat × Nat × Tape) ([7, 8] ++ List.range' 13 17) (fun x => x.1 ≤ w ∧ x.2.2 = ts x.1) (fun x lz => (7, .c (.arr 1 x.2.1 x.1)) :: (8, (iC ((w - x.1 : Nat) : Int))) :: lz) (fun x => [(tB x.2.2), .arr x.2.1 86 2 (((List.range x.1).map f).map Itm.d)]) (fun x => w - x.1) ((0, 2, ts 0)) ?_ ?_ ?_ ?_
 repeat' first | exact k0 | refine kw ?_ | refine kv ?_ ?_ | omega
 all_goals try (first | rfl | exact ⟨Nat.zero_le _, rfl⟩)
 rintro ⟨i, v, T'⟩ c ⟨hi, hT'⟩
 dsimp only at hi hT' ⊢
 by_cases hlt : i < w
 ·obtain ⟨z, t2, ⟨hz, _⟩, hnm, n2, c3⟩ := hf i hlt
  have hdg := QF (⟨#[107]⟩ : ByteArray) (by decide) i (by omega)
  rw [← hnm] at hdg
  rw [← hT'] at n2
  rw [show ((z + 1 : Nat) : Int) = 1 + (z : Int) by omega] at c3
  have hs : ((List.range i).map f).map Itm.d ++ [[Dat.lit (.string (f i).name), Bw (f i).expr]] = ((List.range (i + 1)).map f).map Itm.d := by rw [ZC]; simp [Itm.d]
  have hal : (((List.range i).map f).map Itm.d).length = i := by simp
  generalize f i = y at hs hdg c3
  clear hf hnm hT'
  generalize ((List.range i).map f).map Itm.d = A at hs hal ⊢
  generalize hq : ts (i + 1) = T2 at c3
  repeat' first | refine kz ?_ | refine Aa (hdg) ?_ | refine Ah [0] (n2) ?_ | refine Ah [0] (c3) ?_ | refine kg ?_ ?_ | exact k0 | refine Ab ?_ | refine m1 ?_ ?_
  apply Ad ((i + 1, _, T2)) <;> (try dsimp only) <;> try repeat' first | exact k0 | refine w1 ?_ | refine Ab ?_ | refine m1 ?_ ?_ | omega
  all_goals first
    | exact ⟨by omega, hq.symm⟩
    | (rw [Ao (by omega)]; exact hs)
    | skip
 ·obtain rfl : i = w := by omega
  rw [hT']
  clear hf
  repeat' first | (refine Bc (r := 1) (m := i) (es1 := ((List.range i).map f).map Itm.d) 7 ?_ (hl := by simp) (hes := Ao (by rw [BQ, BQ, bR]; exact Nat.le_refl _))) | refine kz ?_ | refine Bb Ae ?_ ?_ | exact k0 | refine Ab ?_ | refine m1 ?_ ?_
  all_goals rfl
theorem PB (m : Nat) (h1 : 1 ≤ m) (hm : m ≤ 1000) (t1 : Tape) (ok1 : t1.ok) : ∀ k : Nat, ∃ (f : Nat → Agg) (ts : Nat → Tape), ts 0 = t1 ∧ (ts k).ok ∧ ∀ i, i < k → ∃ (z : Nat) (t2 : Tape), z < 5 ∧ (f i).name = (⟨#[97]⟩ : ByteArray) ++ (⟨#[UInt8.ofNat (48 + i)]⟩ : ByteArray) ∧ (f i).func = z ∧ HC 30 [.c (.bp 0 0 0), .c (.d (.lit (.int .i64 5)))] [(tB ((ts i)))] (iC z) [(tB t2)] ∧
   ((z = 0 ∧ (f i).expr = [] ∧ ts (i + 1) = t2) ∨ (z ≠ 0 ∧ ∃ (q : Nat) (t3 : Tape), q < 2 ∧ HC 30 [.c (.bp 0 0 0), .c (.d (.lit (.int .i64 2)))] [(tB t2)] (iC q) [(tB t3)] ∧ HC 31 [.c (.bp 0 0 0), (iC ((q + 1 : Nat) : Int)), (iC (m : Int))] [(tB t3)] (.c (.d (Bw (f i).expr))) [(.box 0 [.d (Dh ((ts (i + 1))).l), .d (.lit (.int .i64 ((ts (i + 1))).at_))])])) := by
 intro k
 induction k with
 | zero => exact ⟨fun _ => ⟨⟨#[]⟩, 0, []⟩, fun _ => t1, rfl, ok1, fun i hi => by omega⟩
 | succ k ih =>
   obtain ⟨f, ts, e0, okk, hf⟩ := ih
   obtain ⟨z, t2, ok2, hz, n2⟩ := Bq (ts k) 5 okk (by omega) (by omega)
   obtain ⟨q, t3, ok3, hq, n3⟩ := Bq t2 2 ok2 (by omega) (by omega)
   obtain ⟨e, t4, ok4, _, c4⟩ := PA m h1 hm (q + 1) t3 ok3 (by omega)
   refine ⟨fun i => if i = k then ⟨(⟨#[97]⟩ : ByteArray) ++ (⟨#[UInt8.ofNat (48 + k)]⟩ : ByteArray), z, if z = 0 then [] else e⟩ else f i, fun i => if i = k + 1 then (if z = 0 then t2 else t4) else ts i, by simp [e0], ?_, fun i hi => ?_⟩
   · simp only [if_true]; split
     ·exact ok2
     ·exact ok4
   · by_cases him : i = k
     ·subst him
      refine ⟨z, t2, hz, by simp, by simp, ?_, ?_⟩
      ·simp only [show ¬ i = i + 1 by omega, if_false]; exact n2
      ·by_cases hz0 : z = 0
       ·exact .inl ⟨hz0, by simp [hz0], by simp [hz0]⟩
       ·refine .inr ⟨hz0, q, t3, hq, n3, ?_⟩
        simp only [if_true, if_neg hz0]; exact c4
     ·have := hf i (by omega)
      simp only [if_neg him, show ¬ i = k + 1 by omega, show ¬ i + 1 = k + 1 by omega, if_false]
      exact this
theorem Y1 (t : Tape) (n m : Nat) (ht : t.ok) (hn : n ≤ 3) (h1 : 1 ≤ m) (hm : m ≤ 1000) : ∃ (l : List Agg) (t' : Tape), t'.ok ∧ l.length ≤ n ∧ (∀ x ∈ l, 0 ≤ x.func ∧ x.func ≤ 4) ∧ HC 23 [.c (.bp 0 0 0), (iC (n : Int)), (iC (m : Int))] [(tB t)] (.c (.d (SI l))) [(tB t')] := by
 obtain ⟨w, t1, ok1, hw, n1⟩ := Bq t (n + 1) ht (by omega) (by omega)
 rw [show ((n + 1 : Nat) : Int) = (n : Int) + 1 by omega] at n1
 obtain ⟨f, ts, e0, okw, hf⟩ := PB m h1 hm t1 ok1 w
 refine ⟨(List.range w).map f, ts w, okw, by simp; omega, fun x hx => ?_, ?_⟩
 ·obtain ⟨i, hi, rfl⟩ := List.mem_map.1 hx
  obtain ⟨z, _, hz, _, hfn, _⟩ := hf i (Vd.1 hi)
  rw [hfn]; omega
 rw [← e0] at n1
 refine AI hT Tryz.func23 Tryz.ntmps23 [.tmp 6] fun B => ?_
 repeat' first | refine kz ?_ | refine Ah [0] (n1) ?_ | refine kg ?_ ?_ | exact k0 | refine Ab ?_ | refine m1 ?_ ?_
 refine Cr 7 49 3 ?_
 refine A0 (X := Nat × Nat × Tape) ([7, 8, 9] ++ List.range' 14 24) (fun x => x.1 ≤ w ∧ x.2.2 = ts x.1) (fun x lz => (7, .c (.arr 1 x.2.1 x.1)) :: (8, (iC ((w - x.1 : Nat) : Int))) :: lz) (fun x => [(tB x.2.2), .arr x.2.1 49 3 (((List.range x.1).map f).map Agg.d)]) (fun x => w - x.1) ((0, 2, ts 0)) ?_ ?_ ?_ ?_
 repeat' first | exact k0 | refine kw ?_ | refine kv ?_ ?_ | omega
 all_goals try (first | rfl | exact ⟨Nat.zero_le _, rfl⟩)
 rintro ⟨i, v, T'⟩ c ⟨hi, hT'⟩
 dsimp only at hi hT' ⊢
 by_cases hlt : i < w
 ·obtain ⟨z, t2, hz, hnm, hfn, n2, hrest⟩ := hf i hlt
  have hdg := QF (⟨#[97]⟩ : ByteArray) (by decide) i (by omega)
  rw [← hnm] at hdg
  rw [← hT'] at n2
  rw [← hfn] at n2
  have hs : ((List.range i).map f).map Agg.d ++ [[Dat.lit (.string (f i).name), Dat.lit (.int .i64 (f i).func), Bw (f i).expr]] = ((List.range (i + 1)).map f).map Agg.d := by rw [ZC]; simp [Agg.d]
  have hal : (((List.range i).map f).map Agg.d).length = i := by simp
  generalize f i = y at hs hdg n2 hrest hfn
  clear hf hnm hT'
  generalize ((List.range i).map f).map Agg.d = A at hs hal ⊢
  generalize hq : ts (i + 1) = T2 at hrest
  obtain ⟨name, func, expr⟩ := y
  dsimp only at hs hdg n2 hrest hfn
  rcases hrest with ⟨hz0, hex, rfl⟩ | ⟨hz0, q, t3, hq2, n3, c3⟩
  ·have hf0 : func = 0 := by omega
   subst hex
   subst hf0
   repeat' first | refine kz ?_ | refine Aa (hdg) ?_ | refine Ah [0] (n2) ?_ | refine kg ?_ ?_ | exact k0 | refine Ab ?_ | refine m1 ?_ ?_
   apply Ad ((i + 1, _, T2)) <;> (try dsimp only) <;> try repeat' first | exact k0 | refine w1 ?_ | refine Ab ?_ | refine m1 ?_ ?_ | omega
   all_goals first
    | exact ⟨by omega, hq.symm⟩
    | (rw [Ao (by omega)]; exact hs)
    | skip
  ·have hf0 : func ≠ 0 := by omega
   rw [show ((q + 1 : Nat) : Int) = 1 + (q : Int) by omega] at c3
   repeat' first | refine kz ?_ | refine Aa (hdg) ?_ | refine Ah [0] (n2) ?_ | refine Ah [0] (n3) ?_ | refine Ah [0] (c3) ?_ | refine kg ?_ ?_ | exact k0 | refine Ab ?_ | refine m1 ?_ ?_
   apply Ad ((i + 1, _, T2)) <;> (try dsimp only) <;> try repeat' first | exact k0 | refine w1 ?_ | refine Ab ?_ | refine m1 ?_ ?_ | omega
   all_goals first
    | exact ⟨by omega, hq.symm⟩
    | (rw [Ao (by omega)]; exact hs)
    | skip
 ·obtain rfl : i = w := by omega
  rw [hT']
  clear hf
  repeat' first | (refine Bc (r := 1) (m := i) (es1 := ((List.range i).map f).map Agg.d) 7 ?_ (hl := by simp) (hes := Ao (by rw [BQ, BQ, bR]; exact Nat.le_refl _))) | refine kz ?_ | refine Bb Ae ?_ ?_ | exact k0 | refine Ab ?_ | refine m1 ?_ ?_
  all_goals rfl
def dL (x : Agg) : Agg := if x.func = 0 then x else ⟨x.name, 1, x.expr⟩
end Go.Proofs.YtmpgmjlanngkfaaGreat
end
