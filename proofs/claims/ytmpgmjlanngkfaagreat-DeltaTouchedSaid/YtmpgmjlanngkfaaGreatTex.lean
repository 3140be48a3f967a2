/-
  The tape: expressions.
-/
import Derived.Test.YtmpgmjlanngkfaaGreatAgf
import Derived.Test.YtmpgmjlanngkfaaGreatExn
import Derived.Test.YtmpgmjlanngkfaaGreatBso
section
namespace Go.Proofs.YtmpgmjlanngkfaaGreat
open Go.Abs Go.RowKit
attribute [local irreducible] ARun Aq MCall PCall HCall Am SF CF CFs Af Al Ap B5 AW VLe
set_option linter.unusedSimpArgs false
set_option maxRecDepth 100000
set_option maxHeartbeats 4000000
theorem WC (L : List (Val × Int)) (hl : L.length ≤ 4096) (hne : L ≠ []) (hpl : ¬ Ho L < L.length) : HC 234 [.c (.arr 0 0 L.length), .c (.d (.lit (.func (.func 236) #[] #[])))] [.arr 0 186 4 (L.map CT)] (.c (.arr 0 1 (EW L).length)) [.arr 1 186 4 ((EW L).map CT)] := by
 have hpos : 0 < L.length := VM.2 hne
 have hidx := O2 L hl
 have hll := R4 L
 have hsf : ∀ mem : List Blk, mem[0]? = some (.arr 0 186 4 (L.map CT)) → SFs mem [.c (.arr 0 0 L.length), .c (.d (.lit (.func (.func 236) #[] #[])))] [.one (ED L), .one (.lit (.func (.func 236) #[] #[]))] := fun mem hm => Nh hm (by simp) (Ag (by simp))
 rw [if_neg hpl] at hidx
 have hnn : EW L = L := by
  have := R6 L
  rw [show Ho L = L.length by omega, PQ] at this; exact this
 rw [hnn]
 refine AF hT Tryz.func234 Tryz.ntmps234 [.tmp 4] fun B => ?_
 repeat' first | refine kz ?_ | refine GC hidx (hsf _ rfl) ?_ | refine kg ?_ ?_ | exact k0 | refine Ab ?_
theorem WD {c s : Nat} {a : Int} {i : Nat} (ha : a = i) (h : i < c) : i * s = if c = a.toNat then 0 else 0 + a.toNat * s := by
 subst ha; rw [if_neg (by omega)]; simp
theorem PZ (L : List (Val × Int)) : (EW L).length ≤ L.length := PN ..
theorem WE (L : List (Val × Int)) (hl : L.length ≤ 4096) (hpl : Ho L < L.length) : HC 234 [.c (.arr 0 0 L.length), .c (.d (.lit (.func (.func 236) #[] #[])))] [.arr 0 186 4 (L.map CT)] (.c (.arr 0 1 (EW L).length)) [.arr 1 186 4 ((EW L).map CT)] := by
 have hidx := O2 L hl
 have hsf : ∀ mem : List Blk, mem[0]? = some (.arr 0 186 4 (L.map CT)) → SFs mem [.c (.arr 0 0 L.length), .c (.d (.lit (.func (.func 236) #[] #[])))] [.one (ED L), .one (.lit (.func (.func 236) #[] #[]))] := fun mem hm => Nh hm (by simp) (Ag (by simp))
 rw [if_pos hpl] at hidx
 have hv0 : L[Ho L]? = some L[Ho L] := Bi hpl
 have hn0 := O1 hv0
 have hs0 := MW hv0
 rw [if_neg (by simp [hn0]), List.append_nil, R6] at hs0
 have hl0 : (EW (L.take (Ho L + 1))).length = Ho L := by rw [hs0]; simp; omega
 have hm0 : (L.map CT).take (Ho L) = (EW (L.take (Ho L + 1))).map CT := by rw [hs0, List.map_take]
 generalize Ho L = p at hidx hpl hl0 hm0
 clear hv0 hn0 hs0
 refine AF hT Tryz.func234 Tryz.ntmps234 [.tmp 4] fun B => ?_
 repeat' first | refine kz ?_ | refine GC hidx (hsf _ rfl) ?_ | refine kg ?_ ?_ | exact k0 | refine Ab ?_
 refine AY (X := Nat × List (List Dat)) ([5, 6, 7] ++ List.range' 16 20) (fun x => x.1 ≤ L.length ∧ x.2.length = L.length ∧ (EW (L.take x.1)).length < x.1 ∧ x.2.take (EW (L.take x.1)).length = (EW (L.take x.1)).map CT ∧ x.2.drop x.1 = (L.drop x.1).map CT ∧ (∀ e ∈ x.2, e.length = 4)) (fun x lz => (6, (iC x.1)) :: (5, (iC ((EW (L.take x.1)).length))) :: lz) (fun x => [.arr 0 186 4 x.2]) (fun x => L.length - x.1) ((p + 1, L.map CT)) ?_ ?_ ?_ ?_
 repeat' first | exact k0 | refine kw ?_ | refine kv ?_ ?_ | omega
 all_goals first
  | (rw [hl0]; done)
  | (dsimp only; exact ⟨by omega, by simp, by omega, by rw [hl0]; exact hm0, by rw [List.map_drop], fun e he => by obtain ⟨y, _, rfl⟩ := List.mem_map.1 he; rfl⟩)
  | skip
 rintro ⟨j, M⟩ c ⟨hj, hM, hij, hT, hD, h4⟩
 dsimp only at hj hM hij hT hD h4 ⊢
 by_cases hjl : j < L.length
 ·obtain ⟨x, hv⟩ := gx hjl
  have hMv : M[j]? = some (CT x) := by
    have h1 : (M.drop j)[0]? = some (CT x) := by rw [hD, Az hv]; rfl
    rw [T3] at h1; simpa using h1
  have hsn := MW hv
  have hnu := Jz x
  have hD' : M.drop (j + 1) = (L.drop (j + 1)).map CT := by
    have : (M.drop j).drop 1 = ((L.drop j).map CT).drop 1 := by rw [hD]
    rw [PR, Az hv, List.map_cons, List.drop_succ_cons, List.drop_zero] at this
    exact this
  obtain ⟨n, hn⟩ : ∃ n, n = (EW (L.take j)).length := ⟨_, rfl⟩
  rw [← hn] at hij hT ⊢
  cases hnn : QQ x with
  | true =>
    rw [hnn] at hnu hsn
    rw [if_pos rfl] at hsn
    have hn' : (EW (L.take (j + 1))).length = n + 1 := by rw [hsn, Dg, ← hn]; rfl
    have hT' : (M.set n (CT x)).take (n + 1) = (EW (L.take (j + 1))).map CT := by
      rw [KL, ON (by omega), List.take_set_of_le (Nat.le_refl _), hT, hsn, As']; rfl
    have hD2 : (M.set n (CT x)).drop (j + 1) = (L.drop (j + 1)).map CT := by
      rw [List.drop_set_of_lt (by omega)]; exact hD'
    have hMn : M[n]? = some M[n] := Bi (by omega)
    have hm4 := h4 _ (Df hMn)
    generalize M[n] = mn at hMn hm4
    obtain ⟨m1, m2, m3, m4, rfl⟩ : ∃ a b c d, mn = [a, b, c, d] := by
      match mn, hm4 with
      | [a, b, c, d], _ => exact ⟨a, b, c, d, rfl⟩
    repeat' first | refine kz ?_ | refine AT hMv ?_ | refine AT hMn ?_ | refine As ?_ | refine Aa (hnu) ?_ | refine kg ?_ ?_ | exact k0 | refine Ab ?_
    apply Ae ((j + 1, M.set n (CT x))) <;> (try dsimp only) <;> try repeat' first | exact k0 | refine kw ?_ | refine kv ?_ ?_ | omega
    all_goals first
      | (rw [hn']; done)
      | (rw [hn']; rfl)
      | exact ⟨by omega, by simp [hM], by omega, by rw [hn']; exact hT', hD2, fun e he => by
          rcases XX he with q | q
          ·exact h4 e q
          ·subst q; rfl⟩
      | trace_state
  | false =>
    rw [hnn] at hnu hsn
    rw [if_neg (by decide), List.append_nil] at hsn
    repeat' first | refine kz ?_ | refine AT hMv ?_ | refine As ?_ | refine Aa (hnu) ?_ | refine kg ?_ ?_ | exact k0 | refine Ab ?_
    apply Ae ((j + 1, M)) <;> (try dsimp only) <;> try repeat' first | exact k0 | refine kw ?_ | refine kv ?_ ?_ | omega
    all_goals first
      | (rw [hsn, ← hn]; done)
      | exact ⟨by omega, hM, by rw [hsn, ← hn]; omega, by rw [hsn, ← hn]; exact hT, hD', h4⟩
      | trace_state
 ·obtain rfl : j = L.length := by omega
  rw [PQ] at hij hT ⊢
  obtain ⟨n, hn⟩ : ∃ n, n = (EW L).length := ⟨_, rfl⟩
  rw [← hn] at hij hT ⊢
  refine VR 0 rfl rfl (fun h _ => absurd (congrArg List.length h) (by simp; omega)) ?_
  intro bb cc hc hlc hcm
  rw [hM] at hlc
  simp only [List.set_cons_zero]
  have hof : L.length - n = 0 ∨ n * ti186.size = n * ti186.size := .inr rfl
  repeat' first | ((with_reducible (refine Hv ?_)); refine Z2 0 0 ?_ (by exact rfl) hc; refine P5 4 (r := 0) ?_ (by exact rfl) hc) | refine kz ?_ | refine LS ?_ | refine FZ (a := (n : Int)) (b := (L.length : Int)) (c := cc) (off' := n * ti186.size) (m' := L.length - n) (c' := cc - n) ?_ (by omega) (by omega) (by omega) (WD rfl (by omega)) (by omega) (by omega) | refine FZ (a := 0) (b := (n : Int)) (c := cc) (off' := 0) (m' := n) (c' := cc) ?_ (by omega) (by omega) (by omega) (WB _ _) (by omega) (by omega) | refine Nc (ei := ti186) (r := 0) (c := cc) (o := n) (m := L.length - n) ?_ (by exact rfl) hc (by omega) (by omega) (.inr rfl) (by exact hT) | refine Bd Ac ?_ ?_ | exact k0 | refine Ab ?_
  all_goals trace_state
theorem CI (t : Tape) (n : Nat) (ht : t.ok) (h1 : 1 ≤ n) (h2 : n ≤ 1000000) : ∃ (v : Nat) (t' : Tape), t'.ok ∧ v < n ∧ HC 30 [.c (.bp 0 0 0), .c (.d (.lit (.int .i64 n)))] [(tB t)] (iC v) [(tB t')] := by
 have h := Ix t n ht (by omega) (by omega)
 obtain ⟨b1, b2⟩ := t.nx_bd n
 have e : t.nx n = ((t.nx n).toNat : Int) := by omega
 rw [e] at h
 exact ⟨_, _, ht.go n, by omega, h⟩
def Vz (n : Nat) (x : Trm) : Prop := x.op = 2 → 0 ≤ x.col ∧ x.col < n
theorem PK (t : Tape) (n : Nat) (ht : t.ok) (h1 : 1 ≤ n) (hn : n ≤ 1000) : ∃ (x : Trm) (t' : Tape), t'.ok ∧ Vz n x ∧ HC 71 [.c (.bp 0 0 0), (iC (n : Int))] [(tB t)] (.c (.d (BR [x]))) [(tB t')] := by
 obtain ⟨v1, t1, ok1, l1, n1⟩ := CI t 3 ht (by omega) (by omega)
 by_cases h0 : v1 = 0
 ·subst h0
  obtain ⟨v2, t2, ok2, l2, n2⟩ := CI t1 2 ok1 (by omega) (by omega)
  by_cases h3 : v2 = 0
  ·subst h3
   have hc := Xq t2 ok2
   refine ⟨⟨1, t2.text, 0⟩, t2.go 10, ok2.go 10, fun h => absurd (show (1 : Int) = 2 from h) (by decide), ?_⟩
   generalize t2.go 10 = t3 at hc
   generalize t2.text = v at hc
   refine AF hT Tryz.func71 Tryz.ntmps71 [.tmp 4] fun B => ?_
   repeat' first | refine kz ?_ | refine Ak [0] (n1) ?_ | refine Ak [0] (n2) ?_ | refine Ak [0] (hc) ?_ | refine kg ?_ ?_ | exact k0 | refine Ab ?_
  ·have hc := YX t2 ok2
   refine ⟨⟨1, t2.int, 0⟩, t2.go 12, ok2.go 12, fun h => absurd (show (1 : Int) = 2 from h) (by decide), ?_⟩
   generalize t2.go 12 = t3 at hc
   generalize t2.int = v at hc
   refine AF hT Tryz.func71 Tryz.ntmps71 [.tmp 4] fun B => ?_
   repeat' first | refine kz ?_ | refine Ak [0] (n1) ?_ | refine Ak [0] (n2) ?_ | refine Ak [0] (hc) ?_ | refine kg ?_ ?_ | exact k0 | refine Ab ?_
 ·obtain ⟨v2, t2, ok2, l2, n2⟩ := CI t1 n ok1 h1 (by omega)
  refine ⟨⟨2, Val.null, v2⟩, t2, ok2, fun _ => ⟨Int.natCast_nonneg _, by show (v2 : Int) < n; omega⟩, ?_⟩
  refine AF hT Tryz.func71 Tryz.ntmps71 [.tmp 4] fun B => ?_
  repeat' first | refine kz ?_ | refine Ak [0] (n1) ?_ | refine Ak [0] (n2) ?_ | refine kg ?_ ?_ | exact k0 | refine Ab ?_
theorem VA (n : Nat) (h1 : 1 ≤ n) (hn : n ≤ 1000) : ∀ (dp : Nat) (t : Tape), t.ok → dp ≤ 8 → ∃ (e : List Trm) (t' : Tape), t'.ok ∧ e.length ≤ 4 ^ dp ∧ (∀ x ∈ e, Vz n x) ∧ HC 31 [.c (.bp 0 0 0), (iC (dp : Int)), (iC (n : Int))] [(tB t)] (.c (.d (BR e))) [(tB t')] := by
 intro dp
 induction dp with
 | zero =>
   intro t ht _
   obtain ⟨x, t', ok', hx, hc⟩ := PK t n ht h1 hn
   refine ⟨[x], t', ok', by simp, by simpa using hx, ?_⟩
   refine AF hT Tryz.func31 Tryz.ntmps31 [.tmp 6] fun B => ?_
   repeat' first | refine kz ?_ | refine Ak [0] (hc) ?_ | refine kf ?_ | refine kg ?_ ?_ | exact k0 | refine Ab ?_ | refine m1 ?_ ?_
 | succ dp ih =>
   intro t ht hdp
   have hpow : 1 ≤ 4 ^ dp := Nat.pos_of_ne_zero (by simp)
   have hpow2 : 4 ^ dp ≤ 4 ^ 7 := Nat.pow_le_pow_right (by omega) (by omega)
   have hpow3 : 4 ^ (dp + 1) = 4 * 4 ^ dp := by rw [Nat.pow_succ, MB]
   by_cases hd0 : dp = 0
   ·subst hd0
    obtain ⟨x, t', ok', hx, hc⟩ := PK t n ht h1 hn
    refine ⟨[x], t', ok', by simp, by simpa using hx, ?_⟩
    clear ih
    refine AF hT Tryz.func31 Tryz.ntmps31 [.tmp 6] fun B => ?_
    repeat' first | refine kz ?_ | refine Ak [0] (hc) ?_ | refine kf ?_ | refine kg ?_ ?_ | exact k0 | refine Ab ?_ | refine m1 ?_ ?_
   obtain ⟨v1, t1, ok1, l1, n1⟩ := CI t 4 ht (by omega) (by omega)
   by_cases h0 : v1 = 0
   ·subst h0
    obtain ⟨x, t', ok', hx, hc⟩ := PK t1 n ok1 h1 hn
    refine ⟨[x], t', ok', by simp; omega, by simpa using hx, ?_⟩
    clear ih
    refine AF hT Tryz.func31 Tryz.ntmps31 [.tmp 6] fun B => ?_
    repeat' first | refine kz ?_ | refine Ak [0] (n1) ?_ | refine Ak [0] (hc) ?_ | refine kf ?_ | refine kg ?_ ?_ | exact k0 | refine Ab ?_ | refine m1 ?_ ?_
   obtain ⟨v2, t2, ok2, l2, n2⟩ := CI t1 16 ok1 (by omega) (by omega)
   have ha := Pn ((3 : Int) + v2)
   obtain ⟨k, hk⟩ := T9 (show 0 ≤ FK ((3 : Int) + v2) by
    unfold FK
    split
    · omega
    split
    · omega
    split
    · omega
    split <;> omega)
   have hk3 : k ≤ 3 := by have := (Mb ((3 : Int) + v2)).2; omega
   rw [hk] at ha
   have hops : ∀ m : Nat, m ≤ 3 → ∃ (f : Nat → List Trm) (ts : Nat → Tape), ts 0 = t2 ∧ ∀ i, i < m → (ts i).ok ∧ (ts (i + 1)).ok ∧ ((f i).length ≤ 4 ^ dp ∧ ∀ x ∈ f i, Vz n x) ∧ HC 31 [.c (.bp 0 0 0), (iC (dp : Int)), (iC (n : Int))] [(tB ((ts i)))] (.c (.d (BR (f i)))) [(.box 0 [.d (DW ((ts (i + 1))).l), .d (.lit (.int .i64 ((ts (i + 1))).at_))])] := by
    intro m
    induction m with
    | zero => intro _; exact ⟨fun _ => [], fun _ => t2, rfl, fun i hi => by omega⟩
    | succ m ihm =>
      intro hm
      obtain ⟨f, ts, e0, hf⟩ := ihm (by omega)
      have okm : (ts m).ok := by
       cases m with
       | zero => rw [e0]; exact ok2
       | succ m => exact (hf m (by omega)).2.1
      obtain ⟨e, t', ok', hle, hcb, hc⟩ := ih (ts m) okm (by omega)
      refine ⟨fun i => if i = m then e else f i, fun i => if i = m + 1 then t' else ts i, by simp [e0], fun i hi => ?_⟩
      by_cases him : i = m
      ·subst him
       simp only [if_true, show ¬ i = i + 1 by omega, if_false]
       exact ⟨okm, ok', ⟨hle, hcb⟩, hc⟩
      ·have := hf i (by omega)
       simp only [if_neg him, show ¬ i = m + 1 by omega, show ¬ i + 1 = m + 1 by omega, if_false]
       exact this
   obtain ⟨f, ts, e0, hf⟩ := hops 3 (by omega)
   clear hops ih
   have hcat : ∀ i, ∃ L : List Trm, L = ⟨(3 : Int) + v2, Val.null, 0⟩ :: ((List.range i).map f).flatten := fun i => ⟨_, rfl⟩
   obtain ⟨cat, hcat⟩ : ∃ cat : Nat → List Trm, ∀ i, cat i = ⟨(3 : Int) + v2, Val.null, 0⟩ :: ((List.range i).map f).flatten := ⟨fun i => _, fun i => rfl⟩
   have hc0 : cat 0 = [⟨(3 : Int) + v2, Val.null, 0⟩] := by rw [hcat]; rfl
   have hcs : ∀ i, cat (i + 1) = cat i ++ f i := fun i => by rw [hcat, hcat, X7]; simp
   have hcl : ∀ i, i ≤ 3 → (cat i).length ≤ 1 + i * 4 ^ dp := by
    intro i
    induction i with
    | zero => intro _; rw [hc0]; simp
    | succ i ihi =>
      intro hi
      have h1 := ihi (by omega)
      have h2 := (hf i (by omega)).2.2.1.1
      rw [hcs, Dg, Ff, HQ]; omega
   have hck : (cat k).length ≤ 4 ^ (dp + 1) := by
    have h1 := hcl k hk3
    have h2 : k * 4 ^ dp ≤ 3 * 4 ^ dp := FO _ hk3
    omega
   have okk : (ts k).ok := by
    cases k with
    | zero => rw [e0]; exact ok2
    | succ k => exact (hf k (by omega)).2.1
   have hcb : ∀ i, i ≤ 3 → ∀ x ∈ cat i, Vz n x := by
    intro i
    induction i with
    | zero =>
      intro _ x hx
      rw [hc0] at hx
      obtain rfl := OP.1 hx
      intro h
      have h : (3 : Int) + v2 = 2 := h
      omega
    | succ i ihi =>
      intro hi x hx
      rw [hcs] at hx
      rcases Gn.1 hx with hx | hx
      ·exact ihi (by omega) x hx
      ·exact (hf i (by omega)).2.2.1.2 x hx
   refine ⟨cat k, ts k, okk, hck, hcb k hk3, ?_⟩
   clear hcb
   have hfr : List.take (cat k).length ((cat k).map Trm.d) = (cat k).map Trm.d := Ag (by simp)
   clear hcat
   rw [← e0] at n2
   refine AF hT Tryz.func31 Tryz.ntmps31 [.tmp 6] fun B => ?_
   repeat' first | refine HZ (r := 1) ?_ | refine kz ?_ | refine Aa (ha) ?_ | refine Ak [0] (n1) ?_ | refine Ak [0] (n2) ?_ | refine De ?_ | refine Bd Ac ?_ ?_ | exact k0 | refine Ab ?_ | refine m1 ?_ ?_
   refine AY (X := Nat × Nat × Nat × List Trm × Tape) ([8, 9] ++ List.range' 28 11) (fun x => x.1 ≤ k ∧ x.2.2.1 = x.2.2.2.1.length ∧ x.2.2.2.1 = cat x.1 ∧ x.2.2.2.2 = ts x.1) (fun x lz => (8, .c (.arr 1 x.2.1 x.2.2.1)) :: (9, (iC ((k - x.1 : Nat) : Int))) :: lz) (fun x => [(tB x.2.2.2.2), .arr x.2.1 109 5 (x.2.2.2.1.map Trm.d)]) (fun x => k - x.1) ((0, 3, 1, [⟨(3 : Int) + v2, Val.null, 0⟩], ts 0)) ?_ ?_ ?_ ?_
   repeat' first | exact k0 | refine kw ?_ | refine Go.Abs.kv ?_ ?_ | omega
   ·exact ⟨by simp, rfl, hc0.symm, rfl⟩
   rintro ⟨i, kv, len, L, T'⟩ c ⟨hi, hlen, hL, hT'⟩
   dsimp only at hi hlen hL hT' ⊢
   have hLl : L.length ≤ 100000 := by
    have h1 := hcl i (by omega)
    have h2 : i * 4 ^ dp ≤ 3 * 4 ^ dp := FO _ (by omega)
    rw [hL]
    have h3 : (4 : Nat) ^ 7 = 16384 := by decide
    omega
   by_cases hlt : i < k
   ·obtain ⟨_, _, ⟨hfl, _⟩, hcall⟩ := hf i (by omega)
    rw [← hT'] at hcall
    rw [show (dp : Int) = ((dp + 1 : Nat) : Int) - 1 by omega] at hcall
    have hfl2 : (f i).length ≤ 100000 := by
      have h3 : (4 : Nat) ^ 7 = 16384 := by decide
      omega
    have hnext := hcs i
    rw [← hL] at hnext
    have hts : ts (i + 1) = ts (i + 1) := rfl
    clear hf hcl hcs hL hck hc0 hT'
    generalize f i = fi at *
    generalize hq : ts (i + 1) = T2 at hcall
    repeat' first | refine kz ?_ | refine Ak [0] (hcall) ?_ | refine kf ?_ | refine kg ?_ ?_ | exact k0 | refine Ab ?_ | refine m1 ?_ ?_
    apply Ae ((i + 1, _, len + fi.length, L ++ fi, T2)) <;> (try dsimp only) <;> try repeat' first | exact k0 | refine w1 ?_ | refine Ab ?_ | refine m1 ?_ ?_ | omega
    all_goals first | (exact ⟨by omega, by simp; omega, hnext.symm, hq.symm⟩) | exact As'.symm | skip
   ·obtain rfl : i = k := by omega
    rw [← hL, ← hT']
    rw [← hL] at hfr
    rw [hlen]
    clear hf hcl hcs
    repeat' first | refine A8 8 ?_ (hes := hfr) | refine kz ?_ | refine De ?_ | refine Bd Ac ?_ ?_ | exact k0 | refine Ab ?_ | refine m1 ?_ ?_
    all_goals skip
theorem TO (n : Nat) (h1 : 1 ≤ n) (hn : n ≤ 1000) (dp : Nat) (t : Tape) (ht : t.ok) (hd : dp ≤ 8) : ∃ (e : List Trm) (t' : Tape), t'.ok ∧ e.length ≤ 4 ^ dp ∧ HC 31 [.c (.bp 0 0 0), (iC (dp : Int)), (iC (n : Int))] [(tB t)] (.c (.d (BR e))) [(tB t')] := by
 obtain ⟨e, t', h2, h3, _, h4⟩ := VA n h1 hn dp t ht hd
 exact ⟨e, t', h2, h3, h4⟩
end Go.Proofs.YtmpgmjlanngkfaaGreat
end
