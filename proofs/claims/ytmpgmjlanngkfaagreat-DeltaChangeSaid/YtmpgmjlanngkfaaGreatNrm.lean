/-
  bag.Normalize: sums in a map, rows read back, sorted: the same as the document's.
-/
import Derived.Test.YtmpgmjlanngkfaaGreatExb
import Derived.Test.YtmpgmjlanngkfaaGreatSum
import Derived.Test.YtmpgmjlanngkfaaGreatDec
import Derived.Test.YtmpgmjlanngkfaaGreatLaid
section
namespace Go.Proofs.YtmpgmjlanngkfaaGreat
open Go.Abs Go.RowKit
attribute [local irreducible] ARun Av MCall PCall HCall Ap SF CF CFs Ag Ai As fin AY VLe
set_option linter.unusedSimpArgs false
set_option maxRecDepth 100000
set_option maxHeartbeats 4000000
variable {a e : Entry} {acc l : List Entry} {j : Nat} {sb : List Nat}
theorem FZ : DeferOk Tryz.prog 154 0 := by
 refine ⟨⟨_, Tryz.func154, by kernel_rfl, by kernel_rfl⟩, fun vs w hl => ?_⟩
 match vs, hl with
 | [], _ =>
   refine callsD_of_wpS Tryz.func154 rfl fun c₀ cs hu => ?_
   apply wpS_region
   simp [wpOpsS, go_sem, recoverD, hu, Tryz.ntmps154, Exit.thenS]
   cases c₀
   simp_all [bodyPostS, results, Tryz.results154]
def DX (e : List Trm) (pos n : Nat) : Nat × Nat := match AZ [] n (e.drop pos) with
 | none => (0, pos)
 | some (x, r) => (x.1, e.length - r.length)
theorem T6 (e : List Trm) (hl : e.length ≤ 100000) : ∀ (n pos : Nat), n ≤ 200000 → pos ≤ e.length → e.length - pos < n → PC 155 [.one (AW e), .one (.lit (.int .i64 pos))] (.tup [.one (.lit (.int .i64 (DX e pos n).1)), .one (.lit (.int .i64 (DX e pos n).2))]) := by
 intro n
 induction n with
 | zero => intro pos _ _ h; omega
 | succ n ih =>
   intro pos kK hp hn
   by_cases i7 : pos < e.length
   ·obtain ⟨t, hv⟩ := gx i7
    have hd : e.drop pos = t :: e.drop (pos + 1) := AB hv
    have h1 := PR t
    cases ht : C6 t with
    | false =>
      rw [ht] at h1
      have hm : DX e pos (n + 1) = (0, pos) := by rw [DX, hd, MK ht]
      rw [hm]
      dsimp only
      clear ih
      refine Ac hT Tryz.func155 Tryz.ntmps155 [.tmp 4, .tmp 5] fun B => ?_
      repeat' first | refine kz ?_ | refine AF hv ?_ | refine Ao ?_ | refine Aa (h1) ?_ | refine kh ?_ ?_ | exact ⟨⟩ | fail
      all_goals rfl
    | true =>
      rw [ht] at h1
      have h0 : 0 ≤ EP t.op := by
       simp only [C6, BM, decide_eq_true_eq] at ht
       exact ht.1
      have h3 := (II t.op).2
      obtain ⟨k, hk⟩ := R8 h0
      have h2 := N0 t.op
      have qu : ∀ {xs r}, BG (AZ [] n) k (e.drop (pos + 1)) = some (xs, r) → DX e pos (n + 1) = (1 + Gq (xs.map Prod.fst), e.length - r.length) := fun {xs r} hs => by
       rw [DX, hd, GR ht (by rw [hk]; exact hs)]
      have l5 : BG (AZ [] n) k (e.drop (pos + 1)) = none → DX e pos (n + 1) = (0, pos) := fun hs => by
       rw [DX, hd, PU (by rw [hk]; exact hs)]
      rw [hk] at h2
      clear hd ht h0
      refine Ac hT Tryz.func155 Tryz.ntmps155 [.tmp 4, .tmp 5] fun B => ?_
      repeat' first | refine kz ?_ | refine AF hv ?_ | refine Ao ?_ | refine Aa (h1) ?_ | refine Aa (h2) ?_ | refine kh ?_ ?_ | exact ⟨⟩ | fail
      refine AK (X := Nat × Nat × Nat) (List.range' 4 6 ++ List.range' 31 16) (fun x => x.1 ≤ k ∧ pos + 1 ≤ x.2.2 ∧ x.2.2 ≤ e.length ∧ ∃ xs, BG (AZ [] n) x.1 (e.drop (pos + 1)) = some (xs, e.drop x.2.2) ∧ x.2.1 = Gq (xs.map Prod.fst) ∧ x.2.1 ≤ n) (fun x lz => (6, (iC x.2.1)) :: (7, (iC x.2.2)) :: (31, (iC x.1)) :: lz) (fun x => []) (fun x => k - x.1) ((0, 0, pos + 1)) ?_ ?_ ?_ ?_
      repeat' first | exact k0 | refine kw ?_ | omega
      ·dsimp only; exact ⟨by omega, by omega, by omega, [], rfl, rfl, by omega⟩
      rintro ⟨i, dp, en⟩ c ⟨hi, oq, oa, xs, hs, tP, tr⟩
      dsimp only at hi oq oa hs tP tr ⊢
      by_cases pW : i < k
      ·have hc := ih en (by omega) oa (by omega)
       cases hq : AZ [] n (e.drop en) with
       | none =>
         have hm : DX e en n = (0, en) := by rw [DX, hq]
         rw [hm] at hc
         rw [l5 (Hm hs hq k pW)]
         dsimp only at hc ⊢
         clear ih qu l5
         repeat' first | refine kz ?_ | refine AF hv ?_ | refine Ao ?_ | refine Aa (hc) ?_ | refine kh ?_ ?_ | exact ⟨⟩ | fail
         all_goals rfl
       | some q =>
         obtain ⟨y, r⟩ := q
         obtain ⟨j, ot, oX, lO⟩ := FB hq
         rw [Fm] at oX
         rw [Tr] at lO
         obtain ⟨-, xP, pJ⟩ := B2 [] n _ y r hq
         have hm : DX e en n = (y.1, en + j) := by
          rw [DX, hq]
          simp only [lO, Fm]
          congr 1
          omega
         rw [hm] at hc
         rw [lO] at hq
         have kE := Jl hs hq
         have mH : max dp y.1 = Gq ((xs ++ [y]).map Prod.fst) := by rw [Ag', List.map_cons, List.map_nil, T5, tP]
         dsimp only at hc
         clear ih qu l5 hm hq hs tP
         generalize xs ++ [y] = oC at kE mH
         generalize y.1 = dy at hc xP pJ mH
         repeat' first | refine kz ?_ | refine AF hv ?_ | refine Ao ?_ | refine Aa (hc) ?_ | refine kh ?_ ?_ | exact ⟨⟩ | fail
         apply Af ((i + 1, max dp dy, en + j)) <;> (try dsimp only) <;> try repeat' first | exact k0 | refine kw ?_ | omega
         ·exact ⟨by omega, by omega, by omega, oC, kE, mH, by omega⟩
      ·obtain rfl : i = k := by omega
       rw [qu hs, Fm, ← tP]
       dsimp only
       clear ih qu l5
       repeat' first | refine kz ?_ | refine AF hv ?_ | refine Ao ?_ | refine kh ?_ ?_ | exact ⟨⟩ | fail
       all_goals (refine congrArg Dat.lit (congrArg (Value.int _) ?_); omega)
   ·have hm : DX e pos (n + 1) = (0, pos) := by rw [DX, R9 (by omega)]; rfl
    rw [hm]
    dsimp only
    clear ih
    refine Ac hT Tryz.func155 Tryz.ntmps155 [.tmp 4, .tmp 5] fun B => ?_
    repeat' first | refine kz ?_ | refine Ao ?_ | refine kh ?_ ?_ | exact ⟨⟩ | fail
    all_goals rfl
theorem PW (e : List Trm) : PC 107 [.one (AW e)] (.v (.one (.lit (.bool (Cz e))))) := by
 by_cases hl : 64 < e.length
 · have h0 : Cz e = false := by rw [Cz, decide_eq_false (by omega), Bool.false_and]
   rw [h0]
   refine Ac hT Tryz.func107 Tryz.ntmps107 [.tmp 2] fun B => ?_
   repeat' first | refine kz ?_ | refine kf ?_ | refine Al rfl rfl (fun hb => ?_) (fun hb => ?_) | refine Bg (by repeat (first | exact Ad | refine Aq FZ ?_)) ?_
   all_goals rfl
 have hc : PC 155 [.one (AW e), .one (.lit (.int .i64 0))] (.tup [.one (.lit (.int .i64 (DX e 0 (e.length + 1)).1)), .one (.lit (.int .i64 (DX e 0 (e.length + 1)).2))]) := T6 e (by omega) (e.length + 1) 0 (by omega) (by omega) (by omega)
 rw [DX, List.drop_zero] at hc
 cases hq : AZ [] (e.length + 1) e with
 | none =>
   have h0 : Cz e = false := by
    rw [dZ]
    intro hh
    obtain ⟨_, x, hx⟩ := (DB e []).1 hh
    have hd := Jm [] 16 e x [] hx
    rw [List.length_nil] at hd
    rw [ER [] 16 e x [] hx (e.length + 1) (by omega)] at hq
    cases hq
   rw [hq] at hc
   rw [h0]
   dsimp only at hc
   refine Ac hT Tryz.func107 Tryz.ntmps107 [.tmp 2] fun B => ?_
   repeat' first | refine kz ?_ | refine Aa (hc) ?_ | refine kf ?_ | refine Al rfl rfl (fun hb => ?_) (fun hb => ?_) | refine Bg (by repeat (first | exact Ad | refine Aq FZ ?_)) ?_
   all_goals rfl
 | some q =>
   obtain ⟨y, r⟩ := q
   obtain ⟨-, xP, -⟩ := B2 [] _ _ y r hq
   obtain ⟨j, ot, oX, lO⟩ := FB hq
   rw [hq] at hc
   dsimp only at hc
   have nG : r.length ≤ e.length := by rw [lO, Fm]; omega
   have h0 : Cz e = (decide (y.1 ≤ 16) && decide (r.length = 0)) := by
    rw [Q2, DB e [], BM, decide_eq_true_eq, decide_eq_true_eq]
    constructor
    ·rintro ⟨_, x, hx⟩
     have hd := Jm [] 16 e x [] hx
     rw [List.length_nil] at hd
     rw [ER [] 16 e x [] hx (e.length + 1) (by omega)] at hq
     simp only [Option.some.injEq, HK] at hq
     obtain ⟨rfl, rfl⟩ := hq
     exact ⟨(B2 [] 16 e x [] hx).2.2, rfl⟩
    ·rintro ⟨h1, h2⟩
     obtain rfl := XR.1 h2
     exact ⟨by omega, y, ER [] _ e y [] hq 16 h1⟩
   rw [h0]
   have mO : y.1 ≤ e.length + 1 := (B2 [] _ _ y r hq).2.2
   clear h0 lO hq
   generalize y.1 = dy at *
   generalize r.length = rl at *
   refine Ac hT Tryz.func107 Tryz.ntmps107 [.tmp 2] fun B => ?_
   repeat' first | refine kz ?_ | refine Aa (hc) ?_ | refine kf ?_ | refine Al rfl rfl (fun hb => ?_) (fun hb => ?_) | refine Bg (by repeat (first | exact Ad | refine Aq FZ ?_)) ?_
   all_goals (refine congrArg Dat.lit (congrArg Value.bool ?_); rw [Q2]; simp; omega)
def Gr (e : List Trm) (pos n : Nat) : Int := match AZ [] n (e.drop pos) with
 | none => -1
 | some (_, r) => ((e.length - r.length : Nat) : Int)
theorem Z8 (e : List Trm) (hl : e.length ≤ 100000) : ∀ (n pos : Nat), n ≤ 1000 → pos ≤ e.length → PC 248 [.one (AW e), .one (.lit (.int .i64 pos)), .one (.lit (.int .i64 n))] (.v (.one (.lit (.int .i64 (Gr e pos n))))) := by
 intro n
 induction n with
 | zero =>
   intro pos _ hp
   have hm : Gr e pos 0 = -1 := rfl
   rw [hm]
   refine Ac hT Tryz.func248 Tryz.ntmps248 [.tmp 6] fun B => ?_
   repeat' first | refine kz ?_ | refine Ao ?_ | refine kf ?_ | refine Al rfl rfl (fun hb => ?_) (fun hb => ?_)
   all_goals rfl
 | succ n ih =>
   intro pos hn hp
   by_cases i7 : pos < e.length
   ·obtain ⟨t, hv⟩ := gx i7
    have hd : e.drop pos = t :: e.drop (pos + 1) := AB hv
    have h1 := PQ t
    have h2 := K6 t.op
    cases ht : C6 t with
    | false =>
      have hm : Gr e pos (n + 1) = -1 := by rw [Gr, hd, MK ht]
      rw [hm]
      clear ih hd hm
      by_cases h0 : EP t.op < 0
      ·refine Ac hT Tryz.func248 Tryz.ntmps248 [.tmp 6] fun B => ?_
       repeat' first | refine kz ?_ | refine AF hv ?_ | refine Ao ?_ | refine Aa (h1) ?_ | refine Aa (h2) ?_ | refine kf ?_ | refine Al rfl rfl (fun hb => ?_) (fun hb => ?_)
       all_goals rfl
      ·have hf : Di t = false := by
         rw [C6, decide_eq_true (by omega), Bool.true_and] at ht
         exact ht
       rw [hf] at h1
       clear ht
       refine Ac hT Tryz.func248 Tryz.ntmps248 [.tmp 6] fun B => ?_
       repeat' first | refine kz ?_ | refine AF hv ?_ | refine Ao ?_ | refine Aa (h1) ?_ | refine Aa (h2) ?_ | refine kf ?_ | refine Al rfl rfl (fun hb => ?_) (fun hb => ?_)
       all_goals rfl
    | true =>
      have h0 : 0 ≤ EP t.op ∧ Di t = true := by
       simpa only [C6, BM, decide_eq_true_eq] using ht
      rw [h0.2] at h1
      have h3 := (II t.op).2
      obtain ⟨k, hk⟩ := R8 h0.1
      have qu : ∀ {xs r}, BG (AZ [] n) k (e.drop (pos + 1)) = some (xs, r) → Gr e pos (n + 1) = ((e.length - r.length : Nat) : Int) := fun {xs r} hs => by
       rw [Gr, hd, GR ht (by rw [hk]; exact hs)]
      have l5 : BG (AZ [] n) k (e.drop (pos + 1)) = none → Gr e pos (n + 1) = -1 := fun hs => by
       rw [Gr, hd, PU (by rw [hk]; exact hs)]
      rw [hk] at h2
      clear hd ht h0
      refine Ac hT Tryz.func248 Tryz.ntmps248 [.tmp 6] fun B => ?_
      repeat' first | refine kz ?_ | refine AF hv ?_ | refine Ao ?_ | refine Aa (h1) ?_ | refine Aa (h2) ?_ | refine kf ?_ | refine Al rfl rfl (fun hb => ?_) (fun hb => ?_)
      refine AK (X := Nat × Nat) ([1, 6, 8] ++ List.range' 42 12) (fun x => x.1 ≤ k ∧ pos + 1 ≤ x.2 ∧ x.2 ≤ e.length ∧ ∃ xs, BG (AZ [] n) x.1 (e.drop (pos + 1)) = some (xs, e.drop x.2)) (fun x lz => (1, (iC x.2)) :: (8, (iC x.1)) :: lz) (fun x => []) (fun x => k - x.1) ((0, pos + 1)) ?_ ?_ ?_ ?_
      repeat' first | exact k0 | refine kw ?_ | omega
      ·dsimp only; exact ⟨by omega, by omega, by omega, [], rfl⟩
      rintro ⟨i, en⟩ c ⟨hi, oq, oa, xs, hs⟩
      dsimp only at hi oq oa hs ⊢
      by_cases pW : i < k
      ·have hc := ih en (by omega) oa
       rw [show (n : Int) = ((n + 1 : Nat) : Int) - 1 by omega] at hc
       cases hq : AZ [] n (e.drop en) with
       | none =>
         have hm : Gr e en n = -1 := by rw [Gr, hq]
         rw [hm] at hc
         rw [l5 (Hm hs hq k pW)]
         clear ih qu l5
         repeat' first | refine kz ?_ | refine AF hv ?_ | refine Ao ?_ | refine Aa (hc) ?_ | refine kf ?_ | refine Al rfl rfl (fun hb => ?_) (fun hb => ?_)
         all_goals rfl
       | some q =>
         obtain ⟨y, r⟩ := q
         obtain ⟨j, ot, oX, lO⟩ := FB hq
         rw [Fm] at oX
         rw [Tr] at lO
         have hm : Gr e en n = ((en + j : Nat) : Int) := by
          rw [Gr, hq]
          simp only [lO, Fm]
          congr 1
          omega
         rw [hm] at hc
         rw [lO] at hq
         have kE := Jl hs hq
         clear ih qu l5 hm hq hs
         generalize xs ++ [y] = oC at kE
         repeat' first | refine kz ?_ | refine AF hv ?_ | refine Ao ?_ | refine Aa (hc) ?_ | refine kf ?_ | refine Al rfl rfl (fun hb => ?_) (fun hb => ?_)
         apply Af ((i + 1, en + j)) <;> (try dsimp only) <;> try repeat' first | exact k0 | refine kw ?_ | omega
         ·exact ⟨by omega, by omega, by omega, oC, kE⟩
      ·obtain rfl : i = k := by omega
       rw [qu hs, Fm]
       clear ih qu l5
       repeat' first | refine kz ?_ | refine AF hv ?_ | refine Ao ?_ | refine kf ?_ | refine Al rfl rfl (fun hb => ?_) (fun hb => ?_)
       all_goals (refine congrArg Dat.lit (congrArg (Value.int _) ?_); omega)
   ·have hm : Gr e pos (n + 1) = -1 := by rw [Gr, R9 (by omega)]; rfl
    rw [hm]
    clear ih
    refine Ac hT Tryz.func248 Tryz.ntmps248 [.tmp 6] fun B => ?_
    repeat' first | refine kz ?_ | refine Ao ?_ | refine kf ?_ | refine Al rfl rfl (fun hb => ?_) (fun hb => ?_)
    all_goals rfl
theorem K7 (e : List Trm) : PC 228 [.one (AW e)] (.v (.one (.lit (.bool (Cz e))))) := by
 by_cases hl : e.length < 1 ∨ 64 < e.length
 · have h0 : Cz e = false := by
    rcases hl with hl | hl
    · obtain rfl := XR.1 (show e.length = 0 by omega)
      rfl
    · rw [Cz, decide_eq_false (by omega), Bool.false_and]
   rw [h0]
   rcases hl with hl | hl
   ·refine Ac hT Tryz.func228 Tryz.ntmps228 [.tmp 2] fun B => ?_
    repeat' first | refine kz ?_ | refine kf ?_ | fail
    all_goals rfl
   ·refine Ac hT Tryz.func228 Tryz.ntmps228 [.tmp 2] fun B => ?_
    repeat' first | refine kz ?_ | refine kf ?_ | fail
    all_goals rfl
 have hc : PC 248 [.one (AW e), .one (.lit (.int .i64 0)), .one (.lit (.int .i64 16))] (.v (.one (.lit (.int .i64 (Gr e 0 16))))) := Z8 e (by omega) 16 0 (by omega) (by omega)
 rw [Gr, List.drop_zero] at hc
 cases hq : AZ [] 16 e with
 | none =>
   have h0 : Cz e = false := by rw [Cz, hq, Bool.and_false]
   rw [hq] at hc
   rw [h0]
   dsimp only at hc
   refine Ac hT Tryz.func228 Tryz.ntmps228 [.tmp 2] fun B => ?_
   repeat' first | refine kz ?_ | refine Aa (hc) ?_ | refine kf ?_ | fail
   all_goals (refine congrArg Dat.lit (congrArg Value.bool ?_); rw [Q2]; simp; try omega)
 | some q =>
   obtain ⟨y, r⟩ := q
   obtain ⟨j, ot, oX, lO⟩ := FB hq
   rw [hq] at hc
   dsimp only at hc
   have nG : r.length ≤ e.length := by rw [lO, Fm]; omega
   have h0 : Cz e = decide (r.length = 0) := by
    rw [Cz, hq, decide_eq_true (by omega), Bool.true_and]
    cases r with
    | nil => rfl
    | cons a l => rfl
   rw [h0]
   clear h0 lO hq
   generalize r.length = rl at *
   refine Ac hT Tryz.func228 Tryz.ntmps228 [.tmp 2] fun B => ?_
   repeat' first | refine kz ?_ | refine Aa (hc) ?_ | refine kf ?_ | fail
   all_goals (refine congrArg Dat.lit (congrArg Value.bool ?_); rw [Q2]; simp; omega)
theorem Qp (l : List Entry) : PC 99 [.one (Ak l)] (.v (.one (.lit (.int .i64 (AU l).2)))) := by
 refine Ac hT Tryz.func99 Tryz.ntmps99 [.tmp 2] fun B => ?_
 repeat' first | refine kz ?_ | refine Az rfl (fun hb => ?_) (fun hb => ?_) | refine Ao ?_ | refine kf ?_ | fail
 all_goals try (first | (rw [AU, if_pos (by omega)]; rfl) | (rw [AU, if_pos (by omega)]))
 have hl : l.length ≤ 4096 := by omega
 refine AK (X := Nat) ([2, 4] ++ List.range' 10 9) (fun x => x ≤ l.length ∧ (l.take x).all (fun e => AD e.count) = true) (fun x lz => (10, (iC x)) :: lz) (fun x => []) (fun x => l.length - x) (0) ?_ ?_ ?_ ?_
 repeat' first | exact k0 | refine kw ?_ | omega
 ·exact ⟨by simp, by simp⟩
 rintro i c ⟨hi, hinv⟩
 by_cases i7 : i < l.length
 ·obtain ⟨e, hv⟩ := gx i7
  repeat' first | refine kz ?_ | refine Az rfl (fun hb => ?_) (fun hb => ?_) | refine AF hv ?_ | refine Ao ?_ | refine Aa (Mq _) ?_ | refine kf ?_ | fail
  ·rw [AU, if_neg (by omega), Ey (fun e : Entry => AD e.count) hv hb]; rfl
  ·apply Af (i + 1) <;> (try dsimp only) <;> try repeat' first | exact k0 | refine kw ?_ | omega
   exact ⟨by omega, CX (fun e : Entry => AD e.count) hv hinv hb⟩
 ·rw [Ah (by omega)] at hinv
  repeat' first | refine kz ?_ | refine Az rfl (fun hb => ?_) (fun hb => ?_) | refine Ao ?_ | refine kf ?_ | fail
  all_goals (rw [AU, if_neg (by omega), hinv]; rfl)
theorem UF (a b : Entry) : PC 202 [.agg a.d, .agg b.d] (.v (.one (.lit (.int .i64 (Ed a b))))) := by
 refine Ac hT Tryz.func202 Tryz.ntmps202 [.tmp 4] fun B => ?_
 repeat' first | refine kz ?_ | refine Aa (Bm _ _) ?_ | refine kf ?_ | fail
 all_goals rfl
theorem BQ : DeferOk Tryz.prog 199 0 := by
 refine ⟨⟨_, Tryz.func199, by kernel_rfl, by kernel_rfl⟩, fun vs w hl => ?_⟩
 match vs, hl with
 | [], _ =>
   refine callsD_of_wpS Tryz.func199 rfl fun c₀ cs hu => ?_
   apply wpS_region
   simp [wpOpsS, go_sem, recoverD, hu, Tryz.ntmps199, Exit.thenS]
   cases c₀
   simp_all [bodyPostS, results, Tryz.results199]
def ad (e : Entry) : Value × PV := (.string ⟨(Ar e.row).toArray⟩, .one (.lit (.int .i64 e.count)))
theorem Xh {a b : List UInt8} (h : Value.string ⟨a.toArray⟩ = Value.string ⟨b.toArray⟩) : a = b := by
 injection h with h; injection h with h
 simpa using congrArg Array.toList h
theorem IS (acc : List Entry) : ∀ e ∈ acc.map ad, JW e.1 := fun e he => by
 obtain ⟨x, _, rfl⟩ := List.mem_map.1 he
 exact ⟨_, rfl⟩
structure SumOk (acc l : List Entry) (M : Int) : Prop where
 ap : apart acc
 ok : ∀ e ∈ acc, AR e.row = true
 sm : ∀ r, Bn acc r = Bn l r
 bd : Ba M acc
 ln : acc.length ≤ l.length
theorem UG {b : Entry} (h : apart l) (hj : l[j]? = some a) (hr : a.row = b.row) : apart (l.set j b) := by
 unfold apart at *
 rw [XQ] at h ⊢
 intro i k hi hk pW
 simp only [JG] at hi hk
 have hg : ∀ m (hm : m < l.length), ((l.set j b)[m]'(by simpa using hm)).row = l[m].row := by
  intro m hm
  rw [List.getElem_set]
  split
  ·rename_i q; subst q
   rw [Bo hm] at hj
   rw [← hr]; injection hj with hj; rw [hj]
  ·rfl
 rw [hg i hi, hg k hk]
 exact h i k hi hk pW
theorem Xi {b : Entry} (hj : l[j]? = some a) (hr : a.row = b.row) (r : List Val) : Bn (l.set j b) r = Bn l r + (if Aj a.row r = 0 then b.count - a.count else 0) := by
 induction l generalizing j with
 | nil => cases hj
 | cons x l ih =>
   cases j with
   | zero =>
     simp only [List.getElem?_cons_zero, Option.some.injEq] at hj
     subst hj
     simp only [List.set_cons_zero, Bn, ← hr]
     split <;> omega
   | succ j =>
     simp only [List.getElem?_cons_succ] at hj
     simp only [List.set_cons_succ, Bn, ih hj]
     omega
theorem SumOk.old {M : Int} (h : SumOk acc l M) (hj : acc[j]? = some a) (hk : Aj a.row e.row = 0) (he : -262144 ≤ e.count ∧ e.count ≤ 262144) : SumOk (acc.set j ⟨a.row, a.count + e.count⟩) (l ++ [e]) (M + 262144) := by
 have hm : a ∈ acc := Cb hj
 refine ⟨UG (b := ⟨a.row, a.count + e.count⟩) h.ap hj rfl, fun x hx => ?_, fun r => ?_, fun x hx => ?_, by simp; exact Nat.le_succ_of_le h.ln⟩
 ·rcases aP hx with hx | rfl
  ·exact h.ok x hx
  ·exact h.ok a hm
 ·rw [Xi (b := ⟨a.row, a.count + e.count⟩) hj rfl, h.sm, De]
  have := Ni hk r
  simp only [Bn]
  by_cases hq : Aj e.row r = 0
  ·rw [if_pos (this.2 hq), if_pos hq]; omega
  ·rw [if_neg (fun q => hq (this.1 q)), if_neg hq]; omega
 ·rcases aP hx with hx | rfl
  ·have := h.bd x hx; omega
  ·have := h.bd a hm; simp only; omega
theorem SumOk.new {M : Int} (h : SumOk acc l M) (hn : ∀ a ∈ acc, Aj a.row e.row ≠ 0) (ho : AR e.row = true) (he : -262144 ≤ e.count ∧ e.count ≤ 262144) (hM : 0 ≤ M) : SumOk (acc ++ [e]) (l ++ [e]) (M + 262144) := by
 refine ⟨?_, fun x hx => ?_, fun r => ?_, fun x hx => ?_, by simp; exact h.ln⟩
 ·refine aV.2 ⟨h.ap, dB _ _, fun a ha b hb => ?_⟩
  obtain rfl := Ke.1 hb
  exact hn a ha
 ·rcases EY.1 hx with hx | hx
  ·exact h.ok x hx
  ·obtain rfl := Ke.1 hx; exact ho
 ·rw [De, De, h.sm]
 ·rcases EY.1 hx with hx | hx
  ·have := h.bd x hx; omega
  ·obtain rfl := Ke.1 hx; omega
def M4 (acc : List Entry) (sb : List Nat) : List Entry := (sb.filterMap (acc[·]?)).filter (fun e => decide (e.count ≠ 0))
theorem RT {b : Nat} (h : acc[b]? = some e) : M4 acc (sb ++ [b]) = M4 acc sb ++ (if e.count = 0 then [] else [e]) := by
 unfold M4
 rw [List.filterMap_append, ZC]
 congr 1
 simp only [dX, h, List.filterMap_nil]
 by_cases hq : e.count = 0
 ·simp [hq]
 ·simp [hq]
theorem UH (hn : sb.Nodup) (hs : ∀ b ∈ sb, b < acc.length) (j9 : ∀ b ∈ List.range acc.length, b ∈ sb) : (M4 acc sb).Perm (acc.filter (fun e => decide (e.count ≠ 0))) := by
 have hp : sb.Perm (List.range acc.length) := by
  rw [List.perm_ext_iff_of_nodup hn List.nodup_range]
  intro b
  exact ⟨fun h => XX.2 (hs b h), j9 b⟩
 refine ((hp.filterMap (acc[·]?)).filter _).trans (.of_eq ?_)
 congr 1
 apply Sa
 intro i
 have : ∀ (l : List Entry) , (List.range l.length).filterMap (l[·]?) = l := by
  intro l
  induction l with
  | nil => rfl
  | cons x l ih =>
    rw [List.length_cons, List.range_succ_eq_map, dX]
    simp only [List.getElem?_cons_zero, List.filterMap_map]
    congr 1
 rw [this]
theorem Qq : ∀ (n : Nat) (l : List Nat), l.Nodup → (∀ b ∈ l, b < n) → l.length ≤ n
 | 0, l, _, h => by
   cases l with
   | nil => simp
   | cons x l => have := h x (by simp); omega
 | n + 1, l, hn, h => by
   have := Qq n (l.erase n) (hn.erase n) (fun b hb => by
     have h1 := (hn.mem_erase_iff).1 hb
     have := h b h1.2
     have := h1.1
     omega)
   rw [List.length_erase] at this
   split at this <;> omega
theorem Ih {n : Nat} (mQ : sb.Nodup) (pM : ∀ b ∈ sb, b < n) (hn : ¬ j ∈ sb) (hj : j < n) : (sb ++ [j]).Nodup ∧ ∀ b ∈ sb ++ [j], b < n := by
 refine ⟨?_, fun b hb => ?_⟩
 ·rw [ZD]
  exact ⟨mQ, by simp, fun a ha b hb => by rintro rfl; simp at hb; subst hb; exact hn ha⟩
 ·rcases EY.1 hb with hb | hb
  ·exact pM b hb
  ·simp at hb; omega
theorem UI {a b : List Entry} (h : a.Perm b) : (AU a).2 = (AU b).2 := by
 unfold AU
 rw [h.length_eq]
 have : a.all (fun e => AD e.count) = b.all (fun e => AD e.count) := by
  rw [Q2, Eg, Eg]
  exact ⟨fun q x hx => q x (h.mem_iff.2 hx), fun q x hx => q x (h.mem_iff.1 hx)⟩
 rw [this]
 split
 ·rfl
 ·split <;> rfl
theorem Od {a : List Entry} (h : (AU a).2 = 0) : (AU a).1 = a := by
 unfold AU at *
 split at h
 ·cases h
 ·split at h
  ·rename_i h1 h2; rw [if_neg h1, if_pos h2]
  ·cases h
theorem Qr {a : List Entry} (h : (AU a).2 ≠ 0) : (AU a).1 = [] := by
 unfold AU at *
 split at h
 ·rename_i h1; rw [if_pos h1]
 ·split at h
  ·exact absurd rfl h
  ·rename_i h1 h2; rw [if_neg h1, if_neg h2]
theorem IT (l : List Entry) (hlen : l.length ≤ 1000000) : PC 146 [.one (Ak l)] (.tup [.one (Ak (Bh l).1), .one (.lit (.int .i64 (Bh l).2))]) := by
 refine Ac hT Tryz.func146 Tryz.ntmps146 [.tmp 2, .tmp 3] fun B => ?_
 repeat' first | refine kz ?_ | refine Az rfl (fun hb => ?_) (fun hb => ?_) | refine Ao ?_ | refine Aw (by repeat (first | exact Ad | refine Aq BQ ?_)) ?_ ?_ | refine kh ?_ ?_ | exact ⟨⟩ | fail
 refine AK (X := Nat × List Entry) ([2, 3, 6] ++ List.range' 16 16) (fun x => x.1 ≤ l.length ∧ (l.take x.1).all Bb = true ∧ SumOk x.2 (l.take x.1) (262144 * x.1)) (fun x lz => (16, (iC x.1)) :: lz) (fun x => [.map 1 9 2 (x.2.map ad) (List.range x.2.length) x.2.length]) (fun x => l.length - x.1) ((0, [])) ?_ ?_ ?_ ?_
 repeat' first | exact k0 | refine kw ?_ | refine kv ?_ ?_ | refine m3 ?_ ?_ ?_ ?_ | omega
 ·exact ⟨by simp, by simp, .nil, by simp, fun r => by simp, fun e he => by simp at he, by simp⟩
 rintro ⟨i, acc⟩ c ⟨hi, j9, ll⟩
 dsimp only at hi j9 ll ⊢
 by_cases i7 : i < l.length
 ·obtain ⟨e, hv⟩ := gx i7
  have ju : l.take (i + 1) = l.take i ++ [e] := by rw [Gm, hv]; rfl
  cases jG : Bb e with
  | false =>
    have sJ := Em e
    rw [show (AD e.count && AR e.row) = false by rw [Bool.and_comm]; exact jG] at sJ
    repeat' first | refine kz ?_ | refine Az rfl (fun hb => ?_) (fun hb => ?_) | refine AF hv ?_ | refine Ao ?_ | refine Aa (sJ) ?_ | refine Aw (by repeat (first | exact Ad | refine Aq BQ ?_)) ?_ ?_ | refine kh ?_ ?_ | exact ⟨⟩ | fail
    all_goals (rw [Bh, Ey Bb hv jG]; rfl)
  | true =>
    have sJ := Em e
    rw [show (AD e.count && AR e.row) = true by rw [Bool.and_comm]; exact jG] at sJ
    have mu : AR e.row = true := by simp only [Bb, BM] at jG; exact jG.1
    have nT : -262144 ≤ e.count ∧ e.count ≤ 262144 := by simp only [Bb, AD, BM, decide_eq_true_eq] at jG; exact jG.2
    have nG : e.row.length ≤ 10000 := by simp only [AR, BM, decide_eq_true_eq] at mu; omega
    have qT := CX Bb hv j9 jG
    by_cases hex : ∃ (j : Nat) (a : Entry), acc[j]? = some a ∧ Aj a.row e.row = 0
    ·obtain ⟨j, a, hj, hk⟩ := hex
     have uD : (acc.map ad)[j]? = some (.string ⟨(Ar e.row).toArray⟩, .one (.lit (.int .i64 a.count))) := by
      rw [BU, hj, ← Cm.2 hk]; rfl
     have lZ := ll.bd a (Cb hj)
     have jV := ll.old hj hk nT
     repeat' first | refine kz ?_ | refine Az rfl (fun hb => ?_) (fun hb => ?_) | refine AF hv ?_ | refine Ao ?_ | refine Aa (sJ) ?_ | refine Aa (CJ _ nG) ?_ | refine Zb uD ⟨_, rfl⟩ (IS _) ?_ | refine Xo uD ⟨_, rfl⟩ (IS _) ?_ | refine Aw (by repeat (first | exact Ad | refine Aq BQ ?_)) ?_ ?_ | refine kh ?_ ?_ | exact ⟨⟩ | fail
     apply Af ((i + 1, acc.set j ⟨a.row, a.count + e.count⟩)) <;> (try dsimp only) <;> try repeat' first | exact k0 | refine kw ?_ | refine kv ?_ ?_ | refine m3 ?_ ?_ ?_ ?_ | omega
     ·rw [Sb, ad, Cm.2 hk]
     ·rw [JG]
     ·rw [JG]
     ·exact ⟨by omega, qT, by rw [ju, show (262144 : Int) * ((i + 1 : Nat) : Int) = 262144 * (i : Int) + 262144 by omega]; exact jV⟩
    ·have l5 : ∀ x ∈ acc.map ad, x.1 ≠ .string ⟨(Ar e.row).toArray⟩ := fun x hx h => by
      obtain ⟨a, ha, rfl⟩ := List.mem_map.1 hx
      obtain ⟨j, hj⟩ := L0.1 ha
      exact hex ⟨j, a, hj, Cm.1 (Xh h)⟩
     have jV := ll.new (e := e) (fun a ha h => by
      obtain ⟨j, hj⟩ := L0.1 ha
      exact hex ⟨j, a, hj, h⟩) mu nT (by omega)
     repeat' first | refine kz ?_ | refine Az rfl (fun hb => ?_) (fun hb => ?_) | refine AF hv ?_ | refine Ao ?_ | refine Aa (sJ) ?_ | refine Aa (CJ _ nG) ?_ | refine Zc l5 ⟨_, rfl⟩ (IS _) ?_ | refine Qt l5 ⟨_, rfl⟩ (IS _) ?_ | refine Aw (by repeat (first | exact Ad | refine Aq BQ ?_)) ?_ ?_ | refine kh ?_ ?_ | exact ⟨⟩ | fail
     apply Af ((i + 1, acc ++ [e])) <;> (try dsimp only) <;> try repeat' first | exact k0 | refine kw ?_ | refine kv ?_ ?_ | refine m3 ?_ ?_ ?_ ?_ | omega
     ·rw [Ag', Int.zero_add]; rfl
     ·rw [CR, Tm, aY]
     ·simp
     ·exact ⟨by omega, qT, by rw [ju, show (262144 : Int) * ((i + 1 : Nat) : Int) = 262144 * (i : Int) + 262144 by omega]; exact jV⟩
 ·rw [Ah (by omega)] at j9 ll
  have kJ : (i : Int) ≤ 1000000 := by omega
  repeat' first | refine kz ?_ | refine Az rfl (fun hb => ?_) (fun hb => ?_) | refine Ao ?_ | refine Aw (by repeat (first | exact Ad | refine Aq BQ ?_)) ?_ ?_ | refine kh ?_ ?_ | exact ⟨⟩ | fail
  refine Bv 7 56 2 ?_
  refine AK (X := List Nat × Nat × List Entry) ([2, 3] ++ List.range' 7 5 ++ List.range' 34 21) (fun x => x.1.Nodup ∧ (∀ b ∈ x.1, b < acc.length) ∧ x.2.2 = M4 acc x.1) (fun x lz => (7, .c (.arr 2 x.2.1 x.2.2.length)) :: lz) (fun x => [.map 1 9 2 (acc.map ad) (List.range acc.length) acc.length, .iter (c + 1) 0 1 acc.length x.1, .arr x.2.1 56 2 (x.2.2.map Entry.d)]) (fun x => acc.length - x.1.length) (([], c + 1 + 1, [])) ?_ ?_ ?_ ?_
  repeat' first | exact k0 | refine kw ?_ | refine kv ?_ ?_ | refine m3 ?_ ?_ ?_ ?_ | omega
  · exact ⟨.nil, by simp, rfl⟩
  rintro ⟨sb, kv, out⟩ c2 ⟨mQ, pM, jR⟩
  dsimp only at mQ pM jR ⊢
  have hle : ∀ j, j < acc.length → ¬ j ∈ sb → sb.length + 1 ≤ acc.length := fun j hj hn => by
    have hq := Ih mQ pM hn hj
    have := Qq acc.length (sb ++ [j]) hq.1 hq.2
    simpa using this
  repeat' first | refine kz ?_ | refine Az rfl (fun hb => ?_) (fun hb => ?_) | refine Ao ?_ | refine cq (fun rT => ?_) (fun j bb kv p ot oX lO => ?_) | refine Aw (by repeat (first | exact Ad | refine Aq BQ ?_)) ?_ ?_ | refine kh ?_ ?_ | exact ⟨⟩ | fail
  · have jU := UH mQ pM rT
    rw [← jR] at jU
    have ub : ∀ e ∈ l, AE e.row := fun e he => by
     have := Eg.1 j9 e he
     simp only [Bb, BM] at this
     exact Bu this.1
    have jt : ∀ e, e ∈ out → e ∈ acc ∧ e.count ≠ 0 := fun e he => by
     have := L1.1 (jU.mem_iff.1 he)
     exact ⟨this.1, by simpa using this.2⟩
    have qL : apart out := (jU.symm.pairwise (ll.ap.filter _) (fun {a b} h q => h (ED q)))
    have tQ := LK ub qL (fun e he => (jt e he).2) (fun e he => Bu (ll.ok e (jt e he).1)) (fun r => by rw [Nh jU, J2, ll.sm])
    have wq := Br entCmp_ok.swo out
    rw [tQ] at wq
    have qp := UI wq
    have j2 : Bh l = AU (sortE l) := by rw [Bh, if_pos j9]
    have lN := Qp out
    have jM := ll.ln
    have mP : out.length ≤ acc.length := by
     rw [jU.length_eq]; exact Q1 ..
    rw [← qp] at lN
    have hS := Lp Entry.d (fun _ => rfl) Ed entCmp_ok.swo 202 out (by omega) (fun x _ y _ => UF x y)
    rw [tQ] at hS
    have ha : ∀ mem : List Blk, mem[2]? = some (.arr kv 56 2 (out.map Entry.d)) → SFs mem [.c (.arr 2 kv out.length)] [.one (Ak out)] := fun mem hm =>
     Kq hm (by simp) (Ah (by simp))
    rw [j2]
    by_cases hz : (AU (sortE l)).2 = 0
    ·have lj := Od hz
     rw [lj, hz]
     rw [hz] at lN
     have mF := wq.length_eq
     repeat' first | refine kz ?_ | refine Az rfl (fun hb => ?_) (fun hb => ?_) | refine Ao ?_ | refine Ae [2] (hS) ?_ | refine E6 lN (ha _ rfl) ?_ | refine Aw (by repeat (first | exact Ad | refine Aq BQ ?_)) ?_ ?_ | refine kh ?_ ?_ | exact ⟨⟩ | fail
     ·simp; omega
     ·rw [Ah (by simp; omega)]; rfl
     ·rfl
    ·have lj := Qr hz
     rw [lj]
     generalize (AU (sortE l)).2 = er at hz lN
     repeat' first | refine kz ?_ | refine Az rfl (fun hb => ?_) (fun hb => ?_) | refine Ao ?_ | refine E6 lN (ha _ rfl) ?_ | refine Aw (by repeat (first | exact Ad | refine Aq BQ ?_)) ?_ ?_ | refine kh ?_ ?_ | exact ⟨⟩ | fail
     all_goals rfl
  · have ky : j < acc.length := by simpa using lt_of_getElem? ot
    obtain rfl : j = bb := by
     rw [List.getElem?_range ky] at ot; injection ot
    have hg : acc[j]? = some acc[j] := Bo ky
    have xQ := ll.ok _ (Fo ky)
    generalize acc[j] = e at hg xQ
    rw [BU, hg] at lO
    injection lO with lO
    injection lO with h1 h2
    subst h1; subst h2
    have lO : (acc.map ad)[j]? = some (ad e) := by rw [BU, hg]; rfl
    have jc := RT (sb := sb) hg
    have k9 := hle j ky oX
    have jM := ll.ln
    have mP : out.length ≤ sb.length := by
     rw [jR, M4]
     exact LX (Q1 ..) (List.length_filterMap_le ..)
    simp only [List.set_cons_succ, List.set_cons_zero]
    repeat' first | refine kz ?_ | refine Az rfl (fun hb => ?_) (fun hb => ?_) | refine Ao ?_ | refine Aa (GH _ xQ) ?_ | refine Zd ot lO (fun _ _ => .c (.d (.lit _ rfl))) ?_ | refine Aw (by repeat (first | exact Ad | refine Aq BQ ?_)) ?_ ?_ | refine kh ?_ ?_ | exact ⟨⟩ | fail
    ·have kK : (sb ++ [j]).Nodup ∧ ∀ b ∈ sb ++ [j], b < acc.length := Ih mQ pM oX ky
     apply Af ((sb ++ [j], kv, out)) <;> (try dsimp only) <;> try repeat' first | exact k0 | refine kw ?_ | refine kv ?_ ?_ | refine m3 ?_ ?_ ?_ ?_ | omega
     ·exact ⟨kK.1, kK.2, by rw [jc, if_pos hb, List.append_nil]; exact jR⟩
     ·rw [CR, Tm]; omega
    ·have kK : (sb ++ [j]).Nodup ∧ ∀ b ∈ sb ++ [j], b < acc.length := Ih mQ pM oX ky
     apply Af ((sb ++ [j], _, out ++ [e])) <;> (try dsimp only) <;> try repeat' first | exact k0 | refine w1 ?_ | refine Ab ?_ | refine m1 ?_ ?_ | refine m3 ?_ ?_ ?_ ?_ | omega
     ·rw [Ag']; rfl
     ·exact ⟨kK.1, kK.2, by rw [jc, if_neg hb, ← jR]⟩
     ·rw [CR, Tm]; omega
end Go.Proofs.YtmpgmjlanngkfaaGreat
end
