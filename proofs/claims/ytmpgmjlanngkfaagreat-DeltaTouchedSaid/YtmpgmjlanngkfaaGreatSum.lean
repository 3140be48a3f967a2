/-
  Sums of entries, in plain terms: what sorting and merging make of a list is the one sorted list with the same sums.
-/
import Derived.Test.YtmpgmjlanngkfaaGreatNorm
import Derived.Test.YtmpgmjlanngkfaaGreatTap
import Derived.Test.YtmpgmjlanngkfaaGreatSrt
section
namespace Go.Proofs.YtmpgmjlanngkfaaGreat
open Go.Abs Go.RowKit
attribute [local irreducible] ARun Aq MCall PCall HCall Am SF CF CFs Af Al Ap B5 AW VLe
set_option linter.unusedSimpArgs false
set_option maxRecDepth 100000
set_option maxHeartbeats 4000000
def Dn (t : Tape) : Nat → List Val × Tape
 | 0 => ([], t)
 | j + 1 => ((Dn t j).1 ++ [(Dn t j).2.short], (Dn t j).2.go 6)
def entNums : List Int := [1, 1, 1, 2, -1, 3, -2, 0]
def Tape.num (t : Tape) : Int := entNums.getD (t.nx 8).toNat 0
def DA (t : Tape) (w : Nat) : Nat → List Entry × Tape
 | 0 => ([], t)
 | m + 1 => ((DA t w m).1 ++ [⟨(Dn (DA t w m).2 w).1, (Dn (DA t w m).2 w).2.num⟩], (Dn (DA t w m).2 w).2.go 8)
theorem Mr {t : Tape} (h : t.ok) : ∀ j, (Dn t j).2.ok ∧ (Dn t j).1.length = j
 | 0 => ⟨h, rfl⟩
 | j + 1 => by
   obtain ⟨h1, h2⟩ := Mr h j
   exact ⟨h1.go 6, by rw [Dn]; simp [h2]⟩
theorem Jf {t : Tape} (h : t.ok) (w : Nat) : ∀ m, (DA t w m).2.ok ∧ (DA t w m).1.length = m
 | 0 => ⟨h, rfl⟩
 | m + 1 => by
   obtain ⟨h1, h2⟩ := Jf h w m
   exact ⟨(Mr h1 w).1.go 8, by rw [DA]; simp [h2]⟩
theorem LB (t : Tape) (w n : Nat) (ht : t.ok) (hw : w ≤ 1000) (hn : n ≤ 1000) : HC 32 [.c (.bp 0 0 0), (iC (w : Int)), (iC (n : Int))] [(tB t)] (.c (.arr 1 1 (t.nx ((n : Int) + 1)).toNat)) [(.box 0 [.d (DW ((DA (t.go ((n : Int) + 1)) w (t.nx ((n : Int) + 1)).toNat).2).l), .d (.lit (.int .i64 ((DA (t.go ((n : Int) + 1)) w (t.nx ((n : Int) + 1)).toNat).2).at_))]), .arr 1 56 2 ((DA (t.go ((n : Int) + 1)) w (t.nx ((n : Int) + 1)).toNat).1.map Entry.d)] := by
 have hnx := Ix t ((n : Int) + 1) ht (by omega) (by omega)
 obtain ⟨b1, b2⟩ := t.nx_bd ((n : Int) + 1)
 have ht1 := ht.go ((n : Int) + 1)
 obtain ⟨i, hi⟩ := T9 b1
 rw [hi] at hnx b1 b2 ⊢
 rw [QH]
 generalize t.go ((n : Int) + 1) = t1 at hnx ht1
 have hin : i ≤ 1000 := by omega
 refine AF hT Tryz.func32 Tryz.ntmps32 [.tmp 6] fun B => ?_
 repeat' first | refine kz ?_ | refine As ?_ | refine Ak [0] (hnx) ?_ | refine kg ?_ ?_ | exact k0 | refine Ab ?_ | refine m1 ?_ ?_ | refine m2 ?_ ?_
 refine CN 7 56 2 ?_
 refine AY (X := Nat × Nat) (List.range' 7 4 ++ List.range' 15 24) (fun x => x.1 ≤ i) (fun x lz => (7, .c (.arr 1 x.2 x.1)) :: (8, (iC ((i - x.1 : Nat) : Int))) :: lz) (fun x => [(.box 0 [.d (DW ((DA t1 w x.1).2).l), .d (.lit (.int .i64 ((DA t1 w x.1).2).at_))]), .arr x.2 56 2 ((DA t1 w x.1).1.map Entry.d)]) (fun x => i - x.1) ((0, 2)) ?_ ?_ ?_ ?_
 repeat' first | exact k0 | refine kw ?_ | refine kv ?_ ?_ | omega
 rintro ⟨m, k⟩ c hm
 dsimp only at hm ⊢
 obtain ⟨hok, hlen⟩ := Jf ht1 w m
 have hstep : DA t1 w (m + 1) = ((DA t1 w m).1 ++ [⟨(Dn (DA t1 w m).2 w).1, (Dn (DA t1 w m).2 w).2.num⟩], (Dn (DA t1 w m).2 w).2.go 8) := rfl
 by_cases hlt : m < i
 ·generalize hE : DA t1 w m = E at hok hlen hstep
  obtain ⟨el, T⟩ := E
  dsimp only at hok hlen hstep ⊢
  repeat' first | refine kz ?_ | refine As ?_ | refine kg ?_ ?_ | exact k0 | refine Ab ?_ | refine m1 ?_ ?_ | refine m2 ?_ ?_
  refine CN 9 73 3 ?_
  refine AY (X := Nat × Nat) ([9, 10] ++ List.range' 19 10) (fun x => x.1 ≤ w) (fun x lz => (9, .c (.arr 2 x.2 x.1)) :: (10, (iC x.1)) :: lz) (fun x => [(.box 0 [.d (DW ((Dn T x.1).2).l), .d (.lit (.int .i64 ((Dn T x.1).2).at_))]), .arr k 56 2 (el.map Entry.d), .arr x.2 73 3 ((Dn T x.1).1.map Val.d)]) (fun x => w - x.1) ((0, c + 1)) ?_ ?_ ?_ ?_
  repeat' first | exact k0 | refine kw ?_ | refine kv ?_ ?_ | omega
  rintro ⟨j, k2⟩ c2 hj
  dsimp only at hj ⊢
  obtain ⟨rok, rlen⟩ := Mr hok j
  by_cases hlt2 : j < w
  ·have hsh := Vy (Dn T j).2 rok
   repeat' first | refine kz ?_ | refine As ?_ | refine Ak [0] (hsh) ?_ | refine kg ?_ ?_ | exact k0 | refine Ab ?_ | refine m1 ?_ ?_ | refine m2 ?_ ?_
   apply Ae ((j + 1, _)) <;> (try dsimp only) <;> try repeat' first | exact k0 | refine w1 ?_ | refine Ab ?_ | refine m1 ?_ ?_ | refine m2 ?_ ?_ | omega
   rw [Dn, As']; rfl
  ·obtain rfl : j = w := by omega
   have hnx := Ix (Dn T j).2 8 rok (by omega) (by omega)
   obtain ⟨q1, q2⟩ := (Dn T j).2.nx_bd 8
   have hvn : (entNums.map iD)[((Dn T j).2.nx 8).toNat]? = some (iD (Dn T j).2.num) := by
    rw [Ci]
    unfold Tape.num
    rw [OM, Bi (by simp [entNums]; omega)]; rfl
   have hf9 : List.take j ((Dn T j).1.map Val.d) = (Dn T j).1.map Val.d := Ag (by simp; omega)
   repeat' first | refine A8 9 ?_ (hes := hf9) | refine kz ?_ | refine AT hvn ?_ | refine As ?_ | refine Ak [0] (hnx) ?_ | refine Bd Ac ?_ ?_ | exact k0 | refine Ab ?_ | refine m1 ?_ ?_ | refine m2 ?_ ?_
   apply Ae ((m + 1, _)) <;> (try dsimp only) <;> try repeat' first | exact k0 | refine w1 ?_ | refine Ab ?_ | refine m1 ?_ ?_ | refine m2 ?_ ?_ | omega
   ·rw [hstep]
   ·rw [hstep, As']; rfl
 ·obtain rfl : m = i := by omega
  repeat' first | refine kz ?_ | refine As ?_ | refine kg ?_ ?_ | exact k0 | refine Ab ?_ | refine m1 ?_ ?_ | refine m2 ?_ ?_
end Go.Proofs.YtmpgmjlanngkfaaGreat
end
section
namespace Go.Proofs.YtmpgmjlanngkfaaGreat
open Go.Abs Go.RowKit
set_option linter.unusedSimpArgs false
set_option maxRecDepth 100000
variable {l : List Entry} {r s : List Val}
theorem QA {mem : List Blk} {r k m z : Nat} {ety : TypeId} {es x : List (List Dat)} (hm : mem[r]? = some (.arr k ety z es)) (hl : m ≤ es.length) (hx : es.take m = x) : SFs mem [.c (.arr r k m)] [.one (.sl x)] :=
 ⟨L4 hm hl (by rw [hx]), trivial⟩
def eR (a b : Entry) : Prop := Ai a.row b.row < 0
theorem Xs (a : Entry) : ¬ eR a a := by unfold eR; rw [rowCmp_ok.refl]; omega
theorem V8 (a b c : Entry) (h1 : eR a b) (h2 : eR b c) : eR a c := rowCmp_ok.trans _ _ _ h1 h2
def AZ : List Entry → List Val → Int
 | [], _ => 0
 | e :: l, r => (if Ai e.row r = 0 then e.count else 0) + AZ l r
theorem DO (a b : List Entry) (r : List Val) : AZ (a ++ b) r = AZ a r + AZ b r := by
 induction a with
 | nil => simp [AZ]
 | cons e a ih => simp only [List.cons_append, AZ, ih]; omega
theorem Ly {a b : List Entry} (h : a.Perm b) (r : List Val) : AZ a r = AZ b r := by
 induction h with
 | nil => rfl
 | cons x _ ih => simp only [AZ, ih]
 | swap x y l => simp only [AZ]; omega
 | trans _ _ ih1 ih2 => exact ih1.trans ih2
theorem Iv (h : ∀ e ∈ l, Ai e.row r ≠ 0) : AZ l r = 0 := by
 induction l with
 | nil => rfl
 | cons e l ih => rw [AZ, if_neg (h e (by simp)), ih (fun x hx => h x (by simp [hx]))]; rfl
def apart (l : List Entry) : Prop := l.Pairwise fun a b => Ai a.row b.row ≠ 0
theorem Eb (h : Ai r s = 0) : Ai s r = 0 := (rowCmp_ok.zero _ _).2 ((rowCmp_ok.zero _ _).1 h).symm
theorem FB {t : List Val} (h : Ai r s = 0) (h2 : Ai s t = 0) : Ai r t = 0 := (rowCmp_ok.zero _ _).2 (((rowCmp_ok.zero _ _).1 h).trans ((rowCmp_ok.zero _ _).1 h2))
theorem Lz (h : Ai r s = 0) (t : List Val) : (Ai r t = 0) ↔ (Ai s t = 0) :=
 ⟨fun q => FB (Eb h) q, fun q => FB h q⟩
theorem Bh (h : l.Pairwise eR) : apart l := h.imp fun {a b} q => by unfold eR at q; omega
theorem DP (h : apart l) {e : Entry} (he : e ∈ l) (hr : Ai e.row r = 0) : AZ l r = e.count := by
 induction l with
 | nil => cases he
 | cons x l ih =>
   obtain ⟨h1, h2⟩ := Fe.1 h
   rcases Dp.1 he with rfl | he
   ·rw [AZ, if_pos hr, Iv (fun y hy q => h1 y hy (FB hr (Eb q)))]; omega
   ·rw [AZ, if_neg (fun q => h1 e he (FB q (Eb hr))), ih h2 he]; omega
theorem Mq (h : AZ l r ≠ 0) : ∃ e ∈ l, Ai e.row r = 0 := by
 apply T8
 intro hn
 exact h (Iv fun e he q => hn ⟨e, he, q⟩)
def Au (r : List Val) : Prop := r.map Val.clean = r
theorem Ck (hr : Au r) (hs : Au s) (h : Ai r s = 0) : r = s := by
 have := (rowCmp_ok.zero _ _).1 h
 rw [hr, hs] at this; exact this
theorem B7 (h : A7 r = true) : Au r := by
 simp only [A7, BO, Ec] at h
 unfold Au
 conv => rhs; rw [← List.map_id r]
 apply RU
 intro v hv
 rw [Val.clean, if_pos (h.2 v hv)]; rfl
structure Sorted (l : List Entry) : Prop where
 up : l.Pairwise eR
 nz : ∀ e ∈ l, e.count ≠ 0
 cl : ∀ e ∈ l, Au e.row
theorem Sorted.unique {s t : List Entry} (hs : Sorted s) (ht : Sorted t) (h : ∀ r, AZ s r = AZ t r) : s = t := by
 have key : ∀ {s t : List Entry}, Sorted s → Sorted t → (∀ r, AZ s r = AZ t r) → ∀ e, e ∈ s → e ∈ t := by
  intro s t hs ht h e he
  have h1 := DP (Bh hs.up) he (rowCmp_ok.refl e.row)
  have h2 : AZ t e.row ≠ 0 := by rw [← h, h1]; exact hs.nz e he
  obtain ⟨x, hx, hr⟩ := Mq h2
  have h3 := DP (Bh ht.up) hx hr
  have hrow := Ck (ht.cl x hx) (hs.cl e he) hr
  have : x = e := by
   cases x; cases e
   simp only at hrow h3 h1
   rw [hrow] at *
   rw [← h] at h3
   rw [← h3, h1]
  rw [← this]; exact hx
 exact DB Xs V8 hs.up ht.up fun e => ⟨key hs ht h e, key ht hs (fun r => (h r).symm) e⟩
theorem IV (a b : List Entry) (r : List Val) : AZ (mergeE a b) r = AZ a r + AZ b r := by
 induction a, b using mergeE.induct with
 | case1 b => simp [mergeE, AZ]
 | case2 a h => rw [mergeE]; simp [AZ]; exact h
 | case3 x a y b h ih => rw [mergeE, if_pos h]; simp only [AZ] at ih ⊢; rw [ih]; omega
 | case4 x a y b h1 h2 ih => rw [mergeE, if_neg h1, if_pos h2]; simp only [AZ] at ih ⊢; rw [ih]; omega
 | case5 x a y b h1 h2 ih =>
   rw [mergeE, if_neg h1, if_neg h2, DO, ih]
   have h0 : Ai x.row y.row = 0 := by omega
   have hi := Lz h0 r
   simp only [AZ]
   split
   ·rename_i hz
    simp only [AZ]
    by_cases hq : Ai y.row r = 0
    ·rw [if_pos (hi.2 hq), if_pos hq]; omega
    ·rw [if_neg (fun q => hq (hi.1 q)), if_neg hq]; omega
   ·simp only [AZ]
    by_cases hq : Ai y.row r = 0
    ·rw [if_pos (hi.2 hq), if_pos hq]; omega
    ·rw [if_neg (fun q => hq (hi.1 q)), if_neg hq]; omega
theorem Dz (a b : List Entry) (e : Entry) : e ∈ mergeE a b → ∃ x, (x ∈ a ∨ x ∈ b) ∧ x.row = e.row := by
 induction a, b using mergeE.induct with
 | case1 b => intro h; rw [mergeE] at h; exact ⟨e, .inr h, rfl⟩
 | case2 a h => intro h'; rw [mergeE] at h'; exact ⟨e, .inl h', rfl⟩; exact h
 | case3 x a y b h ih =>
   intro h'
   rw [mergeE, if_pos h] at h'
   rcases Dp.1 h' with rfl | h'
   ·exact ⟨e, .inl (by simp), rfl⟩
   ·obtain ⟨z, hz, q⟩ := ih h'
    exact ⟨z, hz.imp (fun u => by simp [u]) id, q⟩
 | case4 x a y b h1 h2 ih =>
   intro h'
   rw [mergeE, if_neg h1, if_pos h2] at h'
   rcases Dp.1 h' with rfl | h'
   ·exact ⟨e, .inr (by simp), rfl⟩
   ·obtain ⟨z, hz, q⟩ := ih h'
    exact ⟨z, hz.imp id (fun u => by simp [u]), q⟩
 | case5 x a y b h1 h2 ih =>
   intro h'
   rw [mergeE, if_neg h1, if_neg h2] at h'
   rcases Gn.1 h' with h' | h'
   ·split at h'
    ·cases h'
    ·obtain rfl := OP.1 h'
     exact ⟨x, .inl (by simp), rfl⟩
   ·obtain ⟨z, hz, q⟩ := ih h'
    exact ⟨z, hz.imp (fun u => by simp [u]) (fun u => by simp [u]), q⟩
theorem EL {e : Entry} (h : Sorted (e :: l)) : Sorted l := ⟨(Fe.1 h.up).2, fun x hx => h.nz x (by simp [hx]), fun x hx => h.cl x (by simp [hx])⟩
theorem GY (a b : List Entry) : Sorted a → Sorted b → Sorted (mergeE a b) := by
 induction a, b using mergeE.induct with
 | case1 b => intro _ hb; rw [mergeE]; exact hb
 | case2 a h => intro ha _; rw [mergeE]; exact ha; exact h
 | case3 x a y b h ih =>
   intro ha hb
   have q := ih (EL ha) hb
   rw [mergeE, if_pos h]
   refine ⟨Fe.2 ⟨fun z hz => ?_, q.up⟩, fun z hz => ?_, fun z hz => ?_⟩
   ·obtain ⟨u, hu, hr⟩ := Dz _ _ z hz
    show Ai x.row z.row < 0
    rw [← hr]
    rcases hu with hu | hu
    ·exact (Fe.1 ha.up).1 u hu
    ·rcases Dp.1 hu with rfl | hu
     ·exact h
     ·exact rowCmp_ok.trans _ _ _ h ((Fe.1 hb.up).1 u hu)
   ·rcases Dp.1 hz with rfl | hz
    ·exact ha.nz z (by simp)
    ·exact q.nz z hz
   ·rcases Dp.1 hz with rfl | hz
    ·exact ha.cl z (by simp)
    ·exact q.cl z hz
 | case4 x a y b h1 h2 ih =>
   intro ha hb
   have h : Ai y.row x.row < 0 := (rowCmp_ok.anti _ _).2 h2
   have q := ih ha (EL hb)
   rw [mergeE, if_neg h1, if_pos h2]
   refine ⟨Fe.2 ⟨fun z hz => ?_, q.up⟩, fun z hz => ?_, fun z hz => ?_⟩
   ·obtain ⟨u, hu, hr⟩ := Dz _ _ z hz
    show Ai y.row z.row < 0
    rw [← hr]
    rcases hu with hu | hu
    ·rcases Dp.1 hu with rfl | hu
     ·exact h
     ·exact rowCmp_ok.trans _ _ _ h ((Fe.1 ha.up).1 u hu)
    ·exact (Fe.1 hb.up).1 u hu
   ·rcases Dp.1 hz with rfl | hz
    ·exact hb.nz z (by simp)
    ·exact q.nz z hz
   ·rcases Dp.1 hz with rfl | hz
    ·exact hb.cl z (by simp)
    ·exact q.cl z hz
 | case5 x a y b h1 h2 ih =>
   intro ha hb
   have h0 : Ai x.row y.row = 0 := by omega
   have q := ih (EL ha) (EL hb)
   rw [mergeE, if_neg h1, if_neg h2]
   split
   ·exact q
   ·rename_i hz
    refine ⟨Fe.2 ⟨fun z hz => ?_, q.up⟩, fun z hz' => ?_, fun z hz' => ?_⟩
    ·obtain ⟨u, hu, hr⟩ := Dz _ _ z hz
     show Ai x.row z.row < 0
     rw [← hr]
     rcases hu with hu | hu
     ·exact (Fe.1 ha.up).1 u hu
     ·exact rowCmp_ok.left ((rowCmp_ok.zero _ _).1 (Eb h0)) ((Fe.1 hb.up).1 u hu)
    ·rcases Dp.1 hz' with rfl | hz'
     ·exact hz
     ·exact q.nz z hz'
    ·rcases Dp.1 hz' with rfl | hz'
     ·exact ha.cl x (by simp)
     ·exact q.cl z hz'
theorem IW (l : List Entry) (r : List Val) : AZ (l.filter (fun e => decide (e.count ≠ 0))) r = AZ l r := by
 induction l with
 | nil => rfl
 | cons e l ih =>
   rw [Ug]
   split
   ·simp only [AZ, ih]
   ·rename_i h
    have : e.count = 0 := by simpa using h
    simp only [AZ, ih, this]; split <;> omega
theorem CE (l : List Entry) : (∀ e ∈ l, Au e.row) → Sorted (sortE l) ∧ ∀ r, AZ (sortE l) r = AZ l r := by
 induction l using sortE.induct with
 | case1 l h =>
   intro hc
   rw [sortE, dif_pos h]
   refine ⟨⟨?_, fun e he => by simpa using (KB.1 he).2, fun e he => hc e (KB.1 he).1⟩, IW l⟩
   match l, h with
   | [], _ => exact .nil
   | [e], _ => exact ZF ZI (List.pairwise_singleton _ _)
 | case2 l h ih1 ih2 =>
   intro hc
   obtain ⟨a1, a2⟩ := ih1 (fun e he => hc e (Ji he))
   obtain ⟨b1, b2⟩ := ih2 (fun e he => hc e (Uc he))
   rw [sortE, dif_neg h]
   refine ⟨GY _ _ a1 b1, fun r => ?_⟩
   rw [IV, a2, b2, ← DO, X0]
def Hl (a b : Entry) : Int := Ai a.row b.row
theorem entCmp_ok : CmpOk Hl (fun e => e.row.map Val.clean) := rowCmp_ok.comp Entry.row
theorem OC (ha : apart l) (hn : ∀ e ∈ l, e.count ≠ 0) (hc : ∀ e ∈ l, Au e.row) : Sorted (sortF Hl l) := by
 have hp := Bt entCmp_ok.swo l
 have hs := HN entCmp_ok.swo l
 refine ⟨?_, fun e he => hn e (hp.mem_iff.1 he), fun e he => hc e (hp.mem_iff.1 he)⟩
 have ha' : apart (sortF Hl l) := (hp.symm.pairwise ha (fun {a b} h q => h (Eb q)))
 refine (hs.and ha').imp ?_
 rintro a b ⟨h1, h2⟩
 unfold Hl at h1
 have := rowCmp_ok.anti a.row b.row
 show Ai a.row b.row < 0
 omega
theorem PJ {b : List Entry} (hl : ∀ e ∈ l, Au e.row) (ha : apart b) (hn : ∀ e ∈ b, e.count ≠ 0) (hc : ∀ e ∈ b, Au e.row) (h : ∀ r, AZ b r = AZ l r) : sortF Hl b = sortE l := by
 obtain ⟨s1, s2⟩ := CE l hl
 refine (OC ha hn hc).unique s1 fun r => ?_
 rw [s2, ← h, Ly (Bt entCmp_ok.swo b)]
end Go.Proofs.YtmpgmjlanngkfaaGreat
end
