/-
  bag.Normalize: sums in a map, rows read back, sorted: the same as the document's.
-/
import Derived.Test.YtmpgmjlanngkfaaGreatSum
import Derived.Test.YtmpgmjlanngkfaaGreatDec
import Derived.Test.YtmpgmjlanngkfaaGreatLaid
section
namespace Go.Proofs.YtmpgmjlanngkfaaGreat
open Go.Abs Go.RowKit
attribute [local irreducible] ARun Au MCall PCall HCall Ak SF CF CFs Af Ag Ar fin AP VLe
set_option linter.unusedSimpArgs false
set_option maxRecDepth 100000
set_option maxHeartbeats 4000000
variable {a e : Entry} {acc l : List Entry} {j : Nat} {sb : List Nat}
theorem Oi (l : List Entry) : PC 99 [.one (Am l)] (.v (.one (.lit (.int .i64 (AS l).2)))) := by
 refine Ac hT Tryz.func99 Tryz.ntmps99 [.tmp 2] fun B => ?_
 repeat' first | refine kz ?_ | refine AN rfl (fun hb => ?_) (fun hb => ?_) | refine Aw ?_ | refine kf ?_ | fail
 all_goals try (first | (rw [AS, if_pos (by omega)]; rfl) | (rw [AS, if_pos (by omega)]))
 have hl : l.length ≤ 4096 := by omega
 refine A0 (X := Nat) ([2, 4] ++ List.range' 10 9) (fun x => x ≤ l.length ∧ (l.take x).all (fun e => Av e.count) = true) (fun x lz => (10, (iC x)) :: lz) (fun x => []) (fun x => l.length - x) (0) ?_ ?_ ?_ ?_
 repeat' first | exact k0 | refine kw ?_ | omega
 ·exact ⟨by simp, by simp⟩
 rintro i c ⟨hi, hinv⟩
 by_cases hlt : i < l.length
 ·obtain ⟨e, hv⟩ := gx hlt
  repeat' first | refine kz ?_ | refine AN rfl (fun hb => ?_) (fun hb => ?_) | refine AX hv ?_ | refine Aw ?_ | refine Aa (KP _) ?_ | refine kf ?_ | fail
  ·rw [AS, if_neg (by omega), Ee (fun e : Entry => Av e.count) hv hb]; rfl
  ·apply Ad (i + 1) <;> (try dsimp only) <;> try repeat' first | exact k0 | refine kw ?_ | omega
   exact ⟨by omega, Dg (fun e : Entry => Av e.count) hv hinv hb⟩
 ·rw [Ao (by omega)] at hinv
  repeat' first | refine kz ?_ | refine AN rfl (fun hb => ?_) (fun hb => ?_) | refine Aw ?_ | refine kf ?_ | fail
  all_goals (rw [AS, if_neg (by omega), hinv]; rfl)
theorem RR (a b : Entry) : PC 202 [.agg a.d, .agg b.d] (.v (.one (.lit (.int .i64 (Dn a b))))) := by
 refine Ac hT Tryz.func202 Tryz.ntmps202 [.tmp 4] fun B => ?_
 repeat' first | refine kz ?_ | refine Aa (Bf _ _) ?_ | refine kf ?_ | fail
 all_goals rfl
theorem Bp : DeferOk Tryz.prog 199 0 := by
 refine ⟨⟨_, Tryz.func199, by kernel_rfl, by kernel_rfl⟩, fun vs w hl => ?_⟩
 match vs, hl with
 | [], _ =>
   refine callsD_of_wpS Tryz.func199 rfl fun c₀ cs hu => ?_
   apply wpS_region
   simp [wpOpsS, go_sem, recoverD, hu, Tryz.ntmps199, Exit.thenS]
   cases c₀
   simp_all [bodyPostS, results, Tryz.results199]
def Xm (e : Entry) : Value × PV := (.string ⟨(Al e.row).toArray⟩, .one (.lit (.int .i64 e.count)))
theorem UE {a b : List UInt8} (h : Value.string ⟨a.toArray⟩ = Value.string ⟨b.toArray⟩) : a = b := by
 injection h with h; injection h with h
 simpa using congrArg Array.toList h
theorem Hi (acc : List Entry) : ∀ e ∈ acc.map Xm, Iz e.1 := fun e he => by
 obtain ⟨x, _, rfl⟩ := List.mem_map.1 he
 exact ⟨_, rfl⟩
structure SumOk (acc l : List Entry) (M : Int) : Prop where
 ap : apart acc
 ok : ∀ e ∈ acc, AD e.row = true
 sm : ∀ r, A1 acc r = A1 l r
 bd : A2 M acc
 ln : acc.length ≤ l.length
theorem RS {b : Entry} (h : apart l) (hj : l[j]? = some a) (hr : a.row = b.row) : apart (l.set j b) := by
 unfold apart at *
 rw [WL] at h ⊢
 intro i k hi hk hik
 simp only [IV] at hi hk
 have hg : ∀ m (hm : m < l.length), ((l.set j b)[m]'(by simpa using hm)).row = l[m].row := by
  intro m hm
  rw [List.getElem_set]
  split
  ·rename_i q; subst q
   rw [Bh hm] at hj
   rw [← hr]; injection hj with hj; rw [hj]
  ·rfl
 rw [hg i hi, hg k hk]
 exact h i k hi hk hik
theorem UF {b : Entry} (hj : l[j]? = some a) (hr : a.row = b.row) (r : List Val) : A1 (l.set j b) r = A1 l r + (if Ai a.row r = 0 then b.count - a.count else 0) := by
 induction l generalizing j with
 | nil => cases hj
 | cons x l ih =>
   cases j with
   | zero =>
     simp only [List.getElem?_cons_zero, Option.some.injEq] at hj
     subst hj
     simp only [List.set_cons_zero, A1, ← hr]
     split <;> omega
   | succ j =>
     simp only [List.getElem?_cons_succ] at hj
     simp only [List.set_cons_succ, A1, ih hj]
     omega
theorem SumOk.old {M : Int} (h : SumOk acc l M) (hj : acc[j]? = some a) (hk : Ai a.row e.row = 0) (he : -262144 ≤ e.count ∧ e.count ≤ 262144) : SumOk (acc.set j ⟨a.row, a.count + e.count⟩) (l ++ [e]) (M + 262144) := by
 have hm : a ∈ acc := Cl hj
 refine ⟨RS (b := ⟨a.row, a.count + e.count⟩) h.ap hj rfl, fun x hx => ?_, fun r => ?_, fun x hx => ?_, by simp; exact Nat.le_succ_of_le h.ln⟩
 ·rcases Zs hx with hx | rfl
  ·exact h.ok x hx
  ·exact h.ok a hm
 ·rw [UF (b := ⟨a.row, a.count + e.count⟩) hj rfl, h.sm, CB]
  have := Lu hk r
  simp only [A1]
  by_cases hq : Ai e.row r = 0
  ·rw [if_pos (this.2 hq), if_pos hq]; omega
  ·rw [if_neg (fun q => hq (this.1 q)), if_neg hq]; omega
 ·rcases Zs hx with hx | rfl
  ·have := h.bd x hx; omega
  ·have := h.bd a hm; simp only; omega
theorem SumOk.new {M : Int} (h : SumOk acc l M) (hn : ∀ a ∈ acc, Ai a.row e.row ≠ 0) (ho : AD e.row = true) (he : -262144 ≤ e.count ∧ e.count ≤ 262144) (hM : 0 ≤ M) : SumOk (acc ++ [e]) (l ++ [e]) (M + 262144) := by
 refine ⟨?_, fun x hx => ?_, fun r => ?_, fun x hx => ?_, by simp; exact h.ln⟩
 ·refine Zu.2 ⟨h.ap, List.pairwise_singleton _ _, fun a ha b hb => ?_⟩
  obtain rfl := IT.1 hb
  exact hn a ha
 ·rcases Ej.1 hx with hx | hx
  ·exact h.ok x hx
  ·obtain rfl := IT.1 hx; exact ho
 ·rw [CB, CB, h.sm]
 ·rcases Ej.1 hx with hx | hx
  ·have := h.bd x hx; omega
  ·obtain rfl := IT.1 hx; omega
def Lp (acc : List Entry) (sb : List Nat) : List Entry := (sb.filterMap (acc[·]?)).filter (fun e => decide (e.count ≠ 0))
theorem Pw {b : Nat} (h : acc[b]? = some e) : Lp acc (sb ++ [b]) = Lp acc sb ++ (if e.count = 0 then [] else [e]) := by
 unfold Lp
 rw [List.filterMap_append, XP]
 congr 1
 simp only [ZS, h, List.filterMap_nil]
 by_cases hq : e.count = 0
 ·simp [hq]
 ·simp [hq]
theorem RT (hn : sb.Nodup) (hs : ∀ b ∈ sb, b < acc.length) (hall : ∀ b ∈ List.range acc.length, b ∈ sb) : (Lp acc sb).Perm (acc.filter (fun e => decide (e.count ≠ 0))) := by
 have hp : sb.Perm (List.range acc.length) := by
  rw [List.perm_ext_iff_of_nodup hn List.nodup_range]
  intro b
  exact ⟨fun h => Vd.2 (hs b h), hall b⟩
 refine ((hp.filterMap (acc[·]?)).filter _).trans (.of_eq ?_)
 congr 1
 apply PJ
 intro i
 have : ∀ (l : List Entry) , (List.range l.length).filterMap (l[·]?) = l := by
  intro l
  induction l with
  | nil => rfl
  | cons x l ih =>
    rw [List.length_cons, List.range_succ_eq_map, ZS]
    simp only [List.getElem?_cons_zero, List.filterMap_map]
    congr 1
 rw [this]
theorem Oj : ∀ (n : Nat) (l : List Nat), l.Nodup → (∀ b ∈ l, b < n) → l.length ≤ n
 | 0, l, _, h => by
   cases l with
   | nil => simp
   | cons x l => have := h x (by simp); omega
 | n + 1, l, hn, h => by
   have := Oj n (l.erase n) (hn.erase n) (fun b hb => by
     have h1 := (hn.mem_erase_iff).1 hb
     have := h b h1.2
     have := h1.1
     omega)
   rw [List.length_erase] at this
   split at this <;> omega
theorem GF {n : Nat} (hnd : sb.Nodup) (hsb : ∀ b ∈ sb, b < n) (hn : ¬ j ∈ sb) (hj : j < n) : (sb ++ [j]).Nodup ∧ ∀ b ∈ sb ++ [j], b < n := by
 refine ⟨?_, fun b hb => ?_⟩
 ·rw [WO]
  exact ⟨hnd, by simp, fun a ha b hb => by rintro rfl; simp at hb; subst hb; exact hn ha⟩
 ·rcases Ej.1 hb with hb | hb
  ·exact hsb b hb
  ·simp at hb; omega
theorem RU {a b : List Entry} (h : a.Perm b) : (AS a).2 = (AS b).2 := by
 unfold AS
 rw [h.length_eq]
 have : a.all (fun e => Av e.count) = b.all (fun e => Av e.count) := by
  rw [U3, CN, CN]
  exact ⟨fun q x hx => q x (h.mem_iff.2 hx), fun q x hx => q x (h.mem_iff.1 hx)⟩
 rw [this]
 split
 ·rfl
 ·split <;> rfl
theorem Mh {a : List Entry} (h : (AS a).2 = 0) : (AS a).1 = a := by
 unfold AS at *
 split at h
 ·cases h
 ·split at h
  ·rename_i h1 h2; rw [if_neg h1, if_pos h2]
  ·cases h
theorem Ol {a : List Entry} (h : (AS a).2 ≠ 0) : (AS a).1 = [] := by
 unfold AS at *
 split at h
 ·rename_i h1; rw [if_pos h1]
 ·split at h
  ·exact absurd rfl h
  ·rename_i h1 h2; rw [if_neg h1, if_neg h2]
theorem Hj (l : List Entry) (hlen : l.length ≤ 1000000) : PC 146 [.one (Am l)] (.tup [.one (Am (A4 l).1), .one (.lit (.int .i64 (A4 l).2))]) := by
 refine Ac hT Tryz.func146 Tryz.ntmps146 [.tmp 2, .tmp 3] fun B => ?_
 repeat' first | refine kz ?_ | refine AN rfl (fun hb => ?_) (fun hb => ?_) | refine Aw ?_ | refine AA (by repeat (first | exact Ae | refine As Bp ?_)) ?_ ?_ | refine kh ?_ ?_ | exact ⟨⟩ | fail
 refine A0 (X := Nat × List Entry) ([2, 3, 6] ++ List.range' 16 16) (fun x => x.1 ≤ l.length ∧ (l.take x.1).all AU = true ∧ SumOk x.2 (l.take x.1) (262144 * x.1)) (fun x lz => (16, (iC x.1)) :: lz) (fun x => [.map 1 9 2 (x.2.map Xm) (List.range x.2.length) x.2.length]) (fun x => l.length - x.1) ((0, [])) ?_ ?_ ?_ ?_
 repeat' first | exact k0 | refine kw ?_ | refine kv ?_ ?_ | refine m3 ?_ ?_ ?_ ?_ | omega
 ·exact ⟨by simp, by simp, .nil, by simp, fun r => by simp, fun e he => by simp at he, by simp⟩
 rintro ⟨i, acc⟩ c ⟨hi, hall, hok⟩
 dsimp only at hi hall hok ⊢
 by_cases hlt : i < l.length
 ·obtain ⟨e, hv⟩ := gx hlt
  have htk : l.take (i + 1) = l.take i ++ [e] := by rw [IU, hv]; rfl
  cases hin : AU e with
  | false =>
    have hve := Ds e
    rw [show (Av e.count && AD e.row) = false by rw [Bool.and_comm]; exact hin] at hve
    repeat' first | refine kz ?_ | refine AN rfl (fun hb => ?_) (fun hb => ?_) | refine AX hv ?_ | refine Aw ?_ | refine Aa (hve) ?_ | refine AA (by repeat (first | exact Ae | refine As Bp ?_)) ?_ ?_ | refine kh ?_ ?_ | exact ⟨⟩ | fail
    all_goals (rw [A4, Ee AU hv hin]; rfl)
  | true =>
    have hve := Ds e
    rw [show (Av e.count && AD e.row) = true by rw [Bool.and_comm]; exact hin] at hve
    have hro : AD e.row = true := by simp only [AU, Bi] at hin; exact hin.1
    have hco : -262144 ≤ e.count ∧ e.count ≤ 262144 := by simp only [AU, Av, Bi, decide_eq_true_eq] at hin; exact hin.2
    have hrl : e.row.length ≤ 10000 := by simp only [AD, Bi, decide_eq_true_eq] at hro; omega
    have hall' := Dg AU hv hall hin
    by_cases hex : ∃ (j : Nat) (a : Entry), acc[j]? = some a ∧ Ai a.row e.row = 0
    ·obtain ⟨j, a, hj, hk⟩ := hex
     have hj' : (acc.map Xm)[j]? = some (.string ⟨(Al e.row).toArray⟩, .one (.lit (.int .i64 a.count))) := by
      rw [B2, hj, ← BU.2 hk]; rfl
     have hab := hok.bd a (Cl hj)
     have hnew := hok.old hj hk hco
     repeat' first | refine kz ?_ | refine AN rfl (fun hb => ?_) (fun hb => ?_) | refine AX hv ?_ | refine Aw ?_ | refine Aa (hve) ?_ | refine Aa (Cg _ hrl) ?_ | refine Wv hj' ⟨_, rfl⟩ (Hi _) ?_ | refine UL hj' ⟨_, rfl⟩ (Hi _) ?_ | refine AA (by repeat (first | exact Ae | refine As Bp ?_)) ?_ ?_ | refine kh ?_ ?_ | exact ⟨⟩ | fail
     apply Ad ((i + 1, acc.set j ⟨a.row, a.count + e.count⟩)) <;> (try dsimp only) <;> try repeat' first | exact k0 | refine kw ?_ | refine kv ?_ ?_ | refine m3 ?_ ?_ ?_ ?_ | omega
     ·rw [U7, Xm, BU.2 hk]
     ·rw [IV]
     ·rw [IV]
     ·exact ⟨by omega, hall', by rw [htk, show (262144 : Int) * ((i + 1 : Nat) : Int) = 262144 * (i : Int) + 262144 by omega]; exact hnew⟩
    ·have hno : ∀ x ∈ acc.map Xm, x.1 ≠ .string ⟨(Al e.row).toArray⟩ := fun x hx h => by
      obtain ⟨a, ha, rfl⟩ := List.mem_map.1 hx
      obtain ⟨j, hj⟩ := LC.1 ha
      exact hex ⟨j, a, hj, BU.1 (UE h)⟩
     have hnew := hok.new (e := e) (fun a ha h => by
      obtain ⟨j, hj⟩ := LC.1 ha
      exact hex ⟨j, a, hj, h⟩) hro hco (by omega)
     repeat' first | refine kz ?_ | refine AN rfl (fun hb => ?_) (fun hb => ?_) | refine AX hv ?_ | refine Aw ?_ | refine Aa (hve) ?_ | refine Aa (Cg _ hrl) ?_ | refine Ww hno ⟨_, rfl⟩ (Hi _) ?_ | refine On hno ⟨_, rfl⟩ (Hi _) ?_ | refine AA (by repeat (first | exact Ae | refine As Bp ?_)) ?_ ?_ | refine kh ?_ ?_ | exact ⟨⟩ | fail
     apply Ad ((i + 1, acc ++ [e])) <;> (try dsimp only) <;> try repeat' first | exact k0 | refine kw ?_ | refine kv ?_ ?_ | refine m3 ?_ ?_ ?_ ?_ | omega
     ·rw [Ah', Int.zero_add]; rfl
     ·rw [CP, QK, ZC]
     ·simp
     ·exact ⟨by omega, hall', by rw [htk, show (262144 : Int) * ((i + 1 : Nat) : Int) = 262144 * (i : Int) + 262144 by omega]; exact hnew⟩
 ·rw [Ao (by omega)] at hall hok
  have hil : (i : Int) ≤ 1000000 := by omega
  repeat' first | refine kz ?_ | refine AN rfl (fun hb => ?_) (fun hb => ?_) | refine Aw ?_ | refine AA (by repeat (first | exact Ae | refine As Bp ?_)) ?_ ?_ | refine kh ?_ ?_ | exact ⟨⟩ | fail
  refine Cr 7 56 2 ?_
  refine A0 (X := List Nat × Nat × List Entry) ([2, 3] ++ List.range' 7 5 ++ List.range' 34 21) (fun x => x.1.Nodup ∧ (∀ b ∈ x.1, b < acc.length) ∧ x.2.2 = Lp acc x.1) (fun x lz => (7, .c (.arr 2 x.2.1 x.2.2.length)) :: lz) (fun x => [.map 1 9 2 (acc.map Xm) (List.range acc.length) acc.length, .iter (c + 1) 0 1 acc.length x.1, .arr x.2.1 56 2 (x.2.2.map Entry.d)]) (fun x => acc.length - x.1.length) (([], c + 1 + 1, [])) ?_ ?_ ?_ ?_
  repeat' first | exact k0 | refine kw ?_ | refine kv ?_ ?_ | refine m3 ?_ ?_ ?_ ?_ | omega
  · exact ⟨.nil, by simp, rfl⟩
  rintro ⟨sb, kv, out⟩ c2 ⟨hnd, hsb, hout⟩
  dsimp only at hnd hsb hout ⊢
  have hle : ∀ j, j < acc.length → ¬ j ∈ sb → sb.length + 1 ≤ acc.length := fun j hj hn => by
    have hq := GF hnd hsb hn hj
    have := Oj acc.length (sb ++ [j]) hq.1 hq.2
    simpa using this
  repeat' first | refine kz ?_ | refine AN rfl (fun hb => ?_) (fun hb => ?_) | refine Aw ?_ | refine YU (fun hfin => ?_) (fun j bb kv p hj1 hj2 hj3 => ?_) | refine AA (by repeat (first | exact Ae | refine As Bp ?_)) ?_ ?_ | refine kh ?_ ?_ | exact ⟨⟩ | fail
  · have hperm := RT hnd hsb hfin
    rw [← hout] at hperm
    have hac : ∀ e ∈ l, AG e.row := fun e he => by
     have := CN.1 hall e he
     simp only [AU, Bi] at this
     exact A8 this.1
    have hmem : ∀ e, e ∈ out → e ∈ acc ∧ e.count ≠ 0 := fun e he => by
     have := Ms.1 (hperm.mem_iff.1 he)
     exact ⟨this.1, by simpa using this.2⟩
    have hap : apart out := (hperm.symm.pairwise (hok.ap.filter _) (fun {a b} h q => h (DE q)))
    have hsrt := J9 hac hap (fun e he => (hmem e he).2) (fun e he => A8 (hok.ok e (hmem e he).1)) (fun r => by rw [Lt hperm, IE, hok.sm])
    have hpo := BG entCmp_ok.swo out
    rw [hsrt] at hpo
    have hfe := RU hpo
    have hne : A4 l = AS (sortE l) := by rw [A4, if_pos hall]
    have hlc := Oi out
    have hal := hok.ln
    have hol : out.length ≤ acc.length := by
     rw [hperm.length_eq]; exact Sl ..
    rw [← hfe] at hlc
    have hS := JZ Entry.d (fun _ => rfl) Dn entCmp_ok.swo 202 out (by omega) (fun x _ y _ => RR x y)
    rw [hsrt] at hS
    have ha : ∀ mem : List Blk, mem[2]? = some (.arr kv 56 2 (out.map Entry.d)) → SFs mem [.c (.arr 2 kv out.length)] [.one (Am out)] := fun mem hm =>
     I2 hm (by simp) (Ao (by simp))
    rw [hne]
    by_cases hz : (AS (sortE l)).2 = 0
    ·have hz1 := Mh hz
     rw [hz1, hz]
     rw [hz] at hlc
     have hpl := hpo.length_eq
     repeat' first | refine kz ?_ | refine AN rfl (fun hb => ?_) (fun hb => ?_) | refine Aw ?_ | refine Ah [2] (hS) ?_ | refine Eb hlc (ha _ rfl) ?_ | refine AA (by repeat (first | exact Ae | refine As Bp ?_)) ?_ ?_ | refine kh ?_ ?_ | exact ⟨⟩ | fail
     ·simp; omega
     ·rw [Ao (by simp; omega)]; rfl
     ·rfl
    ·have hz1 := Ol hz
     rw [hz1]
     generalize (AS (sortE l)).2 = er at hz hlc
     repeat' first | refine kz ?_ | refine AN rfl (fun hb => ?_) (fun hb => ?_) | refine Aw ?_ | refine Eb hlc (ha _ rfl) ?_ | refine AA (by repeat (first | exact Ae | refine As Bp ?_)) ?_ ?_ | refine kh ?_ ?_ | exact ⟨⟩ | fail
     all_goals rfl
  · have hjl : j < acc.length := by simpa using lt_of_getElem? hj1
    obtain rfl : j = bb := by
     rw [List.getElem?_range hjl] at hj1; injection hj1
    have hg : acc[j]? = some acc[j] := Bh hjl
    have heo := hok.ok _ (Fp hjl)
    generalize acc[j] = e at hg heo
    rw [B2, hg] at hj3
    injection hj3 with hj3
    injection hj3 with h1 h2
    subst h1; subst h2
    have hj3 : (acc.map Xm)[j]? = some (Xm e) := by rw [B2, hg]; rfl
    have hsn := Pw (sb := sb) hg
    have hlt' := hle j hjl hj2
    have hal := hok.ln
    have hol : out.length ≤ sb.length := by
     rw [hout, Lp]
     exact LF (Sl ..) (List.length_filterMap_le ..)
    simp only [List.set_cons_succ, List.set_cons_zero]
    repeat' first | refine kz ?_ | refine AN rfl (fun hb => ?_) (fun hb => ?_) | refine Aw ?_ | refine Aa (FA _ heo) ?_ | refine Wx hj1 hj3 (fun _ _ => .c (.d (.lit _ rfl))) ?_ | refine AA (by repeat (first | exact Ae | refine As Bp ?_)) ?_ ?_ | refine kh ?_ ?_ | exact ⟨⟩ | fail
    ·have hn2 : (sb ++ [j]).Nodup ∧ ∀ b ∈ sb ++ [j], b < acc.length := GF hnd hsb hj2 hjl
     apply Ad ((sb ++ [j], kv, out)) <;> (try dsimp only) <;> try repeat' first | exact k0 | refine kw ?_ | refine kv ?_ ?_ | refine m3 ?_ ?_ ?_ ?_ | omega
     ·exact ⟨hn2.1, hn2.2, by rw [hsn, if_pos hb, List.append_nil]; exact hout⟩
     ·rw [CP, QK]; omega
    ·have hn2 : (sb ++ [j]).Nodup ∧ ∀ b ∈ sb ++ [j], b < acc.length := GF hnd hsb hj2 hjl
     apply Ad ((sb ++ [j], _, out ++ [e])) <;> (try dsimp only) <;> try repeat' first | exact k0 | refine w1 ?_ | refine Ab ?_ | refine m1 ?_ ?_ | refine m3 ?_ ?_ ?_ ?_ | omega
     ·rw [Ah']; rfl
     ·exact ⟨hn2.1, hn2.2, by rw [hsn, if_neg hb, ← hout]⟩
     ·rw [CP, QK]; omega
end Go.Proofs.YtmpgmjlanngkfaaGreat
end
