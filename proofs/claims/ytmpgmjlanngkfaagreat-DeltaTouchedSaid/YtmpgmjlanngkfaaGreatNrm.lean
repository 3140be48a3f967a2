/-
  bag.Normalize: sums in a map, rows read back, sorted: the same as the document's.
-/
import Derived.Test.YtmpgmjlanngkfaaGreatSum
import Derived.Test.YtmpgmjlanngkfaaGreatDec
import Derived.Test.YtmpgmjlanngkfaaGreatLaid
section
namespace Go.Proofs.YtmpgmjlanngkfaaGreat
open Go.Abs Go.RowKit
attribute [local irreducible] ARun Aq MCall PCall HCall Am SF CF CFs Af Al Ap B5 AW VLe
set_option linter.unusedSimpArgs false
set_option maxRecDepth 100000
set_option maxHeartbeats 4000000
variable {a e : Entry} {acc l : List Entry} {j : Nat} {sb : List Nat}
theorem Oj (l : List Entry) : PC 99 [.one (Ao l)] (.v (.one (.lit (.int .i64 (AQ l).2)))) := by
 refine Ad hT Tryz.func99 Tryz.ntmps99 [.tmp 2] fun B => ?_
 repeat' first | refine kz ?_ | refine AE rfl (fun hb => ?_) (fun hb => ?_) | refine As ?_ | refine kf ?_ | fail
 all_goals try (first | (rw [AQ, if_pos (by omega)]; rfl) | (rw [AQ, if_pos (by omega)]))
 have hl : l.length ≤ 4096 := by omega
 refine AY (X := Nat) ([2, 4] ++ List.range' 10 9) (fun x => x ≤ l.length ∧ (l.take x).all (fun e => AH e.count) = true) (fun x lz => (10, (iC x)) :: lz) (fun x => []) (fun x => l.length - x) (0) ?_ ?_ ?_ ?_
 repeat' first | exact k0 | refine kw ?_ | omega
 ·exact ⟨by simp, by simp⟩
 rintro i c ⟨hi, hinv⟩
 by_cases hlt : i < l.length
 ·obtain ⟨e, hv⟩ := gx hlt
  repeat' first | refine kz ?_ | refine AE rfl (fun hb => ?_) (fun hb => ?_) | refine AT hv ?_ | refine As ?_ | refine Aa (K7 _) ?_ | refine kf ?_ | fail
  ·rw [AQ, if_neg (by omega), DC (fun e : Entry => AH e.count) hv hb]; rfl
  ·apply Ae (i + 1) <;> (try dsimp only) <;> try repeat' first | exact k0 | refine kw ?_ | omega
   exact ⟨by omega, CY (fun e : Entry => AH e.count) hv hinv hb⟩
 ·rw [Ag (by omega)] at hinv
  repeat' first | refine kz ?_ | refine AE rfl (fun hb => ?_) (fun hb => ?_) | refine As ?_ | refine kf ?_ | fail
  all_goals (rw [AQ, if_neg (by omega), hinv]; rfl)
theorem Rt (a b : Entry) : PC 202 [.agg a.d, .agg b.d] (.v (.one (.lit (.int .i64 (Hl a b))))) := by
 refine Ad hT Tryz.func202 Tryz.ntmps202 [.tmp 4] fun B => ?_
 repeat' first | refine kz ?_ | refine Aa (AN _ _) ?_ | refine kf ?_ | fail
 all_goals rfl
theorem BA : DeferOk Tryz.prog 199 0 := by
 refine ⟨⟨_, Tryz.func199, by kernel_rfl, by kernel_rfl⟩, fun vs w hl => ?_⟩
 match vs, hl with
 | [], _ =>
   refine callsD_of_wpS Tryz.func199 rfl fun c₀ cs hu => ?_
   apply wpS_region
   simp [wpOpsS, go_sem, recoverD, hu, Tryz.ntmps199, Exit.thenS]
   cases c₀
   simp_all [bodyPostS, results, Tryz.results199]
def V5 (e : Entry) : Value × PV := (.string ⟨(AD e.row).toArray⟩, .one (.lit (.int .i64 e.count)))
theorem Ty {a b : List UInt8} (h : Value.string ⟨a.toArray⟩ = Value.string ⟨b.toArray⟩) : a = b := by
 injection h with h; injection h with h
 simpa using congrArg Array.toList h
theorem HF (acc : List Entry) : ∀ e ∈ acc.map V5, Oo e.1 := fun e he => by
 obtain ⟨x, _, rfl⟩ := List.mem_map.1 he
 exact ⟨_, rfl⟩
structure SumOk (acc l : List Entry) (M : Int) : Prop where
 ap : apart acc
 ok : ∀ e ∈ acc, A7 e.row = true
 sm : ∀ r, AZ acc r = AZ l r
 bd : A6 M acc
 ln : acc.length ≤ l.length
theorem Ru {b : Entry} (h : apart l) (hj : l[j]? = some a) (hr : a.row = b.row) : apart (l.set j b) := by
 unfold apart at *
 rw [XY] at h ⊢
 intro i k hi hk hik
 simp only [Jj] at hi hk
 have hg : ∀ m (hm : m < l.length), ((l.set j b)[m]'(by simpa using hm)).row = l[m].row := by
  intro m hm
  rw [List.getElem_set]
  split
  ·rename_i q; subst q
   rw [Bi hm] at hj
   rw [← hr]; injection hj with hj; rw [hj]
  ·rfl
 rw [hg i hi, hg k hk]
 exact h i k hi hk hik
theorem Tz {b : Entry} (hj : l[j]? = some a) (hr : a.row = b.row) (r : List Val) : AZ (l.set j b) r = AZ l r + (if Ai a.row r = 0 then b.count - a.count else 0) := by
 induction l generalizing j with
 | nil => cases hj
 | cons x l ih =>
   cases j with
   | zero =>
     simp only [List.getElem?_cons_zero, Option.some.injEq] at hj
     subst hj
     simp only [List.set_cons_zero, AZ, ← hr]
     split <;> omega
   | succ j =>
     simp only [List.getElem?_cons_succ] at hj
     simp only [List.set_cons_succ, AZ, ih hj]
     omega
theorem SumOk.old {M : Int} (h : SumOk acc l M) (hj : acc[j]? = some a) (hk : Ai a.row e.row = 0) (he : -262144 ≤ e.count ∧ e.count ≤ 262144) : SumOk (acc.set j ⟨a.row, a.count + e.count⟩) (l ++ [e]) (M + 262144) := by
 have hm : a ∈ acc := Df hj
 refine ⟨Ru (b := ⟨a.row, a.count + e.count⟩) h.ap hj rfl, fun x hx => ?_, fun r => ?_, fun x hx => ?_, by simp; exact Nat.le_succ_of_le h.ln⟩
 ·rcases XX hx with hx | rfl
  ·exact h.ok x hx
  ·exact h.ok a hm
 ·rw [Tz (b := ⟨a.row, a.count + e.count⟩) hj rfl, h.sm, DO]
  have := Lz hk r
  simp only [AZ]
  by_cases hq : Ai e.row r = 0
  ·rw [if_pos (this.2 hq), if_pos hq]; omega
  ·rw [if_neg (fun q => hq (this.1 q)), if_neg hq]; omega
 ·rcases XX hx with hx | rfl
  ·have := h.bd x hx; omega
  ·have := h.bd a hm; simp only; omega
theorem SumOk.new {M : Int} (h : SumOk acc l M) (hn : ∀ a ∈ acc, Ai a.row e.row ≠ 0) (ho : A7 e.row = true) (he : -262144 ≤ e.count ∧ e.count ≤ 262144) (hM : 0 ≤ M) : SumOk (acc ++ [e]) (l ++ [e]) (M + 262144) := by
 refine ⟨?_, fun x hx => ?_, fun r => ?_, fun x hx => ?_, by simp; exact h.ln⟩
 ·refine ZG.2 ⟨h.ap, List.pairwise_singleton _ _, fun a ha b hb => ?_⟩
  obtain rfl := OP.1 hb
  exact hn a ha
 ·rcases Gn.1 hx with hx | hx
  ·exact h.ok x hx
  ·obtain rfl := OP.1 hx; exact ho
 ·rw [DO, DO, h.sm]
 ·rcases Gn.1 hx with hx | hx
  ·have := h.bd x hx; omega
  ·obtain rfl := OP.1 hx; omega
def Ls (acc : List Entry) (sb : List Nat) : List Entry := (sb.filterMap (acc[·]?)).filter (fun e => decide (e.count ≠ 0))
theorem PE {b : Nat} (h : acc[b]? = some e) : Ls acc (sb ++ [b]) = Ls acc sb ++ (if e.count = 0 then [] else [e]) := by
 unfold Ls
 rw [List.filterMap_append, Ue]
 congr 1
 simp only [List.filterMap_cons, h, List.filterMap_nil]
 by_cases hq : e.count = 0
 ·simp [hq]
 ·simp [hq]
theorem Rv (hn : sb.Nodup) (hs : ∀ b ∈ sb, b < acc.length) (hall : ∀ b ∈ List.range acc.length, b ∈ sb) : (Ls acc sb).Perm (acc.filter (fun e => decide (e.count ≠ 0))) := by
 have hp : sb.Perm (List.range acc.length) := by
  rw [List.perm_ext_iff_of_nodup hn List.nodup_range]
  intro b
  exact ⟨fun h => Uj.2 (hs b h), hall b⟩
 refine ((hp.filterMap (acc[·]?)).filter _).trans (.of_eq ?_)
 congr 1
 apply QG
 intro i
 have : ∀ (l : List Entry) , (List.range l.length).filterMap (l[·]?) = l := by
  intro l
  induction l with
  | nil => rfl
  | cons x l ih =>
    rw [List.length_cons, List.range_succ_eq_map, List.filterMap_cons]
    simp only [List.getElem?_cons_zero, List.filterMap_map]
    congr 1
 rw [this]
theorem Ol : ∀ (n : Nat) (l : List Nat), l.Nodup → (∀ b ∈ l, b < n) → l.length ≤ n
 | 0, l, _, h => by
   cases l with
   | nil => simp
   | cons x l => have := h x (by simp); omega
 | n + 1, l, hn, h => by
   have := Ol n (l.erase n) (hn.erase n) (fun b hb => by
     have h1 := (hn.mem_erase_iff).1 hb
     have := h b h1.2
     have := h1.1
     omega)
   rw [List.length_erase] at this
   split at this <;> omega
theorem Hh {n : Nat} (hnd : sb.Nodup) (hsb : ∀ b ∈ sb, b < n) (hn : ¬ j ∈ sb) (hj : j < n) : (sb ++ [j]).Nodup ∧ ∀ b ∈ sb ++ [j], b < n := by
 refine ⟨?_, fun b hb => ?_⟩
 ·rw [List.nodup_append]
  exact ⟨hnd, by simp, fun a ha b hb => by rintro rfl; simp at hb; subst hb; exact hn ha⟩
 ·rcases Gn.1 hb with hb | hb
  ·exact hsb b hb
  ·simp at hb; omega
theorem Rw {a b : List Entry} (h : a.Perm b) : (AQ a).2 = (AQ b).2 := by
 unfold AQ
 rw [h.length_eq]
 have : a.all (fun e => AH e.count) = b.all (fun e => AH e.count) := by
  rw [Wu, Ec, Ec]
  exact ⟨fun q x hx => q x (h.mem_iff.2 hx), fun q x hx => q x (h.mem_iff.1 hx)⟩
 rw [this]
 split
 ·rfl
 ·split <;> rfl
theorem Mk {a : List Entry} (h : (AQ a).2 = 0) : (AQ a).1 = a := by
 unfold AQ at *
 split at h
 ·cases h
 ·split at h
  ·rename_i h1 h2; rw [if_neg h1, if_pos h2]
  ·cases h
theorem Om {a : List Entry} (h : (AQ a).2 ≠ 0) : (AQ a).1 = [] := by
 unfold AQ at *
 split at h
 ·rename_i h1; rw [if_pos h1]
 ·split at h
  ·exact absurd rfl h
  ·rename_i h1 h2; rw [if_neg h1, if_neg h2]
theorem HG (l : List Entry) (hlen : l.length ≤ 1000000) : PC 146 [.one (Ao l)] (.tup [.one (Ao (A9 l).1), .one (.lit (.int .i64 (A9 l).2))]) := by
 refine Ad hT Tryz.func146 Tryz.ntmps146 [.tmp 2, .tmp 3] fun B => ?_
 repeat' first | refine kz ?_ | refine AE rfl (fun hb => ?_) (fun hb => ?_) | refine As ?_ | refine Ar (by repeat (first | exact Ac | refine Ah BA ?_)) ?_ ?_ | refine kh ?_ ?_ | exact ⟨⟩ | fail
 refine AY (X := Nat × List Entry) ([2, 3, 6] ++ List.range' 16 16) (fun x => x.1 ≤ l.length ∧ (l.take x.1).all AU = true ∧ SumOk x.2 (l.take x.1) (262144 * x.1)) (fun x lz => (16, (iC x.1)) :: lz) (fun x => [.map 1 9 2 (x.2.map V5) (List.range x.2.length) x.2.length]) (fun x => l.length - x.1) ((0, [])) ?_ ?_ ?_ ?_
 repeat' first | exact k0 | refine kw ?_ | refine kv ?_ ?_ | refine m3 ?_ ?_ ?_ ?_ | omega
 ·exact ⟨by simp, by simp, .nil, by simp, fun r => by simp, fun e he => by simp at he, by simp⟩
 rintro ⟨i, acc⟩ c ⟨hi, hall, hok⟩
 dsimp only at hi hall hok ⊢
 by_cases hlt : i < l.length
 ·obtain ⟨e, hv⟩ := gx hlt
  have htk : l.take (i + 1) = l.take i ++ [e] := by rw [KL, hv]; rfl
  cases hin : AU e with
  | false =>
    have hve := D1 e
    rw [show (AH e.count && A7 e.row) = false by rw [Bool.and_comm]; exact hin] at hve
    repeat' first | refine kz ?_ | refine AE rfl (fun hb => ?_) (fun hb => ?_) | refine AT hv ?_ | refine As ?_ | refine Aa (hve) ?_ | refine Ar (by repeat (first | exact Ac | refine Ah BA ?_)) ?_ ?_ | refine kh ?_ ?_ | exact ⟨⟩ | fail
    all_goals (rw [A9, DC AU hv hin]; rfl)
  | true =>
    have hve := D1 e
    rw [show (AH e.count && A7 e.row) = true by rw [Bool.and_comm]; exact hin] at hve
    have hro : A7 e.row = true := by simp only [AU, BO] at hin; exact hin.1
    have hco : -262144 ≤ e.count ∧ e.count ≤ 262144 := by simp only [AU, AH, BO, decide_eq_true_eq] at hin; exact hin.2
    have hrl : e.row.length ≤ 10000 := by simp only [A7, BO, decide_eq_true_eq] at hro; omega
    have hall' := CY AU hv hall hin
    by_cases hex : ∃ (j : Nat) (a : Entry), acc[j]? = some a ∧ Ai a.row e.row = 0
    ·obtain ⟨j, a, hj, hk⟩ := hex
     have hj' : (acc.map V5)[j]? = some (.string ⟨(AD e.row).toArray⟩, .one (.lit (.int .i64 a.count))) := by
      rw [Ci, hj, ← Hc.2 hk]; rfl
     have hab := hok.bd a (Df hj)
     have hnew := hok.old hj hk hco
     repeat' first | refine kz ?_ | refine AE rfl (fun hb => ?_) (fun hb => ?_) | refine AT hv ?_ | refine As ?_ | refine Aa (hve) ?_ | refine Aa (F4 _ hrl) ?_ | refine Vp hj' ⟨_, rfl⟩ (HF _) ?_ | refine TH hj' ⟨_, rfl⟩ (HF _) ?_ | refine Ar (by repeat (first | exact Ac | refine Ah BA ?_)) ?_ ?_ | refine kh ?_ ?_ | exact ⟨⟩ | fail
     apply Ae ((i + 1, acc.set j ⟨a.row, a.count + e.count⟩)) <;> (try dsimp only) <;> try repeat' first | exact k0 | refine kw ?_ | refine kv ?_ ?_ | refine m3 ?_ ?_ ?_ ?_ | omega
     ·rw [VO, V5, Hc.2 hk]
     ·rw [Jj]
     ·rw [Jj]
     ·exact ⟨by omega, hall', by rw [htk, show (262144 : Int) * ((i + 1 : Nat) : Int) = 262144 * (i : Int) + 262144 by omega]; exact hnew⟩
    ·have hno : ∀ x ∈ acc.map V5, x.1 ≠ .string ⟨(AD e.row).toArray⟩ := fun x hx h => by
      obtain ⟨a, ha, rfl⟩ := List.mem_map.1 hx
      obtain ⟨j, hj⟩ := Mz.1 ha
      exact hex ⟨j, a, hj, Hc.1 (Ty h)⟩
     have hnew := hok.new (e := e) (fun a ha h => by
      obtain ⟨j, hj⟩ := Mz.1 ha
      exact hex ⟨j, a, hj, h⟩) hro hco (by omega)
     repeat' first | refine kz ?_ | refine AE rfl (fun hb => ?_) (fun hb => ?_) | refine AT hv ?_ | refine As ?_ | refine Aa (hve) ?_ | refine Aa (F4 _ hrl) ?_ | refine Vq hno ⟨_, rfl⟩ (HF _) ?_ | refine Oq hno ⟨_, rfl⟩ (HF _) ?_ | refine Ar (by repeat (first | exact Ac | refine Ah BA ?_)) ?_ ?_ | refine kh ?_ ?_ | exact ⟨⟩ | fail
     apply Ae ((i + 1, acc ++ [e])) <;> (try dsimp only) <;> try repeat' first | exact k0 | refine kw ?_ | refine kv ?_ ?_ | refine m3 ?_ ?_ ?_ ?_ | omega
     ·rw [As', Int.zero_add]; rfl
     ·rw [Dg, OT, X7]
     ·simp
     ·exact ⟨by omega, hall', by rw [htk, show (262144 : Int) * ((i + 1 : Nat) : Int) = 262144 * (i : Int) + 262144 by omega]; exact hnew⟩
 ·rw [Ag (by omega)] at hall hok
  have hil : (i : Int) ≤ 1000000 := by omega
  repeat' first | refine kz ?_ | refine AE rfl (fun hb => ?_) (fun hb => ?_) | refine As ?_ | refine Ar (by repeat (first | exact Ac | refine Ah BA ?_)) ?_ ?_ | refine kh ?_ ?_ | exact ⟨⟩ | fail
  refine CN 7 56 2 ?_
  refine AY (X := List Nat × Nat × List Entry) ([2, 3] ++ List.range' 7 5 ++ List.range' 34 21) (fun x => x.1.Nodup ∧ (∀ b ∈ x.1, b < acc.length) ∧ x.2.2 = Ls acc x.1) (fun x lz => (7, .c (.arr 2 x.2.1 x.2.2.length)) :: lz) (fun x => [.map 1 9 2 (acc.map V5) (List.range acc.length) acc.length, .iter (c + 1) 0 1 acc.length x.1, .arr x.2.1 56 2 (x.2.2.map Entry.d)]) (fun x => acc.length - x.1.length) (([], c + 1 + 1, [])) ?_ ?_ ?_ ?_
  repeat' first | exact k0 | refine kw ?_ | refine kv ?_ ?_ | refine m3 ?_ ?_ ?_ ?_ | omega
  · exact ⟨.nil, by simp, rfl⟩
  rintro ⟨sb, kv, out⟩ c2 ⟨hnd, hsb, hout⟩
  dsimp only at hnd hsb hout ⊢
  have hle : ∀ j, j < acc.length → ¬ j ∈ sb → sb.length + 1 ≤ acc.length := fun j hj hn => by
    have hq := Hh hnd hsb hn hj
    have := Ol acc.length (sb ++ [j]) hq.1 hq.2
    simpa using this
  repeat' first | refine kz ?_ | refine AE rfl (fun hb => ?_) (fun hb => ?_) | refine As ?_ | refine Xm (fun hfin => ?_) (fun j bb kv p hj1 hj2 hj3 => ?_) | refine Ar (by repeat (first | exact Ac | refine Ah BA ?_)) ?_ ?_ | refine kh ?_ ?_ | exact ⟨⟩ | fail
  · have hperm := Rv hnd hsb hfin
    rw [← hout] at hperm
    have hac : ∀ e ∈ l, Au e.row := fun e he => by
     have := Ec.1 hall e he
     simp only [AU, BO] at this
     exact B7 this.1
    have hmem : ∀ e, e ∈ out → e ∈ acc ∧ e.count ≠ 0 := fun e he => by
     have := KB.1 (hperm.mem_iff.1 he)
     exact ⟨this.1, by simpa using this.2⟩
    have hap : apart out := (hperm.symm.pairwise (hok.ap.filter _) (fun {a b} h q => h (Eb q)))
    have hsrt := PJ hac hap (fun e he => (hmem e he).2) (fun e he => B7 (hok.ok e (hmem e he).1)) (fun r => by rw [Ly hperm, IW, hok.sm])
    have hpo := Bt entCmp_ok.swo out
    rw [hsrt] at hpo
    have hfe := Rw hpo
    have hne : A9 l = AQ (sortE l) := by rw [A9, if_pos hall]
    have hlc := Oj out
    have hal := hok.ln
    have hol : out.length ≤ acc.length := by
     rw [hperm.length_eq]; exact PN ..
    rw [← hfe] at hlc
    have hS := Px Entry.d (fun _ => rfl) Hl entCmp_ok.swo 202 out (by omega) (fun x _ y _ => Rt x y)
    rw [hsrt] at hS
    have ha : ∀ mem : List Blk, mem[2]? = some (.arr kv 56 2 (out.map Entry.d)) → SFs mem [.c (.arr 2 kv out.length)] [.one (Ao out)] := fun mem hm =>
     QA hm (by simp) (Ag (by simp))
    rw [hne]
    by_cases hz : (AQ (sortE l)).2 = 0
    ·have hz1 := Mk hz
     rw [hz1, hz]
     rw [hz] at hlc
     have hpl := hpo.length_eq
     repeat' first | refine kz ?_ | refine AE rfl (fun hb => ?_) (fun hb => ?_) | refine As ?_ | refine Ak [2] (hS) ?_ | refine GC hlc (ha _ rfl) ?_ | refine Ar (by repeat (first | exact Ac | refine Ah BA ?_)) ?_ ?_ | refine kh ?_ ?_ | exact ⟨⟩ | fail
     ·simp; omega
     ·rw [Ag (by simp; omega)]; rfl
     ·rfl
    ·have hz1 := Om hz
     rw [hz1]
     generalize (AQ (sortE l)).2 = er at hz hlc
     repeat' first | refine kz ?_ | refine AE rfl (fun hb => ?_) (fun hb => ?_) | refine As ?_ | refine GC hlc (ha _ rfl) ?_ | refine Ar (by repeat (first | exact Ac | refine Ah BA ?_)) ?_ ?_ | refine kh ?_ ?_ | exact ⟨⟩ | fail
     all_goals rfl
  · have hjl : j < acc.length := by simpa using lt_of_getElem? hj1
    obtain rfl : j = bb := by
     rw [List.getElem?_range hjl] at hj1; injection hj1
    have hg : acc[j]? = some acc[j] := Bi hjl
    have heo := hok.ok _ (Gl hjl)
    generalize acc[j] = e at hg heo
    rw [Ci, hg] at hj3
    injection hj3 with hj3
    injection hj3 with h1 h2
    subst h1; subst h2
    have hj3 : (acc.map V5)[j]? = some (V5 e) := by rw [Ci, hg]; rfl
    have hsn := PE (sb := sb) hg
    have hlt' := hle j hjl hj2
    have hal := hok.ln
    have hol : out.length ≤ sb.length := by
     rw [hout, Ls]
     exact OQ (PN ..) (List.length_filterMap_le ..)
    simp only [List.set_cons_succ, List.set_cons_zero]
    repeat' first | refine kz ?_ | refine AE rfl (fun hb => ?_) (fun hb => ?_) | refine As ?_ | refine Aa (Nv _ heo) ?_ | refine Vr hj1 hj3 (fun _ _ => .c (.d (.lit _ rfl))) ?_ | refine Ar (by repeat (first | exact Ac | refine Ah BA ?_)) ?_ ?_ | refine kh ?_ ?_ | exact ⟨⟩ | fail
    ·have hn2 : (sb ++ [j]).Nodup ∧ ∀ b ∈ sb ++ [j], b < acc.length := Hh hnd hsb hj2 hjl
     apply Ae ((sb ++ [j], kv, out)) <;> (try dsimp only) <;> try repeat' first | exact k0 | refine kw ?_ | refine kv ?_ ?_ | refine m3 ?_ ?_ ?_ ?_ | omega
     ·exact ⟨hn2.1, hn2.2, by rw [hsn, if_pos hb, List.append_nil]; exact hout⟩
     ·rw [Dg, OT]; omega
    ·have hn2 : (sb ++ [j]).Nodup ∧ ∀ b ∈ sb ++ [j], b < acc.length := Hh hnd hsb hj2 hjl
     apply Ae ((sb ++ [j], _, out ++ [e])) <;> (try dsimp only) <;> try repeat' first | exact k0 | refine w1 ?_ | refine Ab ?_ | refine m1 ?_ ?_ | refine m3 ?_ ?_ ?_ ?_ | omega
     ·rw [As']; rfl
     ·exact ⟨hn2.1, hn2.2, by rw [hsn, if_neg hb, ← hout]⟩
     ·rw [Dg, OT]; omega
end Go.Proofs.YtmpgmjlanngkfaaGreat
end
