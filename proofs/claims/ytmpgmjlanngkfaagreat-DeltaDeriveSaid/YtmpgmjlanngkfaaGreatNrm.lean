/-
  bag.Normalize: sums in a map, rows read back, sorted: the same as the document's.
-/
import Derived.Test.YtmpgmjlanngkfaaGreatAlc
import Derived.Test.YtmpgmjlanngkfaaGreatDec
import Derived.Test.YtmpgmjlanngkfaaGreatLaid
section
namespace Go.Proofs.YtmpgmjlanngkfaaGreat
open Go.Abs Go.RowKit
attribute [local irreducible] ARun At MCall PCall HCall Am SF CF CFs Ah Aj Ar fin AW VLe
set_option linter.unusedSimpArgs false
set_option maxRecDepth 100000
set_option maxHeartbeats 4000000
theorem NZ (l : List Entry) : PCall Tryz.prog 99 [.one (Ap l)] (.v (.one (.lit (.int .i64 (A2 l).2)))) := by
 refine Ac hT Tryz.func99 Tryz.ntmps99 [.tmp 2] fun B => ?_
 repeat' (first | refine kz ?_ | refine Au rfl (fun hb => ?_) (fun hb => ?_) | refine ki ?_ | refine kf ?_ | fail)
 all_goals try (first | (rw [A2, if_pos (by omega)]; rfl) | (rw [A2, if_pos (by omega)]))
 have hl : l.length ≤ 4096 := by omega
 refine AO (X := Nat) [2, 4, 10, 11, 12, 13, 14, 15, 16, 17, 18] (fun x => x ≤ l.length ∧ (l.take x).all (fun e => Az e.count) = true) (fun x lz => (10, (.c (.d (.lit (.int .i64 x))))) :: lz) (fun x => []) (fun x => l.length - x) (0) ?_ ?_ ?_ ?_
 repeat' (first | exact k0 | refine kw ?_ | omega)
 ·exact ⟨by simp, by simp⟩
 rintro i c ⟨hi, hinv⟩
 by_cases hlt : i < l.length
 ·have hv : l[i]? = some l[i] := List.getElem?_eq_getElem hlt
  generalize l[i] = e at hv
  repeat' (first | refine kz ?_ | refine Au rfl (fun hb => ?_) (fun hb => ?_) | refine kx hv ?_ | refine ki ?_ | refine Aa (KC _) ?_ | refine kf ?_ | fail)
  ·rw [A2, if_neg (by omega), DP (fun e : Entry => Az e.count) hv hb]; rfl
  ·(apply Ae (i + 1); all_goals (try dsimp only); all_goals (try (repeat' (first | exact k0 | refine kw ?_ | omega))))
   exact ⟨by omega, Cw (fun e : Entry => Az e.count) hv hinv hb⟩
 ·rw [Ag (by omega)] at hinv
  repeat' (first | refine kz ?_ | refine Au rfl (fun hb => ?_) (fun hb => ?_) | refine ki ?_ | refine kf ?_ | fail)
  all_goals (rw [A2, if_neg (by omega), hinv]; rfl)
theorem Rx (a b : Entry) : PCall Tryz.prog 202 [.agg a.d, .agg b.d] (.v (.one (.lit (.int .i64 (DB a b))))) := by
 refine Ac hT Tryz.func202 Tryz.ntmps202 [.tmp 4] fun B => ?_
 repeat' (first | refine kz ?_ | refine Aa (Bf _ _) ?_ | refine kf ?_ | fail)
 all_goals rfl
theorem Bv : DeferOk Tryz.prog 199 0 := by
 refine ⟨⟨_, Tryz.func199, by kernel_rfl, by kernel_rfl⟩, fun vs w hl => ?_⟩
 match vs, hl with
 | [], _ =>
   refine callsD_of_wpS Tryz.func199 rfl fun c₀ cs hu => ?_
   apply wpS_region
   simp [wpOpsS, go_sem, recoverD, hu, Tryz.ntmps199, Exit.thenS]
   cases c₀
   simp_all [bodyPostS, results, Tryz.results199]
def Ww (e : Entry) : Value × PV := (.string ⟨(Ao e.row).toArray⟩, .one (.lit (.int .i64 e.count)))
theorem T7 {a b : List UInt8} (h : Value.string ⟨a.toArray⟩ = Value.string ⟨b.toArray⟩) : a = b := by
 injection h with h; injection h with h
 simpa using congrArg Array.toList h
theorem HF (acc : List Entry) : ∀ e ∈ acc.map Ww, IK e.1 := fun e he => by
 obtain ⟨x, _, rfl⟩ := List.mem_map.1 he
 exact ⟨_, rfl⟩
structure SumOk (acc l : List Entry) (M : Int) : Prop where
 ap : apart acc
 ok : ∀ e ∈ acc, AQ e.row = true
 sm : ∀ r, A8 acc r = A8 l r
 bd : A6 M acc
 ln : acc.length ≤ l.length
theorem Ry {l : List Entry} {j : Nat} {a b : Entry} (h : apart l) (hj : l[j]? = some a) (hr : a.row = b.row) : apart (l.set j b) := by
 unfold apart at *
 rw [List.pairwise_iff_getElem] at h ⊢
 intro i k hi hk hik
 simp only [List.length_set] at hi hk
 have hg : ∀ m (hm : m < l.length), ((l.set j b)[m]'(by simpa using hm)).row = l[m].row := by
  intro m hm
  rw [List.getElem_set]
  split
  ·rename_i q; subst q
   rw [List.getElem?_eq_getElem hm] at hj
   rw [← hr]; injection hj with hj; rw [hj]
  ·rfl
 rw [hg i hi, hg k hk]
 exact h i k hi hk hik
theorem T8 {l : List Entry} {j : Nat} {a b : Entry} (hj : l[j]? = some a) (hr : a.row = b.row) (r : List Val) : A8 (l.set j b) r = A8 l r + (if Ak a.row r = 0 then b.count - a.count else 0) := by
 induction l generalizing j with
 | nil => cases hj
 | cons x l ih =>
   cases j with
   | zero =>
     simp only [List.getElem?_cons_zero, Option.some.injEq] at hj
     subst hj
     simp only [List.set_cons_zero, A8, ← hr]
     split <;> omega
   | succ j =>
     simp only [List.getElem?_cons_succ] at hj
     simp only [List.set_cons_succ, A8, ih hj]
     omega
theorem SumOk.old {acc l : List Entry} {M : Int} (h : SumOk acc l M) {j : Nat} {a e : Entry} (hj : acc[j]? = some a) (hk : Ak a.row e.row = 0) (he : -262144 ≤ e.count ∧ e.count ≤ 262144) : SumOk (acc.set j ⟨a.row, a.count + e.count⟩) (l ++ [e]) (M + 262144) := by
 have hm : a ∈ acc := List.mem_of_getElem? hj
 refine ⟨Ry (b := ⟨a.row, a.count + e.count⟩) h.ap hj rfl, fun x hx => ?_, fun r => ?_, fun x hx => ?_, by simp; exact Nat.le_succ_of_le h.ln⟩
 ·rcases List.mem_or_eq_of_mem_set hx with hx | rfl
  ·exact h.ok x hx
  ·exact h.ok a hm
 ·rw [T8 (b := ⟨a.row, a.count + e.count⟩) hj rfl, h.sm, CQ]
  have := Ll hk r
  simp only [A8]
  by_cases hq : Ak e.row r = 0
  ·rw [if_pos (this.2 hq), if_pos hq]; omega
  ·rw [if_neg (fun q => hq (this.1 q)), if_neg hq]; omega
 ·rcases List.mem_or_eq_of_mem_set hx with hx | rfl
  ·have := h.bd x hx; omega
  ·have := h.bd a hm; simp only; omega
theorem SumOk.new {acc l : List Entry} {M : Int} (h : SumOk acc l M) {e : Entry} (hn : ∀ a ∈ acc, Ak a.row e.row ≠ 0) (ho : AQ e.row = true) (he : -262144 ≤ e.count ∧ e.count ≤ 262144) (hM : 0 ≤ M) : SumOk (acc ++ [e]) (l ++ [e]) (M + 262144) := by
 refine ⟨?_, fun x hx => ?_, fun r => ?_, fun x hx => ?_, by simp; exact h.ln⟩
 ·refine List.pairwise_append.2 ⟨h.ap, List.pairwise_singleton _ _, fun a ha b hb => ?_⟩
  obtain rfl := List.mem_singleton.1 hb
  exact hn a ha
 ·rcases List.mem_append.1 hx with hx | hx
  ·exact h.ok x hx
  ·obtain rfl := List.mem_singleton.1 hx; exact ho
 ·rw [CQ, CQ, h.sm]
 ·rcases List.mem_append.1 hx with hx | hx
  ·have := h.bd x hx; omega
  ·obtain rfl := List.mem_singleton.1 hx; omega
def Lc (acc : List Entry) (sb : List Nat) : List Entry := (sb.filterMap (acc[·]?)).filter (fun e => decide (e.count ≠ 0))
theorem Pn {acc : List Entry} {sb : List Nat} {b : Nat} {e : Entry} (h : acc[b]? = some e) : Lc acc (sb ++ [b]) = Lc acc sb ++ (if e.count = 0 then [] else [e]) := by
 unfold Lc
 rw [List.filterMap_append, List.filter_append]
 congr 1
 simp only [List.filterMap_cons, h, List.filterMap_nil]
 by_cases hq : e.count = 0
 ·simp [hq]
 ·simp [hq]
theorem Rz {acc : List Entry} {sb : List Nat} (hn : sb.Nodup) (hs : ∀ b ∈ sb, b < acc.length) (hall : ∀ b ∈ List.range acc.length, b ∈ sb) : (Lc acc sb).Perm (acc.filter (fun e => decide (e.count ≠ 0))) := by
 have hp : sb.Perm (List.range acc.length) := by
  rw [List.perm_ext_iff_of_nodup hn List.nodup_range]
  intro b
  exact ⟨fun h => List.mem_range.2 (hs b h), hall b⟩
 refine ((hp.filterMap (acc[·]?)).filter _).trans (.of_eq ?_)
 congr 1
 apply List.ext_getElem?
 intro i
 have : ∀ (l : List Entry) , (List.range l.length).filterMap (l[·]?) = l := by
  intro l
  induction l with
  | nil => rfl
  | cons x l ih =>
    rw [List.length_cons, List.range_succ_eq_map, List.filterMap_cons]
    simp only [List.getElem?_cons_zero, List.filterMap_map]
    congr 1
 rw [this]
theorem N0 : ∀ (n : Nat) (l : List Nat), l.Nodup → (∀ b ∈ l, b < n) → l.length ≤ n
 | 0, l, _, h => by
   cases l with
   | nil => simp
   | cons x l => have := h x (by simp); omega
 | n + 1, l, hn, h => by
   have := N0 n (l.erase n) (hn.erase n) (fun b hb => by
     have h1 := (hn.mem_erase_iff).1 hb
     have := h b h1.2
     have := h1.1
     omega)
   rw [List.length_erase] at this
   split at this <;> omega
theorem G6 {sb : List Nat} {j n : Nat} (hnd : sb.Nodup) (hsb : ∀ b ∈ sb, b < n) (hn : ¬ j ∈ sb) (hj : j < n) : (sb ++ [j]).Nodup ∧ ∀ b ∈ sb ++ [j], b < n := by
 refine ⟨?_, fun b hb => ?_⟩
 ·rw [List.nodup_append]
  exact ⟨hnd, by simp, fun a ha b hb => by rintro rfl; simp at hb; subst hb; exact hn ha⟩
 ·rcases List.mem_append.1 hb with hb | hb
  ·exact hsb b hb
  ·simp at hb; omega
theorem RA {a b : List Entry} (h : a.Perm b) : (A2 a).2 = (A2 b).2 := by
 unfold A2
 rw [h.length_eq]
 have : a.all (fun e => Az e.count) = b.all (fun e => Az e.count) := by
  rw [Bool.eq_iff_iff, List.all_eq_true, List.all_eq_true]
  exact ⟨fun q x hx => q x (h.mem_iff.2 hx), fun q x hx => q x (h.mem_iff.1 hx)⟩
 rw [this]
 split
 ·rfl
 ·split <;> rfl
theorem L4 {a : List Entry} (h : (A2 a).2 = 0) : (A2 a).1 = a := by
 unfold A2 at *
 split at h
 ·cases h
 ·split at h
  ·rename_i h1 h2; rw [if_neg h1, if_pos h2]
  ·cases h
theorem N1 {a : List Entry} (h : (A2 a).2 ≠ 0) : (A2 a).1 = [] := by
 unfold A2 at *
 split at h
 ·rename_i h1; rw [if_pos h1]
 ·split at h
  ·exact absurd rfl h
  ·rename_i h1 h2; rw [if_neg h1, if_neg h2]
theorem HG (l : List Entry) (hlen : l.length ≤ 1000000) : PCall Tryz.prog 146 [.one (Ap l)] (.tup [.one (Ap (Bl l).1), .one (.lit (.int .i64 (Bl l).2))]) := by
 refine Ac hT Tryz.func146 Tryz.ntmps146 [.tmp 2, .tmp 3] fun B => ?_
 repeat' (first | refine kz ?_ | refine Au rfl (fun hb => ?_) (fun hb => ?_) | refine ki ?_ | refine Ay (by repeat (first | exact Af | refine Aq Bv ?_)) ?_ ?_ | refine kf ?_ | refine kg ?_ ?_ | fail)
 refine AO (X := Nat × List Entry) [2, 3, 6, 16, 17, 18, 19, 20, 21, 22, 23, 24, 25, 26, 27, 28, 29, 30, 31] (fun x => x.1 ≤ l.length ∧ (l.take x.1).all Be = true ∧ SumOk x.2 (l.take x.1) (262144 * x.1)) (fun x lz => (16, (.c (.d (.lit (.int .i64 x.1))))) :: lz) (fun x => [.map 1 9 2 (x.2.map Ww) (List.range x.2.length) x.2.length]) (fun x => l.length - x.1) ((0, [])) ?_ ?_ ?_ ?_
 repeat' (first | exact k0 | refine kw ?_ | refine kv ?_ ?_ | refine m3 ?_ ?_ ?_ ?_ | omega)
 ·exact ⟨by simp, by simp, .nil, by simp, fun r => by simp, fun e he => by simp at he, by simp⟩
 rintro ⟨i, acc⟩ c ⟨hi, hall, hok⟩
 dsimp only at hi hall hok ⊢
 by_cases hlt : i < l.length
 ·have hv : l[i]? = some l[i] := List.getElem?_eq_getElem hlt
  generalize l[i] = e at hv
  have htk : l.take (i + 1) = l.take i ++ [e] := by rw [List.take_add_one, hv]; rfl
  cases hin : Be e with
  | false =>
    have hve := DI e
    rw [show (Az e.count && AQ e.row) = false by rw [Bool.and_comm]; exact hin] at hve
    repeat' (first | refine kz ?_ | refine Au rfl (fun hb => ?_) (fun hb => ?_) | refine kx hv ?_ | refine ki ?_ | refine Aa (hve) ?_ | refine Ay (by repeat (first | exact Af | refine Aq Bv ?_)) ?_ ?_ | refine kf ?_ | refine kg ?_ ?_ | fail)
    all_goals (rw [Bl, DP Be hv hin]; rfl)
  | true =>
    have hve := DI e
    rw [show (Az e.count && AQ e.row) = true by rw [Bool.and_comm]; exact hin] at hve
    have hro : AQ e.row = true := by simp only [Be, Bool.and_eq_true] at hin; exact hin.1
    have hco : -262144 ≤ e.count ∧ e.count ≤ 262144 := by simp only [Be, Az, Bool.and_eq_true, decide_eq_true_eq] at hin; exact hin.2
    have hrl : e.row.length ≤ 10000 := by simp only [AQ, Bool.and_eq_true, decide_eq_true_eq] at hro; omega
    have hall' := Cw Be hv hall hin
    by_cases hex : ∃ (j : Nat) (a : Entry), acc[j]? = some a ∧ Ak a.row e.row = 0
    ·obtain ⟨j, a, hj, hk⟩ := hex
     have hj' : (acc.map Ww)[j]? = some (.string ⟨(Ao e.row).toArray⟩, .one (.lit (.int .i64 a.count))) := by
       rw [List.getElem?_map, hj, ← BY.2 hk]; rfl
     have hab := hok.bd a (List.mem_of_getElem? hj)
     have hnew := hok.old hj hk hco
     repeat' (first | refine kz ?_ | refine Au rfl (fun hb => ?_) (fun hb => ?_) | refine kx hv ?_ | refine ki ?_ | refine Aa (hve) ?_ | refine Aa (Cl _ hrl) ?_ | refine VI hj' ⟨_, rfl⟩ (HF _) ?_ | refine Ue hj' ⟨_, rfl⟩ (HF _) ?_ | refine Ay (by repeat (first | exact Af | refine Aq Bv ?_)) ?_ ?_ | refine kf ?_ | refine kg ?_ ?_ | fail)
     (apply Ae ((i + 1, acc.set j ⟨a.row, a.count + e.count⟩)); all_goals (try dsimp only); all_goals (try (repeat' (first | exact k0 | refine kw ?_ | refine kv ?_ ?_ | refine m3 ?_ ?_ ?_ ?_ | omega))))
     · rw [List.map_set, Ww, BY.2 hk]
     · rw [List.length_set]
     · rw [List.length_set]
     · exact ⟨by omega, hall', by rw [htk, show (262144 : Int) * ((i + 1 : Nat) : Int) = 262144 * (i : Int) + 262144 by omega]; exact hnew⟩
    ·have hno : ∀ x ∈ acc.map Ww, x.1 ≠ .string ⟨(Ao e.row).toArray⟩ := fun x hx h => by
       obtain ⟨a, ha, rfl⟩ := List.mem_map.1 hx
       obtain ⟨j, hj⟩ := List.mem_iff_getElem?.1 ha
       exact hex ⟨j, a, hj, BY.1 (T7 h)⟩
     have hnew := hok.new (e := e) (fun a ha h => by
       obtain ⟨j, hj⟩ := List.mem_iff_getElem?.1 ha
       exact hex ⟨j, a, hj, h⟩) hro hco (by omega)
     repeat' (first | refine kz ?_ | refine Au rfl (fun hb => ?_) (fun hb => ?_) | refine kx hv ?_ | refine ki ?_ | refine Aa (hve) ?_ | refine Aa (Cl _ hrl) ?_ | refine VJ hno ⟨_, rfl⟩ (HF _) ?_ | refine N3 hno ⟨_, rfl⟩ (HF _) ?_ | refine Ay (by repeat (first | exact Af | refine Aq Bv ?_)) ?_ ?_ | refine kf ?_ | refine kg ?_ ?_ | fail)
     (apply Ae ((i + 1, acc ++ [e])); all_goals (try dsimp only); all_goals (try (repeat' (first | exact k0 | refine kw ?_ | refine kv ?_ ?_ | refine m3 ?_ ?_ ?_ ?_ | omega))))
     · rw [List.map_append, Int.zero_add]; rfl
     · rw [List.length_append, List.length_singleton, List.range_succ]
     · simp
     · exact ⟨by omega, hall', by rw [htk, show (262144 : Int) * ((i + 1 : Nat) : Int) = 262144 * (i : Int) + 262144 by omega]; exact hnew⟩
 ·rw [Ag (by omega)] at hall hok
  have hil : (i : Int) ≤ 1000000 := by omega
  repeat' (first | refine kz ?_ | refine Au rfl (fun hb => ?_) (fun hb => ?_) | refine ki ?_ | refine Ay (by repeat (first | exact Af | refine Aq Bv ?_)) ?_ ?_ | refine kf ?_ | refine kg ?_ ?_ | fail)
  refine BA 7 56 2 ?_
  refine AO (X := List Nat × Nat × List Entry) [2, 3, 7, 8, 9, 10, 11, 34, 35, 36, 37, 38, 39, 40, 41, 42, 43, 44, 45, 46, 47, 48, 49, 50, 51, 52, 53, 54] (fun x => x.1.Nodup ∧ (∀ b ∈ x.1, b < acc.length) ∧ x.2.2 = Lc acc x.1) (fun x lz => (7, .c (.arr 2 x.2.1 x.2.2.length)) :: lz) (fun x => [.map 1 9 2 (acc.map Ww) (List.range acc.length) acc.length, .iter (c + 1) 0 1 acc.length x.1, .arr x.2.1 56 2 (x.2.2.map Entry.d)]) (fun x => acc.length - x.1.length) (([], c + 1 + 1, [])) ?_ ?_ ?_ ?_
  repeat' (first | exact k0 | refine kw ?_ | refine kv ?_ ?_ | refine m3 ?_ ?_ ?_ ?_ | omega)
  · exact ⟨.nil, by simp, rfl⟩
  rintro ⟨sb, kv, out⟩ c2 ⟨hnd, hsb, hout⟩
  dsimp only at hnd hsb hout ⊢
  have hle : ∀ j, j < acc.length → ¬ j ∈ sb → sb.length + 1 ≤ acc.length := fun j hj hn => by
    have hq := G6 hnd hsb hn hj
    have := N0 acc.length (sb ++ [j]) hq.1 hq.2
    simpa using this
  repeat' (first | refine kz ?_ | refine Au rfl (fun hb => ?_) (fun hb => ?_) | refine ki ?_ | refine XO (fun hfin => ?_) (fun j bb kv p hj1 hj2 hj3 => ?_) | refine Ay (by repeat (first | exact Af | refine Aq Bv ?_)) ?_ ?_ | refine kf ?_ | refine kg ?_ ?_ | fail)
  · have hperm := Rz hnd hsb hfin
    rw [← hout] at hperm
    have hac : ∀ e ∈ l, AI e.row := fun e he => by
     have := List.all_eq_true.1 hall e he
     simp only [Be, Bool.and_eq_true] at this
     exact BD this.1
    have hmem : ∀ e, e ∈ out → e ∈ acc ∧ e.count ≠ 0 := fun e he => by
     have := List.mem_filter.1 (hperm.mem_iff.1 he)
     exact ⟨this.1, by simpa using this.2⟩
    have hap : apart out := (hperm.symm.pairwise (hok.ap.filter _) (fun {a b} h q => h (DS q)))
    have hsrt := Ka hac hap (fun e he => (hmem e he).2) (fun e he => BD (hok.ok e (hmem e he).1)) (fun r => by rw [Lk hperm, IQ, hok.sm])
    have hpo := BM entCmp_ok.swo out
    rw [hsrt] at hpo
    have hfe := RA hpo
    have hne : Bl l = A2 (sortE l) := by rw [Bl, if_pos hall]
    have hlc := NZ out
    have hal := hok.ln
    have hol : out.length ≤ acc.length := by
     rw [hperm.length_eq]; exact List.length_filter_le ..
    rw [← hfe] at hlc
    have hS := JX Entry.d (fun _ => rfl) DB entCmp_ok.swo 202 out (by omega) (fun x _ y _ => Rx x y)
    rw [hsrt] at hS
    have ha : ∀ mem : List Blk, mem[2]? = some (.arr kv 56 2 (out.map Entry.d)) → SFs mem [.c (.arr 2 kv out.length)] [.one (Ap out)] := fun mem hm =>
     I8 hm (by simp) (Ag (by simp))
    rw [hne]
    by_cases hz : (A2 (sortE l)).2 = 0
    ·have hz1 := L4 hz
     rw [hz1, hz]
     rw [hz] at hlc
     have hpl := hpo.length_eq
     repeat' (first | refine kz ?_ | refine Au rfl (fun hb => ?_) (fun hb => ?_) | refine ki ?_ | refine Ad [2] (hS) ?_ | refine En hlc (ha _ rfl) ?_ | refine Ay (by repeat (first | exact Af | refine Aq Bv ?_)) ?_ ?_ | refine kf ?_ | refine kg ?_ ?_ | fail)
     · simp; omega
     · rw [Ag (by simp; omega)]; rfl
     · rfl
    ·have hz1 := N1 hz
     rw [hz1]
     generalize (A2 (sortE l)).2 = er at hz hlc
     repeat' (first | refine kz ?_ | refine Au rfl (fun hb => ?_) (fun hb => ?_) | refine ki ?_ | refine En hlc (ha _ rfl) ?_ | refine Ay (by repeat (first | exact Af | refine Aq Bv ?_)) ?_ ?_ | refine kf ?_ | refine kg ?_ ?_ | fail)
     all_goals rfl
  · have hjl : j < acc.length := by simpa using lt_of_getElem? hj1
    obtain rfl : j = bb := by
     rw [List.getElem?_range hjl] at hj1; injection hj1
    have hg : acc[j]? = some acc[j] := List.getElem?_eq_getElem hjl
    have heo := hok.ok _ (List.getElem_mem hjl)
    generalize acc[j] = e at hg heo
    rw [List.getElem?_map, hg] at hj3
    injection hj3 with hj3
    injection hj3 with h1 h2
    subst h1; subst h2
    have hj3 : (acc.map Ww)[j]? = some (Ww e) := by rw [List.getElem?_map, hg]; rfl
    have hsn := Pn (sb := sb) hg
    have hlt' := hle j hjl hj2
    have hal := hok.ln
    have hol : out.length ≤ sb.length := by
     rw [hout, Lc]
     exact Nat.le_trans (List.length_filter_le ..) (List.length_filterMap_le ..)
    simp only [List.set_cons_succ, List.set_cons_zero]
    repeat' (first | refine kz ?_ | refine Au rfl (fun hb => ?_) (fun hb => ?_) | refine ki ?_ | refine Aa (FP _ heo) ?_ | refine VK hj1 hj3 (fun _ _ => .c (.d (.lit _ rfl))) ?_ | refine Ay (by repeat (first | exact Af | refine Aq Bv ?_)) ?_ ?_ | refine kf ?_ | refine kg ?_ ?_ | fail)
    ·have hn2 : (sb ++ [j]).Nodup ∧ ∀ b ∈ sb ++ [j], b < acc.length := G6 hnd hsb hj2 hjl
     (apply Ae ((sb ++ [j], kv, out)); all_goals (try dsimp only); all_goals (try (repeat' (first | exact k0 | refine kw ?_ | refine kv ?_ ?_ | refine m3 ?_ ?_ ?_ ?_ | omega))))
     · exact ⟨hn2.1, hn2.2, by rw [hsn, if_pos hb, List.append_nil]; exact hout⟩
     · rw [List.length_append, List.length_singleton]; omega
    ·have hn2 : (sb ++ [j]).Nodup ∧ ∀ b ∈ sb ++ [j], b < acc.length := G6 hnd hsb hj2 hjl
     (apply Ae ((sb ++ [j], _, out ++ [e])); all_goals (try dsimp only); all_goals (try (repeat' (first | exact k0 | refine w1 ?_ | refine Ab ?_ | refine m1 ?_ ?_ | refine m3 ?_ ?_ ?_ ?_ | omega))))
     · rw [List.map_append]; rfl
     · exact ⟨hn2.1, hn2.2, by rw [hsn, if_neg hb, ← hout]⟩
     · rw [List.length_append, List.length_singleton]; omega
end Go.Proofs.YtmpgmjlanngkfaaGreat
end
