/-
  The document's Normalize with its result as an array of the caller's own.
-/
import Derived.Test.YtmpgmjlanngkfaaGreatNorm
import Derived.Test.YtmpgmjlanngkfaaGreatVjc
section
namespace Go.Proofs.YtmpgmjlanngkfaaGreat
open Go.Abs Go.RowKit
attribute [local irreducible] ARun Au MCall PCall HCall Ak SF CF CFs Af Ag Ar fin AP VLe
set_option linter.unusedSimpArgs false
set_option maxRecDepth 100000
set_option maxHeartbeats 4000000
theorem Ua (a b : List Entry) (ha : a.length ≤ 100000000) (hb' : b.length ≤ 100000000) (sa : A2 1152921504606846976 a) (sb : A2 1152921504606846976 b) : HC 131 [.c (.d (Am a)), .c (.d (Am b))] [] (.c (.arr 0 1 (mergeE a b).length)) [.arr 1 56 2 ((mergeE a b).map Entry.d)] := by
 refine AI hT Tryz.func131 Tryz.ntmps131 [.tmp 4] fun B => ?_
 repeat' first | refine kz ?_ | refine AN rfl (fun hb => ?_) (fun hb => ?_) | refine Aw ?_ | refine kf ?_ | refine kg ?_ ?_ | exact k0 | refine Ab ?_ | refine m1 ?_ ?_
 refine Cr 5 56 2 ?_
 refine A0 (X := Nat × Nat × Nat × List Entry) (List.range' 5 87) (fun x => x.1 ≤ a.length ∧ x.2.1 ≤ b.length ∧ x.2.2.2 ++ mergeE (a.drop x.1) (b.drop x.2.1) = mergeE a b) (fun x lz => (5, .c (.arr 0 x.2.2.1 x.2.2.2.length)) :: (6, (iC x.1)) :: (7, (iC x.2.1)) :: lz) (fun x => [.arr x.2.2.1 56 2 (x.2.2.2.map Entry.d)]) (fun x => (a.length - x.1) + (b.length - x.2.1)) ((0, 0, 1, [])) ?_ ?_ ?_ ?_
 repeat' first | exact k0 | refine kw ?_ | refine kv ?_ ?_ | omega
 ·exact ⟨by simp, by simp, by simp⟩
 rintro ⟨i, j, k, out⟩ c ⟨hi, hj, hinv⟩
 dsimp only at hi hj hinv ⊢
 have hol : out.length ≤ a.length + b.length := by
  have := congrArg List.length hinv
  have h2 := E5 a b
  simp at this; omega
 by_cases hlt : i < a.length
 ·have hv : a[i]? = some a[i] := Bh hlt
  obtain ⟨hs1, hs2⟩ := sa _ (Fp hlt)
  generalize a[i] = x at hv hs1 hs2
  rw [Ay hv] at hinv
  by_cases hlt2 : j < b.length
  ·have hu : b[j]? = some b[j] := Bh hlt2
   obtain ⟨hs3, hs4⟩ := sb _ (Fp hlt2)
   generalize b[j] = y at hu hs3 hs4
   rw [Ay hu, mergeE] at hinv
   repeat' first | refine kz ?_ | refine AN rfl (fun hb => ?_) (fun hb => ?_) | refine AX hv ?_ | refine AX hu ?_ | refine Aw ?_ | refine Aa (Bu _ _) ?_ | refine kf ?_ | refine kg ?_ ?_ | exact k0 | refine Ab ?_ | refine m1 ?_ ?_
   ·apply Ad ((i + 1, j, _, out ++ [x])) <;> (try dsimp only) <;> try repeat' first | exact k0 | refine w1 ?_ | refine Ab ?_ | refine m1 ?_ ?_ | omega
    ·rw [Ah']; rfl
    ·refine ⟨by omega, by omega, ?_⟩
     rw [if_pos hb] at hinv; rw [← hinv, Ay hu, GR]; rfl
   ·apply Ad ((i, j + 1, _, out ++ [y])) <;> (try dsimp only) <;> try repeat' first | exact k0 | refine w1 ?_ | refine Ab ?_ | refine m1 ?_ ?_ | omega
    ·rw [Ah']; rfl
    ·refine ⟨by omega, by omega, ?_⟩
     rw [if_neg (by omega), if_pos hb] at hinv; rw [← hinv, Ay hv, GR]; rfl
   ·apply Ad ((i + 1, j + 1, _, out ++ [⟨x.row, x.count + y.count⟩])) <;> (try dsimp only) <;> try repeat' first | exact k0 | refine w1 ?_ | refine Ab ?_ | refine m1 ?_ ?_ | omega
    ·rw [Ah']; rfl
    ·refine ⟨by omega, by omega, ?_⟩
     rw [if_neg (by omega), if_neg (by omega), if_neg hb] at hinv; rw [← hinv, GR]
   ·apply Ad ((i + 1, j + 1, _, out)) <;> (try dsimp only) <;> try repeat' first | exact k0 | refine w1 ?_ | refine Ab ?_ | refine m1 ?_ ?_ | omega
    refine ⟨by omega, by omega, ?_⟩
    rw [if_neg (by omega), if_neg (by omega), if_pos hb] at hinv; rw [← hinv]; rfl
  ·rw [drop_nil (show b.length ≤ j by omega), mergeE] at hinv
   ·repeat' first | refine kz ?_ | refine AN rfl (fun hb => ?_) (fun hb => ?_) | refine AX hv ?_ | refine Aw ?_ | refine Aa (Bu _ _) ?_ | refine kf ?_ | refine kg ?_ ?_ | exact k0 | refine Ab ?_ | refine m1 ?_ ?_
    apply Ad ((i + 1, j, _, out ++ [x])) <;> (try dsimp only) <;> try repeat' first | exact k0 | refine w1 ?_ | refine Ab ?_ | refine m1 ?_ ?_ | omega
    ·rw [Ah']; rfl
    ·refine ⟨by omega, by omega, ?_⟩
     rw [← hinv, drop_nil (show b.length ≤ j by omega), GR]
     cases h : List.drop (i + 1) a <;> simp [mergeE]
   ·simp
 ·by_cases hlt2 : j < b.length
  ·obtain ⟨y, hu⟩ := gx hlt2
   rw [drop_nil (show a.length ≤ i by omega), Ay hu, mergeE] at hinv
   repeat' first | refine kz ?_ | refine AN rfl (fun hb => ?_) (fun hb => ?_) | refine AX hu ?_ | refine Aw ?_ | refine Aa (Bu _ _) ?_ | refine kf ?_ | refine kg ?_ ?_ | exact k0 | refine Ab ?_ | refine m1 ?_ ?_
   apply Ad ((i, j + 1, _, out ++ [y])) <;> (try dsimp only) <;> try repeat' first | exact k0 | refine w1 ?_ | refine Ab ?_ | refine m1 ?_ ?_ | omega
   ·rw [Ah']; rfl
   ·refine ⟨by omega, by omega, ?_⟩
    rw [← hinv, drop_nil (show a.length ≤ i by omega), mergeE, GR]; rfl
  ·rw [drop_nil (show a.length ≤ i by omega), drop_nil (show b.length ≤ j by omega), mergeE, List.append_nil] at hinv
   rw [← hinv]
   repeat' first | refine kz ?_ | refine AN rfl (fun hb => ?_) (fun hb => ?_) | refine Aw ?_ | refine kf ?_ | refine kg ?_ ?_ | exact k0 | refine Ab ?_ | refine m1 ?_ ?_
   all_goals rfl
def KB : List Entry → Bool
 | [] => true
 | [e] => decide (e.count = 0)
 | _ => false
theorem Ru {l : List Entry} (h : KB l = true) : sortE l = [] := by
 match l, h with
 | [], _ => rw [sortE]; rfl
 | [e], h => rw [sortE, dif_pos (by simp)]; simp [KB] at h; simp [h]
theorem Wb (l : List Entry) (h : KB l = true) : HC 77 [.c (.d (Am l))] [] (.c .emp) [] := by
 match l, h with
 | [], _ =>
   refine AI hT Tryz.func77 Tryz.ntmps77 [.tmp 2] fun B => ?_
   repeat' first | refine kz ?_ | refine Aw ?_ | refine kg ?_ ?_ | exact k0 | fail
 | [e], h =>
   have h : e.count = 0 := by simpa [KB] using h
   refine AI hT Tryz.func77 Tryz.ntmps77 [.tmp 2] fun B => ?_
   repeat' first | refine kz ?_ | refine Aw ?_ | refine kg ?_ ?_ | exact k0 | fail
theorem Wc (l : List Entry) (h : KB l = false) (hbig : l.length ≤ 1000000) (hw : A2 262144 l) : HC 77 [.c (.d (Am l))] [] (.c (.arr 0 1 (sortE l).length)) [.arr 1 56 2 ((sortE l).map Entry.d)] := by
 match l, h, hbig, hw with
 | [e], h, _, _ =>
   have h : e.count ≠ 0 := by simpa [KB] using h
   have he : sortE [e] = [e] := by rw [sortE, dif_pos (by simp)]; simp [h]
   rw [he]
   refine AI hT Tryz.func77 Tryz.ntmps77 [.tmp 2] fun B => ?_
   repeat' first | refine KR (r := 0) ?_ | refine kz ?_ | refine Aw ?_ | refine Bb Ae ?_ ?_ | exact k0 | refine Ab ?_
   all_goals rfl
 | x :: y :: l, _, hbig, hw =>
   have h1 : ¬ (x :: y :: l).length ≤ 1 := by simp
   have hlen : (x :: y :: l).length = l.length + 2 := by simp
   generalize x :: y :: l = l at h1 hlen hbig hw
   have hS := F6
   have e : sortE l = mergeE (sortE (l.take (l.length / 2))) (sortE (l.drop (l.length / 2))) := by rw [sortE, dif_neg h1]
   have w1 : A2 262144 (l.take (l.length / 2)) := fun e he => hw e (IS he)
   have w2 : A2 262144 (l.drop (l.length / 2)) := fun e he => hw e (U1 he)
   have c1 := Pv l.length (l.take (l.length / 2)) (by simp; omega) (by simp; omega) w1
   have c2 := Pv l.length (l.drop (l.length / 2)) (by simp) (by simp; omega) w2
   have l1 := hS (l.take (l.length / 2))
   have l2 := hS (l.drop (l.length / 2))
   simp only [GN, Fo] at l1 l2
   have v1 := DB _ w1
   have v2 := DB _ w2
   simp only [GN, Fo] at v1 v2
   have c3 := Ua (sortE (l.take (l.length / 2))) (sortE (l.drop (l.length / 2))) (by omega) (by omega) (BD v1 (by omega)) (BD v2 (by omega))
   clear hS w1 w2 v1 v2 hw hlen
   rw [e]
   generalize mergeE (sortE (l.take (l.length / 2))) (sortE (l.drop (l.length / 2))) = R at c3
   refine AI hT Tryz.func77 Tryz.ntmps77 [.tmp 2] fun B => ?_
   repeat' first | refine kz ?_ | refine Aw ?_ | refine Aa (c1) ?_ | refine Aa (c2) ?_ | refine Ah [] (c3) ?_ | refine kg ?_ ?_ | exact k0 | refine Ab ?_
   all_goals rfl
theorem Wd : HC 76 [.c .emp] [] (.tup [.c .emp, .c (.d (.lit (.int .i64 0)))]) [] := by
 refine AI hT Tryz.func76 Tryz.ntmps76 [.tmp 2, .tmp 3] fun B => ?_
 repeat' first | refine kz ?_ | refine kg ?_ ?_ | exact k0 | fail
 refine A0 (X := Nat) ([2, 3, 4] ++ List.range' 8 13) (fun x => x = 0) (fun x lz => (4, (iC x)) :: lz) (fun x => []) (fun x => 0) (0) ?_ ?_ ?_ ?_
 repeat' first | exact k0 | refine kw ?_ | omega
 all_goals try rfl
 rintro i c rfl
 repeat' first | refine kz ?_ | refine kg ?_ ?_ | exact k0 | fail
theorem We (l : List Entry) (h : (AS l).2 = 0) : HC 76 [.c (.arr 0 0 l.length)] [.arr 0 56 2 (l.map Entry.d)] (.tup [.c (.arr 0 0 l.length), .c (.d (.lit (.int .i64 0)))]) [.arr 0 56 2 (l.map Entry.d)] := by
 have hl : l.length ≤ 4096 := by
  unfold AS at h
  split at h
  ·cases h
  ·omega
 have hall : ∀ e ∈ l, Av e.count = true := by
  unfold AS at h
  rw [if_neg (by omega)] at h
  split at h
  ·rename_i h1; exact CN.1 h1
  ·cases h
 clear h
 refine AI hT Tryz.func76 Tryz.ntmps76 [.tmp 2, .tmp 3] fun B => ?_
 repeat' first | refine kz ?_ | refine kg ?_ ?_ | exact k0 | refine Ab ?_
 refine A0 (X := Nat) ([2, 3, 4] ++ List.range' 8 13) (fun x => x ≤ l.length) (fun x lz => (4, (iC x)) :: lz) (fun x => [.arr 0 56 2 (l.map Entry.d)]) (fun x => l.length - x) (0) ?_ ?_ ?_ ?_
 repeat' first | exact k0 | refine kw ?_ | omega
 rintro i c hi
 by_cases hlt : i < l.length
 ·have hv : l[i]? = some l[i] := Bh hlt
  have hc := EC l[i].count
  rw [hall _ (Fp hlt)] at hc
  generalize l[i] = e at hv hc
  have hv1 : (l.map Entry.d)[i]? = some e.d := by rw [B2, hv]; rfl
  repeat' first | refine kz ?_ | refine AX hv1 ?_ | refine Aw ?_ | refine Aa (hc) ?_ | refine kg ?_ ?_ | exact k0 | refine Ab ?_
  apply Ad (i + 1) <;> (try dsimp only) <;> try repeat' first | exact k0 | refine kw ?_ | omega
 ·obtain rfl : i = l.length := by omega
  repeat' first | refine kz ?_ | refine kg ?_ ?_ | exact k0 | refine Ab ?_
theorem Wf (l : List Entry) (h : KB l = true) (hi : l.all AU = true) : HC 33 [.c (.d (Am l))] [] (.tup [.c .emp, .c (.d (.lit (.int .i64 0)))]) [] := by
 have hlen : l.length ≤ 1 := by
  match l, h with
  | [], _ => simp
  | [e], _ => simp
 have hs := Wb l h
 have hf := Wd
 have hall := CN.1 hi
 refine AI hT Tryz.func33 Tryz.ntmps33 [.tmp 2, .tmp 3] fun B => ?_
 repeat' first | refine kz ?_ | refine Aw ?_ | refine kg ?_ ?_ | exact k0 | fail
 refine A0 (X := Nat) (List.range' 2 25) (fun x => x ≤ l.length) (fun x lz => (4, (iC x)) :: lz) (fun x => []) (fun x => l.length - x) (0) ?_ ?_ ?_ ?_
 repeat' first | exact k0 | refine kw ?_ | omega
 rintro i c hi
 by_cases hlt : i < l.length
 ·have hv : l[i]? = some l[i] := Bh hlt
  have hq := hall _ (Fp hlt)
  generalize l[i] = e at hv hq
  simp only [AU, Bi] at hq
  have h1 := Et e.row
  have h2 := EC e.count
  rw [hq.1] at h1
  rw [hq.2] at h2
  repeat' first | refine kz ?_ | refine AX hv ?_ | refine Aw ?_ | refine Aa (h1) ?_ | refine Aa (h2) ?_ | refine kg ?_ ?_ | exact k0 | fail
  apply Ad (i + 1) <;> (try dsimp only) <;> try repeat' first | exact k0 | refine kw ?_ | omega
 ·repeat' first | refine kz ?_ | refine Aw ?_ | refine Ah [] (hs) ?_ | refine Ah [] (hf) ?_ | refine kg ?_ ?_ | exact k0 | fail
theorem Wg (l : List Entry) (h : KB l = false) (hi : (A4 l).2 = 0) (hlen : l.length ≤ 1000000) : HC 33 [.c (.d (Am l))] [] (.tup [.c (.arr 0 1 (A4 l).1.length), .c (.d (.lit (.int .i64 0)))]) [.arr 1 56 2 ((A4 l).1.map Entry.d)] := by
 have hall : ∀ e ∈ l, AU e = true := by
  unfold A4 at hi
  split at hi
  ·rename_i h1; exact CN.1 h1
  ·cases hi
 have hn : A4 l = AS (sortE l) := by unfold A4; rw [if_pos (CN.2 hall)]
 rw [hn] at hi ⊢
 have hw : A2 262144 l := fun e he => by
  have := hall e he
  simp [AU, Av] at this
  omega
 have hs := Wc l h hlen hw
 have hf := We (sortE l) hi
 have hfe : (AS (sortE l)).1 = sortE l := by
  unfold AS at hi ⊢
  split
  ·rename_i h1; rw [if_pos h1] at hi; cases hi
  ·rename_i h1
   rw [if_neg h1] at hi
   split
   ·rfl
   ·rename_i h2; rw [if_neg h2] at hi; cases hi
 rw [hfe]
 clear hn hi hw hfe h
 generalize sortE l = R at hs hf
 refine AI hT Tryz.func33 Tryz.ntmps33 [.tmp 2, .tmp 3] fun B => ?_
 repeat' first | refine kz ?_ | refine Aw ?_ | refine kg ?_ ?_ | exact k0 | refine Ab ?_
 refine A0 (X := Nat) (List.range' 2 25) (fun x => x ≤ l.length) (fun x lz => (4, (iC x)) :: lz) (fun x => []) (fun x => l.length - x) (0) ?_ ?_ ?_ ?_
 repeat' first | exact k0 | refine kw ?_ | omega
 rintro i c hi
 by_cases hlt : i < l.length
 ·have hv : l[i]? = some l[i] := Bh hlt
  have hq := hall _ (Fp hlt)
  generalize l[i] = e at hv hq
  simp only [AU, Bi] at hq
  have h1 := Et e.row
  have h2 := EC e.count
  rw [hq.1] at h1
  rw [hq.2] at h2
  repeat' first | refine kz ?_ | refine AX hv ?_ | refine Aw ?_ | refine Aa (h1) ?_ | refine Aa (h2) ?_ | refine kg ?_ ?_ | exact k0 | refine Ab ?_
  apply Ad (i + 1) <;> (try dsimp only) <;> try repeat' first | exact k0 | refine kw ?_ | omega
 ·repeat' first | refine kz ?_ | refine Aw ?_ | refine Ah [] (hs) ?_ | refine Ah [0] (hf) ?_ | refine kg ?_ ?_ | exact k0 | refine Ab ?_
end Go.Proofs.YtmpgmjlanngkfaaGreat
end
