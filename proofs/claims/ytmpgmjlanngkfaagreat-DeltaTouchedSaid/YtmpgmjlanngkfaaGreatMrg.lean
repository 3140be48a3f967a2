/-
  bag.merge, bag.Add, bag.Subtract.
-/
import Derived.Test.YtmpgmjlanngkfaaGreatTny
section
namespace Go.Proofs.YtmpgmjlanngkfaaGreat
open Go.Abs Go.RowKit
attribute [local irreducible] ARun Aq MCall PCall HCall Am SF CF CFs Af Al Ap B5 AW VLe
set_option linter.unusedSimpArgs false
set_option maxRecDepth 100000
set_option maxHeartbeats 4000000
theorem Xi (e : Entry) (out : List Entry) : HC 97 [.agg (e.d.map .d), (iC 0), .c (.bp 0 0 0)] [.box 0 [.arr 1 0 out.length], .arr 0 56 2 (out.map Entry.d)] (.tup []) [.box 0 [.arr 1 0 out.length], .arr 0 56 2 (out.map Entry.d)] := by
 refine AF hT Tryz.func97 Tryz.ntmps97 [] fun B => ?_
 repeat' first | refine kz ?_ | refine kf ?_ | exact k0 | refine Ab ?_
theorem Kd (e : Entry) (n : Int) (hn : n ≠ 0) (out : List Entry) (ho : out.length ≤ 1000000) (hr : e.row.length ≤ 1000000) : HC 97 [.agg (e.d.map .d), (iC n), .c (.bp 0 0 0)] [.box 0 [.arr 1 0 out.length], .arr 0 56 2 (out.map Entry.d)] (.tup []) [.box 0 [.arr 1 1 (out.length + 1)], .arr 1 56 2 ((out ++ [(⟨e.row, n⟩ : Entry)]).map Entry.d)] := by
 have hc := HM e.row hr
 refine AF hT Tryz.func97 Tryz.ntmps97 [] fun B => ?_
 repeat' first | refine kz ?_ | refine Aa (hc) ?_ | refine kf ?_ | exact k0 | refine Ab ?_ | refine m1 ?_ ?_
 rw [As']; rfl
def sc (s : Int) (e : Entry) : Entry := ⟨e.row, s * e.count⟩
theorem PB (a : List Entry) : mergeE a [] = a := by cases a <;> simp [mergeE]
theorem IP (b : List Entry) : mergeE [] b = b := by simp [mergeE]
theorem Oi (a b : List Entry) (s : Int) (hs : s = 1 ∨ s = -1) (ha : Aj a = true) (hb : Aj b = true) : PC 48 [.one (Ao a), .one (Ao b), .one (.lit (.int .i64 s))] (.tup [.one (Ao (AQ (mergeE a (b.map (sc s)))).1), .one (.lit (.int .i64 (AQ (mergeE a (b.map (sc s)))).2))]) := by
 obtain ⟨hal, hma⟩ := AG ha
 obtain ⟨hbl, hmb⟩ := AG hb
 refine Ad hT Tryz.func48 Tryz.ntmps48 [.tmp 6, .tmp 7] fun B => ?_
 repeat' first | refine kz ?_ | refine As ?_ | refine kh ?_ ?_ | exact ⟨⟩ | fail
 refine N3 0 0 56 2 ?_
 refine AY (X := List Entry × List Entry × Nat × List Entry) ([0, 1, 10] ++ List.range' 17 67) (fun x => (∀ e ∈ x.1, e ∈ a) ∧ (∀ e ∈ x.2.1, e ∈ b) ∧ x.1.length ≤ a.length ∧ x.2.1.length ≤ b.length ∧ x.2.2.2.length + x.1.length + x.2.1.length ≤ a.length + b.length ∧ x.2.2.2 ++ mergeE x.1 (x.2.1.map (sc s)) = mergeE a (b.map (sc s))) (fun x lz => (0, .c (.d (Ao x.1))) :: (1, .c (.d (Ao x.2.1))) :: lz) (fun x => [.box 1 [.arr 1 x.2.2.1 x.2.2.2.length], .arr x.2.2.1 56 2 (x.2.2.2.map Entry.d)]) (fun x => x.1.length + x.2.1.length) ((a, b, 2, [])) ?_ ?_ ?_ ?_
 repeat' first | exact k0 | refine kw ?_ | refine kv ?_ ?_ | omega
 ·exact ⟨fun e h => h, fun e h => h, Nat.le_refl _, Nat.le_refl _, by simp, rfl⟩
 rintro ⟨a', b', k, out⟩ c ⟨h1, h2, h3, h4, h5, hinv⟩
 dsimp only at h1 h2 h3 h4 h5 hinv ⊢
 by_cases hend : a'.length = 0 ∨ b'.length = 0
 ·have hM : out ++ a' ++ b'.map (sc s) = mergeE a (b.map (sc s)) := by
   rw [← hinv]
   rcases hend with h | h
   · obtain rfl := Yi.1 h
     rw [IP, List.append_nil]
   · obtain rfl := Yi.1 h
     rw [List.map_nil, PB, List.append_nil]
  clear hinv
  generalize mergeE a (b.map (sc s)) = M at hM
  have hlm : M.length = out.length + a'.length + b'.length := by rw [← hM]; simp; omega
  have hend : a'.length = 0 ∨ (0 < a'.length ∧ b'.length = 0) := by omega
  rcases hend with hend | hend
  all_goals
   repeat' first | refine kz ?_ | refine As ?_ | refine kh ?_ ?_ | exact ⟨⟩ | fail
   refine AY (X := Nat × Nat) ([12] ++ List.range' 86 10) (fun x => x.1 ≤ a'.length) (fun x lz => (86, (iC x.1)) :: lz) (fun x => [.box 1 [.arr 1 x.2 (out ++ a'.take x.1).length], .arr x.2 56 2 ((out ++ a'.take x.1).map Entry.d)]) (fun x => a'.length - x.1) ((0, k)) ?_ ?_ ?_ ?_
   repeat' first | exact k0 | refine kw ?_ | refine kv ?_ ?_ | omega
   all_goals try (simp; done)
   rintro ⟨i, k1⟩ c1 hi
   dsimp only at hi ⊢
   by_cases hlt : i < a'.length
   · have hv : a'[i]? = some a'[i] := Bi hlt
     obtain ⟨hxr, hxc, hxn⟩ := hma _ (h1 _ (Gl hlt))
     generalize a'[i] = e at hv hxr hxc hxn
     have hxl := E9 hxr
     have htk : a'.take (i + 1) = a'.take i ++ [e] := by rw [KL, hv]; rfl
     have hol : (out ++ a'.take i).length ≤ 100000 := by simp; omega
     have hadd := Kd e e.count hxn (out ++ a'.take i) (by omega) (by omega)
     repeat' first | refine kz ?_ | refine AT hv ?_ | refine As ?_ | refine Ak [0, 1] (hadd) ?_ | refine kh ?_ ?_ | exact ⟨⟩ | fail
     apply Ae ((i + 1, _)) <;> (try dsimp only) <;> try repeat' first | exact k0 | refine w1 ?_ | refine w3 ?_ ?_ | refine Ab ?_ | refine m1 ?_ ?_ | refine m2 ?_ ?_ | omega
     all_goals first
      | (rw [htk, ← G1]; simp only [Dg, OT]; done)
      | (rw [htk, ← G1]; done)
   · rw [Ag (show a'.length ≤ i by omega)]
     repeat' first | refine kz ?_ | refine As ?_ | refine kh ?_ ?_ | exact ⟨⟩ | fail
     refine AY (X := Nat × Nat) ([14] ++ List.range' 98 12) (fun x => x.1 ≤ b'.length) (fun x lz => (98, (iC x.1)) :: lz) (fun x => [.box 1 [.arr 1 x.2 (out ++ a' ++ (b'.take x.1).map (sc s)).length], .arr x.2 56 2 ((out ++ a' ++ (b'.take x.1).map (sc s)).map Entry.d)]) (fun x => b'.length - x.1) ((0, k1)) ?_ ?_ ?_ ?_
     repeat' first | exact k0 | refine kw ?_ | refine kv ?_ ?_ | omega
     all_goals try (simp; done)
     rintro ⟨j, k2⟩ c2 hj
     dsimp only at hj ⊢
     by_cases hlt : j < b'.length
     ·have hv : b'[j]? = some b'[j] := Bi hlt
      obtain ⟨hxr, hxc, hxn⟩ := hmb _ (h2 _ (Gl hlt))
      generalize b'[j] = e at hv hxr hxc hxn
      have hxl := E9 hxr
      have hsy : -262144 ≤ s * e.count ∧ s * e.count ≤ 262144 ∧ s * e.count ≠ 0 := by
        rcases hs with rfl | rfl
        · omega
        · omega
      have htk : (b'.take (j + 1)).map (sc s) = (b'.take j).map (sc s) ++ [sc s e] := Gh (sc s) hv
      have hol : (out ++ a' ++ (b'.take j).map (sc s)).length ≤ 100000 := by simp; omega
      have hadd := Kd e (s * e.count) hsy.2.2 (out ++ a' ++ (b'.take j).map (sc s)) (by omega) (by omega)
      repeat' first | refine kz ?_ | refine AT hv ?_ | refine As ?_ | refine Ak [0, 1] (hadd) ?_ | refine kh ?_ ?_ | exact ⟨⟩ | fail
      apply Ae ((j + 1, _)) <;> (try dsimp only) <;> try repeat' first | exact k0 | refine w1 ?_ | refine w3 ?_ ?_ | refine Ab ?_ | refine m1 ?_ ?_ | refine m2 ?_ ?_ | omega
      all_goals first
        | (rw [htk, ← G1]; simp only [Dg, OT]; done)
        | (rw [htk, ← G1]; rfl)
     ·rw [Ag (show b'.length ≤ j by omega), hM]
      have hlc := Oj M
      have hsf : ∀ mem : List Blk, mem[1]? = some (.arr k2 56 2 (M.map Entry.d)) → SFs mem [.c (.arr 1 k2 M.length)] [.one (Ao M)] := fun mem hm => QA hm (by simp) (Ag (by simp))
      by_cases hz : (AQ M).2 = 0
      · have hz1 := Mk hz
        rw [hz1, hz]
        rw [hz] at hlc
        repeat' first | refine kz ?_ | refine As ?_ | refine GC hlc (hsf _ rfl) ?_ | refine kh ?_ ?_ | exact ⟨⟩ | fail
        · simp
        · rw [Ag (by simp)]; rfl
        · rfl
      · have hz1 := Om hz
        rw [hz1]
        generalize (AQ M).2 = er at hz hlc
        repeat' first | refine kz ?_ | refine As ?_ | refine GC hlc (hsf _ rfl) ?_ | refine kh ?_ ?_ | exact ⟨⟩ | fail
        all_goals rfl
 ·obtain ⟨x, a2, rfl⟩ : ∃ x a2, a' = x :: a2 := by
   cases a' with
   | nil => exact absurd (.inl rfl) hend
   | cons x a2 => exact ⟨x, a2, rfl⟩
  obtain ⟨y, b2, rfl⟩ : ∃ y b2, b' = y :: b2 := by
   cases b' with
   | nil => exact absurd (.inr rfl) hend
   | cons y b2 => exact ⟨y, b2, rfl⟩
  obtain ⟨hxr, hxc, hxn⟩ := hma x (h1 x (by simp))
  obtain ⟨hyr, hyc, hyn⟩ := hmb y (h2 y (by simp))
  have hxl := E9 hxr
  have hyl := E9 hyr
  have hvx : (x :: a2)[0]? = some x := rfl
  have hvy : (y :: b2)[0]? = some y := rfl
  have hsy : -262144 ≤ s * y.count ∧ s * y.count ≤ 262144 ∧ s * y.count ≠ 0 := by
   rcases hs with rfl | rfl
   · omega
   · omega
  have hla : (x :: a2).length = a2.length + 1 := rfl
  have hlb : (y :: b2).length = b2.length + 1 := rfl
  rw [List.map_cons, mergeE] at hinv
  rcases ZM (Ai x.row y.row) 0 with hc | hc | hc
  ·have hadd := Kd x x.count hxn out (by omega) (by omega)
   rw [if_pos (show Ai x.row (sc s y).row < 0 from hc)] at hinv
   repeat' first | refine kz ?_ | refine AT hvx ?_ | refine AT hvy ?_ | refine As ?_ | refine Aa (AN _ _) ?_ | refine Ak [0, 1] (hadd) ?_ | refine kh ?_ ?_ | exact ⟨⟩ | fail
   apply Ae ((a2, y :: b2, _, out ++ [x])) <;> (try dsimp only) <;> try repeat' first | exact k0 | refine w1 ?_ | refine w3 ?_ ?_ | refine Ab ?_ | refine m1 ?_ ?_ | refine m2 ?_ ?_ | omega
   · rw [Ag (by simp)]; rfl
   · rw [Dg]; rfl
   · refine ⟨fun e h => h1 e (by simp [h]), h2, by omega, by omega, by rw [Dg, OT]; omega, ?_⟩
     rw [← hinv, G1]; rfl
  ·rw [if_neg (show ¬ Ai x.row (sc s y).row < 0 by show ¬ Ai x.row y.row < 0; omega), if_neg (show ¬ 0 < Ai x.row (sc s y).row by show ¬ 0 < Ai x.row y.row; omega)] at hinv
   by_cases hz : x.count + s * y.count = 0
   · have hadd := Xi x out
     rw [if_pos (show x.count + (sc s y).count = 0 from hz)] at hinv
     rw [← hz] at hadd
     repeat' first | refine kz ?_ | refine AT hvx ?_ | refine AT hvy ?_ | refine As ?_ | refine Aa (AN _ _) ?_ | refine Ak [0, 1] (hadd) ?_ | refine kh ?_ ?_ | exact ⟨⟩ | fail
     apply Ae ((a2, b2, _, out)) <;> (try dsimp only) <;> try repeat' first | exact k0 | refine w1 ?_ | refine w3 ?_ ?_ | refine Ab ?_ | refine m1 ?_ ?_ | refine m2 ?_ ?_ | omega
     ·rw [Ag (by simp)]; rfl
     ·rw [Ag (by simp)]; rfl
     ·exact ⟨fun e h => h1 e (by simp [h]), fun e h => h2 e (by simp [h]), by omega, by omega, by omega, hinv⟩
   · have hadd := Kd x (x.count + s * y.count) hz out (by omega) (by omega)
     rw [if_neg (show ¬ x.count + (sc s y).count = 0 from hz)] at hinv
     repeat' first | refine kz ?_ | refine AT hvx ?_ | refine AT hvy ?_ | refine As ?_ | refine Aa (AN _ _) ?_ | refine Ak [0, 1] (hadd) ?_ | refine kh ?_ ?_ | exact ⟨⟩ | fail
     apply Ae ((a2, b2, _, out ++ [⟨x.row, x.count + s * y.count⟩])) <;> (try dsimp only) <;> try repeat' first | exact k0 | refine w1 ?_ | refine w3 ?_ ?_ | refine Ab ?_ | refine m1 ?_ ?_ | refine m2 ?_ ?_ | omega
     ·rw [Ag (by simp)]; rfl
     ·rw [Ag (by simp)]; rfl
     ·rw [Dg]; rfl
     ·refine ⟨fun e h => h1 e (by simp [h]), fun e h => h2 e (by simp [h]), by omega, by omega, by rw [Dg, OT]; omega, ?_⟩
      rw [← hinv, G1]; rfl
  ·have hadd := Kd y (s * y.count) hsy.2.2 out (by omega) (by omega)
   rw [if_neg (show ¬ Ai x.row (sc s y).row < 0 by show ¬ Ai x.row y.row < 0; omega), if_pos (show 0 < Ai x.row (sc s y).row from hc)] at hinv
   repeat' first | refine kz ?_ | refine AT hvx ?_ | refine AT hvy ?_ | refine As ?_ | refine Aa (AN _ _) ?_ | refine Ak [0, 1] (hadd) ?_ | refine kh ?_ ?_ | exact ⟨⟩ | fail
   apply Ae ((x :: a2, b2, _, out ++ [sc s y])) <;> (try dsimp only) <;> try repeat' first | exact k0 | refine w1 ?_ | refine w3 ?_ ?_ | refine Ab ?_ | refine m1 ?_ ?_ | refine m2 ?_ ?_ | omega
   · rw [Ag (by simp)]; rfl
   · rw [Dg]; rfl
   · refine ⟨h1, fun e h => h2 e (by simp [h]), by omega, by omega, by rw [Dg, OT]; omega, ?_⟩
     rw [← hinv, G1]; rfl
end Go.Proofs.YtmpgmjlanngkfaaGreat
end
