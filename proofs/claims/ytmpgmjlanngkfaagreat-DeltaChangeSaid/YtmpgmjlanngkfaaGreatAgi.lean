/-
  Aggregates: ranked values, fold.
-/
import Derived.Test.YtmpgmjlanngkfaaGreatCmf
import Derived.Test.YtmpgmjlanngkfaaGreatAgh
section
namespace Go.Proofs.YtmpgmjlanngkfaaGreat
open Go.Abs Go.RowKit
attribute [local irreducible] ARun Av MCall PCall HCall Ap SF CF CFs Ag Ai As fin AY VLe
set_option linter.unusedSimpArgs false
set_option maxRecDepth 100000
set_option maxHeartbeats 4000000
theorem cm (e : Entry) (out : List Entry) : HC 97 [.agg (e.d.map .d), (iC 0), .c (.bp 0 0 0)] [.box 0 [.arr 1 0 out.length], .arr 0 56 2 (out.map Entry.d)] (.tup []) [.box 0 [.arr 1 0 out.length], .arr 0 56 2 (out.map Entry.d)] := by
 refine Au hT Tryz.func97 Tryz.ntmps97 [] fun B => ?_
 repeat' first | refine kz ?_ | refine kf ?_ | exact k0 | refine Ab ?_
theorem Lt (e : Entry) (n : Int) (hn : n ≠ 0) (out : List Entry) (ho : out.length ≤ 1000000) (hr : e.row.length ≤ 1000000) : HC 97 [.agg (e.d.map .d), (iC n), .c (.bp 0 0 0)] [.box 0 [.arr 1 0 out.length], .arr 0 56 2 (out.map Entry.d)] (.tup []) [.box 0 [.arr 1 1 (out.length + 1)], .arr 1 56 2 ((out ++ [(⟨e.row, n⟩ : Entry)]).map Entry.d)] := by
 have hc := Ol e.row hr
 refine Au hT Tryz.func97 Tryz.ntmps97 [] fun B => ?_
 repeat' first | refine kz ?_ | refine Aa (hc) ?_ | refine kf ?_ | exact k0 | refine Ab ?_ | refine m1 ?_ ?_
 rw [Ag']; rfl
def sc (s : Int) (e : Entry) : Entry := ⟨e.row, s * e.count⟩
theorem RQ (a : List Entry) : mergeE a [] = a := by cases a <;> simp [mergeE]
theorem Qn (b : List Entry) : mergeE [] b = b := by simp [mergeE]
theorem Qo (a b : List Entry) (s : Int) (hs : s = 1 ∨ s = -1) (ha : Am a = true) (hb : Am b = true) : PC 48 [.one (Ak a), .one (Ak b), .one (.lit (.int .i64 s))] (.tup [.one (Ak (AU (mergeE a (b.map (sc s)))).1), .one (.lit (.int .i64 (AU (mergeE a (b.map (sc s)))).2))]) := by
 obtain ⟨jM, wU⟩ := AP ha
 obtain ⟨oI, sf⟩ := AP hb
 refine Ac hT Tryz.func48 Tryz.ntmps48 [.tmp 6, .tmp 7] fun B => ?_
 repeat' first | refine kz ?_ | refine Ao ?_ | refine kh ?_ ?_ | exact ⟨⟩ | fail
 refine IH 0 0 56 2 ?_
 refine AK (X := List Entry × List Entry × Nat × List Entry) ([0, 1, 10] ++ List.range' 17 67) (fun x => (∀ e ∈ x.1, e ∈ a) ∧ (∀ e ∈ x.2.1, e ∈ b) ∧ x.1.length ≤ a.length ∧ x.2.1.length ≤ b.length ∧ x.2.2.2.length + x.1.length + x.2.1.length ≤ a.length + b.length ∧ x.2.2.2 ++ mergeE x.1 (x.2.1.map (sc s)) = mergeE a (b.map (sc s))) (fun x lz => (0, .c (.d (Ak x.1))) :: (1, .c (.d (Ak x.2.1))) :: lz) (fun x => [.box 1 [.arr 1 x.2.2.1 x.2.2.2.length], .arr x.2.2.1 56 2 (x.2.2.2.map Entry.d)]) (fun x => x.1.length + x.2.1.length) ((a, b, 2, [])) ?_ ?_ ?_ ?_
 repeat' first | exact k0 | refine kw ?_ | refine kv ?_ ?_ | omega
 ·exact ⟨fun e h => h, fun e h => h, Nat.le_refl _, Nat.le_refl _, by simp, rfl⟩
 rintro ⟨a', b', k, out⟩ c ⟨h1, h2, h3, h4, h5, hinv⟩
 dsimp only at h1 h2 h3 h4 h5 hinv ⊢
 by_cases kT : a'.length = 0 ∨ b'.length = 0
 ·have hM : out ++ a' ++ b'.map (sc s) = mergeE a (b.map (sc s)) := by
   rw [← hinv]
   rcases kT with h | h
   · obtain rfl := XR.1 h
     rw [Qn, List.append_nil]
   · obtain rfl := XR.1 h
     rw [List.map_nil, RQ, List.append_nil]
  clear hinv
  generalize mergeE a (b.map (sc s)) = M at hM
  have pI : M.length = out.length + a'.length + b'.length := by rw [← hM]; simp; omega
  have kT : a'.length = 0 ∨ (0 < a'.length ∧ b'.length = 0) := by omega
  rcases kT with kT | kT
  all_goals
   repeat' first | refine kz ?_ | refine Ao ?_ | refine kh ?_ ?_ | exact ⟨⟩ | fail
   refine AK (X := Nat × Nat) ([12] ++ List.range' 86 10) (fun x => x.1 ≤ a'.length) (fun x lz => (86, (iC x.1)) :: lz) (fun x => [.box 1 [.arr 1 x.2 (out ++ a'.take x.1).length], .arr x.2 56 2 ((out ++ a'.take x.1).map Entry.d)]) (fun x => a'.length - x.1) ((0, k)) ?_ ?_ ?_ ?_
   repeat' first | exact k0 | refine kw ?_ | refine kv ?_ ?_ | omega
   all_goals try (simp; done)
   rintro ⟨i, k1⟩ c1 hi
   dsimp only at hi ⊢
   by_cases i7 : i < a'.length
   · have hv : a'[i]? = some a'[i] := Bo i7
     obtain ⟨rh, ri, rj⟩ := wU _ (h1 _ (Fo i7))
     generalize a'[i] = e at hv rh ri rj
     have oJ := Dd rh
     have ju : a'.take (i + 1) = a'.take i ++ [e] := by rw [Gm, hv]; rfl
     have mP : (out ++ a'.take i).length ≤ 100000 := by simp; omega
     have jS := Lt e e.count rj (out ++ a'.take i) (by omega) (by omega)
     repeat' first | refine kz ?_ | refine AF hv ?_ | refine Ao ?_ | refine Ae [0, 1] (jS) ?_ | refine kh ?_ ?_ | exact ⟨⟩ | fail
     apply Af ((i + 1, _)) <;> (try dsimp only) <;> try repeat' first | exact k0 | refine w1 ?_ | refine w3 ?_ ?_ | refine Ab ?_ | refine m1 ?_ ?_ | refine m2 ?_ ?_ | omega
     all_goals first
      | (rw [ju, ← Hc]; simp only [CR, Tm]; done)
      | (rw [ju, ← Hc]; done)
   · rw [Ah (show a'.length ≤ i by omega)]
     repeat' first | refine kz ?_ | refine Ao ?_ | refine kh ?_ ?_ | exact ⟨⟩ | fail
     refine AK (X := Nat × Nat) ([14] ++ List.range' 98 12) (fun x => x.1 ≤ b'.length) (fun x lz => (98, (iC x.1)) :: lz) (fun x => [.box 1 [.arr 1 x.2 (out ++ a' ++ (b'.take x.1).map (sc s)).length], .arr x.2 56 2 ((out ++ a' ++ (b'.take x.1).map (sc s)).map Entry.d)]) (fun x => b'.length - x.1) ((0, k1)) ?_ ?_ ?_ ?_
     repeat' first | exact k0 | refine kw ?_ | refine kv ?_ ?_ | omega
     all_goals try (simp; done)
     rintro ⟨j, k2⟩ c2 hj
     dsimp only at hj ⊢
     by_cases i7 : j < b'.length
     ·have hv : b'[j]? = some b'[j] := Bo i7
      obtain ⟨rh, ri, rj⟩ := sf _ (h2 _ (Fo i7))
      generalize b'[j] = e at hv rh ri rj
      have oJ := Dd rh
      have q9 : -262144 ≤ s * e.count ∧ s * e.count ≤ 262144 ∧ s * e.count ≠ 0 := by
        rcases hs with rfl | rfl
        · omega
        · omega
      have ju : (b'.take (j + 1)).map (sc s) = (b'.take j).map (sc s) ++ [sc s e] := D3 (sc s) hv
      have mP : (out ++ a' ++ (b'.take j).map (sc s)).length ≤ 100000 := by simp; omega
      have jS := Lt e (s * e.count) q9.2.2 (out ++ a' ++ (b'.take j).map (sc s)) (by omega) (by omega)
      repeat' first | refine kz ?_ | refine AF hv ?_ | refine Ao ?_ | refine Ae [0, 1] (jS) ?_ | refine kh ?_ ?_ | exact ⟨⟩ | fail
      apply Af ((j + 1, _)) <;> (try dsimp only) <;> try repeat' first | exact k0 | refine w1 ?_ | refine w3 ?_ ?_ | refine Ab ?_ | refine m1 ?_ ?_ | refine m2 ?_ ?_ | omega
      all_goals first
        | (rw [ju, ← Hc]; simp only [CR, Tm]; done)
        | (rw [ju, ← Hc]; rfl)
     ·rw [Ah (show b'.length ≤ j by omega), hM]
      have lN := Qp M
      have oF : ∀ mem : List Blk, mem[1]? = some (.arr k2 56 2 (M.map Entry.d)) → SFs mem [.c (.arr 1 k2 M.length)] [.one (Ak M)] := fun mem hm => Kq hm (by simp) (Ah (by simp))
      by_cases hz : (AU M).2 = 0
      · have lj := Od hz
        rw [lj, hz]
        rw [hz] at lN
        repeat' first | refine kz ?_ | refine Ao ?_ | refine E6 lN (oF _ rfl) ?_ | refine kh ?_ ?_ | exact ⟨⟩ | fail
        · simp
        · rw [Ah (by simp)]; rfl
        · rfl
      · have lj := Qr hz
        rw [lj]
        generalize (AU M).2 = er at hz lN
        repeat' first | refine kz ?_ | refine Ao ?_ | refine E6 lN (oF _ rfl) ?_ | refine kh ?_ ?_ | exact ⟨⟩ | fail
        all_goals rfl
 ·obtain ⟨x, a2, rfl⟩ : ∃ x a2, a' = x :: a2 := by
   cases a' with
   | nil => exact absurd (.inl rfl) kT
   | cons x a2 => exact ⟨x, a2, rfl⟩
  obtain ⟨y, b2, rfl⟩ : ∃ y b2, b' = y :: b2 := by
   cases b' with
   | nil => exact absurd (.inr rfl) kT
   | cons y b2 => exact ⟨y, b2, rfl⟩
  obtain ⟨rh, ri, rj⟩ := wU x (h1 x (by simp))
  obtain ⟨yq, hyc, yr⟩ := sf y (h2 y (by simp))
  have oJ := Dd rh
  have mO := Dd yq
  have u6 : (x :: a2)[0]? = some x := rfl
  have u7 : (y :: b2)[0]? = some y := rfl
  have q9 : -262144 ≤ s * y.count ∧ s * y.count ≤ 262144 ∧ s * y.count ≠ 0 := by
   rcases hs with rfl | rfl
   · omega
   · omega
  have si : (x :: a2).length = a2.length + 1 := rfl
  have uW : (y :: b2).length = b2.length + 1 := rfl
  rw [List.map_cons, mergeE] at hinv
  rcases Int.lt_trichotomy (Aj x.row y.row) 0 with hc | hc | hc
  ·have jS := Lt x x.count rj out (by omega) (by omega)
   rw [if_pos (show Aj x.row (sc s y).row < 0 from hc)] at hinv
   repeat' first | refine kz ?_ | refine AF u6 ?_ | refine AF u7 ?_ | refine Ao ?_ | refine Aa (Bm _ _) ?_ | refine Ae [0, 1] (jS) ?_ | refine kh ?_ ?_ | exact ⟨⟩ | fail
   apply Af ((a2, y :: b2, _, out ++ [x])) <;> (try dsimp only) <;> try repeat' first | exact k0 | refine w1 ?_ | refine w3 ?_ ?_ | refine Ab ?_ | refine m1 ?_ ?_ | refine m2 ?_ ?_ | omega
   · rw [Ah (by simp)]; rfl
   · rw [CR]; rfl
   · refine ⟨fun e h => h1 e (by simp [h]), h2, by omega, by omega, by rw [CR, Tm]; omega, ?_⟩
     rw [← hinv, Hc]; rfl
  ·rw [if_neg (show ¬ Aj x.row (sc s y).row < 0 by show ¬ Aj x.row y.row < 0; omega), if_neg (show ¬ 0 < Aj x.row (sc s y).row by show ¬ 0 < Aj x.row y.row; omega)] at hinv
   by_cases hz : x.count + s * y.count = 0
   · have jS := cm x out
     rw [if_pos (show x.count + (sc s y).count = 0 from hz)] at hinv
     rw [← hz] at jS
     repeat' first | refine kz ?_ | refine AF u6 ?_ | refine AF u7 ?_ | refine Ao ?_ | refine Aa (Bm _ _) ?_ | refine Ae [0, 1] (jS) ?_ | refine kh ?_ ?_ | exact ⟨⟩ | fail
     apply Af ((a2, b2, _, out)) <;> (try dsimp only) <;> try repeat' first | exact k0 | refine w1 ?_ | refine w3 ?_ ?_ | refine Ab ?_ | refine m1 ?_ ?_ | refine m2 ?_ ?_ | omega
     ·rw [Ah (by simp)]; rfl
     ·rw [Ah (by simp)]; rfl
     ·exact ⟨fun e h => h1 e (by simp [h]), fun e h => h2 e (by simp [h]), by omega, by omega, by omega, hinv⟩
   · have jS := Lt x (x.count + s * y.count) hz out (by omega) (by omega)
     rw [if_neg (show ¬ x.count + (sc s y).count = 0 from hz)] at hinv
     repeat' first | refine kz ?_ | refine AF u6 ?_ | refine AF u7 ?_ | refine Ao ?_ | refine Aa (Bm _ _) ?_ | refine Ae [0, 1] (jS) ?_ | refine kh ?_ ?_ | exact ⟨⟩ | fail
     apply Af ((a2, b2, _, out ++ [⟨x.row, x.count + s * y.count⟩])) <;> (try dsimp only) <;> try repeat' first | exact k0 | refine w1 ?_ | refine w3 ?_ ?_ | refine Ab ?_ | refine m1 ?_ ?_ | refine m2 ?_ ?_ | omega
     ·rw [Ah (by simp)]; rfl
     ·rw [Ah (by simp)]; rfl
     ·rw [CR]; rfl
     ·refine ⟨fun e h => h1 e (by simp [h]), fun e h => h2 e (by simp [h]), by omega, by omega, by rw [CR, Tm]; omega, ?_⟩
      rw [← hinv, Hc]; rfl
  ·have jS := Lt y (s * y.count) q9.2.2 out (by omega) (by omega)
   rw [if_neg (show ¬ Aj x.row (sc s y).row < 0 by show ¬ Aj x.row y.row < 0; omega), if_pos (show 0 < Aj x.row (sc s y).row from hc)] at hinv
   repeat' first | refine kz ?_ | refine AF u6 ?_ | refine AF u7 ?_ | refine Ao ?_ | refine Aa (Bm _ _) ?_ | refine Ae [0, 1] (jS) ?_ | refine kh ?_ ?_ | exact ⟨⟩ | fail
   apply Af ((x :: a2, b2, _, out ++ [sc s y])) <;> (try dsimp only) <;> try repeat' first | exact k0 | refine w1 ?_ | refine w3 ?_ ?_ | refine Ab ?_ | refine m1 ?_ ?_ | refine m2 ?_ ?_ | omega
   · rw [Ah (by simp)]; rfl
   · rw [CR]; rfl
   · refine ⟨h1, fun e h => h2 e (by simp [h]), by omega, by omega, by rw [CR, Tm]; omega, ?_⟩
     rw [← hinv, Hc]; rfl
theorem Q9 : DeferOk Tryz.prog 46 0 := by
 refine ⟨⟨_, Tryz.func46, by kernel_rfl, by kernel_rfl⟩, fun vs w hl => ?_⟩
 match vs, hl with
 | [], _ =>
   refine callsD_of_wpS Tryz.func46 rfl fun c₀ cs hu => ?_
   apply wpS_region
   simp [wpOpsS, go_sem, recoverD, hu, Tryz.ntmps46, Exit.thenS]
   cases c₀
   simp_all [bodyPostS, results, Tryz.results46]
theorem Gy : DeferOk Tryz.prog 94 0 := by
 refine ⟨⟨_, Tryz.func94, by kernel_rfl, by kernel_rfl⟩, fun vs w hl => ?_⟩
 match vs, hl with
 | [], _ =>
   refine callsD_of_wpS Tryz.func94 rfl fun c₀ cs hu => ?_
   apply wpS_region
   simp [wpOpsS, go_sem, recoverD, hu, Tryz.ntmps94, Exit.thenS]
   cases c₀
   simp_all [bodyPostS, results, Tryz.results94]
def AN (s : Int) (a b : List Entry) : List Entry × Int := if Am a ∧ Am b then AU (mergeE a (b.map (sc s))) else ([], 1)
theorem Mk (a b : List Entry) : PC 19 [.one (Ak a), .one (Ak b)] (.tup [.one (Ak (AN 1 a b).1), .one (.lit (.int .i64 (AN 1 a b).2))]) := by
 have h1 := Ck a
 have h2 := Ck b
 by_cases ha : Am a = true
 ·by_cases hb : Am b = true
  ·have hm := Qo a b 1 (.inl rfl) ha hb
   have he : AN 1 a b = AU (mergeE a (b.map (sc 1))) := if_pos ⟨ha, hb⟩
   rw [he]
   generalize AU (mergeE a (b.map (sc 1))) = R at hm
   obtain ⟨r, er⟩ := R
   dsimp only at hm ⊢
   rw [ha] at h1
   rw [hb] at h2
   refine Ac hT Tryz.func19 Tryz.ntmps19 [.tmp 4, .tmp 5] fun B => ?_
   repeat' first | refine kz ?_ | refine Aa (h1) ?_ | refine Aa (h2) ?_ | refine Aa (hm) ?_ | refine Aw (by repeat (first | exact Ad | refine Aq Q9 ?_)) ?_ ?_ | refine kf ?_ | fail
   all_goals rfl
  ·have he : AN 1 a b = ([], 1) := if_neg (fun q => hb q.2)
   rw [he]
   rw [ha] at h1
   rw [show Am b = false by simpa using hb] at h2
   refine Ac hT Tryz.func19 Tryz.ntmps19 [.tmp 4, .tmp 5] fun B => ?_
   repeat' first | refine kz ?_ | refine Aa (h1) ?_ | refine Aa (h2) ?_ | refine Aw (by repeat (first | exact Ad | refine Aq Q9 ?_)) ?_ ?_ | refine kf ?_ | fail
   all_goals rfl
 ·have he : AN 1 a b = ([], 1) := if_neg (fun q => ha q.1)
  rw [he]
  rw [show Am a = false by simpa using ha] at h1
  refine Ac hT Tryz.func19 Tryz.ntmps19 [.tmp 4, .tmp 5] fun B => ?_
  repeat' first | refine kz ?_ | refine Aa (h1) ?_ | refine Aa (h2) ?_ | refine Aw (by repeat (first | exact Ad | refine Aq Q9 ?_)) ?_ ?_ | refine kf ?_ | fail
  all_goals rfl
theorem KD (a b : List Entry) : PC 45 [.one (Ak a), .one (Ak b)] (.tup [.one (Ak (AN (-1) a b).1), .one (.lit (.int .i64 (AN (-1) a b).2))]) := by
 have h1 := Ck a
 have h2 := Ck b
 by_cases ha : Am a = true
 ·by_cases hb : Am b = true
  ·have hm := Qo a b (-1) (.inr rfl) ha hb
   have he : AN (-1) a b = AU (mergeE a (b.map (sc (-1)))) := if_pos ⟨ha, hb⟩
   rw [he]
   generalize AU (mergeE a (b.map (sc (-1)))) = R at hm
   obtain ⟨r, er⟩ := R
   dsimp only at hm ⊢
   rw [ha] at h1
   rw [hb] at h2
   refine Ac hT Tryz.func45 Tryz.ntmps45 [.tmp 4, .tmp 5] fun B => ?_
   repeat' first | refine kz ?_ | refine Aa (h1) ?_ | refine Aa (h2) ?_ | refine Aa (hm) ?_ | refine Aw (by repeat (first | exact Ad | refine Aq Gy ?_)) ?_ ?_ | refine kf ?_ | fail
   all_goals rfl
  ·have he : AN (-1) a b = ([], 1) := if_neg (fun q => hb q.2)
   rw [he]
   rw [ha] at h1
   rw [show Am b = false by simpa using hb] at h2
   refine Ac hT Tryz.func45 Tryz.ntmps45 [.tmp 4, .tmp 5] fun B => ?_
   repeat' first | refine kz ?_ | refine Aa (h1) ?_ | refine Aa (h2) ?_ | refine Aw (by repeat (first | exact Ad | refine Aq Gy ?_)) ?_ ?_ | refine kf ?_ | fail
   all_goals rfl
 ·have he : AN (-1) a b = ([], 1) := if_neg (fun q => ha q.1)
  rw [he]
  rw [show Am a = false by simpa using ha] at h1
  refine Ac hT Tryz.func45 Tryz.ntmps45 [.tmp 4, .tmp 5] fun B => ?_
  repeat' first | refine kz ?_ | refine Aa (h1) ?_ | refine Aa (h2) ?_ | refine Aw (by repeat (first | exact Ad | refine Aq Gy ?_)) ?_ ?_ | refine kf ?_ | fail
  all_goals rfl
theorem Tv {s : Int} (hs : s = 1 ∨ s = -1) {M : Int} {l : List Entry} (h : Ba M l) : Ba M (l.map (sc s)) := fun e he => by
 obtain ⟨x, hx, rfl⟩ := List.mem_map.1 he
 have := h x hx
 show -M ≤ s * x.count ∧ s * x.count ≤ M
 rcases hs with rfl | rfl <;> omega
end Go.Proofs.YtmpgmjlanngkfaaGreat
end
section
namespace Go.Proofs.YtmpgmjlanngkfaaGreat
open Go.Abs Go.RowKit
set_option linter.unusedSimpArgs false
set_option maxRecDepth 100000
variable {l : List Entry} {n : Nat}
def Cq : List Entry → Nat
 | [] => 0
 | e :: l => e.count.natAbs + Cq l
theorem D7 (a b : List Entry) : Cq (a ++ b) = Cq a + Cq b := by
 induction a with
 | nil => simp [Cq]
 | cons e a ih => simp only [List.cons_append, Cq, ih]; omega
theorem QO (a b : List Entry) : Cq (mergeE a b) ≤ Cq a + Cq b := by
  induction a, b using mergeE.induct with
  | case1 b => simp [mergeE, Cq]
  | case2 a h => rw [mergeE]; · omega
                 · exact h
  | case3 x a y b h ih => rw [mergeE, if_pos h]; simp only [Cq] at ih ⊢; omega
  | case4 x a y b h1 h2 ih => rw [mergeE, if_neg h1, if_pos h2]; simp only [Cq] at ih ⊢; omega
  | case5 x a y b h1 h2 ih =>
    rw [mergeE, if_neg h1, if_neg h2, D7]
    simp only [Cq] at ih ⊢
    split
    · simp only [Cq]; omega
    · simp only [Cq]; omega
theorem QP (p : Entry → Bool) (l : List Entry) : Cq (l.filter p) ≤ Cq l := by
 induction l with
 | nil => exact Nat.le_refl _
 | cons e l ih =>
   rw [ZE]
   split
   ·simp only [Cq]; omega
   ·simp only [Cq]; omega
theorem LP (l : List Entry) : Cq (sortE l) ≤ Cq l := by
 induction l using sortE.induct with
 | case1 l h => rw [sortE, dif_pos h]; exact QP _ _
 | case2 l h mi lU =>
   rw [sortE, dif_neg h]
   have h1 := QO (sortE (l.take (l.length / 2))) (sortE (l.drop (l.length / 2)))
   have h2 := D7 (l.take (l.length / 2)) (l.drop (l.length / 2))
   rw [aT] at h2
   omega
theorem IY {e : Entry} (h : e ∈ l) : e.count.natAbs ≤ Cq l := by
 induction l with
 | nil => cases h
 | cons x l ih =>
   rcases FL.1 h with rfl | h
   ·simp only [Cq]; omega
   ·have := ih h; simp only [Cq]; omega
theorem LQ (h : ∀ e ∈ l, e.count ≠ 0) : l.length ≤ Cq l := by
 induction l with
 | nil => exact Nat.le_refl _
 | cons e l ih =>
   have h1 := ih fun x hx => h x (by simp [hx])
   have h2 := h e (by simp)
   simp only [Cq, List.length_cons]; omega
theorem Zs (h : ∀ e ∈ l, e.count.natAbs ≤ n) : Cq l ≤ n * l.length := by
 induction l with
 | nil => exact Nat.zero_le _
 | cons e l ih =>
   have h1 := ih fun x hx => h x (by simp [hx])
   have h2 := h e (by simp)
   simp only [Cq, List.length_cons, Nat.mul_add]; omega
def wS (f : List Val → Int) : List Entry → Int
 | [] => 0
 | e :: l => e.count * f e.row + wS f l
theorem EE (f : List Val → Int) (a b : List Entry) : wS f (a ++ b) = wS f a + wS f b := by
 induction a with
 | nil => simp [wS]
 | cons e a ih => simp only [List.cons_append, wS, ih]; omega
theorem XE {f g : List Val → Int} (h : ∀ e ∈ l, f e.row = g e.row) : wS f l = wS g l := by
 induction l with
 | nil => rfl
 | cons e l ih => rw [wS, wS, h e (by simp), ih fun x hx => h x (by simp [hx])]
theorem cR (f g : List Val → Int) (l : List Entry) : wS (fun s => f s + g s) l = wS f l + wS g l := by
 induction l with
 | nil => rfl
 | cons e l ih => simp only [wS, ih, Int.mul_add]; omega
theorem JC (f : List Val → Int) (a b : List Entry) : (∀ e ∈ a, AE e.row) → (∀ e ∈ b, AE e.row) → wS f (mergeE a b) = wS f a + wS f b := by
  induction a, b using mergeE.induct with
  | case1 b => intro _ _; simp [mergeE, wS]
  | case2 a h => intro _ _; rw [mergeE]; · simp [wS]
                 · exact h
  | case3 x a y b h ih =>
    intro ha hb
    have ih := ih (fun e he => ha e (by simp [he])) hb
    rw [mergeE, if_pos h]; simp only [wS] at ih ⊢; rw [ih]; omega
  | case4 x a y b h1 h2 ih =>
    intro ha hb
    have ih := ih ha (fun e he => hb e (by simp [he]))
    rw [mergeE, if_neg h1, if_pos h2]; simp only [wS] at ih ⊢; rw [ih]; omega
  | case5 x a y b h1 h2 ih =>
    intro ha hb
    have ih := ih (fun e he => ha e (by simp [he])) (fun e he => hb e (by simp [he]))
    have h0 : Aj x.row y.row = 0 := by omega
    have hr := EV (ha x (by simp)) (hb y (by simp)) h0
    rw [mergeE, if_neg h1, if_neg h2, EE, ih]
    simp only [wS]
    rw [← hr]
    have hm : (x.count + y.count) * f x.row = x.count * f x.row + y.count * f x.row := Int.add_mul ..
    split
    · rename_i hz
      rw [hz, Int.zero_mul] at hm
      simp only [wS]; omega
    · simp only [wS]; omega
theorem UX (f : List Val → Int) (l : List Entry) : wS f (l.filter (fun e => decide (e.count ≠ 0))) = wS f l := by
 induction l with
 | nil => rfl
 | cons e l ih =>
   rw [ZE]
   split
   ·simp only [wS, ih]
   ·rename_i h
    have : e.count = 0 := by simpa using h
    simp only [wS, ih, this]; omega
theorem QQ (f : List Val → Int) (l : List Entry) : (∀ e ∈ l, AE e.row) → wS f (sortE l) = wS f l := by
 induction l using sortE.induct with
 | case1 l h => intro _; rw [sortE, dif_pos h]; exact UX f l
 | case2 l h mi lU =>
   intro hc
   have c1 : ∀ e ∈ l.take (l.length / 2), AE e.row := fun e he => hc e (I0 he)
   have c2 : ∀ e ∈ l.drop (l.length / 2), AE e.row := fun e he => hc e (Tn he)
   rw [sortE, dif_neg h, JC f _ _ (B5 _ c1).1.cl (B5 _ c2).1.cl, mi c1, lU c2, ← EE, aT]
def fm (r s : List Val) : Int := if Aj s r = 0 then 1 else 0
theorem XF (l : List Entry) (r : List Val) : Bn l r = wS (fm r) l := by
 induction l with
 | nil => rfl
 | cons e l ih =>
   rw [Bn, wS, ih, fm]
   split <;> simp
structure Tiny (n w : Nat) (b : List Entry) : Prop where
 v : Am b = true
 w : ∀ e ∈ b, e.row.length = w
 s : Cq b ≤ n
theorem Tiny.cl {w : Nat} {b : List Entry} (h : Tiny n w b) : ∀ e ∈ b, AE e.row := fun e he => Bu ((AP h.v).2 e he).1
theorem Tk {w : Nat} (hr : ∀ e ∈ l, AR e.row = true) (hw : ∀ e ∈ l, e.row.length = w) (hs : Cq l ≤ n) (hn : n ≤ 4096) : Tiny n w (sortE l) ∧ ∀ e ∈ sortE l, e.count.natAbs ≤ 4096 := by
 obtain ⟨h1, _⟩ := B5 l fun e he => Bu (hr e he)
 have h2 := LP l
 have h3 : ∀ e ∈ sortE l, e.count.natAbs ≤ 4096 := fun e he => by have := IY he; omega
 have h4 := LQ h1.nz
 refine ⟨⟨?_, fun e he => ?_, by omega⟩, h3⟩
 ·rw [Am, Kl (fun e he => ?_) h1.up (by simp), Bool.and_true]
  ·simp only [decide_eq_true_eq]; omega
  ·obtain ⟨x, hx, q⟩ := Hg l e he
   have a1 := hr x hx
   rw [q] at a1
   have a2 := h1.nz e he
   have a3 := h3 e he
   simp only [Entry.ok, a1, AD, Bool.true_and, BM, decide_eq_true_eq]
   omega
 ·obtain ⟨x, hx, q⟩ := Hg l e he
  rw [← q]; exact hw x hx
end Go.Proofs.YtmpgmjlanngkfaaGreat
end
section
namespace Go.Proofs.YtmpgmjlanngkfaaGreat
open Go.Abs Go.RowKit
attribute [local irreducible] ARun Av MCall PCall HCall Ap SF CF CFs Ag Ai As fin AY VLe
set_option linter.unusedSimpArgs false
set_option maxRecDepth 100000
set_option maxHeartbeats 4000000
theorem Vq (L : List (Val × Int)) (hl : L.length ≤ 4096) (j2 : L ≠ []) : HC 234 [.c (.arr 0 0 L.length), .c (.d (.lit (.func (.func 236) #[] #[])))] [.arr 0 186 4 (L.map CU)] (.c (.arr 0 1 (Cj L).length)) [.arr 1 186 4 ((Cj L).map CU)] := by
 by_cases h : Iq L < L.length
 ·exact bn L hl h
 ·exact bj L hl j2 h
theorem Tw (x y : Val × Int) : PC 238 [.agg (CU x), .agg (CU y)] (.v (.one (.lit (.int .i64 (x.1.cmp y.1))))) := by
 refine Ac hT Tryz.func238 Tryz.ntmps238 [.tmp 4] fun B => ?_
 repeat' first | refine kz ?_ | refine Aa (Jb x.1 y.1) ?_ | refine kf ?_ | fail
 all_goals rfl
noncomputable def rkE (f : Int) (L : List (Val × Int)) : Val :=
 if Cj L = [] then Val.null else if f = 2 then Cs (ascE L) 0 else if f = 3 then Cs (ascE L) (Dx (Cj L) - 1) else Cs (ascE L) ((Dx (Cj L) - 1) / 2)
theorem Vr : PC 235 [.one (E1 [])] (.v (.one (E1 []))) := by
 refine Ac hT Tryz.func235 Tryz.ntmps235 [.tmp 2] fun B => ?_
 repeat' first | refine kz ?_ | refine Az rfl (fun hb => ?_) (fun hb => ?_) | refine NK (fun b jP => ?_) | refine kh ?_ ?_ | exact ⟨⟩ | fail
 all_goals first
  | rfl
  | (simp; done)
theorem bq : PC 234 [.one (E1 []), .one (.lit (.func (.func 236) #[] #[]))] (.v (.one (E1 []))) := by
 have h := Rb [] (by simp)
 rw [if_neg (by decide)] at h
 refine Ac hT Tryz.func234 Tryz.ntmps234 [.tmp 4] fun B => ?_
 repeat' first | refine kz ?_ | refine Aa (h) ?_ | refine kf ?_ | fail
 all_goals rfl
theorem Tx (f : Int) : PC 198 [.one (.lit (.int .i64 f)), .one (E1 [])] (.v (.agg (rkE f []).d)) := by
 have h : rkE f [] = Val.null := by unfold rkE; exact if_pos rfl
 rw [h]
 refine Ac hT Tryz.func198 Tryz.ntmps198 [.cell 4 73] fun B => ?_
 repeat' first | refine kz ?_ | refine Aa (Vr) ?_ | refine Aa (bq) ?_ | refine kh ?_ ?_ | exact ⟨⟩ | fail
 all_goals rfl
theorem OQ (L : List (Val × Int)) : (ascE L).length = (Cj L).length := (Cv L).length_eq
theorem br {L : List (Val × Int)} (h : Nv L) : Nv (ascE L) := by
 refine ⟨by rw [OQ]; exact LX (Nz L) h.1, fun x hx => ?_⟩
 exact h.2 x (L1.1 ((Cv L).mem_iff.1 hx)).1
theorem Ty (L : List (Val × Int)) (hb : Nv L) (j2 : L ≠ []) (hn : Cj L = []) (f : Int) : PC 198 [.one (.lit (.int .i64 f)), .one (E1 L)] (.v (.agg (rkE f L).d)) := by
 have h : rkE f L = Val.null := by unfold rkE; rw [if_pos hn]
 rw [h]
 have h1 := OP L hb.1 j2
 have h2 := Vq L hb.1 j2
 rw [hn, List.length_nil, List.map_nil] at h2
 refine Ac hT Tryz.func198 Tryz.ntmps198 [.cell 4 73] fun B => ?_
 repeat' first | refine kz ?_ | refine Ae [] (h1) ?_ | refine Ae [1] (h2) ?_ | refine kh ?_ ?_ | exact ⟨⟩ | fail
 all_goals rfl
theorem Vs (L : List (Val × Int)) (hb : Nv L) (hp : Ea L) (f : Int) (hf : f = 2 ∨ f = 3 ∨ f = 4) : PC 198 [.one (.lit (.int .i64 f)), .one (E1 L)] (.v (.agg (rkE f L).d)) := by
 by_cases j2 : L = []
 ·subst j2; exact Tx f
 by_cases hn : Cj L = []
 ·exact Ty L hb j2 hn f
 have h1 := OP L hb.1 j2
 have h2 := Vq L hb.1 j2
 have lL := Nz L
 have oI := hb.1
 have hS := RN CU (fun _ => rfl) (fun x y => x.1.cmp y.1) vcmp_ok.swo 238 (Cj L) (by omega) (fun x _ y _ => Tw x y)
 have qz : sortF (fun x y : Val × Int => x.1.cmp y.1) (Cj L) = ascE L := rfl
 rw [qz] at hS
 have hr : rkE f L = if f = 2 then Cs (ascE L) 0 else if f = 3 then Cs (ascE L) (Dx (Cj L) - 1) else Cs (ascE L) ((Dx (Cj L) - 1) / 2) := by unfold rkE; rw [if_neg hn]
 have ht : Dx (Cj L) = Dx (ascE L) := (EJ (Cv L)).symm
 rw [hr, ht]
 have jM := OQ L
 have hB := br hb
 have hP : Ea (ascE L) := fun x hx => hp x (L1.1 ((Cv L).mem_iff.1 hx)).1
 have jD : 0 < (Cj L).length := dD.2 hn
 clear hr ht qz
 generalize ascE L = S at hS jM hB hP ⊢
 generalize hN : (Cj L).length = N at h2 hS jM jD lL
 clear hN
 rcases hf with rfl | rfl | rfl
 ·obtain ⟨x, S', rfl⟩ : ∃ x S', S = x :: S' := by
   cases S with
   | nil => simp at jM; omega
   | cons x S' => exact ⟨x, S', rfl⟩
  rw [if_pos rfl, TB hP]
  have hv : ((x :: S').map CU)[0]? = some (CU x) := rfl
  have kM : ((x :: S').map CU).length = N := by rw [BR]; exact jM
  generalize (x :: S').map CU = M at hS hv kM
  refine Ac hT Tryz.func198 Tryz.ntmps198 [.cell 4 73] fun B => ?_
  repeat' first | refine kz ?_ | refine AF hv ?_ | refine Ao ?_ | refine Ae [] (h1) ?_ | refine Ae [1] (h2) ?_ | refine Ae [1] (hS) ?_ | refine kh ?_ ?_ | exact ⟨⟩ | fail
  all_goals rfl
 ·obtain ⟨S', x, rfl⟩ : ∃ S' x, S = S' ++ [x] := by
   rcases List.eq_nil_or_concat S with h | ⟨a, b, h⟩
   · subst h; simp at jM; omega
   · exact ⟨a, b, by rw [h, List.concat_eq_append]⟩
  rw [if_neg (by decide), if_pos rfl, OT hP]
  have yt : S'.length + 1 = N := by simpa using jM
  have hv : ((S' ++ [x]).map CU)[((N : Int) - 1).toNat]? = some (CU x) := by
   rw [show ((N : Int) - 1).toNat = S'.length by omega, BU]; simp
  have kM : ((S' ++ [x]).map CU).length = N := by rw [BR]; exact jM
  generalize (S' ++ [x]).map CU = M at hS hv kM
  refine Ac hT Tryz.func198 Tryz.ntmps198 [.cell 4 73] fun B => ?_
  repeat' first | refine kz ?_ | refine AF hv ?_ | refine Ao ?_ | refine Ae [] (h1) ?_ | refine Ae [1] (h2) ?_ | refine Ae [1] (hS) ?_ | refine kh ?_ ?_ | exact ⟨⟩ | fail
  all_goals rfl
 ·rw [if_neg (by decide), if_neg (by decide)]
  have yt := hB.1
  have yu := Ix hP (fun q => by rw [q] at jM; simp at jM; omega)
  have u9 := I4 hB S.length
  rw [Ir] at u9
  refine Ac hT Tryz.func198 Tryz.ntmps198 [.cell 4 73] fun B => ?_
  repeat' first | refine kz ?_ | refine Ae [] (h1) ?_ | refine Ae [1] (h2) ?_ | refine Ae [1] (hS) ?_ | refine kh ?_ ?_ | exact ⟨⟩ | fail
  refine AK (X := Nat × Int) ([5, 7] ++ List.range' 38 9) (fun x => x.1 ≤ N ∧ x.2 = Dx (S.take x.1)) (fun x lz => (38, (iC x.1)) :: (5, .c (.d (.lit (.int .i64 x.2)))) :: lz) (fun x => [.box 1 (Val.null.d.map .d), .arr 3 186 4 (S.map CU)]) (fun x => N - x.1) ((0, 0)) ?_ ?_ ?_ ?_
  repeat' first | exact k0 | refine kw ?_ | refine kv ?_ ?_ | omega
  ·exact ⟨by simp, rfl⟩
  rintro ⟨k, m⟩ c ⟨hk, hm⟩
  dsimp only at hk hm ⊢
  by_cases nZ : k < N
  ·obtain ⟨x, hv⟩ := gx (l := S) (i := k) (by omega)
   have jL : (S.map CU)[k]? = some (CU x) := by rw [BU, hv]; rfl
   have e1 := KE hv
   have b1 := I4 hB (k + 1)
   have b2 := I4 hB k
   rw [← hm] at e1 b2
   have kM : (S.map CU).length = N := by rw [BR]; exact jM
   generalize S.map CU = M at jL kM ⊢
   repeat' first | refine kz ?_ | refine AF jL ?_ | refine Ao ?_ | refine kh ?_ ?_ | exact ⟨⟩ | fail
   apply Af ((k + 1, m + x.2)) <;> (try dsimp only) <;> try repeat' first | exact k0 | refine kw ?_ | refine kv ?_ ?_ | omega
   all_goals exact ⟨by omega, e1.symm⟩
  ·obtain rfl : k = N := by omega
   rw [Ah (by omega)] at hm
   rw [← hm] at yu u9 ⊢
   repeat' first | refine kz ?_ | refine kh ?_ ?_ | exact ⟨⟩ | fail
   refine AK (X := Nat × Int) ([8, 10] ++ List.range' 52 15) (fun x => x.1 ≤ k ∧ 0 ≤ x.2 ∧ x.2 ≤ 1073741824 ∧ Cs S ((m - 1) / 2) = Cs (S.drop x.1) x.2) (fun x lz => (52, (iC x.1)) :: (8, .c (.d (.lit (.int .i64 x.2)))) :: lz) (fun x => [.box 1 (Val.null.d.map .d), .arr 3 186 4 (S.map CU)]) (fun x => k - x.1) ((0, (m - 1) / 2)) ?_ ?_ ?_ ?_
   repeat' first | exact k0 | refine kw ?_ | refine kv ?_ ?_ | omega
   all_goals try (dsimp only; rw [Int.tdiv_eq_ediv_of_nonneg (by omega), BW (by omega) (by omega)]; done)
   all_goals try (exact ⟨by omega, by dsimp only; omega, by dsimp only; omega, rfl⟩)
   rintro ⟨q, z⟩ c2 ⟨hq, lY, lj, lT⟩
   dsimp only at hq lY lj lT ⊢
   by_cases o0 : q < k
   · have hv : S[q]? = some S[q] := Bo (by omega)
     have tg := hP _ (Cb hv)
     generalize S[q] = x at hv tg
     have jL : (S.map CU)[q]? = some (CU x) := by rw [BU, hv]; rfl
     have kM : (S.map CU).length = k := by rw [BR]; exact jM
     rw [AB hv, Cs] at lT
     generalize S.map CU = M at jL kM ⊢
     by_cases wV : z < x.2
     ·rw [if_pos wV] at lT
      rw [lT]
      repeat' first | refine kz ?_ | refine AF jL ?_ | refine Ao ?_ | refine kh ?_ ?_ | exact ⟨⟩ | fail
      all_goals rfl
     ·rw [if_neg wV] at lT
      repeat' first | refine kz ?_ | refine AF jL ?_ | refine Ao ?_ | refine kh ?_ ?_ | exact ⟨⟩ | fail
      apply Af ((q + 1, z - x.2)) <;> (try dsimp only) <;> try repeat' first | exact k0 | refine kw ?_ | refine kv ?_ ?_ | omega
      all_goals exact ⟨by omega, by omega, by omega, lT⟩
   · rw [R9 (by omega), Cs] at lT
     rw [lT]
     repeat' first | refine kz ?_ | refine kh ?_ ?_ | exact ⟨⟩ | fail
     all_goals rfl
end Go.Proofs.YtmpgmjlanngkfaaGreat
end
