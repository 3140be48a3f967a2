/-
  Algebra: what join computes, in plain terms.
-/
import Derived.Test.YtmpgmjlanngkfaaGreatJod
import Derived.Test.YtmpgmjlanngkfaaGreatJoc
import Derived.Test.YtmpgmjlanngkfaaGreatJoe
section
namespace Go.Proofs.YtmpgmjlanngkfaaGreat
open Go.Abs Go.RowKit
attribute [local irreducible] ARun At MCall PCall HCall Am SF CF CFs Ah Aj Ar fin AW VLe
set_option linter.unusedSimpArgs false
set_option maxRecDepth 100000
set_option maxHeartbeats 4000000
theorem Rd (st : List Lev) (s r : List (Bs × Int)) (h : closeE [] st.reverse s r = none) (hst : st.length ≤ 100000) (hop : ∀ l ∈ st, l.opened.length ≤ 100000) (hr : r.length ≤ 4096) :
  HCall Tryz.prog 195 [.c (.bp 0 0 0), .c (.d (CY []))] (jm st s r) (.c (.d (.lit (.bool false)))) [.dead, .dead, .dead, .dead] := by
 have hcn : ((⟨([] : Bs).toArray⟩ : ByteArray).toList == ({ data := #[] } : ByteArray).toList) = true := by rw [Fd]; simp
 refine As hT Tryz.func195 Tryz.ntmps195 [.tmp 4] fun B => ?_
 repeat' (first | refine kz ?_ | refine ki ?_ | refine kf ?_ | refine kg ?_ ?_ | exact k0 | refine Ab ?_ | refine m1 ?_ ?_ | refine AB ?_)
 refine AO (X := List Lev × List (Bs × Int) × List (Bs × Int) × List (List Dat) × Nat × Nat) [4, 5, 7, 8, 9, 10, 11, 12, 13, 14, 15, 16, 17, 18, 19, 20, 21, 22, 23, 24, 25, 26, 27, 28, 29, 30, 31, 32, 33, 34, 35, 36, 37, 38, 39, 40, 41, 42, 43, 44, 45, 46, 47, 48, 49, 50, 51, 52, 53, 54, 55, 56, 57, 58, 59, 60, 61, 62, 63, 64, 65, 66, 67, 68, 69, 70, 71, 72, 73, 74, 75, 76, 77, 78, 79, 80, 81, 82, 83, 84, 85, 86, 87] (fun x => closeE [] x.1.reverse x.2.1 x.2.2.1 = none ∧ x.1.length ≤ 100000 ∧ (∀ l ∈ x.1, l.opened.length ≤ 100000) ∧ x.2.2.1.length ≤ 4096) (fun x lz => lz) (fun x => [.box 0 [.arr 1 x.2.2.2.2.1 x.1.length, .mp 2 0, .arr 3 x.2.2.2.2.2 x.2.2.1.length], .arr x.2.2.2.2.1 232 2 (x.1.map Lev.d ++ x.2.2.2.1), .mapb 0 9 2 (x.2.1.map JP), .arr x.2.2.2.2.2 200 2 (x.2.2.1.map Gr)]) (fun x => x.1.length) ((st, s, r, [], 0, 0)) ?_ ?_ ?_ ?_
 repeat' (first | exact k0 | refine kw ?_ | refine kv ?_ ?_ | omega)
 ·simp
 ·exact ⟨h, hst, hop, hr⟩
 rintro ⟨st1, s1, r1, tl, k1, k3⟩ c ⟨hinv, hl1, hop1, hr1⟩
 dsimp only at hinv hl1 hop1 hr1 ⊢
 refine Qo 1 st1.length ?_ (show (st1.map Lev.d ++ tl).take st1.length = st1.map Lev.d by rw [List.take_append_of_le_length (by simp)]; exact List.take_of_length_le (by simp))
 rcases Ep st1 with rfl | ⟨st2, l, rfl⟩
 ·simp only [List.reverse_nil, closeE] at hinv
  cases hinv
 ·have hl2 : st2.length + 1 ≤ 100000 := by simpa using hl1
  have hlen : (st2 ++ [l]).length = st2.length + 1 := by simp
  have he : ((st2 ++ [l]).map Lev.d)[(((st2 ++ [l]).length : Int) - 1).toNat]? = some l.d := by
   rw [hlen, show (((st2.length + 1 : Nat) : Int) - 1).toNat = st2.length by omega, List.map_append]; exact HA _ _ (by simp)
  have hop2 : ∀ l ∈ st2, l.opened.length ≤ 100000 := fun l hl => hop1 l (by simp [hl])
  have hlo := hop1 l (by simp)
  rw [List.reverse_append, List.reverse_singleton, List.singleton_append, closeE] at hinv
  rw [if_neg (by simp)] at hinv
  generalize hcl : closeLev l.opened s1 r1 = q at hinv
  repeat' (first | (exfalso; rw [hcn] at hb; cases hb; done) | refine D5 (m' := st2.length) ?_ (hm' := by omega) | refine kz ?_ | refine kx he ?_ | refine ki ?_ | refine Gw ?_ | refine AX Af ?_ ?_ | exact k0 | refine Ab ?_ | refine m1 ?_ ?_ | refine AB ?_)
  refine AO (X := Nat × List (Bs × Int) × List (Bs × Int) × Nat) [4, 7, 8, 52, 53, 54, 55, 56, 57, 58, 59, 60, 61, 62, 63, 64, 65, 66, 67, 68, 69, 70, 71, 72, 73, 74, 75, 76, 77, 78, 79, 80, 81, 82, 83, 84, 85, 86, 87] (fun x => closeLev (l.opened.drop x.1) x.2.1 x.2.2.1 = q ∧ x.1 ≤ l.opened.length ∧ x.2.2.1.length ≤ 4096) (fun x lz => (52, (.c (.d (.lit (.int .i64 x.1))))) :: lz) (fun x => [.box 0 [.arr 1 k1 st2.length, .mp 2 0, .arr 3 x.2.2.2 x.2.2.1.length], .arr k1 232 2 ((st2 ++ [l]).map Lev.d), .mapb 0 9 2 (x.2.1.map JP), .arr x.2.2.2 200 2 (x.2.2.1.map Gr)]) (fun x => l.opened.length - x.1) ((0, s1, r1, k3)) ?_ ?_ ?_ ?_
  repeat' (first | exact k0 | refine kw ?_ | refine kv ?_ ?_ | omega)
  ·exact ⟨by simpa using hcl, by simp, hr1⟩
  rintro ⟨i, s3, r3, k4⟩ c4 ⟨hi3, hin, hr3⟩
  dsimp only at hi3 hin hr3 ⊢
  by_cases hlt : i < l.opened.length
  ·have hv : l.opened[i]? = some l.opened[i] := List.getElem?_eq_getElem hlt
   generalize l.opened[i] = cc at hv
   rw [AD hv, closeLev] at hi3
   rcases BT cc s3 with ⟨i0, v, g1, g2, _, g4, _⟩ | ⟨g1, g2, _, g4, _⟩
   · rw [g4] at hi3
     by_cases hz : v = 0
     · have hn : BO cc s3 r3 = r3 := by rw [BO, g2, if_pos hz]
       rw [hn, if_neg (by omega)] at hi3
       repeat' (first | refine kz ?_ | refine kx hv ?_ | refine ki ?_ | refine Cx (Bd g1) ⟨_, rfl⟩ (AH _) ?_ | refine Ca (Bd g1) ⟨_, rfl⟩ (AH _) ?_ | refine kf ?_ | refine kg ?_ ?_ | exact k0 | refine Ab ?_ | refine m1 ?_ ?_ | refine AB ?_)
       rw [Eo]
       generalize s3.eraseIdx i0 = s4 at hi3 ⊢
       (apply Ae ((i + 1, s4, r3, k4)); all_goals (try dsimp only); all_goals (try (repeat' (first | exact k0 | refine kw ?_ | refine kv ?_ ?_ | omega))))
       exact ⟨hi3, by omega, hr3⟩
     · have hn : BO cc s3 r3 = r3 ++ [(cc, v)] := by rw [BO, g2, if_neg hz]
       rw [hn] at hi3
       have hl4 : (r3 ++ [(cc, v)]).length = r3.length + 1 := by simp
       have hl5 : r3.length + [[CY cc, Dat.lit (Value.int .i64 v)]].length = (r3 ++ [(cc, v)]).length := by simp
       have hm4 : r3.map Gr ++ [[CY cc, Dat.lit (Value.int .i64 v)]] = (r3 ++ [(cc, v)]).map Gr := by rw [List.map_append]; rfl
       by_cases hlen3 : 4096 < (r3 ++ [(cc, v)]).length
       · repeat' (first | refine kz ?_ | refine kx hv ?_ | refine ki ?_ | refine Cx (Bd g1) ⟨_, rfl⟩ (AH _) ?_ | refine Ca (Bd g1) ⟨_, rfl⟩ (AH _) ?_ | refine kf ?_ | refine kg ?_ ?_ | exact k0 | refine Ab ?_ | refine m1 ?_ ?_ | refine AB ?_)
       rw [if_neg hlen3] at hi3
       repeat' (first | refine kz ?_ | refine kx hv ?_ | refine ki ?_ | refine Cx (Bd g1) ⟨_, rfl⟩ (AH _) ?_ | refine Ca (Bd g1) ⟨_, rfl⟩ (AH _) ?_ | refine kf ?_ | refine kg ?_ ?_ | exact k0 | refine Ab ?_ | refine m1 ?_ ?_ | refine AB ?_)
       rw [Eo, hm4, hl5]
       generalize s3.eraseIdx i0 = s4 at hi3 ⊢
       generalize r3 ++ [(cc, v)] = r4 at hi3 hl4 hlen3 ⊢
       (apply Ae ((i + 1, s4, r4, c4 + 1)); all_goals (try dsimp only); all_goals (try (repeat' (first | exact k0 | refine kw ?_ | refine kv ?_ ?_ | omega))))
       exact ⟨hi3, by omega, by omega⟩
   · rw [g4] at hi3
     have hn : BO cc s3 r3 = r3 := by rw [BO, g2, if_pos rfl]
     rw [hn, if_neg (by omega)] at hi3
     repeat' (first | refine kz ?_ | refine kx hv ?_ | refine ki ?_ | refine F3 (DL g1) ⟨_, rfl⟩ (AH _) ?_ | refine Ff (DL g1) ⟨_, rfl⟩ (AH _) ?_ | refine kf ?_ | refine kg ?_ ?_ | exact k0 | refine Ab ?_ | refine m1 ?_ ?_ | refine AB ?_)
     (apply Ae ((i + 1, s3, r3, k4)); all_goals (try dsimp only); all_goals (try (repeat' (first | exact k0 | refine kw ?_ | refine kv ?_ ?_ | omega))))
     exact ⟨hi3, by omega, hr3⟩
  ·have hie : i = l.opened.length := by omega
   subst hie
   rw [List.drop_length, closeLev] at hi3
   subst hi3
   dsimp only at hinv
   repeat' (first | refine kz ?_ | refine ki ?_ | refine kf ?_ | refine kg ?_ ?_ | exact k0 | refine Ab ?_ | refine m1 ?_ ?_ | refine AB ?_)
   (apply Ae ((st2, s3, r3, [l.d], k1, k4)); all_goals (try dsimp only); all_goals (try (repeat' (first | exact k0 | refine kw ?_ | refine kv ?_ ?_ | omega))))
   · rw [List.map_append]; rfl
   · exact ⟨hinv, by omega, hop2, hr3⟩
theorem KZ (code : Bs) (st : List Lev) (s r : List (Bs × Int)) (st' : List Lev) (s' r' : List (Bs × Int)) (h : closeE code st.reverse s r = some (st'.reverse, s', r')) (hst : st.length ≤ 100000) (hop : ∀ l ∈ st, l.opened.length ≤ 100000) (hr : r.length ≤ 4096) :
  HCall Tryz.prog 195 [.c (.bp 0 0 0), .c (.d (CY code))] (jm st s r) (.c (.d (.lit (.bool true)))) (ZK st' s' r') := by
 by_cases hc : code = []
 ·subst hc; exact Rc st s r st' s' r' h hst hop hr
 ·exact TF code hc st s r st' s' r' h hst hop hr
theorem K0 (code : Bs) (st : List Lev) (s r : List (Bs × Int)) (h : closeE code st.reverse s r = none) (hst : st.length ≤ 100000) (hop : ∀ l ∈ st, l.opened.length ≤ 100000) (hr : r.length ≤ 4096) :
  HCall Tryz.prog 195 [.c (.bp 0 0 0), .c (.d (CY code))] (jm st s r) (.c (.d (.lit (.bool false)))) [.dead, .dead, .dead, .dead] := by
 by_cases hc : code = []
 ·subst hc; exact Rd st s r h hst hop hr
 ·exact TG code hc st s r h hst hop hr
def AT (x : Bs × Int) (q : List Bs × List (Bs × Int)) (y : Bs × Int) : List Bs × List (Bs × Int) :=
 (if Pg (x.1 ++ y.1) q.2 then q.1 else q.1 ++ [x.1 ++ y.1], Ph (x.1 ++ y.1) (JQ (x.1 ++ y.1) q.2 + x.2 * y.2) q.2)
def XD (M : Int) (s : List (Bs × Int)) : Prop := ∀ e ∈ s, -M ≤ e.2 ∧ e.2 ≤ M
theorem TH (a b : Bs) : (⟨a.toArray⟩ : ByteArray) ++ (⟨b.toArray⟩ : ByteArray) = ⟨(a ++ b).toArray⟩ := by
 apply ByteArray.ext
 simp
theorem NI (x : Bs × Int) (q : List Bs × List (Bs × Int)) (y : Bs × Int) : (AT x q y).1.length ≤ q.1.length + 1 := by
 unfold AT
 split <;> simp
theorem IH {x : Bs × Int} {q : List Bs × List (Bs × Int)} {y : Bs × Int} {M K : Int} (h : XD M q.2) (hk : -K ≤ x.2 * y.2 ∧ x.2 * y.2 ≤ K) (hM : 0 ≤ M) : XD (M + K) (AT x q y).2 := by
 unfold AT
 rcases BT (x.1 ++ y.1) q.2 with ⟨i, v, g1, g2, _, _, g5⟩ | ⟨_, g2, _, _, g5⟩
 ·have hv := h _ (List.mem_of_getElem? g1)
  simp only [g5, g2]
  intro e he
  rcases List.mem_or_eq_of_mem_set he with he | rfl
  ·have := h e he; omega
  ·simp only at hv ⊢; omega
 ·simp only [g5, g2]
  intro e he
  rcases List.mem_append.1 he with he | he
  ·have := h e he; omega
  ·obtain rfl := List.mem_singleton.1 he
   simp only; omega
theorem XE (x : Bs × Int) (ps : List (Bs × Int)) (st : List Lev) (s r : List (Bs × Int)) (h : closeE x.1 st.reverse s r = none) (hst : st.length ≤ 100000) (hop : ∀ l ∈ st, l.opened.length ≤ 100000) (hr : r.length ≤ 4096) :
  HCall Tryz.prog 194 [.c (.bp 0 0 0), .agg ((Gr x).map .d), .c (.d (.sl (ps.map Gr)))] (jm st s r) (.c (.d (.lit (.bool false)))) [.dead, .dead, .dead, .dead] := by
 have hcl := K0 x.1 st s r h hst hop hr
 refine As hT Tryz.func194 Tryz.ntmps194 [.tmp 6] fun B => ?_
 repeat' (first | refine kz ?_ | refine Ad [0, 1, 2, 3] (hcl) ?_ | refine kg ?_ ?_ | exact k0 | refine Ab ?_)
theorem XF (u : Bs × Int) (ps : List (Bs × Int)) (st : List Lev) (s r : List (Bs × Int)) (st' : List Lev) (s' r' : List (Bs × Int)) (h : closeE u.1 st.reverse s r = some (st'.reverse, s', r')) (hst : st.length ≤ 100000) (hst' : st'.length ≤ 100000) (hop : ∀ l ∈ st, l.opened.length ≤ 100000) (hr : r.length ≤ 4096)
  (hpl : ps.length ≤ 100000) (M : Int) (hM : 0 ≤ M) (hb : XD M s') (hk : ∀ y ∈ ps, -68719476736 ≤ u.2 * y.2 ∧ u.2 * y.2 ≤ 68719476736) (hMb : M + 68719476736 * ps.length ≤ 2305843009213693952) (hxl : u.1.length ≤ 100000) (hyl : ∀ y ∈ ps, y.1.length ≤ 100000) :
  HCall Tryz.prog 194 [.c (.bp 0 0 0), .agg ((Gr u).map .d), .c (.d (.sl (ps.map Gr)))] (jm st s r) (.c (.d (.lit (.bool true)))) (ZK (st' ++ [⟨u.1, (ps.foldl (AT u) ([], s')).1⟩]) (ps.foldl (AT u) ([], s')).2 r') := by
 have hcl := KZ u.1 st s r st' s' r' h hst hop hr
 refine As hT Tryz.func194 Tryz.ntmps194 [.tmp 6] fun B => ?_
 repeat' (first | refine kz ?_ | refine ki ?_ | refine Ad [0, 1, 2, 3] (hcl) ?_ | refine kg ?_ ?_ | exact k0 | refine Ab ?_ | refine m1 ?_ ?_ | refine m2 ?_ ?_)
 refine BA 7 9 1 ?_
 refine AO (X := Nat × List Bs × List (Bs × Int) × Nat) [7, 9, 10, 11, 12, 20, 21, 22, 23, 24, 25, 26, 27, 28, 29, 30, 31, 32, 33, 34, 35, 36, 37, 38, 39, 40, 41, 42, 43, 44, 45, 46, 47, 48, 49, 50, 51, 52, 53, 54, 55, 56] (fun x => x.1 ≤ ps.length ∧ (ps.take x.1).foldl (AT u) ([], s') = (x.2.1, x.2.2.1) ∧ x.2.1.length ≤ x.1 ∧ XD (M + 68719476736 * x.1) x.2.2.1) (fun x lz => (7, .c (.arr 5 x.2.2.2 x.2.1.length)) :: (20, (.c (.d (.lit (.int .i64 x.1))))) :: lz) (fun x => [.box 0 [.arr 1 2 st'.length, .mp 2 0, .arr 3 2 r'.length], .arr 2 232 2 (st'.map Lev.d), .mapb 0 9 2 (x.2.2.1.map JP), .arr 2 200 2 (r'.map Gr), .box 1 [.d (CY u.1), .d (.lit (.int .i64 u.2))], .arr x.2.2.2 9 1 (x.2.1.map fun c => [CY c])]) (fun x => ps.length - x.1) ((0, [], s', 3)) ?_ ?_ ?_ ?_
 repeat' (first | exact k0 | refine kw ?_ | refine kv ?_ ?_ | omega)
 ·exact ⟨by omega, by simp, by simp, by simpa using hb⟩
 rintro ⟨i, op, s1, k5⟩ c ⟨hi, hinv, hol, hb1⟩
 dsimp only at hi hinv hol hb1 ⊢
 by_cases hlt : i < ps.length
 ·have hv : ps[i]? = some ps[i] := List.getElem?_eq_getElem hlt
  have hyk := hk _ (List.getElem_mem hlt)
  have hyl1 := hyl _ (List.getElem_mem hlt)
  generalize ps[i] = y at hv hyk hyl1
  have htk : (ps.take (i + 1)).foldl (AT u) ([], s') = AT u (op, s1) y := by rw [List.take_add_one, hv, List.foldl_append, hinv]; rfl
  have hb2 := IH (x := u) (q := (op, s1)) (y := y) (K := 68719476736) hb1 hyk (by omega)
  have hcat := TH u.1 y.1
  have hsz1 := EI u.1
  have hsz2 := EI y.1
  have hbd : -(M + 68719476736 * i) - 1 ≤ JQ (u.1 ++ y.1) s1 ∧ JQ (u.1 ++ y.1) s1 ≤ M + 68719476736 * i + 1 := by
    rcases BT (u.1 ++ y.1) s1 with ⟨j, v, g1, g2, _⟩ | ⟨_, g2, _⟩
    · have := hb1 _ (List.mem_of_getElem? g1); simp only at this; rw [g2]; omega
    · rw [g2]; omega
  have hmi : M + 68719476736 * i ≤ 2305843009213693952 := by omega
  unfold AT at htk hb2
  rcases BT (u.1 ++ y.1) s1 with ⟨j, v, g1, g2, g3, _, g5⟩ | ⟨g1, g2, g3, _, g5⟩
  · rw [g2] at hbd
    simp only [g2, g3, g5, if_true] at htk hb2
    have g1' := Bd g1
    rw [← hcat] at g1'
    repeat' (first | refine kz ?_ | refine kx hv ?_ | refine ki ?_ | refine T0 g1' ⟨_, rfl⟩ (AH _) ?_ | refine Ru g1' ⟨_, rfl⟩ (AH _) ?_ | refine kg ?_ ?_ | exact k0 | refine Ab ?_ | refine m1 ?_ ?_ | refine m2 ?_ ?_)
    rw [hcat, Vt]
    generalize s1.set j (u.1 ++ y.1, v + u.2 * y.2) = s4 at htk hb2 ⊢
    (apply Ae ((i + 1, op, s4, k5)); all_goals (try dsimp only); all_goals (try (repeat' (first | exact k0 | refine kw ?_ | refine kv ?_ ?_ | omega))))
    exact ⟨by omega, htk, by omega, by have := hb2; rw [show M + 68719476736 * (i : Int) + 68719476736 = M + 68719476736 * ((i + 1 : Nat) : Int) by omega] at this; exact this⟩
  · rw [g2] at hbd
    simp only [g2, g3, g5, if_false, Bool.false_eq_true] at htk hb2
    have g1' := DL g1
    rw [← hcat] at g1'
    have hl5 : op.length + [[Dat.lit (Value.string ⟨(u.1 ++ y.1).toArray⟩)]].length = (op ++ [u.1 ++ y.1]).length := by simp
    have hm4 : (op.map fun c => [CY c]) ++ [[Dat.lit (Value.string ⟨(u.1 ++ y.1).toArray⟩)]] = (op ++ [u.1 ++ y.1]).map fun c => [CY c] := by rw [List.map_append]; rfl
    repeat' (first | refine kz ?_ | refine kx hv ?_ | refine ki ?_ | refine Rs g1' ⟨_, rfl⟩ (AH _) ?_ | refine Rt g1' ⟨_, rfl⟩ (AH _) ?_ | refine kg ?_ ?_ | exact k0 | refine Ab ?_ | refine m1 ?_ ?_ | refine m2 ?_ ?_)
    rw [hcat, TJ, hm4, hl5]
    have hol2 : (op ++ [u.1 ++ y.1]).length ≤ i + 1 := by simp; omega
    generalize s1 ++ [(u.1 ++ y.1, 0 + u.2 * y.2)] = s4 at htk hb2 ⊢
    generalize op ++ [u.1 ++ y.1] = op4 at htk hol2 ⊢
    (apply Ae ((i + 1, op4, s4, c + 2)); all_goals (try dsimp only); all_goals (try (repeat' (first | exact k0 | refine kw ?_ | refine kv ?_ ?_ | omega))))
    exact ⟨by omega, htk, by omega, by have := hb2; rw [show M + 68719476736 * (i : Int) + 68719476736 = M + 68719476736 * ((i + 1 : Nat) : Int) by omega] at this; exact this⟩
 ·have hie : i = ps.length := by omega
  subst hie
  rw [List.take_length] at hinv
  rw [hinv]
  repeat' (first | refine Aw 7 ?_ (hes := show (op.map fun c => [CY c]).take op.length = op.map fun c => [CY c] from List.take_of_length_le (by simp)) | refine kz ?_ | refine ki ?_ | refine AX Af ?_ ?_ | exact k0 | refine Ab ?_ | refine m1 ?_ ?_ | refine m2 ?_ ?_)
  · simp only [List.length_append, List.length_singleton]; rfl
  · rw [List.map_append]; rfl
end Go.Proofs.YtmpgmjlanngkfaaGreat
end
section
namespace Go.Proofs.YtmpgmjlanngkfaaGreat
open Go.Abs Go.RowKit
set_option linter.unusedSimpArgs false
set_option maxRecDepth 100000
def DN (row : List Val) (cs : List Int) : Option Bs := (BP row cs).map Ao
def CO (b : List Entry) (on2 : List Int) (key : Bs) : List (Bs × Int) := b.filterMap fun y => if DN y.row on2 = some key then some (BQ y) else none
theorem Cm (b : List Entry) (y : Entry) (on2 : List Int) (key : Bs) : CO (b ++ [y]) on2 key = CO b on2 key ++ (if DN y.row on2 = some key then [BQ y] else []) := by
 unfold CO
 rw [List.filterMap_append]
 congr 1
 by_cases h : DN y.row on2 = some key <;> simp [h]
theorem Ih {b : List Entry} {on2 : List Int} {key : Bs} {q : Bs × Int} (h : q ∈ CO b on2 key) : ∃ y ∈ b, q = BQ y ∧ DN y.row on2 = some key := by
 obtain ⟨y, hy, hq⟩ := List.mem_filterMap.1 h
 split at hq
 ·simp only [Option.some.injEq] at hq
  exact ⟨y, hy, hq.symm, by assumption⟩
 ·cases hq
theorem Ii (b : List Entry) (on2 : List Int) (key : Bs) : (CO b on2 key).length ≤ b.length := List.length_filterMap_le ..
abbrev JS := List Lev × List (Bs × Int) × List (Bs × Int)
def C2 (b : List Entry) (on : List (Int × Int)) (q : JS) (u : Entry) : Option JS :=
 match DN u.row (on.map Prod.fst) with
 | none => some q
 | some key =>
   if CO b (on.map Prod.snd) key = [] then some q
   else match closeE (Ao u.row) q.1.reverse q.2.1 q.2.2 with
    | none => none
    | some (st', s', r') => some (st'.reverse ++ [⟨Ao u.row, ((CO b (on.map Prod.snd) key).foldl (AT (BQ u)) ([], s')).1⟩], ((CO b (on.map Prod.snd) key).foldl (AT (BQ u)) ([], s')).2, r')
def F1 (b : List Entry) (on : List (Int × Int)) : List Entry → JS → Option JS
 | [], q => some q
 | u :: a, q => match C2 b on q u with
   | none => none
   | some q' => F1 b on a q'
def NK (a b : List Entry) (on : List (Int × Int)) : Option (List (Bs × Int)) :=
 match F1 b on a ([], [], []) with
 | none => none
 | some q => match closeE [] q.1.reverse q.2.1 q.2.2 with
   | none => none
   | some (_, _, r) => some r
theorem HC : ∀ {cs : List Bs} {s r s' r' : List (Bs × Int)}, closeLev cs s r = some (s', r') → ∀ e ∈ s', e ∈ s
 | [], s, r, s', r', h, e, he => by simp [closeLev] at h; rw [h.1]; exact he
 | c :: cs, s, r, s', r', h, e, he => by
   rw [closeLev] at h
   split at h
   ·cases h
   ·have h1 := HC h e he
    rcases BT c s with ⟨i, v, _, _, _, g4, _⟩ | ⟨_, _, _, g4, _⟩
    ·rw [g4] at h1; exact (List.eraseIdx_sublist ..).subset h1
    ·rw [g4] at h1; exact h1
theorem Dc {code : Bs} : ∀ {st : List Lev} {s r : List (Bs × Int)} {st' : List Lev} {s' r' : List (Bs × Int)}, closeE code st s r = some (st', s', r') → r.length ≤ 4096 → st'.length ≤ st.length ∧ (∀ l ∈ st', l ∈ st) ∧ (∀ e ∈ s', e ∈ s) ∧ r'.length ≤ 4096
 | [], s, r, st', s', r', h, hr => by
   simp only [closeE, Option.some.injEq, Prod.mk.injEq] at h
   obtain ⟨rfl, rfl, rfl⟩ := h
   exact ⟨Nat.le_refl _, fun _ h => h, fun _ h => h, hr⟩
 | l :: st, s, r, st', s', r', h, hr => by
   rw [closeE] at h
   split at h
   ·simp only [Option.some.injEq, Prod.mk.injEq] at h
    obtain ⟨rfl, rfl, rfl⟩ := h
    exact ⟨Nat.le_refl _, fun _ h => h, fun _ h => h, hr⟩
   ·cases hc : closeLev l.opened s r with
    | none => rw [hc] at h; cases h
    | some q =>
      obtain ⟨s2, r2⟩ := q
      rw [hc] at h
      obtain ⟨h1, h2, h3, h4⟩ := Dc h (DM hc hr)
      exact ⟨by simp; omega, fun l hl => by simp [h2 l hl], fun e he => HC hc e (h3 e he), h4⟩
structure JOk (i : Nat) (n : Nat) (q : JS) : Prop where
 st : q.1.length ≤ i
 op : ∀ l ∈ q.1, l.opened.length ≤ n
 sm : XD (68719476736 * ((n * i : Nat) : Int)) q.2.1
 rs : q.2.2.length ≤ 4096
theorem Ql {u : Bs × Int} {K : Int} : ∀ (ps : List (Bs × Int)) (q : List Bs × List (Bs × Int)) (M : Int), (∀ y ∈ ps, -K ≤ u.2 * y.2 ∧ u.2 * y.2 ≤ K) → 0 ≤ M → 0 ≤ K → XD M q.2 → XD (M + K * ps.length) (ps.foldl (AT u) q).2 ∧ (ps.foldl (AT u) q).1.length ≤ q.1.length + ps.length
 | [], q, M, _, _, _, h => ⟨by simpa using h, by simp⟩
 | y :: ps, q, M, hk, hM, hK, h => by
   have h1 := IH h (hk y (by simp)) hM
   obtain ⟨h2, h3⟩ := Ql ps (AT u q y) (M + K) (fun z hz => hk z (by simp [hz])) (by omega) hK h1
   have h4 := NI u q y
   refine ⟨?_, by simp only [List.foldl_cons, List.length_cons]; omega⟩
   simp only [List.foldl_cons, List.length_cons]
   rw [show M + K * ((ps.length + 1 : Nat) : Int) = M + K + K * (ps.length : Int) by rw [Int.natCast_add, Int.mul_add]; simp; omega]
   exact h2
theorem NL {x y : Int} (hx : -262144 ≤ x ∧ x ≤ 262144) (hy : -262144 ≤ y ∧ y ≤ 262144) : -68719476736 ≤ x * y ∧ x * y ≤ 68719476736 := by
 have h1 : (x * y).natAbs ≤ 262144 * 262144 := by
  rw [Int.natAbs_mul]
  exact Nat.mul_le_mul (by omega) (by omega)
 omega
theorem TN {b : List Entry} {on : List (Int × Int)} {q q' : JS} {u : Entry} {i n : Nat} (h : JOk i n q) (hn : b.length ≤ n) (hb : ∀ y ∈ b, -262144 ≤ y.count ∧ y.count ≤ 262144) (hu : -262144 ≤ u.count ∧ u.count ≤ 262144) (hs : C2 b on q u = some q') : JOk (i + 1) n q' := by
 have hmono : (68719476736 * ((n * i : Nat) : Int)) ≤ 68719476736 * ((n * (i + 1) : Nat) : Int) := by
  have : n * i ≤ n * (i + 1) := Nat.mul_le_mul_left _ (by omega)
  omega
 have hsame : JOk (i + 1) n q := ⟨by have := h.st; omega, h.op, fun e he => by have := h.sm e he; omega, h.rs⟩
 unfold C2 at hs
 split at hs
 ·simp only [Option.some.injEq] at hs; subst hs; exact hsame
 ·rename_i key _
  split at hs
  ·simp only [Option.some.injEq] at hs; subst hs; exact hsame
  ·split at hs
   ·cases hs
   ·rename_i st' s' r' hc
    simp only [Option.some.injEq] at hs
    subst hs
    obtain ⟨h1, h2, h3, h4⟩ := Dc hc h.rs
    simp only [List.length_reverse] at h1
    have hpl := Ii b (on.map Prod.snd) key
    have hf := Ql (u := BQ u) (K := 68719476736) (CO b (on.map Prod.snd) key) ([], s') (68719476736 * ((n * i : Nat) : Int)) (fun y hy => by
     obtain ⟨z, hz, rfl, _⟩ := Ih hy
     exact NL hu (hb z hz)) (by omega) (by omega) (fun e he => h.sm e (h3 e he))
    refine ⟨?_, fun l hl => ?_, fun e he => ?_, h4⟩
    ·have := h.st; simp only [List.length_append, List.length_reverse, List.length_singleton]; omega
    ·rcases List.mem_append.1 hl with hl | hl
     ·exact h.op l (List.mem_reverse.1 (h2 l (List.mem_reverse.1 hl)))
     ·obtain rfl := List.mem_singleton.1 hl
      have := hf.2; simp only [List.length_nil] at this; simp only; omega
    ·have := hf.1 e he
     rw [Nat.mul_add, Nat.mul_one]
     have h5 : ((n * i + n : Nat) : Int) = ((n * i : Nat) : Int) + n := by simp
     rw [h5]
     omega
theorem G2 (b : List Entry) (on : List (Int × Int)) : ∀ (l m : List Entry) (q : JS), F1 b on (l ++ m) q = (F1 b on l q).bind fun q' => F1 b on m q'
 | [], m, q => rfl
 | u :: l, m, q => by
   rw [List.cons_append, F1, F1]
   cases C2 b on q u with
   | none => rfl
   | some q' => exact G2 b on l m q'
theorem Rh {a b : List Entry} {on : List (Int × Int)} {q0 : JS} {i : Nat} {u : Entry} {q : JS} (hv : a[i]? = some u) (h : F1 b on (a.take i) q0 = some q) : F1 b on (a.take (i + 1)) q0 = C2 b on q u ∧ (C2 b on q u = none → F1 b on a q0 = none) := by
 have e1 : F1 b on (a.take (i + 1)) q0 = C2 b on q u := by
  rw [List.take_add_one, hv, G2, h]
  simp only [Option.toList_some, Option.bind_some, F1]
  cases C2 b on q u <;> rfl
 refine ⟨e1, fun hn => ?_⟩
 rw [← List.take_append_drop (i + 1) a, G2, e1, hn]
 rfl
end Go.Proofs.YtmpgmjlanngkfaaGreat
end
