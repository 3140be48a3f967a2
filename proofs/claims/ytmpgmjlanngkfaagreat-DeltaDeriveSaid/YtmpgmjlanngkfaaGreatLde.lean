/-
  DeltaDerive: the law returns true.
-/
import Derived.Test.YtmpgmjlanngkfaaGreatAwt
import Derived.Test.YtmpgmjlanngkfaaGreatVew
import Derived.Test.YtmpgmjlanngkfaaGreatExo
import Derived.Test.YtmpgmjlanngkfaaGreatRgd
import Derived.Test.YtmpgmjlanngkfaaGreatExn
import Derived.Test.YtmpgmjlanngkfaaGreatSpq
import Derived.Test.YtmpgmjlanngkfaaGreatSpv
section
namespace Go.Proofs.YtmpgmjlanngkfaaGreat
open Go.Abs Go.RowKit
attribute [local irreducible] ARun At MCall PCall HCall Am SF CF CFs Ah Aj Ar fin AW VLe
set_option linter.unusedSimpArgs false
set_option maxRecDepth 100000
set_option maxHeartbeats 4000000
theorem L5 (l : List Entry) : PCall Tryz.prog 85 [.one (Ap l)] (.v (.one (Ap (Bq l)))) := by
 have hvc := BL l
 cases hb : Al l with
 | false =>
   rw [hb] at hvc
   have he : Bq l = [] := by simp [Bq, hb]
   rw [he]
   refine Ac hT Tryz.func85 Tryz.ntmps85 [.tmp 2] fun B => ?_
   repeat' (first | refine kz ?_ | refine Au rfl (fun hb => ?_) (fun hb => ?_) | refine ki ?_ | refine Aa (hvc) ?_ | refine kf ?_ | refine kg ?_ ?_ | fail)
   all_goals rfl
 | true =>
   rw [hb] at hvc
   have he : Bq l = Ha l := by simp [Bq, hb]
   obtain ⟨hl, hm⟩ := AZ hb
   rw [he]
   refine Ac hT Tryz.func85 Tryz.ntmps85 [.tmp 2] fun B => ?_
   repeat' (first | refine kz ?_ | refine Au rfl (fun hb => ?_) (fun hb => ?_) | refine ki ?_ | refine Aa (hvc) ?_ | refine kf ?_ | refine kg ?_ ?_ | fail)
   refine BA 3 56 2 ?_
   refine AO (X := Nat × Nat) [3, 4, 8, 9, 10, 11, 12, 13, 14, 15, 16, 17, 18, 19, 20, 21, 22, 23, 24, 25, 26, 27, 28] (fun x => x.1 ≤ l.length) (fun x lz => (3, .c (.arr 0 x.2 (Ha (l.take x.1)).length)) :: (4, (.c (.d (.lit (.int .i64 x.1))))) :: lz) (fun x => [.arr x.2 56 2 ((Ha (l.take x.1)).map Entry.d)]) (fun x => l.length - x.1) ((0, 1)) ?_ ?_ ?_ ?_
   repeat' (first | exact k0 | refine kw ?_ | refine kv ?_ ?_ | omega)
   rintro ⟨i, k⟩ c hi
   dsimp only at hi ⊢
   have hsl : (Ha (l.take i)).length ≤ i := by
    unfold Ha
    rw [List.length_map]
    refine Nat.le_trans (List.length_filter_le ..) (by simp; omega)
   by_cases hlt : i < l.length
   ·have hv : l[i]? = some l[i] := List.getElem?_eq_getElem hlt
    generalize l[i] = e at hv
    have hsn := Lj hv
    repeat' (first | refine kz ?_ | refine Au rfl (fun hb => ?_) (fun hb => ?_) | refine kx hv ?_ | refine ki ?_ | refine kf ?_ | refine kg ?_ ?_ | fail)
    ·rw [if_pos hb] at hsn
     (apply Ae ((i + 1, _)); all_goals (try dsimp only); all_goals (try (repeat' (first | exact k0 | refine w1 ?_ | refine w5 ?_ ?_ | refine Ab ?_ | refine m1 ?_ ?_ | omega))))
     · rw [hsn]; simp
     · rw [hsn, List.map_append]; rfl
    ·rw [if_neg (by omega), List.append_nil] at hsn
     (apply Ae ((i + 1, _)); all_goals (try dsimp only); all_goals (try (repeat' (first | exact k0 | refine w1 ?_ | refine w5 ?_ ?_ | refine Ab ?_ | refine m1 ?_ ?_ | omega))))
     all_goals (rw [hsn])
   ·rw [Ag (by omega)]
    repeat' (first | refine kz ?_ | refine Au rfl (fun hb => ?_) (fun hb => ?_) | refine ki ?_ | refine kf ?_ | refine kg ?_ ?_ | fail)
    ·simp
    ·rw [Ag (by simp)]; rfl
theorem IM {l : List Entry} (h : Al l = true) : A6 1152921504606846976 l := fun e he => by
 have := ((AZ h).2 e he).2.1
 omega
theorem Uf (a b : List Entry) : PCall Tryz.prog 81 [.one (Ap a), .one (Ap b)] (.tup [.one (Ap (B3 1 a b).1), .one (.lit (.int .i64 (B3 1 a b).2))]) := by
 have h1 := BL a
 have h2 := BL b
 by_cases ha : Al a = true
 ·by_cases hb : Al b = true
  ·have l1 := (AZ ha).1
   have l2 := (AZ hb).1
   have hm := Qp a b (by omega) (by omega) (IM ha) (IM hb)
   have he : B3 1 a b = A2 (mergeE a b) := by rw [B3, if_pos ⟨ha, hb⟩, PC]
   have hf := T6 (mergeE a b)
   rw [he]
   generalize mergeE a b = M at hm hf
   generalize A2 M = R at hf
   obtain ⟨r, er⟩ := R
   dsimp only at hf ⊢
   rw [ha] at h1
   rw [hb] at h2
   refine Ac hT Tryz.func81 Tryz.ntmps81 [.tmp 4, .tmp 5] fun B => ?_
   repeat' (first | refine kz ?_ | refine Aa (h1) ?_ | refine Aa (h2) ?_ | refine Aa (hm) ?_ | refine Aa (hf) ?_ | refine kg ?_ ?_ | refine kf ?_ | fail)
   all_goals rfl
  ·have he : B3 1 a b = ([], 1) := if_neg (fun q => hb q.2)
   rw [he]
   rw [ha] at h1
   rw [show Al b = false by simpa using hb] at h2
   refine Ac hT Tryz.func81 Tryz.ntmps81 [.tmp 4, .tmp 5] fun B => ?_
   repeat' (first | refine kz ?_ | refine Aa (h1) ?_ | refine Aa (h2) ?_ | refine kg ?_ ?_ | refine kf ?_ | fail)
   all_goals rfl
 ·have he : B3 1 a b = ([], 1) := if_neg (fun q => ha q.1)
  rw [he]
  rw [show Al a = false by simpa using ha] at h1
  refine Ac hT Tryz.func81 Tryz.ntmps81 [.tmp 4, .tmp 5] fun B => ?_
  repeat' (first | refine kz ?_ | refine Aa (h1) ?_ | refine Aa (h2) ?_ | refine kg ?_ ?_ | refine kf ?_ | fail)
  all_goals rfl
theorem VL (a b : List Entry) (on : List (Int × Int)) : PCall Tryz.prog 135 [.one (Ap a), .one (Ap b), .one (RX on)] (Bw (FB a b on)) := RE a b on
theorem Y0 (v : Vw) : PCall Tryz.prog 133 [.agg v.d] (.v (.one (.lit (.bool (Dv v))))) := by
 cases hr : B0 v
 ·rw [show Dv v = true by simp [Dv, hr]]
  have h1 := F9 hr
  have h2 : (!(v.right.toList == (⟨#[]⟩ : ByteArray).toList)) = true := by rw [h1]; rfl
  refine Ac hT Tryz.func133 Tryz.ntmps133 [.tmp 2] fun B => ?_
  repeat' (first | refine kz ?_ | refine kf ?_ | fail)
  all_goals rfl
 ·rw [show Dv v = decide (v.kind = 2) by simp [Dv, hr]]
  have h1 := F8 hr
  have h2 : (!(v.right.toList == (⟨#[]⟩ : ByteArray).toList)) = false := by rw [h1]; rfl
  refine Ac hT Tryz.func133 Tryz.ntmps133 [.tmp 2] fun B => ?_
  repeat' (first | refine kz ?_ | refine kf ?_ | fail)
  all_goals rfl
theorem RC (v : Vw) (l r : List Entry) : PCall Tryz.prog 80 [.agg v.d, .one (Ap l), .one (Ap r)] (.v (.one (.lit (.bool (!B1 v l r))))) := by
 have hu := Y0 v
 have hl := EC l
 have hq := EC r
 unfold B1
 by_cases hk : Fs v = true
 ·rw [hk, Bool.true_and]
  have hk3 : 0 ≤ v.kind ∧ v.kind ≤ 2 := by
   have : v.kind = 0 ∨ v.kind = 1 ∨ v.kind = 2 := by simpa [Fs, or_assoc] using hk
   omega
  generalize Dv v = u at hu ⊢
  generalize AG l = pl at hl ⊢
  generalize AG r = pr at hq ⊢
  cases pl <;> cases u <;> cases pr
  all_goals
   (refine Ac hT Tryz.func80 Tryz.ntmps80 [.tmp 6] fun B => ?_
    repeat' (first | refine kz ?_ | refine Aa (hl) ?_ | refine Aa (hu) ?_ | refine Aa (hq) ?_ | refine kf ?_ | fail))
  all_goals rfl
 ·have hk3 : v.kind < 0 ∨ 2 < v.kind := by
   have : ¬ (v.kind = 0) ∧ ¬ (v.kind = 1) ∧ ¬ (v.kind = 2) := by simpa [Fs, not_or, and_assoc] using hk
   omega
  rw [show Fs v = false by simpa using hk, Bool.false_and]
  rcases hk3 with hk3 | hk3
  all_goals
   (refine Ac hT Tryz.func80 Tryz.ntmps80 [.tmp 6] fun B => ?_
    repeat' (first | refine kz ?_ | refine kf ?_ | fail))
  all_goals rfl
def XP (v : Vw) (l r : List Entry) : List Entry × Int := if (Hd FB v l r).2 = 0 then (Bt (Hd FB v l r).1 v.wher, 0) else ([], (Hd FB v l r).2)
theorem VM (v : Vw) (l r : List Entry) : PCall Tryz.prog 82 [.agg v.d, .one (Ap l), .one (Ap r)] (Bw (XP v l r)) := by
 unfold XP Hd
 cases h : B0 v
 ·have h1 := F9 h
  have h2 : (!(v.right.toList == (⟨#[]⟩ : ByteArray).toList)) = true := by rw [h1]; rfl
  have hj := VL l r v.on
  have hw := JK (FB l r v.on).1 v.wher
  rw [if_neg (show ¬ (false = true) by decide)]
  generalize FB l r v.on = q at hj hw ⊢
  obtain ⟨q, e⟩ := q
  dsimp only [Bw] at hj hw ⊢
  by_cases he : e = 0
  ·subst he
   rw [if_pos rfl]
   dsimp only
   refine Ac hT Tryz.func82 Tryz.ntmps82 [.tmp 6, .tmp 7] fun B => ?_
   repeat' (first | refine kz ?_ | refine Aa (hj) ?_ | refine Aa (hw) ?_ | refine kg ?_ ?_ | refine kf ?_ | fail)
   all_goals rfl
  ·rw [if_neg he]
   dsimp only
   refine Ac hT Tryz.func82 Tryz.ntmps82 [.tmp 6, .tmp 7] fun B => ?_
   repeat' (first | refine kz ?_ | refine Aa (hj) ?_ | refine kg ?_ ?_ | refine kf ?_ | fail)
   all_goals rfl
 ·have h1 := F8 h
  have h2 : (!(v.right.toList == (⟨#[]⟩ : ByteArray).toList)) = false := by rw [h1]; rfl
  have hw := JK l v.wher
  rw [if_pos (show true = true from rfl), if_pos (show ((l, 0) : List Entry × Int).2 = 0 from rfl)]
  dsimp only [Bw]
  refine Ac hT Tryz.func82 Tryz.ntmps82 [.tmp 6, .tmp 7] fun B => ?_
  repeat' (first | refine kz ?_ | refine Aa (hw) ?_ | refine kg ?_ ?_ | refine kf ?_ | fail)
  all_goals rfl
theorem Ug {l : List Entry} (h : (A2 l).2 ≠ 0) : (A2 l).1 = [] := by
 unfold A2 at *
 split
 ·rfl
 ·split
  ·rename_i h1 h2; rw [if_neg h1, if_pos h2] at h; exact absurd rfl h
  ·rfl
theorem Uh {b : List Entry} {its : List (List Trm)} (h : (Da b its).2 ≠ 0) : (Da b its).1 = [] := by
 unfold Da Bl at *
 split
 ·rename_i h1
  rw [if_pos h1] at h
  split
  ·rename_i h2
   rw [if_pos h2] at h
   exact Ug h
  ·rfl
 ·rfl
theorem N7 (v : Vw) (l r : List Entry) (hil : v.items.length ≤ 10000) (hal : v.aggs.length ≤ 10000) (hb : (Hd FB v l r).1.length ≤ 1000) :
  PCall Tryz.prog 36 [.agg v.d, .one (Ap l), .one (Ap r)] (Bw (RU (B1 v l r) v l r (Hd FB v l r) (PB groupE v (Hd FB v l r).1))) := by
 have hd := RC v l r
 unfold RU
 cases h : B1 v l r
 ·rw [h] at hd
  rw [if_neg (by decide)]
  dsimp only [Bw]
  refine Ac hT Tryz.func36 Tryz.ntmps36 [.tmp 6, .tmp 7] fun B => ?_
  repeat' (first | refine kz ?_ | refine ki ?_ | refine Aa (hd) ?_ | refine kf ?_ | refine kg ?_ ?_ | fail)
  all_goals rfl
 rw [h] at hd
 rw [if_pos rfl]
 by_cases hk : v.kind = 2
 ·have ha := Uf l r
  rw [if_pos hk]
  generalize B3 1 l r = a at ha ⊢
  dsimp only [Bw]
  refine Ac hT Tryz.func36 Tryz.ntmps36 [.tmp 6, .tmp 7] fun B => ?_
  repeat' (first | refine kz ?_ | refine ki ?_ | refine Aa (hd) ?_ | refine Aa (ha) ?_ | refine kf ?_ | refine kg ?_ ?_ | fail)
  all_goals rfl
 rw [if_neg hk]
 have hi := VM v l r
 unfold XP at hi
 generalize Hd FB v l r = s at hi hb ⊢
 obtain ⟨s, e⟩ := s
 dsimp only at hi hb ⊢
 by_cases he : e = 0
 ·subst he
  rw [if_pos rfl] at hi ⊢
  unfold PB
  have hwl : (Bt s v.wher).length ≤ 1000 := by
   unfold Bt
   split
   · exact Nat.le_trans (List.length_filter_le ..) hb
   · simp
  generalize Bt s v.wher = W at hi hwl ⊢
  dsimp only [Bw] at hi
  by_cases hk1 : v.kind = 1
  ·rw [if_pos hk1]
   have hg := Ps W v.items v.aggs hwl hil hal
   generalize groupE W v.items v.aggs = x at hg ⊢
   dsimp only [Bw]
   refine Ac hT Tryz.func36 Tryz.ntmps36 [.tmp 6, .tmp 7] fun B => ?_
   repeat' (first | refine kz ?_ | refine ki ?_ | refine Aa (hd) ?_ | refine Aa (hi) ?_ | refine Aa (hg) ?_ | refine kf ?_ | refine kg ?_ ?_ | fail)
   all_goals rfl
  rw [if_neg hk1]
  have hm := Tr W (v.items.map Itm.expr)
  have hs := L5 (Da W (v.items.map Itm.expr)).1
  have hme := @Uh W (v.items.map Itm.expr)
  have hEl : (v.items.map Itm.expr).length = v.items.length := List.length_map _
  have hEi : ∀ i it, v.items[i]? = some it → (v.items.map Itm.expr)[i]? = some (Itm.expr it) := fun i it h => by rw [List.getElem?_map, h]; rfl
  generalize Da W (v.items.map Itm.expr) = m at hm hs hme ⊢
  obtain ⟨m, f⟩ := m
  generalize v.items.map Itm.expr = E at hm hEl hEi
  dsimp only [Bw, Ey] at hm hs hme ⊢
  refine Ac hT Tryz.func36 Tryz.ntmps36 [.tmp 6, .tmp 7] fun B => ?_
  repeat' (first | refine kz ?_ | refine ki ?_ | refine Aa (hd) ?_ | refine Aa (hi) ?_ | refine kf ?_ | refine kg ?_ ?_ | fail)
  refine BA 10 26 1 ?_
  refine AO (X := Nat × Nat) [10, 11, 45, 46, 47, 48, 49, 50, 51, 52, 53, 54, 55, 56, 57, 58, 59, 60] (fun x => x.1 ≤ v.items.length) (fun x lz => (10, .c (.arr 1 x.2 (E.take x.1).length)) :: (11, (.c (.d (.lit (.int .i64 x.1))))) :: lz) (fun x => [.box 1 (v.d.map .d), .arr x.2 26 1 ((E.take x.1).map fun s => [AK s])]) (fun x => v.items.length - x.1) ((0, 2)) ?_ ?_ ?_ ?_
  repeat' (first | exact k0 | refine kw ?_ | refine kv ?_ ?_ | omega)
  rintro ⟨i, k⟩ c0 hi2
  dsimp only at hi2 ⊢
  by_cases hlt : i < v.items.length
  ·have hv : v.items[i]? = some v.items[i] := List.getElem?_eq_getElem hlt
   generalize v.items[i] = it at hv
   have htk : E.take (i + 1) = E.take i ++ [it.expr] := by rw [List.take_add_one, hEi i it hv]; rfl
   have htl : (E.take i).length = i := by simp; omega
   repeat' (first | refine kz ?_ | refine kx hv ?_ | refine ki ?_ | refine kf ?_ | refine kg ?_ ?_ | fail)
   (apply Ae ((i + 1, _)); all_goals (try dsimp only); all_goals (try (repeat' (first | exact k0 | refine w1 ?_ | refine Ab ?_ | refine m1 ?_ ?_ | omega))))
   all_goals (rw [htk]; simp)
  ·have hie : i = E.length := by omega
   subst hie
   rw [List.take_length]
   by_cases he : f = 0
   · subst he
     rw [if_pos rfl]
     cases hdi : v.distinct
     ·rw [if_neg (by simp)]
      repeat' (first | refine Aw 10 ?_ (hes := show List.take E.length (E.map fun s => [AK s]) = (E.map fun s => [AK s]) from List.take_of_length_le (by simp)) | refine kz ?_ | refine ki ?_ | refine Aa (hm) ?_ | refine Gw ?_ | refine Ay Af ?_ ?_ | refine Bo ?_ | refine BR ?_)
      all_goals rfl
     ·rw [if_pos rfl]
      repeat' (first | refine Aw 10 ?_ (hes := show List.take E.length (E.map fun s => [AK s]) = (E.map fun s => [AK s]) from List.take_of_length_le (by simp)) | refine kz ?_ | refine ki ?_ | refine Aa (hm) ?_ | refine Aa (hs) ?_ | refine Gw ?_ | refine Ay Af ?_ ?_ | refine Bo ?_ | refine BR ?_)
      all_goals rfl
   · obtain rfl := hme he
     rw [if_neg he]
     repeat' (first | refine Aw 10 ?_ (hes := show List.take E.length (E.map fun s => [AK s]) = (E.map fun s => [AK s]) from List.take_of_length_le (by simp)) | refine kz ?_ | refine ki ?_ | refine Aa (hm) ?_ | refine Gw ?_ | refine Ay Af ?_ ?_ | refine Bo ?_ | refine BR ?_)
     all_goals rfl
 ·rw [if_neg he] at hi ⊢
  dsimp only [Bw] at hi ⊢
  refine Ac hT Tryz.func36 Tryz.ntmps36 [.tmp 6, .tmp 7] fun B => ?_
  repeat' (first | refine kz ?_ | refine ki ?_ | refine Aa (hd) ?_ | refine Aa (hi) ?_ | refine kf ?_ | refine kg ?_ ?_ | fail)
  all_goals rfl
theorem Fl {b : List Entry} {i : Nat} (e : Entry) : List.take b.length ((b.map Entry.d).set i e.d) = (b.set i e).map Entry.d := by
 rw [List.map_set]; exact Ag (by simp)
theorem VP (t : Tape) (b : List Entry) (ht : t.ok) (hb : b.length ≤ 1000) : ∃ (b' : List Entry) (t' : Tape), t'.ok ∧ b'.length ≤ b.length + 1 ∧ HCall Tryz.prog 12 [.c (.bp 0 0 0), .c (.d (Ap b))] [(.box 0 [.d (Ax (t).l), .d (.lit (.int .i64 (t).at_))])] (.c (.d (Ap b'))) [(.box 0 [.d (Ax (t').l), .d (.lit (.int .i64 (t').at_))])] := by
 by_cases h0 : b.length = 0
 ·obtain ⟨r, t', ok', hr, hc⟩ := Y5 t 2 ht (by omega)
  have hf : List.take r.length (r.map Val.d) = r.map Val.d := Ag (by simp)
  refine ⟨[⟨r, 0⟩], t', ok', by simp, ?_⟩
  refine As hT Tryz.func12 Tryz.ntmps12 [.tmp 4] fun B => ?_
  repeat' (first | refine FR 14 rfl rfl (by simp) hf rfl ?_ | refine kz ?_ | refine ki ?_ | refine Ad [0] (hc) ?_ | refine AX Af ?_ ?_ | exact k0 | refine Ab ?_)
 have hn1 := DC t (b.length : Int) ht (by omega) (by omega)
 obtain ⟨p1, p2⟩ := t.nx_bd (b.length : Int)
 have ok1 := ht.go (b.length : Int)
 obtain ⟨i, hi⟩ := Int.eq_ofNat_of_zero_le p1
 rw [hi] at hn1 p1 p2
 generalize t.go (b.length : Int) = t1 at hn1 ok1
 have hil : i < b.length := by omega
 have hv : b[i]? = some b[i] := List.getElem?_eq_getElem hil
 generalize b[i] = e at hv
 have hv1 : (b.map Entry.d)[i]? = some e.d := by rw [List.getElem?_map, hv]; rfl
 have hn2 := DC t1 6 ok1 (by omega) (by omega)
 obtain ⟨q1, q2⟩ := t1.nx_bd 6
 have ok2 := ok1.go 6
 generalize t1.nx 6 = z at hn2 q1 q2
 generalize t1.go 6 = t2 at hn2 ok2
 have f5 : List.take b.length ((b.map Entry.d).set i (Entry.d ⟨e.row, 0⟩)) = (b.set i ⟨e.row, 0⟩).map Entry.d := Fl ⟨e.row, 0⟩
 by_cases z0 : z = 0
 ·refine ⟨b.set i ⟨e.row, 0⟩, t2, ok2, by simp, ?_⟩
  refine As hT Tryz.func12 Tryz.ntmps12 [.tmp 4] fun B => ?_
  repeat' (first | refine Aw 5 ?_ (hes := f5) | refine kz ?_ | refine kx hv1 ?_ | refine ki ?_ | refine Ad [0] (hn1) ?_ | refine Ad [0] (hn2) ?_ | refine AX Af ?_ ?_ | exact k0 | refine Ab ?_)
 by_cases z1 : z = 1
 ·have hn3 := DC t2 3 ok2 (by omega) (by omega)
  obtain ⟨r1, r2⟩ := t2.nx_bd 3
  have ok3 := ok2.go 3
  generalize t2.nx 3 = y at hn3 r1 r2
  generalize t2.go 3 = t3 at hn3 ok3
  obtain ⟨v, hw⟩ : ∃ v, (([262144, 262145, -262145] : List Int).map iD)[y.toNat]? = some (iD v) := by
   have hq : y.toNat < ([262144, 262145, -262145] : List Int).length := by simp; omega
   exact ⟨([262144, 262145, -262145] : List Int)[y.toNat], by rw [List.getElem?_map, List.getElem?_eq_getElem hq]; rfl⟩
  have f5 : List.take b.length ((b.map Entry.d).set i (Entry.d ⟨e.row, v⟩)) = (b.set i ⟨e.row, v⟩).map Entry.d := Fl ⟨e.row, v⟩
  refine ⟨b.set i ⟨e.row, v⟩, t3, ok3, by simp, ?_⟩
  refine As hT Tryz.func12 Tryz.ntmps12 [.tmp 4] fun B => ?_
  repeat' (first | refine Aw 5 ?_ (hes := f5) | refine kz ?_ | refine kx hv1 ?_ | refine kx hw ?_ | refine ki ?_ | refine Ad [0] (hn1) ?_ | refine Ad [0] (hn2) ?_ | refine Ad [0] (hn3) ?_ | refine AX Af ?_ ?_ | exact k0 | refine Ab ?_)
 by_cases z2 : z = 2
 ·have hf : List.take (b.length + [e.d].length) (b.map Entry.d ++ [e.d]) = (b ++ [e]).map Entry.d := by
   rw [List.map_append]; exact Ag (by simp)
  refine ⟨b ++ [e], t2, ok2, by simp, ?_⟩
  refine As hT Tryz.func12 Tryz.ntmps12 [.tmp 4] fun B => ?_
  repeat' (first | refine FR 56 rfl rfl (by simp) hf rfl ?_ | refine kz ?_ | refine kx hv1 ?_ | refine ki ?_ | refine Ad [0] (hn1) ?_ | refine Ad [0] (hn2) ?_ | refine AX Af ?_ ?_ | exact k0 | refine Ab ?_)
 by_cases z3 : z = 3
 ·have f5 : List.take b.length ((b.map Entry.d).set i (Entry.d ⟨[⟨1, 1, ⟨#[120]⟩⟩], e.count⟩)) = (b.set i ⟨[⟨1, 1, ⟨#[120]⟩⟩], e.count⟩).map Entry.d := Fl _
  refine ⟨b.set i ⟨[⟨1, 1, ⟨#[120]⟩⟩], e.count⟩, t2, ok2, by simp, ?_⟩
  refine As hT Tryz.func12 Tryz.ntmps12 [.tmp 4] fun B => ?_
  repeat' (first | refine Aw 5 ?_ (hes := f5) | refine kz ?_ | refine kx hv1 ?_ | refine ki ?_ | refine Ad [0] (hn1) ?_ | refine Ad [0] (hn2) ?_ | refine AX Af ?_ ?_ | exact k0 | refine Ab ?_)
 by_cases z4 : z = 4
 ·have hv0' : b[0]? = some b[0] := List.getElem?_eq_getElem (by omega)
  generalize b[0] = e0 at hv0'
  have hv0 : (b.map Entry.d)[0]? = some e0.d := by rw [List.getElem?_map, hv0']; rfl
  have hs0 : ((b.map Entry.d).set i e0.d)[0]? = some e0.d := by
   by_cases hq : i = 0
   ·subst hq; rw [List.getElem?_set_self (by simpa using hil)]
   ·rw [List.getElem?_set_ne hq]; exact hv0
  have f5 : List.take b.length (((b.map Entry.d).set i e0.d).set 0 e.d) = ((b.set i e0).set 0 e).map Entry.d := by
   rw [List.map_set, List.map_set]; exact Ag (by simp)
  refine ⟨(b.set i e0).set 0 e, t2, ok2, by simp, ?_⟩
  refine As hT Tryz.func12 Tryz.ntmps12 [.tmp 4] fun B => ?_
  repeat' (first | refine Aw 5 ?_ (hes := f5) | refine kz ?_ | refine kx hv1 ?_ | refine kx hv0 ?_ | refine kx hs0 ?_ | refine ki ?_ | refine Ad [0] (hn1) ?_ | refine Ad [0] (hn2) ?_ | refine AX Af ?_ ?_ | exact k0 | refine Ab ?_)
 have hn3 := DC t2 2 ok2 (by omega) (by omega)
 obtain ⟨r1, r2⟩ := t2.nx_bd 2
 have ok3 := ok2.go 2
 obtain ⟨k, hk⟩ := Int.eq_ofNat_of_zero_le r1
 rw [hk] at hn3 r1 r2
 generalize t2.go 2 = t3 at hn3 ok3
 have hf : List.take (16 + k) (List.replicate (16 + k) Val.null.d) = (List.replicate (16 + k) Val.null).map Val.d := by
  rw [List.map_replicate]; exact Ag (by simp)
 have f6 : List.take b.length ((b.map Entry.d).set i (Entry.d ⟨List.replicate (16 + k) Val.null, e.count⟩)) = (b.set i ⟨List.replicate (16 + k) Val.null, e.count⟩).map Entry.d := Fl _
 refine ⟨b.set i ⟨List.replicate (16 + k) Val.null, e.count⟩, t3, ok3, by simp, ?_⟩
 refine As hT Tryz.func12 Tryz.ntmps12 [.tmp 4] fun B => ?_
 repeat' (first | refine FR 28 rfl rfl (by simp) hf rfl ?_ | refine Aw 5 ?_ (hes := f6) | refine kz ?_ | refine kx hv1 ?_ | refine ki ?_ | refine Ad [0] (hn1) ?_ | refine Ad [0] (hn2) ?_ | refine Ad [0] (hn3) ?_ | refine AX Af ?_ ?_ | exact k0 | refine Ab ?_)
theorem TX (a b : List Entry) (on : List (Int × Int)) : (FB a b on).1.length ≤ a.length * b.length := by
 have h1 := Pq a b on
 have h2 := HH (A7 a b on)
 unfold FB Eb CI
 dsimp only
 split
 ·split
  ·simp
  ·split
   ·show (sumR (A7 a b on)).length ≤ _
    omega
   ·simp
 ·simp
theorem TY (v : Vw) {a b : List Entry} (la : a.length ≤ 30) (lb : b.length ≤ 30) : (Hd FB v a b).1.length ≤ 1000 := by
 unfold Hd
 split
 ·dsimp only; omega
 ·have h1 := TX a b v.on
  have h2 : a.length * b.length ≤ 30 * 30 := Nat.mul_le_mul la lb
  omega
noncomputable def cntK (v : Vw) (a b : List Entry) : List Entry × Int := RU (B1 v a b) v a b (Hd FB v a b) (PB groupE v (Hd FB v a b).1)
theorem Rq {v : Vw} (hv : v.near) (a b : List Entry) : PCall Tryz.prog 17 [.agg v.d, .one (Ap a), .one (Ap b)] (Bw (cntK v a b)) :=
 Oz v a b _ _ (fun _ => GD FB v a b fun _ => Xd a b v.on (by have := hv.onl; omega)) fun _ => OB groupE v _ (by have := hv.items; omega) fun _ => UL _ _ _ (by have := hv.items; omega) (by have := hv.aggs; omega)
theorem Gs {v : Vw} (hv : v.near) {a b : List Entry} (la : a.length ≤ 30) (lb : b.length ≤ 30) : PCall Tryz.prog 14 [.agg v.d, .one (Ap a), .one (Ap b)] (.v (.one (.lit (.bool true)))) := by
 have g1 := Rq hv a b
 have g2 := N7 v a b (by have := hv.items; omega) (by have := hv.aggs; omega) (TY v la lb)
 have s1 := Of (cntK v a b).1 (cntK v a b).1
 rw [Fj] at s1
 change PCall _ _ _ (Bw (cntK v a b)) at g2
 generalize cntK v a b = R at g1 g2 s1
 clear hv la lb
 obtain ⟨r, e⟩ := R
 obtain ⟨vn, vk, vl, vr, von, vw, vi, vd, va⟩ := v
 dsimp only [Bw, Vw.d] at g1 g2 s1 ⊢
 refine Ac hT Tryz.func14 Tryz.ntmps14 [.tmp 6] fun B => ?_
 repeat' (first | refine kz ?_ | refine Aa (g1) ?_ | refine Aa (g2) ?_ | refine Aa (s1) ?_ | refine kf ?_ | fail)
 all_goals rfl
theorem VF {v : Vw} (h : v.ok) : v.near := ⟨by have := h.items; omega, by have := h.aggs; omega, h.onl⟩
theorem NU (t : List Int) (ht : t.length ≤ 17592186044416) : PCall Tryz.prog 3 [.one (Ax t)] (.v (.one (.lit (.bool true)))) := by
 have hnew := Y8 t ht
 have hok : (Tape.mk t 0).ok := ⟨ht, by simp⟩
 have haw := QM
 refine Ac hT Tryz.func3 Tryz.ntmps3 [.tmp 2] fun B => ?_
 repeat' (first | refine kz ?_ | refine Ad [] (hnew) ?_ | refine kf ?_ | fail)
 refine AO (X := Nat × Tape) [2, 4, 5, 6, 7, 10, 11, 12, 13, 14, 15, 16, 17, 18, 19, 20, 21, 22, 23, 24, 25, 26, 27, 28, 29, 30, 31, 32, 33, 34, 35, 36, 37, 38, 39] (fun x => x.1 ≤ 4 ∧ x.2.ok) (fun x lz => (4, (.c (.d (.lit (.int .i64 x.1))))) :: lz) (fun x => [.dead, .box 1 [.d (Ax x.2.l), .d (.lit (.int .i64 x.2.at_))]]) (fun x => 4 - x.1) ((0, ⟨t, 0⟩)) ?_ ?_ ?_ ?_
 repeat' (first | exact k0 | refine kw ?_ | omega)
 all_goals try (first | rfl | exact ⟨by omega, hok⟩)
 rintro ⟨i, T⟩ c ⟨hi, hT⟩
 dsimp only at hi hT ⊢
 by_cases hlt : i < 4
 ·obtain ⟨v, t1, ok1, hv, c1⟩ := QL T hT
  obtain ⟨a, t2, ok2, -, -, la, c2⟩ := Us t1 3 6 false ok1 (by omega) (by omega)
  obtain ⟨b, t3, ok3, -, -, lb, c3⟩ := Us t2 2 6 false ok2 (by omega) (by omega)
  have hn := VF hv
  by_cases h1 : i = 1
  ·obtain ⟨a2, t4, ok4, la2, c4⟩ := VP t3 a ok3 (by omega)
   have d1 := Gs hn (a := a2) (b := b) (by omega) (by omega)
   clear hv hn
   obtain ⟨vn, vk, vl, vr, von, vw, vi, vd, va⟩ := v
   repeat' (first | refine kz ?_ | refine Aa (d1) ?_ | refine Ad [1] (c1) ?_ | refine Ad [1] (c2) ?_ | refine Ad [1] (c3) ?_ | refine Ad [1] (c4) ?_ | refine kf ?_ | fail)
   (apply Ae ((i + 1, t4)); all_goals (try dsimp only); all_goals (try (repeat' (first | exact k0 | refine kw ?_ | omega))))
   all_goals first
     | exact ⟨by omega, ok4⟩
     | skip
  by_cases h2 : i = 2
  ·obtain ⟨b2, t4, ok4, -, -, lb2, c4⟩ := Us t3 2 6 true ok3 (by omega) (by omega)
   have d1 := Gs hn (a := a) (b := b2) (by omega) (by omega)
   clear hv hn
   obtain ⟨vn, vk, vl, vr, von, vw, vi, vd, va⟩ := v
   repeat' (first | refine kz ?_ | refine Aa (d1) ?_ | refine Ad [1] (c1) ?_ | refine Ad [1] (c2) ?_ | refine Ad [1] (c3) ?_ | refine Ad [1] (c4) ?_ | refine kf ?_ | fail)
   (apply Ae ((i + 1, t4)); all_goals (try dsimp only); all_goals (try (repeat' (first | exact k0 | refine kw ?_ | omega))))
   all_goals first
     | exact ⟨by omega, ok4⟩
     | skip
  by_cases h3 : i = 3
  ·obtain ⟨v2, t4, ok4, hn2, c4⟩ := Oi t3 v ok3 hv
   have d1 := Gs hn2 (a := a) (b := b) (by omega) (by omega)
   clear hv hn hn2
   obtain ⟨vn, vk, vl, vr, von, vw, vi, vd, va⟩ := v
   obtain ⟨wn, wk, wl, wr, won, ww, wi, wd, wa⟩ := v2
   repeat' (first | refine kz ?_ | refine Aa (d1) ?_ | refine Ad [1] (c1) ?_ | refine Ad [1] (c2) ?_ | refine Ad [1] (c3) ?_ | refine Ad [1] (c4) ?_ | refine kf ?_ | fail)
   (apply Ae ((i + 1, t4)); all_goals (try dsimp only); all_goals (try (repeat' (first | exact k0 | refine kw ?_ | omega))))
   all_goals first
     | exact ⟨by omega, ok4⟩
     | skip
  ·have d1 := Gs hn (a := a) (b := b) (by omega) (by omega)
   clear hv hn
   obtain ⟨vn, vk, vl, vr, von, vw, vi, vd, va⟩ := v
   repeat' (first | refine kz ?_ | refine Aa (d1) ?_ | refine Ad [1] (c1) ?_ | refine Ad [1] (c2) ?_ | refine Ad [1] (c3) ?_ | refine kf ?_ | fail)
   (apply Ae ((i + 1, t3)); all_goals (try dsimp only); all_goals (try (repeat' (first | exact k0 | refine kw ?_ | omega))))
   all_goals first
     | exact ⟨by omega, ok3⟩
     | skip
 ·repeat' (first | refine kz ?_ | refine Aa (haw) ?_ | refine kf ?_ | fail)
  all_goals rfl
end Go.Proofs.YtmpgmjlanngkfaaGreat
end
