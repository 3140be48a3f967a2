/-
  Join and Project of small bags, in plain terms: sums, associativity, order of columns.
-/
import Derived.Test.YtmpgmjlanngkfaaGreatNorm
import Derived.Test.YtmpgmjlanngkfaaGreatJor
import Derived.Test.YtmpgmjlanngkfaaGreatJoj
import Derived.Test.YtmpgmjlanngkfaaGreatAlc
import Derived.Test.YtmpgmjlanngkfaaGreatNrm
import Derived.Test.YtmpgmjlanngkfaaGreatRek
section
namespace Go.Proofs.YtmpgmjlanngkfaaGreat
open Go.Abs Go.RowKit
attribute [local irreducible] ARun kont MCall PCall HCall resVal SF CF CFs defersOk slotsIn memIn fin finM VLe
set_option linter.unusedSimpArgs false
set_option maxRecDepth 100000
set_option maxHeartbeats 4000000
def nlsD (l : List Int) : Dat := .sl (l.map fun n => [.lit (.int .i64 n)])
theorem idxE_c (g : FuncId) (p : Entry → Bool) (hg : ∀ e : Entry, PCall Tryz.prog g [.agg e.d] (.v (.one (.lit (.bool (p e)))))) (b : List Entry) :
    ∃ k : Int, (0 ≤ k ↔ b.any p = true) ∧ PCall Tryz.prog 230 [.one (bagD b), .one (.lit (.func (.func g) #[] #[]))] (.v (.one (.lit (.int .i64 k)))) := by
  have key : ∀ K : Int, (∀ i e, b[i]? = some e → p e = true → (b.take i).all (fun e => !p e) = true → K = i) → (b.all (fun e => !p e) = true → K = -1) →
      PCall Tryz.prog 230 [.one (bagD b), .one (.lit (.func (.func g) #[] #[]))] (.v (.one (.lit (.int .i64 K)))) := by
    intro K hK1 hK2
    refine pcallN hT Tryz.func230 Tryz.ntmps230 [.tmp 4] fun B => ?_
    refine k_len 0 rfl fun hlr => ?_
    simp only [List.length_map, maxLen] at hlr
    repeat' (first | refine ks ?_ | refine ko ?_ | refine s_indexD ?_ (hel := (by first | exact rfl)) | refine kf ?_ | fail)
    refine s_lp (X := Nat) [4, 5, 8, 9, 10, 11, 12, 13, 14, 15, 16, 17, 18] (fun x => x ≤ b.length ∧ (b.take x).all (fun e => !p e) = true) (fun x lz => (8, (.c (.d (.lit (.int .i64 x))))) :: lz) (fun x => []) (fun x => b.length - x) (0) ?_ ?_ ?_ ?_
    repeat' (first | exact slots_nil | refine kw ?_ | exact memIn_nil | omega)
    · exact ⟨by simp, by simp⟩
    rintro i c ⟨hi, hinv⟩
    by_cases hlt : i < b.length
    · have hv : b[i]? = some b[i] := List.getElem?_eq_getElem hlt
      generalize b[i] = e at hv
      have htk : ∀ f : Entry → Bool, (b.take (i + 1)).all f = ((b.take i).all f && f e) := fun f => by rw [List.take_add_one, hv, List.all_append]; simp
      have hge := hg e
      have hk1 := hK1 i e hv
      cases hp : p e
      · rw [hp] at hge
        repeat' (first | refine ks ?_ | refine ko ?_ | refine s_indexD ?_ (hel := (by first | exact idx_map hv (by omega) | exact hv | exact rfl)) | refine s_call (hge) ?_ | refine kf ?_ | fail)
        (apply s_round (i + 1); all_goals (try dsimp only); all_goals (try (repeat' (first | exact slots_nil | refine kw ?_ | exact memIn_nil | omega))))
        exact ⟨by omega, by rw [htk, hinv, hp]; rfl⟩
      · rw [hp] at hge
        rw [hk1 hp hinv]
        repeat' (first | refine ks ?_ | refine ko ?_ | refine s_indexD ?_ (hel := (by first | exact idx_map hv (by omega) | exact hv | exact rfl)) | refine s_call (hge) ?_ | refine kf ?_ | fail)
        all_goals rfl
    · have hie : i = b.length := by omega
      subst hie
      rw [List.take_length] at hinv
      rw [hK2 hinv]
      repeat' (first | refine ks ?_ | refine ko ?_ | refine s_indexD ?_ (hel := (by first | exact rfl)) | refine kf ?_ | fail)
      all_goals rfl
  cases hf : b.findIdx? p with
  | none =>
    refine ⟨-1, ?_, key (-1) (fun i e he hp _ => ?_) (fun _ => rfl)⟩
    · have : b.any p = false := by
        rw [List.any_eq_false]
        intro x hx
        have := List.findIdx?_eq_none_iff.1 hf x hx
        simpa using this
      rw [this]; simp
    · have := List.findIdx?_eq_none_iff.1 hf e (List.mem_of_getElem? he)
      rw [hp] at this; cases this
  | some j =>
    obtain ⟨hj, hpj, hlt⟩ := List.findIdx?_eq_some_iff_getElem.1 hf
    refine ⟨j, ?_, key j (fun i e he hp hall => ?_) (fun hall => ?_)⟩
    · have : b.any p = true := List.any_eq_true.2 ⟨_, List.getElem_mem hj, hpj⟩
      rw [this]; simp
    · obtain ⟨hil, hie⟩ := List.getElem?_eq_some_iff.1 he
      rcases Nat.lt_trichotomy i j with h | h | h
      · exact absurd (by rw [hie]; exact hp) (hlt i h)
      · rw [h]
      · have hm : b[j] ∈ b.take i := by
          rw [List.mem_take_iff_getElem]
          exact ⟨j, by omega, rfl⟩
        have := List.all_eq_true.1 hall _ hm
        rw [hpj] at this; cases this
    · have := List.all_eq_true.1 hall _ (List.getElem_mem hj)
      rw [hpj] at this; cases this
theorem containsE_c (g : FuncId) (p : Entry → Bool) (hg : ∀ e : Entry, PCall Tryz.prog g [.agg e.d] (.v (.one (.lit (.bool (p e)))))) (b : List Entry) :
    PCall Tryz.prog 191 [.one (bagD b), .one (.lit (.func (.func g) #[] #[]))] (.v (.one (.lit (.bool (b.any p))))) := by
  obtain ⟨k, hk, hc⟩ := idxE_c g p hg b
  refine pcallN hT Tryz.func191 Tryz.ntmps191 [.tmp 4] fun B => ?_
  repeat' (first | refine ks ?_ | refine ko ?_ | refine s_call (hc) ?_ | refine kf ?_ | fail)
  refine congrArg Dat.lit (congrArg Value.bool ?_)
  rw [Bool.eq_iff_iff, decide_eq_true_eq]
  exact hk
theorem joinable1_c (e : Entry) : PCall Tryz.prog 192 [.agg e.d] (.v (.one (.lit (.bool (decide (8 < (e.row.length : Int))))))) := by
  refine pcallN hT Tryz.func192 Tryz.ntmps192 [.tmp 2] fun B => ?_
  repeat' (first | refine ks ?_ | refine ko ?_ | refine kf ?_ | fail)
  all_goals rfl
theorem joinable_c (b : List Entry) : PCall Tryz.prog 142 [.one (bagD b)] (.v (.one (.lit (.bool (narrowE b))))) := by
  have hc := containsE_c 192 _ joinable1_c b
  have hv := bagValid_c b
  have hn : narrowE b = (bagValid b && !(b.any fun e => decide (8 < (e.row.length : Int)))) := by
    unfold narrowE
    rw [Bool.and_comm]
    congr 1
    rw [List.not_any_eq_all_not]
    congr 1
    funext e
    rw [Bool.eq_iff_iff]
    simp
    omega
  rw [hn]
  cases h : bagValid b <;> rw [h] at hv
  · refine pcallN hT Tryz.func142 Tryz.ntmps142 [.tmp 2] fun B => ?_
    repeat' (first | refine ks ?_ | refine ko ?_ | refine s_call (hv) ?_ | refine s_call (hc) ?_ | refine kf ?_ | fail)
    all_goals rfl
  · refine pcallN hT Tryz.func142 Tryz.ntmps142 [.tmp 2] fun B => ?_
    repeat' (first | refine ks ?_ | refine ko ?_ | refine s_call (hv) ?_ | refine s_call (hc) ?_ | refine kf ?_ | fail)
    all_goals rfl
theorem algJoin1_d : DeferOk Tryz.prog 141 0 := by
  refine ⟨⟨_, Tryz.func141, by kernel_rfl, by kernel_rfl⟩, fun vs w hl => ?_⟩
  match vs, hl with
  | [], _ =>
    refine callsD_of_wpS Tryz.func141 rfl fun c₀ cs hu => ?_
    apply wpS_region
    simp [wpOpsS, go_sem, recoverD, hu, Tryz.ntmps141, Exit.thenS]
    cases c₀
    simp_all [bodyPostS, results, Tryz.results141]
theorem algJoin_c (a b : List Entry) (on : List (Int × Int)) (hon : on.length ≤ 10000) : PCall Tryz.prog 89 [.one (bagD a), .one (bagD b), .one (onD on)] (bagR (refJoinE a b on)) := by
  have hna := joinable_c a
  have hnb := joinable_c b
  unfold refJoinE
  cases na : narrowE a
  · rw [na] at hna
    refine pcallN hT Tryz.func89 Tryz.ntmps89 [.tmp 6, .tmp 7] fun B => ?_
    repeat' (first | refine ks ?_ | refine ko ?_ | refine s_call (hna) ?_ | refine f_ret2 (by repeat (first | exact def_nil | refine def_cons algJoin1_d ?_)) ?_ ?_ | refine kf ?_ | fail)
    all_goals rfl
  cases nb : narrowE b
  · rw [na] at hna
    rw [nb] at hnb
    refine pcallN hT Tryz.func89 Tryz.ntmps89 [.tmp 6, .tmp 7] fun B => ?_
    repeat' (first | refine ks ?_ | refine ko ?_ | refine s_call (hna) ?_ | refine s_call (hnb) ?_ | refine f_ret2 (by repeat (first | exact def_nil | refine def_cons algJoin1_d ?_)) ?_ ?_ | refine kf ?_ | fail)
    all_goals rfl
  rw [na] at hna
  rw [nb] at hnb
  rw [Bool.and_self, if_pos rfl]
  obtain ⟨al, am⟩ := narrow_mem na
  obtain ⟨bl, bm⟩ := narrow_mem nb
  have hs := join_says on na nb
  have hj := join_c a b on al bl hon (fun e he => ⟨(am e he).1, (am e he).2.1⟩) (fun e he => ⟨(bm e he).1, (bm e he).2.1⟩) ((boundE (sumR (pairsE a b on))).1, ((boundE (sumR (pairsE a b on))).2 : Int)) (by
    cases hf : finJ a b on with
    | none => rw [hf] at hs; simp only at hs ⊢; rw [hs]; rfl
    | some r =>
      rw [hf] at hs
      obtain ⟨rs, h1, h2, h3⟩ := hs
      refine ⟨rs, h1, h2, ?_⟩
      rw [h3]
      split <;> rfl)
  simp only at hj
  generalize boundE (sumR (pairsE a b on)) = R at hj ⊢
  refine pcallN hT Tryz.func89 Tryz.ntmps89 [.tmp 6, .tmp 7] fun B => ?_
  repeat' (first | refine ks ?_ | refine ko ?_ | refine s_call (hna) ?_ | refine s_call (hnb) ?_ | refine s_call (hj) ?_ | refine f_ret2 (by repeat (first | exact def_nil | refine def_cons algJoin1_d ?_)) ?_ ?_ | refine kf ?_ | fail)
  all_goals rfl
def refJ (a b : List Entry) (on : List (Int × Int)) : List Entry × Int := ((refJoinE a b on).1, ((refJoinE a b on).2 : Int))
theorem refJ_c (a b : List Entry) (on : List (Int × Int)) (hon : on.length ≤ 10000) : PCall Tryz.prog 89 [.one (bagD a), .one (bagD b), .one (onD on)] (.tup [.one (bagD (refJ a b on).1), .one (.lit (.int .i64 (refJ a b on).2))]) := algJoin_c a b on hon
end Go.Proofs.YtmpgmjlanngkfaaGreat
end
section
namespace Go.Proofs.YtmpgmjlanngkfaaGreat
open Go.Abs Go.RowKit
set_option linter.unusedSimpArgs false
set_option maxRecDepth 100000
def absS : List Entry → Nat
  | [] => 0
  | e :: l => e.count.natAbs + absS l
theorem absS_append (a b : List Entry) : absS (a ++ b) = absS a + absS b := by
  induction a with
  | nil => simp [absS]
  | cons e a ih => simp only [List.cons_append, absS, ih]; omega
theorem absS_mergeE (a b : List Entry) : absS (mergeE a b) ≤ absS a + absS b := by
  induction a, b using mergeE.induct with
  | case1 b => simp [mergeE, absS]
  | case2 a h => rw [mergeE]; · omega
                 · exact h
  | case3 x a y b h ih => rw [mergeE, if_pos h]; simp only [absS] at ih ⊢; omega
  | case4 x a y b h1 h2 ih => rw [mergeE, if_neg h1, if_pos h2]; simp only [absS] at ih ⊢; omega
  | case5 x a y b h1 h2 ih =>
    rw [mergeE, if_neg h1, if_neg h2, absS_append]
    simp only [absS] at ih ⊢
    split
    · simp only [absS]; omega
    · simp only [absS]; omega
theorem absS_filter (p : Entry → Bool) (l : List Entry) : absS (l.filter p) ≤ absS l := by
  induction l with
  | nil => exact Nat.le_refl _
  | cons e l ih =>
    rw [List.filter_cons]
    split
    · simp only [absS]; omega
    · simp only [absS]; omega
theorem absS_sortE (l : List Entry) : absS (sortE l) ≤ absS l := by
  induction l using sortE.induct with
  | case1 l h => rw [sortE, dif_pos h]; exact absS_filter _ _
  | case2 l h ih1 ih2 =>
    rw [sortE, dif_neg h]
    have h1 := absS_mergeE (sortE (l.take (l.length / 2))) (sortE (l.drop (l.length / 2)))
    have h2 := absS_append (l.take (l.length / 2)) (l.drop (l.length / 2))
    rw [List.take_append_drop] at h2
    omega
theorem absS_mem {l : List Entry} {e : Entry} (h : e ∈ l) : e.count.natAbs ≤ absS l := by
  induction l with
  | nil => cases h
  | cons x l ih =>
    rcases List.mem_cons.1 h with rfl | h
    · simp only [absS]; omega
    · have := ih h; simp only [absS]; omega
theorem absS_len {l : List Entry} (h : ∀ e ∈ l, e.count ≠ 0) : l.length ≤ absS l := by
  induction l with
  | nil => exact Nat.le_refl _
  | cons e l ih =>
    have h1 := ih fun x hx => h x (by simp [hx])
    have h2 := h e (by simp)
    simp only [absS, List.length_cons]; omega
theorem absS_le {l : List Entry} {n : Nat} (h : ∀ e ∈ l, e.count.natAbs ≤ n) : absS l ≤ n * l.length := by
  induction l with
  | nil => exact Nat.zero_le _
  | cons e l ih =>
    have h1 := ih fun x hx => h x (by simp [hx])
    have h2 := h e (by simp)
    simp only [absS, List.length_cons, Nat.mul_add]; omega
def wS (f : List Val → Int) : List Entry → Int
  | [] => 0
  | e :: l => e.count * f e.row + wS f l
theorem wS_append (f : List Val → Int) (a b : List Entry) : wS f (a ++ b) = wS f a + wS f b := by
  induction a with
  | nil => simp [wS]
  | cons e a ih => simp only [List.cons_append, wS, ih]; omega
theorem wS_congr {f g : List Val → Int} {l : List Entry} (h : ∀ e ∈ l, f e.row = g e.row) : wS f l = wS g l := by
  induction l with
  | nil => rfl
  | cons e l ih => rw [wS, wS, h e (by simp), ih fun x hx => h x (by simp [hx])]
theorem wS_add (f g : List Val → Int) (l : List Entry) : wS (fun s => f s + g s) l = wS f l + wS g l := by
  induction l with
  | nil => rfl
  | cons e l ih => simp only [wS, ih, Int.mul_add]; omega
theorem wS_mergeE (f : List Val → Int) (a b : List Entry) : (∀ e ∈ a, rowClean e.row) → (∀ e ∈ b, rowClean e.row) → wS f (mergeE a b) = wS f a + wS f b := by
  induction a, b using mergeE.induct with
  | case1 b => intro _ _; simp [mergeE, wS]
  | case2 a h => intro _ _; rw [mergeE]; · simp [wS]
                 · exact h
  | case3 x a y b h ih =>
    intro ha hb
    have ih := ih (fun e he => ha e (by simp [he])) hb
    rw [mergeE, if_pos h]; simp only [wS] at ih ⊢; rw [ih]; omega
  | case4 x a y b h1 h2 ih =>
    intro ha hb
    have ih := ih ha (fun e he => hb e (by simp [he]))
    rw [mergeE, if_neg h1, if_pos h2]; simp only [wS] at ih ⊢; rw [ih]; omega
  | case5 x a y b h1 h2 ih =>
    intro ha hb
    have ih := ih (fun e he => ha e (by simp [he])) (fun e he => hb e (by simp [he]))
    have h0 : rowCmp x.row y.row = 0 := by omega
    have hr := clean_eq (ha x (by simp)) (hb y (by simp)) h0
    rw [mergeE, if_neg h1, if_neg h2, wS_append, ih]
    simp only [wS]
    rw [← hr]
    have hm : (x.count + y.count) * f x.row = x.count * f x.row + y.count * f x.row := Int.add_mul ..
    split
    · rename_i hz
      rw [hz, Int.zero_mul] at hm
      simp only [wS]; omega
    · simp only [wS]; omega
theorem wS_filter (f : List Val → Int) (l : List Entry) : wS f (l.filter (fun e => decide (e.count ≠ 0))) = wS f l := by
  induction l with
  | nil => rfl
  | cons e l ih =>
    rw [List.filter_cons]
    split
    · simp only [wS, ih]
    · rename_i h
      have : e.count = 0 := by simpa using h
      simp only [wS, ih, this]; omega
theorem wS_sortE (f : List Val → Int) (l : List Entry) : (∀ e ∈ l, rowClean e.row) → wS f (sortE l) = wS f l := by
  induction l using sortE.induct with
  | case1 l h => intro _; rw [sortE, dif_pos h]; exact wS_filter f l
  | case2 l h ih1 ih2 =>
    intro hc
    have c1 : ∀ e ∈ l.take (l.length / 2), rowClean e.row := fun e he => hc e (List.mem_of_mem_take he)
    have c2 : ∀ e ∈ l.drop (l.length / 2), rowClean e.row := fun e he => hc e (List.mem_of_mem_drop he)
    rw [sortE, dif_neg h, wS_mergeE f _ _ (sortE_says _ c1).1.cl (sortE_says _ c2).1.cl, ih1 c1, ih2 c2, ← wS_append, List.take_append_drop]
def indR (r s : List Val) : Int := if rowCmp s r = 0 then 1 else 0
theorem sumK_w (l : List Entry) (r : List Val) : sumK l r = wS (indR r) l := by
  induction l with
  | nil => rfl
  | cons e l ih =>
    rw [sumK, wS, ih, indR]
    split <;> simp
structure Tiny (n w : Nat) (b : List Entry) : Prop where
  v : bagValid b = true
  w : ∀ e ∈ b, e.row.length = w
  s : absS b ≤ n
theorem Tiny.cl {n w : Nat} {b : List Entry} (h : Tiny n w b) : ∀ e ∈ b, rowClean e.row := fun e he => rowOK_clean ((valid_mem h.v).2 e he).1
theorem tiny_of {l : List Entry} {n w : Nat} (hr : ∀ e ∈ l, rowOK e.row = true) (hw : ∀ e ∈ l, e.row.length = w) (hs : absS l ≤ n) (hn : n ≤ 4096) : Tiny n w (sortE l) ∧ ∀ e ∈ sortE l, e.count.natAbs ≤ 4096 := by
  obtain ⟨h1, _⟩ := sortE_says l fun e he => rowOK_clean (hr e he)
  have h2 := absS_sortE l
  have h3 : ∀ e ∈ sortE l, e.count.natAbs ≤ 4096 := fun e he => by have := absS_mem he; omega
  have h4 := absS_len h1.nz
  refine ⟨⟨?_, fun e he => ?_, by omega⟩, h3⟩
  · rw [bagValid, good_of (fun e he => ?_) h1.up (by simp), Bool.and_true]
    · simp only [decide_eq_true_eq]; omega
    · obtain ⟨x, hx, q⟩ := mem_sortE l e he
      have a1 := hr x hx
      rw [q] at a1
      have a2 := h1.nz e he
      have a3 := h3 e he
      simp only [Entry.ok, a1, countOK, Bool.true_and, Bool.and_eq_true, decide_eq_true_eq]
      omega
  · obtain ⟨x, hx, q⟩ := mem_sortE l e he
    rw [← q]; exact hw x hx
end Go.Proofs.YtmpgmjlanngkfaaGreat
end
section
namespace Go.Proofs.YtmpgmjlanngkfaaGreat
open Go.Abs Go.RowKit
attribute [local irreducible] ARun kont MCall PCall HCall resVal SF CF CFs defersOk slotsIn memIn fin finM VLe
set_option linter.unusedSimpArgs false
set_option maxRecDepth 100000
set_option maxHeartbeats 4000000
def proj1 (cols : List Int) (e : Entry) : Entry := ⟨cols.map (atE e.row), e.count⟩
def projE (b : List Entry) (cols : List Int) : List Entry × Int :=
  if bagValid b && (decide (cols.length ≤ 8) && cols.all fun n => decide (0 ≤ n)) then normE (b.map (proj1 cols)) else ([], 1)
def bagI (q : List Entry × Int) : PRes := .tup [.one (bagD q.1), .one (.lit (.int .i64 q.2))]
end Go.Proofs.YtmpgmjlanngkfaaGreat
end
section
namespace Go.Proofs.YtmpgmjlanngkfaaGreat
open Go.Abs Go.RowKit
set_option linter.unusedSimpArgs false
set_option maxRecDepth 100000
theorem absS_map {f : Entry → Entry} {l : List Entry} {n : Nat} (h : ∀ e ∈ l, (f e).count.natAbs = n * e.count.natAbs) : absS (l.map f) = n * absS l := by
  induction l with
  | nil => rfl
  | cons e l ih =>
    rw [List.map_cons, absS, absS, h e (by simp), ih fun x hx => h x (by simp [hx]), Nat.mul_add]
theorem absS_pairs1 (x : Entry) (b : List Entry) (on : List (Int × Int)) : absS (pairs1 x b on) ≤ x.count.natAbs * absS b := by
  unfold pairs1
  rw [absS_map (n := x.count.natAbs) fun e _ => by rw [pairE, Int.natAbs_mul]]
  exact Nat.mul_le_mul_left _ (absS_filter _ _)
theorem absS_pairsE (a b : List Entry) (on : List (Int × Int)) : absS (pairsE a b on) ≤ absS a * absS b := by
  induction a with
  | nil => simp [pairsE, absS]
  | cons x a ih =>
    have h1 := absS_pairs1 x b on
    have e1 : pairsE (x :: a) b on = pairs1 x b on ++ pairsE a b on := by simp [pairsE]
    rw [e1, absS_append, absS, Nat.add_mul]
    omega
theorem wS_pairs1 (f : List Val → Int) (x : Entry) (b : List Entry) (on : List (Int × Int)) : wS f (pairs1 x b on) = x.count * wS (fun t => if meetsE x.row t on then f (x.row ++ t) else 0) b := by
  induction b with
  | nil => simp [pairs1, wS]
  | cons y b ih =>
    unfold pairs1 at ih ⊢
    rw [List.filter_cons, wS, Int.mul_add, ← ih]
    cases hm : meetsE x.row y.row on
    · simp [wS]
    · simp only [if_true, List.map_cons, wS, pairE, Int.mul_assoc]
theorem wS_pairsE (f : List Val → Int) (a b : List Entry) (on : List (Int × Int)) : wS f (pairsE a b on) = wS (fun s => wS (fun t => if meetsE s t on then f (s ++ t) else 0) b) a := by
  induction a with
  | nil => rfl
  | cons x a ih =>
    have e1 : pairsE (x :: a) b on = pairs1 x b on ++ pairsE a b on := by simp [pairsE]
    rw [e1, wS_append, wS_pairs1, wS, ih]
theorem pairs_rows {a b : List Entry} {on : List (Int × Int)} {w1 w2 : Nat} (ha : ∀ e ∈ a, rowOK e.row = true ∧ e.row.length = w1) (hb : ∀ e ∈ b, rowOK e.row = true ∧ e.row.length = w2) (hw : w1 + w2 ≤ 16) : ∀ e ∈ pairsE a b on, rowOK e.row = true ∧ e.row.length = w1 + w2 := fun e he => by
  obtain ⟨x, hx, y, hy, _, rfl⟩ := pairs_mem he
  obtain ⟨h1, h2⟩ := ha x hx
  obtain ⟨h3, h4⟩ := hb y hy
  simp only [rowOK, Bool.and_eq_true, decide_eq_true_eq, pairE] at h1 h3 ⊢
  refine ⟨⟨by simp; omega, by rw [List.all_append, h1.2, h3.2]; rfl⟩, by simp; omega⟩
theorem Tiny.rows {n w : Nat} {b : List Entry} (h : Tiny n w b) : ∀ e ∈ b, rowOK e.row = true ∧ e.row.length = w := fun e he => ⟨((valid_mem h.v).2 e he).1, h.w e he⟩
theorem Tiny.narrow {n w : Nat} {b : List Entry} (h : Tiny n w b) (hw : w ≤ 8) : narrowE b = true := by
  unfold narrowE
  rw [h.v, Bool.and_true, List.all_eq_true]
  intro e he
  have := h.w e he
  simp only [decide_eq_true_eq]; omega
theorem joinT {a b : List Entry} {A B w1 w2 : Nat} (ha : Tiny A w1 a) (hb : Tiny B w2 b) (on : List (Int × Int)) (h1 : w1 ≤ 8) (h2 : w2 ≤ 8) (hn : A * B ≤ 4096) : refJoinE a b on = (sortE (pairsE a b on), 0) ∧ Tiny (A * B) (w1 + w2) (sortE (pairsE a b on)) := by
  have hp := pairs_rows (on := on) ha.rows hb.rows (by omega)
  have hs : absS (pairsE a b on) ≤ A * B := Nat.le_trans (absS_pairsE a b on) (Nat.mul_le_mul ha.s hb.s)
  obtain ⟨t1, t2⟩ := tiny_of (fun e he => (hp e he).1) (fun e he => (hp e he).2) hs hn
  refine ⟨?_, t1⟩
  have hz : ∀ e ∈ pairsE a b on, e.count ≠ 0 := fun e he => by
    obtain ⟨x, hx, y, hy, _, rfl⟩ := pairs_mem he
    intro q
    rcases Int.mul_eq_zero.1 q with q | q
    · exact ((valid_mem ha.v).2 x hx).2.2 q
    · exact ((valid_mem hb.v).2 y hy).2.2 q
  have hl := (valid_mem t1.v).1
  rw [refJoinE, ha.narrow h1, hb.narrow h2, Bool.and_self, if_pos rfl, sumR_sort _ hz, boundE, if_neg (by omega), if_pos]
  rw [List.all_eq_true]
  intro e he
  have := t2 e he
  simp only [decide_eq_true_eq]; omega
end Go.Proofs.YtmpgmjlanngkfaaGreat
end
