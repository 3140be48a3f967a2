/-
  Views, plain: contents of small bags, and the change of a join by its bilinear form.
-/
import Derived.Test.YtmpgmjlanngkfaaGreatVch
import Derived.Test.YtmpgmjlanngkfaaGreatArc
import Derived.Test.YtmpgmjlanngkfaaGreatDex
import Derived.Test.YtmpgmjlanngkfaaGreatNorm
import Derived.Test.YtmpgmjlanngkfaaGreatArx
import Derived.Test.YtmpgmjlanngkfaaGreatAgr
import Derived.Test.YtmpgmjlanngkfaaGreatLgp
import Derived.Test.YtmpgmjlanngkfaaGreatAgk
import Derived.Test.YtmpgmjlanngkfaaGreatRek
import Derived.Test.YtmpgmjlanngkfaaGreatTkg
import Derived.Test.YtmpgmjlanngkfaaGreatAvw
import Derived.Test.YtmpgmjlanngkfaaGreatAss
section
namespace Go.Proofs.YtmpgmjlanngkfaaGreat
open Go.Abs Go.RowKit
attribute [local irreducible] ARun kont MCall PCall HCall resVal SF CF CFs defersOk slotsIn memIn fin finM VLe
set_option linter.unusedSimpArgs false
set_option maxRecDepth 100000
set_option maxHeartbeats 4000000
theorem derive1_d : DeferOk Tryz.prog 39 0 := by
  refine ⟨⟨_, Tryz.func39, by kernel_rfl, by kernel_rfl⟩, fun vs w hl => ?_⟩
  match vs, hl with
  | [], _ =>
    refine callsD_of_wpS Tryz.func39 rfl fun c₀ cs hu => ?_
    apply wpS_region
    simp [wpOpsS, go_sem, recoverD, hu, Tryz.ntmps39, Exit.thenS]
    cases c₀
    simp_all [bodyPostS, results, Tryz.results39]
def derP (ok : Bool) (v : Vw) (l r : List Entry) (s o : List Entry × Int) : List Entry × Int :=
  if ok = true then (if v.kind = 2 then addE 1 l r else if s.2 = 0 then o else ([], s.2)) else ([], 1)
theorem derive_c (v : Vw) (l r : List Entry) (s o : List Entry × Int)
    (hs : v.kind ≠ 2 → PCall Tryz.prog 41 [.agg v.d, .one (bagD l), .one (bagD r)] (bagI s))
    (ho : v.kind ≠ 2 → PCall Tryz.prog 42 [.agg v.d, .one (bagD s.1)] (bagI o)) :
    PCall Tryz.prog 17 [.agg v.d, .one (bagD l), .one (bagD r)] (bagI (derP (derivE v l r) v l r s o)) := by
  have hd := derivable_c v l r
  unfold derP
  cases h : derivE v l r
  · rw [h] at hd
    rw [if_neg (by simp)]
    dsimp only [bagI]
    refine pcallN hT Tryz.func17 Tryz.ntmps17 [.tmp 6, .tmp 7] fun B => ?_
    repeat' (first | refine ks ?_ | refine ko ?_ | refine s_call (hd) ?_ | refine f_ret2 (by repeat (first | exact def_nil | refine def_cons derive1_d ?_)) ?_ ?_ | refine kf ?_ | fail)
    all_goals rfl
  · rw [h] at hd
    rw [if_pos rfl]
    by_cases hk : v.kind = 2
    · have ha := add_c l r
      rw [if_pos hk]
      generalize addE 1 l r = a at ha ⊢
      dsimp only [bagI]
      refine pcallN hT Tryz.func17 Tryz.ntmps17 [.tmp 6, .tmp 7] fun B => ?_
      repeat' (first | refine ks ?_ | refine ko ?_ | refine s_call (hd) ?_ | refine s_call (ha) ?_ | refine f_ret2 (by repeat (first | exact def_nil | refine def_cons derive1_d ?_)) ?_ ?_ | refine kf ?_ | fail)
      all_goals rfl
    · specialize hs hk
      specialize ho hk
      rw [if_neg hk]
      obtain ⟨s, e⟩ := s
      obtain ⟨o, f⟩ := o
      dsimp only [bagI] at hs ho ⊢
      by_cases he : e = 0
      · subst he
        rw [if_pos rfl]
        dsimp only
        refine pcallN hT Tryz.func17 Tryz.ntmps17 [.tmp 6, .tmp 7] fun B => ?_
        repeat' (first | refine ks ?_ | refine ko ?_ | refine s_call (hd) ?_ | refine s_call (hs) ?_ | refine s_call (ho) ?_ | refine f_ret2 (by repeat (first | exact def_nil | refine def_cons derive1_d ?_)) ?_ ?_ | refine kf ?_ | fail)
        all_goals rfl
      · rw [if_neg he]
        dsimp only
        refine pcallN hT Tryz.func17 Tryz.ntmps17 [.tmp 6, .tmp 7] fun B => ?_
        repeat' (first | refine ks ?_ | refine ko ?_ | refine s_call (hd) ?_ | refine s_call (hs) ?_ | refine f_ret2 (by repeat (first | exact def_nil | refine def_cons derive1_d ?_)) ?_ ?_ | refine kf ?_ | fail)
        all_goals rfl
def selE (v : Vw) (j : List Entry) : List Entry × Int := outE (fun _ _ _ => ([], 0)) v j
theorem sel_c (v : Vw) (j : List Entry) (hil : v.items.length ≤ 10000) (hk : v.kind ≠ 1) : PCall Tryz.prog 42 [.agg v.d, .one (bagD j)] (bagI (selE v j)) :=
  output_c _ v j hil fun h => absurd h hk
theorem src1_c (v : Vw) (l r : List Entry) (hr : emptyR v = true) : PCall Tryz.prog 41 [.agg v.d, .one (bagD l), .one (bagD r)] (bagI (l, 0)) := by
  have h := joinSources_c (fun _ _ _ => ([], 0)) v l r (fun h => absurd hr (by rw [h]; decide))
  rw [srcE, if_pos hr] at h
  exact h
theorem deriveS_c (v : Vw) (l r : List Entry) (hil : v.items.length ≤ 10000) (hk : v.kind = 0) (hr : emptyR v = true) : PCall Tryz.prog 17 [.agg v.d, .one (bagD l), .one (bagD r)] (bagI (if derivE v l r = true then selE v l else ([], 1))) := by
  have h := derive_c v l r (l, 0) (selE v l) (fun _ => src1_c v l r hr) (fun _ => sel_c v l hil (by omega))
  rw [derP, if_neg (show ¬ v.kind = 2 by omega), if_pos (show ((l, 0) : List Entry × Int).2 = 0 from rfl)] at h
  exact h
theorem chg1 {v : Vw} (l r dl dr : List Entry) (hk : v.kind ≠ 2) (hr : emptyR v = true) : chgE v l r dl dr = ((fitE l dl).1, [], (fitE l dl).2) := by
  rw [chgE, if_neg]
  rintro ⟨_, h⟩
  simp [usesR, hr, hk] at h
theorem changeS_c (v : Vw) (l r dl dr : List Entry) (hil : v.items.length ≤ 10000) (hk : v.kind = 0) (hr : emptyR v = true) : PCall Tryz.prog 18 [.agg v.d, .one (bagD l), .one (bagD r), .one (bagD dl), .one (bagD dr)] (bagI (chaE (derivE v l r) (conSE (l, 0) (selE v l) (fitE l dl) (selE v (fitE l dl).1)))) := by
  refine change_c v l r dl dr _ fun _ => ?_
  refine contentsS_c v l r dl dr _ _ _ _ (by omega) (src1_c v l r hr) (sel_c v l hil (by omega)) ?_ (sel_c v _ hil (by omega))
  have h := joinChanged_c (fun _ _ _ => ([], 0)) ([], 0) v l l r dl dr (fun h => absurd hr (by rw [h]; decide)) (fun h => absurd hr (by rw [h]; decide))
  rw [jchE, chg1 l r dl dr (by omega) hr, if_neg (by simp [hr])] at h
  exact h
theorem changeU_c (v : Vw) (l r dl dr : List Entry) (hk : v.kind = 2) : PCall Tryz.prog 18 [.agg v.d, .one (bagD l), .one (bagD r), .one (bagD dl), .one (bagD dr)] (bagI (chaE (derivE v l r) (conUE v l r dl dr))) :=
  change_c v l r dl dr _ fun _ => contentsU_c v l r dl dr hk
end Go.Proofs.YtmpgmjlanngkfaaGreat
end
section
namespace Go.Abs
open Go.RowKit
section
variable {P : Program} {T : TypeId → Option TI} {F0 : Nat → Prop} {w0 : World}
variable {dr : Bool} {ops rest : List Oper} {K : St → Prop} {n : Nat} {sl : List (Nat × SVal)} {mem : List Blk} {ck : Nat} {df : List (FuncId × List Cell)} {acc : List Nat}
variable {d : Tmp} {op : Op} {ty : TypeId} {pos : String} {aft : Array Edge} {g : Option (Nat × Bool)}
end
end Go.Abs
end
section
namespace Go.Proofs.YtmpgmjlanngkfaaGreat
open Go.Abs Go.RowKit
attribute [local irreducible] ARun kont MCall PCall HCall resVal SF CF CFs defersOk slotsIn memIn fin finM VLe
set_option linter.unusedSimpArgs false
set_option maxRecDepth 100000
set_option maxHeartbeats 4000000
def dupE {β : Type} (q : β → β → Bool) (l : List β) : Nat → Bool
  | 0 => false
  | j + 1 => match l[j + 1]?, l[j]? with
    | some x, some y => q x y
    | _, _ => false
def compN {β : Type} (q : β → β → Bool) (l : List β) : Nat → List β
  | 0 => []
  | i + 1 => compN q l i ++ (if dupE q l i = true then [] else (l[i]?).toList)
def rD (r : List Val) : List Dat := [rowD r]
def rwsD (l : List (List Val)) : Dat := .sl (l.map rD)
def eqR (a b : List Val) : Bool := decide (rowCmp a b = 0)
noncomputable def srtK (items : List Itm) (D : List Entry) : List (List Val) := sortF rowCmp (D.map fun e => keyE items e.row)
noncomputable def tkE (items : List Itm) (D : List Entry) : List (List Val) := compN eqR (srtK items D) (srtK items D).length
noncomputable def tchE (v : Vw) (ok : Bool) (s j d : List Entry × Int) : List (List Val) × Int :=
  if v.kind = 1 ∧ ok = true then (if s.2 = 0 then (if j.2 = 0 then (if d.2 = 0 then (tkE v.items d.1, 0) else ([], d.2)) else ([], j.2)) else ([], s.2)) else ([], 1)
def tchR (q : List (List Val) × Int) : PRes := .tup [.one (rwsD q.1), .one (.lit (.int .i64 q.2))]
end Go.Proofs.YtmpgmjlanngkfaaGreat
end
section
namespace Go.Proofs.YtmpgmjlanngkfaaGreat
open Go.Abs Go.RowKit
set_option linter.unusedSimpArgs false
set_option maxRecDepth 100000
noncomputable def GrE (ag : List Agg) (keys : List Itm) (b : List Entry) : List Entry := (keysE b (keyE keys)).map (grE ag keys b)
theorem GrE_tiny {ag : List Agg} {keys : List Itm} {b : List Entry} {n w : Nat} (h : Tiny n w b) (hn : n ≤ 4096) (h8 : keys.length + ag.length ≤ 8) : Tiny n (keys.length + ag.length) (GrE ag keys b) := by
  have hl := h.len9
  have hK : CleanK b (keyE keys) := fun e _ => keyE_clean keys e.row
  refine ⟨rows_valid (by omega) h8, fun e he => ?_, ?_⟩
  · obtain ⟨k, hk, rfl⟩ := List.mem_map.1 he
    show (grpRow ag (k, _)).length = _
    rw [grpRow_len, (keysE_mem hk).2]
  · have h1 : absS (GrE ag keys b) ≤ 1 * (GrE ag keys b).length := absS_le fun e he => by
      obtain ⟨k, hk, rfl⟩ := List.mem_map.1 he
      exact Nat.le_refl _
    have h2 := keysE_len b _ hK
    have h3 : (GrE ag keys b).length = (keysE b (keyE keys)).length := List.length_map ..
    omega
open Classical in
theorem ind_nn (r s : List Val) : 0 ≤ indR r s := by unfold indR; split <;> omega
theorem pos_fit9 {a d s : List Entry} (vs : bagValid s = true) (h : ∀ g, wS g s = wS g a + wS g d) (hf : ∀ g : List Val → Int, (∀ r, 0 ≤ g r) → 0 ≤ wS g a + wS g d) : positiveE s = true := by
  unfold positiveE
  rw [vs, Bool.true_and, List.all_eq_true]
  intro e he
  have h1 := sumK_mem (apart_of_sorted (sorted_of_valid vs).up) he (rowCmp_ok.refl _)
  have h2 := hf (indR e.row) (ind_nn _)
  rw [sumK_w, h] at h1
  simp; omega
theorem pos_all9 {a : List Entry} (va : bagValid a = true) (pa : ∀ e ∈ a, 0 < e.count) : positiveE a = true := by
  unfold positiveE
  rw [va, Bool.true_and, List.all_eq_true]
  intro e he
  have := pa e he
  simp; omega
theorem fitF9 {a d : List Entry} {A D w : Nat} (ha : Tiny A w a) (hd : Tiny D w d) (hf : ∀ g : List Val → Int, (∀ r, 0 ≤ g r) → 0 ≤ wS g a + wS g d) (hn : A + D ≤ 4096) : ∃ s, fitE a d = (s, 0) ∧ addE 1 a d = (s, 0) ∧ Tiny (A + D) w s ∧ positiveE s = true ∧ ∀ g, wS g s = wS g a + wS g d := by
  obtain ⟨s, h1, h2, h3⟩ := addT9 ha hd hn
  have hp := pos_fit9 h2.v h3 hf
  refine ⟨s, ?_, h1, h2, hp, h3⟩
  unfold fitE
  rw [h1, if_pos ⟨rfl, hp⟩]
def grpV (ks : List Itm) (ag : List Agg) : Vw := ⟨⟨#[]⟩, 1, ⟨#[]⟩, ⟨#[]⟩, [], [], ks, false, ag⟩
end Go.Proofs.YtmpgmjlanngkfaaGreat
end
section
namespace Go.Proofs.YtmpgmjlanngkfaaGreat
open Go.Abs Go.RowKit
attribute [local irreducible] ARun kont MCall PCall HCall resVal SF CF CFs defersOk slotsIn memIn fin finM VLe
set_option linter.unusedSimpArgs false
set_option maxRecDepth 100000
set_option maxHeartbeats 4000000
def R1t : List Val := [Val.ofInt 1]
def onesE (n : Int) : List Entry := [⟨R1t, n⟩]
def someW : List Trm := [⟨11, Val.null, 0⟩, ⟨2, Val.null, 0⟩, ⟨1, Val.ofInt 1, 0⟩]
def someI : List Itm := [⟨⟨#[]⟩, [⟨2, Val.null, 0⟩]⟩]
def someV (d : Bool) : Vw := ⟨⟨#[]⟩, 0, ⟨#[]⟩, ⟨#[]⟩, [], someW, someI, d, []⟩
theorem ones_c (n : Int) : PCall Tryz.prog 38 [.one (.lit (.int .i64 n))] (.v (.one (bagD (onesE n)))) := by
  have hi := refInt_c 1
  refine pcallN hT Tryz.func38 Tryz.ntmps38 [.tmp 2] fun B => ?_
  repeat' (first | refine ks ?_ | refine ko ?_ | refine s_call (hi) ?_ | refine kf ?_ | fail)
  all_goals rfl
theorem some_c (d : Bool) : PCall Tryz.prog 37 [.one (.lit (.bool d))] (.v (.agg (someV d).d)) := by
  have hi := refInt_c 1
  refine pcallN hT Tryz.func37 Tryz.ntmps37 [.cell 2 30] fun B => ?_
  repeat' (first | refine ks ?_ | refine ko ?_ | refine s_call (hi) ?_ | refine kf ?_ | exact k0 | refine kg ?_ ?_ | fail)
  all_goals rfl
theorem ones_valid {n : Int} (h : countOK n = true) (h0 : n ≠ 0) : bagValid (onesE n) = true := by
  have hr : rowOK R1t = true := by decide +kernel
  simp [bagValid, onesE, goodFrom, Entry.ok, hr, h, h0]
theorem ones_whole (n : Int) : whereE (onesE n) someW = if bagValid (onesE n) = true then onesE n else [] := by
  have hk : keepE someW ⟨R1t, n⟩ = true := by
    show (decide (someW.length = 0) || holdsE someW R1t) = true
    decide +kernel
  unfold whereE
  split
  · show List.filter _ [_] = _
    rw [List.filter_cons, hk, if_pos rfl]; rfl
  · rfl
theorem ones_map {n : Int} (h : bagValid (onesE n) = true) : mapE (onesE n) (someI.map Itm.expr) = (onesE n, 0) := by
  have hm : (onesE n).map (map1 (someI.map Itm.expr)) = onesE n := by
    have h0 : sameRow ((someI.map Itm.expr).map fun t => evE t R1t) R1t = true := by decide +kernel
    have h1 := sr_iff.1 h0
    show [(⟨(someI.map Itm.expr).map (fun t => evE t R1t), n⟩ : Entry)] = _
    rw [h1]; rfl
  rw [mapE, h, if_pos (by decide), hm, norm_valid h]
theorem ones_sel {n : Int} (d : Bool) (h : bagValid (onesE n) = true) : selE (someV d) (onesE n) = (if d = true then supportE (onesE n) else onesE n, 0) := by
  unfold selE outE
  rw [if_neg (show ¬ (someV d).kind = 1 by show ¬ (0 : Int) = 1; decide), show (someV d).wher = someW from rfl, show (someV d).items = someI from rfl, ones_whole, if_pos h, ones_map h, if_pos rfl, show (someV d).distinct = d from rfl]
  cases d <;> rfl
theorem ones_add {p q : Int} (hp : bagValid (onesE p) = true) (hq : bagValid (onesE q) = true) (s : Int) : addE s (onesE p) (onesE q) = fitsE (if p + s * q = 0 then [] else onesE (p + s * q)) := by
  have hc : rowCmp R1t R1t = 0 := rowCmp_ok.refl _
  rw [addE, if_pos ⟨hp, hq⟩]
  show fitsE (mergeE [⟨R1t, p⟩] [⟨R1t, s * q⟩]) = _
  rw [mergeE, if_neg (by show ¬ rowCmp R1t R1t < 0; omega), if_neg (by show ¬ 0 < rowCmp R1t R1t; omega), mergeE, List.append_nil]
  rfl
theorem ones_fit : fitE (onesE 2) (onesE (-1)) = (onesE 1, 0) := by
  have h2 := ones_valid (n := 2) (by decide) (by decide)
  have h1 := ones_valid (n := -1) (by decide) (by decide)
  have h3 := ones_valid (n := 1) (by decide) (by decide)
  have ha : addE 1 (onesE 2) (onesE (-1)) = (onesE 1, 0) := by
    rw [ones_add h2 h1, if_neg (by decide)]; rfl
  unfold fitE
  rw [ha, if_pos]
  refine ⟨rfl, ?_⟩
  unfold positiveE
  rw [h3]; rfl
theorem ones_der (d : Bool) : derivE (someV d) (onesE 2) [] = true := by
  have h2 := ones_valid (n := 2) (by decide) (by decide)
  have he : emptyR (someV d) = true := beq_self_eq_true _
  unfold derivE positiveE usesR
  rw [h2, he]
  cases d <;> rfl
theorem ones_sup {n : Int} (h : bagValid (onesE n) = true) (hn : 0 < n) : supportE (onesE n) = onesE 1 := by
  unfold supportE
  rw [if_pos h]
  unfold onesE supp
  simp [hn]
theorem sameSelfT_c (l : List Entry) : PCall Tryz.prog 20 [.one (bagD l), .one (bagD l)] (.v (.one (.lit (.bool true)))) := by
  have h := same06_c l l
  rw [sameBag_refl] at h
  exact h
theorem awake10_c : PCall Tryz.prog 15 [] (.v (.one (.lit (.bool true)))) := by
  have h2 := ones_valid (n := 2) (by decide) (by decide)
  have h1 := ones_valid (n := -1) (by decide) (by decide)
  have h3 := ones_valid (n := 1) (by decide) (by decide)
  have he : ∀ d, emptyR (someV d) = true := fun _ => beq_self_eq_true _
  have w1 : chaE (derivE (someV false) (onesE 2) []) (conSE (onesE 2, 0) (selE (someV false) (onesE 2)) (fitE (onesE 2) (onesE (-1))) (selE (someV false) (fitE (onesE 2) (onesE (-1))).1)) = (onesE (-1), 0) := by
    rw [ones_der, ones_fit, ones_sel _ h2, ones_sel _ h3]
    show addE (-1) (onesE 1) (onesE 2) = _
    rw [ones_add h3 h2, if_neg (by decide)]; rfl
  have w2 : chaE (derivE (someV true) (onesE 2) []) (conSE (onesE 2, 0) (selE (someV true) (onesE 2)) (fitE (onesE 2) (onesE (-1))) (selE (someV true) (fitE (onesE 2) (onesE (-1))).1)) = ([], 0) := by
    rw [ones_der, ones_fit, ones_sel _ h2, ones_sel _ h3]
    show addE (-1) (supportE (onesE 1)) (supportE (onesE 2)) = _
    rw [ones_sup h3 (by decide), ones_sup h2 (by decide), ones_add h3 h3, if_pos (by decide)]; rfl
  have w3 : (if derivE (someV false) (onesE 2) [] = true then selE (someV false) (onesE 2) else ([], 1)) = (onesE 2, 0) := by
    rw [ones_der, if_pos rfl, ones_sel _ h2]; rfl
  have c1 := changeS_c (someV false) (onesE 2) [] (onesE (-1)) [] (by decide) rfl (he false)
  have c2 := changeS_c (someV true) (onesE 2) [] (onesE (-1)) [] (by decide) rfl (he true)
  have c3 := deriveS_c (someV false) (onesE 2) [] (by decide) rfl (he false)
  rw [w1] at c1
  rw [w2] at c2
  rw [w3] at c3
  have v1 := some_c false
  have v2 := some_c true
  have o1 := ones_c 2
  have o2 := ones_c (-1)
  have s1 := sameSelfT_c (onesE 2)
  have s2 := sameSelfT_c (onesE (-1))
  clear w1 w2 w3 h1 h2 h3 he
  dsimp only [bagI] at c1 c2 c3
  generalize onesE 2 = A at c1 c2 c3 o1 s1
  generalize onesE (-1) = B at c1 c2 c3 o2 s2
  refine pcallN hT Tryz.func15 Tryz.ntmps15 [.tmp 0] fun B => ?_
  repeat' (first | refine ks ?_ | refine ko ?_ | refine s_call (v1) ?_ | refine s_call (v2) ?_ | refine s_call (o1) ?_ | refine s_call (o2) ?_ | refine s_call (c1) ?_ | refine s_call (c2) ?_ | refine s_call (c3) ?_ | refine s_call (s1) ?_ | refine s_call (s2) ?_ | refine kf ?_ | fail)
  all_goals rfl
end Go.Proofs.YtmpgmjlanngkfaaGreat
end
section
namespace Go.Proofs.YtmpgmjlanngkfaaGreat
open Go.Abs Go.RowKit
set_option linter.unusedSimpArgs false
set_option maxRecDepth 100000
theorem wS_posV {f : List Val → Int} (hf : ∀ r, 0 ≤ f r) {l : List Entry} (h : positiveE l = true) : 0 ≤ wS f l := by
  have h : ∀ e ∈ l, 0 ≤ e.count := fun e he => by
    unfold positiveE at h
    rw [Bool.and_eq_true, List.all_eq_true] at h
    exact of_decide_eq_true (h.2 e he)
  induction l with
  | nil => exact Int.le_refl _
  | cons e l ih =>
    have h1 := Int.mul_nonneg (h e (by simp)) (hf e.row)
    have h2 : ∀ e ∈ l, 0 ≤ e.count := fun x hx => h x (by simp [hx])
    rw [wS]
    have h3 : ∀ {l : List Entry}, (∀ e ∈ l, 0 ≤ e.count) → 0 ≤ wS f l := fun {l} h => by
      induction l with
      | nil => exact Int.le_refl _
      | cons e l ih =>
        have h1 := Int.mul_nonneg (h e (by simp)) (hf e.row)
        have h2 := ih fun x hx => h x (by simp [hx])
        rw [wS]; omega
    have := h3 h2
    omega
theorem pos_wS {b : List Entry} (v : bagValid b = true) (h : ∀ g : List Val → Int, (∀ r, 0 ≤ g r) → 0 ≤ wS g b) : positiveE b = true :=
  pos_fit9 (a := b) (d := []) v (fun g => by simp [wS]) fun g hg => by have := h g hg; simp [wS]; exact this
def bil (on : List (Int × Int)) (a b : List Entry) (g : List Val → Int) : Int := wS (fun s => wS (fun t => if meetsE s t on then g (s ++ t) else 0) b) a
theorem bil_l {on : List (Int × Int)} {s a d b : List Entry} (h : ∀ g, wS g s = wS g a + wS g d) (g : List Val → Int) : bil on s b g = bil on a b g + bil on d b g := h _
theorem bil_r {on : List (Int × Int)} {s a d b : List Entry} (h : ∀ g, wS g s = wS g a + wS g d) (g : List Val → Int) : bil on b s g = bil on b a g + bil on b d g := by
  unfold bil
  rw [← wS_add]
  exact wS_congr fun e _ => h _
theorem joinB {a b : List Entry} {A B w1 w2 : Nat} (ha : Tiny A w1 a) (hb : Tiny B w2 b) (on : List (Int × Int)) (h1 : w1 ≤ 8) (h2 : w2 ≤ 8) (hn : A * B ≤ 4096) : ∃ j, refJ a b on = (j, 0) ∧ Tiny (A * B) (w1 + w2) j ∧ ∀ g, wS g j = bil on a b g := by
  obtain ⟨e, t⟩ := joinT ha hb on h1 h2 hn
  have hp := pairs_rows (on := on) ha.rows hb.rows (by omega)
  refine ⟨_, by unfold refJ; rw [e]; rfl, t, fun g => ?_⟩
  rw [wS_sortE _ _ fun x hx => rowOK_clean (hp x hx).1, wS_pairsE]; rfl
theorem bil_nn {on : List (Int × Int)} {a b : List Entry} (pa : positiveE a = true) (pb : positiveE b = true) {g : List Val → Int} (hg : ∀ r, 0 ≤ g r) : 0 ≤ bil on a b g :=
  wS_posV (fun s => wS_posV (fun t => by split <;> first | exact hg _ | exact Int.le_refl _) pb) pa
theorem jc_tiny {l r dl dr : List Entry} {A B D E : Nat} (hl : Tiny A 3 l) (hr : Tiny B 2 r) (hdl : Tiny D 3 dl) (hdr : Tiny E 2 dr) (on : List (Int × Int)) (hn : D * B + A * E + D * E ≤ 4096) :
    ∃ c, jcF refJ on [(dl, r), (l, dr), (dl, dr)] [] = (c, 0) ∧ Tiny (D * B + A * E + D * E) 5 c ∧ ∀ g, wS g c = bil on dl r g + bil on l dr g + bil on dl dr g := by
  obtain ⟨j1, e1, t1, g1⟩ := joinB hdl hr on (by omega) (by omega) (by omega)
  obtain ⟨j2, e2, t2, g2⟩ := joinB hl hdr on (by omega) (by omega) (by omega)
  obtain ⟨j3, e3, t3, g3⟩ := joinB hdl hdr on (by omega) (by omega) (by omega)
  obtain ⟨s1, a1, u1, k1⟩ := addT9 (tiny_nil 5) t1 (by omega)
  obtain ⟨s2, a2, u2, k2⟩ := addT9 u1 t2 (by omega)
  obtain ⟨s3, a3, u3, k3⟩ := addT9 u2 t3 (by omega)
  refine ⟨s3, ?_, tiny_mono u3 (by omega), fun g => ?_⟩
  · rw [jcF]
    dsimp only
    rw [e1, if_pos rfl]
    dsimp only
    rw [a1, if_pos rfl, jcF]
    dsimp only
    rw [e2, if_pos rfl]
    dsimp only
    rw [a2, if_pos rfl, jcF]
    dsimp only
    rw [e3, if_pos rfl]
    dsimp only
    rw [a3, if_pos rfl, jcF]
  · rw [k3, k2, k1, g1, g2, g3]
    show (0 : Int) + _ + _ + _ = _
    omega
theorem supp_tiny9 {b : List Entry} {n : Nat} (h : TinV n b) : TinV n (supportE b) := by
  unfold supportE
  rw [if_pos h.v]
  have hs := sorted_of_valid h.v
  obtain ⟨hl, hm⟩ := valid_mem h.v
  have hmem : ∀ e ∈ supp b, e.count = 1 ∧ ∃ f ∈ b, f.row = e.row ∧ 0 < f.count := fun e he => by
    unfold supp at he
    obtain ⟨f, hf, rfl⟩ := List.mem_map.1 he
    obtain ⟨h1, h2⟩ := List.mem_filter.1 hf
    exact ⟨rfl, f, h1, rfl, of_decide_eq_true h2⟩
  have hlen : (supp b).length ≤ b.length := by
    unfold supp
    rw [List.length_map]
    exact List.length_filter_le ..
  have hup : (supp b).Pairwise eR := by
    unfold supp
    rw [List.pairwise_map]
    exact hs.up.filter _
  refine ⟨?_, ?_⟩
  · simp only [bagValid, Bool.and_eq_true, decide_eq_true_eq]
    refine ⟨Nat.le_trans hlen hl, good_of (fun e he => ?_) hup (by simp)⟩
    obtain ⟨h1, f, hf, hr, _⟩ := hmem e he
    have := (hm f hf).1
    simp [Entry.ok, countOK, ← hr, this, h1]
  · have h1 : absS (supp b) ≤ 1 * (supp b).length := absS_le fun e he => by rw [(hmem e he).1]; exact Nat.le_refl _
    have h2 := h.len9
    omega
theorem out_tiny {v : Vw} (hv : v.ok) (hk : v.kind ≠ 2) {j : List Entry} {n w : Nat} (hj : Tiny n w j) (pj : positiveE j = true) (hn : n ≤ 4096) : ∃ o, outE groupE v j = (o, 0) ∧ TinV n o := by
  obtain ⟨tw, _⟩ := whereT9 hj v.wher
  have hfit := hv.fits
  unfold outE
  by_cases h1 : v.kind = 1
  · rw [if_pos h1]
    have pw : positiveE (whereE j v.wher) = true := by
      rw [whereE, hj.v, if_pos rfl]
      exact filter_pos _ pj
    rw [group_rows pw hfit]
    exact ⟨_, rfl, (GrE_tiny (ag := v.aggs) (keys := v.items) tw hn hfit).tv⟩
  · rw [if_neg h1]
    obtain ⟨m, m1, tm, _⟩ := mapT9 tw (v.items.map Itm.expr) (by rw [List.length_map]; have := hv.items; omega) hn
    rw [m1, if_pos rfl]
    split
    · exact ⟨_, rfl, supp_tiny9 tm.tv⟩
    · exact ⟨_, rfl, tm.tv⟩
noncomputable def cntW (v : Vw) (l r : List Entry) : List Entry := if v.kind = 2 then (addE 1 l r).1 else (outE groupE v (srcE refJ v l r).1).1
theorem src_tiny {v : Vw} {l r : List Entry} {A B N : Nat} (hl : Tiny A 3 l) (hr : Tiny B 2 r) (pl : positiveE l = true) (pr : positiveE r = true) (h1 : A ≤ N) (h2 : A * B ≤ N) (hN : N ≤ 4096) : ∃ j w, srcE refJ v l r = (j, 0) ∧ Tiny N w j ∧ positiveE j = true ∧ (emptyR v = false → refJ l r v.on = (j, 0) ∧ Tiny (A * B) 5 j ∧ ∀ g, wS g j = bil v.on l r g) ∧ (emptyR v = true → j = l) := by
  unfold srcE
  cases he : emptyR v
  · obtain ⟨j, e, t, g⟩ := joinB hl hr v.on (by omega) (by omega) (by omega)
    refine ⟨j, 5, by rw [if_neg (by decide), e], tiny_mono t h2, pos_wS t.v fun f hf => by rw [g]; exact bil_nn pl pr hf, fun _ => ⟨e, t, g⟩, fun h => by cases h⟩
  · exact ⟨l, 3, by rw [if_pos rfl], tiny_mono hl h1, pl, fun h => (by cases h), fun _ => rfl⟩
theorem outV_c {v : Vw} (hv : v.ok) (j : List Entry) : PCall Tryz.prog 42 [.agg v.d, .one (bagD j)] (bagI (outE groupE v j)) :=
  output_c groupE v j (by have := hv.items; omega) fun _ => group_c _ _ _ (by have := hv.items; omega) (by have := hv.aggs; omega)
theorem srcV_c {v : Vw} (hv : v.ok) (l r : List Entry) : PCall Tryz.prog 41 [.agg v.d, .one (bagD l), .one (bagD r)] (bagI (srcE refJ v l r)) :=
  joinSources_c refJ v l r fun _ => refJ_c l r v.on (by have := hv.onl; omega)
theorem jchV_c {v : Vw} (hv : v.ok) (j l r dl dr : List Entry) : PCall Tryz.prog 55 [.agg v.d, .one (bagD j), .one (bagD l), .one (bagD r), .one (bagD dl), .one (bagD dr)] (bagI (jchE refJ (jcF refJ v.on [(dl, r), (l, dr), (dl, dr)] []) v j l r dl dr)) :=
  joinChanged_c refJ _ v j l r dl dr (fun _ => refJ_c _ _ v.on (by have := hv.onl; omega)) fun _ => joinChange_c refJ v l r dl dr fun p _ => refJ_c p.1 p.2 v.on (by have := hv.onl; omega)
theorem ok_known {v : Vw} (hv : v.ok) : knownV v = true := by
  rcases hv.kind with h | h | h <;> simp [knownV, h]
theorem derive_tiny {v : Vw} (hv : v.ok) {l r : List Entry} {A B N : Nat} (hl : Tiny A 3 l) (hr : Tiny B 2 r) (pl : positiveE l = true) (pr : positiveE r = true) (h1 : A + B ≤ N) (h2 : A * B ≤ N) (hN : N ≤ 4096) :
    TinV N (cntW v l r) ∧ PCall Tryz.prog 17 [.agg v.d, .one (bagD l), .one (bagD r)] (bagI (cntW v l r, 0)) := by
  have hd : derivE v l r = true := by unfold derivE; rw [ok_known hv, pl, pr]; cases usesR v <;> rfl
  have h := derive_c v l r (srcE refJ v l r) (outE groupE v (srcE refJ v l r).1) (fun _ => srcV_c hv l r) fun _ => outV_c hv _
  rw [hd] at h
  unfold derP at h
  rw [if_pos rfl] at h
  unfold cntW
  by_cases hk : v.kind = 2
  · obtain ⟨s, e, t, _, _⟩ := addV9 hl.tv hr.tv (by omega)
    rw [if_pos hk, e] at h ⊢
    exact ⟨tinV_mono t h1, h⟩
  · obtain ⟨j, w, e, t, pj, _, _⟩ := src_tiny (v := v) hl hr pl pr (show A ≤ N by omega) h2 hN
    obtain ⟨o, eo, to⟩ := out_tiny hv hk t pj hN
    rw [if_neg hk, e] at h ⊢
    dsimp only at h ⊢
    rw [eo] at h ⊢
    rw [if_pos rfl] at h
    exact ⟨to, h⟩
theorem change_tiny {v : Vw} (hv : v.ok) {l r dl dr l2 r2 : List Entry} {A B D E N M : Nat} (hl : Tiny A 3 l) (hr : Tiny B 2 r) (hdl : Tiny D 3 dl) (hdr : Tiny E 2 dr) (pl : positiveE l = true) (pr : positiveE r = true)
    (f1 : fitE l dl = (l2, 0)) (t1 : Tiny (A + D) 3 l2) (p1 : positiveE l2 = true) (w1 : ∀ g, wS g l2 = wS g l + wS g dl) (f2 : fitE r dr = (r2, 0)) (t2 : Tiny (B + E) 2 r2) (p2 : positiveE r2 = true) (w2 : ∀ g, wS g r2 = wS g r + wS g dr)
    (h1 : A + B ≤ N) (h2 : A * B ≤ N) (h3 : A + D + (B + E) ≤ M) (h4 : (A + D) * (B + E) ≤ M) (hN : M + N ≤ 4096) :
    ∃ x, TinV (M + N) x ∧ (∀ g, wS g x = wS g (cntW v l2 r2) - wS g (cntW v l r)) ∧ PCall Tryz.prog 18 [.agg v.d, .one (bagD l), .one (bagD r), .one (bagD dl), .one (bagD dr)] (bagI (x, 0)) := by
  have hd : derivE v l r = true := by unfold derivE; rw [ok_known hv, pl, pr]; cases usesR v <;> rfl
  obtain ⟨tc, _⟩ := derive_tiny hv hl hr pl pr h1 h2 (by omega)
  obtain ⟨tp, _⟩ := derive_tiny hv t1 t2 p1 p2 h3 h4 (by omega)
  obtain ⟨x, x1, x2, _, x4⟩ := subV9 tp tc hN
  refine ⟨x, x2, x4, ?_⟩
  by_cases hk : v.kind = 2
  · have h := changeU_c v l r dl dr hk
    have hu : usesR v = true := by simp [usesR, hk]
    have hc : chgE v l r dl dr = (l2, r2, 0) := by
      unfold chgE
      rw [f1, f2, if_pos ⟨rfl, hu⟩]
    obtain ⟨s, e, _, _, _⟩ := addV9 hl.tv hr.tv (by omega)
    obtain ⟨s2, e2, _, _, _⟩ := addV9 t1.tv t2.tv (by omega)
    have hq : conUE v l r dl dr = (cntW v l r, cntW v l2 r2, 0) := by
      unfold conUE cntW
      rw [hc, if_pos hk, if_pos hk, e, if_pos rfl, if_pos rfl]
      dsimp only
      rw [e2]
    rw [hd, hq, chaE, if_pos rfl, if_pos rfl] at h
    dsimp only at h
    rw [x1] at h
    exact h
  · obtain ⟨j, w, e, t, pj, hj1, hj2⟩ := src_tiny (v := v) hl hr pl pr (show A ≤ N by omega) h2 (by omega)
    obtain ⟨j2, w', e', t', pj', hj3, hj4⟩ := src_tiny (v := v) t1 t2 p1 p2 (show A + D ≤ M by omega) h4 (by omega)
    obtain ⟨o, eo, _⟩ := out_tiny hv hk t pj (by omega)
    obtain ⟨p, ep, _⟩ := out_tiny hv hk t' pj' (by omega)
    have hjc : jchE refJ (jcF refJ v.on [(dl, r), (l, dr), (dl, dr)] []) v j l r dl dr = (j2, 0) := by
      unfold jchE
      cases he : emptyR v
      · have hu : usesR v = true := by simp [usesR, he]
        have hc : chgE v l r dl dr = (l2, r2, 0) := by
          unfold chgE
          rw [f1, f2, if_pos ⟨rfl, hu⟩]
        rw [hc, if_pos ⟨rfl, rfl⟩]
        obtain ⟨_, tj, gj⟩ := hj1 he
        obtain ⟨_, tj2, gj2⟩ := hj3 he
        have hmul : (A + D) * (B + E) = A * B + (D * B + A * E + D * E) := by rw [Nat.add_mul, Nat.mul_add, Nat.mul_add]; omega
        obtain ⟨c, ec, tcc, gc⟩ := jc_tiny hl hr hdl hdr v.on (by omega)
        rw [ec, if_pos rfl]
        dsimp only
        obtain ⟨s, es, ts, gs⟩ := addT9 tj tcc (by omega)
        rw [es, bag_eq9 ts.v tj2.v fun g => by rw [gs, gj, gc, gj2, bil_l w1, bil_r w2, bil_r w2]; omega]
      · rw [chg1 l r dl dr hk he, if_neg (by simp), f1, hj4 he]
    have hs := srcV_c hv l r
    rw [e] at hs
    have ho := outV_c hv j
    rw [eo] at ho
    have hj := jchV_c hv j l r dl dr
    rw [hjc] at hj
    have hp := outV_c hv j2
    rw [ep] at hp
    have h := change_c v l r dl dr _ fun _ => contentsS_c v l r dl dr (j, 0) (o, 0) (j2, 0) (p, 0) hk hs ho hj hp
    have c1 : cntW v l r = o := by unfold cntW; rw [if_neg hk, e, eo]
    have c2 : cntW v l2 r2 = p := by unfold cntW; rw [if_neg hk, e', ep]
    rw [hd, show chaE true (conSE (j, 0) (o, 0) (j2, 0) (p, 0)) = addE (-1) p o from rfl, ← c1, ← c2, x1] at h
    exact h
end Go.Proofs.YtmpgmjlanngkfaaGreat
end
