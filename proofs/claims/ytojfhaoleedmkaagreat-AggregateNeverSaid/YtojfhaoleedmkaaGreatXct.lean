/-
  Aggregates, plain: the states of small bags are valid, show their groups, and are corrected by a change.
-/
import Derived.Test.YtojfhaoleedmkaaGreatMrg
import Derived.Test.YtojfhaoleedmkaaGreatShw
import Derived.Test.YtojfhaoleedmkaaGreatLgp
import Derived.Test.YtojfhaoleedmkaaGreatTny
section
namespace Go.Proofs.YtojfhaoleedmkaaGreat
open Go.Abs Go.RowKit
attribute [local irreducible] ARun kont MCall PCall HCall resVal SF CF CFs defersOk slotsIn memIn fin finM VLe
set_option linter.unusedSimpArgs false
set_option maxRecDepth 100000
set_option maxHeartbeats 4000000
theorem add1_d : DeferOk Tryz.prog 75 0 := by
  refine ⟨⟨_, Tryz.func75, by kernel_rfl, by kernel_rfl⟩, fun vs w hl => ?_⟩
  match vs, hl with
  | [], _ =>
    refine callsD_of_wpS Tryz.func75 rfl fun c₀ cs hu => ?_
    apply wpS_region
    simp [wpOpsS, go_sem, recoverD, hu, Tryz.ntmps75, Exit.thenS]
    cases c₀
    simp_all [bodyPostS, results, Tryz.results75]
theorem subtract1_d : DeferOk Tryz.prog 83 0 := by
  refine ⟨⟨_, Tryz.func83, by kernel_rfl, by kernel_rfl⟩, fun vs w hl => ?_⟩
  match vs, hl with
  | [], _ =>
    refine callsD_of_wpS Tryz.func83 rfl fun c₀ cs hu => ?_
    apply wpS_region
    simp [wpOpsS, go_sem, recoverD, hu, Tryz.ntmps83, Exit.thenS]
    cases c₀
    simp_all [bodyPostS, results, Tryz.results83]
def addE (s : Int) (a b : List Entry) : List Entry × Int := if bagValid a ∧ bagValid b then fitsE (mergeE a (b.map (sc s))) else ([], 1)
theorem add_c (a b : List Entry) : PCall Tryz.prog 36 [.one (bagD a), .one (bagD b)] (.tup [.one (bagD (addE 1 a b).1), .one (.lit (.int .i64 (addE 1 a b).2))]) := by
  have h1 := bagValid_c a
  have h2 := bagValid_c b
  by_cases ha : bagValid a = true
  · by_cases hb : bagValid b = true
    · have hm := merge_c' a b 1 (.inl rfl) ha hb
      have he : addE 1 a b = fitsE (mergeE a (b.map (sc 1))) := if_pos ⟨ha, hb⟩
      rw [he]
      generalize fitsE (mergeE a (b.map (sc 1))) = R at hm
      obtain ⟨r, er⟩ := R
      dsimp only at hm ⊢
      rw [ha] at h1
      rw [hb] at h2
      refine pcallN hT Tryz.func36 Tryz.ntmps36 [.tmp 4, .tmp 5] fun B => ?_
      repeat' (first | refine ks ?_ | refine ko ?_ | refine s_call (h1) ?_ | refine s_call (h2) ?_ | refine s_call (hm) ?_ | refine f_ret2 (by repeat (first | exact def_nil | refine def_cons add1_d ?_)) ?_ ?_ | refine t_tmp ?_ | refine t_tmpE ?_)
      all_goals rfl
    · have he : addE 1 a b = ([], 1) := if_neg (fun q => hb q.2)
      rw [he]
      rw [ha] at h1
      rw [show bagValid b = false by simpa using hb] at h2
      refine pcallN hT Tryz.func36 Tryz.ntmps36 [.tmp 4, .tmp 5] fun B => ?_
      repeat' (first | refine ks ?_ | refine ko ?_ | refine s_call (h1) ?_ | refine s_call (h2) ?_ | refine f_ret2 (by repeat (first | exact def_nil | refine def_cons add1_d ?_)) ?_ ?_ | refine t_tmp ?_ | refine t_tmpE ?_)
      all_goals rfl
  · have he : addE 1 a b = ([], 1) := if_neg (fun q => ha q.1)
    rw [he]
    rw [show bagValid a = false by simpa using ha] at h1
    refine pcallN hT Tryz.func36 Tryz.ntmps36 [.tmp 4, .tmp 5] fun B => ?_
    repeat' (first | refine ks ?_ | refine ko ?_ | refine s_call (h1) ?_ | refine s_call (h2) ?_ | refine f_ret2 (by repeat (first | exact def_nil | refine def_cons add1_d ?_)) ?_ ?_ | refine t_tmp ?_ | refine t_tmpE ?_)
    all_goals rfl
theorem subtract_c (a b : List Entry) : PCall Tryz.prog 39 [.one (bagD a), .one (bagD b)] (.tup [.one (bagD (addE (-1) a b).1), .one (.lit (.int .i64 (addE (-1) a b).2))]) := by
  have h1 := bagValid_c a
  have h2 := bagValid_c b
  by_cases ha : bagValid a = true
  · by_cases hb : bagValid b = true
    · have hm := merge_c' a b (-1) (.inr rfl) ha hb
      have he : addE (-1) a b = fitsE (mergeE a (b.map (sc (-1)))) := if_pos ⟨ha, hb⟩
      rw [he]
      generalize fitsE (mergeE a (b.map (sc (-1)))) = R at hm
      obtain ⟨r, er⟩ := R
      dsimp only at hm ⊢
      rw [ha] at h1
      rw [hb] at h2
      refine pcallN hT Tryz.func39 Tryz.ntmps39 [.tmp 4, .tmp 5] fun B => ?_
      repeat' (first | refine ks ?_ | refine ko ?_ | refine s_call (h1) ?_ | refine s_call (h2) ?_ | refine s_call (hm) ?_ | refine f_ret2 (by repeat (first | exact def_nil | refine def_cons subtract1_d ?_)) ?_ ?_ | refine t_tmp ?_ | refine t_tmpE ?_)
      all_goals rfl
    · have he : addE (-1) a b = ([], 1) := if_neg (fun q => hb q.2)
      rw [he]
      rw [ha] at h1
      rw [show bagValid b = false by simpa using hb] at h2
      refine pcallN hT Tryz.func39 Tryz.ntmps39 [.tmp 4, .tmp 5] fun B => ?_
      repeat' (first | refine ks ?_ | refine ko ?_ | refine s_call (h1) ?_ | refine s_call (h2) ?_ | refine f_ret2 (by repeat (first | exact def_nil | refine def_cons subtract1_d ?_)) ?_ ?_ | refine t_tmp ?_ | refine t_tmpE ?_)
      all_goals rfl
  · have he : addE (-1) a b = ([], 1) := if_neg (fun q => ha q.1)
    rw [he]
    rw [show bagValid a = false by simpa using ha] at h1
    refine pcallN hT Tryz.func39 Tryz.ntmps39 [.tmp 4, .tmp 5] fun B => ?_
    repeat' (first | refine ks ?_ | refine ko ?_ | refine s_call (h1) ?_ | refine s_call (h2) ?_ | refine f_ret2 (by repeat (first | exact def_nil | refine def_cons subtract1_d ?_)) ?_ ?_ | refine t_tmp ?_ | refine t_tmpE ?_)
    all_goals rfl
theorem sumK_sc (s : Int) (l : List Entry) (r : List Val) : sumK (l.map (sc s)) r = s * sumK l r := by
  induction l with
  | nil => simp [sumK]
  | cons e l ih =>
    simp only [List.map_cons, sumK, ih, Int.mul_add]
    congr 1
    show (if rowCmp e.row r = 0 then s * e.count else 0) = _
    split <;> simp
theorem sc_sorted {s : Int} (hs : s = 1 ∨ s = -1) {l : List Entry} (h : Sorted l) : Sorted (l.map (sc s)) := by
  refine ⟨?_, fun e he => ?_, fun e he => ?_⟩
  · rw [List.pairwise_map]; exact h.up
  · obtain ⟨x, hx, rfl⟩ := List.mem_map.1 he
    have := h.nz x hx
    show s * x.count ≠ 0
    rcases hs with rfl | rfl <;> omega
  · obtain ⟨x, hx, rfl⟩ := List.mem_map.1 he
    exact h.cl x hx
theorem sc_within {s : Int} (hs : s = 1 ∨ s = -1) {M : Int} {l : List Entry} (h : within M l) : within M (l.map (sc s)) := fun e he => by
  obtain ⟨x, hx, rfl⟩ := List.mem_map.1 he
  have := h x hx
  show -M ≤ s * x.count ∧ s * x.count ≤ M
  rcases hs with rfl | rfl <;> omega
theorem addE_small {s : Int} (hs : s = 1 ∨ s = -1) {a b : List Entry} {M N : Int} (ha : bagValid a = true) (hb : bagValid b = true) (wa : within M a) (wb : within N b) (hM : 0 ≤ M) (hN : 0 ≤ N) (hMN : M + N ≤ 262144) (hl : a.length + b.length ≤ 4096) :
    (addE s a b).2 = 0 ∧ bagValid (addE s a b).1 = true ∧ within (M + N) (addE s a b).1 ∧ (addE s a b).1.length ≤ a.length + b.length ∧ ∀ r, sumK (addE s a b).1 r = sumK a r + s * sumK b r := by
  have he : addE s a b = fitsE (mergeE a (b.map (sc s))) := if_pos ⟨ha, hb⟩
  have hsa := sorted_of_valid ha
  have hsb := sc_sorted hs (sorted_of_valid hb)
  have hw := mergeE_within hM hN a (b.map (sc s)) wa (sc_within hs wb)
  have hlen := mergeE_len a (b.map (sc s))
  rw [List.length_map] at hlen
  have hso := mergeE_sorted _ _ hsa hsb
  have hfit : fitsE (mergeE a (b.map (sc s))) = (mergeE a (b.map (sc s)), 0) := by
    rw [fitsE, if_neg (by omega), if_pos]
    refine List.all_eq_true.2 fun e he => ?_
    have := hw e he
    simp only [countOK, Bool.and_eq_true, decide_eq_true_eq]
    omega
  rw [he, hfit]
  refine ⟨rfl, ?_, hw, hlen, fun r => by rw [sumK_mergeE, sumK_sc]⟩
  simp only [bagValid, Bool.and_eq_true, decide_eq_true_eq]
  refine ⟨by omega, good_of (fun e hm => ?_) hso.up (by simp)⟩
  obtain ⟨x, hx, hr⟩ := mem_mergeE _ _ e hm
  have hrow : rowOK e.row = true := by
    rw [← hr]
    rcases hx with hx | hx
    · exact ((valid_mem ha).2 x hx).1
    · obtain ⟨y, hy, rfl⟩ := List.mem_map.1 hx
      exact ((valid_mem hb).2 y hy).1
  have hcw := hw e hm
  simp only [Entry.ok, countOK, Bool.and_eq_true, decide_eq_true_eq]
  exact ⟨⟨hrow, by omega, by omega⟩, hso.nz e hm⟩
end Go.Proofs.YtojfhaoleedmkaaGreat
end
section
namespace Go.Proofs.YtojfhaoleedmkaaGreat
open Go.Abs Go.RowKit
set_option linter.unusedSimpArgs false
set_option maxRecDepth 100000
theorem fitsE_ok {a : List Entry} (h : (fitsE a).2 = 0) : (fitsE a).1 = a := by
  unfold fitsE at *
  split at h
  · cases h
  · split at h
    · rename_i h1 h2; rw [if_neg h1, if_pos h2]
    · cases h
theorem map_sc_one (l : List Entry) : l.map (sc 1) = l := by
  conv => rhs; rw [← List.map_id l]
  refine List.map_congr_left fun e _ => ?_
  show (⟨e.row, 1 * e.count⟩ : Entry) = e
  rw [Int.one_mul]
theorem Tiny.win {n w : Nat} {b : List Entry} (h : Tiny n w b) : within (n : Int) b := fun e he => by
  have h1 := absS_mem he
  have h2 := h.s
  omega
theorem Tiny.len9 {n w : Nat} {b : List Entry} (h : Tiny n w b) : b.length ≤ n :=
  Nat.le_trans (absS_len (sorted_of_valid h.v).nz) h.s
theorem addT9 {a b : List Entry} {A B w : Nat} (ha : Tiny A w a) (hb : Tiny B w b) (hn : A + B ≤ 4096) : ∃ s, addE 1 a b = (s, 0) ∧ Tiny (A + B) w s ∧ ∀ g, wS g s = wS g a + wS g b := by
  have la := ha.len9
  have lb := hb.len9
  obtain ⟨h1, h2, _⟩ := addE_small (s := 1) (.inl rfl) ha.v hb.v ha.win hb.win (by omega) (by omega) (by omega) (by omega)
  have he : addE 1 a b = fitsE (mergeE a b) := by rw [addE, if_pos ⟨ha.v, hb.v⟩, map_sc_one]
  rw [he] at h1 h2 ⊢
  have hf := fitsE_ok h1
  rw [hf] at h2
  refine ⟨mergeE a b, Prod.ext hf h1, ⟨h2, fun e hm => ?_, ?_⟩, fun g => wS_mergeE g a b ha.cl hb.cl⟩
  · obtain ⟨x, hx, hr⟩ := mem_mergeE a b e hm
    rw [← hr]
    rcases hx with hx | hx
    · exact ha.w x hx
    · exact hb.w x hx
  · have := absS_mergeE a b
    have h3 := ha.s
    have h4 := hb.s
    omega
theorem wS_negate (g : List Val → Int) (b : List Entry) : wS g (b.map (sc (-1))) = - wS g b := by
  induction b with
  | nil => rfl
  | cons e b ih =>
    rw [List.map_cons, wS, wS, ih]
    show (-1 * e.count) * g e.row + _ = _
    rw [show (-1 : Int) * e.count = -e.count by omega, Int.neg_mul]
    omega
theorem negT9 {b : List Entry} {B w : Nat} (hb : Tiny B w b) (hn : B ≤ 4096) : ∃ s, addE (-1) [] b = (s, 0) ∧ Tiny B w s ∧ ∀ g, wS g s = - wS g b := by
  have lb := hb.len9
  have ev : bagValid [] = true := rfl
  obtain ⟨h1, h2, _⟩ := addE_small (s := -1) (.inr rfl) (M := 0) ev hb.v (fun e he => by cases he) hb.win (by omega) (by omega) (by omega) (by simp; omega)
  have he : addE (-1) [] b = fitsE (b.map (sc (-1))) := by rw [addE, if_pos ⟨ev, hb.v⟩, mergeE_nil']
  rw [he] at h1 h2 ⊢
  have hf := fitsE_ok h1
  rw [hf] at h2
  refine ⟨b.map (sc (-1)), Prod.ext hf h1, ⟨h2, fun e hm => ?_, ?_⟩, fun g => ?_⟩
  · obtain ⟨x, hx, rfl⟩ := List.mem_map.1 hm
    exact hb.w x hx
  · have h3 := hb.s
    have : ∀ l : List Entry, absS (l.map (sc (-1))) = absS l := fun l => by
      induction l with
      | nil => rfl
      | cons e l ih => rw [List.map_cons, absS, absS, ih]; show (-1 * e.count).natAbs + _ = _; omega
    rw [this]; exact h3
  · exact wS_negate g b
theorem wS_bd {f : List Val → Int} {M : Nat} (hf : ∀ r, (f r).natAbs ≤ M) (l : List Entry) : (wS f l).natAbs ≤ M * absS l := by
  induction l with
  | nil => simp [wS, absS]
  | cons e l ih =>
    have h1 : (e.count * f e.row).natAbs ≤ M * e.count.natAbs := by
      rw [Int.natAbs_mul, Nat.mul_comm]
      exact Nat.mul_le_mul_right _ (hf e.row)
    rw [wS, absS, Nat.mul_add]
    omega
theorem suR_bd (kf : List Val → List Val) (k : List Val) (x : Agg) (r : List Val) : (atR kf k (suR x) r).natAbs ≤ 4294967296 := by
  have := val_range (evE_valid x.expr r)
  unfold atR suR
  repeat' split
  all_goals omega
theorem coR_bd (kf : List Val → List Val) (k : List Val) (x : Agg) (r : List Val) : (atR kf k (coR x) r).natAbs ≤ 1 := by
  unfold atR coR
  repeat' split
  all_goals omega
theorem oneR_bd (kf : List Val → List Val) (k : List Val) (r : List Val) : (atR kf k (fun _ => 1) r).natAbs ≤ 1 := by
  unfold atR
  dsimp only
  split <;> omega
theorem stT_bd {ag : List Agg} {kf : List Val → List Val} {b : List Entry} {n w : Nat} (h : Tiny n w b) (hn : n ≤ 1000) (k : List Val) : ((stT ag kf b k).count.natAbs ≤ 1000) ∧ (∀ z ∈ (stT ag kf b k).sums, z.natAbs ≤ 4294967296000) ∧ ∀ z ∈ (stT ag kf b k).some, z.natAbs ≤ 1000 := by
  have hs := h.s
  refine ⟨?_, fun z hz => ?_, fun z hz => ?_⟩
  · have := wS_bd (oneR_bd kf k) b
    show (wS _ b).natAbs ≤ 1000
    omega
  · obtain ⟨x, _, rfl⟩ := List.mem_map.1 hz
    have := wS_bd (suR_bd kf k x) b
    have h2 : 4294967296 * absS b ≤ 4294967296 * 1000 := Nat.mul_le_mul_left _ (by omega)
    omega
  · obtain ⟨x, _, rfl⟩ := List.mem_map.1 hz
    have := wS_bd (coR_bd kf k x) b
    omega
theorem stT_sml {ag : List Agg} {kf : List Val → List Val} {b : List Entry} {n w : Nat} (h : Tiny n w b) (hn : n ≤ 1000) (k : List Val) : SmlS (stT ag kf b k) := by
  obtain ⟨h1, h2, h3⟩ := stT_bd (ag := ag) (kf := kf) h hn k
  refine ⟨by unfold sml; omega, fun z hz => ?_, fun z hz => ?_⟩
  · have := h2 z hz; unfold sml; omega
  · have := h3 z hz; unfold sml; omega
theorem goodS_of {ag : List Agg} : ∀ {l : List Sta} {p : Option Sta}, (∀ s ∈ l, staOk ag s = true) → l.Pairwise sR → (∀ q, p = some q → ∀ s ∈ l, sR q s) → goodS ag p l = true
  | [], p, _, _, _ => by rw [goodS.eq_def]
  | e :: l, p, h, hs, hp => by
    obtain ⟨h1, h2⟩ := List.pairwise_cons.1 hs
    have ih := goodS_of (p := some e) (fun s hm => h s (by simp [hm])) h2 (fun q hq => by cases hq; exact h1)
    rw [goodS.eq_def]
    dsimp only
    rw [ih, h e (by simp), Bool.and_true, Bool.true_and]
    cases p with
    | none => rfl
    | some q =>
      have := hp q rfl e (by simp)
      exact decide_eq_true this
theorem tri_all {ag : List Agg} {f g : Agg → Int} {P : Agg × Int × Int → Bool} (h : ∀ x ∈ ag, P (x, f x, g x) = true) : (ag.zip ((ag.map f).zip (ag.map g))).all P = true := by
  induction ag with
  | nil => rfl
  | cons x ag ih =>
    rw [List.map_cons, List.map_cons, List.zip_cons_cons, List.zip_cons_cons, List.all_cons, h x (by simp), ih fun y hy => h y (by simp [hy])]; rfl
theorem stsE_ok {ag : List Agg} {keys : List Itm} {b : List Entry} {n w : Nat} (h : Tiny n w b) (hn : n ≤ 1000) (hk : keys.length ≤ 8) : stsOk ag (stsE ag (keyE keys) b) = true := by
  have hK : CleanK b (keyE keys) := fun e _ => keyE_clean keys e.row
  obtain ⟨u1, u2⟩ := stsE_up (ag := ag) hK
  have hl : (stsE ag (keyE keys) b).length ≤ b.length := by
    unfold stsE
    refine Nat.le_trans (List.length_filter_le _ _) ?_
    rw [List.length_map]; exact keysE_len b _ hK
  have hbl := h.len9
  unfold stsOk
  rw [goodS_of (fun s hs => ?_) u1 (by simp), Bool.and_true]
  · simp only [decide_eq_true_eq]; omega
  · obtain ⟨hm1, hm2⟩ := List.mem_filter.1 hs
    obtain ⟨k, hkm, rfl⟩ := List.mem_map.1 hm1
    obtain ⟨q1, q2, q3⟩ := stT_bd (ag := ag) (kf := keyE keys) h hn k
    have hz : (stT ag (keyE keys) b k).zero = false := by simpa [nzS] using hm2
    have hkl := (keysE_mem hkm).2
    have hkv : ∀ v ∈ k, v.valid = true := fun v hv => by
      obtain ⟨_, _, h3⟩ := keys_says hK
      obtain ⟨e, _, rfl⟩ := (h3 k).1 hkm
      obtain ⟨it, _, rfl⟩ := List.mem_map.1 hv
      exact evE_valid ..
    have hr : rowOK (stT ag (keyE keys) b k).key = true := by
      simp only [rowOK, Bool.and_eq_true, decide_eq_true_eq, List.all_eq_true]
      exact ⟨by show k.length ≤ _; omega, hkv⟩
    have hnum : numsOk ag (stT ag (keyE keys) b k) = true := by
      unfold numsOk
      rw [hz, show (stT ag (keyE keys) b k).sums.length = ag.length from List.length_map .., show (stT ag (keyE keys) b k).some.length = ag.length from List.length_map .., decide_eq_true rfl, (inW_iff _ _).2 (by omega)]
      simp only [Bool.true_and, Bool.not_false]
      refine tri_all fun x hx => ?_
      have b1 := q2 _ (List.mem_map.2 ⟨x, hx, rfl⟩)
      have b2 := q3 _ (List.mem_map.2 ⟨x, hx, rfl⟩)
      unfold triOk
      dsimp only
      rw [(inW_iff _ _).2 (by omega), (inW_iff _ _).2 (by omega), Bool.true_and, Bool.true_and]
      by_cases hf : x.func = 0
      · have s0 : wS (atR (keyE keys) k (suR x)) b = 0 := by
          rw [wS_congr (g := fun _ => 0) fun e _ => ?_, wS_zero]
          unfold atR suR
          rw [if_neg (show ¬ x.func = 1 by omega)]; simp
        have c0 : wS (atR (keyE keys) k (coR x)) b = 0 := by
          rw [wS_congr (g := fun _ => 0) fun e _ => ?_, wS_zero]
          unfold atR coR
          rw [if_neg (show ¬ x.func = 1 by omega)]; simp
        rw [s0, c0]; simp
      · simp [hf]
    unfold staOk
    rw [hr, hnum, Bool.and_true, Bool.and_true]
    simp only [decide_eq_true_eq]
    show k.length ≤ 8
    omega
theorem statesE_tiny {ag : List Agg} {keys : List Itm} {b : List Entry} {n w : Nat} (h : Tiny n w b) (h8 : keys.length + ag.length ≤ 8) (hx : exactE ag = true) : statesE b keys ag = (stsE ag (keyE keys) b, 0) := by
  unfold statesE
  rw [if_pos ⟨h.v, h8, hx⟩, stsE_says]
theorem correct_tiny {ag : List Agg} {keys : List Itm} {a d s : List Entry} {A D S w : Nat} (ha : Tiny A w a) (hd : Tiny D w d) (hs : Tiny S w s) (hA : A ≤ 1000) (hD : D ≤ 1000) (hS : S ≤ 1000) (h8 : keys.length + ag.length ≤ 8) (hx : exactE ag = true) (hw : ∀ g, wS g s = wS g a + wS g d) : correctE (stsE ag (keyE keys) a) d keys ag = (stsE ag (keyE keys) s, 0) := by
  have hm := merge_states (ag := ag) (kf := keyE keys) hw (fun e _ => keyE_clean keys e.row) (fun e _ => keyE_clean keys e.row) (fun e _ => keyE_clean keys e.row) (stT_sml ha hA) (stT_sml hd hD)
  have ok := stsE_ok (ag := ag) (keys := keys) hs hS (by omega)
  have hl := (stsOk_says ok).1
  unfold correctE
  rw [statesE_tiny hd h8 hx, hm, if_pos (stsE_ok ha hA (by omega)), if_pos rfl, if_pos hl, if_pos ok]
theorem wS_nn {f : List Val → Int} (hf : ∀ r, 0 ≤ f r) {b : List Entry} (hp : ∀ e ∈ b, 0 < e.count) : 0 ≤ wS f b := by
  induction b with
  | nil => exact Int.le_refl _
  | cons e b ih =>
    have h1 := ih fun x hx => hp x (by simp [hx])
    have h2 := Int.mul_nonneg (Int.le_of_lt (hp e (by simp))) (hf e.row)
    rw [wS]; omega
theorem wS_mono {f g : List Val → Int} (hf : ∀ r, f r ≤ g r) {b : List Entry} (hp : ∀ e ∈ b, 0 < e.count) : wS f b ≤ wS g b := by
  induction b with
  | nil => exact Int.le_refl _
  | cons e b ih =>
    have h1 := ih fun x hx => hp x (by simp [hx])
    have h2 := Int.mul_le_mul_of_nonneg_left (hf e.row) (Int.le_of_lt (hp e (by simp)))
    rw [wS, wS]; omega
theorem wS_pos {f : List Val → Int} (hf : ∀ r, 0 ≤ f r) {b : List Entry} (hp : ∀ e ∈ b, 0 < e.count) {x : Entry} (hx : x ∈ b) (h1 : f x.row = 1) : 0 < wS f b := by
  induction b with
  | nil => cases hx
  | cons e b ih =>
    have hp2 : ∀ y ∈ b, 0 < y.count := fun y hy => hp y (by simp [hy])
    rw [wS]
    rcases List.mem_cons.1 hx with rfl | hx
    · have := wS_nn hf hp2
      have := hp x (by simp)
      rw [h1]; omega
    · have h2 := ih hp2 hx
      have h3 := Int.mul_nonneg (Int.le_of_lt (hp e (by simp))) (hf e.row)
      omega
theorem tri_map {β : Type} {ag : List Agg} {f g : Agg → Int} (F : Agg × Int × Int → β) : (ag.zip ((ag.map f).zip (ag.map g))).map F = ag.map fun x => F (x, f x, g x) := by
  induction ag with
  | nil => rfl
  | cons x ag ih => rw [List.map_cons, List.map_cons, List.zip_cons_cons, List.zip_cons_cons, List.map_cons, ih]; rfl
theorem show_tiny {ag : List Agg} {keys : List Itm} {b : List Entry} {n w : Nat} (h : Tiny n w b) (hn : n ≤ 1000) (h8 : keys.length + ag.length ≤ 8) (hx : exactE ag = true) (hp : ∀ e ∈ b, 0 < e.count) :
    (stsE ag (keyE keys) b).map (shE ag) = (keysE b (keyE keys)).map (grE ag keys b) ∧ ∀ s ∈ stsE ag (keyE keys) b, s.key.length + ag.length ≤ 8 ∧ s.sums.length = ag.length ∧ s.some.length = ag.length ∧ 0 < s.count ∧ s.count ≤ 1073741824 ∧ ∀ z ∈ s.some, 0 ≤ z ∧ z ≤ s.count := by
  have hK : CleanK b (keyE keys) := fun e _ => keyE_clean keys e.row
  obtain ⟨_, _, k3⟩ := keys_says hK
  have o1 : ∀ (k r : List Val), 0 ≤ atR (keyE keys) k (fun _ => 1) r := fun k r => by unfold atR; dsimp only; split <;> omega
  have hpos : ∀ k ∈ keysE b (keyE keys), 0 < (stT ag (keyE keys) b k).count := fun k hk => by
    obtain ⟨e, he, rfl⟩ := (k3 k).1 hk
    refine wS_pos (o1 _) hp he ?_
    unfold atR
    rw [if_pos (rowCmp_ok.refl _)]
  have hall : stsE ag (keyE keys) b = (keysE b (keyE keys)).map (stT ag (keyE keys) b) := by
    unfold stsE
    refine List.filter_eq_self.2 fun s hs => ?_
    obtain ⟨k, hk, rfl⟩ := List.mem_map.1 hs
    have := hpos k hk
    unfold nzS Sta.zero
    rw [decide_eq_false (by omega), Bool.false_and, Bool.false_and]; rfl
  rw [hall]
  refine ⟨?_, fun s hs => ?_⟩
  · rw [List.map_map]
    refine List.map_congr_left fun k hk => ?_
    show (⟨k ++ (ag.zip ((ag.map fun x => wS (atR (keyE keys) k (suR x)) b).zip (ag.map fun x => wS (atR (keyE keys) k (coR x)) b))).map (shV (wS (atR (keyE keys) k fun _ => 1) b)), 1⟩ : Entry) = ⟨k ++ ag.map fun x => foldE x.func (valsE x (b.filter (atK (keyE keys) k))), 1⟩
    rw [tri_map]
    congr 2
    refine List.map_congr_left fun x hxm => ?_
    have hf := List.all_eq_true.1 hx x hxm
    simp only [decide_eq_true_eq] at hf
    have e1 : nE (b.filter (atK (keyE keys) k)) = wS (atR (keyE keys) k fun _ => 1) b := by rw [nE_w, wS_atR]
    have e2 : suE (b.filter (atK (keyE keys) k)) x = wS (atR (keyE keys) k (suR x)) b := by rw [suE_w, wS_atR]
    have e3 : coE (b.filter (atK (keyE keys) k)) x = wS (atR (keyE keys) k (coR x)) b := by rw [coE_w, wS_atR]
    rw [← e1, ← e2, ← e3]
    unfold shV foldE
    dsimp only
    rcases hf with hf | hf
    · rw [if_pos hf, if_pos hf]
      congr 1
      unfold nE ttl valsE
      rw [List.map_map]; rfl
    · rw [if_neg (show ¬ x.func = 0 by omega), if_neg (show ¬ x.func = 0 by omega), if_pos hf]
      unfold suE coE
      rw [if_pos hf, if_pos hf]
  · obtain ⟨k, hk, rfl⟩ := List.mem_map.1 hs
    have hb := stT_bd (ag := ag) (kf := keyE keys) h hn k
    have hc := hpos k hk
    refine ⟨?_, List.length_map .., List.length_map .., hc, by omega, fun z hz => ?_⟩
    · show k.length + ag.length ≤ 8
      rw [(keysE_mem hk).2]; exact h8
    · obtain ⟨x, _, rfl⟩ := List.mem_map.1 hz
      have c1 : ∀ r, 0 ≤ coR x r ∧ coR x r ≤ 1 := fun r => by
        unfold coR
        repeat' split
        all_goals omega
      refine ⟨wS_nn (fun r => ?_) hp, wS_mono (fun r => ?_) hp⟩
      · have := c1 r
        unfold atR; split <;> omega
      · have := c1 r
        show atR (keyE keys) k (coR x) r ≤ atR (keyE keys) k (fun _ => 1) r
        unfold atR; dsimp only; split <;> omega
end Go.Proofs.YtojfhaoleedmkaaGreat
end
