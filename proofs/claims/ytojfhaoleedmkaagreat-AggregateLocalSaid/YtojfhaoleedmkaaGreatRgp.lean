/-
  Aggregates, plain: the document's values of a group are the program's.
-/
import Derived.Test.YtojfhaoleedmkaaGreatRgc
import Derived.Test.YtojfhaoleedmkaaGreatRgn
namespace Go.Proofs.YtojfhaoleedmkaaGreat
open Go.Abs Go.RowKit
set_option linter.unusedSimpArgs false
set_option maxRecDepth 100000
theorem ttl_perm {L L' : List (Val × Int)} (h : L.Perm L') : ttl L = ttl L' := sum_perm h
theorem sumV_perm {L L' : List (Val × Int)} (h : L.Perm L') : sumV L = sumV L' := sum_perm h
theorem cntV_perm {L L' : List (Val × Int)} (h : L.Perm L') : cntV L = cntV L' := sum_perm h
theorem nnE_perm {L L' : List (Val × Int)} (h : L.Perm L') : (nnE L).Perm (nnE L') := h.filter _
theorem nth_asc_perm {L L' : List (Val × Int)} (h : L.Perm L') (hp : PosC L) (hc : ValC L) {i : Int} (h0 : 0 ≤ i) (h1 : i < ttl (nnE L)) : nthE (ascE L) i = nthE (ascE L') i := by
  have hpm : (ascE L).Perm (ascE L') := (ascE_perm L).trans ((nnE_perm h).trans (ascE_perm L').symm)
  refine nth_perm (ascE_asc L) (ascE_asc L') (fun x hx => hp x (List.mem_filter.1 ((ascE_perm L).mem_iff.1 hx)).1) hpm (fun x hx => hc x (List.mem_filter.1 ((ascE_perm L).mem_iff.1 hx)).1) h0 ?_
  rw [ttl_perm (ascE_perm L)]; exact h1
theorem foldE_perm {L L' : List (Val × Int)} (h : L.Perm L') (hp : PosC L) (hc : ValC L) (f : Int) : foldE f L = foldE f L' := by
  have hP : PosC (nnE L) := fun x hx => hp x (List.mem_filter.1 hx).1
  have e1 := ttl_perm h
  have e2 := cntV_perm h
  have e3 := sumV_perm h
  have e4 := ttl_perm (nnE_perm h)
  have e5 : nnE L = [] ↔ nnE L' = [] := by
    have := (nnE_perm h).length_eq
    rw [← List.length_eq_zero_iff, ← List.length_eq_zero_iff, this]
  unfold foldE
  rw [← e1, ← e2, ← e3, ← e4]
  by_cases hn : nnE L = []
  · have hn' := e5.1 hn
    rw [if_pos hn, if_pos hn, if_pos hn, if_pos hn', if_pos hn', if_pos hn']
  · have hn' : ¬ nnE L' = [] := fun q => hn (e5.2 q)
    have hpos := ttl_pos hP hn
    rw [if_neg hn, if_neg hn, if_neg hn, if_neg hn', if_neg hn', if_neg hn', nth_asc_perm h hp hc (i := 0) (by omega) (by omega), nth_asc_perm h hp hc (i := ttl (nnE L) - 1) (by omega) (by omega), nth_asc_perm h hp hc (i := (ttl (nnE L) - 1) / 2) (by omega) (by omega)]
theorem foldE_zero {L L' : List (Val × Int)} (h : ttl L = ttl L') : foldE 0 L = foldE 0 L' := by
  unfold foldE; rw [if_pos rfl, if_pos rfl, h]
def exC (ex : List Trm) (e : Entry) : Val × Int := (evE ex e.row, e.count)
theorem vcs_ex (ex : List Trm) (l : List Entry) : vcs (l.map (exF ex)) = l.map (exC ex) := by
  unfold vcs; rw [List.map_map]; rfl
theorem valI_vcs (p : Entry → Bool) (ex : List Trm) (b : List Entry) : (vcs (valI p (exF ex) b)).Perm ((b.filter p).map (exC ex)) := by
  rw [← vcs_ex]; exact (valI_says p (exF ex) b).2.map _
theorem kP_atK {keys : List Itm} {b : List Entry} {key : List Val} (hc : rowClean key) : b.filter (kP keys key) = b.filter (atK (keyE keys) key) := by
  refine List.filter_congr fun e he => ?_
  have h1 := atK_iff (b := b) (kf := keyE keys) (fun e _ => keyE_clean keys e.row) he hc
  rw [Bool.eq_iff_iff, h1]
  exact sr_iff
theorem exC_valid (ex : List Trm) (e : Entry) : (exC ex e).1.valid = true := evE_valid ..
theorem ex_bnd {ex : List Trm} {es : List Entry} (hl : es.length ≤ 4096) (hc : ∀ e ∈ es, -262144 ≤ e.count ∧ e.count ≤ 262144) : Bnd (es.map (exC ex)) := by
  refine ⟨by rw [List.length_map]; exact hl, fun y hy => ?_⟩
  obtain ⟨e, he, rfl⟩ := List.mem_map.1 hy
  exact ⟨val_range (exC_valid ex e), hc e he⟩
theorem ex_pos {ex : List Trm} {es : List Entry} (hc : ∀ e ∈ es, 0 < e.count) : PosC (es.map (exC ex)) := fun y hy => by
  obtain ⟨e, he, rfl⟩ := List.mem_map.1 hy
  exact hc e he
theorem ex_val (ex : List Trm) (es : List Entry) : ValC (es.map (exC ex)) := fun y hy => by
  obtain ⟨e, he, rfl⟩ := List.mem_map.1 hy
  unfold Val.clean
  rw [if_pos (exC_valid ex e)]
theorem bnd_perm {L L' : List (Val × Int)} (h : L.Perm L') (hb : Bnd L') : Bnd L := ⟨by rw [h.length_eq]; exact hb.1, fun x hx => hb.2 x (h.mem_iff.1 hx)⟩
theorem valI_asc (p : Entry → Bool) (ex : List Trm) (b : List Entry) : AscV (vcs (valI p (exF ex) b)) := by
  obtain ⟨h1, h2⟩ := valI_says p (exF ex) b
  unfold AscV vcs
  rw [List.pairwise_map]
  refine List.Pairwise.imp_of_mem (fun {x y} hx hy h => ?_) h1
  obtain ⟨a, _, rfl⟩ := List.mem_map.1 (h2.mem_iff.1 hx)
  obtain ⟨c, _, rfl⟩ := List.mem_map.1 (h2.mem_iff.1 hy)
  intro q
  refine h ?_
  have q : (evE ex c.row).cmp (evE ex a.row) < 0 := q
  show rowCmp [evE ex c.row] [evE ex a.row] < 0
  rw [rowCmp]
  split <;> first | exact q | (exfalso; omega)
theorem grp_vals {keys : List Itm} {b : List Entry} {key : List Val} (hc : rowClean key) (hl : b.length ≤ 4096) (hb : ∀ e ∈ b, -262144 ≤ e.count ∧ e.count ≤ 262144) (ex : List Trm) :
    Bnd (vcs (valI (kP keys key) (exF ex) b)) ∧ AscV (vcs (valI (kP keys key) (exF ex) b)) ∧ ValC (vcs (valI (kP keys key) (exF ex) b)) ∧ (vcs (valI (kP keys key) (exF ex) b)).Perm ((b.filter (atK (keyE keys) key)).map (exC ex)) := by
  have h := valI_vcs (kP keys key) ex b
  rw [kP_atK hc] at h
  refine ⟨bnd_perm h (ex_bnd (Nat.le_trans (List.length_filter_le _ _) hl) fun e he => hb e (List.mem_filter.1 he).1), valI_asc .., fun x hx => ex_val ex _ x (h.mem_iff.1 hx), h⟩
theorem grp_fold {keys : List Itm} {b : List Entry} {key : List Val} (hc : rowClean key) (hl : b.length ≤ 4096) (hb : ∀ e ∈ b, -262144 ≤ e.count ∧ e.count ≤ 262144) (hp : ∀ e ∈ b, 0 < e.count) (x : Agg) :
    PosC (vcs (valI (kP keys key) (exF x.expr) b)) ∧ foldE x.func (vcs (valI (kP keys key) (exF x.expr) b)) = foldE x.func (valsE x (b.filter (atK (keyE keys) key))) := by
  obtain ⟨h1, h2, h3, h4⟩ := grp_vals (keys := keys) hc hl hb x.expr
  have hP : PosC (vcs (valI (kP keys key) (exF x.expr) b)) := fun y hy => ex_pos (ex := x.expr) (fun e he => hp e (List.mem_filter.1 he).1) y (h4.mem_iff.1 hy)
  refine ⟨hP, ?_⟩
  rw [foldE_perm h4 hP h3]
  by_cases hf : x.func = 0
  · rw [hf]
    refine foldE_zero ?_
    unfold ttl valsE
    rw [List.map_map, List.map_map]; rfl
  · congr 1
    unfold valsE
    refine List.map_congr_left fun e _ => ?_
    unfold vlE exC
    rw [if_neg hf]
theorem grp_sums {keys : List Itm} {b : List Entry} {key : List Val} (hc : rowClean key) (hl : b.length ≤ 4096) (hb : ∀ e ∈ b, -262144 ≤ e.count ∧ e.count ≤ 262144) {x : Agg} (hf : x.func = 1) :
    sumV (vcs (valI (kP keys key) (exF x.expr) b)) = suE (b.filter (atK (keyE keys) key)) x ∧ cntV (vcs (valI (kP keys key) (exF x.expr) b)) = coE (b.filter (atK (keyE keys) key)) x := by
  obtain ⟨_, _, _, h4⟩ := grp_vals (keys := keys) hc hl hb x.expr
  have he : (b.filter (atK (keyE keys) key)).map (exC x.expr) = valsE x (b.filter (atK (keyE keys) key)) := by
    unfold valsE
    refine List.map_congr_left fun e _ => ?_
    unfold vlE exC
    rw [if_neg (by omega)]
  unfold suE coE
  rw [if_pos hf, if_pos hf, sumV_perm h4, cntV_perm h4, he]
  exact ⟨rfl, rfl⟩
theorem grp_count {keys : List Itm} {b : List Entry} {key : List Val} (hc : rowClean key) (ex : List Trm) : nE (valI (kP keys key) (exF ex) b) = nE (b.filter (atK (keyE keys) key)) := by
  have h := (valI_says (kP keys key) (exF ex) b).2
  rw [kP_atK hc] at h
  unfold nE
  rw [sum_perm h, List.map_map]; rfl
end Go.Proofs.YtojfhaoleedmkaaGreat
