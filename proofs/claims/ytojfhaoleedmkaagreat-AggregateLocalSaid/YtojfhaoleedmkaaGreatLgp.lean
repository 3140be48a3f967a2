/-
  Aggregates, plain: the rows of groups.
-/
import Derived.Test.YtojfhaoleedmkaaGreatRgd
import Derived.Test.YtojfhaoleedmkaaGreatAgw
namespace Go.Proofs.YtojfhaoleedmkaaGreat
open Go.Abs Go.RowKit
set_option linter.unusedSimpArgs false
set_option maxRecDepth 100000
theorem nthE_mem : ∀ (S : List (Val × Int)) (i : Int), nthE S i = Val.null ∨ ∃ x ∈ S, x.1 = nthE S i
  | [], _ => .inl rfl
  | x :: S, i => by
    rw [nthE]
    split
    · exact .inr ⟨x, by simp, rfl⟩
    · rcases nthE_mem S (i - x.2) with h | ⟨y, hy, h⟩
      · exact .inl h
      · exact .inr ⟨y, by simp [hy], h⟩
theorem foldE_valid (f : Int) {L : List (Val × Int)} (h : ∀ x ∈ L, x.1.valid = true) : (foldE f L).valid = true := by
  have hA : ∀ i, (nthE (ascE L) i).valid = true := fun i => by
    rcases nthE_mem (ascE L) i with h1 | ⟨x, hx, h1⟩
    · rw [h1]; exact nullV
    · rw [← h1]; exact h x (List.mem_filter.1 ((ascE_perm L).mem_iff.1 hx)).1
  have hI : ∀ n, (Val.ofInt n).valid = true := fun n => by unfold Val.ofInt; exact clean_valid' _
  unfold foldE
  repeat' split
  all_goals first
    | exact hI _
    | exact nullV
    | exact hA _
theorem rowCmp_app : ∀ {a b x y : List Val}, a.length = b.length → rowCmp a b < 0 → rowCmp (a ++ x) (b ++ y) < 0
  | [], [], _, _, _, h => by simp [rowCmp] at h
  | u :: a, v :: b, x, y, hl, h => by
    rw [List.cons_append, List.cons_append, rowCmp]
    rw [rowCmp] at h
    split
    · rename_i q
      rw [if_pos q] at h
      exact rowCmp_app (by simpa using hl) h
    · rename_i q
      rw [if_neg q] at h; exact h
  | [], _ :: _, _, _, hl, _ => by simp at hl
  | _ :: _, [], _, _, hl, _ => by simp at hl
theorem keyE_val (keys : List Itm) (row : List Val) : ∀ v ∈ keyE keys row, v.valid = true := fun v hv => by
  obtain ⟨it, _, rfl⟩ := List.mem_map.1 hv
  exact evE_valid ..
theorem grpRow_val {ag : List Agg} {keys : List Itm} {b : List Entry} {k : List Val} (hk : k ∈ keysE b (keyE keys)) (es : List Entry) : ∀ v ∈ grpRow ag (k, es), v.valid = true := fun v hv => by
  obtain ⟨_, _, h3⟩ := keys_says (b := b) (kf := keyE keys) fun e _ => keyE_clean keys e.row
  rcases List.mem_append.1 hv with hv | hv
  · obtain ⟨e, _, rfl⟩ := (h3 k).1 hk
    exact keyE_val keys e.row v hv
  · obtain ⟨x, _, rfl⟩ := List.mem_map.1 hv
    refine foldE_valid _ fun y hy => ?_
    obtain ⟨e, _, rfl⟩ := List.mem_map.1 hy
    exact vlE_valid x e
theorem rows_valid {ag : List Agg} {keys : List Itm} {b : List Entry} (hl : b.length ≤ 4096) (h8 : keys.length + ag.length ≤ 8) : bagValid ((keysE b (keyE keys)).map (grE ag keys b)) = true := by
  have hK : CleanK b (keyE keys) := fun e _ => keyE_clean keys e.row
  obtain ⟨h1, _, _⟩ := keys_says hK
  have hlen := keysE_len b _ hK
  rw [bagValid, good_of (fun e he => ?_) ?_ (by simp), Bool.and_true]
  · simp only [decide_eq_true_eq, List.length_map]; omega
  · rw [List.pairwise_map]
    refine List.Pairwise.imp_of_mem (fun {x y} hx hy h => ?_) h1
    exact rowCmp_app (by rw [(keysE_mem hx).2, (keysE_mem hy).2]) h
  · obtain ⟨k, hk, rfl⟩ := List.mem_map.1 he
    have q1 : rowOK (grE ag keys b k).row = true := by
      simp only [rowOK, Bool.and_eq_true, decide_eq_true_eq, List.all_eq_true]
      refine ⟨?_, grpRow_val hk _⟩
      show (grpRow ag (k, _)).length ≤ _
      rw [grpRow_len, (keysE_mem hk).2]
      omega
    simp only [Entry.ok, q1, Bool.true_and]
    show (countOK 1 && decide ((1 : Int) ≠ 0)) = true
    decide
theorem group_rows {ag : List Agg} {keys : List Itm} {b : List Entry} (hp : positiveE b = true) (h8 : keys.length + ag.length ≤ 8) : groupE b keys ag = ((keysE b (keyE keys)).map (grE ag keys b), 0) := by
  rw [groupE_keys ⟨hp, h8⟩]
  exact norm_valid (rows_valid (valid_mem (pos_mem hp).1).1 h8)
theorem filter_pos {b : List Entry} (p : Entry → Bool) (h : positiveE b = true) : positiveE (b.filter p) = true := by
  obtain ⟨h1, h2⟩ := pos_mem h
  obtain ⟨h3, h4⟩ := valid_mem h1
  have hs := sorted_of_valid h1
  have hl := List.length_filter_le p b
  unfold positiveE
  rw [bagValid, good_of (fun e he => ?_) (List.Pairwise.sublist List.filter_sublist hs.up) (by simp), Bool.and_true, Bool.and_eq_true, List.all_eq_true]
  · refine ⟨by simp only [decide_eq_true_eq]; omega, fun e he => ?_⟩
    have := h2 e (List.mem_filter.1 he).1
    simp only [decide_eq_true_eq]; omega
  · obtain ⟨q1, q2, q3⟩ := h4 e (List.mem_filter.1 he).1
    simp only [Entry.ok, q1, countOK, Bool.true_and, Bool.and_eq_true, decide_eq_true_eq]
    omega
theorem group_part {ag : List Agg} {keys : List Itm} {b : List Entry} {k : List Val} (hp : positiveE b = true) (h8 : keys.length + ag.length ≤ 8) (hk : k ∈ keysE b (keyE keys)) : groupE (b.filter (kP keys k)) keys ag = ([grE ag keys b k], 0) := by
  have hK : CleanK b (keyE keys) := fun e _ => keyE_clean keys e.row
  obtain ⟨h1, h2, h3⟩ := keys_says hK
  have hc := h2 k hk
  rw [kP_atK hc]
  obtain ⟨e, he, hek⟩ := (h3 k).1 hk
  have hem : e ∈ b.filter (atK (keyE keys) k) := List.mem_filter.2 ⟨he, (atK_iff hK he hc).2 hek⟩
  have hall : ∀ x ∈ b.filter (atK (keyE keys) k), keyE keys x.row = k := fun x hx => by
    obtain ⟨q1, q2⟩ := List.mem_filter.1 hx
    exact (atK_iff hK q1 hc).1 q2
  have hg := grpE_one (kf := keyE keys) (b := b.filter (atK (keyE keys) k)) (k := k) (fun x _ => keyE_clean keys x.row) (fun q => by rw [q] at hem; cases hem) hall
  have hv := rows_valid (ag := ag) (keys := keys) (valid_mem (pos_mem hp).1).1 h8
  unfold groupE
  rw [if_pos ⟨filter_pos _ hp, h8⟩, hg, List.map_singleton]
  show normE [grE ag keys b k] = _
  refine norm_valid ?_
  have hm : grE ag keys b k ∈ (keysE b (keyE keys)).map (grE ag keys b) := List.mem_map.2 ⟨k, hk, rfl⟩
  obtain ⟨q1, q2, q3⟩ := (valid_mem hv).2 _ hm
  rw [bagValid, good_of (fun e he => ?_) (List.pairwise_singleton ..) (by simp)]
  · simp
  · rw [List.mem_singleton] at he
    subst he
    simp only [Entry.ok, q1, countOK, Bool.true_and, Bool.and_eq_true, decide_eq_true_eq]
    omega
theorem nE_cons (e : Entry) (b : List Entry) : nE (e :: b) = e.count + nE b := by simp [nE]
theorem nE_filter_cons (p : Entry → Bool) (e : Entry) (b : List Entry) : nE ((e :: b).filter p) = (if p e = true then e.count else 0) + nE (b.filter p) := by
  rw [List.filter_cons]
  split
  · exact nE_cons ..
  · omega
theorem sum_one {k : List Val} {c : Int} : ∀ {l : List (List Val)}, l.Pairwise kR → k ∈ l → (∀ x ∈ l, rowClean x) → rowClean k → (l.map fun x => if rowCmp k x = 0 then c else 0).sum = c
  | [], _, h, _, _ => by cases h
  | x :: l, hp, h, hc, hk => by
    obtain ⟨p1, p2⟩ := List.pairwise_cons.1 hp
    rw [List.map_cons, List.sum_cons]
    by_cases he : k = x
    · subst he
      rw [if_pos (rowCmp_ok.refl _), sum_zero fun y hy => if_neg fun q => ?_]
      · omega
      · have := p1 y hy
        unfold kR at this
        omega
    · have hx : ¬ rowCmp k x = 0 := fun q => he (clean_eq hk (hc x (by simp)) q)
      rw [if_neg hx, sum_one p2 (by rcases List.mem_cons.1 h with q | q; exact absurd q he; exact q) (fun y hy => hc y (by simp [hy])) hk]
      omega
theorem sum_add {α : Type} (f g : α → Int) (l : List α) : (l.map fun x => f x + g x).sum = (l.map f).sum + (l.map g).sum := by
  induction l with
  | nil => rfl
  | cons x l ih => simp only [List.map_cons, List.sum_cons, ih]; omega
theorem sum_parts {kf : List Val → List Val} {l : List (List Val)} (hp : l.Pairwise kR) (hc : ∀ x ∈ l, rowClean x) : ∀ {b : List Entry}, CleanK b kf → (∀ e ∈ b, kf e.row ∈ l) → (l.map fun k => nE (b.filter (atK kf k))).sum = nE b
  | [], _, _ => sum_zero fun _ _ => rfl
  | e :: b, hk, hm => by
    have ih := sum_parts (b := b) hp hc (fun x hx => hk x (by simp [hx])) fun x hx => hm x (by simp [hx])
    have h1 : (fun k => nE ((e :: b).filter (atK kf k))) = fun k => (if rowCmp (kf e.row) k = 0 then e.count else 0) + nE (b.filter (atK kf k)) := by
      funext k
      rw [nE_filter_cons]
      unfold atK
      simp only [decide_eq_true_eq]
    rw [h1, sum_add, sum_one hp (hm e (by simp)) hc (hk e (by simp)), ih, nE_cons]
end Go.Proofs.YtojfhaoleedmkaaGreat
