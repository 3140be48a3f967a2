/-
  The cache, plain: what Lookup keeps, the order of its entries.
-/
import Derived.Test.YtmejclckkmpggaaCag
import Derived.Test.YtmejclckkmpggaaTov
import Derived.Test.YtmejclckkmpggaaCae
import Derived.Test.YtmejclckkmpggaaNmv
namespace Go.Proofs.Ytmejclckkmpggaa
open Go.Abs Go.RowKit
set_option linter.unusedSimpArgs false

def cR (x y : Cach) : Prop := x.val.cmp y.val < 0
theorem cR_tr (a b c : Cach) (h1 : cR a b) (h2 : cR b c) : cR a c := cmp_ok.trans _ _ _ h1 h2
theorem goodC_of : ∀ {l : List Cach} {p : Option Cach}, (∀ e ∈ l, e.ok = true) → l.Pairwise cR → (∀ q, p = some q → ∀ e ∈ l, cR q e) → goodC p l = true
  | [], _, _, _, _ => rfl
  | x :: l, p, h, hs, hp => by
    obtain ⟨h1, h2⟩ := List.pairwise_cons.1 hs
    have ih := goodC_of (p := some x) (fun e he => h e (by simp [he])) h2 (fun q hq => by cases hq; exact h1)
    simp only [goodC, Bool.and_eq_true]
    refine ⟨⟨h x (by simp), ?_⟩, ih⟩
    cases p with
    | none => rfl
    | some q => exact decide_eq_true (hp q rfl x (by simp))
theorem goodC_pw : ∀ {l : List Cach} {p : Option Cach}, goodC p l = true → l.Pairwise cR ∧ ∀ q, p = some q → ∀ e ∈ l, cR q e
  | [], _, _ => ⟨.nil, fun _ _ e he => absurd he (List.not_mem_nil)⟩
  | x :: l, p, h => by
    simp only [goodC, Bool.and_eq_true] at h
    obtain ⟨⟨_, h1⟩, h2⟩ := h
    obtain ⟨i1, i2⟩ := goodC_pw h2
    refine ⟨List.pairwise_cons.2 ⟨i2 x rfl, i1⟩, fun q hq e he => ?_⟩
    subst hq
    have hqx : cR q x := by unfold cR; exact of_decide_eq_true h1
    rcases List.mem_cons.1 he with rfl | he
    · exact hqx
    · exact cR_tr _ _ _ hqx (i2 x rfl e he)
theorem validC_iff {l : List Cach} : validC l = true ↔ l.length ≤ 16 ∧ (∀ e ∈ l, e.ok = true) ∧ l.Pairwise cR := by
  simp only [validC, Bool.and_eq_true, decide_eq_true_eq]
  exact ⟨fun h => ⟨h.1, goodC_mem h.2, (goodC_pw h.2).1⟩, fun h => ⟨h.1, goodC_of h.2.1 h.2.2 (fun q hq => by cases hq)⟩⟩
theorem validC_sub {l m : List Cach} (h : validC l = true) (hm : m.Sublist l) : validC m = true := by
  rw [validC_iff] at h ⊢
  exact ⟨Nat.le_trans hm.length_le h.1, fun e he => h.2.1 e (hm.subset he), h.2.2.sublist hm⟩

theorem ok_clean {x : Cach} (h : x.ok = true) : x.val.clean = x.val := by
  simp only [Cach.ok, Bool.and_eq_true] at h
  rw [Val.clean, if_pos h.1.1]

theorem good_pw : ∀ {l : List Entry} {p : Option Entry}, goodFrom p l = true → l.Pairwise eR ∧ ∀ q, p = some q → ∀ e ∈ l, eR q e
  | [], _, _ => ⟨.nil, fun _ _ e he => absurd he (List.not_mem_nil)⟩
  | x :: l, p, h => by
    simp only [goodFrom, Bool.and_eq_true] at h
    obtain ⟨⟨_, h1⟩, h2⟩ := h
    obtain ⟨i1, i2⟩ := good_pw h2
    refine ⟨List.pairwise_cons.2 ⟨i2 x rfl, i1⟩, fun q hq e he => ?_⟩
    subst hq
    have hqx : eR q x := by unfold eR; exact of_decide_eq_true h1
    rcases List.mem_cons.1 he with rfl | he
    · exact hqx
    · exact eR_tr _ _ _ hqx (i2 x rfl e he)
/-- The bags that Select gives are valid. -/
theorem selE_valid {rows : List Entry} (h : bagValid rows = true) (col : Int) (v : Val) : bagValid (selE rows col v) = true := by
  unfold bagValid at h ⊢
  simp only [Bool.and_eq_true, decide_eq_true_eq] at h ⊢
  refine ⟨Nat.le_trans (sel_len ..) h.1, ?_⟩
  have hp := good_pw h.2
  exact good_of (fun e he => good_row h.2 e (List.mem_filter.1 he).1) (hp.1.sublist List.filter_sublist) (fun q hq => by cases hq)

-- the oldest entry

def oldK (s : List Cach) : Nat → Nat
  | 0 => 0
  | k + 1 => match s[k]?, s[oldK s k]? with
    | some x, some y => if x.day < y.day then k else oldK s k
    | _, _ => oldK s k
def oldE (s : List Cach) : Nat := oldK s s.length
theorem oldK_lt (s : List Cach) : ∀ k, 0 < s.length → oldK s k < s.length
  | 0, h => h
  | k + 1, h => by
    unfold oldK
    have ih := oldK_lt s k h
    split
    · rename_i x y hx _
      split
      · exact lt_of_getElem? hx
      · exact ih
    · exact ih
theorem oldK_step {s : List Cach} {k : Nat} {x y : Cach} (hx : s[k]? = some x) (hy : s[oldK s k]? = some y) : oldK s (k + 1) = if x.day < y.day then k else oldK s k := by
  rw [oldK, hx, hy]

-- the place of a value

def befE (v : Val) (x : Cach) : Bool := decide (x.val.cmp v < 0)
def placeE (l : List Cach) (v : Val) : Nat := (l.takeWhile (befE v)).length
def insE (l : List Cach) (x : Cach) : List Cach := l.take (placeE l x.val) ++ x :: l.drop (placeE l x.val)
def roomE (l : List Cach) : List Cach := if 16 ≤ l.length then l.take (oldE l) ++ l.drop (oldE l + 1) else l
theorem place_le (l : List Cach) (v : Val) : placeE l v ≤ l.length := by
  unfold placeE
  exact (List.takeWhile_sublist _).length_le
theorem takeWhile_take (p : Cach → Bool) : ∀ l : List Cach, l.takeWhile p = l.take (l.takeWhile p).length
  | [] => rfl
  | x :: l => by
    rw [List.takeWhile_cons]
    split
    · rw [List.length_cons, List.take_succ_cons, ← takeWhile_take p l]
    · rfl
theorem place_before {l : List Cach} {v : Val} {j : Nat} {x : Cach} (hj : j < placeE l v) (hx : l[j]? = some x) : x.val.cmp v < 0 := by
  have h1 : (l.takeWhile (befE v))[j]? = some x := by
    have h0 := takeWhile_take (befE v) l
    rw [h0, List.getElem?_take]
    have hj' : j < (l.takeWhile (befE v)).length := hj
    rw [if_pos hj']; exact hx
  have h2 := List.mem_of_getElem? h1
  have h3 := List.all_takeWhile (p := befE v) (l := l)
  rw [List.all_eq_true] at h3
  exact of_decide_eq_true (h3 x h2)
theorem place_at : ∀ {l : List Cach} {v : Val} {x : Cach}, l[placeE l v]? = some x → ¬ x.val.cmp v < 0
  | [], _, _, h => by cases h
  | y :: l, v, x, h => by
    unfold placeE at h
    rw [List.takeWhile_cons] at h
    cases hq : befE v y with
    | true =>
      rw [hq, if_pos rfl, List.length_cons, List.getElem?_cons_succ] at h
      exact place_at h
    | false =>
      rw [hq, if_neg (by decide)] at h
      simp only [List.length_nil, List.getElem?_cons_zero, Option.some.injEq] at h
      subst h
      simpa [befE] using hq
theorem insE_len (l : List Cach) (x : Cach) : (insE l x).length = l.length + 1 := by
  have := place_le l x.val
  simp [insE]; omega
theorem insE_perm (l : List Cach) (x : Cach) : (insE l x).Perm (x :: l) := by
  unfold insE
  refine List.perm_middle.trans ?_
  rw [List.take_append_drop]
theorem insE_sorted {l : List Cach} {x : Cach} (hs : l.Pairwise cR) (hn : ∀ y ∈ l, y.val.cmp x.val ≠ 0) : (insE l x).Pairwise cR := by
  have hle := place_le l x.val
  have hd : ∀ b ∈ l.drop (placeE l x.val), cR x b := by
    intro b hb
    cases hq : l[placeE l x.val]? with
    | none =>
      rw [List.drop_eq_nil_of_le (by simpa using hq)] at hb
      cases hb
    | some y =>
      have hy : cR x y := by
        have h1 := place_at hq
        have h2 := hn y (List.mem_of_getElem? hq)
        have h3 := cmp_ok.anti y.val x.val
        show x.val.cmp y.val < 0
        omega
      have hp := hs.sublist (List.drop_sublist (placeE l x.val) l)
      rw [drop_cons hq] at hb hp
      rcases List.mem_cons.1 hb with rfl | hb
      · exact hy
      · exact cR_tr _ _ _ hy ((List.pairwise_cons.1 hp).1 b hb)
  have ht : ∀ a ∈ l.take (placeE l x.val), cR a x := by
    intro a ha
    obtain ⟨j, hj⟩ := List.getElem?_of_mem ha
    rw [List.getElem?_take] at hj
    split at hj
    · rename_i hlt
      exact place_before hlt hj
    · cases hj
  unfold insE
  rw [List.pairwise_append]
  refine ⟨hs.sublist (List.take_sublist ..), List.pairwise_cons.2 ⟨hd, hs.sublist (List.drop_sublist ..)⟩, fun a ha b hb => ?_⟩
  rcases List.mem_cons.1 hb with rfl | hb
  · exact ht a ha
  · exact cR_tr _ _ _ (ht a ha) (hd b hb)

def cLt (a b : Cach) : Bool := decide (a.val.cmp b.val < 0)
def withoutE (l : List Cach) (v : Val) : List Cach := l.filter fun x => !sameVal x.val v
def lookE (c : Conf) (s : List Cach) (rows : List Entry) (v : Val) (day : Int) : List Cach × List Entry × Int :=
  if validC s && bagValid rows && dayOK c.ttl && dayOK day then
    match (s.filter (liveE c.ttl day)).find? (fun x => sameVal x.val v.clean) with
    | some e => (s.filter (liveE c.ttl day), e.rows, 0)
    | none => (insE (roomE (s.filter (liveE c.ttl day))) ⟨v.clean, selE rows c.col v.clean, day⟩, selE rows c.col v.clean, 0)
  else ([], [], 1)

theorem roomE_sub (l : List Cach) : (roomE l).Sublist l := by
  unfold roomE
  split
  · conv => rhs; rw [← List.take_append_drop (oldE l) l]
    exact List.Sublist.append (List.Sublist.refl _) (by
      rw [show l.drop (oldE l + 1) = (l.drop (oldE l)).drop 1 by rw [List.drop_drop]]
      exact List.drop_sublist ..)
  · exact List.Sublist.refl _
theorem roomE_len {l : List Cach} (h : l.length ≤ 16) : (roomE l).length ≤ 15 := by
  unfold roomE
  split
  · have := oldK_lt l l.length (by omega)
    simp [oldE]; omega
  · omega
theorem find_none {l : List Cach} {v : Val} (h : l.find? (fun x => sameVal x.val v) = none) {x : Cach} (hx : x ∈ l) : x.val ≠ v := fun e => by
  have := List.find?_eq_none.1 h x hx
  rw [e, sameVal_refl] at this; exact this rfl
theorem cmp_ne {l : List Cach} (h : validC l = true) {v : Val} (hn : ∀ x ∈ l, x.val ≠ v.clean) : ∀ x ∈ l, x.val.cmp v.clean ≠ 0 := fun x hx q => by
  have h1 := (cmp_ok.zero x.val v.clean).1 q
  have h2 := ok_clean ((validC_iff.1 h).2.1 x hx)
  have h3 : v.clean.clean = v.clean := by rw [Val.clean, if_pos (clean_valid v)]
  rw [h2, h3] at h1
  exact hn x hx h1

/-- What Lookup keeps is valid. -/
theorem look_valid (c : Conf) (s : List Cach) (rows : List Entry) (v : Val) (day : Int) : validC (lookE c s rows v day).1 = true := by
  unfold lookE
  split
  · rename_i h
    simp only [Bool.and_eq_true] at h
    obtain ⟨⟨⟨h1, h2⟩, h3⟩, h4⟩ := h
    have hl : validC (s.filter (liveE c.ttl day)) = true := validC_sub h1 List.filter_sublist
    split
    · exact hl
    · rename_i hf
      have hr := validC_sub hl (roomE_sub _)
      obtain ⟨g1, g2, g3⟩ := validC_iff.1 hr
      refine validC_iff.2 ⟨?_, fun e he => ?_, insE_sorted g3 (cmp_ne hr fun x hx => find_none hf ((roomE_sub _).subset hx))⟩
      · have := roomE_len (validC_iff.1 hl).1
        rw [insE_len]; omega
      · rcases List.mem_cons.1 ((insE_perm _ _).mem_iff.1 he) with rfl | he
        · simp only [Cach.ok, Bool.and_eq_true]
          exact ⟨⟨clean_valid v, selE_valid h2 ..⟩, h4⟩
        · exact g2 e he
  · rfl
end Go.Proofs.Ytmejclckkmpggaa
