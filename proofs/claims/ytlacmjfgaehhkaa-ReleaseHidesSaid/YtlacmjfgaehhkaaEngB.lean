/-
  Regions walked operation by operation: that this is enough, also where the order is open.
-/
import Derived.Test.YtlacmjfgaehhkaaEngA
namespace Go.Abs
open Go.RowKit

def depB (ops : List Oper) : Nat → Nat → Nat → Bool
  | 0, _, _ => false
  | n + 1, i, j => (match ops[i]? with
    | some o => o.after.any fun e => Region.binds .any e && (e.on == j || depB ops n e.on j)
    | none => false)

theorem depB_more {ops : List Oper} : ∀ {n m i j : Nat}, n ≤ m → depB ops n i j = true → depB ops m i j = true
  | 0, _, _, _, _, h => by simp [depB] at h
  | n + 1, 0, _, _, hle, _ => by omega
  | n + 1, m + 1, i, j, hle, h => by
    unfold depB at h ⊢
    split
    · rename_i o ho
      rw [ho] at h
      simp only [Array.any_eq_true] at h ⊢
      obtain ⟨k, hk, hx⟩ := h
      refine ⟨k, hk, ?_⟩
      simp only [Bool.and_eq_true, Bool.or_eq_true] at hx ⊢
      exact ⟨hx.1, hx.2.imp id (depB_more (by omega))⟩
    · rename_i ho
      rw [ho] at h
      exact h

theorem edgeBits_ok {ops : List Oper} {ms : List Nat} (hms : ∀ i m, ms[i]? = some m → ∀ j, m.testBit j = true → depB ops (i + 1) i j = true) {n : Nat} : ∀ (es : List Edge), (∀ e ∈ es, Region.binds .any e = true → e.on < n) → ∀ j, (edgeBits ms es).testBit j = true →
    ∃ e ∈ es, Region.binds .any e = true ∧ (e.on = j ∨ depB ops n e.on j = true)
  | [], _, j, h => by simp [edgeBits] at h
  | e :: es, hb, j, h => by
    unfold edgeBits at h
    split at h
    · rename_i hbe
      simp only [Nat.testBit_or, Bool.or_eq_true] at h
      rcases h with (h | h) | h
      · have : e.on = j := by
          rw [Nat.one_shiftLeft, Nat.testBit_two_pow] at h
          simpa using h
        exact ⟨e, by simp, hbe, .inl this⟩
      · cases hm : ms[e.on]? with
        | none => simp [List.getD, hm] at h
        | some m =>
          simp only [List.getD, hm, Option.getD_some] at h
          exact ⟨e, by simp, hbe, .inr (depB_more (by have := hb e (by simp) hbe; omega) (hms _ _ hm _ h))⟩
      · obtain ⟨e', h1, h2⟩ := edgeBits_ok hms es (fun e he => hb e (by simp [he])) j h
        exact ⟨e', by simp [h1], h2⟩
    · obtain ⟨e', h1, h2⟩ := edgeBits_ok hms es (fun e he => hb e (by simp [he])) j h
      exact ⟨e', by simp [h1], h2⟩

theorem masks_ok {ops : List Oper} (hback : ∀ (i : Nat) o, ops[i]? = some o → ∀ e ∈ o.after.toList, Region.binds .any e = true → e.on < i) : ∀ (os : List Oper) (ms : List Nat), ops.drop ms.length = os →
    (∀ i m, ms[i]? = some m → ∀ j, m.testBit j = true → depB ops (i + 1) i j = true) → ∀ i m, (masks os ms)[i]? = some m → ∀ j, m.testBit j = true → depB ops (i + 1) i j = true
  | [], ms, _, h => h
  | o :: os, ms, hd, h => by
    have ho : ops[ms.length]? = some o := by
      have := congrArg (·[0]?) hd
      simpa using this
    refine masks_ok hback os (ms ++ [edgeBits ms o.after.toList]) ?_ ?_
    · have := congrArg (List.drop 1) hd
      simpa [List.drop_drop] using this
    · intro i m hm j hj
      by_cases hi : i < ms.length
      · rw [List.getElem?_append_left hi] at hm
        exact h i m hm j hj
      · have hlt := lt_of_getElem? hm
        have : i = ms.length := by simp at hlt; omega
        subst this
        simp at hm
        subst hm
        obtain ⟨e, h1, h2, h3⟩ := edgeBits_ok h o.after.toList (hback _ o ho) j hj
        unfold depB
        rw [ho]
        simp only [Array.any_eq_true]
        obtain ⟨k, hk, rfl⟩ := List.mem_iff_getElem.1 h1
        refine ⟨k, by simpa using hk, ?_⟩
        simp only [Bool.and_eq_true, Bool.or_eq_true, beq_iff_eq]
        exact ⟨by simpa using h2, by simpa using h3⟩

/-- What the closed test says. -/
theorem drawOkK_says {ops : List Oper} {κ : List Nat} (h : drawOkK ops κ = true) : (∀ (i : Nat) o, ops[i]? = some o → ∀ e ∈ o.after.toList, Region.binds .any e = true → e.on < i) ∧
    ∀ (i j : Nat) o x, ops[i]? = some o → j < i → ops[j]? = some x → depB ops ops.length i j = true ∨ indepK ops x o (κ.getD j 0) (κ.getD i 0) = true := by
  unfold drawOkK at h
  simp only [List.all_eq_true, List.mem_range] at h
  have hback : ∀ (i : Nat) o, ops[i]? = some o → ∀ e ∈ o.after.toList, Region.binds .any e = true → e.on < i := by
    intro i o ho e he hb
    have := h i (lt_of_getElem? ho)
    rw [ho] at this
    simp only [Bool.and_eq_true] at this
    have := this.1
    rw [Array.all_eq_true] at this
    obtain ⟨k, hk, rfl⟩ := List.mem_iff_getElem.1 he
    have := this k (by simpa using hk)
    simp only [Bool.or_eq_true, Bool.not_eq_true', decide_eq_true_eq] at this
    rcases this with q | q
    · rw [Array.getElem_toList] at hb; rw [hb] at q; cases q
    · simpa using q
  refine ⟨hback, fun i j o x ho hj hx => ?_⟩
  have hi := lt_of_getElem? ho
  have hq := h i hi
  rw [ho] at hq
  simp only [Bool.and_eq_true] at hq
  have hq := hq.2
  simp only [List.all_eq_true, List.mem_range] at hq
  have hq := hq j hj
  rw [hx] at hq
  simp only [Bool.or_eq_true] at hq
  refine hq.imp (fun hq => ?_) id
  cases hm : (masks ops [])[i]? with
  | none => simp [List.getD, hm] at hq
  | some m =>
    simp only [List.getD, hm, Option.getD_some] at hq
    exact depB_more (by omega) (masks_ok hback ops [] rfl (by simp) i m hm j hq)

def rem (n : Nat) (listed : Array Bool) : List Nat := (List.range n).filter fun i => !listed.getD i true

def Down (ops : List Oper) (listed : Array Bool) : Prop :=
  ∀ (k : Nat) o, ops[k]? = some o → listed.getD k false = true → ∀ e ∈ o.after.toList, Region.binds .any e = true → listed.getD e.on false = true

theorem dep_listed {ops : List Oper} {listed : Array Bool} (hd : Down ops listed) : ∀ (n i j : Nat), (∀ o, ops[i]? = some o → ∀ e ∈ o.after.toList, Region.binds .any e = true → listed.getD e.on false = true) → depB ops n i j = true → listed.getD j false = true
  | 0, i, j, _, h => by simp [depB] at h
  | n + 1, i, j, hi, h => by
    unfold depB at h
    split at h
    · rename_i o ho
      rw [← Array.any_toList, List.any_eq_true] at h
      obtain ⟨e, he, hq⟩ := h
      simp only [Bool.and_eq_true, Bool.or_eq_true] at hq
      have hl := hi o ho e he hq.1
      rcases hq.2 with hj | hj
      · have : e.on = j := by simpa using hj
        rw [← this]; exact hl
      · exact dep_listed hd n e.on j (fun o' ho' e' he' hb' => hd e.on o' ho' hl e' he' hb') hj
    · cases h

theorem rem_mem {n : Nat} {listed : Array Bool} {i : Nat} : i ∈ rem n listed ↔ i < n ∧ listed.getD i true = false := by
  simp [rem]

theorem rem_sorted (n : Nat) (listed : Array Bool) : (rem n listed).Pairwise (· < ·) := List.Pairwise.filter _ List.pairwise_lt_range

theorem rem_split {n : Nat} {listed : Array Bool} (hs : listed.size = n) {i : Nat} (hi : i ∈ rem n listed) :
    ∃ A Bk, rem n listed = A ++ i :: Bk ∧ rem n (listed.setIfInBounds i true) = A ++ Bk ∧ ∀ j ∈ A, j < i ∧ listed.getD j true = false := by
  obtain ⟨A, Bk, h⟩ := List.append_of_mem hi
  refine ⟨A, Bk, h, ?_, fun j hj => ?_⟩
  · have hin := (rem_mem.1 hi).1
    have e1 : rem n (listed.setIfInBounds i true) = (rem n listed).filter (fun j => j != i) := by
      unfold rem
      rw [List.filter_filter]
      apply List.filter_congr
      intro j hj
      by_cases e : i = j
      · subst e
        simp [hs, hin]
      · have e' : (j != i) = true := by simpa using fun q => e q.symm
        rw [e', Bool.true_and]
        congr 1
        simp [Array.getElem?_setIfInBounds_ne e]
    rw [e1, h, List.filter_append, List.filter_cons]
    have hp := rem_sorted n listed
    rw [h, List.pairwise_append] at hp
    obtain ⟨_, h2, h3⟩ := hp
    rw [List.pairwise_cons] at h2
    simp only [bne_self_eq_false, Bool.false_eq_true, if_false]
    congr 1
    · apply List.filter_eq_self.2
      intro j hj
      have := h3 j hj i (by simp)
      simp; omega
    · apply List.filter_eq_self.2
      intro j hj
      have := h2.1 j hj
      simp; omega
  · have hp := rem_sorted n listed
    rw [h, List.pairwise_append] at hp
    have hjm : j ∈ rem n listed := by rw [h]; simp [hj]
    exact ⟨hp.2.2 j hj i (by simp), (rem_mem.1 hjm).2⟩

section
variable {P : Program} {T : TypeId → Option TI} {B : Base}

theorem Rel.drew {σ : St} {a : Act} {w : World} (h : Rel B σ a w) : Rel B σ a w.drew := by
  obtain ⟨E, hr, hB⟩ := h
  have hl := hr.1.later (w' := w.drew) ((Below.refl _ w).drew) (fun _ => False) (fun _ q => q.elim)
  exact ⟨_, hr.keepE hl.2 hl.1, hB.trans hl.2⟩

theorem reg_lin {F0 : Nat → Prop} {w0 : World} {ops : List Oper} {K : St → Prop} {dr : Bool} (hdr : dr = true) : ∀ {l : List Oper} {σ : St} {acc : List Nat}, Reg P F0 w0 dr ops K l σ acc → l = ops.drop acc.length →
    ∃ κ τ τ0, (∃ ks, κ = acc.reverse ++ ks) ∧ drawOkK ops κ = true ∧ K τ ∧ Same τ τ0 ∧ Lin P F0 w0 ops κ (List.range' acc.length l.length) σ τ0 := by
  intro l σ acc h
  induction h with
  | nil hf h => exact fun _ => ⟨_, _, _, ⟨[], by simp⟩, hf.resolve_left (by simp [hdr]), h, Same.refl _, .nil _⟩
  | step k v m c df hg hw hkk hd h0 h ih =>
    rename_i o rest σ' acc' g'
    intro hl
    have ho : ops[acc'.length]? = some o := by
      have := congrArg (·[0]?) hl
      simpa using this.symm
    obtain ⟨κ, τ, τ0, ⟨ks, rfl⟩, h1, h2, h4, h3⟩ := ih (by have := congrArg (List.drop 1) hl; simpa [List.drop_drop] using this)
    refine ⟨_, τ, τ0, ⟨k :: ks, by simp⟩, h1, h2, h4, ?_⟩
    rw [List.length_cons, List.range'_succ]
    refine .cons v m c df ho hg ⟨?_, .inl ⟨hw, hd, ?_⟩⟩ (by simpa using h3)
    · simpa using hkk
    · simpa using h0
  | rel R hdr' hg hw hd h ih => rw [hdr] at hdr'; cases hdr'
  | skip hg hw h ih =>
    rename_i o rest σ' acc' d' want'
    intro hl
    have ho : ops[acc'.length]? = some o := by
      have := congrArg (·[0]?) hl
      simpa using this.symm
    obtain ⟨κ, τ, τ0, ⟨ks, rfl⟩, h1, h2, h4, h3⟩ := ih (by have := congrArg (List.drop 1) hl; simpa [List.drop_drop] using this)
    refine ⟨_, τ, τ0, ⟨0 :: ks, by simp⟩, h1, h2, h4, ?_⟩
    rw [List.length_cons, List.range'_succ]
    exact .cons .und σ'.mem σ'.clock [] ho hg ⟨.inr ⟨rfl, rfl, rfl⟩, .inr ⟨d', want', rfl, hw, rfl, rfl, rfl, rfl⟩⟩ (by simpa using h3)
  | alike hs h ih =>
    intro hl
    obtain ⟨κ, τ, τ0, h1, h2, h3, h4, h5⟩ := ih hl
    obtain ⟨τ1, q1, q2⟩ := h5.same hs.symm
    exact ⟨κ, τ, τ1, h1, h2, h3, h4.trans q2, q1⟩
  | turn hdr' hn ht h ih => rw [hdr] at hdr'; cases hdr'

theorem lin_any {ops : List Oper} {κ : List Nat} {N : Nat} (hdst : ∀ o ∈ ops, ∀ d, o.dst = some d → d < N) (hok : drawOkK ops κ = true) {Q : Exit → Act → World → Prop} {τ : St} (hQ : ∀ a w, Rel B τ a w → Q .normal a w) :
    ∀ (fuel : Nat) (listed : Array Bool) (a : Act) (w : World) (σ τ0 : St), listed.size = ops.length → Down ops listed → (rem ops.length listed).length = fuel → Rel B σ a w → σ.n = N → Same τ τ0 →
      Lin P B.F0 B.w0 ops κ (rem ops.length listed) σ τ0 → wpAny P .any ops.toArray Q fuel listed a w := by
  obtain ⟨hback, hpair⟩ := drawOkK_says hok
  have hready : ∀ listed : Array Bool, ∀ i ∈ Region.ready .any ops.toArray listed, i ∈ rem ops.length listed ∧ ∀ o, ops[i]? = some o → ∀ e ∈ o.after.toList, Region.binds .any e = true → listed.getD e.on false = true := by
    intro listed i hi
    simp only [Region.ready, List.mem_filter, List.mem_range, List.size_toArray, Bool.and_eq_true] at hi
    obtain ⟨h1, h2, h3⟩ := hi
    refine ⟨rem_mem.2 ⟨h1, by simpa using h2⟩, fun o ho e he hb => ?_⟩
    rw [List.getElem?_toArray, ho] at h3
    simp only [Option.map_some, Option.getD_some] at h3
    rw [← Array.all_toList, List.all_eq_true] at h3
    have := h3 e he
    simpa [hb] using this
  intro fuel
  induction fuel with
  | zero =>
    intro listed a w σ τ0 hs hd hl hr hn hsame h
    have hnil : rem ops.length listed = [] := List.eq_nil_of_length_eq_zero hl
    refine ⟨?_, ?_⟩
    · cases hq : Region.ready .any ops.toArray listed with
      | nil => rfl
      | cons i l =>
        have := (hready listed i (by rw [hq]; simp)).1
        rw [hnil] at this
        simp at this
    · rw [hnil] at h
      cases h
      exact hQ a w (hsame.symm.rel hr)
  | succ fuel ih =>
    intro listed a w σ τ0 hs hd hl hr hn hsame h
    refine ⟨fun hq => ?_, fun i hi => ?_⟩
    · exfalso
      cases hrm : rem ops.length listed with
      | nil => rw [hrm] at hl; simp at hl
      | cons i l =>
        have him : i ∈ rem ops.length listed := by rw [hrm]; simp
        obtain ⟨hin, hil⟩ := rem_mem.1 him
        have hmin : ∀ j, j < i → listed.getD j true = true := by
          intro j hj
          cases hq' : listed.getD j true with
          | true => rfl
          | false =>
            have hjm : j ∈ rem ops.length listed := rem_mem.2 ⟨by omega, hq'⟩
            have hp := rem_sorted ops.length listed
            rw [hrm] at hjm hp
            rw [List.pairwise_cons] at hp
            rcases List.mem_cons.1 hjm with rfl | hjl
            · omega
            · have := hp.1 j hjl; omega
        have : i ∈ Region.ready .any ops.toArray listed := by
          simp only [Region.ready, List.mem_filter, List.mem_range, List.size_toArray, Bool.and_eq_true]
          refine ⟨hin, by simpa using hil, ?_⟩
          have ho : ops[i]? = some (ops[i]'hin) := List.getElem?_eq_getElem hin
          rw [List.getElem?_toArray, ho]
          simp only [Option.map_some, Option.getD_some]
          rw [← Array.all_toList, List.all_eq_true]
          intro e he
          cases hb : Region.binds .any e with
          | false => simp
          | true =>
            have := hmin e.on (hback i _ ho e he hb)
            have hlt : e.on < listed.size := by have := hback i _ ho e he hb; omega
            simp only [Bool.not_true, Bool.false_or]
            simp [hlt] at this ⊢
            exact this
        rw [hq] at this
        simp at this
    · obtain ⟨him, hdeps⟩ := hready listed i hi
      obtain ⟨A, Bk, e1, e2, e3⟩ := rem_split hs him
      obtain ⟨hin, hil⟩ := rem_mem.1 him
      have ho : ops[i]? = some (ops[i]'hin) := List.getElem?_eq_getElem hin
      rw [e1] at h
      have hind : ∀ j ∈ A, ∃ x, ops[j]? = some x ∧ indepK ops x (ops[i]'hin) (κ.getD j 0) (κ.getD i 0) = true := by
        intro j hj
        obtain ⟨hji, hjl⟩ := e3 j hj
        have hxj : ops[j]? = some (ops[j]'(by omega)) := List.getElem?_eq_getElem _
        refine ⟨_, hxj, ?_⟩
        rcases hpair i j _ _ ho hji hxj with q | q
        · have := dep_listed hd _ i j hdeps q
          have hlt : j < listed.size := by omega
          simp [hlt] at this hjl
          rw [this] at hjl
          cases hjl
        · exact q
      obtain ⟨τ1, hp, hs1⟩ := Lin.pull ho A hind h
      cases hp with | cons v m c df ho1 hg1 hl1 h1 =>
      rename_i o g
      obtain rfl : o = ops[i]'hin := by rw [ho] at ho1; exact (Option.some.inj ho1).symm
      have hod : ∀ d, (ops[i]'hin).dst = some d → d < σ.n := fun d hd' => by rw [hn]; exact hdst _ (List.getElem_mem hin) d hd'
      have hgo : ∀ a' w', Rel B (upd σ (ops[i]'hin).dst v m c df) a' w' → wpAny P .any ops.toArray Q fuel (listed.setIfInBounds i true) a' w' := by
        intro a' w' r
        refine ih _ a' w' _ τ1 (by simpa using hs) ?_ ?_ r hn (hsame.trans hs1) (by rw [e2]; exact h1)
        · intro k' o' ho' hk' e he hb
          by_cases ek : k' = i
          · subst ek
            have := hdeps o' ho' e he hb
            by_cases ee : k' = e.on
            · rw [← ee]; simp [hs, hin]
            · simpa [Array.getElem?_setIfInBounds_ne ee] using this
          · have hk2 : listed.getD k' false = true := by simpa [Array.getElem?_setIfInBounds_ne (fun q => ek q.symm)] using hk'
            have := hd k' o' ho' hk2 e he hb
            by_cases ee : i = e.on
            · rw [← ee]; simp [hs, hin]
            · simpa [Array.getElem?_setIfInBounds_ne ee] using this
        · rw [e1] at hl
          rw [e2]
          simp at hl ⊢
          omega
      unfold wpOp
      rw [List.getElem?_toArray, ho]
      simp only
      obtain ⟨E, hr, hB⟩ := hr
      rcases hl1.2 with ⟨q1, q2, _⟩ | ⟨d', want', q1, q2, rfl, rfl, rfl, rfl⟩
      · rw [if_pos (wanted_yes hdst hg1 hn q1 hr)]
        refine .inl (q2 B σ E a w rfl rfl (fun _ _ => rfl) rfl rfl hr hB hod _ _ fun v' m' c' df' a' w' hR hrel => ?_)
        obtain ⟨rfl, rfl, rfl, rfl⟩ := hR
        exact hgo a' w' hrel
      · rw [q1] at hg1
        rw [if_neg (wanted_no hdst hg1 hn q2 hr)]
        exact hgo _ w ⟨E, upd_und hr hod, hB⟩

theorem rem_all (n : Nat) : rem n (Array.replicate n false) = List.range n := by
  unfold rem
  apply List.filter_eq_self.2
  intro i hi
  have := List.mem_range.1 hi
  simp [this]

/-- The rule for a region. -/
theorem k_reg (hmix : P.follows .mixedOrders = true) {σ : St} {R : Ex → St → Prop} {ks : List Fr} {id : Nat} {ops : Array Oper} {dr : Bool} (hd : dstsOk σ.n ops.toList = true)
    (h : Reg P B.F0 B.w0 dr ops.toList (fun τ => kont P B R ks .norm τ) ops.toList σ []) : ARun P B (.region id ops dr) σ (kont P B R ks) := by
  intro a w hr
  cases dr with
  | false =>
    refine wp_region_list ?_
    have := reg_list (P := P) (B := B) (N := σ.n) (fun o ho => dstsOk_mem hd ho) (Q := fun e a' w' => ∃ x σ', Rel B σ' a' w' ∧ σ'.n = σ.n ∧ kont P B R ks x σ' ∧ Ex.fits e x) (fun τ a' w' r n' q => ⟨.norm, τ, r, n', q, trivial⟩) h (fun _ h => h) a w rfl hr
    simpa using this
  | true =>
    have hlen : ops.toList.length = ops.size := Array.length_toList
    refine wp_region_any hmix ?_
    obtain ⟨κ, τ, τ0, _, h1, h2, h4, h3⟩ := reg_lin rfl h (by simp)
    have hτ : ∀ (is : List Nat) (σ τ : St), Lin P B.F0 B.w0 ops.toList κ is σ τ → τ.n = σ.n := by
      intro is σ τ h
      induction h with
      | nil => rfl
      | cons v m c df ho hg hl h ih => exact ih
    have := lin_any (P := P) (B := B) (N := σ.n) (fun o ho => dstsOk_mem hd ho) h1 (Q := fun e a' w' => ∃ x σ', Rel B σ' a' w' ∧ σ'.n = σ.n ∧ kont P B R ks x σ' ∧ Ex.fits e x) (τ := τ) (fun a' w' r => ⟨.norm, τ, r, h4.n.symm.trans (hτ _ _ _ h3), h2, trivial⟩)
      ops.size (Array.replicate ops.size false) a w.drew σ τ0 (by simp)
      (fun k o ho hk => by
        by_cases hlt : k < ops.size
        · simp [hlt] at hk
        · simp [hlt] at hk)
      (by rw [hlen, rem_all]; simp) hr.drew rfl h4 (by rw [hlen, rem_all, List.range_eq_range']; simpa using h3)
    simpa using this
end
end Go.Abs
