/-
  Aggregates, the document's: plus.
-/
import Derived.Test.YtojfhaoleedmkaaGreatAgn
import Derived.Test.YtojfhaoleedmkaaGreatTab
import Derived.Test.YtojfhaoleedmkaaGreatPos
import Derived.Test.YtojfhaoleedmkaaGreatHom
section
namespace Go.Proofs.YtojfhaoleedmkaaGreat
open Go.Abs Go.RowKit
set_option linter.unusedSimpArgs false
set_option maxRecDepth 100000
def w64 (z : Int) : Int := IntKind.i64.wrap z
def plusS (s t : Sta) : Sta := ⟨s.key, w64 (s.count + t.count), List.zipWith (fun x y => w64 (x + y)) s.sums t.sums, List.zipWith (fun x y => w64 (x + y)) s.some t.some⟩
def mergeS : List Sta → List Sta → List Sta
  | [], d => d
  | g, [] => g
  | x :: g, y :: d => if rowCmp x.key y.key < 0 then x :: mergeS g (y :: d) else if 0 < rowCmp x.key y.key then y :: mergeS (x :: g) d else plusS x y :: mergeS g d
termination_by g d => g.length + d.length
theorem mergeS_nil (a : List Sta) : mergeS a [] = a := by cases a <;> simp [mergeS]
theorem mergeS_nil' (b : List Sta) : mergeS [] b = b := by simp [mergeS]
def sR (x y : Sta) : Prop := rowCmp x.key y.key < 0
theorem sR_tr (x y z : Sta) (h1 : sR x y) (h2 : sR y z) : sR x z := rowCmp_ok.trans _ _ _ h1 h2
def clS (l : List Sta) : Prop := ∀ s ∈ l, rowClean s.key
theorem mem_mergeS {s : Sta} : ∀ {g d : List Sta}, g.Pairwise sR → d.Pairwise sR → clS g → clS d → (s ∈ mergeS g d ↔ (s ∈ g ∧ ∀ t ∈ d, t.key ≠ s.key) ∨ (s ∈ d ∧ ∀ t ∈ g, t.key ≠ s.key) ∨ ∃ x ∈ g, ∃ y ∈ d, x.key = y.key ∧ s = plusS x y) := by
  intro g d
  induction g, d using mergeS.induct with
  | case1 d => intro _ _ _ _; rw [mergeS_nil']; simp
  | case2 g h => intro _ _ _ _; rw [mergeS_nil]; simp
  | case3 x g y d n1 ih =>
    intro hg hd cg cd
    rw [mergeS, if_pos n1, List.mem_cons, ih (List.pairwise_cons.1 hg).2 hd (fun s hs => cg s (by simp [hs])) cd]
    have hx : ∀ t ∈ y :: d, t.key ≠ x.key := fun t ht he => by
      have : sR x t := by
        rcases List.mem_cons.1 ht with rfl | ht
        · exact n1
        · exact sR_tr x y t n1 ((List.pairwise_cons.1 hd).1 t ht)
      unfold sR at this
      rw [he, rowCmp_ok.refl] at this; omega
    constructor
    · rintro (rfl | ⟨h1, h2⟩ | ⟨h1, h2⟩ | ⟨a, h1, b, h2, h3, h4⟩)
      · exact .inl ⟨by simp, hx⟩
      · exact .inl ⟨by simp [h1], h2⟩
      · refine .inr (.inl ⟨h1, fun t ht => ?_⟩)
        rcases List.mem_cons.1 ht with rfl | ht
        · exact fun e => hx s h1 e.symm
        · exact h2 t ht
      · exact .inr (.inr ⟨a, by simp [h1], b, h2, h3, h4⟩)
    · rintro (⟨h1, h2⟩ | ⟨h1, h2⟩ | ⟨a, h1, b, h2, h3, h4⟩)
      · rcases List.mem_cons.1 h1 with rfl | h1
        · exact .inl rfl
        · exact .inr (.inl ⟨h1, h2⟩)
      · exact .inr (.inr (.inl ⟨h1, fun t ht => h2 t (by simp [ht])⟩))
      · rcases List.mem_cons.1 h1 with rfl | h1
        · exact absurd h3.symm (hx b h2)
        · exact .inr (.inr (.inr ⟨a, h1, b, h2, h3, h4⟩))
  | case4 x g y d n1 n2 ih =>
    intro hg hd cg cd
    rw [mergeS, if_neg n1, if_pos n2, List.mem_cons, ih hg (List.pairwise_cons.1 hd).2 cg (fun s hs => cd s (by simp [hs]))]
    have hyx : sR y x := by
      have := rowCmp_ok.anti x.key y.key
      unfold sR; omega
    have hx : ∀ t ∈ x :: g, t.key ≠ y.key := fun t ht he => by
      have : sR y t := by
        rcases List.mem_cons.1 ht with rfl | ht
        · exact hyx
        · exact sR_tr y x t hyx ((List.pairwise_cons.1 hg).1 t ht)
      unfold sR at this
      rw [he, rowCmp_ok.refl] at this; omega
    constructor
    · rintro (rfl | ⟨h1, h2⟩ | ⟨h1, h2⟩ | ⟨a, h1, b, h2, h3, h4⟩)
      · exact .inr (.inl ⟨by simp, hx⟩)
      · refine .inl ⟨h1, fun t ht => ?_⟩
        rcases List.mem_cons.1 ht with rfl | ht
        · exact fun e => hx s h1 e.symm
        · exact h2 t ht
      · exact .inr (.inl ⟨by simp [h1], h2⟩)
      · exact .inr (.inr ⟨a, h1, b, by simp [h2], h3, h4⟩)
    · rintro (⟨h1, h2⟩ | ⟨h1, h2⟩ | ⟨a, h1, b, h2, h3, h4⟩)
      · exact .inr (.inl ⟨h1, fun t ht => h2 t (by simp [ht])⟩)
      · rcases List.mem_cons.1 h1 with rfl | h1
        · exact .inl rfl
        · exact .inr (.inr (.inl ⟨h1, h2⟩))
      · rcases List.mem_cons.1 h2 with rfl | h2
        · exact absurd h3 (hx a h1)
        · exact .inr (.inr (.inr ⟨a, h1, b, h2, h3, h4⟩))
  | case5 x g y d n1 n2 ih =>
    intro hg hd cg cd
    have hk : x.key = y.key := clean_eq (cg x (by simp)) (cd y (by simp)) (by omega)
    rw [mergeS, if_neg n1, if_neg n2, List.mem_cons, ih (List.pairwise_cons.1 hg).2 (List.pairwise_cons.1 hd).2 (fun s hs => cg s (by simp [hs])) (fun s hs => cd s (by simp [hs]))]
    have hgx : ∀ t ∈ g, t.key ≠ x.key := fun t ht he => by
      have := (List.pairwise_cons.1 hg).1 t ht
      unfold sR at this
      rw [he, rowCmp_ok.refl] at this; omega
    have hdx : ∀ t ∈ d, t.key ≠ x.key := fun t ht he => by
      have := (List.pairwise_cons.1 hd).1 t ht
      unfold sR at this
      rw [he, hk, rowCmp_ok.refl] at this; omega
    constructor
    · rintro (rfl | ⟨h1, h2⟩ | ⟨h1, h2⟩ | ⟨a, h1, b, h2, h3, h4⟩)
      · exact .inr (.inr ⟨x, by simp, y, by simp, hk, rfl⟩)
      · refine .inl ⟨by simp [h1], fun t ht => ?_⟩
        rcases List.mem_cons.1 ht with rfl | ht
        · exact fun e => hgx s h1 (e.symm.trans hk.symm)
        · exact h2 t ht
      · refine .inr (.inl ⟨by simp [h1], fun t ht => ?_⟩)
        rcases List.mem_cons.1 ht with rfl | ht
        · exact fun e => hdx s h1 e.symm
        · exact h2 t ht
      · exact .inr (.inr ⟨a, by simp [h1], b, by simp [h2], h3, h4⟩)
    · rintro (⟨h1, h2⟩ | ⟨h1, h2⟩ | ⟨a, h1, b, h2, h3, h4⟩)
      · rcases List.mem_cons.1 h1 with rfl | h1
        · exact absurd hk.symm (h2 y (by simp))
        · exact .inr (.inl ⟨h1, fun t ht => h2 t (by simp [ht])⟩)
      · rcases List.mem_cons.1 h1 with rfl | h1
        · exact absurd hk (h2 x (by simp))
        · exact .inr (.inr (.inl ⟨h1, fun t ht => h2 t (by simp [ht])⟩))
      · rcases List.mem_cons.1 h1 with rfl | h1
        · rcases List.mem_cons.1 h2 with rfl | h2
          · exact .inl h4
          · exact absurd h3.symm (hdx b h2)
        · rcases List.mem_cons.1 h2 with rfl | h2
          · exact absurd (h3.trans hk.symm) (hgx a h1)
          · exact .inr (.inr (.inr ⟨a, h1, b, h2, h3, h4⟩))
theorem mergeS_key {g d : List Sta} : ∀ {s : Sta}, s ∈ mergeS g d → ∃ x, (x ∈ g ∨ x ∈ d) ∧ x.key = s.key := by
  induction g, d using mergeS.induct with
  | case1 d => intro s h; rw [mergeS_nil'] at h; exact ⟨s, .inr h, rfl⟩
  | case2 g _ => intro s h; rw [mergeS_nil] at h; exact ⟨s, .inl h, rfl⟩
  | case3 x g y d h ih =>
    intro s hs
    rw [mergeS, if_pos h] at hs
    rcases List.mem_cons.1 hs with rfl | hs
    · exact ⟨s, .inl (by simp), rfl⟩
    · obtain ⟨z, hz, he⟩ := ih hs
      exact ⟨z, hz.imp (fun q => by simp [q]) id, he⟩
  | case4 x g y d h1 h2 ih =>
    intro s hs
    rw [mergeS, if_neg h1, if_pos h2] at hs
    rcases List.mem_cons.1 hs with rfl | hs
    · exact ⟨s, .inr (by simp), rfl⟩
    · obtain ⟨z, hz, he⟩ := ih hs
      exact ⟨z, hz.imp id (fun q => by simp [q]), he⟩
  | case5 x g y d h1 h2 ih =>
    intro s hs
    rw [mergeS, if_neg h1, if_neg h2] at hs
    rcases List.mem_cons.1 hs with rfl | hs
    · exact ⟨x, .inl (by simp), rfl⟩
    · obtain ⟨z, hz, he⟩ := ih hs
      exact ⟨z, hz.imp (fun q => by simp [q]) (fun q => by simp [q]), he⟩
theorem mergeS_up : ∀ {g d : List Sta}, g.Pairwise sR → d.Pairwise sR → clS g → clS d → (mergeS g d).Pairwise sR := by
  intro g d
  induction g, d using mergeS.induct with
  | case1 d => intro _ h _ _; rw [mergeS_nil']; exact h
  | case2 g _ => intro h _ _ _; rw [mergeS_nil]; exact h
  | case3 x g y d h ih =>
    intro hg hd cg cd
    rw [mergeS, if_pos h]
    refine List.pairwise_cons.2 ⟨fun s hs => ?_, ih (List.pairwise_cons.1 hg).2 hd (fun s hs => cg s (by simp [hs])) cd⟩
    obtain ⟨z, hz, he⟩ := mergeS_key hs
    show rowCmp x.key s.key < 0
    rw [← he]
    rcases hz with hz | hz
    · exact (List.pairwise_cons.1 hg).1 z hz
    · rcases List.mem_cons.1 hz with rfl | hz
      · exact h
      · exact sR_tr x y z h ((List.pairwise_cons.1 hd).1 z hz)
  | case4 x g y d h1 h2 ih =>
    intro hg hd cg cd
    have hyx : sR y x := by
      have := rowCmp_ok.anti x.key y.key
      unfold sR; omega
    rw [mergeS, if_neg h1, if_pos h2]
    refine List.pairwise_cons.2 ⟨fun s hs => ?_, ih hg (List.pairwise_cons.1 hd).2 cg (fun s hs => cd s (by simp [hs]))⟩
    obtain ⟨z, hz, he⟩ := mergeS_key hs
    show rowCmp y.key s.key < 0
    rw [← he]
    rcases hz with hz | hz
    · rcases List.mem_cons.1 hz with rfl | hz
      · exact hyx
      · exact sR_tr y x z hyx ((List.pairwise_cons.1 hg).1 z hz)
    · exact (List.pairwise_cons.1 hd).1 z hz
  | case5 x g y d h1 h2 ih =>
    intro hg hd cg cd
    have hk : x.key = y.key := clean_eq (cg x (by simp)) (cd y (by simp)) (by omega)
    rw [mergeS, if_neg h1, if_neg h2]
    refine List.pairwise_cons.2 ⟨fun s hs => ?_, ih (List.pairwise_cons.1 hg).2 (List.pairwise_cons.1 hd).2 (fun s hs => cg s (by simp [hs])) (fun s hs => cd s (by simp [hs]))⟩
    obtain ⟨z, hz, he⟩ := mergeS_key hs
    show rowCmp x.key s.key < 0
    rw [← he]
    rcases hz with hz | hz
    · exact (List.pairwise_cons.1 hg).1 z hz
    · rw [hk]; exact (List.pairwise_cons.1 hd).1 z hz
def atR (kf : List Val → List Val) (k : List Val) (f : List Val → Int) (r : List Val) : Int := if rowCmp (kf r) k = 0 then f r else 0
def suR (x : Agg) (r : List Val) : Int := if x.func = 1 then (if (evE x.expr r).kind = 1 then (evE x.expr r).int else 0) else 0
def coR (x : Agg) (r : List Val) : Int := if x.func = 1 then (if (evE x.expr r).kind = 1 then 1 else 0) else 0
theorem wS_atR (kf : List Val → List Val) (k : List Val) (f : List Val → Int) (b : List Entry) : wS f (b.filter (atK kf k)) = wS (atR kf k f) b := by
  induction b with
  | nil => rfl
  | cons e b ih =>
    rw [List.filter_cons, wS, ← ih]
    unfold atK atR
    by_cases h : rowCmp (kf e.row) k = 0
    · simp only [h, decide_true, if_true, wS]
    · simp only [h, decide_false, if_false, Bool.false_eq_true]; omega
theorem nE_w (es : List Entry) : nE es = wS (fun _ => 1) es := by
  induction es with
  | nil => rfl
  | cons e es ih =>
    have : nE (e :: es) = e.count + nE es := by simp [nE]
    rw [this, ih, wS]; omega
theorem suE_w (es : List Entry) (x : Agg) : suE es x = wS (suR x) es := by
  unfold suE
  by_cases h : x.func = 1
  · rw [if_pos h]
    induction es with
    | nil => rfl
    | cons e es ih =>
      have : sumV (valsE x (e :: es)) = (if (vlE x e).1.kind = 1 then (vlE x e).1.int * (vlE x e).2 else 0) + sumV (valsE x es) := by simp [sumV, valsE]
      rw [this, ih, wS]
      unfold vlE suR
      rw [if_neg (show ¬ x.func = 0 by omega), if_pos h]
      dsimp only
      split
      · rw [Int.mul_comm]
      · omega
  · rw [if_neg h]
    have : wS (suR x) es = wS (fun _ => 0) es := wS_congr fun e _ => by unfold suR; rw [if_neg h]
    rw [this, wS_zero]
theorem coE_w (es : List Entry) (x : Agg) : coE es x = wS (coR x) es := by
  unfold coE
  by_cases h : x.func = 1
  · rw [if_pos h]
    induction es with
    | nil => rfl
    | cons e es ih =>
      have : cntV (valsE x (e :: es)) = (if (vlE x e).1.kind = 1 then (vlE x e).2 else 0) + cntV (valsE x es) := by simp [cntV, valsE]
      rw [this, ih, wS]
      unfold vlE coR
      rw [if_neg (show ¬ x.func = 0 by omega), if_pos h]
      dsimp only
      split <;> omega
  · rw [if_neg h]
    have : wS (coR x) es = wS (fun _ => 0) es := wS_congr fun e _ => by unfold coR; rw [if_neg h]
    rw [this, wS_zero]
def stT (ag : List Agg) (kf : List Val → List Val) (b : List Entry) (k : List Val) : Sta :=
  ⟨k, wS (atR kf k fun _ => 1) b, ag.map fun x => wS (atR kf k (suR x)) b, ag.map fun x => wS (atR kf k (coR x)) b⟩
theorem stT_says (ag : List Agg) (kf : List Val → List Val) (b : List Entry) (k : List Val) : stE ag (k, b.filter (atK kf k)) = stT ag kf b k := by
  unfold stE stT
  dsimp only
  rw [nE_w, wS_atR]
  congr 1
  · exact List.map_congr_left fun x _ => by rw [suE_w, wS_atR]
  · exact List.map_congr_left fun x _ => by rw [coE_w, wS_atR]
def stsE (ag : List Agg) (kf : List Val → List Val) (b : List Entry) : List Sta := ((keysE b kf).map (stT ag kf b)).filter nzS
theorem stsE_says (ag : List Agg) (kf : List Val → List Val) (b : List Entry) : ((grpE b kf).map (stE ag)).filter nzS = stsE ag kf b := by
  unfold grpE stsE
  rw [List.map_map]
  congr 1
  exact List.map_congr_left fun k _ => stT_says ag kf b k
theorem zero_iff (s : Sta) : s.zero = true ↔ s.count = 0 ∧ (∀ n ∈ s.sums, n = 0) ∧ ∀ n ∈ s.some, n = 0 := by
  unfold Sta.zero
  simp only [Bool.and_eq_true, decide_eq_true_eq, Bool.not_eq_true', List.any_eq_false, decide_eq_true_eq, ne_eq, Decidable.not_not, and_assoc]
theorem stT_none {ag : List Agg} {kf : List Val → List Val} {b : List Entry} {k : List Val} (h : ∀ e ∈ b, kf e.row ≠ k) (hk : CleanK b kf) (hc : rowClean k) : (stT ag kf b k).zero = true := by
  have hz : ∀ f, wS (atR kf k f) b = 0 := fun f => by
    rw [wS_congr (g := fun _ => 0) fun e he => ?_, wS_zero]
    unfold atR
    rw [if_neg fun q => h e he (clean_eq (hk e he) hc q)]
  rw [zero_iff]
  refine ⟨hz _, fun n hn => ?_, fun n hn => ?_⟩
  · obtain ⟨x, _, rfl⟩ := List.mem_map.1 hn; exact hz _
  · obtain ⟨x, _, rfl⟩ := List.mem_map.1 hn; exact hz _
theorem stsE_mem {ag : List Agg} {kf : List Val → List Val} {b : List Entry} (hk : CleanK b kf) {s : Sta} : s ∈ stsE ag kf b ↔ s.zero = false ∧ rowClean s.key ∧ s = stT ag kf b s.key := by
  obtain ⟨_, k2, k3⟩ := keys_says hk
  constructor
  · intro h
    obtain ⟨h1, h2⟩ := List.mem_filter.1 h
    obtain ⟨k, hkm, rfl⟩ := List.mem_map.1 h1
    exact ⟨by simpa [nzS] using h2, k2 k hkm, rfl⟩
  · rintro ⟨h1, h2, h3⟩
    refine List.mem_filter.2 ⟨List.mem_map.2 ⟨s.key, (k3 _).2 ?_, h3.symm⟩, by unfold nzS; rw [h1]; rfl⟩
    apply Classical.byContradiction
    intro hn
    have := stT_none (ag := ag) (b := b) (kf := kf) (k := s.key) (fun e he q => hn ⟨e, he, q⟩) hk h2
    rw [← h3, h1] at this; cases this
theorem stsE_up {ag : List Agg} {kf : List Val → List Val} {b : List Entry} (hk : CleanK b kf) : (stsE ag kf b).Pairwise sR ∧ clS (stsE ag kf b) := by
  obtain ⟨k1, k2, _⟩ := keys_says hk
  refine ⟨List.Pairwise.sublist List.filter_sublist ?_, fun s hs => ((stsE_mem hk).1 hs).2.1⟩
  rw [List.pairwise_map]
  exact k1
def sml (n : Int) : Prop := -4611686018427387904 ≤ n ∧ n ≤ 4611686018427387903
def SmlS (s : Sta) : Prop := sml s.count ∧ (∀ n ∈ s.sums, sml n) ∧ ∀ n ∈ s.some, sml n
end Go.Proofs.YtojfhaoleedmkaaGreat
end
section
section
section
namespace Go.Abs
open Go.RowKit
section
variable {P : Program} {B : Base} {n : Nat} {sl : List (Nat × SVal)} {mem : List Blk} {ck : Nat} {df : List (FuncId × List Cell)} {Q : Ex → St → Prop}
theorem tick_rel {a : Act} {w : World} (h : Rel B ⟨n, sl, mem, ck, df⟩ a w) : Rel B ⟨n, sl, mem, ck + 1, df⟩ a w := by
  obtain ⟨E, ⟨h1, h2, h3, h4⟩, hB⟩ := h
  exact ⟨E, ⟨⟨h1.below, h1.base, h1.F, ⟨fun r => Nat.le_succ_of_le (h1.mem.clock r), h1.mem.ok, h1.mem.apart⟩, h1.N⟩, h2, h3, h4⟩, hB⟩
theorem k_tick {c : Code} (h : ARun P B c ⟨n, sl, mem, ck + 1, df⟩ Q) : ARun P B c ⟨n, sl, mem, ck, df⟩ Q :=
  k_turn (τ := ⟨n, sl, mem, ck + 1, df⟩) rfl (fun _ _ hr => tick_rel hr) h
theorem k_ver (r : Nat) {k : Nat} {ety : TypeId} {esz : Nat} {es : List (List Dat)} {c : Code} (h : k ≤ ck → ARun P B c ⟨n, sl, mem, ck, df⟩ Q) (hm : mem[r]? = some (.arr k ety esz es) := by exact rfl) : ARun P B c ⟨n, sl, mem, ck, df⟩ Q := by
  intro a w hr
  refine h ?_ a w hr
  obtain ⟨E, ⟨h1, _⟩, _⟩ := hr
  have h2 : E.ver r = k := (h1.mem.ok r _ hm).1
  have h3 : E.ver r ≤ ck := h1.mem.clock r
  omega
end
section
variable {P : Program} {T : TypeId → Option TI} {F0 : Nat → Prop} {w0 : World}
variable {dr : Bool} {ops rest : List Oper} {K : St → Prop} {n : Nat} {sl : List (Nat × SVal)} {mem : List Blk} {ck : Nat} {df : List (FuncId × List Cell)} {acc : List Nat}
variable {d : Tmp} {op : Op} {ty : TypeId} {pos : String} {aft : Array Edge} {g : Option (Nat × Bool)}
theorem h_appA [tc : TC P T] (r kn : Nat) {t e : TypeId} {x y : Operand} {i ei : TI} {u : SVal} {ys es es' : List (List Dat)} {k j m : Nat} {mem' : List Blk} (h : Reg P F0 w0 dr ops K rest ⟨n, (d, .c (.arr r kn m)) :: sl, mem', ck, df⟩ (kindL r false :: acc)) (hkn : kn ≤ ck) (hlt : k < kn) (hj : j ≤ es.length) (hl : j + ys.length = m) (hmx : m ≤ maxLen) (hby : m * ei.bytes ≤ 140737488355328) (hsz : ∀ el ∈ ys, el.length = ei.size) (hes : es.take j ++ ys = es') (hm : mem[r]? = some (.arr k e ei.size es) := by exact rfl) (hw : GW ops g sl := by first | exact trivial | exact rfl)
    (hx : evS sl x = .c (.arr r k j) := by exact rfl) (hy : evS sl y = u := by exact (rfl : _ = SVal.c _)) (hs : srcOf u = some ys := by exact rfl) (ht : T t = some i := by exact rfl) (hi : i.desc = .slice e := by exact rfl) (hei : T e = some ei := by exact rfl) (hkk : Nat.beq ei.zero.length ei.size = true := by exact rfl) (hm' : mem.set r (.arr kn e ei.size es') = mem' := by exact rfl) :
    Reg P F0 w0 dr ops K (⟨some d, .call ⟨.builtin .append, #[x, y], #[t, t]⟩, ty, pos, aft, g⟩ :: rest) ⟨n, sl, mem, ck, df⟩ acc := by
  subst hm'; subst hes; subst hl
  refine at4 hw hm hkn (fun M c hM hc => doesM fun E w ρ hw' hρ => ?_) h
  have e1 := hρ x (by simp [Op.operands, Call.operands])
  have e2 := hρ y (by simp [Op.operands, Call.operands])
  rw [hx] at e1; rw [hy] at e2
  have hrep := src_rep e2 hs
  have hv : E.ver r < kn := by have := (hw'.mem.ok r _ hM).1; omega
  have hs1 : CRep E w (ρ x) (.arr r k j) := by
    generalize ρ x = vx at e1
    cases e1 with | c h => exact h
  obtain ⟨v', w', E', q1, q2, q3, q4⟩ := append_own tc.ok (ty := ty) hw' ht hi hei (by simpa using hkk) hsz hrep hM hs1 hj hmx hby hv (Nat.le_refl _) hc
  exact ⟨v', w', E', by simp [execOp, resolve, invoke, builtin, q1], q2, q3, .c q4⟩
end
end Go.Abs
end
end
section
section
namespace Go.Proofs.YtojfhaoleedmkaaGreat
open Go.Abs Go.RowKit
attribute [local irreducible] ARun kont MCall PCall HCall resVal SF CF CFs defersOk slotsIn memIn fin finM VLe
set_option linter.unusedSimpArgs false
set_option maxRecDepth 100000
set_option maxHeartbeats 4000000
def litsE (l : List Int) : List (List Dat) := l.map fun n => [.lit (.int .i64 n)]
theorem clone64_h (l : List Int) (hl : l.length ≤ 100000) : HCall Tryz.prog 152 [.c (.d (intsD l))] [] (.c (.arr 0 1 l.length)) [.arr 1 2 1 (litsE l)] := by
  by_cases hne : l = []
  · subst hne
    refine hcallN hT Tryz.func152 Tryz.ntmps152 [.tmp 2] fun B => ?_
    repeat' (first | ((with_reducible (refine is_retC ?_)); refine s_own 2 2 1 ?_) | refine ks ?_ | refine ko ?_ | refine s_if rfl (fun hb => ?_) (fun hb => ?_) | refine s_eqNil (fun b hnil => ?_) | refine fh_ret1 def_nil ?_ ?_ | exact memIn_nil | refine memIn_same ?_ | exact am_same)
    all_goals first
      | (simp; done)
      | rfl
  · have hpos : 0 < l.length := List.length_pos_iff.2 hne
    refine hcallN hT Tryz.func152 Tryz.ntmps152 [.tmp 2] fun B => ?_
    repeat' (first | refine ks ?_ | refine ko ?_ | refine s_if rfl (fun hb => ?_) (fun hb => ?_) | refine s_eqNil (fun b hnil => ?_) | refine fh_ret1 def_nil ?_ ?_ | exact memIn_nil | refine memIn_same ?_ | exact am_same)
    all_goals first
      | (exfalso; exact hne (by simpa using hnil hb))
      | (simp; done)
      | rfl
theorem cloneS_h (s : Sta) (hk : s.key.length ≤ 1000000) (h1 : s.sums.length ≤ 100000) (h2 : s.some.length ≤ 100000) : HCall Tryz.prog 121 [.agg (s.d.map .d)] [] (.agg [.d (rowD s.key), .d (.lit (.int .i64 s.count)), .arr 2 1 s.sums.length, .arr 3 1 s.some.length]) [.dead, .dead, .arr 1 2 1 (litsE s.sums), .arr 1 2 1 (litsE s.some)] := by
  have hc := clone_c s.key hk
  have c1 := clone64_h s.sums h1
  have c2 := clone64_h s.some h2
  refine hcallN hT Tryz.func121 Tryz.ntmps121 [.cell 2 90] fun B => ?_
  repeat' (first | refine s_freezeV 1 ?_ | refine ks ?_ | refine ko ?_ | refine s_call (hc) ?_ | refine s_callH [] (c1) ?_ | refine s_callH [] (c2) ?_ | exact memIn_nil | refine memIn_same ?_ | refine memIn_dead ?_ | exact am_same)
  refine fh_cellA (m1 := [.dead, .dead, .arr (0 + 1 + 1 + 1) 2 1 (litsE s.sums), .arr (0 + 1 + 1 + 1 + 1) 2 1 (litsE s.some)]) def_nil ?_ am_same (by repeat' (first | exact trivial | refine And.intro rfl ?_ | refine And.intro trivial ?_)) rfl rfl rfl rfl rfl rfl rfl
  repeat' (first | exact memIn_nil | refine memIn_same ?_ | refine memIn_dead ?_ | omega)
end Go.Proofs.YtojfhaoleedmkaaGreat
end
section
namespace Go.Proofs.YtojfhaoleedmkaaGreat
open Go.Abs Go.RowKit
attribute [local irreducible] ARun kont MCall PCall HCall resVal SF CF CFs defersOk slotsIn memIn fin finM VLe
set_option linter.unusedSimpArgs false
set_option maxRecDepth 100000
set_option maxHeartbeats 4000000
theorem zip_snoc {l m : List Int} {i : Nat} {a b : Int} (ha : l[i]? = some a) (hb : m[i]? = some b) : litsE ((List.zipWith (fun x y => w64 (x + y)) l m).take i) ++ [[Dat.lit (.int .i64 (IntKind.i64.wrap (a + b)))]] = litsE ((List.zipWith (fun x y => w64 (x + y)) l m).take (i + 1)) := by
  have h : (List.zipWith (fun x y => w64 (x + y)) l m)[i]? = some (w64 (a + b)) := by simp [List.getElem?_zipWith, ha, hb]
  rw [take_snoc' h]; simp [litsE, w64]
theorem plus_c (s t : Sta) (n : Nat) (hn : n ≤ 10000) (h1 : s.sums.length = n) (h2 : s.some.length = n) (h3 : t.sums.length = n) (h4 : t.some.length = n) : PCall Tryz.prog 114 [.agg s.d, .agg t.d] (.v (.agg (plusS s t).d)) := by
  have z1 : (List.zipWith (fun x y => w64 (x + y)) s.sums t.sums).length = n := by rw [List.length_zipWith]; omega
  have z2 : (List.zipWith (fun x y => w64 (x + y)) s.some t.some).length = n := by rw [List.length_zipWith]; omega
  refine pcallN hT Tryz.func114 Tryz.ntmps114 [.cell 4 90] fun B => ?_
  repeat' (first | refine s_freezeV 2 ?_ | refine s_freezeV 3 ?_ | refine ks ?_ | refine ko ?_ | refine s_indexD ?_ (hel := (by first | exact rfl)) | refine f_ret1 def_nil ?_ | refine t_cellG ?_ | exact cfs_nil | refine cfs_cons ?_ ?_ | refine cf_d ?_)
  refine s_ownBox 3 2 2 1 ?_
  refine s_ownBox 3 3 2 1 ?_
  refine s_lp (X := Nat × Nat × Nat) [6, 15, 16, 17, 18, 19, 20, 21, 22, 23, 24, 25, 26, 27, 28, 29, 30, 31, 32, 33, 34, 35, 36, 37, 38, 39, 40, 41, 42, 43, 44, 45, 46, 47, 48, 49, 50, 51, 52, 53] (fun x => x.1 ≤ n) (fun x lz => (6, (.c (.d (.lit (.int .i64 x.1))))) :: lz) (fun x => [.dead, .dead, .box 3 [.emp, .d (.lit (.int .i64 0)), .emp, .emp], .box 4 [.d (rowD s.key), .d (.lit (.int .i64 (w64 (s.count + t.count)))), .arr 4 x.2.1 x.1, .arr 5 x.2.2 x.1], .arr x.2.1 2 1 (litsE ((List.zipWith (fun x y => w64 (x + y)) s.sums t.sums).take x.1)), .arr x.2.2 2 1 (litsE ((List.zipWith (fun x y => w64 (x + y)) s.some t.some).take x.1))]) (fun x => n - x.1) ((0, 5, 6)) ?_ ?_ ?_ ?_
  repeat' (first | exact slots_nil | refine kw ?_ | exact memIn_nil | refine kv ?_ ?_ | omega)
  all_goals try rfl
  rintro ⟨i, r1, r2⟩ c hi
  dsimp only at hi ⊢
  have l1 : (litsE ((List.zipWith (fun x y => w64 (x + y)) s.sums t.sums).take i)).length = i := by unfold litsE; rw [List.length_map, List.length_take]; omega
  have l2 : (litsE ((List.zipWith (fun x y => w64 (x + y)) s.some t.some).take i)).length = i := by unfold litsE; rw [List.length_map, List.length_take]; omega
  by_cases hlt : i < n
  · have u1 : s.sums[i]? = some (s.sums[i]'(by omega)) := List.getElem?_eq_getElem _
    have u2 : s.some[i]? = some (s.some[i]'(by omega)) := List.getElem?_eq_getElem _
    have u3 : t.sums[i]? = some (t.sums[i]'(by omega)) := List.getElem?_eq_getElem _
    have u4 : t.some[i]? = some (t.some[i]'(by omega)) := List.getElem?_eq_getElem _
    generalize s.sums[i]'(by omega) = a at u1
    generalize s.some[i]'(by omega) = b at u2
    generalize t.sums[i]'(by omega) = a2 at u3
    generalize t.some[i]'(by omega) = b2 at u4
    have hs1 := zip_snoc u1 u3
    have hs2 := zip_snoc u2 u4
    generalize hZ1 : litsE ((List.zipWith (fun x y => w64 (x + y)) s.sums t.sums).take (i + 1)) = Z1 at hs1
    generalize hZ2 : litsE ((List.zipWith (fun x y => w64 (x + y)) s.some t.some).take (i + 1)) = Z2 at hs2
    generalize litsE ((List.zipWith (fun x y => w64 (x + y)) s.sums t.sums).take i) = Y1 at hs1 l1 ⊢
    generalize litsE ((List.zipWith (fun x y => w64 (x + y)) s.some t.some).take i) = Y2 at hs2 l2 ⊢
    refine k_ver 4 fun hr1 => ?_
    refine k_ver 5 fun hr2 => ?_
    refine k_tick ?_
    repeat' (first | refine h_fieldB (dr := true) ?_ | refine h_loadB1 (dr := true) ?_ | refine h_storeB (dr := true) ?_ | (refine h_appA (dr := true) (ei := ti2) (k := r1) (es := Y1) (ys := [[.lit (.int .i64 (IntKind.i64.wrap (a + a2)))]]) (es' := Z1) 4 (c + 1) (j := i) (m := i + 1) ?_ (by omega) (by omega) (by omega) rfl (by simp only [maxLen]; omega) (by simp only [ti2]; omega) (sized_cons rfl sized_nil) (by rw [take_ge (by omega)]; exact hs1)) | (refine h_appA (dr := true) (ei := ti2) (k := r2) (es := Y2) (ys := [[.lit (.int .i64 (IntKind.i64.wrap (b + b2)))]]) (es' := Z2) 5 (c + 1) (j := i) (m := i + 1) ?_ (by omega) (by omega) (by omega) rfl (by simp only [maxLen]; omega) (by simp only [ti2]; omega) (sized_cons rfl sized_nil) (by rw [take_ge (by omega)]; exact hs2)) | refine ks ?_ | refine ko ?_ | refine s_indexD ?_ (hel := (by first | exact idx_map u1 (by omega) | exact idx_map u2 (by omega) | exact idx_map u3 (by omega) | exact idx_map u4 (by omega) | exact u1 | exact u2 | exact u3 | exact u4 | exact rfl)) | refine f_ret1 def_nil ?_ | refine t_cellG ?_ | exact cfs_nil | refine cfs_cons ?_ ?_ | refine cf_d ?_)
    (apply s_round ((i + 1, c + 1, c + 1)); all_goals (try dsimp only); all_goals (try (repeat' (first | exact slots_nil | refine kw ?_ | exact memIn_nil | refine kv ?_ ?_ | omega))))
    all_goals first
      | exact hZ1.symm
      | exact hZ2.symm
      | skip
  · obtain rfl : i = n := by omega
    have e1 : (List.zipWith (fun x y => w64 (x + y)) s.sums t.sums).take i = (plusS s t).sums := List.take_of_length_le (by omega)
    have e2 : (List.zipWith (fun x y => w64 (x + y)) s.some t.some).take i = (plusS s t).some := List.take_of_length_le (by omega)
    rw [e1] at l1 ⊢
    rw [e2] at l2 ⊢
    refine s_freezeB 3 2 4 ?_ rfl rfl rfl (by omega) (take_ge (by omega)) rfl
    refine s_freezeB 3 3 5 ?_ rfl rfl rfl (by omega) (take_ge (by omega)) rfl
    repeat' (first | refine ks ?_ | refine ko ?_ | refine s_indexD ?_ (hel := (by first | exact rfl)) | refine f_ret1 def_nil ?_ | refine t_cellG ?_ | exact cfs_nil | refine cfs_cons ?_ ?_ | refine cf_d ?_)
    all_goals rfl
end Go.Proofs.YtojfhaoleedmkaaGreat
end
end
end
