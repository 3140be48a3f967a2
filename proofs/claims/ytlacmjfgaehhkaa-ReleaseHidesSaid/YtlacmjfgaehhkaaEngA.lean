/-
  What one operation does, said so that operations whose order is open may be exchanged; regions walked one operation after the other.
-/
import Derived.Test.YtlacmjfgaehhkaaAbsN
import Derived.Orders
namespace Go.Abs
open Go.RowKit

def upd (σ : St) (d : Option Tmp) (v : SVal) (m : List Blk) (c : Nat) (df : List (FuncId × List Cell)) : St :=
  { n := σ.n, slots := (match d with | some t => (t, v) :: σ.slots | none => σ.slots), mem := m, clock := c, defers := df ++ σ.defers }

/-- Two states that read alike. -/
structure Same (σ τ : St) : Prop where
  n : τ.n = σ.n
  get : ∀ t, τ.get t = σ.get t
  mem : τ.mem = σ.mem
  clock : τ.clock = σ.clock
  defers : τ.defers = σ.defers

theorem Same.refl (σ : St) : Same σ σ := ⟨rfl, fun _ => rfl, rfl, rfl, rfl⟩
theorem Same.symm {σ τ : St} (h : Same σ τ) : Same τ σ := ⟨h.n.symm, fun t => (h.get t).symm, h.mem.symm, h.clock.symm, h.defers.symm⟩
theorem Same.trans {a b c : St} (h : Same a b) (k : Same b c) : Same a c := ⟨k.n.trans h.n, fun t => (k.get t).trans (h.get t), k.mem.trans h.mem, k.clock.trans h.clock, k.defers.trans h.defers⟩

theorem Same.ev {σ τ : St} (h : Same σ τ) : τ.ev = σ.ev := by
  funext x
  cases x <;> first | exact h.get _ | rfl

section
variable (P : Program) (F0 : Nat → Prop) (w0 : World)

/-- What one operation does, where its operands, the memory and the clock are seen so. -/
def Does (o : Oper) (ev : Operand → SVal) (mem : List Blk) (clock : Nat) (R : SVal → List Blk → Nat → List (FuncId × List Cell) → Prop) : Prop :=
  ∀ (B : Base) (σ : St) (E : Env) (a : Act) (w : World), B.F0 = F0 → B.w0 = w0 → (∀ x ∈ o.op.operands.toList, σ.ev x = ev x) → σ.mem = mem → σ.clock = clock →
    RelE F0 w0 E σ a w → EnvLe B.E B.w E w → (∀ d, o.dst = some d → d < σ.n) →
    ∀ (next : Act → World → Prop) (Q : Exit → Act → World → Prop), (∀ v m c df a' w', R v m c df → Rel B (upd σ o.dst v m c df) a' w' → next a' w') → o.wp P a w next Q

def Only (v : SVal) (m : List Blk) (c : Nat) (df : List (FuncId × List Cell)) : SVal → List Blk → Nat → List (FuncId × List Cell) → Prop :=
  fun v' m' c' df' => v' = v ∧ m' = m ∧ c' = c ∧ df' = df

def guardOf (ops : List Oper) (o : Oper) : Option (Option (Tmp × Bool)) :=
  match o.guard with
  | none => some none
  | some (j, want) => (match (ops[j]?).bind (·.dst) with
    | some d => some (some (d, want))
    | none => none)

def Wants (g : Option (Tmp × Bool)) (σ : St) : Prop :=
  match g with
  | none => True
  | some (d, w) => σ.get d = boo w

/-- What binds an operation, as the bits of one number. -/
def edgeBits (ms : List Nat) : List Edge → Nat
  | [] => 0
  | e :: es => if Region.binds .any e then (1 <<< e.on) ||| ms.getD e.on 0 ||| edgeBits ms es else edgeBits ms es

def masks : List Oper → List Nat → List Nat
  | [], ms => ms
  | o :: os, ms => masks os (ms ++ [edgeBits ms o.after.toList])

def looks (o : Oper) (g : Option (Tmp × Bool)) : List Tmp :=
  o.op.operands.toList.filterMap (fun x => match x with | .tmp t => some t | _ => none) ++ (match g with | some (d, _) => [d] | none => [])

def indepK (ops : List Oper) (x o : Oper) (kx ko : Nat) : Bool :=
  match guardOf ops x, guardOf ops o with
  | some gx, some go =>
    (match x.dst with | some d => !(looks o go).contains d && o.dst != some d | none => true) &&
    (match o.dst with | some d => !(looks x gx).contains d | none => true) &&
    (kx == 0 || ko == 0 || (kx != 2 && ko != 2))
  | _, _ => false

def drawOkK (ops : List Oper) (kinds : List Nat) : Bool :=
  let ms := masks ops []
  (List.range ops.length).all fun i => (match ops[i]? with
    | some o => (o.after.all fun e => !Region.binds .any e || decide (e.on < i)) &&
        (List.range i).all fun j => (match ops[j]? with
          | some x => (ms.getD i 0).testBit j || indepK ops x o (kinds.getD j 0) (kinds.getD i 0)
          | none => false)
    | none => false)

/-- A region, operation by operation. The kinds: 0: it does not hang on the memory; 1: it reads it; 2: it turns it. -/
inductive Reg (dr : Bool) (ops : List Oper) (K : St → Prop) : List Oper → St → List Nat → Prop
  | nil {σ : St} {acc : List Nat} (hf : dr = false ∨ drawOkK ops acc.reverse = true) (h : K σ) : Reg dr ops K [] σ acc
  | step {o : Oper} {rest : List Oper} {σ : St} {acc : List Nat} {g : Option (Tmp × Bool)} (k : Nat) (v : SVal) (m : List Blk) (c : Nat) (df : List (FuncId × List Cell))
      (hg : guardOf ops o = some g) (hw : Wants g σ) (hk : k = 2 ∨ (m = σ.mem ∧ c = σ.clock ∧ df = [])) (hd : Does P F0 w0 o σ.ev σ.mem σ.clock (Only v m c df))
      (h0 : k = 0 → ∀ mem ck, Does P F0 w0 o σ.ev mem ck (Only v mem ck [])) (h : Reg dr ops K rest (upd σ o.dst v m c df) (k :: acc)) : Reg dr ops K (o :: rest) σ acc
  | rel {o : Oper} {rest : List Oper} {σ : St} {acc : List Nat} {g : Option (Tmp × Bool)} (R : SVal → List Blk → Nat → List (FuncId × List Cell) → Prop) (hdr : dr = false)
      (hg : guardOf ops o = some g) (hw : Wants g σ) (hd : Does P F0 w0 o σ.ev σ.mem σ.clock R) (h : ∀ v m c df, R v m c df → Reg dr ops K rest (upd σ o.dst v m c df) (2 :: acc)) : Reg dr ops K (o :: rest) σ acc
  | skip {o : Oper} {rest : List Oper} {σ : St} {acc : List Nat} {d : Tmp} {want : Bool} (hg : guardOf ops o = some (some (d, want))) (hw : σ.get d = boo (!want) ∨ σ.get d = .und)
      (h : Reg dr ops K rest (upd σ o.dst .und σ.mem σ.clock []) (0 :: acc)) : Reg dr ops K (o :: rest) σ acc
  | alike {rest : List Oper} {σ τ : St} {acc : List Nat} (hs : Same σ τ) (h : Reg dr ops K rest τ acc) : Reg dr ops K rest σ acc
  | turn {rest : List Oper} {σ τ : St} {acc : List Nat} (hdr : dr = false) (hn : τ.n = σ.n) (ht : ∀ B a w, B.F0 = F0 → B.w0 = w0 → Rel B σ a w → Rel B τ a w) (h : Reg dr ops K rest τ acc) : Reg dr ops K rest σ acc
end

section
variable {P : Program} {T : TypeId → Option TI} {B : Base}

theorem Does.of {F0 : Nat → Prop} {w0 : World} (hT : TypesOk P T) {o : Oper} {ev : Operand → SVal} {mem : List Blk} {clock : Nat} {R : SVal → List Blk → Nat → List (FuncId × List Cell) → Prop}
    (h : ∀ σ : St, (∀ x ∈ o.op.operands.toList, σ.ev x = ev x) → σ.mem = mem → σ.clock = clock → ∀ K : St → Prop, (∀ v m c df, R v m c df → K (upd σ o.dst v m c df)) → astep P T F0 w0 o σ K) : Does P F0 w0 o ev mem clock R := by
  intro B σ E a w hF hw he hm hc hr hB hd next Q hn
  subst hF; subst hw
  refine astep_sound hT (h σ he hm hc (fun τ => ∃ v m c df, R v m c df ∧ τ = upd σ o.dst v m c df) (fun v m c df hR => ⟨v, m, c, df, hR, rfl⟩)) hr hB hd fun σ' a' w' hrel _ hK => ?_
  obtain ⟨v, m, c, df, hR, rfl⟩ := hK
  exact hn v m c df a' w' hR hrel

theorem Same.rel {σ τ : St} (h : Same σ τ) {a : Act} {w : World} (hr : Rel B σ a w) : Rel B τ a w := by
  obtain ⟨E, ⟨h1, h2, h3, h4⟩, hB⟩ := hr
  exact ⟨E, ⟨by rw [h.mem, h.clock]; exact h1, by rw [h.n]; exact h2, by rw [h.defers]; exact h3, fun t => by rw [h.get t]; exact h4 t⟩, hB⟩

theorem dst_of {N : Nat} {ops : List Oper} (hdst : ∀ o ∈ ops, ∀ d, o.dst = some d → d < N) {j d : Nat} (hj : (ops[j]?).bind (·.dst) = some d) : d < N := by
  cases ho : ops[j]? with
  | none => rw [ho] at hj; cases hj
  | some o' => rw [ho] at hj; exact hdst o' (List.mem_of_getElem? ho) d hj

theorem wanted_yes {N : Nat} {ops : List Oper} (hdst : ∀ o ∈ ops, ∀ d, o.dst = some d → d < N) {o : Oper} {g : Option (Tmp × Bool)} (hg : guardOf ops o = some g) {σ : St} (hn : σ.n = N) (hw : Wants g σ) {E : Env} {a : Act} {w : World} (hr : RelE B.F0 B.w0 E σ a w) :
    Region.wanted o (yielded ops.toArray a.tmps) = true := by
  unfold guardOf at hg
  split at hg
  · rename_i hgu
    simp [Region.wanted, hgu]
  · rename_i j want hgu
    split at hg
    · rename_i d hj
      simp only [Option.some.injEq] at hg
      subst hg
      have hdn := dst_of hdst hj
      have hsz : d < a.tmps.size := by rw [hr.2.1, hn]; exact hdn
      have hy := yielded_of hj a.tmps hsz
      have hsd := hr.2.2.2 d
      simp only [Wants] at hw
      rw [hw] at hsd
      have hv := hsd.lit_inv
      rw [hv] at hy
      simp [Region.wanted, hgu, hy]
    · cases hg

theorem wanted_no {N : Nat} {ops : List Oper} (hdst : ∀ o ∈ ops, ∀ d, o.dst = some d → d < N) {o : Oper} {d : Tmp} {want : Bool} (hg : guardOf ops o = some (some (d, want))) {σ : St} (hn : σ.n = N) (hw : σ.get d = boo (!want) ∨ σ.get d = .und) {E : Env} {a : Act} {w : World} (hr : RelE B.F0 B.w0 E σ a w) :
    ¬ Region.wanted o (yielded ops.toArray a.tmps) = true := by
  unfold guardOf at hg
  split at hg
  · cases hg
  · rename_i j want' hgu
    split at hg
    · rename_i d' hj
      simp only [Option.some.injEq, Prod.mk.injEq] at hg
      obtain ⟨rfl, rfl⟩ := hg
      have hdn := dst_of hdst hj
      have hsz : d' < a.tmps.size := by rw [hr.2.1, hn]; exact hdn
      have hy := yielded_of hj a.tmps hsz
      have hsd := hr.2.2.2 d'
      rcases hw with hw | hw
      · rw [hw] at hsd
        have hv := hsd.lit_inv
        rw [hv] at hy
        cases want' <;> simp [Region.wanted, hgu, hy]
      · rw [hw] at hsd
        have hv : a.tmps.getD d' undef = undef := by generalize a.tmps.getD d' undef = v at hsd; cases hsd; rfl
        rw [hv] at hy
        simp [Region.wanted, hgu, hy, undef]
    · cases hg

theorem upd_und {E : Env} {σ : St} {a : Act} {w : World} (h : RelE B.F0 B.w0 E σ a w) {dst : Option Tmp} (hd : ∀ d, dst = some d → d < σ.n) : RelE B.F0 B.w0 E (upd σ dst .und σ.mem σ.clock []) (a.put dst undef) w := by
  have := h.putO hd .und
  cases dst <;> exact this

theorem reg_list {ops : List Oper} {N : Nat} (hdst : ∀ o ∈ ops, ∀ d, o.dst = some d → d < N) {K : St → Prop} {dr : Bool} {Q : Exit → Act → World → Prop} (hk : ∀ τ a w, Rel B τ a w → τ.n = N → K τ → Q .normal a w) :
    ∀ {l : List Oper} {σ : St} {acc : List Nat}, Reg P B.F0 B.w0 dr ops K l σ acc → (∀ o ∈ l, o ∈ ops) → ∀ (a : Act) (w : World), σ.n = N → Rel B σ a w → wpList P ops.toArray Q l a w := by
  intro l σ acc h
  induction h with
  | nil hf h => exact fun _ a w hn hr => hk _ a w hr hn h
  | step k v m c df hg hw hkk hd h0 h ih =>
    rename_i o rest σ' acc' g'
    intro hl a w hn hr
    obtain ⟨E, hr, hB⟩ := hr
    unfold wpList
    rw [if_pos (wanted_yes hdst hg hn hw hr)]
    refine .inl (hd B σ' E a w rfl rfl (fun _ _ => rfl) rfl rfl hr hB (fun d hd' => by rw [hn]; exact hdst o (hl o (by simp)) d hd') _ _ fun v' m' c' df' a' w' hR hrel => ?_)
    obtain ⟨rfl, rfl, rfl, rfl⟩ := hR
    exact ih (fun o ho => hl o (by simp [ho])) a' w' hn hrel
  | rel R hdr hg hw hd h ih =>
    rename_i o rest σ' acc' g'
    intro hl a w hn hr
    obtain ⟨E, hr, hB⟩ := hr
    unfold wpList
    rw [if_pos (wanted_yes hdst hg hn hw hr)]
    refine .inl (hd B σ' E a w rfl rfl (fun _ _ => rfl) rfl rfl hr hB (fun d hd' => by rw [hn]; exact hdst o (hl o (by simp)) d hd') _ _ fun v' m' c' df' a' w' hR hrel => ?_)
    exact ih v' m' c' df' hR (fun o ho => hl o (by simp [ho])) a' w' hn hrel
  | skip hg hw h ih =>
    rename_i o rest σ' acc' d' want'
    intro hl a w hn hr
    obtain ⟨E, hr, hB⟩ := hr
    unfold wpList
    rw [if_neg (wanted_no hdst hg hn hw hr)]
    exact ih (fun o ho => hl o (by simp [ho])) _ w hn ⟨E, upd_und hr (fun d hd' => by rw [hn]; exact hdst o (hl o (by simp)) d hd'), hB⟩
  | alike hs h ih =>
    intro hl a w hn hr
    exact ih hl a w (hs.n.trans hn) (hs.rel hr)
  | turn hdr hn' ht h ih =>
    intro hl a w hn hr
    exact ih hl a w (hn'.trans hn) (ht B a w rfl rfl hr)

theorem upd_get (σ : St) (d : Option Tmp) (v : SVal) (m : List Blk) (c : Nat) (df : List (FuncId × List Cell)) (t : Nat) : (upd σ d v m c df).get t = if d = some t then v else σ.get t := by
  cases d with
  | none => simp [upd, St.get]
  | some s => simp only [upd, St.get, look_put, Option.some.injEq]

theorem upd_ev {σ : St} {d : Option Tmp} {v : SVal} {m : List Blk} {c : Nat} {df : List (FuncId × List Cell)} {x : Operand} (h : ∀ t, d = some t → x ≠ .tmp t) : (upd σ d v m c df).ev x = σ.ev x := by
  cases x with
  | tmp t =>
    simp only [St.ev, upd_get]
    rw [if_neg (fun e => h t e rfl)]
  | _ => rfl

/-- What one place of a region does. -/
def Loc (P : Program) (F0 : Nat → Prop) (w0 : World) (o : Oper) (g : Option (Tmp × Bool)) (k : Nat) (σ : St) (v : SVal) (m : List Blk) (c : Nat) (df : List (FuncId × List Cell)) : Prop :=
  (k = 2 ∨ (m = σ.mem ∧ c = σ.clock ∧ df = [])) ∧
  ((Wants g σ ∧ Does P F0 w0 o σ.ev σ.mem σ.clock (Only v m c df) ∧ (k = 0 → ∀ mem ck, Does P F0 w0 o σ.ev mem ck (Only v mem ck []))) ∨
   (∃ d want, g = some (d, want) ∧ (σ.get d = boo (!want) ∨ σ.get d = .und) ∧ v = .und ∧ m = σ.mem ∧ c = σ.clock ∧ df = []))

theorem Does.agree {F0 : Nat → Prop} {w0 : World} {o : Oper} {ev ev' : Operand → SVal} {mem : List Blk} {clock : Nat} {R : SVal → List Blk → Nat → List (FuncId × List Cell) → Prop} (h : Does P F0 w0 o ev mem clock R) (he : ∀ x ∈ o.op.operands.toList, ev' x = ev x) :
    Does P F0 w0 o ev' mem clock R := fun B σ E a w h1 h2 h3 => h B σ E a w h1 h2 fun x hx => (h3 x hx).trans (he x hx)

theorem Wants.agree {g : Option (Tmp × Bool)} {σ τ : St} (h : Wants g σ) (he : ∀ d want, g = some (d, want) → τ.get d = σ.get d) : Wants g τ := by
  unfold Wants at h ⊢
  split
  · trivial
  · rename_i d want; simp only at h; rw [he d want rfl]; exact h

theorem Loc.same {F0 : Nat → Prop} {w0 : World} {o : Oper} {g : Option (Tmp × Bool)} {k : Nat} {σ τ : St} {v : SVal} {m : List Blk} {c : Nat} {df : List (FuncId × List Cell)} (h : Loc P F0 w0 o g k σ v m c df)
    (he : ∀ x ∈ o.op.operands.toList, τ.ev x = σ.ev x) (hg : ∀ d want, g = some (d, want) → τ.get d = σ.get d) (hm : τ.mem = σ.mem) (hc : τ.clock = σ.clock) : Loc P F0 w0 o g k τ v m c df := by
  obtain ⟨h1, h2⟩ := h
  refine ⟨by rw [hm, hc]; exact h1, ?_⟩
  rcases h2 with ⟨a, b, e⟩ | ⟨d, want, a, b, e1, e2, e3, e4⟩
  · exact .inl ⟨a.agree hg, by rw [hm, hc]; exact b.agree he, fun q mem ck => (e q mem ck).agree he⟩
  · exact .inr ⟨d, want, a, by rw [hg d want a]; exact b, e1, by rw [hm]; exact e2, by rw [hc]; exact e3, e4⟩

theorem Loc.zero {F0 : Nat → Prop} {w0 : World} {o : Oper} {g : Option (Tmp × Bool)} {σ τ : St} {v : SVal} {m : List Blk} {c : Nat} {df : List (FuncId × List Cell)} (h : Loc P F0 w0 o g 0 σ v m c df)
    (he : ∀ x ∈ o.op.operands.toList, τ.ev x = σ.ev x) (hg : ∀ d want, g = some (d, want) → τ.get d = σ.get d) : Loc P F0 w0 o g 0 τ v τ.mem τ.clock [] := by
  obtain ⟨h1, h2⟩ := h
  refine ⟨.inr ⟨rfl, rfl, rfl⟩, ?_⟩
  rcases h2 with ⟨a, b, e⟩ | ⟨d, want, a, b, e1, e2, e3, e4⟩
  · exact .inl ⟨a.agree hg, (e rfl _ _).agree he, fun q mem ck => (e q mem ck).agree he⟩
  · exact .inr ⟨d, want, a, by rw [hg d want a]; exact b, e1, rfl, rfl, rfl⟩

inductive Lin (P : Program) (F0 : Nat → Prop) (w0 : World) (ops : List Oper) (κ : List Nat) : List Nat → St → St → Prop
  | nil (σ : St) : Lin P F0 w0 ops κ [] σ σ
  | cons {i : Nat} {is : List Nat} {σ τ : St} {o : Oper} {g : Option (Tmp × Bool)} (v : SVal) (m : List Blk) (c : Nat) (df : List (FuncId × List Cell)) (ho : ops[i]? = some o) (hg : guardOf ops o = some g)
      (hl : Loc P F0 w0 o g (κ.getD i 0) σ v m c df) (h : Lin P F0 w0 ops κ is (upd σ o.dst v m c df) τ) : Lin P F0 w0 ops κ (i :: is) σ τ

theorem Same.upd {σ τ : St} (h : Same σ τ) (d : Option Tmp) (v : SVal) (m : List Blk) (c : Nat) (df : List (FuncId × List Cell)) : Same (upd σ d v m c df) (upd τ d v m c df) := by
  refine ⟨h.n, fun t => ?_, rfl, rfl, ?_⟩
  · rw [upd_get, upd_get, h.get t]
  · simp only [Go.Abs.upd]; rw [h.defers]

theorem Lin.same {F0 : Nat → Prop} {w0 : World} {ops : List Oper} {κ : List Nat} {is : List Nat} {σ τ : St} (h : Lin P F0 w0 ops κ is σ τ) : ∀ {σ' : St}, Same σ σ' → ∃ τ', Lin P F0 w0 ops κ is σ' τ' ∧ Same τ τ' := by
  induction h with
  | nil σ => exact fun {σ'} hs => ⟨σ', .nil _, hs⟩
  | cons v m c df ho hg hl h ih =>
    intro σ' hs
    obtain ⟨τ', h1, h2⟩ := ih (hs.upd _ v m c df)
    exact ⟨τ', .cons v m c df ho hg (hl.same (fun x _ => by rw [hs.ev]) (fun d _ _ => hs.get d) hs.mem hs.clock) h1, h2⟩

theorem looks_not {o : Oper} {g : Option (Tmp × Bool)} {d : Tmp} (h : (!(looks o g).contains d) = true) : (∀ z ∈ o.op.operands.toList, z ≠ .tmp d) ∧ ∀ want, g ≠ some (d, want) := by
  have hn : ¬ d ∈ looks o g := by simpa using h
  refine ⟨fun z hz e => hn ?_, fun want e => hn ?_⟩
  · subst e
    exact List.mem_append.2 (.inl (List.mem_filterMap.2 ⟨.tmp d, hz, rfl⟩))
  · subst e
    exact List.mem_append.2 (.inr (by simp))

theorem Lin.swap {F0 : Nat → Prop} {w0 : World} {ops : List Oper} {κ : List Nat} {i j : Nat} {is : List Nat} {σ τ : St} {x o : Oper} (hx : ops[i]? = some x) (ho : ops[j]? = some o) (hi : indepK ops x o (κ.getD i 0) (κ.getD j 0) = true)
    (h : Lin P F0 w0 ops κ (i :: j :: is) σ τ) : ∃ τ', Lin P F0 w0 ops κ (j :: i :: is) σ τ' ∧ Same τ τ' := by
  cases h with | cons v1 m1 c1 df1 ho1 hg1 hl1 h1 =>
  cases h1 with | cons v2 m2 c2 df2 ho2 hg2 hl2 h2 =>
  rename_i x' gx o' go
  obtain rfl : x' = x := by rw [hx] at ho1; exact (Option.some.inj ho1).symm
  obtain rfl : o' = o := by rw [ho] at ho2; exact (Option.some.inj ho2).symm
  unfold indepK at hi
  rw [hg1, hg2] at hi
  simp only [Bool.and_eq_true] at hi
  obtain ⟨⟨i1, i2⟩, i3⟩ := hi
  have a1 : ∀ d, x'.dst = some d → ((∀ z ∈ o'.op.operands.toList, z ≠ .tmp d) ∧ ∀ want, go ≠ some (d, want)) ∧ o'.dst ≠ some d := by
    intro d hd
    rw [hd] at i1
    simp only [Bool.and_eq_true] at i1
    exact ⟨looks_not i1.1, by simpa using i1.2⟩
  have a2 : ∀ d, o'.dst = some d → (∀ z ∈ x'.op.operands.toList, z ≠ .tmp d) ∧ ∀ want, gx ≠ some (d, want) := by
    intro d hd
    rw [hd] at i2
    exact looks_not i2
  have eo : ∀ (m : List Blk) (c : Nat) (df : List (FuncId × List Cell)), ∀ z ∈ o'.op.operands.toList, σ.ev z = (upd σ x'.dst v1 m c df).ev z := fun m c df z hz => (upd_ev (fun t ht => (a1 t ht).1.1 z hz)).symm
  have go' : ∀ (m : List Blk) (c : Nat) (df : List (FuncId × List Cell)) (d : Tmp) (want : Bool), go = some (d, want) → σ.get d = (upd σ x'.dst v1 m c df).get d := fun m c df d want e => by
    rw [upd_get, if_neg (fun q => (a1 d q).1.2 want e)]
  have ex : ∀ (m : List Blk) (c : Nat) (df : List (FuncId × List Cell)), ∀ z ∈ x'.op.operands.toList, (upd σ o'.dst v2 m c df).ev z = σ.ev z := fun m c df z hz => upd_ev (fun t ht => (a2 t ht).1 z hz)
  have gx' : ∀ (m : List Blk) (c : Nat) (df : List (FuncId × List Cell)) (d : Tmp) (want : Bool), gx = some (d, want) → (upd σ o'.dst v2 m c df).get d = σ.get d := fun m c df d want e => by
    rw [upd_get, if_neg (fun q => (a2 d q).2 want e)]
  have hgets : ∀ m c df m' c' df' m2' c2' df2' m3 c3 df3 t, (upd (upd σ o'.dst v2 m c df) x'.dst v1 m' c' df').get t = (upd (upd σ x'.dst v1 m2' c2' df2') o'.dst v2 m3 c3 df3).get t := by
    intro m c df m' c' df' m2' c2' df2' m3 c3 df3 t
    simp only [upd_get]
    by_cases h1 : x'.dst = some t
    · have := (a1 t h1).2
      simp [h1, this]
    · simp [h1]
  have fin : ∀ {m m' : List Blk} {c c' : Nat} {df df' : List (FuncId × List Cell)}, Loc P F0 w0 o' go (κ.getD j 0) σ v2 m c df → Loc P F0 w0 x' gx (κ.getD i 0) (upd σ o'.dst v2 m c df) v1 m' c' df' → m' = m2 → c' = c2 → df' ++ df = df2 ++ df1 →
      ∃ τ', Lin P F0 w0 ops κ (j :: i :: is) σ τ' ∧ Same τ τ' := by
    intro m m' c c' df df' l1 l2 e1 e2 e3
    have hs : Same (upd (upd σ x'.dst v1 m1 c1 df1) o'.dst v2 m2 c2 df2) (upd (upd σ o'.dst v2 m c df) x'.dst v1 m' c' df') := by
      refine ⟨rfl, fun t => hgets _ _ _ _ _ _ _ _ _ _ _ _ t, e1, e2, ?_⟩
      simp only [upd, ← List.append_assoc, e3]
    obtain ⟨τ', q1, q2⟩ := h2.same hs
    exact ⟨τ', .cons _ _ _ _ ho hg2 l1 (.cons _ _ _ _ hx hg1 l2 q1), q2⟩
  have k1 := hl1.1
  have k2 := hl2.1
  by_cases ko : κ.getD j 0 = 0
  · rw [ko] at hl2 k2
    obtain ⟨rfl, rfl, rfl⟩ := k2.resolve_left (by simp)
    exact fin (m := σ.mem) (c := σ.clock) (df := []) (by rw [ko]; exact hl2.zero (eo _ _ _) (go' _ _ _)) (hl1.same (ex _ _ _) (gx' _ _ _) rfl rfl) rfl rfl (by simp)
  · by_cases kx : κ.getD i 0 = 0
    · rw [kx] at hl1 k1
      obtain ⟨rfl, rfl, rfl⟩ := k1.resolve_left (by simp)
      exact fin (hl2.same (eo _ _ _) (go' _ _ _) rfl rfl) (by rw [kx]; exact hl1.zero (ex _ _ _) (gx' _ _ _)) rfl rfl (by simp)
    · have hne : κ.getD i 0 ≠ 2 ∧ κ.getD j 0 ≠ 2 := by
        simp only [Bool.or_eq_true, Bool.and_eq_true, beq_iff_eq, bne_iff_ne] at i3
        rcases i3 with (q | q) | q
        · exact absurd q kx
        · exact absurd q ko
        · exact q
      obtain ⟨rfl, rfl, rfl⟩ := k1.resolve_left hne.1
      obtain ⟨rfl, rfl, rfl⟩ := k2.resolve_left hne.2
      exact fin (hl2.same (eo _ _ _) (go' _ _ _) rfl rfl) (hl1.same (ex _ _ _) (gx' _ _ _) rfl rfl) rfl rfl rfl

theorem Lin.pull {F0 : Nat → Prop} {w0 : World} {ops : List Oper} {κ : List Nat} {j : Nat} {Bk : List Nat} {o : Oper} (ho : ops[j]? = some o) : ∀ (A : List Nat) {σ τ : St}, (∀ i ∈ A, ∃ x, ops[i]? = some x ∧ indepK ops x o (κ.getD i 0) (κ.getD j 0) = true) →
    Lin P F0 w0 ops κ (A ++ j :: Bk) σ τ → ∃ τ', Lin P F0 w0 ops κ (j :: (A ++ Bk)) σ τ' ∧ Same τ τ'
  | [], σ, τ, _, h => ⟨τ, h, Same.refl _⟩
  | i :: A, σ, τ, hA, h => by
    cases h with | cons v m c df ho1 hg1 hl1 h1 =>
    obtain ⟨τ1, q1, q2⟩ := Lin.pull ho A (fun i hi => hA i (by simp [hi])) h1
    obtain ⟨x, hx, hi⟩ := hA i (by simp)
    obtain ⟨τ2, p1, p2⟩ := Lin.swap hx ho hi (.cons v m c df ho1 hg1 hl1 q1)
    exact ⟨τ2, p1, q2.trans p2⟩
end
end Go.Abs
