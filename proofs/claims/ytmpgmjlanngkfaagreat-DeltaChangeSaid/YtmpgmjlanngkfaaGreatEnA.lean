/-
  What one operation does, said so that operations whose order is open may be exchanged; regions walked one operation after the other.
-/
import Derived.Test.YtmpgmjlanngkfaaGreatAbC
import Derived.Orders
section
namespace Go.Abs
open Go.RowKit
variable {E : Env} {N c clock i j k r : Nat} {a : Act} {b rd want : Bool} {dg : Tmp} {dst : Option Tmp} {o : Oper} {v : SVal} {w : World} {κ : List Nat} {σ τ : St}
def upd (σ : St) (d : Option Tmp) (v : SVal) (m : List Blk) (c : Nat) (df : List (FuncId × List Cell)) : St :=
 { n := σ.n, slots := (match d with | some t => (t, v) :: σ.slots | none => σ.slots), mem := m, clock := c, defers := df ++ σ.defers }
structure Same (σ τ : St) : Prop where
 n : τ.n = σ.n
 get : ∀ t, τ.get t = σ.get t
 mem : τ.mem = σ.mem
 clock : τ.clock = σ.clock
 defers : τ.defers = σ.defers
theorem Same.refl (σ : St) : Same σ σ := ⟨rfl, fun _ => rfl, rfl, rfl, rfl⟩
theorem Same.symm (h : Same σ τ) : Same τ σ := ⟨h.n.symm, fun t => (h.get t).symm, h.mem.symm, h.clock.symm, h.defers.symm⟩
theorem Same.trans {a b c : St} (h : Same a b) (k : Same b c) : Same a c := ⟨k.n.trans h.n, fun t => (k.get t).trans (h.get t), k.mem.trans h.mem, k.clock.trans h.clock, k.defers.trans h.defers⟩
theorem Same.ev (h : Same σ τ) : τ.ev = σ.ev := by
 funext x
 cases x <;> first | exact h.get _ | rfl
section
variable (P : Program) (F0 : Nat → Prop) (w0 : World)
def Does (o : Oper) (ev : Operand → SVal) (mem : List Blk) (clock : Nat) (R : SVal → List Blk → Nat → List (FuncId × List Cell) → Prop) : Prop :=
 ∀ (B : Base) (σ : St) (E : Env) (a : Act) (w : World), B.F0 = F0 → B.w0 = w0 → (∀ x ∈ o.op.operands.toList, σ.ev x = ev x) → σ.mem = mem → σ.clock = clock →
  RelE F0 w0 E σ a w → EnvLe B.E B.w E w → (∀ d, o.dst = some d → d < σ.n) →
  ∀ (next : Act → World → Prop) (Q : Exit → Act → World → Prop), (∀ v m c df a' w', R v m c df → Rel B (upd σ o.dst v m c df) a' w' → next a' w') → o.wp P a w next Q
def Fx (v : SVal) (m : List Blk) (c : Nat) (df : List (FuncId × List Cell)) : SVal → List Blk → Nat → List (FuncId × List Cell) → Prop :=
 fun v' m' c' jx => v' = v ∧ m' = m ∧ c' = c ∧ jx = df
def CB (ops : List Oper) (o : Oper) : Option (Option (Tmp × Bool)) :=
 match o.guard with
 | none => some none
 | some (j, want) => (match (ops[j]?).bind (·.dst) with
   | some d => some (some (d, want))
   | none => none)
def Wants (g : Option (Tmp × Bool)) (σ : St) : Prop :=
 match g with
 | none => True
 | some (d, w) => σ.get d = DP w
def EK (ms : List Nat) : List Edge → Nat
 | [] => 0
 | e :: es => if Region.binds .any e then (1 <<< e.on) ||| ms.getD e.on 0 ||| EK ms es else EK ms es
def Sr : List Oper → List Nat → List Nat
 | [], ms => ms
 | o :: os, ms => Sr os (ms ++ [EK ms o.after.toList])
def Ss (o : Oper) (g : Option (Tmp × Bool)) : List Tmp :=
 o.op.operands.toList.filterMap (fun x => match x with | .tmp t => some t | _ => none) ++ (match g with | some (d, _) => [d] | none => [])
def Jd (ops : List Oper) (x o : Oper) (kx ko : Nat) : Bool :=
 match CB ops x, CB ops o with
 | some gx, some go =>
   (match x.dst with | some d => !(Ss o go).contains d && o.dst != some d | none => true) &&
   (match o.dst with | some d => !(Ss x gx).contains d | none => true) &&
   (kx == 0 || ko == 0 || (kx == 1 && (ko == 1 || ko == 3)) || (decide (4 ≤ kx) && decide (4 ≤ ko) && (kx / 2 != ko / 2 || (kx % 2 == 1 && ko % 2 == 1))))
 | _, _ => false
def FV (ops : List Oper) (kinds : List Nat) : Bool :=
 let ms := Sr ops []
 (List.range ops.length).all fun i => (match ops[i]? with
   | some o => (o.after.all fun e => !Region.binds .any e || decide (e.on < i)) &&
      (List.range i).all fun j => (match ops[j]? with
        | some x => (ms.getD i 0).testBit j || Jd ops x o (kinds.getD j 0) (kinds.getD i 0)
        | none => false)
   | none => false)
def Blk.nh : Blk → Bool
 | .hole _ => false
 | _ => true
def Ext (m M : List Blk) : Prop := ∀ (r : Nat) (x : Blk), m[r]? = some x → x.nh = true → M[r]? = some x
def Local (o : Oper) (ev : Operand → SVal) (mem : List Blk) (clock r : Nat) (rd : Bool) (v : SVal) (m : List Blk) (c : Nat) (df : List (FuncId × List Cell)) : Prop :=
 ∃ x b bd, mem[r]? = some x ∧ bd ≤ clock ∧ m = mem.set r b ∧ c = clock ∧ df = [] ∧ (rd = true → b = x) ∧ ∀ M ck, M[r]? = some x → bd ≤ ck → Does P F0 w0 o ev M ck (Fx v (M.set r b) ck [])
def BS (r : Nat) (rd : Bool) : Nat := 4 + 2 * r + if rd then 1 else 0
inductive Reg (dr : Bool) (ops : List Oper) (K : St → Prop) : List Oper → St → List Nat → Prop
 | nil {σ : St} {acc : List Nat} (hf : dr = false ∨ FV ops acc.reverse = true) (h : K σ) : Reg dr ops K [] σ acc
 | step {o : Oper} {rest : List Oper} {σ : St} {acc : List Nat} {g : Option (Tmp × Bool)} (k : Nat) (v : SVal) (m : List Blk) (c : Nat) (df : List (FuncId × List Cell))
    (hg : CB ops o = some g) (hw : Wants g σ) (hk : k = 2 ∨ (k = 3 ∧ ∃ ex, m = σ.mem ++ ex ∧ df = []) ∨ 4 ≤ k ∨ (m = σ.mem ∧ c = σ.clock ∧ df = [])) (hd : Does P F0 w0 o σ.ev σ.mem σ.clock (Fx v m c df))
    (h0 : k = 0 → ∀ mem ck, Does P F0 w0 o σ.ev mem ck (Fx v mem ck [])) (h1 : k = 1 → ∀ M ck, Ext σ.mem M → Does P F0 w0 o σ.ev M ck (Fx v M ck [])) (h4 : ∀ r rd, k = BS r rd → Local P F0 w0 o σ.ev σ.mem σ.clock r rd v m c df) (h : Reg dr ops K rest (upd σ o.dst v m c df) (k :: acc)) : Reg dr ops K (o :: rest) σ acc
 | rel {o : Oper} {rest : List Oper} {σ : St} {acc : List Nat} {g : Option (Tmp × Bool)} (R : SVal → List Blk → Nat → List (FuncId × List Cell) → Prop) (kV : dr = false)
    (hg : CB ops o = some g) (hw : Wants g σ) (hd : Does P F0 w0 o σ.ev σ.mem σ.clock R) (h : ∀ v m c df, R v m c df → Reg dr ops K rest (upd σ o.dst v m c df) (2 :: acc)) : Reg dr ops K (o :: rest) σ acc
 | skip {o : Oper} {rest : List Oper} {σ : St} {acc : List Nat} {d : Tmp} {want : Bool} (hg : CB ops o = some (some (d, want))) (hw : σ.get d = DP (!want) ∨ σ.get d = .und)
    (h : Reg dr ops K rest (upd σ o.dst .und σ.mem σ.clock []) (0 :: acc)) : Reg dr ops K (o :: rest) σ acc
 | alike {rest : List Oper} {σ τ : St} {acc : List Nat} (hs : Same σ τ) (h : Reg dr ops K rest τ acc) : Reg dr ops K rest σ acc
 | turn {rest : List Oper} {σ τ : St} {acc : List Nat} (kV : dr = false) (hn : τ.n = σ.n) (ht : ∀ B a w, B.F0 = F0 → B.w0 = w0 → Rel B σ a w → Rel B τ a w) (h : Reg dr ops K rest τ acc) : Reg dr ops K rest σ acc
end
section
variable {P : Program} {T : TypeId → Option TI} {B : Base}
theorem Does.of {F0 : Nat → Prop} {w0 : World} (hT : AL P T) {ev : Operand → SVal} {mem : List Blk} {R : SVal → List Blk → Nat → List (FuncId × List Cell) → Prop}
  (h : ∀ σ : St, (∀ x ∈ o.op.operands.toList, σ.ev x = ev x) → σ.mem = mem → σ.clock = clock → ∀ K : St → Prop, (∀ v m c df, R v m c df → K (upd σ o.dst v m c df)) → AV P T F0 w0 o σ K) : Does P F0 w0 o ev mem clock R := by
 intro B σ E a w hF hw he hm hc hr hB hd next Q hn
 subst hF; subst hw
 refine OK hT (h σ he hm hc (fun τ => ∃ v m c df, R v m c df ∧ τ = upd σ o.dst v m c df) (fun v m c df hR => ⟨v, m, c, df, hR, rfl⟩)) hr hB hd fun σ' a' w' ly _ hK => ?_
 obtain ⟨v, m, c, df, hR, rfl⟩ := hK
 exact hn v m c df a' w' hR ly
theorem Same.rel (h : Same σ τ) (hr : Rel B σ a w) : Rel B τ a w := by
 obtain ⟨E, ⟨h1, h2, h3, h4⟩, hB⟩ := hr
 exact ⟨E, ⟨by rw [h.mem, h.clock]; exact h1, by rw [h.n]; exact h2, by rw [h.defers]; exact h3, fun t => by rw [h.get t]; exact h4 t⟩, hB⟩
theorem VZ {ops : List Oper} (kH : ∀ o ∈ ops, ∀ d, o.dst = some d → d < N) {d : Nat} (hj : (ops[j]?).bind (·.dst) = some d) : d < N := by
 cases ho : ops[j]? with
 | none => rw [ho] at hj; cases hj
 | some o' => rw [ho] at hj; exact kH o' (Cb ho) d hj
theorem H2 {ops : List Oper} (kH : ∀ o ∈ ops, ∀ d, o.dst = some d → d < N) {g : Option (Tmp × Bool)} (hg : CB ops o = some g) (hn : σ.n = N) (hw : Wants g σ) (hr : RelE B.F0 B.w0 E σ a w) :
  Region.wanted o (yielded ops.toArray a.tmps) = true := by
 unfold CB at hg
 split at hg
 ·rename_i sB
  simp [Region.wanted, sB]
 ·rename_i j want sB
  split at hg
  ·rename_i d hj
   simp only [Option.some.injEq] at hg
   subst hg
   have tr := VZ kH hj
   have j3 : d < a.tmps.size := by rw [hr.2.1, hn]; exact tr
   have hy := KA hj a.tmps j3
   have oM := hr.2.2.2 d
   simp only [Wants] at hw
   rw [hw] at oM
   have hv := oM.lit_inv
   rw [hv] at hy
   simp [Region.wanted, sB, hy]
  ·cases hg
theorem Mw {ops : List Oper} (kH : ∀ o ∈ ops, ∀ d, o.dst = some d → d < N) {d : Tmp} (hg : CB ops o = some (some (d, want))) (hn : σ.n = N) (hw : σ.get d = DP (!want) ∨ σ.get d = .und) (hr : RelE B.F0 B.w0 E σ a w) :
  ¬ Region.wanted o (yielded ops.toArray a.tmps) = true := by
 unfold CB at hg
 split at hg
 ·cases hg
 ·rename_i j nq sB
  split at hg
  ·rename_i d' hj
   simp only [Option.some.injEq, HK] at hg
   obtain ⟨rfl, rfl⟩ := hg
   have tr := VZ kH hj
   have j3 : d' < a.tmps.size := by rw [hr.2.1, hn]; exact tr
   have hy := KA hj a.tmps j3
   have oM := hr.2.2.2 d'
   rcases hw with hw | hw
   ·rw [hw] at oM
    have hv := oM.lit_inv
    rw [hv] at hy
    cases nq <;> simp [Region.wanted, sB, hy]
   ·rw [hw] at oM
    have hv : a.tmps.getD d' undef = undef := by generalize a.tmps.getD d' undef = v at oM; cases oM; rfl
    rw [hv] at hy
    simp [Region.wanted, sB, hy, undef]
  ·cases hg
theorem Su (h : RelE B.F0 B.w0 E σ a w) (hd : ∀ d, dst = some d → d < σ.n) : RelE B.F0 B.w0 E (upd σ dst .und σ.mem σ.clock []) (a.put dst undef) w := by
 have := h.putO hd .und
 cases dst <;> exact this
theorem V0 {ops : List Oper} (kH : ∀ o ∈ ops, ∀ d, o.dst = some d → d < N) {K : St → Prop} {dr : Bool} {Q : Exit → Act → World → Prop} (hk : ∀ τ a w, Rel B τ a w → τ.n = N → K τ → Q .normal a w) :
   ∀ {l : List Oper} {σ : St} {acc : List Nat}, Reg P B.F0 B.w0 dr ops K l σ acc → (∀ o ∈ l, o ∈ ops) → ∀ (a : Act) (w : World), σ.n = N → Rel B σ a w → wpList P ops.toArray Q l a w := by
 intro l σ acc h
 induction h with
 | nil hf h => exact fun _ a w hn hr => hk _ a w hr hn h
 | step k v m c df hg hw np hd h0 xg xh h ih =>
   rename_i o rest σ' oy g'
   intro hl a w hn hr
   obtain ⟨E, hr, hB⟩ := hr
   unfold wpList
   rw [if_pos (H2 kH hg hn hw hr)]
   refine .inl (hd B σ' E a w rfl rfl (fun _ _ => rfl) rfl rfl hr hB (fun d mH => by rw [hn]; exact kH o (hl o (by simp)) d mH) _ _ fun v' m' c' jx a' w' hR ly => ?_)
   obtain ⟨rfl, rfl, rfl, rfl⟩ := hR
   exact ih (fun o ho => hl o (by simp [ho])) a' w' hn ly
 | rel R kV hg hw hd h ih =>
   rename_i o rest σ' oy g'
   intro hl a w hn hr
   obtain ⟨E, hr, hB⟩ := hr
   unfold wpList
   rw [if_pos (H2 kH hg hn hw hr)]
   refine .inl (hd B σ' E a w rfl rfl (fun _ _ => rfl) rfl rfl hr hB (fun d mH => by rw [hn]; exact kH o (hl o (by simp)) d mH) _ _ fun v' m' c' jx a' w' hR ly => ?_)
   exact ih v' m' c' jx hR (fun o ho => hl o (by simp [ho])) a' w' hn ly
 | skip hg hw h ih =>
   rename_i o rest σ' oy d' nq
   intro hl a w hn hr
   obtain ⟨E, hr, hB⟩ := hr
   unfold wpList
   rw [if_neg (Mw kH hg hn hw hr)]
   exact ih (fun o ho => hl o (by simp [ho])) _ w hn ⟨E, Su hr (fun d mH => by rw [hn]; exact kH o (hl o (by simp)) d mH), hB⟩
 | alike hs h ih =>
   intro hl a w hn hr
   exact ih hl a w (hs.n.trans hn) (hs.rel hr)
 | turn kV lX ht h ih =>
   intro hl a w hn hr
   exact ih hl a w (lX.trans hn) (ht B a w rfl rfl hr)
theorem Hi (σ : St) (d : Option Tmp) (v : SVal) (m : List Blk) (c : Nat) (df : List (FuncId × List Cell)) (t : Nat) : (upd σ d v m c df).get t = if d = some t then v else σ.get t := by
 cases d with
 | none => simp [upd, St.get]
 | some s => simp only [upd, St.get, BB, Option.some.injEq]
theorem V1 {d : Option Tmp} {m : List Blk} {df : List (FuncId × List Cell)} {x : Operand} (h : ∀ t, d = some t → x ≠ .tmp t) : (upd σ d v m c df).ev x = σ.ev x := by
 cases x with
 | tmp t =>
   simp only [St.ev, Hi]
   rw [if_neg (fun e => h t e rfl)]
 | _ => rfl
def Loc (P : Program) (F0 : Nat → Prop) (w0 : World) (o : Oper) (g : Option (Tmp × Bool)) (k : Nat) (σ : St) (v : SVal) (m : List Blk) (c : Nat) (df : List (FuncId × List Cell)) : Prop :=
 (k = 2 ∨ (k = 3 ∧ ∃ ex, m = σ.mem ++ ex ∧ df = []) ∨ 4 ≤ k ∨ (m = σ.mem ∧ c = σ.clock ∧ df = [])) ∧
 ((Wants g σ ∧ Does P F0 w0 o σ.ev σ.mem σ.clock (Fx v m c df) ∧ (k = 0 → ∀ mem ck, Does P F0 w0 o σ.ev mem ck (Fx v mem ck [])) ∧ (k = 1 → ∀ M ck, Ext σ.mem M → Does P F0 w0 o σ.ev M ck (Fx v M ck [])) ∧ ∀ r rd, k = BS r rd → Local P F0 w0 o σ.ev σ.mem σ.clock r rd v m c df) ∨
  (∃ d want, g = some (d, want) ∧ (σ.get d = DP (!want) ∨ σ.get d = .und) ∧ v = .und ∧ m = σ.mem ∧ c = σ.clock ∧ df = []))
theorem Does.agree {F0 : Nat → Prop} {w0 : World} {ev tt : Operand → SVal} {mem : List Blk} {R : SVal → List Blk → Nat → List (FuncId × List Cell) → Prop} (h : Does P F0 w0 o ev mem clock R) (he : ∀ x ∈ o.op.operands.toList, tt x = ev x) :
 Does P F0 w0 o tt mem clock R := fun B σ E a w h1 h2 h3 => h B σ E a w h1 h2 fun x hx => (h3 x hx).trans (he x hx)
theorem Local.agree {F0 : Nat → Prop} {w0 : World} {ev tt : Operand → SVal} {mem m : List Blk} {df : List (FuncId × List Cell)} (h : Local P F0 w0 o ev mem clock r rd v m c df) (he : ∀ x ∈ o.op.operands.toList, tt x = ev x) :
  Local P F0 w0 o tt mem clock r rd v m c df := by
 obtain ⟨x, b, bd, h1, h2, h3, h4, h5, h6, h7⟩ := h
 exact ⟨x, b, bd, h1, h2, h3, h4, h5, h6, fun M ck q1 q2 => (h7 M ck q1 q2).agree he⟩
theorem CI (r : Nat) (rd : Bool) : 4 ≤ BS r rd := by unfold BS; omega
theorem Pe (h : 4 ≤ k) : k = BS ((k - 4) / 2) (k % 2 == 1) := by
 unfold BS
 by_cases q : k % 2 = 1
 ·rw [q]; simp; omega
 ·rw [show (k % 2 == 1) = false by simpa using q]; simp; omega
theorem Hj {r' : Nat} {rI : Bool} (h : BS r rd = BS r' rI) : r = r' ∧ rd = rI := by
 unfold BS at h
 cases rd <;> cases rI <;> simp at h ⊢ <;> omega
theorem DV {α : Type} {l : List α} {x : α} (h : l[i]? = some x) : l.set i x = l := by
 apply Sa
 intro j
 by_cases e : i = j
 ·subst e; rw [J5 (dA.1 h).1, h]
 ·rw [J7 e]
theorem Ext.app (m ex : List Blk) : Ext m (m ++ ex) := fun r x h _ => by
 rw [Np (dA.1 h).1]; exact h
theorem Ext.trans {a b c : List Blk} (h : Ext a b) (k : Ext b c) : Ext a c := fun r x hx hn => k r x (h r x hx hn) hn
theorem Wants.agree {g : Option (Tmp × Bool)} (h : Wants g σ) (he : ∀ d want, g = some (d, want) → τ.get d = σ.get d) : Wants g τ := by
 unfold Wants at h ⊢
 split
 ·trivial
 ·rename_i d want; simp only at h; rw [he d want rfl]; exact h
theorem Loc.same {F0 : Nat → Prop} {w0 : World} {g : Option (Tmp × Bool)} {m : List Blk} {df : List (FuncId × List Cell)} (h : Loc P F0 w0 o g k σ v m c df)
  (he : ∀ x ∈ o.op.operands.toList, τ.ev x = σ.ev x) (hg : ∀ d want, g = some (d, want) → τ.get d = σ.get d) (hm : τ.mem = σ.mem) (hc : τ.clock = σ.clock) : Loc P F0 w0 o g k τ v m c df := by
 obtain ⟨h1, h2⟩ := h
 refine ⟨by rw [hm, hc]; exact h1, ?_⟩
 rcases h2 with ⟨a, b, e, e', yQ⟩ | ⟨d, want, a, b, e1, e2, e3, e4⟩
 ·exact .inl ⟨a.agree hg, by rw [hm, hc]; exact b.agree he, fun q mem ck => (e q mem ck).agree he, fun q M ck hM => (e' q M ck (hm ▸ hM)).agree he, fun r rd q => by rw [hm, hc]; exact (yQ r rd q).agree he⟩
 ·exact .inr ⟨d, want, a, by rw [hg d want a]; exact b, e1, by rw [hm]; exact e2, by rw [hc]; exact e3, e4⟩
theorem Loc.zero {F0 : Nat → Prop} {w0 : World} {g : Option (Tmp × Bool)} {m : List Blk} {df : List (FuncId × List Cell)} (h : Loc P F0 w0 o g 0 σ v m c df)
  (he : ∀ x ∈ o.op.operands.toList, τ.ev x = σ.ev x) (hg : ∀ d want, g = some (d, want) → τ.get d = σ.get d) : Loc P F0 w0 o g 0 τ v τ.mem τ.clock [] := by
 obtain ⟨h1, h2⟩ := h
 refine ⟨.inr (.inr (.inr ⟨rfl, rfl, rfl⟩)), ?_⟩
 rcases h2 with ⟨a, b, e, _, _⟩ | ⟨d, want, a, b, e1, e2, e3, e4⟩
 ·exact .inl ⟨a.agree hg, (e rfl _ _).agree he, fun q mem ck => (e q mem ck).agree he, (fun q => by cases q), fun r rd q => by have := CI r rd; omega⟩
 ·exact .inr ⟨d, want, a, by rw [hg d want a]; exact b, e1, rfl, rfl, rfl⟩
theorem Loc.local {F0 : Nat → Prop} {w0 : World} {g : Option (Tmp × Bool)} {m : List Blk} {df : List (FuncId × List Cell)} (h : Loc P F0 w0 o g k σ v m c df) (hr : k = BS r rd) :
  (m = σ.mem ∧ c = σ.clock ∧ df = [] ∧ ∀ τ : St, (∀ x ∈ o.op.operands.toList, τ.ev x = σ.ev x) → (∀ d want, g = some (d, want) → τ.get d = σ.get d) → Loc P F0 w0 o g k τ v τ.mem τ.clock []) ∨
  ∃ x b, σ.mem[r]? = some x ∧ m = σ.mem.set r b ∧ c = σ.clock ∧ df = [] ∧ (rd = true → b = x) ∧ ∀ τ : St, (∀ x ∈ o.op.operands.toList, τ.ev x = σ.ev x) → (∀ d want, g = some (d, want) → τ.get d = σ.get d) → τ.mem[r]? = some x → σ.clock ≤ τ.clock → Loc P F0 w0 o g k τ v (τ.mem.set r b) τ.clock [] := by
 obtain ⟨h1, h2⟩ := h
 have mD := CI r rd
 rcases h2 with ⟨a, b, _, _, e⟩ | ⟨d, want, a, b, e1, e2, e3, e4⟩
 ·obtain ⟨x, nb, bd, q1, q2, q3, q4, q5, q6, q7⟩ := e r rd hr
  refine .inr ⟨x, nb, q1, q3, q4, q5, q6, fun τ he hg hm hc => ⟨.inr (.inr (.inl (by omega))), .inl ⟨a.agree hg, (q7 _ _ hm (by omega)).agree he, (fun q => by omega), (fun q => by omega), fun r' rI u4 => ?_⟩⟩⟩
  obtain ⟨rfl, rfl⟩ := Hj (hr.symm.trans u4)
  exact ⟨x, nb, bd, hm, by omega, rfl, rfl, rfl, q6, fun M ck p1 p2 => (q7 M ck p1 p2).agree he⟩
 ·exact .inl ⟨e2, e3, e4, fun τ he hg => ⟨.inr (.inr (.inl (by omega))), .inr ⟨d, want, a, by rw [hg d want a]; exact b, e1, rfl, rfl, rfl⟩⟩⟩
theorem Loc.later {F0 : Nat → Prop} {w0 : World} {g : Option (Tmp × Bool)} {m : List Blk} {df : List (FuncId × List Cell)} (h : Loc P F0 w0 o g 1 σ v m c df)
  (he : ∀ x ∈ o.op.operands.toList, τ.ev x = σ.ev x) (hg : ∀ d want, g = some (d, want) → τ.get d = σ.get d) (hm : Ext σ.mem τ.mem) : Loc P F0 w0 o g 1 τ v τ.mem τ.clock [] := by
 obtain ⟨h1, h2⟩ := h
 refine ⟨.inr (.inr (.inr ⟨rfl, rfl, rfl⟩)), ?_⟩
 rcases h2 with ⟨a, b, _, e', _⟩ | ⟨d, want, a, b, e1, e2, e3, e4⟩
 ·exact .inl ⟨a.agree hg, (e' rfl _ _ hm).agree he, (fun q => by cases q), (fun q M ck hM => (e' q M ck (hm.trans hM)).agree he), fun r rd q => by have := CI r rd; omega⟩
 ·exact .inr ⟨d, want, a, by rw [hg d want a]; exact b, e1, rfl, rfl, rfl⟩
inductive Lin (P : Program) (F0 : Nat → Prop) (w0 : World) (ops : List Oper) (κ : List Nat) : List Nat → St → St → Prop
 | nil (σ : St) : Lin P F0 w0 ops κ [] σ σ
 | cons {i : Nat} {is : List Nat} {σ τ : St} {o : Oper} {g : Option (Tmp × Bool)} (v : SVal) (m : List Blk) (c : Nat) (df : List (FuncId × List Cell)) (ho : ops[i]? = some o) (hg : CB ops o = some g)
    (hl : Loc P F0 w0 o g (κ.getD i 0) σ v m c df) (h : Lin P F0 w0 ops κ is (upd σ o.dst v m c df) τ) : Lin P F0 w0 ops κ (i :: is) σ τ
theorem Same.upd (h : Same σ τ) (d : Option Tmp) (v : SVal) (m : List Blk) (c : Nat) (df : List (FuncId × List Cell)) : Same (upd σ d v m c df) (upd τ d v m c df) := by
 refine ⟨h.n, fun t => ?_, rfl, rfl, ?_⟩
 ·rw [Hi, Hi, h.get t]
 ·simp only [Go.Abs.upd]; rw [h.defers]
theorem Lin.same {F0 : Nat → Prop} {w0 : World} {ops : List Oper} {is : List Nat} (h : Lin P F0 w0 ops κ is σ τ) : ∀ {σ' : St}, Same σ σ' → ∃ τ', Lin P F0 w0 ops κ is σ' τ' ∧ Same τ τ' := by
 induction h with
 | nil σ => exact fun {σ'} hs => ⟨σ', .nil _, hs⟩
 | cons v m c df ho hg hl h ih =>
   intro σ' hs
   obtain ⟨τ', h1, h2⟩ := ih (hs.upd _ v m c df)
   exact ⟨τ', .cons v m c df ho hg (hl.same (fun x _ => by rw [hs.ev]) (fun d _ _ => hs.get d) hs.mem hs.clock) h1, h2⟩
theorem Mx {g : Option (Tmp × Bool)} {d : Tmp} (h : (!(Ss o g).contains d) = true) : (∀ z ∈ o.op.operands.toList, z ≠ .tmp d) ∧ ∀ want, g ≠ some (d, want) := by
 have hn : ¬ d ∈ Ss o g := by simpa using h
 refine ⟨fun z hz e => hn ?_, fun want e => hn ?_⟩
 ·subst e
  exact EY.2 (.inl (List.mem_filterMap.2 ⟨.tmp d, hz, rfl⟩))
 ·subst e
  exact EY.2 (.inr (by simp))
theorem Lin.swap {F0 : Nat → Prop} {w0 : World} {ops : List Oper} {is : List Nat} {x : Oper} (hx : ops[i]? = some x) (ho : ops[j]? = some o) (hi : Jd ops x o (κ.getD i 0) (κ.getD j 0) = true)
  (h : Lin P F0 w0 ops κ (i :: j :: is) σ τ) : ∃ τ', Lin P F0 w0 ops κ (j :: i :: is) σ τ' ∧ Same τ τ' := by
 cases h with | cons v1 m1 c1 xi ql mv lv h1 =>
 cases h1 with | cons v2 m2 c2 vD vE nA mh h2 =>
 rename_i x' gx o' go
 obtain rfl : x' = x := by rw [hx] at ql; exact (aZ ql).symm
 obtain rfl : o' = o := by rw [ho] at vE; exact (aZ vE).symm
 unfold Jd at hi
 rw [mv, nA] at hi
 simp only [BM] at hi
 obtain ⟨⟨i1, i2⟩, i3⟩ := hi
 have a1 : ∀ d, x'.dst = some d → ((∀ z ∈ o'.op.operands.toList, z ≠ .tmp d) ∧ ∀ want, go ≠ some (d, want)) ∧ o'.dst ≠ some d := by
  intro d hd
  rw [hd] at i1
  simp only [BM] at i1
  exact ⟨Mx i1.1, by simpa using i1.2⟩
 have a2 : ∀ d, o'.dst = some d → (∀ z ∈ x'.op.operands.toList, z ≠ .tmp d) ∧ ∀ want, gx ≠ some (d, want) := by
  intro d hd
  rw [hd] at i2
  exact Mx i2
 have eo : ∀ (m : List Blk) (c : Nat) (df : List (FuncId × List Cell)), ∀ z ∈ o'.op.operands.toList, σ.ev z = (upd σ x'.dst v1 m c df).ev z := fun m c df z hz => (V1 (fun t ht => (a1 t ht).1.1 z hz)).symm
 have go' : ∀ (m : List Blk) (c : Nat) (df : List (FuncId × List Cell)) (d : Tmp) (want : Bool), go = some (d, want) → σ.get d = (upd σ x'.dst v1 m c df).get d := fun m c df d want e => by
  rw [Hi, if_neg (fun q => (a1 d q).1.2 want e)]
 have ex : ∀ (m : List Blk) (c : Nat) (df : List (FuncId × List Cell)), ∀ z ∈ x'.op.operands.toList, (upd σ o'.dst v2 m c df).ev z = σ.ev z := fun m c df z hz => V1 (fun t ht => (a2 t ht).1 z hz)
 have qm : ∀ (m : List Blk) (c : Nat) (df : List (FuncId × List Cell)) (d : Tmp) (want : Bool), gx = some (d, want) → (upd σ o'.dst v2 m c df).get d = σ.get d := fun m c df d want e => by
  rw [Hi, if_neg (fun q => (a2 d q).2 want e)]
 have tu : ∀ m c df m' c' jx xj xk tw m3 c3 xl t, (upd (upd σ o'.dst v2 m c df) x'.dst v1 m' c' jx).get t = (upd (upd σ x'.dst v1 xj xk tw) o'.dst v2 m3 c3 xl).get t := by
  intro m c df m' c' jx xj xk tw m3 c3 xl t
  simp only [Hi]
  by_cases h1 : x'.dst = some t
  · have := (a1 t h1).2
    simp [h1, this]
  · simp [h1]
 have fin : ∀ {m m' : List Blk} {c c' : Nat} {df jx : List (FuncId × List Cell)}, Loc P F0 w0 o' go (κ.getD j 0) σ v2 m c df → Loc P F0 w0 x' gx (κ.getD i 0) (upd σ o'.dst v2 m c df) v1 m' c' jx → m' = m2 → c' = c2 → jx ++ df = vD ++ xi →
    ∃ τ', Lin P F0 w0 ops κ (j :: i :: is) σ τ' ∧ Same τ τ' := by
  intro m m' c c' df jx l1 l2 e1 e2 e3
  have hs : Same (upd (upd σ x'.dst v1 m1 c1 xi) o'.dst v2 m2 c2 vD) (upd (upd σ o'.dst v2 m c df) x'.dst v1 m' c' jx) := by
    refine ⟨rfl, fun t => tu _ _ _ _ _ _ _ _ _ _ _ _ t, e1, e2, ?_⟩
    simp only [upd, ← Hc, e3]
  obtain ⟨τ', q1, q2⟩ := h2.same hs
  exact ⟨τ', .cons _ _ _ _ ho nA l1 (.cons _ _ _ _ hx mv l2 q1), q2⟩
 have k1 := lv.1
 have k2 := mh.1
 by_cases ko : κ.getD j 0 = 0
 ·rw [ko] at mh k2
  obtain ⟨rfl, rfl, rfl⟩ := ((k2.resolve_left (by simp)).resolve_left (by simp)).resolve_left (by simp)
  exact fin (m := σ.mem) (c := σ.clock) (df := []) (by rw [ko]; exact mh.zero (eo _ _ _) (go' _ _ _)) (lv.same (ex _ _ _) (qm _ _ _) rfl rfl) rfl rfl (by simp)
 ·by_cases kx : κ.getD i 0 = 0
  · rw [kx] at lv k1
    obtain ⟨rfl, rfl, rfl⟩ := ((k1.resolve_left (by simp)).resolve_left (by simp)).resolve_left (by simp)
    exact fin (mh.same (eo _ _ _) (go' _ _ _) rfl rfl) (by rw [kx]; exact lv.zero (ex _ _ _) (qm _ _ _)) rfl rfl (by simp)
  · have j2 : (κ.getD i 0 = 1 ∧ (κ.getD j 0 = 1 ∨ κ.getD j 0 = 3)) ∨ (4 ≤ κ.getD i 0 ∧ 4 ≤ κ.getD j 0 ∧ (κ.getD i 0 / 2 ≠ κ.getD j 0 / 2 ∨ (κ.getD i 0 % 2 = 1 ∧ κ.getD j 0 % 2 = 1))) := by
     simp only [Va, BM, beq_iff_eq, decide_eq_true_eq, bne_iff_ne] at i3
     rcases i3 with ((q | q) | q) | q
     ·exact absurd q kx
     ·exact absurd q ko
     ·exact .inl q
     ·exact .inr ⟨q.1.1, q.1.2, q.2⟩
    rcases j2 with j2 | ⟨yR, yS, jY⟩
    ·rw [j2.1] at k1
     obtain ⟨rfl, rfl, rfl⟩ := ((k1.resolve_left (by simp)).resolve_left (by simp)).resolve_left (by simp)
     rcases j2.2 with hj | hj
     ·rw [hj] at k2
      obtain ⟨rfl, rfl, rfl⟩ := ((k2.resolve_left (by simp)).resolve_left (by simp)).resolve_left (by simp)
      exact fin (mh.same (eo _ _ _) (go' _ _ _) rfl rfl) (lv.same (ex _ _ _) (qm _ _ _) rfl rfl) rfl rfl rfl
     ·have hq : ∃ ex, m2 = σ.mem ++ ex ∧ vD = [] := by
       rcases k2 with q | ⟨_, q⟩ | q | ⟨q1, _, q3⟩
       ·rw [hj] at q; cases q
       ·exact q
       ·omega
       ·exact ⟨[], by rw [q1]; simp [Go.Abs.upd], q3⟩
      obtain ⟨ex1, rfl, rfl⟩ := hq
      exact fin (mh.same (eo _ _ _) (go' _ _ _) rfl rfl) (by rw [j2.1] at lv ⊢; exact lv.later (ex _ _ _) (qm _ _ _) (Ext.app _ _)) rfl rfl rfl
    ·have yT := Pe yR
     have ui := Pe yS
     rcases lv.local yT with ⟨rfl, rfl, rfl, f1⟩ | ⟨x1, b, q1, rfl, rfl, rfl, g1, f1⟩
     ·rcases mh.local ui with ⟨rfl, rfl, rfl, f2⟩ | ⟨x2, b', p1, rfl, rfl, rfl, g2, f2⟩
      ·exact fin (f2 σ (eo _ _ _) (go' _ _ _)) (f1 _ (ex _ _ _) (qm _ _ _)) rfl rfl rfl
      ·exact fin (f2 σ (eo _ _ _) (go' _ _ _) p1 (Nat.le_refl _)) (f1 _ (ex _ _ _) (qm _ _ _)) rfl rfl rfl
     ·rcases mh.local ui with ⟨rfl, rfl, rfl, f2⟩ | ⟨x2, b', p1, rfl, rfl, rfl, g2, f2⟩
      ·exact fin (f2 σ (eo _ _ _) (go' _ _ _)) (f1 _ (ex _ _ _) (qm _ _ _) q1 (Nat.le_refl _)) rfl rfl rfl
      ·by_cases hr : (κ.getD i 0 - 4) / 2 = (κ.getD j 0 - 4) / 2
       ·have tx : κ.getD i 0 % 2 = 1 ∧ κ.getD j 0 % 2 = 1 := by
         rcases jY with q | q
         ·omega
         ·exact q
        have e1 : b = x1 := g1 (by simpa using tx.1)
        have e2 : b' = x2 := g2 (by simpa using tx.2)
        subst e1; subst e2
        have lq : σ.mem.set ((κ.getD i 0 - 4) / 2) b = σ.mem := DV q1
        have kW : (upd σ x'.dst v1 (σ.mem.set ((κ.getD i 0 - 4) / 2) b) σ.clock []).mem.set ((κ.getD j 0 - 4) / 2) b' = σ.mem := by
         rw [DV p1]; exact lq
        have tz : σ.mem[(κ.getD j 0 - 4) / 2]? = some b' := by
         have := p1
         simp only [Go.Abs.upd] at this
         rwa [lq] at this
        exact fin (f2 σ (eo _ _ _) (go' _ _ _) tz (Nat.le_refl _)) (f1 _ (ex _ _ _) (qm _ _ _) (by simp only [Go.Abs.upd]; rw [DV tz]; exact q1) (Nat.le_refl _)) (by rw [kW]; simp only [Go.Abs.upd]; rw [DV tz]; exact lq) rfl rfl
       ·have tz : σ.mem[(κ.getD j 0 - 4) / 2]? = some x2 := by
         have := p1
         simp only [Go.Abs.upd] at this
         rwa [J7 hr] at this
        have uk : (upd σ o'.dst v2 (σ.mem.set ((κ.getD j 0 - 4) / 2) b') σ.clock []).mem[(κ.getD i 0 - 4) / 2]? = some x1 := by
         simp only [Go.Abs.upd]
         rw [J7 (fun e => hr e.symm)]; exact q1
        exact fin (f2 σ (eo _ _ _) (go' _ _ _) tz (Nat.le_refl _)) (f1 _ (ex _ _ _) (qm _ _ _) uk (Nat.le_refl _)) (List.set_comm _ _ (fun e => hr e.symm)) rfl rfl
theorem Lin.pull {F0 : Nat → Prop} {w0 : World} {ops : List Oper} {κ : List Nat} {j : Nat} {Bk : List Nat} {o : Oper} (ho : ops[j]? = some o) : ∀ (A : List Nat) {σ τ : St}, (∀ i ∈ A, ∃ x, ops[i]? = some x ∧ Jd ops x o (κ.getD i 0) (κ.getD j 0) = true) →
   Lin P F0 w0 ops κ (A ++ j :: Bk) σ τ → ∃ τ', Lin P F0 w0 ops κ (j :: (A ++ Bk)) σ τ' ∧ Same τ τ'
 | [], σ, τ, _, h => ⟨τ, h, Same.refl _⟩
 | i :: A, σ, τ, hA, h => by
   cases h with | cons v m c df ql mv lv h1 =>
   obtain ⟨τ1, q1, q2⟩ := Lin.pull ho A (fun i hi => hA i (by simp [hi])) h1
   obtain ⟨x, hx, hi⟩ := hA i (by simp)
   obtain ⟨τ2, p1, p2⟩ := Lin.swap hx ho hi (.cons v m c df ql mv lv q1)
   exact ⟨τ2, p1, q2.trans p2⟩
end
def ID (ops : List Oper) : Nat → Nat → Nat → Bool
 | 0, _, _ => false
 | n + 1, i, j => (match ops[i]? with
   | some o => o.after.any fun e => Region.binds .any e && (e.on == j || ID ops n e.on j)
   | none => false)
theorem Je {ops : List Oper} : ∀ {n m i j : Nat}, n ≤ m → ID ops n i j = true → ID ops m i j = true
 | 0, _, _, _, _, h => by simp [ID] at h
 | n + 1, 0, _, _, hle, _ => by omega
 | n + 1, m + 1, i, j, hle, h => by
   unfold ID at h ⊢
   split
   ·rename_i o ho
    rw [ho] at h
    simp only [Array.any_eq_true] at h ⊢
    obtain ⟨k, hk, hx⟩ := h
    refine ⟨k, hk, ?_⟩
    simp only [BM, Va] at hx ⊢
    exact ⟨hx.1, hx.2.imp id (Je (by omega))⟩
   ·rename_i ho
    rw [ho] at h
    exact h
theorem GJ {ops : List Oper} {ms : List Nat} (vF : ∀ i m, ms[i]? = some m → ∀ j, m.testBit j = true → ID ops (i + 1) i j = true) {n : Nat} : ∀ (es : List Edge), (∀ e ∈ es, Region.binds .any e = true → e.on < n) → ∀ j, (EK ms es).testBit j = true →
   ∃ e ∈ es, Region.binds .any e = true ∧ (e.on = j ∨ ID ops n e.on j = true)
 | [], _, j, h => by simp [EK] at h
 | e :: es, hb, j, h => by
   unfold EK at h
   split at h
   ·rename_i tA
    simp only [Nat.testBit_or, Va] at h
    rcases h with (h | h) | h
    ·have : e.on = j := by
       rw [Nat.one_shiftLeft, Nat.testBit_two_pow] at h
       simpa using h
     exact ⟨e, by simp, tA, .inl this⟩
    ·cases hm : ms[e.on]? with
     | none => simp [List.getD, hm] at h
     | some m =>
       simp only [List.getD, hm, U4] at h
       exact ⟨e, by simp, tA, .inr (Je (by have := hb e (by simp) tA; omega) (vF _ _ hm _ h))⟩
    ·obtain ⟨e', h1, h2⟩ := GJ vF es (fun e he => hb e (by simp [he])) j h
     exact ⟨e', by simp [h1], h2⟩
   ·obtain ⟨e', h1, h2⟩ := GJ vF es (fun e he => hb e (by simp [he])) j h
    exact ⟨e', by simp [h1], h2⟩
theorem Pf {ops : List Oper} (lJ : ∀ (i : Nat) o, ops[i]? = some o → ∀ e ∈ o.after.toList, Region.binds .any e = true → e.on < i) : ∀ (os : List Oper) (ms : List Nat), ops.drop ms.length = os →
   (∀ i m, ms[i]? = some m → ∀ j, m.testBit j = true → ID ops (i + 1) i j = true) → ∀ i m, (Sr os ms)[i]? = some m → ∀ j, m.testBit j = true → ID ops (i + 1) i j = true
 | [], ms, _, h => h
 | o :: os, ms, hd, h => by
   have ho : ops[ms.length]? = some o := by
     have := congrArg (·[0]?) hd
     simpa using this
   refine Pf lJ os (ms ++ [EK ms o.after.toList]) ?_ ?_
   · have := congrArg (List.drop 1) hd
     simpa [Tr] using this
   · intro i m hm j hj
     by_cases hi : i < ms.length
     ·rw [Np hi] at hm
      exact h i m hm j hj
     ·have i7 := lt_of_getElem? hm
      have : i = ms.length := by simp at i7; omega
      subst this
      simp at hm
      subst hm
      obtain ⟨e, h1, h2, h3⟩ := GJ h o.after.toList (lJ _ o ho) j hj
      unfold ID
      rw [ho]
      simp only [Array.any_eq_true]
      obtain ⟨k, hk, rfl⟩ := aW.1 h1
      refine ⟨k, by simpa using hk, ?_⟩
      simp only [BM, Va, beq_iff_eq]
      exact ⟨by simpa using h2, by simpa using h3⟩
theorem NO {ops : List Oper} (h : FV ops κ = true) : (∀ (i : Nat) o, ops[i]? = some o → ∀ e ∈ o.after.toList, Region.binds .any e = true → e.on < i) ∧
   ∀ (i j : Nat) o x, ops[i]? = some o → j < i → ops[j]? = some x → ID ops ops.length i j = true ∨ Jd ops x o (κ.getD j 0) (κ.getD i 0) = true := by
 unfold FV at h
 simp only [Eg, XX] at h
 have lJ : ∀ (i : Nat) o, ops[i]? = some o → ∀ e ∈ o.after.toList, Region.binds .any e = true → e.on < i := by
   intro i o ho e he hb
   have := h i (lt_of_getElem? ho)
   rw [ho] at this
   simp only [BM] at this
   have := this.1
   rw [Array.all_eq_true] at this
   obtain ⟨k, hk, rfl⟩ := aW.1 he
   have := this k (by simpa using hk)
   simp only [Va, Tp, decide_eq_true_eq] at this
   rcases this with q | q
   ·rw [Array.getElem_toList] at hb; rw [hb] at q; cases q
   ·simpa using q
 refine ⟨lJ, fun i j o x ho hj hx => ?_⟩
 have hi := lt_of_getElem? ho
 have hq := h i hi
 rw [ho] at hq
 simp only [BM] at hq
 have hq := hq.2
 simp only [Eg, XX] at hq
 have hq := hq j hj
 rw [hx] at hq
 simp only [Va] at hq
 refine hq.imp (fun hq => ?_) id
 cases hm : (Sr ops [])[i]? with
 | none => simp [List.getD, hm] at hq
 | some m =>
   simp only [List.getD, hm, U4] at hq
   exact Je (by omega) (Pf lJ ops [] rfl (by simp) i m hm j hq)
def rem (n : Nat) (iV : Array Bool) : List Nat := (List.range n).filter fun i => !iV.getD i true
def eK (ops : List Oper) (iV : Array Bool) : Prop :=
 ∀ (k : Nat) o, ops[k]? = some o → iV.getD k false = true → ∀ e ∈ o.after.toList, Region.binds .any e = true → iV.getD e.on false = true
theorem KY {ops : List Oper} {iV : Array Bool} (hd : eK ops iV) : ∀ (n i j : Nat), (∀ o, ops[i]? = some o → ∀ e ∈ o.after.toList, Region.binds .any e = true → iV.getD e.on false = true) → ID ops n i j = true → iV.getD j false = true
 | 0, i, j, _, h => by simp [ID] at h
 | n + 1, i, j, hi, h => by
   unfold ID at h
   split at h
   ·rename_i o ho
    rw [← Array.any_toList, List.any_eq_true] at h
    obtain ⟨e, he, hq⟩ := h
    simp only [BM, Va] at hq
    have hl := hi o ho e he hq.1
    rcases hq.2 with hj | hj
    ·have : e.on = j := by simpa using hj
     rw [← this]; exact hl
    ·exact KY hd n e.on j (fun o' mX e' kd lF => hd e.on o' mX hl e' kd lF) hj
   ·cases h
theorem Hk {n : Nat} {iV : Array Bool} : i ∈ rem n iV ↔ i < n ∧ iV.getD i true = false := by
 simp [rem]
theorem H3 (n : Nat) (iV : Array Bool) : (rem n iV).Pairwise (· < ·) := List.Pairwise.filter _ List.pairwise_lt_range
theorem TV {n : Nat} {iV : Array Bool} (hs : iV.size = n) (hi : i ∈ rem n iV) :
  ∃ A Bk, rem n iV = A ++ i :: Bk ∧ rem n (iV.setIfInBounds i true) = A ++ Bk ∧ ∀ j ∈ A, j < i ∧ iV.getD j true = false := by
 obtain ⟨A, Bk, h⟩ := List.append_of_mem hi
 refine ⟨A, Bk, h, ?_, fun j hj => ?_⟩
 ·have jG := (Hk.1 hi).1
  have e1 : rem n (iV.setIfInBounds i true) = (rem n iV).filter (fun j => j != i) := by
   unfold rem
   rw [List.filter_filter]
   apply List.filter_congr
   intro j hj
   by_cases e : i = j
   ·subst e
    simp [hs, jG]
   ·have e' : (j != i) = true := by simpa using fun q => e q.symm
    rw [e', Bool.true_and]
    congr 1
    simp [R7 e]
  rw [e1, h, ZC, ZE]
  have hp := H3 n iV
  rw [h, aV] at hp
  obtain ⟨_, h2, h3⟩ := hp
  rw [LW] at h2
  simp only [bne_self_eq_false, Bool.false_eq_true, if_false]
  congr 1
  ·apply dU.2
   intro j hj
   have := h3 j hj i (by simp)
   simp; omega
  ·apply dU.2
   intro j hj
   have := h2.1 j hj
   simp; omega
 ·have hp := H3 n iV
  rw [h, aV] at hp
  have um : j ∈ rem n iV := by rw [h]; simp [hj]
  exact ⟨hp.2.2 j hj i (by simp), (Hk.1 um).2⟩
section
variable {P : Program} {T : TypeId → Option TI} {B : Base}
theorem Rel.drew (h : Rel B σ a w) : Rel B σ a w.drew := by
 obtain ⟨E, hr, hB⟩ := h
 have hl := hr.1.later (w' := w.drew) ((Bel.refl _ w).drew) (fun _ => False) (fun _ q => q.elim)
 exact ⟨_, hr.keepE hl.2 hl.1, hB.trans hl.2⟩
theorem Ys {F0 : Nat → Prop} {w0 : World} {ops : List Oper} {K : St → Prop} {dr : Bool} (kV : dr = true) : ∀ {l : List Oper} {σ : St} {acc : List Nat}, Reg P F0 w0 dr ops K l σ acc → l = ops.drop acc.length →
   ∃ κ τ τ0, (∃ ks, κ = acc.reverse ++ ks) ∧ FV ops κ = true ∧ K τ ∧ Same τ τ0 ∧ Lin P F0 w0 ops κ (List.range' acc.length l.length) σ τ0 := by
 intro l σ acc h
 induction h with
 | nil hf h => exact fun _ => ⟨_, _, _, ⟨[], by simp⟩, hf.resolve_left (by simp [kV]), h, Same.refl _, .nil _⟩
 | step k v m c df hg hw np hd h0 xg xh h ih =>
   rename_i o rest σ' oy g'
   intro hl
   have ho : ops[oy.length]? = some o := by
    have := congrArg (·[0]?) hl
    simpa using this.symm
   obtain ⟨κ, τ, τ0, ⟨ks, rfl⟩, h1, h2, h4, h3⟩ := ih (by have := congrArg (List.drop 1) hl; simpa [Tr] using this)
   refine ⟨_, τ, τ0, ⟨k :: ks, by simp⟩, h1, h2, h4, ?_⟩
   rw [List.length_cons, List.range'_succ]
   refine .cons v m c df ho hg ⟨?_, .inl ⟨hw, hd, ?_, ?_, ?_⟩⟩ (by simpa using h3)
   ·simpa using np
   ·simpa using h0
   ·simpa using xg
   ·simpa using xh
 | rel R pn hg hw hd h ih => rw [kV] at pn; cases pn
 | skip hg hw h ih =>
   rename_i o rest σ' oy d' nq
   intro hl
   have ho : ops[oy.length]? = some o := by
    have := congrArg (·[0]?) hl
    simpa using this.symm
   obtain ⟨κ, τ, τ0, ⟨ks, rfl⟩, h1, h2, h4, h3⟩ := ih (by have := congrArg (List.drop 1) hl; simpa [Tr] using this)
   refine ⟨_, τ, τ0, ⟨0 :: ks, by simp⟩, h1, h2, h4, ?_⟩
   rw [List.length_cons, List.range'_succ]
   exact .cons .und σ'.mem σ'.clock [] ho hg ⟨.inr (.inr (.inr ⟨rfl, rfl, rfl⟩)), .inr ⟨d', nq, rfl, hw, rfl, rfl, rfl, rfl⟩⟩ (by simpa using h3)
 | alike hs h ih =>
   intro hl
   obtain ⟨κ, τ, τ0, h1, h2, h3, h4, h5⟩ := ih hl
   obtain ⟨τ1, q1, q2⟩ := h5.same hs.symm
   exact ⟨κ, τ, τ1, h1, h2, h3, h4.trans q2, q1⟩
 | turn pn hn ht h ih => rw [kV] at pn; cases pn
theorem Yt {ops : List Oper} (kH : ∀ o ∈ ops, ∀ d, o.dst = some d → d < N) (ll : FV ops κ = true) {Q : Exit → Act → World → Prop} (hQ : ∀ a w, Rel B τ a w → Q .normal a w) :
   ∀ (fuel : Nat) (iV : Array Bool) (a : Act) (w : World) (σ τ0 : St), iV.size = ops.length → eK ops iV → (rem ops.length iV).length = fuel → Rel B σ a w → σ.n = N → Same τ τ0 →
    Lin P B.F0 B.w0 ops κ (rem ops.length iV) σ τ0 → wpAny P .any ops.toArray Q fuel iV a w := by
 obtain ⟨lJ, tC⟩ := NO ll
 have po : ∀ iV : Array Bool, ∀ i ∈ Region.ready .any ops.toArray iV, i ∈ rem ops.length iV ∧ ∀ o, ops[i]? = some o → ∀ e ∈ o.after.toList, Region.binds .any e = true → iV.getD e.on false = true := by
   intro iV i hi
   simp only [Region.ready, L1, XX, XT, BM] at hi
   obtain ⟨h1, h2, h3⟩ := hi
   refine ⟨Hk.2 ⟨h1, by simpa using h2⟩, fun o ho e he hb => ?_⟩
   rw [XM, ho] at h3
   simp only [Option.map_some, U4] at h3
   rw [← Array.all_toList, Eg] at h3
   have := h3 e he
   simpa [hb] using this
 intro fuel
 induction fuel with
 | zero =>
   intro iV a w σ τ0 hs hd hl hr hn mL h
   have jP : rem ops.length iV = [] := XP hl
   refine ⟨?_, ?_⟩
   ·cases hq : Region.ready .any ops.toArray iV with
    | nil => rfl
    | cons i l =>
      have := (po iV i (by rw [hq]; simp)).1
      rw [jP] at this
      simp at this
   ·rw [jP] at h
    cases h
    exact hQ a w (mL.symm.rel hr)
 | succ fuel ih =>
   intro iV a w σ τ0 hs hd hl hr hn mL h
   refine ⟨fun hq => ?_, fun i hi => ?_⟩
   ·exfalso
    cases vG : rem ops.length iV with
    | nil => rw [vG] at hl; simp at hl
    | cons i l =>
      have kF : i ∈ rem ops.length iV := by rw [vG]; simp
      obtain ⟨jG, kJ⟩ := Hk.1 kF
      have vH : ∀ j, j < i → iV.getD j true = true := by
       intro j hj
       cases pH : iV.getD j true with
       | true => rfl
       | false =>
         have um : j ∈ rem ops.length iV := Hk.2 ⟨by omega, pH⟩
         have hp := H3 ops.length iV
         rw [vG] at um hp
         rw [LW] at hp
         rcases FL.1 um with rfl | ky
         ·omega
         ·have := hp.1 j ky; omega
      have : i ∈ Region.ready .any ops.toArray iV := by
       simp only [Region.ready, L1, XX, XT, BM]
       refine ⟨jG, by simpa using kJ, ?_⟩
       have ho : ops[i]? = some (ops[i]'jG) := Bo jG
       rw [XM, ho]
       simp only [Option.map_some, U4]
       rw [← Array.all_toList, Eg]
       intro e he
       cases hb : Region.binds .any e with
       | false => simp
       | true =>
         have := vH e.on (lJ i _ ho e he hb)
         have i7 : e.on < iV.size := by have := lJ i _ ho e he hb; omega
         simp only [Bool.not_true, Bool.false_or]
         simp [i7] at this ⊢
         exact this
      rw [hq] at this
      simp at this
   ·obtain ⟨kF, qH⟩ := po iV i hi
    obtain ⟨A, Bk, e1, e2, e3⟩ := TV hs kF
    obtain ⟨jG, kJ⟩ := Hk.1 kF
    have ho : ops[i]? = some (ops[i]'jG) := Bo jG
    rw [e1] at h
    have vI : ∀ j ∈ A, ∃ x, ops[j]? = some x ∧ Jd ops x (ops[i]'jG) (κ.getD j 0) (κ.getD i 0) = true := by
      intro j hj
      obtain ⟨rJ, ky⟩ := e3 j hj
      have xm : ops[j]? = some (ops[j]'(by omega)) := Bo _
      refine ⟨_, xm, ?_⟩
      rcases tC i j _ _ ho rJ xm with q | q
      ·have := KY hd _ i j qH q
       have i7 : j < iV.size := by omega
       simp [i7] at this ky
       rw [this] at ky
       cases ky
      ·exact q
    obtain ⟨τ1, hp, lu⟩ := Lin.pull ho A vI h
    cases hp with | cons v m c df ql mv lv h1 =>
    rename_i o g
    obtain rfl : o = ops[i]'jG := by rw [ho] at ql; exact (aZ ql).symm
    have xn : ∀ d, (ops[i]'jG).dst = some d → d < σ.n := fun d mH => by rw [hn]; exact kH _ (Fo jG) d mH
    have oK : ∀ a' w', Rel B (upd σ (ops[i]'jG).dst v m c df) a' w' → wpAny P .any ops.toArray Q fuel (iV.setIfInBounds i true) a' w' := by
      intro a' w' r
      refine ih _ a' w' _ τ1 (by simpa using hs) ?_ ?_ r hn (mL.trans lu) (by rw [e2]; exact h1)
      ·intro k' o' mX rK e he hb
       by_cases ek : k' = i
       · subst ek
         have := qH o' mX e he hb
         by_cases ee : k' = e.on
         ·rw [← ee]; simp [hs, jG]
         ·simpa [R7 ee] using this
       · have nO : iV.getD k' false = true := by simpa [R7 (fun q => ek q.symm)] using rK
         have := hd k' o' mX nO e he hb
         by_cases ee : i = e.on
         ·rw [← ee]; simp [hs, jG]
         ·simpa [R7 ee] using this
      ·rw [e1] at hl
       rw [e2]
       simp at hl ⊢
       omega
    unfold wpOp
    rw [XM, ho]
    simp only
    obtain ⟨E, hr, hB⟩ := hr
    rcases lv.2 with ⟨q1, q2, _, _⟩ | ⟨d', nq, q1, q2, rfl, rfl, rfl, rfl⟩
    · rw [if_pos (H2 kH mv hn q1 hr)]
      refine .inl (q2 B σ E a w rfl rfl (fun _ _ => rfl) rfl rfl hr hB xn _ _ fun v' m' c' jx a' w' hR ly => ?_)
      obtain ⟨rfl, rfl, rfl, rfl⟩ := hR
      exact oK a' w' ly
    · rw [q1] at mv
      rw [if_neg (Mw kH mv hn q2 hr)]
      exact oK _ w ⟨E, Su hr xn, hB⟩
theorem Sv (n : Nat) : rem n (Array.replicate n false) = List.range n := by
 unfold rem
 apply dU.2
 intro i hi
 have := XX.1 hi
 simp [this]
theorem eL (dx : P.follows .mixedOrders = true) {R : Ex → St → Prop} {ks : List Fr} {id : Nat} {ops : Array Oper} {dr : Bool} (hd : Q6 σ.n ops.toList = true)
   (h : Reg P B.F0 B.w0 dr ops.toList (fun τ => Av P B R ks .norm τ) ops.toList σ []) : ARun P B (.region id ops dr) σ (Av P B R ks) := by
 intro a w hr
 cases dr with
 | false =>
   refine wp_region_list ?_
   have := V0 (P := P) (B := B) (N := σ.n) (fun o ho => Kz hd ho) (Q := fun e a' w' => ∃ x σ', Rel B σ' a' w' ∧ σ'.n = σ.n ∧ Av P B R ks x σ' ∧ Ex.fits e x) (fun τ a' w' r n' q => ⟨.norm, τ, r, n', q, trivial⟩) h (fun _ h => h) a w rfl hr
   simpa using this
 | true =>
   have hlen : ops.toList.length = ops.size := U2
   refine wp_region_any dx ?_
   obtain ⟨κ, τ, τ0, _, h1, h2, h4, h3⟩ := Ys rfl h (by simp)
   have hτ : ∀ (is : List Nat) (σ τ : St), Lin P B.F0 B.w0 ops.toList κ is σ τ → τ.n = σ.n := by
     intro is σ τ h
     induction h with
     | nil => rfl
     | cons v m c df ho hg hl h ih => exact ih
   have := Yt (P := P) (B := B) (N := σ.n) (fun o ho => Kz hd ho) h1 (Q := fun e a' w' => ∃ x σ', Rel B σ' a' w' ∧ σ'.n = σ.n ∧ Av P B R ks x σ' ∧ Ex.fits e x) (τ := τ) (fun a' w' r => ⟨.norm, τ, r, h4.n.symm.trans (hτ _ _ _ h3), h2, trivial⟩)
     ops.size (Array.replicate ops.size false) a w.drew σ τ0 (by simp)
     (fun k o ho hk => by
       by_cases i7 : k < ops.size
       ·simp [i7] at hk
       ·simp [i7] at hk)
     (by rw [hlen, Sv]; simp) hr.drew rfl h4 (by rw [hlen, Sv, List.range_eq_range']; simpa using h3)
   simpa using this
end
def AH (sl : List (Nat × SVal)) : Operand → SVal
 | .tmp t => look sl t
 | .const v => Is v
 | .global _ => .junk
 | .func f => .c (.d (.lit (.func (.func f) #[] #[])))
theorem C4 {n : Nat} {sl : List (Nat × SVal)} {mem : List Blk} {ck : Nat} {df : List (FuncId × List Cell)} : (St.mk n sl mem ck df).ev = AH sl := by
 funext x; cases x <;> rfl
def GW (ops : List Oper) (g : Option (Nat × Bool)) (sl : List (Nat × SVal)) : Prop :=
 match g with
 | none => True
 | some (j, want) => (match (ops[j]?).bind (·.dst) with
   | some d => look sl d = DP want
   | none => False)
theorem GW.out {ops : List Oper} {sl : List (Nat × SVal)} (h : GW ops o.guard sl) : ∃ g, CB ops o = some g ∧ ∀ n mem ck df, Wants g ⟨n, sl, mem, ck, df⟩ := by
 unfold GW at h
 unfold CB
 split at h
 ·rename_i e; try rw [e]
  exact ⟨none, rfl, fun _ _ _ _ => trivial⟩
 ·rename_i j want e
  try rw [e]
  try simp only
  split at h
  ·rename_i d hj
   try rw [hj]
   exact ⟨_, rfl, fun _ _ _ _ => h⟩
  ·exact h.elim
theorem A6 {α : Type} {l : List α} (h : l = []) : l = [] := h
theorem AG {α : Type} {l : List α} {a : α} {t t' : List α} (h : l = a :: t) (h' : t = t') : l = a :: t' := by rw [h, h']
section
variable {P : Program} {T : TypeId → Option TI} {F0 : Nat → Prop} {w0 : World} {dr : Bool} {ops rest : List Oper} {K : St → Prop} {n : Nat} {sl : List (Nat × SVal)} {mem : List Blk} {ck : Nat} {df : List (FuncId × List Cell)} {acc : List Nat}
variable {d : Tmp} {op : Op} {ty : TypeId} {pos : String} {iU : Array Edge} {g : Option (Nat × Bool)}
theorem Gp (hw : GW ops g sl) (hd : ∀ m c, Does P F0 w0 ⟨some d, op, ty, pos, iU, g⟩ (AH sl) m c (Fx v m c [])) (h : Reg P F0 w0 dr ops K rest ⟨n, (d, v) :: sl, mem, ck, df⟩ (0 :: acc)) :
  Reg P F0 w0 dr ops K (⟨some d, op, ty, pos, iU, g⟩ :: rest) ⟨n, sl, mem, ck, df⟩ acc := by
 obtain ⟨g', h1, h2⟩ := GW.out (o := ⟨some d, op, ty, pos, iU, g⟩) hw
 exact .step 0 v mem ck [] h1 (h2 _ _ _ _) (.inr (.inr (.inr ⟨rfl, rfl, rfl⟩))) (by rw [C4]; exact hd mem ck) (fun _ m c => by rw [C4]; exact hd m c) (fun q => by cases q) (fun r rd q => by have := CI r rd; omega) h
theorem QY (hw : GW ops g sl) (hd : ∀ M ck, Ext mem M → Does P F0 w0 ⟨some d, op, ty, pos, iU, g⟩ (AH sl) M ck (Fx v M ck [])) (h : Reg P F0 w0 dr ops K rest ⟨n, (d, v) :: sl, mem, ck, df⟩ (1 :: acc)) :
  Reg P F0 w0 dr ops K (⟨some d, op, ty, pos, iU, g⟩ :: rest) ⟨n, sl, mem, ck, df⟩ acc := by
 obtain ⟨g', h1, h2⟩ := GW.out (o := ⟨some d, op, ty, pos, iU, g⟩) hw
 exact .step 1 v mem ck [] h1 (h2 _ _ _ _) (.inr (.inr (.inr ⟨rfl, rfl, rfl⟩))) (by rw [C4]; exact hd _ _ (fun _ _ h _ => h)) (fun q => by cases q) (fun _ M c hM => by rw [C4]; exact hd M c hM) (fun r rd q => by have := CI r rd; omega) h
theorem Dh {x : Blk} (hw : GW ops g sl) (hm : mem[r]? = some x) (hd : ∀ M ck, M[r]? = some x → Does P F0 w0 ⟨some d, op, ty, pos, iU, g⟩ (AH sl) M ck (Fx v M ck [])) (h : Reg P F0 w0 dr ops K rest ⟨n, (d, v) :: sl, mem, ck, df⟩ (1 :: acc)) (hx : x.nh = true := by exact rfl) :
 Reg P F0 w0 dr ops K (⟨some d, op, ty, pos, iU, g⟩ :: rest) ⟨n, sl, mem, ck, df⟩ acc := QY hw (fun M ck hM => hd M ck (hM _ _ hm hx)) h
theorem gD {r' : Nat} {x y : Blk} (hw : GW ops g sl) (hm : mem[r]? = some x) (kW : mem[r']? = some y) (hd : ∀ M ck, M[r]? = some x → M[r']? = some y → Does P F0 w0 ⟨some d, op, ty, pos, iU, g⟩ (AH sl) M ck (Fx v M ck [])) (h : Reg P F0 w0 dr ops K rest ⟨n, (d, v) :: sl, mem, ck, df⟩ (1 :: acc)) (hx : x.nh = true := by exact rfl) (hy : y.nh = true := by exact rfl) :
 Reg P F0 w0 dr ops K (⟨some d, op, ty, pos, iU, g⟩ :: rest) ⟨n, sl, mem, ck, df⟩ acc := QY hw (fun M ck hM => hd M ck (hM _ _ hm hx) (hM _ _ kW hy)) h
theorem eM {bd : Nat} {x b : Blk} (hw : GW ops g sl) (hm : mem[r]? = some x) (hk : bd ≤ ck) (hd : ∀ M ck, M[r]? = some x → bd ≤ ck → Does P F0 w0 ⟨some d, op, ty, pos, iU, g⟩ (AH sl) M ck (Fx v (M.set r b) ck [])) (h : Reg P F0 w0 dr ops K rest ⟨n, (d, v) :: sl, mem.set r b, ck, df⟩ (BS r false :: acc)) :
  Reg P F0 w0 dr ops K (⟨some d, op, ty, pos, iU, g⟩ :: rest) ⟨n, sl, mem, ck, df⟩ acc := by
 obtain ⟨g', h1, h2⟩ := GW.out (o := ⟨some d, op, ty, pos, iU, g⟩) hw
 have mD := CI r false
 exact .step (BS r false) v (mem.set r b) ck [] h1 (h2 _ _ _ _) (.inr (.inr (.inl mD))) (by rw [C4]; exact hd _ _ hm hk) (fun q => by omega) (fun q => by omega) (fun r' rI q => by
  obtain ⟨rfl, rfl⟩ := Hj q
  rw [C4]
  exact ⟨x, b, bd, hm, hk, rfl, rfl, rfl, (fun q => by cases q), hd⟩) h
theorem eN {x b : Blk} (hw : GW ops g sl) (hm : mem[r]? = some x) (hd : ∀ M ck, M[r]? = some x → Does P F0 w0 ⟨none, op, ty, pos, iU, g⟩ (AH sl) M ck (Fx v (M.set r b) ck [])) (h : Reg P F0 w0 dr ops K rest ⟨n, sl, mem.set r b, ck, df⟩ (BS r false :: acc)) :
  Reg P F0 w0 dr ops K (⟨none, op, ty, pos, iU, g⟩ :: rest) ⟨n, sl, mem, ck, df⟩ acc := by
 obtain ⟨g', h1, h2⟩ := GW.out (o := ⟨none, op, ty, pos, iU, g⟩) hw
 have mD := CI r false
 exact .step (BS r false) v (mem.set r b) ck [] h1 (h2 _ _ _ _) (.inr (.inr (.inl mD))) (by rw [C4]; exact hd _ _ hm) (fun q => by omega) (fun q => by omega) (fun r' rI q => by
  obtain ⟨rfl, rfl⟩ := Hj q
  rw [C4]
  exact ⟨x, b, 0, hm, Nat.zero_le _, rfl, rfl, rfl, (fun q => by cases q), fun M ck q _ => hd M ck q⟩) h
theorem NP {x : Blk} (hw : GW ops g sl) (hm : mem[r]? = some x) (hd : ∀ M ck, M[r]? = some x → Does P F0 w0 ⟨some d, op, ty, pos, iU, g⟩ (AH sl) M ck (Fx v M ck [])) (h : Reg P F0 w0 dr ops K rest ⟨n, (d, v) :: sl, mem, ck, df⟩ (BS r true :: acc)) :
  Reg P F0 w0 dr ops K (⟨some d, op, ty, pos, iU, g⟩ :: rest) ⟨n, sl, mem, ck, df⟩ acc := by
 obtain ⟨g', h1, h2⟩ := GW.out (o := ⟨some d, op, ty, pos, iU, g⟩) hw
 have mD := CI r true
 exact .step (BS r true) v mem ck [] h1 (h2 _ _ _ _) (.inr (.inr (.inl mD))) (by rw [C4]; exact hd _ _ hm) (fun q => by omega) (fun q => by omega) (fun r' rI q => by
  obtain ⟨rfl, rfl⟩ := Hj q
  rw [C4]
  exact ⟨x, x, 0, hm, Nat.zero_le _, (DV hm).symm, rfl, rfl, (fun _ => rfl), fun M ck q _ => by rw [DV q]; exact hd M ck q⟩) h
theorem gY {ex : List Blk} (hw : GW ops g sl) (hd : Does P F0 w0 ⟨some d, op, ty, pos, iU, g⟩ (AH sl) mem ck (Fx v (mem ++ ex) c [])) (h : Reg P F0 w0 dr ops K rest ⟨n, (d, v) :: sl, mem ++ ex, c, df⟩ (3 :: acc)) :
  Reg P F0 w0 dr ops K (⟨some d, op, ty, pos, iU, g⟩ :: rest) ⟨n, sl, mem, ck, df⟩ acc := by
 obtain ⟨g', h1, h2⟩ := GW.out (o := ⟨some d, op, ty, pos, iU, g⟩) hw
 exact .step 3 v (mem ++ ex) c [] h1 (h2 _ _ _ _) (.inr (.inl ⟨rfl, ex, rfl, rfl⟩)) (by rw [C4]; exact hd) (fun q => by cases q) (fun q => by cases q) (fun r rd q => by have := CI r rd; omega) h
theorem U6 {m : List Blk} {jx : List (FuncId × List Cell)} (hw : GW ops g sl) (hd : Does P F0 w0 ⟨some d, op, ty, pos, iU, g⟩ (AH sl) mem ck (Fx v m c jx)) (h : Reg P F0 w0 dr ops K rest ⟨n, (d, v) :: sl, m, c, jx ++ df⟩ (2 :: acc)) :
  Reg P F0 w0 dr ops K (⟨some d, op, ty, pos, iU, g⟩ :: rest) ⟨n, sl, mem, ck, df⟩ acc := by
 obtain ⟨g', h1, h2⟩ := GW.out (o := ⟨some d, op, ty, pos, iU, g⟩) hw
 exact .step 2 v m c jx h1 (h2 _ _ _ _) (.inl rfl) (by rw [C4]; exact hd) (fun q => by cases q) (fun q => by cases q) (fun r rd q => by have := CI r rd; omega) h
theorem IE {m : List Blk} {jx : List (FuncId × List Cell)} (hw : GW ops g sl) (hd : Does P F0 w0 ⟨none, op, ty, pos, iU, g⟩ (AH sl) mem ck (Fx v m c jx)) (h : Reg P F0 w0 dr ops K rest ⟨n, sl, m, c, jx ++ df⟩ (2 :: acc)) :
  Reg P F0 w0 dr ops K (⟨none, op, ty, pos, iU, g⟩ :: rest) ⟨n, sl, mem, ck, df⟩ acc := by
 obtain ⟨g', h1, h2⟩ := GW.out (o := ⟨none, op, ty, pos, iU, g⟩) hw
 exact .step 2 v m c jx h1 (h2 _ _ _ _) (.inl rfl) (by rw [C4]; exact hd) (fun q => by cases q) (fun q => by cases q) (fun r rd q => by have := CI r rd; omega) h
theorem Yu {R : SVal → List Blk → Nat → List (FuncId × List Cell) → Prop} (kV : dr = false) (hw : GW ops g sl) (hd : Does P F0 w0 ⟨some d, op, ty, pos, iU, g⟩ (AH sl) mem ck R) (h : ∀ v m c jx, R v m c jx → Reg P F0 w0 dr ops K rest ⟨n, (d, v) :: sl, m, c, jx ++ df⟩ (2 :: acc)) :
  Reg P F0 w0 dr ops K (⟨some d, op, ty, pos, iU, g⟩ :: rest) ⟨n, sl, mem, ck, df⟩ acc := by
 obtain ⟨g', h1, h2⟩ := GW.out (o := ⟨some d, op, ty, pos, iU, g⟩) hw
 exact .rel R kV h1 (h2 _ _ _ _) (by rw [C4]; exact hd) h
theorem ZS (h : K ⟨n, sl, mem, ck, df⟩) : Reg P F0 w0 false ops K [] ⟨n, sl, mem, ck, df⟩ acc := .nil (.inl rfl) h
theorem bJ (hd : FV ops acc.reverse = true) (h : K ⟨n, sl, mem, ck, df⟩) : Reg P F0 w0 true ops K [] ⟨n, sl, mem, ck, df⟩ acc := .nil (.inr hd) h
theorem bK (hj : (ops[j]?).bind (·.dst) = some dg) (hb : look sl dg = DP b) (yU : b = !want) (h : Reg P F0 w0 dr ops K rest (upd ⟨n, sl, mem, ck, df⟩ dst .und mem ck []) (0 :: acc)) :
  Reg P F0 w0 dr ops K (⟨dst, op, ty, pos, iU, some (j, want)⟩ :: rest) ⟨n, sl, mem, ck, df⟩ acc :=
 .skip (d := dg) (want := want) (by simp [CB, hj]) (.inl (by subst yU; exact hb)) h
theorem Yv (hj : (ops[j]?).bind (·.dst) = some dg) (hb : look sl dg = DP !want) (h : Reg P F0 w0 dr ops K rest ⟨n, (d, .und) :: sl, mem, ck, df⟩ (0 :: acc)) :
 Reg P F0 w0 dr ops K (⟨some d, op, ty, pos, iU, some (j, want)⟩ :: rest) ⟨n, sl, mem, ck, df⟩ acc := bK hj hb rfl h
theorem Yw (hj : (ops[j]?).bind (·.dst) = some dg) (hb : look sl dg = .und) (h : Reg P F0 w0 dr ops K rest ⟨n, (d, .und) :: sl, mem, ck, df⟩ (0 :: acc)) :
  Reg P F0 w0 dr ops K (⟨some d, op, ty, pos, iU, some (j, want)⟩ :: rest) ⟨n, sl, mem, ck, df⟩ acc :=
 .skip (d := dg) (want := want) (by simp [CB, hj]) (.inr hb) h
theorem Jf (hb : look sl dg = DP b) : Same ⟨n, sl, mem, ck, df⟩ ⟨n, (dg, DP b) :: sl, mem, ck, df⟩ := by
 refine ⟨rfl, fun t => ?_, rfl, rfl, rfl⟩
 simp only [St.get, BB]
 by_cases h : dg = t
 ·subst h; rw [if_pos rfl, hb]
 ·rw [if_neg h]
theorem V2 (c : Bool) (_ : (ops[j]?).bind (·.dst) = some dg) (hb : look sl dg = DP b) (hc : b = c) (h : Reg P F0 w0 dr ops K (⟨dst, op, ty, pos, iU, some (j, want)⟩ :: rest) ⟨n, (dg, DP c) :: sl, mem, ck, df⟩ acc) :
  Reg P F0 w0 dr ops K (⟨dst, op, ty, pos, iU, some (j, want)⟩ :: rest) ⟨n, sl, mem, ck, df⟩ acc := by
 subst hc
 exact .alike (Jf hb) h
theorem Yx (_ : (ops[j]?).bind (·.dst) = some dg) (hb : look sl dg = DP b)
   (h1 : b = true → Reg P F0 w0 dr ops K (⟨dst, op, ty, pos, iU, some (j, want)⟩ :: rest) ⟨n, (dg, DP true) :: sl, mem, ck, df⟩ acc)
   (h2 : b = false → Reg P F0 w0 dr ops K (⟨dst, op, ty, pos, iU, some (j, want)⟩ :: rest) ⟨n, (dg, DP false) :: sl, mem, ck, df⟩ acc) :
   Reg P F0 w0 dr ops K (⟨dst, op, ty, pos, iU, some (j, want)⟩ :: rest) ⟨n, sl, mem, ck, df⟩ acc := by
 cases hc : b with
 | true => exact .alike (Jf hb) (by subst hc; exact h1 rfl)
 | false => exact .alike (Jf hb) (by subst hc; exact h2 rfl)
theorem eO (hT : AL P T) {t : TypeId} {x : Operand} {cs : List Cell} {f' : List Blk} (hw : GW ops g sl) (hx : AH sl x = v) (hc : v.cells = some cs) (hr : mem.length = r) (iZ : mem ++ [Blk.box (ck + 1) cs] = f')
  (h : Reg P F0 w0 dr ops K rest ⟨n, (d, .c (.bp r (ck + 1) 0)) :: sl, f', ck + 1, df⟩ (3 :: acc)) : Reg P F0 w0 dr ops K (⟨some d, .box t x, ty, pos, iU, g⟩ :: rest) ⟨n, sl, mem, ck, df⟩ acc :=
 by
  subst hr; subst iZ
  exact gY hw (Does.of hT fun τ he hm je Kk hK => by
    subst hm; subst je
    have ex := he x (by simp [Op.operands])
    rw [hx] at ex
    simp only [AV, ex, hc]
    exact hK _ _ _ _ ⟨rfl, rfl, rfl, rfl⟩) h
end
end Go.Abs
end
