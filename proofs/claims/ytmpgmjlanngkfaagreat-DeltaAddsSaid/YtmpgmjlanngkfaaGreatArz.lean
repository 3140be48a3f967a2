/-
  A call about some memory that leaves no new entry: the clock stays (for regions of open order).
-/
import Derived.Test.YtmpgmjlanngkfaaGreatDex
import Derived.Lib.Strings
import Derived.Lib.Slices
import Derived.Lib.Walk
import Derived.Lib.Bytealg
import Derived.Test.YtmpgmjlanngkfaaGreatHol
import Derived.Test.YtmpgmjlanngkfaaGreatArx
section
namespace Go.Proofs.YtmpgmjlanngkfaaGreat
open Go.Abs Go.RowKit
set_option linter.unusedSimpArgs false
set_option maxRecDepth 100000
set_option maxHeartbeats 4000000
set_option maxHeartbeats 1000000 in
theorem HH (a b : ByteArray) (w : World) :
  Calls Tryz.prog 216 #[.string a, .string b] w fun e w' => e = .returned (.int .i64 (Lib.compareBytes a.data.toList b.data.toList)) ∧ w' = w := by
 go_enter Tryz.func216, Tryz.ntmps216
 go_wp2
 rw [run_callFunc_extern Tryz.func244 (by kernel_rfl) (by kernel_rfl) (by kernel_rfl) (e := Extern.BytealgCompare.compare) (by kernel_rfl), Lib.run_compareString]
 simp only [Result.andThen]
 rw [Oper.upon_value]
 go_wp2
 go_ret
 exact ⟨rfl, rfl⟩
def Tb (a b : ByteArray) : Int := Lib.compareBytes a.toList b.toList
theorem IL (a b : ByteArray) : PC 216 [.one (.lit (.string a)), .one (.lit (.string b))] (.v (.one (.lit (.int .i64 (Tb a b))))) := by
 refine ⟨⟨_, Tryz.func216, by kernel_rfl, by kernel_rfl⟩, fun F w vs hF hl hv => ?_⟩
 match vs, hl with
 | [x, y], _ =>
   clear hl
   have h1 := (hv 0 x _ rfl rfl)
   have h2 := (hv 1 y _ rfl rfl)
   clear hv
   obtain rfl := h1.lit_inv
   obtain rfl := h2.lit_inv
   refine Calls.mono (HH a b w) fun e w' he => ?_
   obtain ⟨rfl, rfl⟩ := he
   refine ⟨_, rfl, Bel.refl _ _, .c (.d ?_)⟩
   rw [Tb, ByteArray.toList_eq, ByteArray.toList_eq]
   exact .lit _ rfl
attribute [local irreducible] ARun Au MCall PCall HCall Ak SF CF CFs Af Ag Ar fin AP VLe
theorem HI (a b : ByteArray) : PC 174 [.one (.lit (.string a)), .one (.lit (.string b))] (.v (.one (.lit (.int .i64 (Tb a b))))) := by
 refine Ac hT Tryz.func174 Tryz.ntmps174 [.tmp 4] fun B => ?_
 repeat' first | refine kz ?_ | refine Aa (IL _ _) ?_ | refine kf ?_ | fail
 all_goals rfl
theorem Fe : ∀ (x y : List UInt8), Lib.compareBytes x y = if x == y then 0 else if Op.bytesLess x y then -1 else 1
 | [], [] => by simp [Lib.compareBytes]
 | [], _ :: _ => by simp [Lib.compareBytes, Op.bytesLess]
 | _ :: _, [] => by simp [Lib.compareBytes, Op.bytesLess]
 | a :: x, b :: y => by
   simp only [Lib.compareBytes, Op.bytesLess, Fe x y, List.cons_beq_cons, beq_iff_eq]
   by_cases h : a < b
   ·have : ¬ a = b := fun e => by subst e; exact absurd h (UInt8.lt_irrefl a)
    simp [h, this]
   ·by_cases h2 : b < a
    ·have : ¬ a = b := fun e => by subst e; exact absurd h2 (UInt8.lt_irrefl a)
     simp [h, h2, this]
    ·have : a = b := UInt8.le_antisymm (UInt8.not_lt.1 h2) (UInt8.not_lt.1 h)
     subst this
     simp [h]
def Val.same (a b : Val) : Bool := (a.kind == b.kind) && ((a.int == b.int) && (a.text.toList == b.text.toList))
def Val.less (a b : Val) : Bool := decide (a.kind < b.kind) || ((a.kind == b.kind) && (decide (a.int < b.int) || Op.bytesLess a.text.toList b.text.toList))
def Val.cmp (a b : Val) : Int := if a.clean.same b.clean then 0 else if a.clean.less b.clean then -1 else 1
theorem AR (v : Val) : v.clean.valid = true := by
 unfold Val.clean
 split
 ·assumption
 ·simp [Val.null, Val.valid]
theorem CT {v : Val} (h : v.valid = true) (hk : v.kind ≠ 2) : v.text.toList = [] := by
 unfold Val.valid at h
 split at h
 ·simp at h; exact h.2
 ·split at h
  ·simp at h; exact h.2
  ·simp [hk] at h
theorem DD {v : Val} (h : v.valid = true) (hk : v.kind ≠ 1) : v.int = 0 := by
 unfold Val.valid at h
 rw [if_neg hk] at h
 split at h
 ·simp at h; exact h.1
 ·split at h
  ·simp at h; exact h.1
  ·simp at h
theorem Q8 {x y : Val} (h : ¬ x.kind = y.kind) : Ge x.kind y.kind = if x.same y = true then 0 else if x.less y = true then -1 else 1 := by
 simp only [Ge, Val.same, Val.less, beq_false_of_ne h, Bool.false_and, Bool.or_false, decide_eq_true_eq, Bool.false_eq_true, if_false]
 split
 ·rfl
 ·rw [if_pos (by omega)]
theorem Tc {x y : Val} (hx : x.valid = true) (hy : y.valid = true) (hk : x.kind = 1) (h : x.kind = y.kind) : Ge x.int y.int = if x.same y = true then 0 else if x.less y = true then -1 else 1 := by
 simp only [Ge, Val.same, Val.less, CT hx (by omega), CT hy (by omega), h]
 simp [Op.bytesLess]
 by_cases h1 : x.int < y.int
 ·simp [h1, show ¬ x.int = y.int by omega]
 ·by_cases h2 : y.int < x.int
  ·simp [h1, h2, show ¬ x.int = y.int by omega]
  ·simp [h1, h2, show x.int = y.int by omega]
theorem Q9 {x y : Val} (hx : x.valid = true) (hy : y.valid = true) (hk : x.kind = 2) (h : x.kind = y.kind) : Tb x.text y.text = if x.same y = true then 0 else if x.less y = true then -1 else 1 := by
 simp only [Tb, Val.same, Val.less, DD hx (by omega), DD hy (by omega), h, Fe]
 simp
theorem Ra {x y : Val} (hx : x.valid = true) (hy : y.valid = true) (h1 : ¬ x.kind = 1) (h2 : ¬ x.kind = 2) (h : x.kind = y.kind) : (0 : Int) = if x.same y = true then 0 else if x.less y = true then -1 else 1 := by
 have : x.same y = true := by
  simp only [Val.same, CT hx (by omega), CT hy (by omega), DD hx (by omega), DD hy (by omega), h]
  simp
 rw [if_pos this]
theorem LU (a b : Val) : PC 225 [.agg a.d, .agg b.d] (.v (.one (.lit (.int .i64 (a.cmp b))))) := by
 refine Ac hT Tryz.func225 Tryz.ntmps225 [.tmp 4] fun B => ?_
 repeat' first | refine kz ?_ | refine AN rfl (fun hb => ?_) (fun hb => ?_) | refine Aa (GK _) ?_ | refine Aq rfl rfl (fun hb => ?_) (fun hb => ?_) | refine kf ?_ | fail
 all_goals (refine congrArg Dat.lit (congrArg (Value.int _) ?_))
 all_goals unfold Val.cmp
 all_goals (generalize a.clean = x at *; generalize b.clean = y at *)
 all_goals simp_all [Val.cmp, Val.same, Val.less, Cb, Ja]
 ·rw [if_neg (by rintro ⟨h1, h2⟩; exact absurd h2 (by simp_all)), if_neg (by omega)]
theorem HJ (a b : Val) : PC 111 [.agg a.d, .agg b.d] (.v (.one (.lit (.int .i64 (a.cmp b))))) := by
 refine Ac hT Tryz.func111 Tryz.ntmps111 [.tmp 4] fun B => ?_
 repeat' first | refine kz ?_ | refine AN rfl (fun hb => ?_) (fun hb => ?_) | refine Aa (Hu _) ?_ | refine Aa (OC _ _) ?_ | refine Aa (PE _ _) ?_ | refine Aa (HI _ _) ?_ | refine kf ?_ | fail
 all_goals (refine congrArg Dat.lit (congrArg (Value.int _) ?_))
 all_goals unfold Val.cmp
 all_goals (have hx := AR a; have hy := AR b; generalize a.clean = x at *; generalize b.clean = y at *)
 ·exact Q8 (by simpa using hb)
 ·exact Tc hx hy (by simp_all) (by simp_all)
 ·exact Q9 hx hy (by simp_all) (by simp_all)
 ·exact Ra hx hy (by simp_all) (by simp_all) (by simp_all)
end Go.Proofs.YtmpgmjlanngkfaaGreat
end
section
namespace Go.Abs
open Go.RowKit
section
variable {P : Program} {F0 : Nat → Prop} {w0 : World}
def Q4 (E Es : Env) : Env := { F := Es.F, blk := E.blk, cap := E.cap, ver := E.ver, N := E.N }
theorem HCall.frame0 {f : FuncId} {args0 aas : List SVal} {mem0 mem1 mem : List Blk} {r1 : SVal} {ck : Nat} (idx : List Nat) (h : HCall P f args0 mem0 r1 mem1) (hz1 : FJ mem1 = true)
  (hn : idx.Nodup) (hlt : ∀ i ∈ idx, i < mem.length) (hl : idx.length = mem0.length)
  (hmem : ∀ (i : Nat) b0, mem0[i]? = some b0 → mem[Ax idx mem.length i]? = some (b0.up (Ax idx mem.length) (Dw mem (Ax idx mem.length) ck) i))
  (ha : AMs aas (args0.map (SVal.up (Ax idx mem.length) (Dw mem (Ax idx mem.length) ck)))) :
  MCall P F0 w0 f aas mem ck fun v m c => v = r1.up (Ax idx mem.length) (Dw mem (Ax idx mem.length) ck) ∧ m = H2 mem idx (Hx (Ax idx mem.length) (Dw mem (Ax idx mem.length) ck) mem1 0) ∧ c = ck := by
 obtain ⟨hck, hfn, hcall⟩ := h
 simp only [T4, Bi, LG, CN] at hck
 obtain ⟨c1, c2, c3, c4, c5, c6, c7⟩ := hck
 have inj : ∀ i j, Ax idx mem.length i = Ax idx mem.length j → i = j := fun i j q => H3 hn hlt q
 have hputs := JM idx mem
 generalize hρ : Ax idx mem.length = ρ at hmem ha inj hputs ⊢
 generalize hν : Dw mem ρ ck = ν at hmem ha ⊢
 have hν0 : ∀ r, ν r 0 = Dq mem (ρ r) := fun r => by rw [← hν]; rfl
 have hν1 : ∀ r, ν r 1 = ck + 1 := fun r => by rw [← hν]; rfl
 refine ⟨hfn, fun E w vs hw hvl hv => ?_⟩
 have live0 : ∀ r k, Dl mem0 r k = true → k = 0 ∧ E.ver (ρ r) = ν r k := by
  intro r k hs
  obtain ⟨b, hb, hk⟩ := DV hs
  have hk0 : k = 0 := by
    rcases Dx c2 r b hb with q | q
    · rw [q] at hk; cases hk
    · rw [q] at hk; cases hk; rfl
  refine ⟨hk0, ?_⟩
  exact (hw.mem.ok _ _ (hmem r b hb)).vers (by rw [B9, hk]; rfl)
 have down : Sees mem0 E (EF E mem ρ) ρ id ν (fun _ k => k) := ⟨fun _ q => q, fun r k hs => ⟨(live0 r k hs).2, (live0 r k hs).1.symm, rfl, rfl⟩⟩
 have hasS : ∀ {b : Blk} {i : Nat}, b.has (EF E mem ρ) i → b.has E (ρ i) := by
  intro b i q
  cases b <;> exact q
 have sc0 : ∀ (i : Nat) b k, mem0[i]? = some b → b.vers = some k → Dl mem0 i k = true := by
  intro i b k hb hk
  simp [Dl, hb, hk]
 have hsm : WOk F0 w0 (EF E mem ρ) w mem0 0 := by
  refine ⟨hw.below, hw.base, hw.F, ⟨fun _ => Nat.le_refl _, fun i b hb => ?_, fun i j b b' hb hb' h1 h2 hne => ?_⟩, fun k hk => ?_⟩
  · cases hk : b.vers with
    | none => cases b <;> first | trivial | exact absurd (c3 _ (Cl hb)) (by simp [Blk.sc]) | cases hk
    | some k =>
      have ho := hw.mem.ok _ _ (hmem i b hb)
      have := down.blk (w := w) (w' := w) (fun _ _ => rfl) (c3 b (Cl hb)) (sc0 i b k hb hk) hk ho (fun _ => rfl) (fun hh => by
       have hlt' := ho.lt (Bo.2 hh)
       rintro (q | q | ⟨s, x, q1, q2, q3, q4⟩)
       ·exact hlt'.2.2 (.inl q)
       ·exact hlt'.2.2 (.inr q)
       ·exact hw.mem.apart _ s _ x (hmem i b hb) q2 (Bo.2 hh) q3 (q1 i) q4)
      rw [T7] at this
      exact this
  · exact hw.mem.apart _ _ _ _ (hmem i b hb) (hmem j b' hb') (Bo.2 (hasS h1)) (Bo.2 (hasS h2)) (fun q => hne (inj i j q))
  · rcases hk with q | ⟨s, x, q1, q2, q3, rfl⟩
    · exact hw.N k q
    · have hlt' := (hw.mem.ok s x q2).lt q3
      exact ⟨hlt'.1, fun q => hlt'.2.2 (.inl q)⟩
 obtain ⟨g1, g2⟩ := AMs.get ha
 have hc := (hcall F0 w0).2 (EF E mem ρ) w vs hsm (by rw [hvl, g1]; simp) (fun i v x hvi hx => by
  have hlt' := lt_of_getElem? hvi
  have has : aas[i]? = some (aas[i]'(by omega)) := Bh _
  have h0 := (g2 i _ _ has (by rw [B2, hx]; rfl)).rep (hv i v _ hvi has)
  have h1 := down.val (w' := w) (fun _ _ => rfl) (c4 x (Cl hx)) h0
  rw [T6 (c4 x (Cl hx))] at h1
  exact h1)
 refine Calls.mono hc fun e w' hq => ?_
 obtain ⟨v, Es, r, m, c', he, hle, hwok, hrep, hr⟩ := hq
 have sc1 : ∀ (i : Nat) b k, mem1[i]? = some b → b.vers = some k → Dl mem1 i k = true := by
  intro i b k hb hk
  simp [Dl, hb, hk]
 have live1 : ∀ r k, Dl mem1 r k = true → Es.ver r = Dq m r ∧ (k = 0 → Es.ver r = 0 ∧ E.ver (ρ r) = ν r 0) ∧ (k = 0 ∨ k = 1) := by
  intro r k hs
  obtain ⟨b, hb, hk⟩ := DV hs
  have hm := hr.mem r (b.up id (CI m) r) (by rw [B8, hb]; simp) (B3 ⟨_, by rw [B9, hk]; rfl⟩)
  have hv := (hwok.mem.ok r _ hm).vers (k := CI m r k) (by rw [B9, hk]; rfl)
  have hkk := Gy mem1 0 c5 r b hb
  refine ⟨hv, fun hk0 => ?_, ?_⟩
  · subst hk0
    refine ⟨?_, ?_⟩
    · rw [hv]; exact hr.kept r (by rw [hb]; exact hk)
    · rcases hkk with q | q | ⟨_, b0, q1, q2⟩
      ·rw [q] at hk; cases hk
      ·rw [q] at hk; cases hk
      ·obtain ⟨k0, hk0⟩ := b7.1 q2
       rw [Nat.zero_add] at q1
       have := live0 r k0 (sc0 r b0 k0 q1 hk0)
       rw [this.2, this.1]
  · rcases hkk with q | q | ⟨q, _⟩
    · rw [q] at hk; cases hk
    · rw [q] at hk; cases hk; exact .inr rfl
    · rw [q] at hk; cases hk; exact .inl rfl
 have kept1 : ∀ i, (mem1[i]?).bind Blk.vers = some 0 → Es.blk i = E.blk (ρ i) ∧ Es.cap i = E.cap (ρ i) := by
  intro i hi
  cases hb : mem1[i]? with
  | none => rw [hb] at hi; cases hi
  | some b =>
    rw [hb] at hi
    have hs := sc1 i b 0 hb hi
    have := hle.same i (by rw [((live1 i 0 hs).2.1 rfl).1]; rfl)
    exact this
 have zero1 : ∀ r k, Dl mem1 r k = true → k = 0 := by
  intro r k hs
  obtain ⟨b, hb, hk⟩ := DV hs
  rcases Dx hz1 r b hb with q | q
  · rw [q] at hk; cases hk
  · rw [q] at hk; cases hk; rfl
 have blkE : ∀ r k, Dl mem1 r k = true → Es.blk r = E.blk (ρ r) ∧ Es.cap r = E.cap (ρ r) := by
  intro r k hs
  obtain rfl := zero1 r k hs
  obtain ⟨b, hb, hk⟩ := DV hs
  exact kept1 r (by rw [hb]; exact hk)
 have up : Sees mem1 Es (Q4 E Es) id ρ (CI m) ν := by
  refine ⟨fun _ q => q, fun r k hs => ⟨(live1 r k hs).1, ?_, (blkE r k hs).1.symm, (blkE r k hs).2.symm⟩⟩
  obtain rfl := zero1 r k hs
  exact ((live1 r 0 hs).2.1 rfl).2
 have hleB : EnvLe E w (Q4 E Es) w' := ⟨fun k hk => hle.F k hk, fun k hk => hle.mem k hk, fun _ => Nat.le_refl _, fun _ _ => ⟨rfl, rfl⟩, fun k hk => ⟨hk, (hle.held k (.inl hk)).2⟩⟩
 refine ⟨v, Q4 E Es, _, _, _, he, hleB, ?_, up.val (fun _ _ => rfl) c7 (hr.res.rep hrep), rfl, rfl, rfl⟩
 have hul : (Hx ρ ν mem1 0).length = mem1.length := Md _ _ _ _
 have hget : ∀ s x, (H2 mem idx (Hx ρ ν mem1 0))[s]? = some x → (∃ i b1, mem1[i]? = some b1 ∧ x = b1.up ρ ν i ∧ ρ i = s) ∨ ((∀ i, ρ i ≠ s) ∧ mem[s]? = some x) := by
  intro s x hx
  rcases hputs _ (by rw [hul, hl]; exact c1) hn hlt s x hx with ⟨i, h1, h2⟩ | h1
  · rw [B8] at h1
    cases hb : mem1[i]? with
    | none => rw [hb] at h1; cases h1
    | some b1 =>
      rw [hb] at h1
      simp only [Option.map_some, Option.some.injEq, Nat.zero_add] at h1
      exact .inl ⟨i, b1, hb, h1.symm, h2⟩
  · exact .inr h1
 have hasL : ∀ {b : Blk} {i : Nat}, mem1[i]? = some b → b.has (Q4 E Es) (ρ i) → b.has Es i := by
  intro b i hb q
  obtain ⟨k, hk⟩ := Dd q
  have e := (blkE i k (sc1 i b k hb hk)).2
  have e2 : (Q4 E Es).cap (ρ i) = Es.cap i := e.symm
  cases b <;> first | exact q | (simp only [Blk.has] at q ⊢; rw [← e2]; exact q)
 have hasN : ∀ {b : Blk} {s : Nat}, (∀ i, ρ i ≠ s) → b.has (Q4 E Es) s → b.has E s := by
  intro b s _ q
  exact Blk.has_of rfl q
 have bE : ∀ {b : Blk} {i : Nat}, mem1[i]? = some b → b.has Es i → E.blk (ρ i) = Es.blk i := by
  intro b i hb q
  obtain ⟨k, hk⟩ := Dd q
  exact (blkE i k (sc1 i b k hb hk)).1.symm
 have mine : ∀ (i : Nat) b1, mem1[i]? = some b1 → b1.has Es i → BlkOk w0.heap.size Es w' i (b1.up id (CI m) i) := by
  intro i b1 hb hh
  obtain ⟨k, hk⟩ := Dd hh
  exact hwok.mem.ok i _ (hr.mem i (b1.up id (CI m) i) (by rw [B8, hb]; simp) (B3 ⟨_, by rw [B9, hk]; rfl⟩))
 have heldS : ∀ s x, (∀ i, ρ i ≠ s) → mem[s]? = some x → x.has E s → Es.N (E.blk s) ∧ w'.heap[E.blk s]? = w.heap[E.blk s]? := fun s x q1 q2 q3 => hle.held _ (.inr ⟨s, x, q1, q2, q3, rfl⟩)
 refine ⟨hwok.below, hwok.base, hwok.F, ⟨fun s => ?_, fun s x hx => ?_, fun s s' x x' hx hx' h1 h2 hne => ?_⟩, fun k hk => hwok.N k (hle.held k (.inl hk)).1⟩
 ·exact hw.mem.clock s
 ·rcases hget s x hx with ⟨i, b1, hb, rfl, rfl⟩ | ⟨hs, hx0⟩
  · cases hk : b1.vers with
    | none => cases b1 <;> first | trivial | exact absurd (c6 _ (Cl hb)) (by simp [Blk.sc]) | cases hk
    | some k =>
      have hm := hr.mem i (b1.up id (CI m) i) (by rw [B8, hb]; simp) (B3 ⟨_, by rw [B9, hk]; rfl⟩)
      have ho := hwok.mem.ok i _ hm
      exact up.blk (w := w') (w' := w') (fun _ _ => rfl) (c6 b1 (Cl hb)) (sc1 i b1 k hb hk) hk ho (fun _ => rfl) (fun hh => by
       have hlt' := ho.lt (Bo.2 hh)
       rintro (q | q)
       ·exact hlt'.2.2 (.inl q)
       ·exact hlt'.2.2 (.inr (hle.held _ (.inl q)).1))
  · have ho := hw.mem.ok s x hx0
    refine ho.le hleB (fun _ => rfl) (fun hh => (heldS s x hs hx0 hh).2) (fun hh => ?_)
    rintro (q | q)
    · exact (hwok.N _ (heldS s x hs hx0 hh).1).2 q
    · exact (ho.lt hh).2.2 (.inr q)
 ·show E.blk s ≠ E.blk s'
  rcases hget s x hx with ⟨i, b1, hb, rfl, rfl⟩ | ⟨hs, hx0⟩
  · have hi := hasL hb (Bo.1 h1)
    rw [bE hb hi]
    rcases hget s' x' hx' with ⟨j, b2, hb', rfl, rfl⟩ | ⟨hs', hx0'⟩
    · have hj := hasL hb' (Bo.1 h2)
      rw [bE hb' hj]
      obtain ⟨k1, hk1⟩ := Dd hi
      obtain ⟨k2, hk2⟩ := Dd hj
      have m1 := hr.mem i (b1.up id (CI m) i) (by rw [B8, hb]; simp) (B3 ⟨_, by rw [B9, hk1]; rfl⟩)
      have m2 := hr.mem j (b2.up id (CI m) j) (by rw [B8, hb']; simp) (B3 ⟨_, by rw [B9, hk2]; rfl⟩)
      exact hwok.mem.apart i j _ _ m1 m2 (Bo.2 hi) (Bo.2 hj) (fun q => hne (by rw [q]))
    · have hj := hasN hs' h2
      intro q
      have := ((mine i b1 hb hi).lt (Bo.2 hi)).2.2
      exact this (.inr (by rw [q]; exact (heldS s' x' hs' hx0' hj).1))
  · have hi := hasN hs h1
    rcases hget s' x' hx' with ⟨j, b2, hb', rfl, rfl⟩ | ⟨hs', hx0'⟩
    · have hj := hasL hb' (Bo.1 h2)
      rw [bE hb' hj]
      intro q
      have := ((mine j b2 hb' hj).lt (Bo.2 hj)).2.2
      exact this (.inr (by rw [← q]; exact (heldS s x hs hx0 hi).1))
    · have hj := hasN hs' h2
      exact hw.mem.apart s s' x x' hx0 hx0' hi hj hne
end
section
variable {P : Program} {T : TypeId → Option TI} {F0 : Nat → Prop} {w0 : World}
variable {dr : Bool} {ops rest : List Oper} {K : St → Prop} {n : Nat} {sl : List (Nat × SVal)} {mem : List Blk} {ck : Nat} {df : List (FuncId × List Cell)} {acc : List Nat}
variable {d : Tmp} {op : Op} {ty : TypeId} {pos : String} {aft : Array Edge} {g : Option (Nat × Bool)}
theorem IY [tc : TC P T] (r : Nat) {f : Operand} {fv : SVal} {args : Array Operand} {ats : Array TypeId} {fid : FuncId} {k : Nat} {cs0 cs1 : List Cell} {y z : Dat} {mem' : List Blk} (hp : HCall P fid [.c (.bp 0 0 0), .c (.d y)] [.box 0 cs0] (.c (.d z)) [.box 0 cs1]) (h : Reg P F0 w0 dr ops K rest ⟨n, (d, .c (.d z)) :: sl, mem', ck, df⟩ (B6 r false :: acc))
  (hw : GW ops g sl := by first | exact trivial | exact rfl) (hf : AH sl f = fv := by exact rfl) (hc : Cd fv = some (fid, []) := by exact rfl) (has : args.toList.map (AH sl) = [.c (.bp r k 0), .c (.d y)] := by exact rfl) (hm : mem[r]? = some (.box k cs0) := by exact rfl) (u0 : ∀ ρ ν, Cell.ups ρ ν cs0 = cs0 := by intro _ _; simp only [Cell.ups, Cell.up]) (u1 : ∀ ρ ν, Cell.ups ρ ν cs1 = cs1 := by intro _ _; simp only [Cell.ups, Cell.up]) (hm' : mem.set r (.box k cs1) = mem' := by exact rfl) :
  Reg P F0 w0 dr ops K (⟨some d, .call ⟨.value f, args, ats⟩, ty, pos, aft, g⟩ :: rest) ⟨n, sl, mem, ck, df⟩ acc := by
 subst hm'
 refine cm (bd := 0) hw hm (Nat.zero_le _) (fun M c hM _ => Does.of tc.ok fun τ he hmm hck Kk hK => ?_) h
 subst hmm; subst hck
 have hlt := lt_of_getElem? hM
 have hv : Dq τ.mem r = k := by simp [Dq, hM, Blk.vers]
 have hq := HCall.frame0 (F0 := F0) (w0 := w0) (mem := τ.mem) (ck := τ.clock) (aas := [.c (.bp r k 0), .c (.d y)]) [r] hp rfl (by simp) (by simpa using hlt) rfl (fun i b0 hb => by
  cases i with
  | zero =>
    simp only [List.getElem?_cons_zero, Option.some.injEq] at hb
    subst hb
    simp only [Blk.up, u0, Ax, Dw, hv]
    exact hM
  | succ i => simp at hb) (by
  simp only [List.map_cons, List.map_nil, SVal.up, Cell.up, Ax, Dw, hv]
  exact JP Hd (JP Hd trivial))
 obtain ⟨e1, e2⟩ := IZ he
 rw [hf] at e1
 have has' : args.toList.map (AH sl) ++ ([] : List Cell).map .c = [.c (.bp r k 0), .c (.d y)] := by rw [has]; rfl
 simp only [AQ, DI, e1, hc, e2, has']
 refine ⟨hq.1, fun E w vs q1 q2 q3 => Calls.mono (hq.2 E w vs q1 q2 q3) fun _ _ ⟨v', E', rr, m, c, p1, p2, p3, p4, p5, p6, p7⟩ => ⟨v', E', rr, m, c, p1, p2, p3, p4, ?_⟩⟩
 subst p5; subst p6; subst p7
 have em : H2 τ.mem [r] (Hx (Ax [r] τ.mem.length) (Dw τ.mem (Ax [r] τ.mem.length) τ.clock) [.box 0 cs1] 0) = τ.mem.set r (.box k cs1) := by
  simp only [Hx, Blk.up, u1, Ax, Dw, hv, H2, List.append_nil]
 rw [em]
 exact hK _ _ _ _ ⟨rfl, rfl, rfl, rfl⟩
end
end Go.Abs
end
