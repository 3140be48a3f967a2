/-
  A call about some memory that leaves no new entry: the clock stays (for regions of open order).
-/
import Derived.Test.YtmpgmjlanngkfaaGreatLaid
import Derived.Lib.Strings
import Derived.Lib.Slices
import Derived.Lib.Walk
import Derived.Lib.Bytealg
import Derived.Test.YtmpgmjlanngkfaaGreatTypes
import Derived.Test.YtmpgmjlanngkfaaGreatArx
section
namespace Go.Proofs.YtmpgmjlanngkfaaGreat
open Go.Abs Go.RowKit
set_option linter.unusedSimpArgs false
set_option maxRecDepth 100000
set_option maxHeartbeats 4000000
set_option maxHeartbeats 1000000 in
theorem I9 (a b : ByteArray) (w : World) :
  Calls Tryz.prog 216 #[.string a, .string b] w fun e w' => e = .returned (.int .i64 (Lib.compareBytes a.data.toList b.data.toList)) ∧ w' = w := by
 go_enter Tryz.func216, Tryz.ntmps216
 go_wp2
 rw [run_callFunc_extern Tryz.func244 (by kernel_rfl) (by kernel_rfl) (by kernel_rfl) (e := Extern.BytealgCompare.compare) (by kernel_rfl), Lib.run_compareString]
 simp only [Result.andThen]
 rw [Oper.upon_value]
 go_wp2
 go_ret
 exact ⟨rfl, rfl⟩
def VV (a b : ByteArray) : Int := Lib.compareBytes a.toList b.toList
theorem J9 (a b : ByteArray) : PC 216 [.one (.lit (.string a)), .one (.lit (.string b))] (.v (.one (.lit (.int .i64 (VV a b))))) := by
 refine ⟨⟨_, Tryz.func216, by kernel_rfl, by kernel_rfl⟩, fun F w vs hF hl hv => ?_⟩
 match vs, hl with
 | [x, y], _ =>
   clear hl
   have h1 := (hv 0 x _ rfl rfl)
   have h2 := (hv 1 y _ rfl rfl)
   clear hv
   obtain rfl := h1.lit_inv
   obtain rfl := h2.lit_inv
   refine Calls.mono (I9 a b w) fun e w' he => ?_
   obtain ⟨rfl, rfl⟩ := he
   refine ⟨_, rfl, Bel.refl _ _, .c (.d ?_)⟩
   rw [VV, ByteArray.toList_eq, ByteArray.toList_eq]
   exact .lit _ rfl
attribute [local irreducible] ARun Av MCall PCall HCall Ap SF CF CFs Ag Ai As fin AY VLe
theorem Ja (a b : ByteArray) : PC 174 [.one (.lit (.string a)), .one (.lit (.string b))] (.v (.one (.lit (.int .i64 (VV a b))))) := by
 refine Ac hT Tryz.func174 Tryz.ntmps174 [.tmp 4] fun B => ?_
 repeat' first | refine kz ?_ | refine Aa (J9 _ _) ?_ | refine kf ?_ | fail
 all_goals rfl
theorem Gi : ∀ (x y : List UInt8), Lib.compareBytes x y = if x == y then 0 else if Op.bytesLess x y then -1 else 1
 | [], [] => by simp [Lib.compareBytes]
 | [], _ :: _ => by simp [Lib.compareBytes, Op.bytesLess]
 | _ :: _, [] => by simp [Lib.compareBytes, Op.bytesLess]
 | a :: x, b :: y => by
   simp only [Lib.compareBytes, Op.bytesLess, Gi x y, List.cons_beq_cons, beq_iff_eq]
   by_cases h : a < b
   ·have : ¬ a = b := fun e => by subst e; exact absurd h (UInt8.lt_irrefl a)
    simp [h, this]
   ·by_cases h2 : b < a
    ·have : ¬ a = b := fun e => by subst e; exact absurd h2 (UInt8.lt_irrefl a)
     simp [h, h2, this]
    ·have : a = b := UInt8.le_antisymm (UInt8.not_lt.1 h2) (UInt8.not_lt.1 h)
     subst this
     simp [h]
def Val.same (a b : Val) : Bool := (a.kind == b.kind) && ((a.int == b.int) && (a.text.toList == b.text.toList))
def Val.less (a b : Val) : Bool := decide (a.kind < b.kind) || ((a.kind == b.kind) && (decide (a.int < b.int) || Op.bytesLess a.text.toList b.text.toList))
def Val.cmp (a b : Val) : Int := if a.clean.same b.clean then 0 else if a.clean.less b.clean then -1 else 1
theorem A3 (v : Val) : v.clean.valid = true := by
 unfold Val.clean
 split
 ·assumption
 ·simp [Val.null, Val.valid]
theorem Dz {v : Val} (h : v.valid = true) (hk : v.kind ≠ 2) : v.text.toList = [] := by
 unfold Val.valid at h
 split at h
 ·simp at h; exact h.2
 ·split at h
  ·simp at h; exact h.2
  ·simp [hk] at h
theorem EA {v : Val} (h : v.valid = true) (hk : v.kind ≠ 1) : v.int = 0 := by
 unfold Val.valid at h
 rw [if_neg hk] at h
 split at h
 ·simp at h; exact h.1
 ·split at h
  ·simp at h; exact h.1
  ·simp at h
theorem TQ {x y : Val} (h : ¬ x.kind = y.kind) : HH x.kind y.kind = if x.same y = true then 0 else if x.less y = true then -1 else 1 := by
 simp only [HH, Val.same, Val.less, beq_false_of_ne h, Bool.false_and, Bool.or_false, decide_eq_true_eq, Bool.false_eq_true, if_false]
 split
 ·rfl
 ·rw [if_pos (by omega)]
theorem VW {x y : Val} (hx : x.valid = true) (hy : y.valid = true) (hk : x.kind = 1) (h : x.kind = y.kind) : HH x.int y.int = if x.same y = true then 0 else if x.less y = true then -1 else 1 := by
 simp only [HH, Val.same, Val.less, Dz hx (by omega), Dz hy (by omega), h]
 simp [Op.bytesLess]
 by_cases h1 : x.int < y.int
 ·simp [h1, show ¬ x.int = y.int by omega]
 ·by_cases h2 : y.int < x.int
  ·simp [h1, h2, show ¬ x.int = y.int by omega]
  ·simp [h1, h2, show x.int = y.int by omega]
theorem TR {x y : Val} (hx : x.valid = true) (hy : y.valid = true) (hk : x.kind = 2) (h : x.kind = y.kind) : VV x.text y.text = if x.same y = true then 0 else if x.less y = true then -1 else 1 := by
 simp only [VV, Val.same, Val.less, EA hx (by omega), EA hy (by omega), h, Gi]
 simp
theorem TS {x y : Val} (hx : x.valid = true) (hy : y.valid = true) (h1 : ¬ x.kind = 1) (h2 : ¬ x.kind = 2) (h : x.kind = y.kind) : (0 : Int) = if x.same y = true then 0 else if x.less y = true then -1 else 1 := by
 have : x.same y = true := by
  simp only [Val.same, Dz hx (by omega), Dz hy (by omega), EA hx (by omega), EA hy (by omega), h]
  simp
 rw [if_pos this]
theorem IB (a b : Val) : PC 225 [.agg a.d, .agg b.d] (.v (.one (.lit (.int .i64 (a.cmp b))))) := by
 refine Ac hT Tryz.func225 Tryz.ntmps225 [.tmp 4] fun B => ?_
 repeat' first | refine kz ?_ | refine Az rfl (fun hb => ?_) (fun hb => ?_) | refine Aa (Gf _) ?_ | refine Al rfl rfl (fun hb => ?_) (fun hb => ?_) | refine kf ?_ | fail
 all_goals (refine congrArg Dat.lit (congrArg (Value.int _) ?_))
 all_goals unfold Val.cmp
 all_goals (generalize a.clean = x at *; generalize b.clean = y at *)
 all_goals simp_all [Val.cmp, Val.same, Val.less, Cy, JH]
 ·rw [if_neg (by rintro ⟨h1, h2⟩; exact absurd h2 (by simp_all)), if_neg (by omega)]
theorem Jb (a b : Val) : PC 111 [.agg a.d, .agg b.d] (.v (.one (.lit (.int .i64 (a.cmp b))))) := by
 refine Ac hT Tryz.func111 Tryz.ntmps111 [.tmp 4] fun B => ?_
 repeat' first | refine kz ?_ | refine Az rfl (fun hb => ?_) (fun hb => ?_) | refine Aa (IZ _) ?_ | refine Aa (QR _ _) ?_ | refine Aa (R6 _ _) ?_ | refine Aa (Ja _ _) ?_ | refine kf ?_ | fail
 all_goals (refine congrArg Dat.lit (congrArg (Value.int _) ?_))
 all_goals unfold Val.cmp
 all_goals (have hx := A3 a; have hy := A3 b; generalize a.clean = x at *; generalize b.clean = y at *)
 ·exact TQ (by simpa using hb)
 ·exact VW hx hy (by simp_all) (by simp_all)
 ·exact TR hx hy (by simp_all) (by simp_all)
 ·exact TS hx hy (by simp_all) (by simp_all) (by simp_all)
end Go.Proofs.YtmpgmjlanngkfaaGreat
end
section
namespace Go.Abs
open Go.RowKit
section
variable {P : Program} {F0 : Nat → Prop} {w0 : World}
def TK (E Es : Env) : Env := { F := Es.F, blk := E.blk, cap := E.cap, ver := E.ver, N := E.N }
theorem HCall.frame0 {f : FuncId} {ja oL : List SVal} {j5 iW mem : List Blk} {r1 : SVal} {ck : Nat} (idx : List Nat) (h : HCall P f ja j5 r1 iW) (lj : GY iW = true)
  (hn : idx.Nodup) (i7 : ∀ i ∈ idx, i < mem.length) (hl : idx.length = j5.length)
  (jt : ∀ (i : Nat) b0, j5[i]? = some b0 → mem[AA idx mem.length i]? = some (b0.up (AA idx mem.length) (Dr mem (AA idx mem.length) ck) i))
  (ha : AMs oL (ja.map (SVal.up (AA idx mem.length) (Dr mem (AA idx mem.length) ck)))) :
  MCall P F0 w0 f oL mem ck fun v m c => v = r1.up (AA idx mem.length) (Dr mem (AA idx mem.length) ck) ∧ m = H9 mem idx (Gj (AA idx mem.length) (Dr mem (AA idx mem.length) ck) iW 0) ∧ c = ck := by
 obtain ⟨je, mS, jd⟩ := h
 simp only [RE, BM, Md, Eg] at je
 obtain ⟨c1, c2, c3, c4, c5, c6, c7⟩ := je
 have inj : ∀ i j, AA idx mem.length i = AA idx mem.length j → i = j := fun i j q => Jn hn i7 q
 have nn := La idx mem
 generalize hρ : AA idx mem.length = ρ at jt ha inj nn ⊢
 generalize hν : Dr mem ρ ck = ν at jt ha ⊢
 have vu : ∀ r, ν r 0 = Ch mem (ρ r) := fun r => by rw [← hν]; rfl
 have tk : ∀ r, ν r 1 = ck + 1 := fun r => by rw [← hν]; rfl
 refine ⟨mS, fun E w vs hw kM hv => ?_⟩
 have ma : ∀ r k, Eb j5 r k = true → k = 0 ∧ E.ver (ρ r) = ν r k := by
  intro r k hs
  obtain ⟨b, hb, hk⟩ := ES hs
  have pd : k = 0 := by
    rcases Eo c2 r b hb with q | q
    · rw [q] at hk; cases hk
    · rw [q] at hk; cases hk; rfl
  refine ⟨pd, ?_⟩
  exact (hw.mem.ok _ _ (jt r b hb)).vers (by rw [CD, hk]; rfl)
 have down : Sees j5 E (FD E mem ρ) ρ id ν (fun _ k => k) := ⟨fun _ q => q, fun r k hs => ⟨(ma r k hs).2, (ma r k hs).1.symm, rfl, rfl⟩⟩
 have pe : ∀ {b : Blk} {i : Nat}, b.has (FD E mem ρ) i → b.has E (ρ i) := by
  intro b i q
  cases b <;> exact q
 have tn : ∀ (i : Nat) b k, j5[i]? = some b → b.vers = some k → Eb j5 i k = true := by
  intro i b k hb hk
  simp [Eb, hb, hk]
 have nL : WOk F0 w0 (FD E mem ρ) w j5 0 := by
  refine ⟨hw.below, hw.base, hw.F, ⟨fun _ => Nat.le_refl _, fun i b hb => ?_, fun i j b b' hb lF h1 h2 j2 => ?_⟩, fun k hk => ?_⟩
  · cases hk : b.vers with
    | none => cases b <;> first | trivial | exact absurd (c3 _ (Cb hb)) (by simp [Blk.sc]) | cases hk
    | some k =>
      have ho := hw.mem.ok _ _ (jt i b hb)
      have := down.blk (w := w) (w' := w) (fun _ _ => rfl) (c3 b (Cb hb)) (tn i b k hb hk) hk ho (fun _ => rfl) (fun hh => by
       have k9 := ho.lt (BP.2 hh)
       rintro (q | q | ⟨s, x, q1, q2, q3, q4⟩)
       ·exact k9.2.2 (.inl q)
       ·exact k9.2.2 (.inr q)
       ·exact hw.mem.apart _ s _ x (jt i b hb) q2 (BP.2 hh) q3 (q1 i) q4)
      rw [WI] at this
      exact this
  · exact hw.mem.apart _ _ _ _ (jt i b hb) (jt j b' lF) (BP.2 (pe h1)) (BP.2 (pe h2)) (fun q => j2 (inj i j q))
  · rcases hk with q | ⟨s, x, q1, q2, q3, rfl⟩
    · exact hw.N k q
    · have k9 := (hw.mem.ok s x q2).lt q3
      exact ⟨k9.1, fun q => k9.2.2 (.inl q)⟩
 obtain ⟨g1, g2⟩ := AMs.get ha
 have hc := (jd F0 w0).2 (FD E mem ρ) w vs nL (by rw [kM, g1]; simp) (fun i v x mr hx => by
  have k9 := lt_of_getElem? mr
  have has : oL[i]? = some (oL[i]'(by omega)) := Bo _
  have h0 := (g2 i _ _ has (by rw [BU, hx]; rfl)).rep (hv i v _ mr has)
  have h1 := down.val (w' := w) (fun _ _ => rfl) (c4 x (Cb hx)) h0
  rw [WH (c4 x (Cb hx))] at h1
  exact h1)
 refine Calls.mono hc fun e w' hq => ?_
 obtain ⟨v, Es, r, m, c', he, hle, kj, j4, hr⟩ := hq
 have rB : ∀ (i : Nat) b k, iW[i]? = some b → b.vers = some k → Eb iW i k = true := by
  intro i b k hb hk
  simp [Eb, hb, hk]
 have lG : ∀ r k, Eb iW r k = true → Es.ver r = Ch m r ∧ (k = 0 → Es.ver r = 0 ∧ E.ver (ρ r) = ν r 0) ∧ (k = 0 ∨ k = 1) := by
  intro r k hs
  obtain ⟨b, hb, hk⟩ := ES hs
  have hm := hr.mem r (b.up id (CK m) r) (by rw [CC, hb]; simp) (Cw ⟨_, by rw [CD, hk]; rfl⟩)
  have hv := (kj.mem.ok r _ hm).vers (k := CK m r k) (by rw [CD, hk]; rfl)
  have np := Ia iW 0 c5 r b hb
  refine ⟨hv, fun pd => ?_, ?_⟩
  · subst pd
    refine ⟨?_, ?_⟩
    · rw [hv]; exact hr.kept r (by rw [hb]; exact hk)
    · rcases np with q | q | ⟨_, b0, q1, q2⟩
      ·rw [q] at hk; cases hk
      ·rw [q] at hk; cases hk
      ·obtain ⟨k0, pd⟩ := gw.1 q2
       rw [Nat.zero_add] at q1
       have := ma r k0 (tn r b0 k0 q1 pd)
       rw [this.2, this.1]
  · rcases np with q | q | ⟨q, _⟩
    · rw [q] at hk; cases hk
    · rw [q] at hk; cases hk; exact .inr rfl
    · rw [q] at hk; cases hk; exact .inl rfl
 have pf : ∀ i, (iW[i]?).bind Blk.vers = some 0 → Es.blk i = E.blk (ρ i) ∧ Es.cap i = E.cap (ρ i) := by
  intro i hi
  cases hb : iW[i]? with
  | none => rw [hb] at hi; cases hi
  | some b =>
    rw [hb] at hi
    have hs := rB i b 0 hb hi
    have := hle.same i (by rw [((lG i 0 hs).2.1 rfl).1]; rfl)
    exact this
 have qF : ∀ r k, Eb iW r k = true → k = 0 := by
  intro r k hs
  obtain ⟨b, hb, hk⟩ := ES hs
  rcases Eo lj r b hb with q | q
  · rw [q] at hk; cases hk
  · rw [q] at hk; cases hk; rfl
 have qi : ∀ r k, Eb iW r k = true → Es.blk r = E.blk (ρ r) ∧ Es.cap r = E.cap (ρ r) := by
  intro r k hs
  obtain rfl := qF r k hs
  obtain ⟨b, hb, hk⟩ := ES hs
  exact pf r (by rw [hb]; exact hk)
 have up : Sees iW Es (TK E Es) id ρ (CK m) ν := by
  refine ⟨fun _ q => q, fun r k hs => ⟨(lG r k hs).1, ?_, (qi r k hs).1.symm, (qi r k hs).2.symm⟩⟩
  obtain rfl := qF r k hs
  exact ((lG r 0 hs).2.1 rfl).2
 have pg : EnvLe E w (TK E Es) w' := ⟨fun k hk => hle.F k hk, fun k hk => hle.mem k hk, fun _ => Nat.le_refl _, fun _ _ => ⟨rfl, rfl⟩, fun k hk => ⟨hk, (hle.held k (.inl hk)).2⟩⟩
 refine ⟨v, TK E Es, _, _, _, he, pg, ?_, up.val (fun _ _ => rfl) c7 (hr.res.rep j4), rfl, rfl, rfl⟩
 have vz : (Gj ρ ν iW 0).length = iW.length := N8 _ _ _ _
 have jI : ∀ s x, (H9 mem idx (Gj ρ ν iW 0))[s]? = some x → (∃ i b1, iW[i]? = some b1 ∧ x = b1.up ρ ν i ∧ ρ i = s) ∨ ((∀ i, ρ i ≠ s) ∧ mem[s]? = some x) := by
  intro s x hx
  rcases nn _ (by rw [vz, hl]; exact c1) hn i7 s x hx with ⟨i, h1, h2⟩ | h1
  · rw [CC] at h1
    cases hb : iW[i]? with
    | none => rw [hb] at h1; cases h1
    | some b1 =>
      rw [hb] at h1
      simp only [Option.map_some, Option.some.injEq, Nat.zero_add] at h1
      exact .inl ⟨i, b1, hb, h1.symm, h2⟩
  · exact .inr h1
 have nM : ∀ {b : Blk} {i : Nat}, iW[i]? = some b → b.has (TK E Es) (ρ i) → b.has Es i := by
  intro b i hb q
  obtain ⟨k, hk⟩ := DZ q
  have e := (qi i k (rB i b k hb hk)).2
  have e2 : (TK E Es).cap (ρ i) = Es.cap i := e.symm
  cases b <;> first | exact q | (simp only [Blk.has] at q ⊢; rw [← e2]; exact q)
 have nN : ∀ {b : Blk} {s : Nat}, (∀ i, ρ i ≠ s) → b.has (TK E Es) s → b.has E s := by
  intro b s _ q
  exact Blk.has_of rfl q
 have bE : ∀ {b : Blk} {i : Nat}, iW[i]? = some b → b.has Es i → E.blk (ρ i) = Es.blk i := by
  intro b i hb q
  obtain ⟨k, hk⟩ := DZ q
  exact (qi i k (rB i b k hb hk)).1.symm
 have ph : ∀ (i : Nat) b1, iW[i]? = some b1 → b1.has Es i → BlkOk w0.heap.size Es w' i (b1.up id (CK m) i) := by
  intro i b1 hb hh
  obtain ⟨k, hk⟩ := DZ hh
  exact kj.mem.ok i _ (hr.mem i (b1.up id (CK m) i) (by rw [CC, hb]; simp) (Cw ⟨_, by rw [CD, hk]; rfl⟩))
 have l7 : ∀ s x, (∀ i, ρ i ≠ s) → mem[s]? = some x → x.has E s → Es.N (E.blk s) ∧ w'.heap[E.blk s]? = w.heap[E.blk s]? := fun s x q1 q2 q3 => hle.held _ (.inr ⟨s, x, q1, q2, q3, rfl⟩)
 refine ⟨kj.below, kj.base, kj.F, ⟨fun s => ?_, fun s x hx => ?_, fun s s' x x' hx kL h1 h2 j2 => ?_⟩, fun k hk => kj.N k (hle.held k (.inl hk)).1⟩
 ·exact hw.mem.clock s
 ·rcases jI s x hx with ⟨i, b1, hb, rfl, rfl⟩ | ⟨hs, jj⟩
  · cases hk : b1.vers with
    | none => cases b1 <;> first | trivial | exact absurd (c6 _ (Cb hb)) (by simp [Blk.sc]) | cases hk
    | some k =>
      have hm := hr.mem i (b1.up id (CK m) i) (by rw [CC, hb]; simp) (Cw ⟨_, by rw [CD, hk]; rfl⟩)
      have ho := kj.mem.ok i _ hm
      exact up.blk (w := w') (w' := w') (fun _ _ => rfl) (c6 b1 (Cb hb)) (rB i b1 k hb hk) hk ho (fun _ => rfl) (fun hh => by
       have k9 := ho.lt (BP.2 hh)
       rintro (q | q)
       ·exact k9.2.2 (.inl q)
       ·exact k9.2.2 (.inr (hle.held _ (.inl q)).1))
  · have ho := hw.mem.ok s x jj
    refine ho.le pg (fun _ => rfl) (fun hh => (l7 s x hs jj hh).2) (fun hh => ?_)
    rintro (q | q)
    · exact (kj.N _ (l7 s x hs jj hh).1).2 q
    · exact (ho.lt hh).2.2 (.inr q)
 ·show E.blk s ≠ E.blk s'
  rcases jI s x hx with ⟨i, b1, hb, rfl, rfl⟩ | ⟨hs, jj⟩
  · have hi := nM hb (BP.1 h1)
    rw [bE hb hi]
    rcases jI s' x' kL with ⟨j, b2, lF, rfl, rfl⟩ | ⟨kE, jW⟩
    · have hj := nM lF (BP.1 h2)
      rw [bE lF hj]
      obtain ⟨k1, mZ⟩ := DZ hi
      obtain ⟨k2, nO⟩ := DZ hj
      have m1 := hr.mem i (b1.up id (CK m) i) (by rw [CC, hb]; simp) (Cw ⟨_, by rw [CD, mZ]; rfl⟩)
      have m2 := hr.mem j (b2.up id (CK m) j) (by rw [CC, lF]; simp) (Cw ⟨_, by rw [CD, nO]; rfl⟩)
      exact kj.mem.apart i j _ _ m1 m2 (BP.2 hi) (BP.2 hj) (fun q => j2 (by rw [q]))
    · have hj := nN kE h2
      intro q
      have := ((ph i b1 hb hi).lt (BP.2 hi)).2.2
      exact this (.inr (by rw [q]; exact (l7 s' x' kE jW hj).1))
  · have hi := nN hs h1
    rcases jI s' x' kL with ⟨j, b2, lF, rfl, rfl⟩ | ⟨kE, jW⟩
    · have hj := nM lF (BP.1 h2)
      rw [bE lF hj]
      intro q
      have := ((ph j b2 lF hj).lt (BP.2 hj)).2.2
      exact this (.inr (by rw [← q]; exact (l7 s x hs jj hi).1))
    · have hj := nN kE h2
      exact hw.mem.apart s s' x x' jj jW hi hj j2
end
section
variable {P : Program} {T : TypeId → Option TI} {F0 : Nat → Prop} {w0 : World}
variable {dr : Bool} {ops rest : List Oper} {K : St → Prop} {n : Nat} {sl : List (Nat × SVal)} {mem : List Blk} {ck : Nat} {df : List (FuncId × List Cell)} {acc : List Nat}
variable {d : Tmp} {op : Op} {ty : TypeId} {pos : String} {iU : Array Edge} {g : Option (Nat × Bool)}
theorem El [tc : TC P T] (r : Nat) {f : Operand} {fv : SVal} {args : Array Operand} {mT : Array TypeId} {mw : FuncId} {k : Nat} {lg mb : List Cell} {y z : Dat} {f' : List Blk} (hp : HCall P mw [.c (.bp 0 0 0), .c (.d y)] [.box 0 lg] (.c (.d z)) [.box 0 mb]) (h : Reg P F0 w0 dr ops K rest ⟨n, (d, .c (.d z)) :: sl, f', ck, df⟩ (BS r false :: acc))
  (hw : GW ops g sl := by first | exact trivial | exact rfl) (hf : AH sl f = fv := by exact rfl) (hc : Cr fv = some (mw, []) := by exact rfl) (has : args.toList.map (AH sl) = [.c (.bp r k 0), .c (.d y)] := by exact rfl) (hm : mem[r]? = some (.box k lg) := by exact rfl) (u0 : ∀ ρ ν, Cell.ups ρ ν lg = lg := by intro _ _; simp only [Cell.ups, Cell.up]) (u1 : ∀ ρ ν, Cell.ups ρ ν mb = mb := by intro _ _; simp only [Cell.ups, Cell.up]) (iZ : mem.set r (.box k mb) = f' := by exact rfl) :
  Reg P F0 w0 dr ops K (⟨some d, .call ⟨.value f, args, mT⟩, ty, pos, iU, g⟩ :: rest) ⟨n, sl, mem, ck, df⟩ acc := by
 subst iZ
 refine eM (bd := 0) hw hm (Nat.zero_le _) (fun M c hM _ => Does.of tc.ok fun τ he jn je Kk hK => ?_) h
 subst jn; subst je
 have i7 := lt_of_getElem? hM
 have hv : Ch τ.mem r = k := by simp [Ch, hM, Blk.vers]
 have hq := HCall.frame0 (F0 := F0) (w0 := w0) (mem := τ.mem) (ck := τ.clock) (oL := [.c (.bp r k 0), .c (.d y)]) [r] hp rfl (by simp) (by simpa using i7) rfl (fun i b0 hb => by
  cases i with
  | zero =>
    simp only [List.getElem?_cons_zero, Option.some.injEq] at hb
    subst hb
    simp only [Blk.up, u0, AA, Dr, hv]
    exact hM
  | succ i => simp at hb) (by
  simp only [List.map_cons, List.map_nil, SVal.up, Cell.up, AA, Dr, hv]
  exact FE DM (FE DM trivial))
 obtain ⟨e1, e2⟩ := IF he
 rw [hf] at e1
 have rC : args.toList.map (AH sl) ++ ([] : List Cell).map .c = [.c (.bp r k 0), .c (.d y)] := by rw [has]; rfl
 simp only [AV, DQ, e1, hc, e2, rC]
 refine ⟨hq.1, fun E w vs q1 q2 q3 => Calls.mono (hq.2 E w vs q1 q2 q3) fun _ _ ⟨v', E', rr, m, c, p1, p2, p3, p4, p5, p6, p7⟩ => ⟨v', E', rr, m, c, p1, p2, p3, p4, ?_⟩⟩
 subst p5; subst p6; subst p7
 have em : H9 τ.mem [r] (Gj (AA [r] τ.mem.length) (Dr τ.mem (AA [r] τ.mem.length) τ.clock) [.box 0 mb] 0) = τ.mem.set r (.box k mb) := by
  simp only [Gj, Blk.up, u1, AA, Dr, hv, H9, List.append_nil]
 rw [em]
 exact hK _ _ _ _ ⟨rfl, rfl, rfl, rfl⟩
end
end Go.Abs
end
