/-
  Regions of open order: a call with two more arguments; fields and cells of an element of one array; its length.
-/
import Derived.Test.YtmpgmjlanngkfaaGreatHoa
import Derived.Test.YtmpgmjlanngkfaaGreatArx
import Derived.Test.YtmpgmjlanngkfaaGreatHom
section
namespace Go.Abs
open Go.RowKit
section
variable {P : Program} {F0 : Nat → Prop} {w0 : World}
def QK (E Es : Env) : Env := { F := Es.F, blk := E.blk, cap := E.cap, ver := E.ver, N := E.N }
theorem HCall.frame0 {f : FuncId} {args0 aas : List SVal} {mem0 mem1 mem : List Blk} {r1 : SVal} {ck : Nat} (idx : List Nat) (h : HCall P f args0 mem0 r1 mem1) (hz1 : FZ mem1 = true)
  (hn : idx.Nodup) (hlt : ∀ i ∈ idx, i < mem.length) (hl : idx.length = mem0.length)
  (hmem : ∀ (i : Nat) b0, mem0[i]? = some b0 → mem[Av idx mem.length i]? = some (b0.up (Av idx mem.length) (CZ mem (Av idx mem.length) ck) i))
  (ha : AMs aas (args0.map (SVal.up (Av idx mem.length) (CZ mem (Av idx mem.length) ck)))) :
  MCall P F0 w0 f aas mem ck fun v m c => v = r1.up (Av idx mem.length) (CZ mem (Av idx mem.length) ck) ∧ m = GY mem idx (Hf (Av idx mem.length) (CZ mem (Av idx mem.length) ck) mem1 0) ∧ c = ck := by
 obtain ⟨hck, hfn, hcall⟩ := h
 simp only [Ts, Bool.and_eq_true, Nat.ble_eq, List.all_eq_true] at hck
 obtain ⟨c1, c2, c3, c4, c5, c6, c7⟩ := hck
 have inj : ∀ i j, Av idx mem.length i = Av idx mem.length j → i = j := fun i j q => If hn hlt q
 have hputs := JL idx mem
 generalize hρ : Av idx mem.length = ρ at hmem ha inj hputs ⊢
 generalize hν : CZ mem ρ ck = ν at hmem ha ⊢
 have hν0 : ∀ r, ν r 0 = C1 mem (ρ r) := fun r => by rw [← hν]; rfl
 have hν1 : ∀ r, ν r 1 = ck + 1 := fun r => by rw [← hν]; rfl
 refine ⟨hfn, fun E w vs hw hvl hv => ?_⟩
 have live0 : ∀ r k, Dy mem0 r k = true → k = 0 ∧ E.ver (ρ r) = ν r k := by
  intro r k hs
  obtain ⟨b, hb, hk⟩ := D8 hs
  have hk0 : k = 0 := by
    rcases DK c2 r b hb with q | q
    · rw [q] at hk; cases hk
    · rw [q] at hk; cases hk; rfl
  refine ⟨hk0, ?_⟩
  exact (hw.mem.ok _ _ (hmem r b hb)).vers (by rw [Cg, hk]; rfl)
 have down : Sees mem0 E (Hz E mem ρ) ρ id ν (fun _ k => k) := ⟨fun _ q => q, fun r k hs => ⟨(live0 r k hs).2, (live0 r k hs).1.symm, rfl, rfl⟩⟩
 have hasS : ∀ {b : Blk} {i : Nat}, b.has (Hz E mem ρ) i → b.has E (ρ i) := by
  intro b i q
  cases b <;> exact q
 have sc0 : ∀ (i : Nat) b k, mem0[i]? = some b → b.vers = some k → Dy mem0 i k = true := by
  intro i b k hb hk
  simp [Dy, hb, hk]
 have hsm : WOk F0 w0 (Hz E mem ρ) w mem0 0 := by
  refine ⟨hw.below, hw.base, hw.F, ⟨fun _ => Nat.le_refl _, fun i b hb => ?_, fun i j b b' hb hb' h1 h2 hne => ?_⟩, fun k hk => ?_⟩
  · cases hk : b.vers with
    | none => cases b <;> first | trivial | exact absurd (c3 _ (List.mem_of_getElem? hb)) (by simp [Blk.sc]) | cases hk
    | some k =>
      have ho := hw.mem.ok _ _ (hmem i b hb)
      have := down.blk (w := w) (w' := w) (fun _ _ => rfl) (c3 b (List.mem_of_getElem? hb)) (sc0 i b k hb hk) hk ho (fun _ => rfl) (fun hh => by
       have hlt' := ho.lt (Bu.2 hh)
       rintro (q | q | ⟨s, x, q1, q2, q3, q4⟩)
       ·exact hlt'.2.2 (.inl q)
       ·exact hlt'.2.2 (.inr q)
       ·exact hw.mem.apart _ s _ x (hmem i b hb) q2 (Bu.2 hh) q3 (q1 i) q4)
      rw [Tv] at this
      exact this
  · exact hw.mem.apart _ _ _ _ (hmem i b hb) (hmem j b' hb') (Bu.2 (hasS h1)) (Bu.2 (hasS h2)) (fun q => hne (inj i j q))
  · rcases hk with q | ⟨s, x, q1, q2, q3, rfl⟩
    · exact hw.N k q
    · have hlt' := (hw.mem.ok s x q2).lt q3
      exact ⟨hlt'.1, fun q => hlt'.2.2 (.inl q)⟩
 obtain ⟨g1, g2⟩ := AMs.get ha
 have hc := (hcall F0 w0).2 (Hz E mem ρ) w vs hsm (by rw [hvl, g1]; simp) (fun i v x hvi hx => by
  have hlt' := lt_of_getElem? hvi
  have has : aas[i]? = some (aas[i]'(by omega)) := List.getElem?_eq_getElem _
  have h0 := (g2 i _ _ has (by rw [List.getElem?_map, hx]; rfl)).rep (hv i v _ hvi has)
  have h1 := down.val (w' := w) (fun _ _ => rfl) (c4 x (List.mem_of_getElem? hx)) h0
  rw [Tu (c4 x (List.mem_of_getElem? hx))] at h1
  exact h1)
 refine Calls.mono hc fun e w' hq => ?_
 obtain ⟨v, Es, r, m, c', he, hle, hwok, hrep, hr⟩ := hq
 have sc1 : ∀ (i : Nat) b k, mem1[i]? = some b → b.vers = some k → Dy mem1 i k = true := by
  intro i b k hb hk
  simp [Dy, hb, hk]
 have live1 : ∀ r k, Dy mem1 r k = true → Es.ver r = C1 m r ∧ (k = 0 → Es.ver r = 0 ∧ E.ver (ρ r) = ν r 0) ∧ (k = 0 ∨ k = 1) := by
  intro r k hs
  obtain ⟨b, hb, hk⟩ := D8 hs
  have hm := hr.mem r (b.up id (CU m) r) (by rw [Cf, hb]; simp) (B9 ⟨_, by rw [Cg, hk]; rfl⟩)
  have hv := (hwok.mem.ok r _ hm).vers (k := CU m r k) (by rw [Cg, hk]; rfl)
  have hkk := GZ mem1 0 c5 r b hb
  refine ⟨hv, fun hk0 => ?_, ?_⟩
  · subst hk0
    refine ⟨?_, ?_⟩
    · rw [hv]; exact hr.kept r (by rw [hb]; exact hk)
    · rcases hkk with q | q | ⟨_, b0, q1, q2⟩
      ·rw [q] at hk; cases hk
      ·rw [q] at hk; cases hk
      ·obtain ⟨k0, hk0⟩ := Option.isSome_iff_exists.1 q2
       rw [Nat.zero_add] at q1
       have := live0 r k0 (sc0 r b0 k0 q1 hk0)
       rw [this.2, this.1]
  · rcases hkk with q | q | ⟨q, _⟩
    · rw [q] at hk; cases hk
    · rw [q] at hk; cases hk; exact .inr rfl
    · rw [q] at hk; cases hk; exact .inl rfl
 have kept1 : ∀ i, (mem1[i]?).bind Blk.vers = some 0 → Es.blk i = E.blk (ρ i) ∧ Es.cap i = E.cap (ρ i) := by
  intro i hi
  cases hb : mem1[i]? with
  | none => rw [hb] at hi; cases hi
  | some b =>
    rw [hb] at hi
    have hs := sc1 i b 0 hb hi
    have := hle.same i (by rw [((live1 i 0 hs).2.1 rfl).1]; rfl)
    exact this
 have zero1 : ∀ r k, Dy mem1 r k = true → k = 0 := by
  intro r k hs
  obtain ⟨b, hb, hk⟩ := D8 hs
  rcases DK hz1 r b hb with q | q
  · rw [q] at hk; cases hk
  · rw [q] at hk; cases hk; rfl
 have blkE : ∀ r k, Dy mem1 r k = true → Es.blk r = E.blk (ρ r) ∧ Es.cap r = E.cap (ρ r) := by
  intro r k hs
  obtain rfl := zero1 r k hs
  obtain ⟨b, hb, hk⟩ := D8 hs
  exact kept1 r (by rw [hb]; exact hk)
 have up : Sees mem1 Es (QK E Es) id ρ (CU m) ν := by
  refine ⟨fun _ q => q, fun r k hs => ⟨(live1 r k hs).1, ?_, (blkE r k hs).1.symm, (blkE r k hs).2.symm⟩⟩
  obtain rfl := zero1 r k hs
  exact ((live1 r 0 hs).2.1 rfl).2
 have hleB : EnvLe E w (QK E Es) w' := ⟨fun k hk => hle.F k hk, fun k hk => hle.mem k hk, fun _ => Nat.le_refl _, fun _ _ => ⟨rfl, rfl⟩, fun k hk => ⟨hk, (hle.held k (.inl hk)).2⟩⟩
 refine ⟨v, QK E Es, _, _, _, he, hleB, ?_, up.val (fun _ _ => rfl) c7 (hr.res.rep hrep), rfl, rfl, rfl⟩
 have hul : (Hf ρ ν mem1 0).length = mem1.length := LZ _ _ _ _
 have hget : ∀ s x, (GY mem idx (Hf ρ ν mem1 0))[s]? = some x → (∃ i b1, mem1[i]? = some b1 ∧ x = b1.up ρ ν i ∧ ρ i = s) ∨ ((∀ i, ρ i ≠ s) ∧ mem[s]? = some x) := by
  intro s x hx
  rcases hputs _ (by rw [hul, hl]; exact c1) hn hlt s x hx with ⟨i, h1, h2⟩ | h1
  · rw [Cf] at h1
    cases hb : mem1[i]? with
    | none => rw [hb] at h1; cases h1
    | some b1 =>
      rw [hb] at h1
      simp only [Option.map_some, Option.some.injEq, Nat.zero_add] at h1
      exact .inl ⟨i, b1, hb, h1.symm, h2⟩
  · exact .inr h1
 have hasL : ∀ {b : Blk} {i : Nat}, mem1[i]? = some b → b.has (QK E Es) (ρ i) → b.has Es i := by
  intro b i hb q
  obtain ⟨k, hk⟩ := Dp q
  have e := (blkE i k (sc1 i b k hb hk)).2
  have e2 : (QK E Es).cap (ρ i) = Es.cap i := e.symm
  cases b <;> first | exact q | (simp only [Blk.has] at q ⊢; rw [← e2]; exact q)
 have hasN : ∀ {b : Blk} {s : Nat}, (∀ i, ρ i ≠ s) → b.has (QK E Es) s → b.has E s := by
  intro b s _ q
  exact Blk.has_of rfl q
 have bE : ∀ {b : Blk} {i : Nat}, mem1[i]? = some b → b.has Es i → E.blk (ρ i) = Es.blk i := by
  intro b i hb q
  obtain ⟨k, hk⟩ := Dp q
  exact (blkE i k (sc1 i b k hb hk)).1.symm
 have mine : ∀ (i : Nat) b1, mem1[i]? = some b1 → b1.has Es i → BlkOk w0.heap.size Es w' i (b1.up id (CU m) i) := by
  intro i b1 hb hh
  obtain ⟨k, hk⟩ := Dp hh
  exact hwok.mem.ok i _ (hr.mem i (b1.up id (CU m) i) (by rw [Cf, hb]; simp) (B9 ⟨_, by rw [Cg, hk]; rfl⟩))
 have heldS : ∀ s x, (∀ i, ρ i ≠ s) → mem[s]? = some x → x.has E s → Es.N (E.blk s) ∧ w'.heap[E.blk s]? = w.heap[E.blk s]? := fun s x q1 q2 q3 => hle.held _ (.inr ⟨s, x, q1, q2, q3, rfl⟩)
 refine ⟨hwok.below, hwok.base, hwok.F, ⟨fun s => ?_, fun s x hx => ?_, fun s s' x x' hx hx' h1 h2 hne => ?_⟩, fun k hk => hwok.N k (hle.held k (.inl hk)).1⟩
 ·exact hw.mem.clock s
 ·rcases hget s x hx with ⟨i, b1, hb, rfl, rfl⟩ | ⟨hs, hx0⟩
  · cases hk : b1.vers with
    | none => cases b1 <;> first | trivial | exact absurd (c6 _ (List.mem_of_getElem? hb)) (by simp [Blk.sc]) | cases hk
    | some k =>
      have hm := hr.mem i (b1.up id (CU m) i) (by rw [Cf, hb]; simp) (B9 ⟨_, by rw [Cg, hk]; rfl⟩)
      have ho := hwok.mem.ok i _ hm
      exact up.blk (w := w') (w' := w') (fun _ _ => rfl) (c6 b1 (List.mem_of_getElem? hb)) (sc1 i b1 k hb hk) hk ho (fun _ => rfl) (fun hh => by
       have hlt' := ho.lt (Bu.2 hh)
       rintro (q | q)
       ·exact hlt'.2.2 (.inl q)
       ·exact hlt'.2.2 (.inr (hle.held _ (.inl q)).1))
  · have ho := hw.mem.ok s x hx0
    refine ho.le hleB (fun _ => rfl) (fun hh => (heldS s x hs hx0 hh).2) (fun hh => ?_)
    rintro (q | q)
    · exact (hwok.N _ (heldS s x hs hx0 hh).1).2 q
    · exact (ho.lt hh).2.2 (.inr q)
 ·show E.blk s ≠ E.blk s'
  rcases hget s x hx with ⟨i, b1, hb, rfl, rfl⟩ | ⟨hs, hx0⟩
  · have hi := hasL hb (Bu.1 h1)
    rw [bE hb hi]
    rcases hget s' x' hx' with ⟨j, b2, hb', rfl, rfl⟩ | ⟨hs', hx0'⟩
    · have hj := hasL hb' (Bu.1 h2)
      rw [bE hb' hj]
      obtain ⟨k1, hk1⟩ := Dp hi
      obtain ⟨k2, hk2⟩ := Dp hj
      have m1 := hr.mem i (b1.up id (CU m) i) (by rw [Cf, hb]; simp) (B9 ⟨_, by rw [Cg, hk1]; rfl⟩)
      have m2 := hr.mem j (b2.up id (CU m) j) (by rw [Cf, hb']; simp) (B9 ⟨_, by rw [Cg, hk2]; rfl⟩)
      exact hwok.mem.apart i j _ _ m1 m2 (Bu.2 hi) (Bu.2 hj) (fun q => hne (by rw [q]))
    · have hj := hasN hs' h2
      intro q
      have := ((mine i b1 hb hi).lt (Bu.2 hi)).2.2
      exact this (.inr (by rw [q]; exact (heldS s' x' hs' hx0' hj).1))
  · have hi := hasN hs h1
    rcases hget s' x' hx' with ⟨j, b2, hb', rfl, rfl⟩ | ⟨hs', hx0'⟩
    · have hj := hasL hb' (Bu.1 h2)
      rw [bE hb' hj]
      intro q
      have := ((mine j b2 hb' hj).lt (Bu.2 hj)).2.2
      exact this (.inr (by rw [← q]; exact (heldS s x hs hx0 hi).1))
    · have hj := hasN hs' h2
      exact hw.mem.apart s s' x x' hx0 hx0' hi hj hne
end
section
variable {P : Program} {T : TypeId → Option TI} {F0 : Nat → Prop} {w0 : World}
variable {dr : Bool} {ops rest : List Oper} {K : St → Prop} {n : Nat} {sl : List (Nat × SVal)} {mem : List Blk} {ck : Nat} {df : List (FuncId × List Cell)} {acc : List Nat}
variable {d : Tmp} {op : Op} {ty : TypeId} {pos : String} {aft : Array Edge} {g : Option (Nat × Bool)}
theorem E3 [tc : TC P T] (r : Nat) {f : Operand} {fv : SVal} {args : Array Operand} {ats : Array TypeId} {fid : FuncId} {k : Nat} {cs0 cs1 : List Cell} {y z : Dat} {mem' : List Blk} (hp : HCall P fid [.c (.bp 0 0 0), .c (.d y)] [.box 0 cs0] (.c (.d z)) [.box 0 cs1]) (h : Reg P F0 w0 dr ops K rest ⟨n, (d, .c (.d z)) :: sl, mem', ck, df⟩ (Bz r false :: acc))
  (hw : GW ops g sl := by first | exact trivial | exact rfl) (hf : AC sl f = fv := by exact rfl) (hc : B2 fv = some (fid, []) := by exact rfl) (has : args.toList.map (AC sl) = [.c (.bp r k 0), .c (.d y)] := by exact rfl) (hm : mem[r]? = some (.box k cs0) := by exact rfl) (u0 : ∀ ρ ν, Cell.ups ρ ν cs0 = cs0 := by intro _ _; simp only [Cell.ups, Cell.up]) (u1 : ∀ ρ ν, Cell.ups ρ ν cs1 = cs1 := by intro _ _; simp only [Cell.ups, Cell.up]) (hm' : mem.set r (.box k cs1) = mem' := by exact rfl) :
  Reg P F0 w0 dr ops K (⟨some d, .call ⟨.value f, args, ats⟩, ty, pos, aft, g⟩ :: rest) ⟨n, sl, mem, ck, df⟩ acc := by
 subst hm'
 refine YN (bd := 0) hw hm (Nat.zero_le _) (fun M c hM _ => Does.of tc.ok fun τ he hmm hck Kk hK => ?_) h
 subst hmm; subst hck
 have hlt := lt_of_getElem? hM
 have hv : C1 τ.mem r = k := by simp [C1, hM, Blk.vers]
 have hq := HCall.frame0 (F0 := F0) (w0 := w0) (mem := τ.mem) (ck := τ.clock) (aas := [.c (.bp r k 0), .c (.d y)]) [r] hp rfl (by simp) (by simpa using hlt) rfl (fun i b0 hb => by
  cases i with
  | zero =>
    simp only [List.getElem?_cons_zero, Option.some.injEq] at hb
    subst hb
    simp only [Blk.up, u0, Av, CZ, hv]
    exact hM
  | succ i => simp at hb) (by
  simp only [List.map_cons, List.map_nil, SVal.up, Cell.up, Av, CZ, hv]
  exact EQ Fc (EQ Fc trivial))
 obtain ⟨e1, e2⟩ := Hr he
 rw [hf] at e1
 have has' : args.toList.map (AC sl) ++ ([] : List Cell).map .c = [.c (.bp r k 0), .c (.d y)] := by rw [has]; rfl
 simp only [AL, DE, e1, hc, e2, has']
 refine ⟨hq.1, fun E w vs q1 q2 q3 => Calls.mono (hq.2 E w vs q1 q2 q3) fun _ _ ⟨v', E', rr, m, c, p1, p2, p3, p4, p5, p6, p7⟩ => ⟨v', E', rr, m, c, p1, p2, p3, p4, ?_⟩⟩
 subst p5; subst p6; subst p7
 have em : GY τ.mem [r] (Hf (Av [r] τ.mem.length) (CZ τ.mem (Av [r] τ.mem.length) τ.clock) [.box 0 cs1] 0) = τ.mem.set r (.box k cs1) := by
  simp only [Hf, Blk.up, u1, Av, CZ, hv, GY, List.append_nil]
 rw [em]
 exact hK _ _ _ _ ⟨rfl, rfl, rfl, rfl⟩
end
section
variable {P : Program} {B : Base} {n : Nat} {sl : List (Nat × SVal)} {mem : List Blk} {ck : Nat} {df : List (FuncId × List Cell)} {Q : Ex → St → Prop}
theorem Ty {a : Act} {w : World} (h : Rel B ⟨n, sl, mem, ck, df⟩ a w) : Rel B ⟨n, sl, mem, ck + 1, df⟩ a w := by
 obtain ⟨E, ⟨h1, h2, h3, h4⟩, hB⟩ := h
 exact ⟨E, ⟨⟨h1.below, h1.base, h1.F, ⟨fun r => Nat.le_succ_of_le (h1.mem.clock r), h1.mem.ok, h1.mem.apart⟩, h1.N⟩, h2, h3, h4⟩, hB⟩
theorem G0 {c : Code} (h : ARun P B c ⟨n, sl, mem, ck + 1, df⟩ Q) : ARun P B c ⟨n, sl, mem, ck, df⟩ Q :=
 LK (τ := ⟨n, sl, mem, ck + 1, df⟩) rfl (fun _ _ hr => Ty hr) h
theorem Wu (r : Nat) {k : Nat} {ety : TypeId} {esz : Nat} {es : List (List Dat)} {c : Code} (h : k ≤ ck → ARun P B c ⟨n, sl, mem, ck, df⟩ Q) (hm : mem[r]? = some (.arr k ety esz es) := by exact rfl) : ARun P B c ⟨n, sl, mem, ck, df⟩ Q := by
 intro a w hr
 refine h ?_ a w hr
 obtain ⟨E, ⟨h1, _⟩, _⟩ := hr
 have h2 : E.ver r = k := (h1.mem.ok r _ hm).1
 have h3 : E.ver r ≤ ck := h1.mem.clock r
 omega
end
section
variable {P : Program} {T : TypeId → Option TI} {F0 : Nat → Prop} {w0 : World}
variable {dr : Bool} {ops rest : List Oper} {K : St → Prop} {n : Nat} {sl : List (Nat × SVal)} {mem : List Blk} {ck : Nat} {df : List (FuncId × List Cell)} {acc : List Nat}
variable {d : Tmp} {op : Op} {ty : TypeId} {pos : String} {aft : Array Edge} {g : Option (Nat × Bool)}
theorem Ig [tc : TC P T] (r kn : Nat) {t e : TypeId} {x y : Operand} {i ei : TI} {u : SVal} {ys es es' : List (List Dat)} {k j m : Nat} {mem' : List Blk} (h : Reg P F0 w0 dr ops K rest ⟨n, (d, .c (.arr r kn m)) :: sl, mem', ck, df⟩ (Bz r false :: acc)) (hkn : kn ≤ ck) (hlt : k < kn) (hj : j ≤ es.length) (hl : j + ys.length = m) (hmx : m ≤ maxLen) (hby : m * ei.bytes ≤ 140737488355328) (hsz : ∀ el ∈ ys, el.length = ei.size) (hes : es.take j ++ ys = es') (hm : mem[r]? = some (.arr k e ei.size es) := by exact rfl) (hw : GW ops g sl := by first | exact trivial | exact rfl)
  (hx : AC sl x = .c (.arr r k j) := by exact rfl) (hy : AC sl y = u := by exact (rfl : _ = SVal.c _)) (hs : Ft u = some ys := by exact rfl) (ht : T t = some i := by exact rfl) (hi : i.desc = .slice e := by exact rfl) (hei : T e = some ei := by exact rfl) (hkk : Nat.beq ei.zero.length ei.size = true := by exact rfl) (hm' : mem.set r (.arr kn e ei.size es') = mem' := by exact rfl) :
  Reg P F0 w0 dr ops K (⟨some d, .call ⟨.builtin .append, #[x, y], #[t, t]⟩, ty, pos, aft, g⟩ :: rest) ⟨n, sl, mem, ck, df⟩ acc := by
 subst hm'; subst hes; subst hl
 refine YN hw hm hkn (fun M c hM hc => Bp fun E w ρ hw' hρ => ?_) h
 have e1 := hρ x (by simp [Op.operands, Call.operands])
 have e2 := hρ y (by simp [Op.operands, Call.operands])
 rw [hx] at e1; rw [hy] at e2
 have hrep := I1 e2 hs
 have hv : E.ver r < kn := by have := (hw'.mem.ok r _ hM).1; omega
 have hs1 : CRep E w (ρ x) (.arr r k j) := by
  generalize ρ x = vx at e1
  cases e1 with | c h => exact h
 obtain ⟨v', w', E', q1, q2, q3, q4⟩ := Je tc.ok (ty := ty) hw' ht hi hei (by simpa using hkk) hsz hrep hM hs1 hj hmx hby hv (Nat.le_refl _) hc
 exact ⟨v', w', E', by simp [execOp, resolve, invoke, builtin, q1], q2, q3, .c q4⟩
end
section
variable {P : Program} {T : TypeId → Option TI} {F0 : Nat → Prop} {w0 : World}
variable {dr : Bool} {ops rest : List Oper} {K : St → Prop} {n : Nat} {sl : List (Nat × SVal)} {mem : List Blk} {ck : Nat} {df : List (FuncId × List Cell)} {acc : List Nat}
variable {d : Tmp} {op : Op} {ty : TypeId} {pos : String} {aft : Array Edge} {g : Option (Nat × Bool)}
theorem Jv [tc : TC P T] (r : Nat) {f : Operand} {fv : SVal} {args : Array Operand} {ats : Array TypeId} {fid : FuncId} {k : Nat} {cs0 cs1 : List Cell} {y y2 z : Dat} {mem' : List Blk} (hp : HCall P fid [.c (.bp 0 0 0), .c (.d y), .c (.d y2)] [.box 0 cs0] (.c (.d z)) [.box 0 cs1]) (h : Reg P F0 w0 dr ops K rest ⟨n, (d, .c (.d z)) :: sl, mem', ck, df⟩ (Bz r false :: acc))
  (hw : GW ops g sl := by first | exact trivial | exact rfl) (hf : AC sl f = fv := by exact rfl) (hc : B2 fv = some (fid, []) := by exact rfl) (has : args.toList.map (AC sl) = [.c (.bp r k 0), .c (.d y), .c (.d y2)] := by exact rfl) (hm : mem[r]? = some (.box k cs0) := by exact rfl) (u0 : ∀ ρ ν, Cell.ups ρ ν cs0 = cs0 := by intro _ _; simp only [Cell.ups, Cell.up]) (u1 : ∀ ρ ν, Cell.ups ρ ν cs1 = cs1 := by intro _ _; simp only [Cell.ups, Cell.up]) (hm' : mem.set r (.box k cs1) = mem' := by exact rfl) :
  Reg P F0 w0 dr ops K (⟨some d, .call ⟨.value f, args, ats⟩, ty, pos, aft, g⟩ :: rest) ⟨n, sl, mem, ck, df⟩ acc := by
 subst hm'
 refine YN (bd := 0) hw hm (Nat.zero_le _) (fun M c hM _ => Does.of tc.ok fun τ he hmm hck Kk hK => ?_) h
 subst hmm; subst hck
 have hlt := lt_of_getElem? hM
 have hv : C1 τ.mem r = k := by simp [C1, hM, Blk.vers]
 have hq := HCall.frame0 (F0 := F0) (w0 := w0) (mem := τ.mem) (ck := τ.clock) (aas := [.c (.bp r k 0), .c (.d y), .c (.d y2)]) [r] hp rfl (by simp) (by simpa using hlt) rfl (fun i b0 hb => by
  cases i with
  | zero =>
    simp only [List.getElem?_cons_zero, Option.some.injEq] at hb
    subst hb
    simp only [Blk.up, u0, Av, CZ, hv]
    exact hM
  | succ i => simp at hb) (by
  simp only [List.map_cons, List.map_nil, SVal.up, Cell.up, Av, CZ, hv]
  exact EQ Fc (EQ Fc (EQ Fc trivial)))
 obtain ⟨e1, e2⟩ := Hr he
 rw [hf] at e1
 have has' : args.toList.map (AC sl) ++ ([] : List Cell).map .c = [.c (.bp r k 0), .c (.d y), .c (.d y2)] := by rw [has]; rfl
 simp only [AL, DE, e1, hc, e2, has']
 refine ⟨hq.1, fun E w vs q1 q2 q3 => Calls.mono (hq.2 E w vs q1 q2 q3) fun _ _ ⟨v', E', rr, m, c, p1, p2, p3, p4, p5, p6, p7⟩ => ⟨v', E', rr, m, c, p1, p2, p3, p4, ?_⟩⟩
 subst p5; subst p6; subst p7
 have em : GY τ.mem [r] (Hf (Av [r] τ.mem.length) (CZ τ.mem (Av [r] τ.mem.length) τ.clock) [.box 0 cs1] 0) = τ.mem.set r (.box k cs1) := by
  simp only [Hf, Blk.up, u1, Av, CZ, hv, GY, List.append_nil]
 rw [em]
 exact hK _ _ _ _ ⟨rfl, rfl, rfl, rfl⟩
theorem GO [tc : TC P T] {x : Operand} {r k o : Nat} {cs : List Cell}
  (h : Reg P F0 w0 dr ops K rest ⟨n, (d, .c (.bp r k o)) :: sl, mem, ck, df⟩ (Bz r true :: acc)) (hw : GW ops g sl := by first | exact trivial | exact rfl) (hx : AC sl x = .c (.bp r k o) := by exact rfl) (hm : mem[r]? = some (.box k cs) := by exact rfl) :
  Reg P F0 w0 dr ops K (⟨some d, .nilCheck x, ty, pos, aft, g⟩ :: rest) ⟨n, sl, mem, ck, df⟩ acc :=
 LI hw hm (fun mem ck hm => Bp fun E w ρ hw' hρ => by
  have e1 := hρ x (by simp [Op.operands])
  rw [hx] at e1
  have hv := (hw'.mem.ok r _ hm).1
  have e2 := e1.bp_inv hv
  exact ⟨ρ x, w, E, by simp [execOp, e2], EnvLe.refl _ _, hw', e1⟩) h
theorem Sz [tc : TC P T] {t e ety : TypeId} {x : Operand} {i : TI} {r k m esz : Nat} {es : List (List Dat)} (h : Reg P F0 w0 dr ops K rest ⟨n, (d, .c (.d (.lit (.int .i64 m)))) :: sl, mem, ck, df⟩ (Bz r true :: acc)) (hw : GW ops g sl := by first | exact trivial | exact rfl) (hx : AC sl x = .c (.arr r k m) := by exact rfl) (ht : T t = some i := by exact rfl) (hi : i.desc = .slice e := by exact rfl) (hm : mem[r]? = some (.arr k ety esz es) := by exact rfl) :
  Reg P F0 w0 dr ops K (⟨some d, .call ⟨.builtin .len, #[x], #[t]⟩, ty, pos, aft, g⟩ :: rest) ⟨n, sl, mem, ck, df⟩ acc :=
 LI hw hm (fun mem ck hm => Does.of tc.ok fun τ he hmm hck Kk hK => by
  subst hmm; subst hck
  have ex := he x (by simp [Op.operands, Call.operands])
  rw [hx] at ex
  obtain ⟨a1, a2, a3, a4, a5⟩ := i
  simp only at hi
  subst hi
  simp only [AL, DE, Mj, ht, ex, Cy, hm]
  exact ⟨trivial, hK _ _ _ _ ⟨rfl, rfl, rfl, rfl⟩⟩) h
theorem SA [tc : TC P T] {s : TypeId} {f : Nat} {x : Operand} {i j : TI} {fs : List (Nat × TypeId)} {off : Nat} {ft : TypeId} {r k esz z o : Nat} {ety : TypeId} {es : List (List Dat)} (h : Reg P F0 w0 dr ops K rest ⟨n, (d, .c (.ap r k esz z (o + off))) :: sl, mem, ck, df⟩ (Bz r true :: acc)) (hw : GW ops g sl := by first | exact trivial | exact rfl) (hx : AC sl x = .c (.ap r k esz z o) := by exact rfl) (hs : T s = some i := by exact rfl) (hi : i.desc = .struct fs := by exact rfl) (hf : fs[f]? = some (off, ft) := by exact rfl) (hj : T ft = some j := by exact rfl) (hz : decide (j.size ≠ 0) = true := by exact rfl) (hm : mem[r]? = some (.arr k ety esz es) := by exact rfl) :
  Reg P F0 w0 dr ops K (⟨some d, .fieldAddr s x f, ty, pos, aft, g⟩ :: rest) ⟨n, sl, mem, ck, df⟩ acc :=
 LI hw hm (fun mem ck hm => Does.of tc.ok fun τ he hmm hc Kk hK => by
  subst hmm; subst hc
  have ex := he x (by simp [Op.operands])
  rw [hx] at ex
  obtain ⟨a1, a2, a3, a4, a5⟩ := i
  simp only at hi
  subst hi
  simp only [AL, EX, hs, hf, hj, ex, Cy, hm]
  exact ⟨by simpa using hz, trivial, hK _ _ _ _ ⟨rfl, rfl, rfl, rfl⟩⟩) h
theorem SB [tc : TC P T] {t : TypeId} {x : Operand} {i : TI} {r k esz j o : Nat} {ety : TypeId} {es : List (List Dat)} {e : List Dat} {y : Dat} (h : Reg P F0 w0 dr ops K rest ⟨n, (d, .c (.d y)) :: sl, mem, ck, df⟩ (Bz r true :: acc)) (he' : es[j]? = some e) (hw : GW ops g sl := by first | exact trivial | exact rfl) (hx : AC sl x = .c (.ap r k esz j o) := by exact rfl) (ht : T t = some i := by exact rfl) (ha : i.desc.agg = false := by exact rfl) (hs : i.size = 1 := by exact rfl) (hm : mem[r]? = some (.arr k ety esz es) := by exact rfl) (hy : e[o]? = some y := by exact rfl) :
  Reg P F0 w0 dr ops K (⟨some d, .load t x, ty, pos, aft, g⟩ :: rest) ⟨n, sl, mem, ck, df⟩ acc :=
 LI hw hm (fun mem ck hm => Does.of tc.ok fun τ he hmm hc Kk hK => by
  subst hmm; subst hc
  have ex := he x (by simp [Op.operands])
  rw [hx] at ex
  have hlt := lt_of_getElem? hy
  have e1 : (e.drop o).take 1 = [y] := by
   rw [List.drop_eq_getElem_cons hlt]
   rw [List.getElem?_eq_getElem hlt] at hy
   simp at hy
   simp [hy]
  simp only [AL, DD, ht, ex, ha, hs, hm]
  refine ⟨.inr trivial, trivial, trivial, Ch he' ⟨hlt, ?_⟩⟩
  rw [e1]
  exact hK _ _ _ _ ⟨rfl, rfl, rfl, rfl⟩) h
end
end Go.Abs
end
