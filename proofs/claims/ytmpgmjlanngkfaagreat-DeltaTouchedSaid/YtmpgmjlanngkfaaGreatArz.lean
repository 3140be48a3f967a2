/-
  A call about some memory that leaves no new entry: the clock stays (for regions of open order).
-/
import Derived.Test.YtmpgmjlanngkfaaGreatFta
import Derived.Test.YtmpgmjlanngkfaaGreatTpo
import Derived.Test.YtmpgmjlanngkfaaGreatByt
import Derived.Test.YtmpgmjlanngkfaaGreatArx
section
namespace Go.Abs
open Go.RowKit
section
variable {P : Program} {f : FuncId} {args0 : List SVal} {mem0 : List Blk} {cs : List Cell}
end
end Go.Abs
end
section
namespace Go.Proofs.YtmpgmjlanngkfaaGreat
open Go.Abs Go.RowKit
attribute [local irreducible] ARun Aq MCall PCall HCall Am SF CF CFs Af Al Ap B5 AW VLe
set_option linter.unusedSimpArgs false
set_option maxRecDepth 100000
set_option maxHeartbeats 4000000
theorem WU (t : Tape) (w n : Nat) (sg : Bool) (ht : t.ok) (hw : w ≤ 16) (hn : n ≤ 999) : ∃ (b : List Entry) (t' : Tape), t'.ok ∧ (Tiny (3 * n) w b ∧ b.length ≤ n ∧ (sg = false → ∀ e ∈ b, 0 < e.count)) ∧
  ((b = [] ∧ HC 11 [.c (.bp 0 0 0), (iC (w : Int)), (iC (n : Int)), .c (.d (.lit (.bool sg)))] [(tB t)] (.c .emp) [(tB t'), .dead]) ∨
  HC 11 [.c (.bp 0 0 0), (iC (w : Int)), (iC (n : Int)), .c (.d (.lit (.bool sg)))] [(tB t)] (.c (.arr 2 1 b.length)) [(tB t'), .dead, .arr 1 56 2 (b.map Entry.d)]) := by
 have hent := LB t w n ht (by omega) (by omega)
 obtain ⟨b1, b2⟩ := t.nx_bd ((n : Int) + 1)
 have hok1 := ht.go ((n : Int) + 1)
 obtain ⟨i0, hi0⟩ := T9 b1
 rw [hi0, QH] at hent
 rw [hi0] at b1 b2
 have hxo := Jf hok1 w i0
 have hgood := Iw (t.go ((n : Int) + 1)) w hw i0
 have hwid := Kr (t.go ((n : Int) + 1)) w i0
 generalize t.go ((n : Int) + 1) = t1 at hent hok1 hxo hgood hwid
 obtain ⟨hok2, hxl⟩ := hxo
 generalize DA t1 w i0 = E at hent hok2 hxl hgood hwid
 obtain ⟨es, t2⟩ := E
 dsimp only at hent hok2 hxl hgood hwid
 have hxn : es.length ≤ n := by omega
 subst hxl
 have hg2 : ∀ e ∈ es.map (BD sg), A7 e.row = true ∧ -3 ≤ e.count ∧ e.count ≤ 3 := fun e he => by
  obtain ⟨x, hx, rfl⟩ := List.mem_map.1 he
  obtain ⟨g1, g2⟩ := hgood x hx
  unfold BD
  split
  · exact ⟨g1, by simp only; omega⟩
  · exact ⟨g1, g2⟩
 have hsm := Ks hg2 (by simp; omega)
 have hall : (es.map (BD sg)).all AU = true := Ec.2 fun e he => by
  obtain ⟨h1, h2, h3⟩ := hg2 e he
  simp only [AU, AH, BO, decide_eq_true_eq]
  exact ⟨h1, by omega, by omega⟩
 have htn : Tiny (3 * n) w (A9 (es.map (BD sg))).1 := by
  rw [(D8 hsm.1).1]
  refine (Mv (fun e he => (hg2 e he).1) (fun e he => ?_) (OQ (Mu (n := 3) fun e he => ?_) ?_) (by omega)).1
  · obtain ⟨x, hx, rfl⟩ := List.mem_map.1 he
    have := hwid x hx
    unfold BD
    split <;> exact this
  · have := (hg2 e he).2
    omega
  · rw [BT]
    omega
 have hpos : sg = false → ∀ e ∈ (A9 (es.map (BD sg))).1, 0 < e.count := by
  rintro rfl
  obtain ⟨q1, q2, _, q4⟩ := D8 hsm.1
  rw [q1]
  intro e he
  have h1 := q4 e.row
  rw [DP (Bh q2.up) he (rowCmp_ok.refl _)] at h1
  have h2 := Mw (r := e.row) (l := es.map (BD false)) fun x hx => by
    obtain ⟨y, _, rfl⟩ := List.mem_map.1 hx
    unfold BD
    split
    · dsimp only; omega
    · rename_i hq
      have : ¬ y.count < 0 := fun h => hq ⟨rfl, h⟩
      omega
  have h3 := q2.nz e he
  omega
 have hL : (es.map (BD sg)).length ≤ 1000000 := by simp; omega
 have hnil : KG (es.map (BD sg)) = true → (A9 (es.map (BD sg))).1 = [] := fun h => by
  rw [(D8 hsm.1).1, Ro h]
 have hN := fun h => Vi (es.map (BD sg)) h hall
 have hA := fun h => Vj (es.map (BD sg)) h hsm.1 hL
 have hln := hsm.2.2.2
 rw [BT] at hln
 generalize (A9 (es.map (BD sg))).1 = rb at htn hpos hnil hA hln
 refine ⟨rb, t2, hok2, ⟨htn, by omega, hpos⟩, ?_⟩
 clear hln hsm hall htn hpos hg2 hL hwid
 have f9 : List.take es.length ((es.map (BD sg)).map Entry.d) = (es.map (BD sg)).map Entry.d := Ag (by simp)
 cases hq : KG (es.map (BD sg))
 all_goals
  (first
    | (have hR := hA hq; refine Or.inr ?_; clear hN hA hnil hq)
    | (have hR := hN hq; refine Or.inl ⟨hnil hq, ?_⟩; clear hN hA hnil hq)
   refine AF hT Tryz.func11 Tryz.ntmps11 [.tmp 8] fun B => ?_
   repeat' first | refine kz ?_ | refine Ak [0] (hent) ?_ | refine kg ?_ ?_ | exact k0 | refine Ab ?_ | refine m1 ?_ ?_
   refine AY (X := Nat) ([10] ++ List.range' 17 26) (fun x => x ≤ es.length) (fun x lz => (10, (iC x)) :: lz) (fun x => [(tB t2), .arr 1 56 2 ((es.take x).map (fun e => (BD sg e).d) ++ (es.drop x).map Entry.d)]) (fun x => es.length - x) (0) ?_ ?_ ?_ ?_
   repeat' first | exact k0 | refine kw ?_ | refine kv ?_ ?_ | omega
   rintro i c hi
   by_cases hlt : i < es.length
   · have hv : es[i]? = some es[i] := Bi hlt
     have hgc := (hgood _ (Gl hlt)).2
     generalize es[i] = e at hv hgc
     have hv1 := TM (f := fun e => (BD sg e).d) (g := Entry.d) hv
     have hst := map_set (f := fun e => (BD sg e).d) (g := Entry.d) hv
     generalize hA2 : (es.take i).map (fun e => (BD sg e).d) ++ (es.drop i).map Entry.d = A at hv1 hst
     have hal : A.length = es.length := by rw [← hA2]; simp; omega
     by_cases hc : sg = false ∧ e.count < 0
     · obtain ⟨rfl, hc⟩ := hc
       have he : BD false e = ⟨e.row, -e.count⟩ := if_pos ⟨rfl, hc⟩
       simp only [he] at hst
       repeat' first | refine kz ?_ | refine AT hv1 ?_ | refine As ?_ | refine kg ?_ ?_ | exact k0 | refine Ab ?_ | refine m1 ?_ ?_
       apply Ae (i + 1) <;> (try dsimp only) <;> try repeat' first | exact k0 | refine kw ?_ | refine kv ?_ ?_ | omega
       exact hst
     · have he : BD sg e = e := if_neg hc
       simp only [he] at hst
       rw [OD hv1] at hst
       cases sg with
       | true =>
         repeat' first | refine kz ?_ | refine AT hv1 ?_ | refine As ?_ | refine kg ?_ ?_ | exact k0 | refine Ab ?_ | refine m1 ?_ ?_
         apply Ae (i + 1) <;> (try dsimp only) <;> try repeat' first | exact k0 | refine kw ?_ | refine kv ?_ ?_ | omega
       | false =>
         have hc : ¬ e.count < 0 := fun h => hc ⟨rfl, h⟩
         repeat' first | refine kz ?_ | refine AT hv1 ?_ | refine As ?_ | refine kg ?_ ?_ | exact k0 | refine Ab ?_ | refine m1 ?_ ?_
         apply Ae (i + 1) <;> (try dsimp only) <;> try repeat' first | exact k0 | refine kw ?_ | refine kv ?_ ?_ | omega
   · rw [Ag (show es.length ≤ i by omega), QF (by omega), List.map_nil, List.append_nil, show (es.map fun e => (BD sg e).d) = (es.map (BD sg)).map Entry.d by rw [X8]; rfl]
     have hl1 : (es.map (BD sg)).length = es.length := by simp
     have hl2 : ((es.map (BD sg)).map Entry.d).length = es.length := by simp
     repeat' (first | refine A8 9 ?_ (hes := f9) | refine kz ?_ | refine Ak [] (hR) ?_ | refine Bd Ac ?_ ?_ | exact k0 | refine Ab ?_ | refine m1 ?_ ?_))
end Go.Proofs.YtmpgmjlanngkfaaGreat
end
section
namespace Go.Abs
open Go.RowKit
section
variable {P : Program} {F0 : Nat → Prop} {w0 : World}
def QY (E Es : Env) : Env := { F := Es.F, blk := E.blk, cap := E.cap, ver := E.ver, N := E.N }
theorem HCall.frame0 {f : FuncId} {args0 aas : List SVal} {mem0 mem1 mem : List Blk} {r1 : SVal} {ck : Nat} (idx : List Nat) (h : HCall P f args0 mem0 r1 mem1) (hz1 : Ga mem1 = true)
  (hn : idx.Nodup) (hlt : ∀ i ∈ idx, i < mem.length) (hl : idx.length = mem0.length)
  (hmem : ∀ (i : Nat) b0, mem0[i]? = some b0 → mem[Aw idx mem.length i]? = some (b0.up (Aw idx mem.length) (D3 mem (Aw idx mem.length) ck) i))
  (ha : AMs aas (args0.map (SVal.up (Aw idx mem.length) (D3 mem (Aw idx mem.length) ck)))) :
  MCall P F0 w0 f aas mem ck fun v m c => v = r1.up (Aw idx mem.length) (D3 mem (Aw idx mem.length) ck) ∧ m = Io mem idx (He (Aw idx mem.length) (D3 mem (Aw idx mem.length) ck) mem1 0) ∧ c = ck := by
 obtain ⟨hck, hfn, hcall⟩ := h
 simp only [Tf, BO, KM, Ec] at hck
 obtain ⟨c1, c2, c3, c4, c5, c6, c7⟩ := hck
 have inj : ∀ i j, Aw idx mem.length i = Aw idx mem.length j → i = j := fun i j q => Ip hn hlt q
 have hputs := J6 idx mem
 generalize hρ : Aw idx mem.length = ρ at hmem ha inj hputs ⊢
 generalize hν : D3 mem ρ ck = ν at hmem ha ⊢
 have hν0 : ∀ r, ν r 0 = Dr mem (ρ r) := fun r => by rw [← hν]; rfl
 have hν1 : ∀ r, ν r 1 = ck + 1 := fun r => by rw [← hν]; rfl
 refine ⟨hfn, fun E w vs hw hvl hv => ?_⟩
 have live0 : ∀ r k, DV mem0 r k = true → k = 0 ∧ E.ver (ρ r) = ν r k := by
  intro r k hs
  obtain ⟨b, hb, hk⟩ := Et hs
  have hk0 : k = 0 := by
    rcases D4 c2 r b hb with q | q
    · rw [q] at hk; cases hk
    · rw [q] at hk; cases hk; rfl
  refine ⟨hk0, ?_⟩
  exact (hw.mem.ok _ _ (hmem r b hb)).vers (by rw [Cr, hk]; rfl)
 have down : Sees mem0 E (Gb E mem ρ) ρ id ν (fun _ k => k) := ⟨fun _ q => q, fun r k hs => ⟨(live0 r k hs).2, (live0 r k hs).1.symm, rfl, rfl⟩⟩
 have hasS : ∀ {b : Blk} {i : Nat}, b.has (Gb E mem ρ) i → b.has E (ρ i) := by
  intro b i q
  cases b <;> exact q
 have sc0 : ∀ (i : Nat) b k, mem0[i]? = some b → b.vers = some k → DV mem0 i k = true := by
  intro i b k hb hk
  simp [DV, hb, hk]
 have hsm : WOk F0 w0 (Gb E mem ρ) w mem0 0 := by
  refine ⟨hw.below, hw.base, hw.F, ⟨fun _ => Nat.le_refl _, fun i b hb => ?_, fun i j b b' hb hb' h1 h2 hne => ?_⟩, fun k hk => ?_⟩
  · cases hk : b.vers with
    | none => cases b <;> first | trivial | exact absurd (c3 _ (Df hb)) (by simp [Blk.sc]) | cases hk
    | some k =>
      have ho := hw.mem.ok _ _ (hmem i b hb)
      have := down.blk (w := w) (w' := w) (fun _ _ => rfl) (c3 b (Df hb)) (sc0 i b k hb hk) hk ho (fun _ => rfl) (fun hh => by
       have hlt' := ho.lt (By.2 hh)
       rintro (q | q | ⟨s, x, q1, q2, q3, q4⟩)
       ·exact hlt'.2.2 (.inl q)
       ·exact hlt'.2.2 (.inr q)
       ·exact hw.mem.apart _ s _ x (hmem i b hb) q2 (By.2 hh) q3 (q1 i) q4)
      rw [Ti] at this
      exact this
  · exact hw.mem.apart _ _ _ _ (hmem i b hb) (hmem j b' hb') (By.2 (hasS h1)) (By.2 (hasS h2)) (fun q => hne (inj i j q))
  · rcases hk with q | ⟨s, x, q1, q2, q3, rfl⟩
    · exact hw.N k q
    · have hlt' := (hw.mem.ok s x q2).lt q3
      exact ⟨hlt'.1, fun q => hlt'.2.2 (.inl q)⟩
 obtain ⟨g1, g2⟩ := AMs.get ha
 have hc := (hcall F0 w0).2 (Gb E mem ρ) w vs hsm (by rw [hvl, g1]; simp) (fun i v x hvi hx => by
  have hlt' := lt_of_getElem? hvi
  have has : aas[i]? = some (aas[i]'(by omega)) := Bi _
  have h0 := (g2 i _ _ has (by rw [Ci, hx]; rfl)).rep (hv i v _ hvi has)
  have h1 := down.val (w' := w) (fun _ _ => rfl) (c4 x (Df hx)) h0
  rw [Th (c4 x (Df hx))] at h1
  exact h1)
 refine Calls.mono hc fun e w' hq => ?_
 obtain ⟨v, Es, r, m, c', he, hle, hwok, hrep, hr⟩ := hq
 have sc1 : ∀ (i : Nat) b k, mem1[i]? = some b → b.vers = some k → DV mem1 i k = true := by
  intro i b k hb hk
  simp [DV, hb, hk]
 have live1 : ∀ r k, DV mem1 r k = true → Es.ver r = Dr m r ∧ (k = 0 → Es.ver r = 0 ∧ E.ver (ρ r) = ν r 0) ∧ (k = 0 ∨ k = 1) := by
  intro r k hs
  obtain ⟨b, hb, hk⟩ := Et hs
  have hm := hr.mem r (b.up id (CP m) r) (by rw [Cq, hb]; simp) (Cl ⟨_, by rw [Cr, hk]; rfl⟩)
  have hv := (hwok.mem.ok r _ hm).vers (k := CP m r k) (by rw [Cr, hk]; rfl)
  have hkk := Hf mem1 0 c5 r b hb
  refine ⟨hv, fun hk0 => ?_, ?_⟩
  · subst hk0
    refine ⟨?_, ?_⟩
    · rw [hv]; exact hr.kept r (by rw [hb]; exact hk)
    · rcases hkk with q | q | ⟨_, b0, q1, q2⟩
      ·rw [q] at hk; cases hk
      ·rw [q] at hk; cases hk
      ·obtain ⟨k0, hk0⟩ := ZX.1 q2
       rw [Nat.zero_add] at q1
       have := live0 r k0 (sc0 r b0 k0 q1 hk0)
       rw [this.2, this.1]
  · rcases hkk with q | q | ⟨q, _⟩
    · rw [q] at hk; cases hk
    · rw [q] at hk; cases hk; exact .inr rfl
    · rw [q] at hk; cases hk; exact .inl rfl
 have kept1 : ∀ i, (mem1[i]?).bind Blk.vers = some 0 → Es.blk i = E.blk (ρ i) ∧ Es.cap i = E.cap (ρ i) := by
  intro i hi
  cases hb : mem1[i]? with
  | none => rw [hb] at hi; cases hi
  | some b =>
    rw [hb] at hi
    have hs := sc1 i b 0 hb hi
    have := hle.same i (by rw [((live1 i 0 hs).2.1 rfl).1]; rfl)
    exact this
 have zero1 : ∀ r k, DV mem1 r k = true → k = 0 := by
  intro r k hs
  obtain ⟨b, hb, hk⟩ := Et hs
  rcases D4 hz1 r b hb with q | q
  · rw [q] at hk; cases hk
  · rw [q] at hk; cases hk; rfl
 have blkE : ∀ r k, DV mem1 r k = true → Es.blk r = E.blk (ρ r) ∧ Es.cap r = E.cap (ρ r) := by
  intro r k hs
  obtain rfl := zero1 r k hs
  obtain ⟨b, hb, hk⟩ := Et hs
  exact kept1 r (by rw [hb]; exact hk)
 have up : Sees mem1 Es (QY E Es) id ρ (CP m) ν := by
  refine ⟨fun _ q => q, fun r k hs => ⟨(live1 r k hs).1, ?_, (blkE r k hs).1.symm, (blkE r k hs).2.symm⟩⟩
  obtain rfl := zero1 r k hs
  exact ((live1 r 0 hs).2.1 rfl).2
 have hleB : EnvLe E w (QY E Es) w' := ⟨fun k hk => hle.F k hk, fun k hk => hle.mem k hk, fun _ => Nat.le_refl _, fun _ _ => ⟨rfl, rfl⟩, fun k hk => ⟨hk, (hle.held k (.inl hk)).2⟩⟩
 refine ⟨v, QY E Es, _, _, _, he, hleB, ?_, up.val (fun _ _ => rfl) c7 (hr.res.rep hrep), rfl, rfl, rfl⟩
 have hul : (He ρ ν mem1 0).length = mem1.length := Mg _ _ _ _
 have hget : ∀ s x, (Io mem idx (He ρ ν mem1 0))[s]? = some x → (∃ i b1, mem1[i]? = some b1 ∧ x = b1.up ρ ν i ∧ ρ i = s) ∨ ((∀ i, ρ i ≠ s) ∧ mem[s]? = some x) := by
  intro s x hx
  rcases hputs _ (by rw [hul, hl]; exact c1) hn hlt s x hx with ⟨i, h1, h2⟩ | h1
  · rw [Cq] at h1
    cases hb : mem1[i]? with
    | none => rw [hb] at h1; cases h1
    | some b1 =>
      rw [hb] at h1
      simp only [Option.map_some, Option.some.injEq, Nat.zero_add] at h1
      exact .inl ⟨i, b1, hb, h1.symm, h2⟩
  · exact .inr h1
 have hasL : ∀ {b : Blk} {i : Nat}, mem1[i]? = some b → b.has (QY E Es) (ρ i) → b.has Es i := by
  intro b i hb q
  obtain ⟨k, hk⟩ := DK q
  have e := (blkE i k (sc1 i b k hb hk)).2
  have e2 : (QY E Es).cap (ρ i) = Es.cap i := e.symm
  cases b <;> first | exact q | (simp only [Blk.has] at q ⊢; rw [← e2]; exact q)
 have hasN : ∀ {b : Blk} {s : Nat}, (∀ i, ρ i ≠ s) → b.has (QY E Es) s → b.has E s := by
  intro b s _ q
  exact Blk.has_of rfl q
 have bE : ∀ {b : Blk} {i : Nat}, mem1[i]? = some b → b.has Es i → E.blk (ρ i) = Es.blk i := by
  intro b i hb q
  obtain ⟨k, hk⟩ := DK q
  exact (blkE i k (sc1 i b k hb hk)).1.symm
 have mine : ∀ (i : Nat) b1, mem1[i]? = some b1 → b1.has Es i → BlkOk w0.heap.size Es w' i (b1.up id (CP m) i) := by
  intro i b1 hb hh
  obtain ⟨k, hk⟩ := DK hh
  exact hwok.mem.ok i _ (hr.mem i (b1.up id (CP m) i) (by rw [Cq, hb]; simp) (Cl ⟨_, by rw [Cr, hk]; rfl⟩))
 have heldS : ∀ s x, (∀ i, ρ i ≠ s) → mem[s]? = some x → x.has E s → Es.N (E.blk s) ∧ w'.heap[E.blk s]? = w.heap[E.blk s]? := fun s x q1 q2 q3 => hle.held _ (.inr ⟨s, x, q1, q2, q3, rfl⟩)
 refine ⟨hwok.below, hwok.base, hwok.F, ⟨fun s => ?_, fun s x hx => ?_, fun s s' x x' hx hx' h1 h2 hne => ?_⟩, fun k hk => hwok.N k (hle.held k (.inl hk)).1⟩
 ·exact hw.mem.clock s
 ·rcases hget s x hx with ⟨i, b1, hb, rfl, rfl⟩ | ⟨hs, hx0⟩
  · cases hk : b1.vers with
    | none => cases b1 <;> first | trivial | exact absurd (c6 _ (Df hb)) (by simp [Blk.sc]) | cases hk
    | some k =>
      have hm := hr.mem i (b1.up id (CP m) i) (by rw [Cq, hb]; simp) (Cl ⟨_, by rw [Cr, hk]; rfl⟩)
      have ho := hwok.mem.ok i _ hm
      exact up.blk (w := w') (w' := w') (fun _ _ => rfl) (c6 b1 (Df hb)) (sc1 i b1 k hb hk) hk ho (fun _ => rfl) (fun hh => by
       have hlt' := ho.lt (By.2 hh)
       rintro (q | q)
       ·exact hlt'.2.2 (.inl q)
       ·exact hlt'.2.2 (.inr (hle.held _ (.inl q)).1))
  · have ho := hw.mem.ok s x hx0
    refine ho.le hleB (fun _ => rfl) (fun hh => (heldS s x hs hx0 hh).2) (fun hh => ?_)
    rintro (q | q)
    · exact (hwok.N _ (heldS s x hs hx0 hh).1).2 q
    · exact (ho.lt hh).2.2 (.inr q)
 ·show E.blk s ≠ E.blk s'
  rcases hget s x hx with ⟨i, b1, hb, rfl, rfl⟩ | ⟨hs, hx0⟩
  · have hi := hasL hb (By.1 h1)
    rw [bE hb hi]
    rcases hget s' x' hx' with ⟨j, b2, hb', rfl, rfl⟩ | ⟨hs', hx0'⟩
    · have hj := hasL hb' (By.1 h2)
      rw [bE hb' hj]
      obtain ⟨k1, hk1⟩ := DK hi
      obtain ⟨k2, hk2⟩ := DK hj
      have m1 := hr.mem i (b1.up id (CP m) i) (by rw [Cq, hb]; simp) (Cl ⟨_, by rw [Cr, hk1]; rfl⟩)
      have m2 := hr.mem j (b2.up id (CP m) j) (by rw [Cq, hb']; simp) (Cl ⟨_, by rw [Cr, hk2]; rfl⟩)
      exact hwok.mem.apart i j _ _ m1 m2 (By.2 hi) (By.2 hj) (fun q => hne (by rw [q]))
    · have hj := hasN hs' h2
      intro q
      have := ((mine i b1 hb hi).lt (By.2 hi)).2.2
      exact this (.inr (by rw [q]; exact (heldS s' x' hs' hx0' hj).1))
  · have hi := hasN hs h1
    rcases hget s' x' hx' with ⟨j, b2, hb', rfl, rfl⟩ | ⟨hs', hx0'⟩
    · have hj := hasL hb' (By.1 h2)
      rw [bE hb' hj]
      intro q
      have := ((mine j b2 hb' hj).lt (By.2 hj)).2.2
      exact this (.inr (by rw [← q]; exact (heldS s x hs hx0 hi).1))
    · have hj := hasN hs' h2
      exact hw.mem.apart s s' x x' hx0 hx0' hi hj hne
end
section
variable {P : Program} {T : TypeId → Option TI} {F0 : Nat → Prop} {w0 : World}
variable {dr : Bool} {ops rest : List Oper} {K : St → Prop} {n : Nat} {sl : List (Nat × SVal)} {mem : List Blk} {ck : Nat} {df : List (FuncId × List Cell)} {acc : List Nat}
variable {d : Tmp} {op : Op} {ty : TypeId} {pos : String} {aft : Array Edge} {g : Option (Nat × Bool)}
theorem P6 [tc : TC P T] (r : Nat) {f : Operand} {fv : SVal} {args : Array Operand} {ats : Array TypeId} {fid : FuncId} {k : Nat} {cs0 cs1 : List Cell} {y z : Dat} {mem' : List Blk} (hp : HCall P fid [.c (.bp 0 0 0), .c (.d y)] [.box 0 cs0] (.c (.d z)) [.box 0 cs1]) (h : Reg P F0 w0 dr ops K rest ⟨n, (d, .c (.d z)) :: sl, mem', ck, df⟩ (B3 r false :: acc))
  (hw : GW ops g sl := by first | exact trivial | exact rfl) (hf : AO sl f = fv := by exact rfl) (hc : Cv fv = some (fid, []) := by exact rfl) (has : args.toList.map (AO sl) = [.c (.bp r k 0), .c (.d y)] := by exact rfl) (hm : mem[r]? = some (.box k cs0) := by exact rfl) (u0 : ∀ ρ ν, Cell.ups ρ ν cs0 = cs0 := by intro _ _; simp only [Cell.ups, Cell.up]) (u1 : ∀ ρ ν, Cell.ups ρ ν cs1 = cs1 := by intro _ _; simp only [Cell.ups, Cell.up]) (hm' : mem.set r (.box k cs1) = mem' := by exact rfl) :
  Reg P F0 w0 dr ops K (⟨some d, .call ⟨.value f, args, ats⟩, ty, pos, aft, g⟩ :: rest) ⟨n, sl, mem, ck, df⟩ acc := by
 subst hm'
 refine ZN (bd := 0) hw hm (Nat.zero_le _) (fun M c hM _ => Does.of tc.ok fun τ he hmm hck Kk hK => ?_) h
 subst hmm; subst hck
 have hlt := lt_of_getElem? hM
 have hv : Dr τ.mem r = k := by simp [Dr, hM, Blk.vers]
 have hq := HCall.frame0 (F0 := F0) (w0 := w0) (mem := τ.mem) (ck := τ.clock) (aas := [.c (.bp r k 0), .c (.d y)]) [r] hp rfl (by simp) (by simpa using hlt) rfl (fun i b0 hb => by
  cases i with
  | zero =>
    simp only [List.getElem?_cons_zero, Option.some.injEq] at hb
    subst hb
    simp only [Blk.up, u0, Aw, D3, hv]
    exact hM
  | succ i => simp at hb) (by
  simp only [List.map_cons, List.map_nil, SVal.up, Cell.up, Aw, D3, hv]
  exact J8 EI (J8 EI trivial))
 obtain ⟨e1, e2⟩ := Jb he
 rw [hf] at e1
 have has' : args.toList.map (AO sl) ++ ([] : List Cell).map .c = [.c (.bp r k 0), .c (.d y)] := by rw [has]; rfl
 simp only [AP, Ed, e1, hc, e2, has']
 refine ⟨hq.1, fun E w vs q1 q2 q3 => Calls.mono (hq.2 E w vs q1 q2 q3) fun _ _ ⟨v', E', rr, m, c, p1, p2, p3, p4, p5, p6, p7⟩ => ⟨v', E', rr, m, c, p1, p2, p3, p4, ?_⟩⟩
 subst p5; subst p6; subst p7
 have em : Io τ.mem [r] (He (Aw [r] τ.mem.length) (D3 τ.mem (Aw [r] τ.mem.length) τ.clock) [.box 0 cs1] 0) = τ.mem.set r (.box k cs1) := by
  simp only [He, Blk.up, u1, Aw, D3, hv, Io, List.append_nil]
 rw [em]
 exact hK _ _ _ _ ⟨rfl, rfl, rfl, rfl⟩
end
end Go.Abs
end
