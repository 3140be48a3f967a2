/-
  Calls that are handed some of the caller's own memory: a contract speaks of that part alone, and the caller's other memory stays as it is.
-/
import Derived.Test.YtmpgmjlanngkfaaGreatEngG
section
namespace Go.Abs
open Go.RowKit
variable {ck i r : Nat} {v : Value}
def Dq (mem : List Blk) (r : Nat) : Nat :=
 match mem[r]? with
 | some b => (match b.vers with | some k => k | none => 0)
 | none => 0
mutual
def Cell.up (ρ : Nat → Nat) (ν : Nat → Nat → Nat) : Cell → Cell
 | .d x => .d x
 | .emp => .emp
 | .fp e o => .fp e o
 | .bp r k o => .bp (ρ r) (ν r k) o
 | .ap r k esz i o => .ap (ρ r) (ν r k) esz i o
 | .arr r k n => .arr (ρ r) (ν r k) n
 | .clo f cs => .clo f (Cell.ups ρ ν cs)
 | .mp r k => .mp (ρ r) (ν r k)
 | .it r k => .it (ρ r) (ν r k)
 | .ars r k esz i n => .ars (ρ r) (ν r k) esz i n
def Cell.ups (ρ : Nat → Nat) (ν : Nat → Nat → Nat) : List Cell → List Cell
 | [] => []
 | c :: cs => Cell.up ρ ν c :: Cell.ups ρ ν cs
end
mutual
def Cell.sc (L : List Blk) : Cell → Bool
 | .d _ => true
 | .emp => true
 | .fp _ _ => true
 | .bp r k _ => Dl L r k
 | .ap r k _ _ _ => Dl L r k
 | .arr r k _ => Dl L r k
 | .clo _ cs => Cell.scs L cs
 | .mp r k => Dl L r k
 | .it r k => Dl L r k
 | .ars r k _ _ _ => Dl L r k
def Cell.scs (L : List Blk) : List Cell → Bool
 | [] => true
 | c :: cs => Cell.sc L c && Cell.scs L cs
def Dl (L : List Blk) (r k : Nat) : Bool :=
 match L[r]? with
 | some b => (match b.vers with | some k' => Nat.beq k' k | none => false)
 | none => false
end
def SVal.up (ρ : Nat → Nat) (ν : Nat → Nat → Nat) : SVal → SVal
 | .c x => .c (Cell.up ρ ν x)
 | .agg xs => .agg (Cell.ups ρ ν xs)
 | .tup [] => .tup []
 | .tup [.c x] => .tup [.c (Cell.up ρ ν x)]
 | .tup [.c x, .c y] => .tup [.c (Cell.up ρ ν x), .c (Cell.up ρ ν y)]
 | .tup [.c x, .agg ys] => .tup [.c (Cell.up ρ ν x), .agg (Cell.ups ρ ν ys)]
 | .tup [.agg xs, .c y] => .tup [.agg (Cell.ups ρ ν xs), .c (Cell.up ρ ν y)]
 | .tup [.c x, .c y, .c z] => .tup [.c (Cell.up ρ ν x), .c (Cell.up ρ ν y), .c (Cell.up ρ ν z)]
 | _ => .junk
def SVal.sc (L : List Blk) : SVal → Bool
 | .c x => Cell.sc L x
 | .agg xs => Cell.scs L xs
 | .tup [] => true
 | .tup [.c x] => Cell.sc L x
 | .tup [.c x, .c y] => Cell.sc L x && Cell.sc L y
 | .tup [.c x, .agg ys] => Cell.sc L x && Cell.scs L ys
 | .tup [.agg xs, .c y] => Cell.scs L xs && Cell.sc L y
 | .tup [.c x, .c y, .c z] => Cell.sc L x && (Cell.sc L y && Cell.sc L z)
 | _ => false
def Blk.up (ρ : Nat → Nat) (ν : Nat → Nat → Nat) (i : Nat) : Blk → Blk
 | .box k cs => .box (ν i k) (Cell.ups ρ ν cs)
 | .arr k t z es => .arr (ν i k) t z es
 | .arrc k t z es b c => .arrc (ν i k) t z es b c
 | .map k kt vt es bs c => .map (ν i k) kt vt es bs c
 | .iter k r k' since sb => .iter (ν i k) (ρ r) (ν r k') since sb
 | .mapc k kt vt es => .mapc (ν i k) kt vt es
 | .mapb k kt vt es => .mapb (ν i k) kt vt es
 | .arrx k t z es => .arrx (ν i k) t z es
 | .hole k => .hole k
 | .dead => .dead
def Hx (ρ : Nat → Nat) (ν : Nat → Nat → Nat) : List Blk → Nat → List Blk
 | [], _ => []
 | b :: bs, i => b.up ρ ν i :: Hx ρ ν bs (i + 1)
def Blk.sc (L : List Blk) : Blk → Bool
 | .box _ cs => Cell.scs L cs
 | .iter _ r k' _ _ => Dl L r k'
 | .mapc .. => false
 | .arrx .. => false
 | .hole _ => false
 | _ => true
def Mc (mem0 : List Blk) : List Blk → Nat → Bool
 | [], _ => true
 | b :: bs, i => (match b.vers with
   | none => true
   | some 0 => (match mem0[i]? with | some b0 => b0.vers.isSome | none => false)
   | some 1 => true
   | _ => false) && Mc mem0 bs (i + 1)
def FJ : List Blk → Bool
 | [] => true
 | b :: bs => (match b.vers with | none => true | some 0 => true | _ => false) && FJ bs
def T4 (args0 : List SVal) (mem0 : List Blk) (r1 : SVal) (mem1 : List Blk) : Bool :=
 Nat.ble mem0.length mem1.length && (FJ mem0 && (mem0.all (Blk.sc mem0) && (args0.all (SVal.sc mem0) && (Mc mem0 mem1 0 && (mem1.all (Blk.sc mem1) && r1.sc mem1)))))
def CLe (c c' : Cell) : Prop := c = c' ∨ ∃ x, c' = .d x ∧ c.dat = some x
def CLes : List Cell → List Cell → Prop
 | [], [] => True
 | c :: cs, c' :: cs' => CLe c c' ∧ CLes cs cs'
 | _, _ => False
def AM : SVal → SVal → Prop
 | .c c, .c c' => CLe c c'
 | .agg cs, .agg cs' => CLes cs cs'
 | x, y => x = y
def AMs : List SVal → List SVal → Prop
 | [], [] => True
 | x :: xs, y :: ys => AM x y ∧ AMs xs ys
 | _, _ => False
def CI (m : List Blk) (r _k : Nat) : Nat := Dq m r
structure HR (m mem1 : List Blk) (r r1 : SVal) : Prop where
 mem : Ar m (Hx id (CI m) mem1 0)
 res : AM r (r1.up id (CI m))
 kept : ∀ i, (mem1[i]?).bind Blk.vers = some 0 → Dq m i = 0
def HCall (P : Program) (f : FuncId) (args0 : List SVal) (mem0 : List Blk) (r1 : SVal) (mem1 : List Blk) : Prop :=
 T4 args0 mem0 r1 mem1 = true ∧ FnOk P f ∧ ∀ F0 w0, MCall P F0 w0 f args0 mem0 0 fun r m _ => HR m mem1 r r1
def Ax : List Nat → Nat → Nat → Nat
 | [], n, i => n + i
 | r :: _, _, 0 => r
 | _ :: is, n, i + 1 => Ax is n i
def H2 : List Blk → List Nat → List Blk → List Blk
 | mem, i :: is, b :: bs => H2 (mem.set i b) is bs
 | mem, _, bs => mem ++ bs
def Dw (mem : List Blk) (ρ : Nat → Nat) (ck r k : Nat) : Nat :=
 match k with
 | 0 => Dq mem (ρ r)
 | _ + 1 => ck + 1
section
variable {w w' : World} {E E' : Env}
theorem CLe.rep {c c' : Cell} (h : CLe c c') (hv : CRep E w v c) : CRep E w v c' := by
 rcases h with rfl | ⟨x, rfl, h⟩
 ·exact hv
 ·exact .d (hv.dat h)
theorem CLes.get : ∀ {cs cs' : List Cell}, CLes cs cs' → cs.length = cs'.length ∧ ∀ (i : Nat) c c', cs[i]? = some c → cs'[i]? = some c' → CLe c c'
 | [], [], _ => ⟨rfl, by simp⟩
 | c :: cs, c' :: cs', h => by
   obtain ⟨h1, h2⟩ := CLes.get h.2
   refine ⟨by simp [h1], fun i a b ha hb => ?_⟩
   cases i with
   | zero => simp at ha hb; subst ha; subst hb; exact h.1
   | succ i => exact h2 i a b (by simpa using ha) (by simpa using hb)
 | [], _ :: _, h => h.elim
 | _ :: _, [], h => h.elim
theorem AM.rep {x y : SVal} (h : AM x y) (hv : SRep E w v x) : SRep E w v y := by
 unfold AM at h
 split at h
 ·cases hv with | c hv => exact .c (h.rep hv)
 ·cases hv with | agg _ vs hl hd =>
  obtain ⟨g1, g2⟩ := CLes.get h
  refine .agg _ vs (by omega) (fun i u c hu hc => ?_)
  have hlt := lt_of_getElem? hu
  rename_i cs cs'
  have hs : cs[i]? = some (cs[i]'(by omega)) := Bh _
  exact (g2 i _ c hs hc).rep (hd i u _ hu hs)
 ·subst h; exact hv
theorem AMs.get : ∀ {cs cs' : List SVal}, AMs cs cs' → cs.length = cs'.length ∧ ∀ (i : Nat) c c', cs[i]? = some c → cs'[i]? = some c' → AM c c'
 | [], [], _ => ⟨rfl, by simp⟩
 | c :: cs, c' :: cs', h => by
   obtain ⟨h1, h2⟩ := AMs.get h.2
   refine ⟨by simp [h1], fun i a b ha hb => ?_⟩
   cases i with
   | zero => simp at ha hb; subst ha; subst hb; exact h.1
   | succ i => exact h2 i a b (by simpa using ha) (by simpa using hb)
 | [], _ :: _, h => h.elim
 | _ :: _, [], h => h.elim
theorem Ea (ρ : Nat → Nat) (ν : Nat → Nat → Nat) : ∀ cs : List Cell, Cell.ups ρ ν cs = cs.map (Cell.up ρ ν)
 | [] => by simp [Cell.ups]
 | c :: cs => by simp [Cell.ups, Ea ρ ν cs]
theorem B8 (ρ : Nat → Nat) (ν : Nat → Nat → Nat) : ∀ (bs : List Blk) (k i : Nat), (Hx ρ ν bs k)[i]? = (bs[i]?).map (Blk.up ρ ν (k + i))
 | [], k, i => by simp [Hx]
 | b :: bs, k, 0 => by simp [Hx]
 | b :: bs, k, i + 1 => by simp only [Hx, List.getElem?_cons_succ, B8 ρ ν bs (k + 1) i]; rw [show k + 1 + i = k + (i + 1) by omega]
theorem Md (ρ : Nat → Nat) (ν : Nat → Nat → Nat) : ∀ (bs : List Blk) (k : Nat), (Hx ρ ν bs k).length = bs.length
 | [], _ => rfl
 | _ :: bs, k => by simp [Hx, Md ρ ν bs (k + 1)]
theorem DV {L : List Blk} {k : Nat} (h : Dl L r k = true) : ∃ b, L[r]? = some b ∧ b.vers = some k := by
 unfold Dl at h
 split at h
 ·rename_i b hb
  split at h
  ·rename_i k' hk
   exact ⟨b, hb, by rw [hk, ZN h]⟩
  ·cases h
 ·cases h
theorem B9 {ρ : Nat → Nat} {ν : Nat → Nat → Nat} {b : Blk} : (b.up ρ ν i).vers = (b.vers).map (ν i) := by
 cases b <;> rfl
theorem B3 {b : Blk} (h : ∃ k, b.vers = some k) : b.live := by
 cases b <;> simp [Blk.live, Blk.vers] at h ⊢
theorem Dd {E : Env} {b : Blk} (h : b.has E r) : ∃ k, b.vers = some k := by
 cases b <;> first | exact ⟨_, rfl⟩ | exact h.elim
structure Sees (L : List Blk) (E : Env) (E' : Env) (ρ ρ' : Nat → Nat) (ν ν' : Nat → Nat → Nat) : Prop where
 F : ∀ b, E.F b → E'.F b
 at_ : ∀ r k, Dl L r k = true → E.ver (ρ r) = ν r k ∧ E'.ver (ρ' r) = ν' r k ∧ E'.blk (ρ' r) = E.blk (ρ r) ∧ E'.cap (ρ' r) = E.cap (ρ r)
mutual
theorem Sees.cell {L : List Blk} {ρ ρ' : Nat → Nat} {ν ν' : Nat → Nat → Nat} (h : Sees L E E' ρ ρ' ν ν') (hw : ∀ b, E.F b → w'.heap[b]? = w.heap[b]?) {v : Value} : ∀ {c : Cell}, Cell.sc L c = true → CRep E w v (Cell.up ρ ν c) → CRep E' w' v (Cell.up ρ' ν' c)
 | .d x, _, hv => by simp only [Cell.up] at hv ⊢; cases hv with | d hv => exact .d (hv.mono h.F hw)
 | .emp, _, hv => by simp only [Cell.up] at hv ⊢; cases hv; exact .emp _
 | .fp e o, _, hv => by
   simp only [Cell.up] at hv ⊢
   cases hv with | fp _ _ b off u hF hc hd => exact .fp e o b off u (h.F _ hF) (fun j hj => by rw [World.cell?_of_block (w := w) (hw b hF)]; exact hc j hj) (fun j x hx => (hd j x hx).mono h.F hw)
 | .bp r k o, hs, hv => by
   obtain ⟨a1, a2, a3, a4⟩ := h.at_ r k hs
   simp only [Cell.up] at hv ⊢
   cases hv with | bp _ _ _ _ h1 hk hh => exact .bp _ _ _ _ h1 (by omega) (fun _ => by rw [a3]; exact hh a1)
 | .ap r k esz i o, hs, hv => by
   obtain ⟨a1, a2, a3, a4⟩ := h.at_ r k hs
   simp only [Cell.up] at hv ⊢
   cases hv with | ap _ _ _ _ _ _ h1 hk hh => exact .ap _ _ _ _ _ _ h1 (by omega) (fun _ => by rw [a3]; exact hh a1)
 | .arr r k n, hs, hv => by
   obtain ⟨a1, a2, a3, a4⟩ := h.at_ r k hs
   simp only [Cell.up] at hv ⊢
   cases hv with | arr _ _ _ _ h1 hk hh => exact .arr _ _ _ _ h1 (by omega) (fun _ => by rw [a3, a4]; exact hh a1)
 | .clo f cs, hs, hv => by
   simp only [Cell.up] at hv ⊢
   simp only [Cell.sc] at hs
   cases hv with | clo _ _ vs hl hd =>
   rw [Ea] at hl hd
   rw [Ea]
   refine .clo f _ vs (by simpa using hl) (fun i u x hu hx => ?_)
   rw [← Ea] at hx hd
   exact Sees.cells h hw hs i u x (fun y hy => hd i u y hu hy) hx
 | .mp r k, hs, hv => by
   obtain ⟨a1, a2, a3, a4⟩ := h.at_ r k hs
   simp only [Cell.up] at hv ⊢
   cases hv with | mp _ _ _ h1 hk hh => exact .mp _ _ _ h1 (by omega) (fun _ => by rw [a3]; exact hh a1)
 | .it r k, hs, hv => by
   obtain ⟨a1, a2, a3, a4⟩ := h.at_ r k hs
   simp only [Cell.up] at hv ⊢
   cases hv with | it _ _ _ h1 hk hh => exact .it _ _ _ h1 (by omega) (fun _ => by rw [a3]; exact hh a1)
 | .ars r k esz i n, hs, hv => by
   obtain ⟨a1, a2, a3, a4⟩ := h.at_ r k hs
   simp only [Cell.up] at hv ⊢
   cases hv with | ars _ _ _ _ _ _ h1 hk hh => exact .ars _ _ _ _ _ _ h1 (by omega) (fun _ => by rw [a3, a4]; exact hh a1)
theorem Sees.cells {L : List Blk} {ρ ρ' : Nat → Nat} {ν ν' : Nat → Nat → Nat} (h : Sees L E E' ρ ρ' ν ν') (hw : ∀ b, E.F b → w'.heap[b]? = w.heap[b]?) : ∀ {cs : List Cell}, Cell.scs L cs = true → ∀ (i : Nat) (v : Value) (x : Cell), (∀ y, (Cell.ups ρ ν cs)[i]? = some y → CRep E w v y) → (Cell.ups ρ' ν' cs)[i]? = some x → CRep E' w' v x
 | [], _, i, v, x, _, hx => by simp [Cell.ups] at hx
 | c :: cs, hs, i, v, x, hy, hx => by
   simp only [Cell.scs, Bi] at hs
   simp only [Cell.ups] at hy hx
   cases i with
   | zero =>
     simp only [List.getElem?_cons_zero, Option.some.injEq] at hx
     subst hx
     exact Sees.cell h hw hs.1 (hy _ (by simp))
   | succ i => exact Sees.cells h hw hs.2 i v x (fun y hq => hy y (by simpa using hq)) (by simpa using hx)
end
end
section
variable {w w' : World} {E E' : Env} {L : List Blk} {ρ ρ' : Nat → Nat} {ν ν' : Nat → Nat → Nat}
theorem Sees.agg (h : Sees L E E' ρ ρ' ν ν') (hw : ∀ b, E.F b → w'.heap[b]? = w.heap[b]?) {cs : List Cell} (hs : Cell.scs L cs = true) (hv : SRep E w v (.agg (Cell.ups ρ ν cs))) : SRep E' w' v (.agg (Cell.ups ρ' ν' cs)) := by
 cases hv with | agg _ vs hl hd =>
 rw [Ea] at hl
 refine .agg _ vs (by rw [Ea]; simpa using hl) (fun i u x hu hx => h.cells hw hs i u x (fun y hy => hd i u y hu hy) hx)
theorem Sees.c (h : Sees L E E' ρ ρ' ν ν') (hw : ∀ b, E.F b → w'.heap[b]? = w.heap[b]?) {c : Cell} (hs : Cell.sc L c = true) (hv : SRep E w v (.c (Cell.up ρ ν c))) : SRep E' w' v (.c (Cell.up ρ' ν' c)) := by
 cases hv with | c hv => exact .c (h.cell hw hs hv)
theorem cv {x y : SVal} (hx : ∀ u, SRep E w u x → SRep E' w' u y) (h : SRep E w v (.tup [x])) : SRep E' w' v (.tup [y]) := by
 cases h with | tup _ vs hl hd =>
 refine .tup _ vs (by simpa using hl) (fun i u z hu hz => ?_)
 match i with
 | 0 => simp at hz; subst hz; exact hx u (hd 0 u x hu rfl)
 | i + 1 => simp at hz
theorem YH {x y x' y' : SVal} (hx : ∀ u, SRep E w u x → SRep E' w' u x') (hy : ∀ u, SRep E w u y → SRep E' w' u y') (h : SRep E w v (.tup [x, y])) : SRep E' w' v (.tup [x', y']) := by
 cases h with | tup _ vs hl hd =>
 refine .tup _ vs (by simpa using hl) (fun i u z hu hz => ?_)
 match i with
 | 0 => simp at hz; subst hz; exact hx u (hd 0 u x hu rfl)
 | 1 => simp at hz; subst hz; exact hy u (hd 1 u y hu rfl)
 | i + 2 => simp at hz
theorem cw {x y z x' y' z' : SVal} (hx : ∀ u, SRep E w u x → SRep E' w' u x') (hy : ∀ u, SRep E w u y → SRep E' w' u y') (hz' : ∀ u, SRep E w u z → SRep E' w' u z') (h : SRep E w v (.tup [x, y, z])) : SRep E' w' v (.tup [x', y', z']) := by
 cases h with | tup _ vs hl hd =>
 refine .tup _ vs (by simpa using hl) (fun i u q hu hq => ?_)
 match i with
 | 0 => simp at hq; subst hq; exact hx u (hd 0 u x hu rfl)
 | 1 => simp at hq; subst hq; exact hy u (hd 1 u y hu rfl)
 | 2 => simp at hq; subst hq; exact hz' u (hd 2 u z hu rfl)
 | i + 3 => simp at hq
theorem Sees.val (h : Sees L E E' ρ ρ' ν ν') (hw : ∀ b, E.F b → w'.heap[b]? = w.heap[b]?) {s : SVal} (hs : s.sc L = true) (hv : SRep E w v (s.up ρ ν)) : SRep E' w' v (s.up ρ' ν') := by
 unfold SVal.sc at hs
 split at hs
 ·exact h.c hw hs hv
 ·exact h.agg hw hs hv
 ·simp only [SVal.up] at hv ⊢
  cases hv with | tup _ vs hl hd => exact .tup _ vs hl (fun i u x _ hx => by simp at hx)
 ·simp only [SVal.up] at hv ⊢
  exact cv (fun u => h.c hw hs) hv
 ·simp only [Bi] at hs
  simp only [SVal.up] at hv ⊢
  exact YH (fun u => h.c hw hs.1) (fun u => h.c hw hs.2) hv
 ·simp only [Bi] at hs
  simp only [SVal.up] at hv ⊢
  exact YH (fun u => h.c hw hs.1) (fun u => h.agg hw hs.2) hv
 ·simp only [Bi] at hs
  simp only [SVal.up] at hv ⊢
  exact YH (fun u => h.agg hw hs.1) (fun u => h.c hw hs.2) hv
 ·simp only [Bi] at hs
  simp only [SVal.up] at hv ⊢
  exact cw (fun u => h.c hw hs.1) (fun u => h.c hw hs.2.1) (fun u => h.c hw hs.2.2) hv
 ·cases hs
theorem Sees.blk {n0 : Nat} (h : Sees L E E' ρ ρ' ν ν') (hw : ∀ b, E.F b → w'.heap[b]? = w.heap[b]?) {k : Nat} {b : Blk} (hsc : b.sc L = true) (hat : Dl L i k = true) (hk : b.vers = some k) (hb : BlkOk n0 E w (ρ i) (b.up ρ ν i))
   (hh : b.has E (ρ i) → w'.heap[E.blk (ρ i)]? = w.heap[E.blk (ρ i)]?) (hF : b.has E (ρ i) → ¬ (E'.F (E.blk (ρ i)) ∨ E'.N (E.blk (ρ i)))) : BlkOk n0 E' w' (ρ' i) (b.up ρ' ν' i) := by
 obtain ⟨a1, a2, a3, a4⟩ := h.at_ i k hat
 have harr : ∀ {t : TypeId} {z : Nat} {es : List (List Dat)}, (E.cap (ρ i) ≠ 0 → w'.heap[E.blk (ρ i)]? = w.heap[E.blk (ρ i)]?) → (E.cap (ρ i) ≠ 0 → ¬ (E'.F (E.blk (ρ i)) ∨ E'.N (E.blk (ρ i)))) → ArrOk n0 E w (ρ i) (ν i k) t z es → ArrOk n0 E' w' (ρ' i) (ν' i k) t z es := by
   intro t z es hh hF q
   obtain ⟨h1, h2, h3, h4, h5, h6⟩ := q
   refine ⟨a2, h2, h3, by rw [a4]; exact h4, by rw [a4]; exact h5, ?_⟩
   by_cases hz : E.cap (ρ i) = 0
   · exact .inl (by rw [a4]; exact hz)
   · rcases h6 with h6 | ⟨b1, b2, c, b3, b4, b0, b5⟩
     ·exact absurd h6 hz
     ·exact .inr ⟨by rw [a3]; exact b1, by rw [a3]; exact hF hz, c, by rw [a3, hh hz]; exact b3, by rw [a4]; exact b4, b0, fun i j e v x q1 q2 q3 => (b5 i j e v x q1 q2 q3).mono h.F hw⟩
 cases b with
 | dead => cases hk
 | box k' cs =>
   cases hk
   obtain ⟨h1, h2, h3, c, ety, h4, h5, h6⟩ := hb
   simp only [Blk.up] at *
   rw [Ea] at h5
   refine ⟨a2, by rw [a3]; exact h2, by rw [a3]; exact hF trivial, c, ety, by rw [a3, hh trivial]; exact h4, by rw [Ea]; simpa using h5, fun j v x hv hx => h.cells hw hsc j v x (fun y hy => h6 j v y hv hy) hx⟩
 | arr k' t z es => cases hk; exact harr hh hF hb
 | arrc k' t z es b c => cases hk; exact ⟨harr hh hF hb.1, by rw [a4]; exact hb.2.1, by rw [a3]; exact hb.2.2⟩
 | map k' kt vt es bs c =>
   cases hk
   obtain ⟨h1, h2, h3, A, h4, q1, q2, q3, q0, q4, q5⟩ := hb
   refine ⟨a2, by rw [a3]; exact h2, by rw [a3]; exact hF trivial, A, by rw [a3, hh trivial]; exact h4, q1, q2, q3, q0, q4, fun j m hm => ?_⟩
   obtain ⟨p1, p, p2, p3⟩ := q5 j m hm
   refine ⟨p1, p, p2, ?_⟩
   cases p with
   | one x => exact DRep.mono h.F hw p3
   | agg xs =>
     obtain ⟨vs, o1, o2, o3⟩ := p3
     exact ⟨vs, o1, o2, fun i u x hu hx => (o3 i u x hu hx).mono h.F hw⟩
 | iter k' r k'' since sb =>
   cases hk
   obtain ⟨h1, h2, h3, b, h4, h5, h6⟩ := hb
   obtain ⟨c1, c2, c3, c4⟩ := h.at_ r k'' hsc
   exact ⟨a2, by rw [a3]; exact h2, by rw [a3]; exact hF trivial, b, by rw [a3, hh trivial]; exact h4, Nat.le_of_eq c2.symm, fun _ => by rw [c3]; exact h6 c1⟩
 | mapc k' kt vt es => cases hsc
 | mapb k' kt vt es =>
   cases hk
   obtain ⟨h1, h2, h3, A, bs, c, h4, q1, q2, q3, q0, q4, q5⟩ := hb
   refine ⟨a2, by rw [a3]; exact h2, by rw [a3]; exact hF trivial, A, bs, c, by rw [a3, hh trivial]; exact h4, q1, q2, q3, q0, q4, fun j m hm => ?_⟩
   obtain ⟨p1, p, p2, p3⟩ := q5 j m hm
   refine ⟨p1, p, p2, ?_⟩
   cases p with
   | one x => exact DRep.mono h.F hw p3
   | agg xs =>
     obtain ⟨vs, o1, o2, o3⟩ := p3
     exact ⟨vs, o1, o2, fun i u x hu hx => (o3 i u x hu hx).mono h.F hw⟩
 | arrx k' t z es => cases hsc
 | hole k' => cases hsc
end
theorem Bo {E : Env} {ρ : Nat → Nat} {ν : Nat → Nat → Nat} {b : Blk} : (b.up ρ ν i).has E r ↔ b.has E r := by
 cases b <;> exact Iff.rfl
theorem JM : ∀ (idx : List Nat) (mem bs : List Blk), idx.length ≤ bs.length → idx.Nodup → (∀ i ∈ idx, i < mem.length) → ∀ s x, (H2 mem idx bs)[s]? = some x →
   (∃ i, bs[i]? = some x ∧ Ax idx mem.length i = s) ∨ ((∀ i, Ax idx mem.length i ≠ s) ∧ mem[s]? = some x)
 | [], mem, bs, _, _, _, s, x, hx => by
   simp only [H2] at hx
   rw [XN] at hx
   split at hx
   · rename_i hs
     exact .inr ⟨fun i => by simp [Ax]; omega, hx⟩
   · rename_i hs
     exact .inl ⟨s - mem.length, hx, by simp [Ax]; omega⟩
 | i :: is, mem, [], h, _, _, _, _, _ => by simp at h
 | i :: is, mem, b :: bs, h, hn, hlt, s, x, hx => by
   rw [H2] at hx
   have hn' := ZD.1 hn
   have hi : i < mem.length := hlt i (by simp)
   have := JM is (mem.set i b) bs (by simpa using h) hn'.2 (fun j hj => by simpa using hlt j (by simp [hj])) s x hx
   have hp : ∀ j, Ax (i :: is) mem.length (j + 1) = Ax is (mem.set i b).length j := by
     intro j
     simp only [Ax, IV]
   rcases this with ⟨j, h1, h2⟩ | ⟨h1, h2⟩
   · exact .inl ⟨j + 1, by simpa using h1, by rw [hp]; exact h2⟩
   · by_cases hs : i = s
     ·subst hs
      rw [I7 hi] at h2
      exact .inl ⟨0, by simpa using h2, by simp [Ax]⟩
     ·rw [Kt hs] at h2
      refine .inr ⟨fun j => ?_, h2⟩
      cases j with
      | zero => simp only [Ax]; exact hs
      | succ j => rw [hp]; exact h1 j
theorem K9 : ∀ (idx : List Nat) (n i : Nat), Ax idx n i ∈ idx ∨ (n ≤ Ax idx n i ∧ idx.length ≤ i ∧ Ax idx n i = n + (i - idx.length))
 | [], n, i => .inr (by simp [Ax])
 | r :: is, n, 0 => .inl (by simp [Ax])
 | r :: is, n, i + 1 => by
   rcases K9 is n i with h | ⟨h1, h2, h3⟩
   ·exact .inl (by simp only [Ax]; exact ZP _ h)
   ·exact .inr (by simp only [Ax, List.length_cons]; exact ⟨h1, by omega, by omega⟩)
theorem H3 : ∀ {idx : List Nat} {n : Nat}, idx.Nodup → (∀ i ∈ idx, i < n) → ∀ {i j : Nat}, Ax idx n i = Ax idx n j → i = j
 | [], n, _, _, i, j, h => by simp only [Ax] at h; omega
 | r :: is, n, hn, hlt, i, j, h => by
   have hn' := ZD.1 hn
   have key : ∀ k, r ≠ Ax is n k := by
     intro k q
     rcases K9 is n k with h | ⟨h1, _, _⟩
     · rw [← q] at h; exact hn'.1 h
     · have := hlt r (by simp); omega
   cases i with
   | zero =>
     cases j with
     | zero => rfl
     | succ j => exact absurd h (key j)
   | succ i =>
     cases j with
     | zero => exact absurd h.symm (key i)
     | succ j => rw [H3 hn'.2 (fun i hi => hlt i (by simp [hi])) h]
theorem Gy {mem0 : List Blk} : ∀ (bs : List Blk) (k : Nat), Mc mem0 bs k = true → ∀ (i : Nat) b, bs[i]? = some b → b.vers = none ∨ b.vers = some 1 ∨ (b.vers = some 0 ∧ ∃ b0, mem0[k + i]? = some b0 ∧ b0.vers.isSome = true)
 | [], _, _, i, b, hb => by simp at hb
 | x :: bs, k, h, i, b, hb => by
   simp only [Mc, Bi] at h
   cases i with
   | zero =>
     simp only [List.getElem?_cons_zero, Option.some.injEq] at hb
     subst hb
     have h := h.1
     split at h
     ·rename_i hv; exact .inl hv
     ·rename_i hv
      split at h
      ·rename_i b0 hb0; exact .inr (.inr ⟨hv, b0, hb0, h⟩)
      ·cases h
     ·rename_i hv; exact .inr (.inl hv)
     ·cases h
   | succ i =>
     have := Gy bs (k + 1) h.2 i b (by simpa using hb)
     rw [show k + 1 + i = k + (i + 1) by omega] at this
     exact this
theorem Dx : ∀ {bs : List Blk}, FJ bs = true → ∀ (i : Nat) b, bs[i]? = some b → b.vers = none ∨ b.vers = some 0
 | [], _, i, b, hb => by simp at hb
 | x :: bs, h, i, b, hb => by
   simp only [FJ, Bi] at h
   cases i with
   | zero =>
     simp only [List.getElem?_cons_zero, Option.some.injEq] at hb
     subst hb
     have h := h.1
     split at h
     ·rename_i hv; exact .inl hv
     ·rename_i hv; exact .inr hv
     ·cases h
   | succ i => exact Dx h.2 i b (by simpa using hb)
def EF (E : Env) (mem : List Blk) (ρ : Nat → Nat) : Env :=
 { F := E.F, blk := fun i => E.blk (ρ i), cap := fun i => E.cap (ρ i), ver := fun _ => 0,
   N := fun b => E.N b ∨ ∃ s x, (∀ i, ρ i ≠ s) ∧ mem[s]? = some x ∧ x.has E s ∧ b = E.blk s }
open Classical in
noncomputable def large (E Es : Env) (mem1 : List Blk) (ρ : Nat → Nat) (ck : Nat) : Env :=
 { F := Es.F
   blk := fun s => if h : ∃ i, ρ i = s then Es.blk h.choose else E.blk s
   cap := fun s => if h : ∃ i, ρ i = s then Es.cap h.choose else E.cap s
   ver := fun s => if h : ∃ i, ρ i = s then (if (mem1[h.choose]?).bind Blk.vers = some 0 then E.ver s else ck + 1) else E.ver s
   N := E.N }
theorem T5 {E Es : Env} {mem1 : List Blk} {ρ : Nat → Nat} (inj : ∀ i j, ρ i = ρ j → i = j) (i : Nat) :
  (large E Es mem1 ρ ck).blk (ρ i) = Es.blk i ∧ (large E Es mem1 ρ ck).cap (ρ i) = Es.cap i ∧ (large E Es mem1 ρ ck).ver (ρ i) = if (mem1[i]?).bind Blk.vers = some 0 then E.ver (ρ i) else ck + 1 := by
 have hex : ∃ j, ρ j = ρ i := ⟨i, rfl⟩
 have hch : hex.choose = i := inj _ _ hex.choose_spec
 simp only [large]
 rw [dif_pos hex, dif_pos hex, dif_pos hex, hch]
 exact ⟨rfl, rfl, rfl⟩
theorem Cy {E Es : Env} {mem1 : List Blk} {ρ : Nat → Nat} {s : Nat} (h : ∀ i, ρ i ≠ s) :
  (large E Es mem1 ρ ck).blk s = E.blk s ∧ (large E Es mem1 ρ ck).cap s = E.cap s ∧ (large E Es mem1 ρ ck).ver s = E.ver s := by
 have hex : ¬ ∃ j, ρ j = s := fun ⟨j, hj⟩ => h j hj
 simp only [large]
 rw [dif_neg hex, dif_neg hex, dif_neg hex]
 exact ⟨rfl, rfl, rfl⟩
section
variable {P : Program} {F0 : Nat → Prop} {w0 : World}
mutual
theorem Xk : ∀ c : Cell, Cell.up id (fun _ k => k) c = c
 | .d _ => by simp [Cell.up]
 | .emp => by simp [Cell.up]
 | .fp _ _ => by simp [Cell.up]
 | .bp .. => by simp [Cell.up]
 | .ap .. => by simp [Cell.up]
 | .arr .. => by simp [Cell.up]
 | .clo f cs => by simp [Cell.up, Me cs]
 | .mp .. => by simp [Cell.up]
 | .it .. => by simp [Cell.up]
 | .ars .. => by simp [Cell.up]
theorem Me : ∀ cs : List Cell, Cell.ups id (fun _ k => k) cs = cs
 | [] => by simp [Cell.ups]
 | c :: cs => by simp [Cell.ups, Xk c, Me cs]
end
theorem T6 {L : List Blk} {s : SVal} (hs : s.sc L = true) : s.up id (fun _ k => k) = s := by
 unfold SVal.sc at hs
 split at hs <;> first | (simp only [SVal.up, Xk, Me]; done) | cases hs
theorem T7 (i : Nat) (b : Blk) : b.up id (fun _ k => k) i = b := by
 cases b <;> simp [Blk.up, Me]
theorem HCall.frame {f : FuncId} {args0 aS : List SVal} {mem0 mem1 mem : List Blk} {r1 : SVal} (idx : List Nat) (h : HCall P f args0 mem0 r1 mem1)
  (hn : idx.Nodup) (hlt : ∀ i ∈ idx, i < mem.length) (hl : idx.length = mem0.length)
  (hmem : ∀ (i : Nat) b0, mem0[i]? = some b0 → mem[Ax idx mem.length i]? = some (b0.up (Ax idx mem.length) (Dw mem (Ax idx mem.length) ck) i))
  (ha : AMs aS (args0.map (SVal.up (Ax idx mem.length) (Dw mem (Ax idx mem.length) ck)))) :
  MCall P F0 w0 f aS mem ck fun v m c => v = r1.up (Ax idx mem.length) (Dw mem (Ax idx mem.length) ck) ∧ m = H2 mem idx (Hx (Ax idx mem.length) (Dw mem (Ax idx mem.length) ck) mem1 0) ∧ c = ck + 1 := by
 obtain ⟨hck, hfn, hcall⟩ := h
 simp only [T4, Bi, LG, CN] at hck
 obtain ⟨c1, c2, c3, c4, c5, c6, c7⟩ := hck
 have inj : ∀ i j, Ax idx mem.length i = Ax idx mem.length j → i = j := fun i j q => H3 hn hlt q
 have hputs := JM idx mem
 generalize hρ : Ax idx mem.length = ρ at hmem ha inj hputs ⊢
 generalize hν : Dw mem ρ ck = ν at hmem ha ⊢
 have hν0 : ∀ r, ν r 0 = Dq mem (ρ r) := fun r => by rw [← hν]; rfl
 have hν1 : ∀ r, ν r 1 = ck + 1 := fun r => by rw [← hν]; rfl
 refine ⟨hfn, fun E w vs hw hvl hv => ?_⟩
 have live0 : ∀ r k, Dl mem0 r k = true → k = 0 ∧ E.ver (ρ r) = ν r k := by
  intro r k hs
  obtain ⟨b, hb, hk⟩ := DV hs
  have hk0 : k = 0 := by
    rcases Dx c2 r b hb with q | q
    · rw [q] at hk; cases hk
    · rw [q] at hk; cases hk; rfl
  refine ⟨hk0, ?_⟩
  exact (hw.mem.ok _ _ (hmem r b hb)).vers (by rw [B9, hk]; rfl)
 have down : Sees mem0 E (EF E mem ρ) ρ id ν (fun _ k => k) := ⟨fun _ q => q, fun r k hs => ⟨(live0 r k hs).2, (live0 r k hs).1.symm, rfl, rfl⟩⟩
 have hasS : ∀ {b : Blk} {i : Nat}, b.has (EF E mem ρ) i → b.has E (ρ i) := by
  intro b i q
  cases b <;> exact q
 have sc0 : ∀ (i : Nat) b k, mem0[i]? = some b → b.vers = some k → Dl mem0 i k = true := by
  intro i b k hb hk
  simp [Dl, hb, hk]
 have hsm : WOk F0 w0 (EF E mem ρ) w mem0 0 := by
  refine ⟨hw.below, hw.base, hw.F, ⟨fun _ => Nat.le_refl _, fun i b hb => ?_, fun i j b b' hb hb' h1 h2 hne => ?_⟩, fun k hk => ?_⟩
  · cases hk : b.vers with
    | none => cases b <;> first | trivial | exact absurd (c3 _ (Cl hb)) (by simp [Blk.sc]) | cases hk
    | some k =>
      have ho := hw.mem.ok _ _ (hmem i b hb)
      have := down.blk (w := w) (w' := w) (fun _ _ => rfl) (c3 b (Cl hb)) (sc0 i b k hb hk) hk ho (fun _ => rfl) (fun hh => by
       have hlt' := ho.lt (Bo.2 hh)
       rintro (q | q | ⟨s, x, q1, q2, q3, q4⟩)
       ·exact hlt'.2.2 (.inl q)
       ·exact hlt'.2.2 (.inr q)
       ·exact hw.mem.apart _ s _ x (hmem i b hb) q2 (Bo.2 hh) q3 (q1 i) q4)
      rw [T7] at this
      exact this
  · exact hw.mem.apart _ _ _ _ (hmem i b hb) (hmem j b' hb') (Bo.2 (hasS h1)) (Bo.2 (hasS h2)) (fun q => hne (inj i j q))
  · rcases hk with q | ⟨s, x, q1, q2, q3, rfl⟩
    · exact hw.N k q
    · have hlt' := (hw.mem.ok s x q2).lt q3
      exact ⟨hlt'.1, fun q => hlt'.2.2 (.inl q)⟩
 obtain ⟨g1, g2⟩ := AMs.get ha
 have hc := (hcall F0 w0).2 (EF E mem ρ) w vs hsm (by rw [hvl, g1]; simp) (fun i v x hvi hx => by
  have hlt' := lt_of_getElem? hvi
  have has : aS[i]? = some (aS[i]'(by omega)) := Bh _
  have h0 := (g2 i _ _ has (by rw [B2, hx]; rfl)).rep (hv i v _ hvi has)
  have h1 := down.val (w' := w) (fun _ _ => rfl) (c4 x (Cl hx)) h0
  rw [T6 (c4 x (Cl hx))] at h1
  exact h1)
 refine Calls.mono hc fun e w' hq => ?_
 obtain ⟨v, Es, r, m, c', he, hle, hwok, hrep, hr⟩ := hq
 have sc1 : ∀ (i : Nat) b k, mem1[i]? = some b → b.vers = some k → Dl mem1 i k = true := by
  intro i b k hb hk
  simp [Dl, hb, hk]
 have live1 : ∀ r k, Dl mem1 r k = true → Es.ver r = Dq m r ∧ (k = 0 → Es.ver r = 0 ∧ E.ver (ρ r) = ν r 0) ∧ (k = 0 ∨ k = 1) := by
  intro r k hs
  obtain ⟨b, hb, hk⟩ := DV hs
  have hm := hr.mem r (b.up id (CI m) r) (by rw [B8, hb]; simp) (B3 ⟨_, by rw [B9, hk]; rfl⟩)
  have hv := (hwok.mem.ok r _ hm).vers (k := CI m r k) (by rw [B9, hk]; rfl)
  have hkk := Gy mem1 0 c5 r b hb
  refine ⟨hv, fun hk0 => ?_, ?_⟩
  · subst hk0
    refine ⟨?_, ?_⟩
    · rw [hv]; exact hr.kept r (by rw [hb]; exact hk)
    · rcases hkk with q | q | ⟨_, b0, q1, q2⟩
      ·rw [q] at hk; cases hk
      ·rw [q] at hk; cases hk
      ·obtain ⟨k0, hk0⟩ := b7.1 q2
       rw [Nat.zero_add] at q1
       have := live0 r k0 (sc0 r b0 k0 q1 hk0)
       rw [this.2, this.1]
  · rcases hkk with q | q | ⟨q, _⟩
    · rw [q] at hk; cases hk
    · rw [q] at hk; cases hk; exact .inr rfl
    · rw [q] at hk; cases hk; exact .inl rfl
 have OM := fun i => T5 (E := E) (Es := Es) (mem1 := mem1) (ρ := ρ) (ck := ck) inj i
 have kept1 : ∀ i, (mem1[i]?).bind Blk.vers = some 0 → Es.blk i = E.blk (ρ i) ∧ Es.cap i = E.cap (ρ i) := by
  intro i hi
  cases hb : mem1[i]? with
  | none => rw [hb] at hi; cases hi
  | some b =>
    rw [hb] at hi
    have hs := sc1 i b 0 hb hi
    have := hle.same i (by rw [((live1 i 0 hs).2.1 rfl).1]; rfl)
    exact this
 have up : Sees mem1 Es (large E Es mem1 ρ ck) id ρ (CI m) ν := by
  refine ⟨fun _ q => q, fun r k hs => ⟨(live1 r k hs).1, ?_, (OM r).1, (OM r).2.1⟩⟩
  obtain ⟨b, hb, hk⟩ := DV hs
  rw [(OM r).2.2, hb, Option.bind_some]
  rcases (live1 r k hs).2.2 with rfl | rfl
  · rw [if_pos hk]; exact ((live1 r 0 hs).2.1 rfl).2
  · rw [if_neg (by simp [hk]), hν1]
 have hleB : EnvLe E w (large E Es mem1 ρ ck) w' := by
  refine ⟨fun k hk => hle.F k hk, fun k hk => hle.mem k hk, fun s => ?_, fun s hs => ?_, fun k hk => ⟨hk, (hle.held k (.inl hk)).2⟩⟩
  · by_cases hex : ∃ i, ρ i = s
    · obtain ⟨i, rfl⟩ := hex
      rw [(OM i).2.2]
      have := hw.mem.clock (ρ i)
      split <;> omega
    · rw [(Cy (fun i q => hex ⟨i, q⟩)).2.2]; exact Nat.le_refl _
  · by_cases hex : ∃ i, ρ i = s
    · obtain ⟨i, rfl⟩ := hex
      rw [(OM i).2.2] at hs
      have := hw.mem.clock (ρ i)
      split at hs
      ·rename_i hz
       rw [(OM i).1, (OM i).2.1]
       exact kept1 i hz
      ·omega
    · have := Cy (E := E) (Es := Es) (mem1 := mem1) (ρ := ρ) (ck := ck) (s := s) (fun i q => hex ⟨i, q⟩)
      exact ⟨this.1, this.2.1⟩
 refine ⟨v, large E Es mem1 ρ ck, _, _, _, he, hleB, ?_, up.val (fun _ _ => rfl) c7 (hr.res.rep hrep), rfl, rfl, rfl⟩
 have hul : (Hx ρ ν mem1 0).length = mem1.length := Md _ _ _ _
 have hget : ∀ s x, (H2 mem idx (Hx ρ ν mem1 0))[s]? = some x → (∃ i b1, mem1[i]? = some b1 ∧ x = b1.up ρ ν i ∧ ρ i = s) ∨ ((∀ i, ρ i ≠ s) ∧ mem[s]? = some x) := by
  intro s x hx
  rcases hputs _ (by rw [hul, hl]; exact c1) hn hlt s x hx with ⟨i, h1, h2⟩ | h1
  · rw [B8] at h1
    cases hb : mem1[i]? with
    | none => rw [hb] at h1; cases h1
    | some b1 =>
      rw [hb] at h1
      simp only [Option.map_some, Option.some.injEq, Nat.zero_add] at h1
      exact .inl ⟨i, b1, hb, h1.symm, h2⟩
  · exact .inr h1
 have hasL : ∀ {b : Blk} {i : Nat}, b.has (large E Es mem1 ρ ck) (ρ i) → b.has Es i := by
  intro b i q
  have e := (OM i).2.1
  cases b <;> first | exact q | (simp only [Blk.has] at q ⊢; rw [← e]; exact q)
 have hasN : ∀ {b : Blk} {s : Nat}, (∀ i, ρ i ≠ s) → b.has (large E Es mem1 ρ ck) s → b.has E s := by
  intro b s hs q
  exact Blk.has_of (Cy hs).2.1 q
 have mine : ∀ (i : Nat) b1, mem1[i]? = some b1 → b1.has Es i → BlkOk w0.heap.size Es w' i (b1.up id (CI m) i) := by
  intro i b1 hb hh
  obtain ⟨k, hk⟩ := Dd hh
  exact hwok.mem.ok i _ (hr.mem i (b1.up id (CI m) i) (by rw [B8, hb]; simp) (B3 ⟨_, by rw [B9, hk]; rfl⟩))
 have heldS : ∀ s x, (∀ i, ρ i ≠ s) → mem[s]? = some x → x.has E s → Es.N (E.blk s) ∧ w'.heap[E.blk s]? = w.heap[E.blk s]? := fun s x q1 q2 q3 => hle.held _ (.inr ⟨s, x, q1, q2, q3, rfl⟩)
 refine ⟨hwok.below, hwok.base, hwok.F, ⟨fun s => ?_, fun s x hx => ?_, fun s s' x x' hx hx' h1 h2 hne => ?_⟩, fun k hk => hwok.N k (hle.held k (.inl hk)).1⟩
 ·by_cases hex : ∃ i, ρ i = s
  · obtain ⟨i, rfl⟩ := hex
    rw [(OM i).2.2]
    have := hw.mem.clock (ρ i)
    split <;> omega
  · rw [(Cy (fun i q => hex ⟨i, q⟩)).2.2]; have := hw.mem.clock s; omega
 ·rcases hget s x hx with ⟨i, b1, hb, rfl, rfl⟩ | ⟨hs, hx0⟩
  · cases hk : b1.vers with
    | none => cases b1 <;> first | trivial | exact absurd (c6 _ (Cl hb)) (by simp [Blk.sc]) | cases hk
    | some k =>
      have hm := hr.mem i (b1.up id (CI m) i) (by rw [B8, hb]; simp) (B3 ⟨_, by rw [B9, hk]; rfl⟩)
      have ho := hwok.mem.ok i _ hm
      exact up.blk (w := w') (w' := w') (fun _ _ => rfl) (c6 b1 (Cl hb)) (sc1 i b1 k hb hk) hk ho (fun _ => rfl) (fun hh => by
       have hlt' := ho.lt (Bo.2 hh)
       rintro (q | q)
       ·exact hlt'.2.2 (.inl q)
       ·exact hlt'.2.2 (.inr (hle.held _ (.inl q)).1))
  · have ho := hw.mem.ok s x hx0
    refine ho.le hleB (fun _ => (Cy hs).2.2) (fun hh => (heldS s x hs hx0 hh).2) (fun hh => ?_)
    rintro (q | q)
    · exact (hwok.N _ (heldS s x hs hx0 hh).1).2 q
    · exact (ho.lt hh).2.2 (.inr q)
 ·rcases hget s x hx with ⟨i, b1, hb, rfl, rfl⟩ | ⟨hs, hx0⟩
  · have hi := hasL (Bo.1 h1)
    rw [(OM i).1]
    rcases hget s' x' hx' with ⟨j, b2, hb', rfl, rfl⟩ | ⟨hs', hx0'⟩
    · have hj := hasL (Bo.1 h2)
      rw [(OM j).1]
      obtain ⟨k1, hk1⟩ := Dd hi
      obtain ⟨k2, hk2⟩ := Dd hj
      have m1 := hr.mem i (b1.up id (CI m) i) (by rw [B8, hb]; simp) (B3 ⟨_, by rw [B9, hk1]; rfl⟩)
      have m2 := hr.mem j (b2.up id (CI m) j) (by rw [B8, hb']; simp) (B3 ⟨_, by rw [B9, hk2]; rfl⟩)
      exact hwok.mem.apart i j _ _ m1 m2 (Bo.2 hi) (Bo.2 hj) (fun q => hne (by rw [q]))
    · have hj := hasN hs' h2
      rw [(Cy hs').1]
      intro q
      have := ((mine i b1 hb hi).lt (Bo.2 hi)).2.2
      exact this (.inr (by rw [q]; exact (heldS s' x' hs' hx0' hj).1))
  · have hi := hasN hs h1
    rw [(Cy hs).1]
    rcases hget s' x' hx' with ⟨j, b2, hb', rfl, rfl⟩ | ⟨hs', hx0'⟩
    · have hj := hasL (Bo.1 h2)
      rw [(OM j).1]
      intro q
      have := ((mine j b2 hb' hj).lt (Bo.2 hj)).2.2
      exact this (.inr (by rw [← q]; exact (heldS s x hs hx0 hi).1))
    · have hj := hasN hs' h2
      rw [(Cy hs').1]
      exact hw.mem.apart s s' x x' hx0 hx0' hi hj hne
end
end Go.Abs
end
