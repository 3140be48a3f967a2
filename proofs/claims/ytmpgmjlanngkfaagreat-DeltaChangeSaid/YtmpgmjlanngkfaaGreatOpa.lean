/-
  More operations: shifts, bits, texts and bytes, nil, maps.
-/
import Derived.Test.YtmpgmjlanngkfaaGreatEngG
import Derived.Laws.BytesString
import Derived.MapKept
import Derived.Maps.RangeRun
section
namespace Go.Abs
open Go.RowKit
variable {a z : Int} {i k r : Nat} {o : Oper} {t t' : TypeId} {v : Value} {x y : Operand}
def Ch (mem : List Blk) (r : Nat) : Nat :=
 match mem[r]? with
 | some b => (match b.vers with | some k => k | none => 0)
 | none => 0
mutual
def Cell.up (ρ : Nat → Nat) (ν : Nat → Nat → Nat) : Cell → Cell
 | .d x => .d x
 | .emp => .emp
 | .fp e o => .fp e o
 | .bp r k o => .bp (ρ r) (ν r k) o
 | .ap r k i6 i o => .ap (ρ r) (ν r k) i6 i o
 | .arr r k n => .arr (ρ r) (ν r k) n
 | .clo f cs => .clo f (Cell.ups ρ ν cs)
 | .mp r k => .mp (ρ r) (ν r k)
 | .it r k => .it (ρ r) (ν r k)
 | .ars r k i6 i n => .ars (ρ r) (ν r k) i6 i n
def Cell.ups (ρ : Nat → Nat) (ν : Nat → Nat → Nat) : List Cell → List Cell
 | [] => []
 | c :: cs => Cell.up ρ ν c :: Cell.ups ρ ν cs
end
mutual
def Cell.sc (L : List Blk) : Cell → Bool
 | .d _ => true
 | .emp => true
 | .fp _ _ => true
 | .bp r k _ => Eb L r k
 | .ap r k _ _ _ => Eb L r k
 | .arr r k _ => Eb L r k
 | .clo _ cs => Cell.scs L cs
 | .mp r k => Eb L r k
 | .it r k => Eb L r k
 | .ars r k _ _ _ => Eb L r k
def Cell.scs (L : List Blk) : List Cell → Bool
 | [] => true
 | c :: cs => Cell.sc L c && Cell.scs L cs
def Eb (L : List Blk) (r k : Nat) : Bool :=
 match L[r]? with
 | some b => (match b.vers with | some k' => Nat.beq k' k | none => false)
 | none => false
end
def SVal.up (ρ : Nat → Nat) (ν : Nat → Nat → Nat) : SVal → SVal
 | .c x => .c (Cell.up ρ ν x)
 | .agg xs => .agg (Cell.ups ρ ν xs)
 | .tup [] => .tup []
 | .tup [.c x] => .tup [.c (Cell.up ρ ν x)]
 | .tup [.c x, .c y] => .tup [.c (Cell.up ρ ν x), .c (Cell.up ρ ν y)]
 | .tup [.c x, .agg ys] => .tup [.c (Cell.up ρ ν x), .agg (Cell.ups ρ ν ys)]
 | .tup [.agg xs, .c y] => .tup [.agg (Cell.ups ρ ν xs), .c (Cell.up ρ ν y)]
 | .tup [.c x, .c y, .c z] => .tup [.c (Cell.up ρ ν x), .c (Cell.up ρ ν y), .c (Cell.up ρ ν z)]
 | _ => .junk
def SVal.sc (L : List Blk) : SVal → Bool
 | .c x => Cell.sc L x
 | .agg xs => Cell.scs L xs
 | .tup [] => true
 | .tup [.c x] => Cell.sc L x
 | .tup [.c x, .c y] => Cell.sc L x && Cell.sc L y
 | .tup [.c x, .agg ys] => Cell.sc L x && Cell.scs L ys
 | .tup [.agg xs, .c y] => Cell.scs L xs && Cell.sc L y
 | .tup [.c x, .c y, .c z] => Cell.sc L x && (Cell.sc L y && Cell.sc L z)
 | _ => false
def Blk.up (ρ : Nat → Nat) (ν : Nat → Nat → Nat) (i : Nat) : Blk → Blk
 | .box k cs => .box (ν i k) (Cell.ups ρ ν cs)
 | .arr k t z es => .arr (ν i k) t z es
 | .arrc k t z es b c => .arrc (ν i k) t z es b c
 | .map k kt vt es bs c => .map (ν i k) kt vt es bs c
 | .iter k r k' since sb => .iter (ν i k) (ρ r) (ν r k') since sb
 | .mapc k kt vt es => .mapc (ν i k) kt vt es
 | .mapb k kt vt es => .mapb (ν i k) kt vt es
 | .arrx k t z es => .arrx (ν i k) t z es
 | .hole k => .hole k
 | .dead => .dead
def Gj (ρ : Nat → Nat) (ν : Nat → Nat → Nat) : List Blk → Nat → List Blk
 | [], _ => []
 | b :: bs, i => b.up ρ ν i :: Gj ρ ν bs (i + 1)
def Blk.sc (L : List Blk) : Blk → Bool
 | .box _ cs => Cell.scs L cs
 | .iter _ r k' _ _ => Eb L r k'
 | .mapc .. => false
 | .arrx .. => false
 | .hole _ => false
 | _ => true
def N7 (j5 : List Blk) : List Blk → Nat → Bool
 | [], _ => true
 | b :: bs, i => (match b.vers with
   | none => true
   | some 0 => (match j5[i]? with | some b0 => b0.vers.isSome | none => false)
   | some 1 => true
   | _ => false) && N7 j5 bs (i + 1)
def GY : List Blk → Bool
 | [] => true
 | b :: bs => (match b.vers with | none => true | some 0 => true | _ => false) && GY bs
def RE (ja : List SVal) (j5 : List Blk) (r1 : SVal) (iW : List Blk) : Bool :=
 Nat.ble j5.length iW.length && (GY j5 && (j5.all (Blk.sc j5) && (ja.all (SVal.sc j5) && (N7 j5 iW 0 && (iW.all (Blk.sc iW) && r1.sc iW)))))
def CLe (c c' : Cell) : Prop := c = c' ∨ ∃ x, c' = .d x ∧ c.dat = some x
def CLes : List Cell → List Cell → Prop
 | [], [] => True
 | c :: cs, c' :: jq => CLe c c' ∧ CLes cs jq
 | _, _ => False
def AM : SVal → SVal → Prop
 | .c c, .c c' => CLe c c'
 | .agg cs, .agg jq => CLes cs jq
 | x, y => x = y
def AMs : List SVal → List SVal → Prop
 | [], [] => True
 | x :: xs, y :: ys => AM x y ∧ AMs xs ys
 | _, _ => False
def CK (m : List Blk) (r _k : Nat) : Nat := Ch m r
structure HR (m iW : List Blk) (r r1 : SVal) : Prop where
 mem : As m (Gj id (CK m) iW 0)
 res : AM r (r1.up id (CK m))
 kept : ∀ i, (iW[i]?).bind Blk.vers = some 0 → Ch m i = 0
def HCall (P : Program) (f : FuncId) (ja : List SVal) (j5 : List Blk) (r1 : SVal) (iW : List Blk) : Prop :=
 RE ja j5 r1 iW = true ∧ FnOk P f ∧ ∀ F0 w0, MCall P F0 w0 f ja j5 0 fun r m _ => HR m iW r r1
def AA : List Nat → Nat → Nat → Nat
 | [], n, i => n + i
 | r :: _, _, 0 => r
 | _ :: is, n, i + 1 => AA is n i
def H9 : List Blk → List Nat → List Blk → List Blk
 | mem, i :: is, b :: bs => H9 (mem.set i b) is bs
 | mem, _, bs => mem ++ bs
def Dr (mem : List Blk) (ρ : Nat → Nat) (ck r k : Nat) : Nat :=
 match k with
 | 0 => Ch mem (ρ r)
 | _ + 1 => ck + 1
section
variable {w w' : World} {E E' : Env}
theorem CLe.rep {c c' : Cell} (h : CLe c c') (hv : CRep E w v c) : CRep E w v c' := by
 rcases h with rfl | ⟨x, rfl, h⟩
 ·exact hv
 ·exact .d (hv.dat h)
theorem CLes.get : ∀ {cs jq : List Cell}, CLes cs jq → cs.length = jq.length ∧ ∀ (i : Nat) c c', cs[i]? = some c → jq[i]? = some c' → CLe c c'
 | [], [], _ => ⟨rfl, by simp⟩
 | c :: cs, c' :: jq, h => by
   obtain ⟨h1, h2⟩ := CLes.get h.2
   refine ⟨by simp [h1], fun i a b ha hb => ?_⟩
   cases i with
   | zero => simp at ha hb; subst ha; subst hb; exact h.1
   | succ i => exact h2 i a b (by simpa using ha) (by simpa using hb)
 | [], _ :: _, h => h.elim
 | _ :: _, [], h => h.elim
theorem AM.rep {x y : SVal} (h : AM x y) (hv : SRep E w v x) : SRep E w v y := by
 unfold AM at h
 split at h
 ·cases hv with | c hv => exact .c (h.rep hv)
 ·cases hv with | agg _ vs hl hd =>
  obtain ⟨g1, g2⟩ := CLes.get h
  refine .agg _ vs (by omega) (fun i u c hu hc => ?_)
  have i7 := lt_of_getElem? hu
  rename_i cs jq
  have hs : cs[i]? = some (cs[i]'(by omega)) := Bo _
  exact (g2 i _ c hs hc).rep (hd i u _ hu hs)
 ·subst h; exact hv
theorem AMs.get : ∀ {cs jq : List SVal}, AMs cs jq → cs.length = jq.length ∧ ∀ (i : Nat) c c', cs[i]? = some c → jq[i]? = some c' → AM c c'
 | [], [], _ => ⟨rfl, by simp⟩
 | c :: cs, c' :: jq, h => by
   obtain ⟨h1, h2⟩ := AMs.get h.2
   refine ⟨by simp [h1], fun i a b ha hb => ?_⟩
   cases i with
   | zero => simp at ha hb; subst ha; subst hb; exact h.1
   | succ i => exact h2 i a b (by simpa using ha) (by simpa using hb)
 | [], _ :: _, h => h.elim
 | _ :: _, [], h => h.elim
theorem E5 (ρ : Nat → Nat) (ν : Nat → Nat → Nat) : ∀ cs : List Cell, Cell.ups ρ ν cs = cs.map (Cell.up ρ ν)
 | [] => by simp [Cell.ups]
 | c :: cs => by simp [Cell.ups, E5 ρ ν cs]
theorem CC (ρ : Nat → Nat) (ν : Nat → Nat → Nat) : ∀ (bs : List Blk) (k i : Nat), (Gj ρ ν bs k)[i]? = (bs[i]?).map (Blk.up ρ ν (k + i))
 | [], k, i => by simp [Gj]
 | b :: bs, k, 0 => by simp [Gj]
 | b :: bs, k, i + 1 => by simp only [Gj, List.getElem?_cons_succ, CC ρ ν bs (k + 1) i]; rw [show k + 1 + i = k + (i + 1) by omega]
theorem N8 (ρ : Nat → Nat) (ν : Nat → Nat → Nat) : ∀ (bs : List Blk) (k : Nat), (Gj ρ ν bs k).length = bs.length
 | [], _ => rfl
 | _ :: bs, k => by simp [Gj, N8 ρ ν bs (k + 1)]
theorem ES {L : List Blk} (h : Eb L r k = true) : ∃ b, L[r]? = some b ∧ b.vers = some k := by
 unfold Eb at h
 split at h
 ·rename_i b hb
  split at h
  ·rename_i k' hk
   exact ⟨b, hb, by rw [hk, dP h]⟩
  ·cases h
 ·cases h
theorem CD {ρ : Nat → Nat} {ν : Nat → Nat → Nat} {b : Blk} : (b.up ρ ν i).vers = (b.vers).map (ν i) := by
 cases b <;> rfl
theorem Cw {b : Blk} (h : ∃ k, b.vers = some k) : b.live := by
 cases b <;> simp [Blk.live, Blk.vers] at h ⊢
theorem DZ {E : Env} {b : Blk} (h : b.has E r) : ∃ k, b.vers = some k := by
 cases b <;> first | exact ⟨_, rfl⟩ | exact h.elim
structure Sees (L : List Blk) (E : Env) (E' : Env) (ρ ρ' : Nat → Nat) (ν ν' : Nat → Nat → Nat) : Prop where
 F : ∀ b, E.F b → E'.F b
 at_ : ∀ r k, Eb L r k = true → E.ver (ρ r) = ν r k ∧ E'.ver (ρ' r) = ν' r k ∧ E'.blk (ρ' r) = E.blk (ρ r) ∧ E'.cap (ρ' r) = E.cap (ρ r)
mutual
theorem Sees.cell {L : List Blk} {ρ ρ' : Nat → Nat} {ν ν' : Nat → Nat → Nat} (h : Sees L E E' ρ ρ' ν ν') (hw : ∀ b, E.F b → w'.heap[b]? = w.heap[b]?) {v : Value} : ∀ {c : Cell}, Cell.sc L c = true → CRep E w v (Cell.up ρ ν c) → CRep E' w' v (Cell.up ρ' ν' c)
 | .d x, _, hv => by simp only [Cell.up] at hv ⊢; cases hv with | d hv => exact .d (hv.mono h.F hw)
 | .emp, _, hv => by simp only [Cell.up] at hv ⊢; cases hv; exact .emp _
 | .fp e o, _, hv => by
   simp only [Cell.up] at hv ⊢
   cases hv with | fp _ _ b off u hF hc hd => exact .fp e o b off u (h.F _ hF) (fun j hj => by rw [World.cell?_of_block (w := w) (hw b hF)]; exact hc j hj) (fun j x hx => (hd j x hx).mono h.F hw)
 | .bp r k o, hs, hv => by
   obtain ⟨a1, a2, a3, a4⟩ := h.at_ r k hs
   simp only [Cell.up] at hv ⊢
   cases hv with | bp _ _ _ _ h1 hk hh => exact .bp _ _ _ _ h1 (by omega) (fun _ => by rw [a3]; exact hh a1)
 | .ap r k i6 i o, hs, hv => by
   obtain ⟨a1, a2, a3, a4⟩ := h.at_ r k hs
   simp only [Cell.up] at hv ⊢
   cases hv with | ap _ _ _ _ _ _ h1 hk hh => exact .ap _ _ _ _ _ _ h1 (by omega) (fun _ => by rw [a3]; exact hh a1)
 | .arr r k n, hs, hv => by
   obtain ⟨a1, a2, a3, a4⟩ := h.at_ r k hs
   simp only [Cell.up] at hv ⊢
   cases hv with | arr _ _ _ _ h1 hk hh => exact .arr _ _ _ _ h1 (by omega) (fun _ => by rw [a3, a4]; exact hh a1)
 | .clo f cs, hs, hv => by
   simp only [Cell.up] at hv ⊢
   simp only [Cell.sc] at hs
   cases hv with | clo _ _ vs hl hd =>
   rw [E5] at hl hd
   rw [E5]
   refine .clo f _ vs (by simpa using hl) (fun i u x hu hx => ?_)
   rw [← E5] at hx hd
   exact Sees.cells h hw hs i u x (fun y hy => hd i u y hu hy) hx
 | .mp r k, hs, hv => by
   obtain ⟨a1, a2, a3, a4⟩ := h.at_ r k hs
   simp only [Cell.up] at hv ⊢
   cases hv with | mp _ _ _ h1 hk hh => exact .mp _ _ _ h1 (by omega) (fun _ => by rw [a3]; exact hh a1)
 | .it r k, hs, hv => by
   obtain ⟨a1, a2, a3, a4⟩ := h.at_ r k hs
   simp only [Cell.up] at hv ⊢
   cases hv with | it _ _ _ h1 hk hh => exact .it _ _ _ h1 (by omega) (fun _ => by rw [a3]; exact hh a1)
 | .ars r k i6 i n, hs, hv => by
   obtain ⟨a1, a2, a3, a4⟩ := h.at_ r k hs
   simp only [Cell.up] at hv ⊢
   cases hv with | ars _ _ _ _ _ _ h1 hk hh => exact .ars _ _ _ _ _ _ h1 (by omega) (fun _ => by rw [a3, a4]; exact hh a1)
theorem Sees.cells {L : List Blk} {ρ ρ' : Nat → Nat} {ν ν' : Nat → Nat → Nat} (h : Sees L E E' ρ ρ' ν ν') (hw : ∀ b, E.F b → w'.heap[b]? = w.heap[b]?) : ∀ {cs : List Cell}, Cell.scs L cs = true → ∀ (i : Nat) (v : Value) (x : Cell), (∀ y, (Cell.ups ρ ν cs)[i]? = some y → CRep E w v y) → (Cell.ups ρ' ν' cs)[i]? = some x → CRep E' w' v x
 | [], _, i, v, x, _, hx => by simp [Cell.ups] at hx
 | c :: cs, hs, i, v, x, hy, hx => by
   simp only [Cell.scs, BM] at hs
   simp only [Cell.ups] at hy hx
   cases i with
   | zero =>
     simp only [List.getElem?_cons_zero, Option.some.injEq] at hx
     subst hx
     exact Sees.cell h hw hs.1 (hy _ (by simp))
   | succ i => exact Sees.cells h hw hs.2 i v x (fun y hq => hy y (by simpa using hq)) (by simpa using hx)
end
end
section
variable {w w' : World} {E E' : Env} {L : List Blk} {ρ ρ' : Nat → Nat} {ν ν' : Nat → Nat → Nat}
theorem Sees.agg (h : Sees L E E' ρ ρ' ν ν') (hw : ∀ b, E.F b → w'.heap[b]? = w.heap[b]?) {cs : List Cell} (hs : Cell.scs L cs = true) (hv : SRep E w v (.agg (Cell.ups ρ ν cs))) : SRep E' w' v (.agg (Cell.ups ρ' ν' cs)) := by
 cases hv with | agg _ vs hl hd =>
 rw [E5] at hl
 refine .agg _ vs (by rw [E5]; simpa using hl) (fun i u x hu hx => h.cells hw hs i u x (fun y hy => hd i u y hu hy) hx)
theorem Sees.c (h : Sees L E E' ρ ρ' ν ν') (hw : ∀ b, E.F b → w'.heap[b]? = w.heap[b]?) {c : Cell} (hs : Cell.sc L c = true) (hv : SRep E w v (.c (Cell.up ρ ν c))) : SRep E' w' v (.c (Cell.up ρ' ν' c)) := by
 cases hv with | c hv => exact .c (h.cell hw hs hv)
theorem gI {x y : SVal} (hx : ∀ u, SRep E w u x → SRep E' w' u y) (h : SRep E w v (.tup [x])) : SRep E' w' v (.tup [y]) := by
 cases h with | tup _ vs hl hd =>
 refine .tup _ vs (by simpa using hl) (fun i u z hu hz => ?_)
 match i with
 | 0 => simp at hz; subst hz; exact hx u (hd 0 u x hu rfl)
 | i + 1 => simp at hz
theorem bY {x y x' y' : SVal} (hx : ∀ u, SRep E w u x → SRep E' w' u x') (hy : ∀ u, SRep E w u y → SRep E' w' u y') (h : SRep E w v (.tup [x, y])) : SRep E' w' v (.tup [x', y']) := by
 cases h with | tup _ vs hl hd =>
 refine .tup _ vs (by simpa using hl) (fun i u z hu hz => ?_)
 match i with
 | 0 => simp at hz; subst hz; exact hx u (hd 0 u x hu rfl)
 | 1 => simp at hz; subst hz; exact hy u (hd 1 u y hu rfl)
 | i + 2 => simp at hz
theorem gJ {x y z x' y' z' : SVal} (hx : ∀ u, SRep E w u x → SRep E' w' u x') (hy : ∀ u, SRep E w u y → SRep E' w' u y') (pc : ∀ u, SRep E w u z → SRep E' w' u z') (h : SRep E w v (.tup [x, y, z])) : SRep E' w' v (.tup [x', y', z']) := by
 cases h with | tup _ vs hl hd =>
 refine .tup _ vs (by simpa using hl) (fun i u q hu hq => ?_)
 match i with
 | 0 => simp at hq; subst hq; exact hx u (hd 0 u x hu rfl)
 | 1 => simp at hq; subst hq; exact hy u (hd 1 u y hu rfl)
 | 2 => simp at hq; subst hq; exact pc u (hd 2 u z hu rfl)
 | i + 3 => simp at hq
theorem Sees.val (h : Sees L E E' ρ ρ' ν ν') (hw : ∀ b, E.F b → w'.heap[b]? = w.heap[b]?) {s : SVal} (hs : s.sc L = true) (hv : SRep E w v (s.up ρ ν)) : SRep E' w' v (s.up ρ' ν') := by
 unfold SVal.sc at hs
 split at hs
 ·exact h.c hw hs hv
 ·exact h.agg hw hs hv
 ·simp only [SVal.up] at hv ⊢
  cases hv with | tup _ vs hl hd => exact .tup _ vs hl (fun i u x _ hx => by simp at hx)
 ·simp only [SVal.up] at hv ⊢
  exact gI (fun u => h.c hw hs) hv
 ·simp only [BM] at hs
  simp only [SVal.up] at hv ⊢
  exact bY (fun u => h.c hw hs.1) (fun u => h.c hw hs.2) hv
 ·simp only [BM] at hs
  simp only [SVal.up] at hv ⊢
  exact bY (fun u => h.c hw hs.1) (fun u => h.agg hw hs.2) hv
 ·simp only [BM] at hs
  simp only [SVal.up] at hv ⊢
  exact bY (fun u => h.agg hw hs.1) (fun u => h.c hw hs.2) hv
 ·simp only [BM] at hs
  simp only [SVal.up] at hv ⊢
  exact gJ (fun u => h.c hw hs.1) (fun u => h.c hw hs.2.1) (fun u => h.c hw hs.2.2) hv
 ·cases hs
theorem Sees.blk {n0 : Nat} (h : Sees L E E' ρ ρ' ν ν') (hw : ∀ b, E.F b → w'.heap[b]? = w.heap[b]?) {b : Blk} (tR : b.sc L = true) (lI : Eb L i k = true) (hk : b.vers = some k) (hb : BlkOk n0 E w (ρ i) (b.up ρ ν i))
   (hh : b.has E (ρ i) → w'.heap[E.blk (ρ i)]? = w.heap[E.blk (ρ i)]?) (hF : b.has E (ρ i) → ¬ (E'.F (E.blk (ρ i)) ∨ E'.N (E.blk (ρ i)))) : BlkOk n0 E' w' (ρ' i) (b.up ρ' ν' i) := by
 obtain ⟨a1, a2, a3, a4⟩ := h.at_ i k lI
 have tS : ∀ {t : TypeId} {z : Nat} {es : List (List Dat)}, (E.cap (ρ i) ≠ 0 → w'.heap[E.blk (ρ i)]? = w.heap[E.blk (ρ i)]?) → (E.cap (ρ i) ≠ 0 → ¬ (E'.F (E.blk (ρ i)) ∨ E'.N (E.blk (ρ i)))) → ArrOk n0 E w (ρ i) (ν i k) t z es → ArrOk n0 E' w' (ρ' i) (ν' i k) t z es := by
   intro t z es hh hF q
   obtain ⟨h1, h2, h3, h4, h5, h6⟩ := q
   refine ⟨a2, h2, h3, by rw [a4]; exact h4, by rw [a4]; exact h5, ?_⟩
   by_cases hz : E.cap (ρ i) = 0
   · exact .inl (by rw [a4]; exact hz)
   · rcases h6 with h6 | ⟨b1, b2, c, b3, b4, b0, b5⟩
     ·exact absurd h6 hz
     ·exact .inr ⟨by rw [a3]; exact b1, by rw [a3]; exact hF hz, c, by rw [a3, hh hz]; exact b3, by rw [a4]; exact b4, b0, fun i j e v x q1 q2 q3 => (b5 i j e v x q1 q2 q3).mono h.F hw⟩
 cases b with
 | dead => cases hk
 | box k' cs =>
   cases hk
   obtain ⟨h1, h2, h3, c, iX, h4, h5, h6⟩ := hb
   simp only [Blk.up] at *
   rw [E5] at h5
   refine ⟨a2, by rw [a3]; exact h2, by rw [a3]; exact hF trivial, c, iX, by rw [a3, hh trivial]; exact h4, by rw [E5]; simpa using h5, fun j v x hv hx => h.cells hw tR j v x (fun y hy => h6 j v y hv hy) hx⟩
 | arr k' t z es => cases hk; exact tS hh hF hb
 | arrc k' t z es b c => cases hk; exact ⟨tS hh hF hb.1, by rw [a4]; exact hb.2.1, by rw [a3]; exact hb.2.2⟩
 | map k' kt vt es bs c =>
   cases hk
   obtain ⟨h1, h2, h3, A, h4, q1, q2, q3, q0, q4, q5⟩ := hb
   refine ⟨a2, by rw [a3]; exact h2, by rw [a3]; exact hF trivial, A, by rw [a3, hh trivial]; exact h4, q1, q2, q3, q0, q4, fun j m hm => ?_⟩
   obtain ⟨p1, p, p2, p3⟩ := q5 j m hm
   refine ⟨p1, p, p2, ?_⟩
   cases p with
   | one x => exact DRep.mono h.F hw p3
   | agg xs =>
     obtain ⟨vs, o1, o2, o3⟩ := p3
     exact ⟨vs, o1, o2, fun i u x hu hx => (o3 i u x hu hx).mono h.F hw⟩
 | iter k' r zN since sb =>
   cases hk
   obtain ⟨h1, h2, h3, b, h4, h5, h6⟩ := hb
   obtain ⟨c1, c2, c3, c4⟩ := h.at_ r zN tR
   exact ⟨a2, by rw [a3]; exact h2, by rw [a3]; exact hF trivial, b, by rw [a3, hh trivial]; exact h4, Nat.le_of_eq c2.symm, fun _ => by rw [c3]; exact h6 c1⟩
 | mapc k' kt vt es => cases tR
 | mapb k' kt vt es =>
   cases hk
   obtain ⟨h1, h2, h3, A, bs, c, h4, q1, q2, q3, q0, q4, q5⟩ := hb
   refine ⟨a2, by rw [a3]; exact h2, by rw [a3]; exact hF trivial, A, bs, c, by rw [a3, hh trivial]; exact h4, q1, q2, q3, q0, q4, fun j m hm => ?_⟩
   obtain ⟨p1, p, p2, p3⟩ := q5 j m hm
   refine ⟨p1, p, p2, ?_⟩
   cases p with
   | one x => exact DRep.mono h.F hw p3
   | agg xs =>
     obtain ⟨vs, o1, o2, o3⟩ := p3
     exact ⟨vs, o1, o2, fun i u x hu hx => (o3 i u x hu hx).mono h.F hw⟩
 | arrx k' t z es => cases tR
 | hole k' => cases tR
end
theorem BP {E : Env} {ρ : Nat → Nat} {ν : Nat → Nat → Nat} {b : Blk} : (b.up ρ ν i).has E r ↔ b.has E r := by
 cases b <;> exact Iff.rfl
theorem La : ∀ (idx : List Nat) (mem bs : List Blk), idx.length ≤ bs.length → idx.Nodup → (∀ i ∈ idx, i < mem.length) → ∀ s x, (H9 mem idx bs)[s]? = some x →
   (∃ i, bs[i]? = some x ∧ AA idx mem.length i = s) ∨ ((∀ i, AA idx mem.length i ≠ s) ∧ mem[s]? = some x)
 | [], mem, bs, _, _, _, s, x, hx => by
   simp only [H9] at hx
   rw [aU] at hx
   split at hx
   · rename_i hs
     exact .inr ⟨fun i => by simp [AA]; omega, hx⟩
   · rename_i hs
     exact .inl ⟨s - mem.length, hx, by simp [AA]; omega⟩
 | i :: is, mem, [], h, _, _, _, _, _ => by simp at h
 | i :: is, mem, b :: bs, h, hn, i7, s, x, hx => by
   rw [H9] at hx
   have lX := dK.1 hn
   have hi : i < mem.length := i7 i (by simp)
   have := La is (mem.set i b) bs (by simpa using h) lX.2 (fun j hj => by simpa using i7 j (by simp [hj])) s x hx
   have hp : ∀ j, AA (i :: is) mem.length (j + 1) = AA is (mem.set i b).length j := by
     intro j
     simp only [AA, JG]
   rcases this with ⟨j, h1, h2⟩ | ⟨h1, h2⟩
   · exact .inl ⟨j + 1, by simpa using h1, by rw [hp]; exact h2⟩
   · by_cases hs : i = s
     ·subst hs
      rw [J5 hi] at h2
      exact .inl ⟨0, by simpa using h2, by simp [AA]⟩
     ·rw [J7 hs] at h2
      refine .inr ⟨fun j => ?_, h2⟩
      cases j with
      | zero => simp only [AA]; exact hs
      | succ j => rw [hp]; exact h1 j
theorem MM : ∀ (idx : List Nat) (n i : Nat), AA idx n i ∈ idx ∨ (n ≤ AA idx n i ∧ idx.length ≤ i ∧ AA idx n i = n + (i - idx.length))
 | [], n, i => .inr (by simp [AA])
 | r :: is, n, 0 => .inl (by simp [AA])
 | r :: is, n, i + 1 => by
   rcases MM is n i with h | ⟨h1, h2, h3⟩
   ·exact .inl (by simp only [AA]; exact dT _ h)
   ·exact .inr (by simp only [AA, List.length_cons]; exact ⟨h1, by omega, by omega⟩)
theorem Jn : ∀ {idx : List Nat} {n : Nat}, idx.Nodup → (∀ i ∈ idx, i < n) → ∀ {i j : Nat}, AA idx n i = AA idx n j → i = j
 | [], n, _, _, i, j, h => by simp only [AA] at h; omega
 | r :: is, n, hn, i7, i, j, h => by
   have lX := dK.1 hn
   have key : ∀ k, r ≠ AA is n k := by
     intro k q
     rcases MM is n k with h | ⟨h1, _, _⟩
     · rw [← q] at h; exact lX.1 h
     · have := i7 r (by simp); omega
   cases i with
   | zero =>
     cases j with
     | zero => rfl
     | succ j => exact absurd h (key j)
   | succ i =>
     cases j with
     | zero => exact absurd h.symm (key i)
     | succ j => rw [Jn lX.2 (fun i hi => i7 i (by simp [hi])) h]
theorem Ia {j5 : List Blk} : ∀ (bs : List Blk) (k : Nat), N7 j5 bs k = true → ∀ (i : Nat) b, bs[i]? = some b → b.vers = none ∨ b.vers = some 1 ∨ (b.vers = some 0 ∧ ∃ b0, j5[k + i]? = some b0 ∧ b0.vers.isSome = true)
 | [], _, _, i, b, hb => by simp at hb
 | x :: bs, k, h, i, b, hb => by
   simp only [N7, BM] at h
   cases i with
   | zero =>
     simp only [List.getElem?_cons_zero, Option.some.injEq] at hb
     subst hb
     have h := h.1
     split at h
     ·rename_i hv; exact .inl hv
     ·rename_i hv
      split at h
      ·rename_i b0 n9; exact .inr (.inr ⟨hv, b0, n9, h⟩)
      ·cases h
     ·rename_i hv; exact .inr (.inl hv)
     ·cases h
   | succ i =>
     have := Ia bs (k + 1) h.2 i b (by simpa using hb)
     rw [show k + 1 + i = k + (i + 1) by omega] at this
     exact this
theorem Eo : ∀ {bs : List Blk}, GY bs = true → ∀ (i : Nat) b, bs[i]? = some b → b.vers = none ∨ b.vers = some 0
 | [], _, i, b, hb => by simp at hb
 | x :: bs, h, i, b, hb => by
   simp only [GY, BM] at h
   cases i with
   | zero =>
     simp only [List.getElem?_cons_zero, Option.some.injEq] at hb
     subst hb
     have h := h.1
     split at h
     ·rename_i hv; exact .inl hv
     ·rename_i hv; exact .inr hv
     ·cases h
   | succ i => exact Eo h.2 i b (by simpa using hb)
def FD (E : Env) (mem : List Blk) (ρ : Nat → Nat) : Env :=
 { F := E.F, blk := fun i => E.blk (ρ i), cap := fun i => E.cap (ρ i), ver := fun _ => 0,
   N := fun b => E.N b ∨ ∃ s x, (∀ i, ρ i ≠ s) ∧ mem[s]? = some x ∧ x.has E s ∧ b = E.blk s }
open Classical in
noncomputable def large (E Es : Env) (iW : List Blk) (ρ : Nat → Nat) (ck : Nat) : Env :=
 { F := Es.F
   blk := fun s => if h : ∃ i, ρ i = s then Es.blk h.choose else E.blk s
   cap := fun s => if h : ∃ i, ρ i = s then Es.cap h.choose else E.cap s
   ver := fun s => if h : ∃ i, ρ i = s then (if (iW[h.choose]?).bind Blk.vers = some 0 then E.ver s else ck + 1) else E.ver s
   N := E.N }
theorem WG {E Es : Env} {iW : List Blk} {ρ : Nat → Nat} {ck : Nat} (inj : ∀ i j, ρ i = ρ j → i = j) (i : Nat) :
  (large E Es iW ρ ck).blk (ρ i) = Es.blk i ∧ (large E Es iW ρ ck).cap (ρ i) = Es.cap i ∧ (large E Es iW ρ ck).ver (ρ i) = if (iW[i]?).bind Blk.vers = some 0 then E.ver (ρ i) else ck + 1 := by
 have hex : ∃ j, ρ j = ρ i := ⟨i, rfl⟩
 have sE : hex.choose = i := inj _ _ hex.choose_spec
 simp only [large]
 rw [dif_pos hex, dif_pos hex, dif_pos hex, sE]
 exact ⟨rfl, rfl, rfl⟩
theorem Db {E Es : Env} {iW : List Blk} {ρ : Nat → Nat} {ck s : Nat} (h : ∀ i, ρ i ≠ s) :
  (large E Es iW ρ ck).blk s = E.blk s ∧ (large E Es iW ρ ck).cap s = E.cap s ∧ (large E Es iW ρ ck).ver s = E.ver s := by
 have hex : ¬ ∃ j, ρ j = s := fun ⟨j, hj⟩ => h j hj
 simp only [large]
 rw [dif_neg hex, dif_neg hex, dif_neg hex]
 exact ⟨rfl, rfl, rfl⟩
section
variable {P : Program} {F0 : Nat → Prop} {w0 : World}
mutual
theorem Z9 : ∀ c : Cell, Cell.up id (fun _ k => k) c = c
 | .d _ => by simp [Cell.up]
 | .emp => by simp [Cell.up]
 | .fp _ _ => by simp [Cell.up]
 | .bp .. => by simp [Cell.up]
 | .ap .. => by simp [Cell.up]
 | .arr .. => by simp [Cell.up]
 | .clo f cs => by simp [Cell.up, N9 cs]
 | .mp .. => by simp [Cell.up]
 | .it .. => by simp [Cell.up]
 | .ars .. => by simp [Cell.up]
theorem N9 : ∀ cs : List Cell, Cell.ups id (fun _ k => k) cs = cs
 | [] => by simp [Cell.ups]
 | c :: cs => by simp [Cell.ups, Z9 c, N9 cs]
end
theorem WH {L : List Blk} {s : SVal} (hs : s.sc L = true) : s.up id (fun _ k => k) = s := by
 unfold SVal.sc at hs
 split at hs <;> first | (simp only [SVal.up, Z9, N9]; done) | cases hs
theorem WI (i : Nat) (b : Blk) : b.up id (fun _ k => k) i = b := by
 cases b <;> simp [Blk.up, N9]
theorem HCall.frame {f : FuncId} {ja aS : List SVal} {j5 iW mem : List Blk} {r1 : SVal} {ck : Nat} (idx : List Nat) (h : HCall P f ja j5 r1 iW)
  (hn : idx.Nodup) (i7 : ∀ i ∈ idx, i < mem.length) (hl : idx.length = j5.length)
  (jt : ∀ (i : Nat) b0, j5[i]? = some b0 → mem[AA idx mem.length i]? = some (b0.up (AA idx mem.length) (Dr mem (AA idx mem.length) ck) i))
  (ha : AMs aS (ja.map (SVal.up (AA idx mem.length) (Dr mem (AA idx mem.length) ck)))) :
  MCall P F0 w0 f aS mem ck fun v m c => v = r1.up (AA idx mem.length) (Dr mem (AA idx mem.length) ck) ∧ m = H9 mem idx (Gj (AA idx mem.length) (Dr mem (AA idx mem.length) ck) iW 0) ∧ c = ck + 1 := by
 obtain ⟨je, mS, jd⟩ := h
 simp only [RE, BM, Md, Eg] at je
 obtain ⟨c1, c2, c3, c4, c5, c6, c7⟩ := je
 have inj : ∀ i j, AA idx mem.length i = AA idx mem.length j → i = j := fun i j q => Jn hn i7 q
 have nn := La idx mem
 generalize hρ : AA idx mem.length = ρ at jt ha inj nn ⊢
 generalize hν : Dr mem ρ ck = ν at jt ha ⊢
 have vu : ∀ r, ν r 0 = Ch mem (ρ r) := fun r => by rw [← hν]; rfl
 have tk : ∀ r, ν r 1 = ck + 1 := fun r => by rw [← hν]; rfl
 refine ⟨mS, fun E w vs hw kM hv => ?_⟩
 have ma : ∀ r k, Eb j5 r k = true → k = 0 ∧ E.ver (ρ r) = ν r k := by
  intro r k hs
  obtain ⟨b, hb, hk⟩ := ES hs
  have pd : k = 0 := by
    rcases Eo c2 r b hb with q | q
    · rw [q] at hk; cases hk
    · rw [q] at hk; cases hk; rfl
  refine ⟨pd, ?_⟩
  exact (hw.mem.ok _ _ (jt r b hb)).vers (by rw [CD, hk]; rfl)
 have down : Sees j5 E (FD E mem ρ) ρ id ν (fun _ k => k) := ⟨fun _ q => q, fun r k hs => ⟨(ma r k hs).2, (ma r k hs).1.symm, rfl, rfl⟩⟩
 have pe : ∀ {b : Blk} {i : Nat}, b.has (FD E mem ρ) i → b.has E (ρ i) := by
  intro b i q
  cases b <;> exact q
 have tn : ∀ (i : Nat) b k, j5[i]? = some b → b.vers = some k → Eb j5 i k = true := by
  intro i b k hb hk
  simp [Eb, hb, hk]
 have nL : WOk F0 w0 (FD E mem ρ) w j5 0 := by
  refine ⟨hw.below, hw.base, hw.F, ⟨fun _ => Nat.le_refl _, fun i b hb => ?_, fun i j b b' hb lF h1 h2 j2 => ?_⟩, fun k hk => ?_⟩
  · cases hk : b.vers with
    | none => cases b <;> first | trivial | exact absurd (c3 _ (Cb hb)) (by simp [Blk.sc]) | cases hk
    | some k =>
      have ho := hw.mem.ok _ _ (jt i b hb)
      have := down.blk (w := w) (w' := w) (fun _ _ => rfl) (c3 b (Cb hb)) (tn i b k hb hk) hk ho (fun _ => rfl) (fun hh => by
       have k9 := ho.lt (BP.2 hh)
       rintro (q | q | ⟨s, x, q1, q2, q3, q4⟩)
       ·exact k9.2.2 (.inl q)
       ·exact k9.2.2 (.inr q)
       ·exact hw.mem.apart _ s _ x (jt i b hb) q2 (BP.2 hh) q3 (q1 i) q4)
      rw [WI] at this
      exact this
  · exact hw.mem.apart _ _ _ _ (jt i b hb) (jt j b' lF) (BP.2 (pe h1)) (BP.2 (pe h2)) (fun q => j2 (inj i j q))
  · rcases hk with q | ⟨s, x, q1, q2, q3, rfl⟩
    · exact hw.N k q
    · have k9 := (hw.mem.ok s x q2).lt q3
      exact ⟨k9.1, fun q => k9.2.2 (.inl q)⟩
 obtain ⟨g1, g2⟩ := AMs.get ha
 have hc := (jd F0 w0).2 (FD E mem ρ) w vs nL (by rw [kM, g1]; simp) (fun i v x mr hx => by
  have k9 := lt_of_getElem? mr
  have has : aS[i]? = some (aS[i]'(by omega)) := Bo _
  have h0 := (g2 i _ _ has (by rw [BU, hx]; rfl)).rep (hv i v _ mr has)
  have h1 := down.val (w' := w) (fun _ _ => rfl) (c4 x (Cb hx)) h0
  rw [WH (c4 x (Cb hx))] at h1
  exact h1)
 refine Calls.mono hc fun e w' hq => ?_
 obtain ⟨v, Es, r, m, c', he, hle, kj, j4, hr⟩ := hq
 have rB : ∀ (i : Nat) b k, iW[i]? = some b → b.vers = some k → Eb iW i k = true := by
  intro i b k hb hk
  simp [Eb, hb, hk]
 have lG : ∀ r k, Eb iW r k = true → Es.ver r = Ch m r ∧ (k = 0 → Es.ver r = 0 ∧ E.ver (ρ r) = ν r 0) ∧ (k = 0 ∨ k = 1) := by
  intro r k hs
  obtain ⟨b, hb, hk⟩ := ES hs
  have hm := hr.mem r (b.up id (CK m) r) (by rw [CC, hb]; simp) (Cw ⟨_, by rw [CD, hk]; rfl⟩)
  have hv := (kj.mem.ok r _ hm).vers (k := CK m r k) (by rw [CD, hk]; rfl)
  have np := Ia iW 0 c5 r b hb
  refine ⟨hv, fun pd => ?_, ?_⟩
  · subst pd
    refine ⟨?_, ?_⟩
    · rw [hv]; exact hr.kept r (by rw [hb]; exact hk)
    · rcases np with q | q | ⟨_, b0, q1, q2⟩
      ·rw [q] at hk; cases hk
      ·rw [q] at hk; cases hk
      ·obtain ⟨k0, pd⟩ := gw.1 q2
       rw [Nat.zero_add] at q1
       have := ma r k0 (tn r b0 k0 q1 pd)
       rw [this.2, this.1]
  · rcases np with q | q | ⟨q, _⟩
    · rw [q] at hk; cases hk
    · rw [q] at hk; cases hk; exact .inr rfl
    · rw [q] at hk; cases hk; exact .inl rfl
 have QY := fun i => WG (E := E) (Es := Es) (iW := iW) (ρ := ρ) (ck := ck) inj i
 have pf : ∀ i, (iW[i]?).bind Blk.vers = some 0 → Es.blk i = E.blk (ρ i) ∧ Es.cap i = E.cap (ρ i) := by
  intro i hi
  cases hb : iW[i]? with
  | none => rw [hb] at hi; cases hi
  | some b =>
    rw [hb] at hi
    have hs := rB i b 0 hb hi
    have := hle.same i (by rw [((lG i 0 hs).2.1 rfl).1]; rfl)
    exact this
 have up : Sees iW Es (large E Es iW ρ ck) id ρ (CK m) ν := by
  refine ⟨fun _ q => q, fun r k hs => ⟨(lG r k hs).1, ?_, (QY r).1, (QY r).2.1⟩⟩
  obtain ⟨b, hb, hk⟩ := ES hs
  rw [(QY r).2.2, hb, Option.bind_some]
  rcases (lG r k hs).2.2 with rfl | rfl
  · rw [if_pos hk]; exact ((lG r 0 hs).2.1 rfl).2
  · rw [if_neg (by simp [hk]), tk]
 have pg : EnvLe E w (large E Es iW ρ ck) w' := by
  refine ⟨fun k hk => hle.F k hk, fun k hk => hle.mem k hk, fun s => ?_, fun s hs => ?_, fun k hk => ⟨hk, (hle.held k (.inl hk)).2⟩⟩
  · by_cases hex : ∃ i, ρ i = s
    · obtain ⟨i, rfl⟩ := hex
      rw [(QY i).2.2]
      have := hw.mem.clock (ρ i)
      split <;> omega
    · rw [(Db (fun i q => hex ⟨i, q⟩)).2.2]; exact Nat.le_refl _
  · by_cases hex : ∃ i, ρ i = s
    · obtain ⟨i, rfl⟩ := hex
      rw [(QY i).2.2] at hs
      have := hw.mem.clock (ρ i)
      split at hs
      ·rename_i hz
       rw [(QY i).1, (QY i).2.1]
       exact pf i hz
      ·omega
    · have := Db (E := E) (Es := Es) (iW := iW) (ρ := ρ) (ck := ck) (s := s) (fun i q => hex ⟨i, q⟩)
      exact ⟨this.1, this.2.1⟩
 refine ⟨v, large E Es iW ρ ck, _, _, _, he, pg, ?_, up.val (fun _ _ => rfl) c7 (hr.res.rep j4), rfl, rfl, rfl⟩
 have vz : (Gj ρ ν iW 0).length = iW.length := N8 _ _ _ _
 have jI : ∀ s x, (H9 mem idx (Gj ρ ν iW 0))[s]? = some x → (∃ i b1, iW[i]? = some b1 ∧ x = b1.up ρ ν i ∧ ρ i = s) ∨ ((∀ i, ρ i ≠ s) ∧ mem[s]? = some x) := by
  intro s x hx
  rcases nn _ (by rw [vz, hl]; exact c1) hn i7 s x hx with ⟨i, h1, h2⟩ | h1
  · rw [CC] at h1
    cases hb : iW[i]? with
    | none => rw [hb] at h1; cases h1
    | some b1 =>
      rw [hb] at h1
      simp only [Option.map_some, Option.some.injEq, Nat.zero_add] at h1
      exact .inl ⟨i, b1, hb, h1.symm, h2⟩
  · exact .inr h1
 have nM : ∀ {b : Blk} {i : Nat}, b.has (large E Es iW ρ ck) (ρ i) → b.has Es i := by
  intro b i q
  have e := (QY i).2.1
  cases b <;> first | exact q | (simp only [Blk.has] at q ⊢; rw [← e]; exact q)
 have nN : ∀ {b : Blk} {s : Nat}, (∀ i, ρ i ≠ s) → b.has (large E Es iW ρ ck) s → b.has E s := by
  intro b s hs q
  exact Blk.has_of (Db hs).2.1 q
 have ph : ∀ (i : Nat) b1, iW[i]? = some b1 → b1.has Es i → BlkOk w0.heap.size Es w' i (b1.up id (CK m) i) := by
  intro i b1 hb hh
  obtain ⟨k, hk⟩ := DZ hh
  exact kj.mem.ok i _ (hr.mem i (b1.up id (CK m) i) (by rw [CC, hb]; simp) (Cw ⟨_, by rw [CD, hk]; rfl⟩))
 have l7 : ∀ s x, (∀ i, ρ i ≠ s) → mem[s]? = some x → x.has E s → Es.N (E.blk s) ∧ w'.heap[E.blk s]? = w.heap[E.blk s]? := fun s x q1 q2 q3 => hle.held _ (.inr ⟨s, x, q1, q2, q3, rfl⟩)
 refine ⟨kj.below, kj.base, kj.F, ⟨fun s => ?_, fun s x hx => ?_, fun s s' x x' hx kL h1 h2 j2 => ?_⟩, fun k hk => kj.N k (hle.held k (.inl hk)).1⟩
 ·by_cases hex : ∃ i, ρ i = s
  · obtain ⟨i, rfl⟩ := hex
    rw [(QY i).2.2]
    have := hw.mem.clock (ρ i)
    split <;> omega
  · rw [(Db (fun i q => hex ⟨i, q⟩)).2.2]; have := hw.mem.clock s; omega
 ·rcases jI s x hx with ⟨i, b1, hb, rfl, rfl⟩ | ⟨hs, jj⟩
  · cases hk : b1.vers with
    | none => cases b1 <;> first | trivial | exact absurd (c6 _ (Cb hb)) (by simp [Blk.sc]) | cases hk
    | some k =>
      have hm := hr.mem i (b1.up id (CK m) i) (by rw [CC, hb]; simp) (Cw ⟨_, by rw [CD, hk]; rfl⟩)
      have ho := kj.mem.ok i _ hm
      exact up.blk (w := w') (w' := w') (fun _ _ => rfl) (c6 b1 (Cb hb)) (rB i b1 k hb hk) hk ho (fun _ => rfl) (fun hh => by
       have k9 := ho.lt (BP.2 hh)
       rintro (q | q)
       ·exact k9.2.2 (.inl q)
       ·exact k9.2.2 (.inr (hle.held _ (.inl q)).1))
  · have ho := hw.mem.ok s x jj
    refine ho.le pg (fun _ => (Db hs).2.2) (fun hh => (l7 s x hs jj hh).2) (fun hh => ?_)
    rintro (q | q)
    · exact (kj.N _ (l7 s x hs jj hh).1).2 q
    · exact (ho.lt hh).2.2 (.inr q)
 ·rcases jI s x hx with ⟨i, b1, hb, rfl, rfl⟩ | ⟨hs, jj⟩
  · have hi := nM (BP.1 h1)
    rw [(QY i).1]
    rcases jI s' x' kL with ⟨j, b2, lF, rfl, rfl⟩ | ⟨kE, jW⟩
    · have hj := nM (BP.1 h2)
      rw [(QY j).1]
      obtain ⟨k1, mZ⟩ := DZ hi
      obtain ⟨k2, nO⟩ := DZ hj
      have m1 := hr.mem i (b1.up id (CK m) i) (by rw [CC, hb]; simp) (Cw ⟨_, by rw [CD, mZ]; rfl⟩)
      have m2 := hr.mem j (b2.up id (CK m) j) (by rw [CC, lF]; simp) (Cw ⟨_, by rw [CD, nO]; rfl⟩)
      exact kj.mem.apart i j _ _ m1 m2 (BP.2 hi) (BP.2 hj) (fun q => j2 (by rw [q]))
    · have hj := nN kE h2
      rw [(Db kE).1]
      intro q
      have := ((ph i b1 hb hi).lt (BP.2 hi)).2.2
      exact this (.inr (by rw [q]; exact (l7 s' x' kE jW hj).1))
  · have hi := nN hs h1
    rw [(Db hs).1]
    rcases jI s' x' kL with ⟨j, b2, lF, rfl, rfl⟩ | ⟨kE, jW⟩
    · have hj := nM (BP.1 h2)
      rw [(QY j).1]
      intro q
      have := ((ph j b2 lF hj).lt (BP.2 hj)).2.2
      exact this (.inr (by rw [← q]; exact (l7 s x hs jj hi).1))
    · have hj := nN kE h2
      rw [(Db kE).1]
      exact hw.mem.apart s s' x x' jj jW hi hj j2
end
theorem SRep.bp_inv {E : Env} {w : World} {o : Nat} (h : SRep E w v (.c (.bp r k o))) (hv : E.ver r = k) : v = .pointer (some ⟨E.blk r, o, none⟩) := by
 cases h with | c h => cases h with | bp _ _ _ _ _ _ hh => exact hh hv
theorem SRep.mp_inv {E : Env} {w : World} (h : SRep E w v (.c (.mp r k))) (hv : E.ver r = k) : v = .map (some (E.blk r)) := by
 cases h with | c h => cases h with | mp _ _ _ _ _ hh => exact hh hv
theorem SRep.it_inv {E : Env} {w : World} (h : SRep E w v (.c (.it r k))) (hv : E.ver r = k) : v = .pointer (some ⟨E.blk r, 0, none⟩) := by
 cases h with | c h => cases h with | it _ _ _ _ _ hh => exact hh hv
theorem SRep.arr_inv {E : Env} {w : World} {m : Nat} (h : SRep E w v (.c (.arr r k m))) (hv : E.ver r = k) : (E.cap r = 0 ∧ m = 0 ∧ ∃ a, v = .slice a 0 0) ∨ (0 < E.cap r ∧ v = .slice (some ⟨E.blk r, 0, none⟩) m (E.cap r)) := by
 cases h with | c h => cases h with | arr _ _ _ _ _ _ hh => exact hh hv
theorem SRep.d_inv {E : Env} {w : World} {x : Dat} (h : SRep E w v (.c (.d x))) : DRep E.F w v x := by
 cases h with | c h => exact h.d_of
theorem SRep.emp_inv {E : Env} {w : World} (h : SRep E w v (.c .emp)) : ∃ a, v = .slice a 0 0 := by
 cases h with | c h => cases h with | emp a => exact ⟨_, rfl⟩
section
variable {P : Program} {T : TypeId → Option TI} {F0 : Nat → Prop} {w0 : World}
theorem FH (σ : St) (d : Option Tmp) (v : SVal) (m : List Blk) (c : Nat) : upd σ d v m c [] = { σ with mem := m, clock := c }.putO d v := by
 cases d <;> rfl
theorem Tc {ev : Operand → SVal} {mem : List Blk} {ck : Nat} {R : SVal → List Blk → Nat → Prop}
  (h : ∀ (E : Env) (w : World) (ρ : Operand → Value), WOk F0 w0 E w mem ck → (∀ x ∈ o.op.operands.toList, SRep E w (ρ x) (ev x)) →
    ∃ u w' E' v m' c', (execOp ρ o).run P w = .ok (.value u) w' ∧ EnvLe E w E' w' ∧ WOk F0 w0 E' w' m' c' ∧ SRep E' w' u v ∧ R v m' c') :
  Does P F0 w0 o ev mem ck fun v m c df => R v m c ∧ df = [] := by
 intro B σ E a w hF ow he hm hc hr hB hd next Q hn
 subst hF; subst ow; subst hm; subst hc
 obtain ⟨u, w', E', v, m', c', h1, h2, h3, h4, h5⟩ := h E w a.eval hr.1 (fun x hx => by rw [← he x hx]; exact hr.ev x)
 unfold Oper.wp
 rw [h1]
 refine hn v m' c' [] _ _ ⟨h5, rfl⟩ ⟨E', ?_, hB.trans h2⟩
 rw [FH]
 exact hr.putOE h2 h3 hd h4
theorem cn {ev : Operand → SVal} {mem : List Blk} {ck : Nat} {R : SVal → List Blk → Nat → Prop}
  (h : ∀ (E : Env) (w : World) (ρ : Operand → Value), (∀ v, ρ (.const v) = v) → WOk F0 w0 E w mem ck → (∀ x ∈ o.op.operands.toList, SRep E w (ρ x) (ev x)) →
    ∃ u w' E' v m' c', (execOp ρ o).run P w = .ok (.value u) w' ∧ EnvLe E w E' w' ∧ WOk F0 w0 E' w' m' c' ∧ SRep E' w' u v ∧ R v m' c') :
  Does P F0 w0 o ev mem ck fun v m c df => R v m c ∧ df = [] := by
 intro B σ E a w hF ow he hm hc hr hB hd next Q hn
 subst hF; subst ow; subst hm; subst hc
 obtain ⟨u, w', E', v, m', c', h1, h2, h3, h4, h5⟩ := h E w a.eval (fun _ => rfl) hr.1 (fun x hx => by rw [← he x hx]; exact hr.ev x)
 unfold Oper.wp
 rw [h1]
 refine hn v m' c' [] _ _ ⟨h5, rfl⟩ ⟨E', ?_, hB.trans h2⟩
 rw [FH]
 exact hr.putOE h2 h3 hd h4
theorem Does.mono {ev : Operand → SVal} {mem : List Blk} {ck : Nat} {R R' : SVal → List Blk → Nat → List (FuncId × List Cell) → Prop} (h : Does P F0 w0 o ev mem ck R) (hR : ∀ v m c df, R v m c df → R' v m c df) : Does P F0 w0 o ev mem ck R' :=
 fun B σ E a w q1 q2 q3 q4 q5 q6 q7 q8 next Q hn => h B σ E a w q1 q2 q3 q4 q5 q6 q7 q8 next Q fun v m c df a' w' hr => hn v m c df a' w' (hR _ _ _ _ hr)
theorem BF {ev : Operand → SVal} {mem m' : List Blk} {ck c' : Nat} {v : SVal}
   (h : ∀ (E : Env) (w : World) (ρ : Operand → Value), WOk F0 w0 E w mem ck → (∀ x ∈ o.op.operands.toList, SRep E w (ρ x) (ev x)) →
     ∃ u w' E', (execOp ρ o).run P w = .ok (.value u) w' ∧ EnvLe E w E' w' ∧ WOk F0 w0 E' w' m' c' ∧ SRep E' w' u v) :
   Does P F0 w0 o ev mem ck (Fx v m' c' []) :=
 (Tc (R := fun v1 m1 c1 => v1 = v ∧ m1 = m' ∧ c1 = c') fun E w ρ hw hρ => by
   obtain ⟨u, w', E', h1, h2, h3, h4⟩ := h E w ρ hw hρ
   exact ⟨u, w', E', v, m', c', h1, h2, h3, h4, rfl, rfl, rfl⟩).mono fun _ _ _ _ q => ⟨q.1.1, q.1.2.1, q.1.2.2, q.2⟩
theorem JV {ev : Operand → SVal} {mem m' : List Blk} {ck c' : Nat}
  (h : ∀ (E : Env) (w : World) (ρ : Operand → Value), WOk F0 w0 E w mem ck → (∀ x ∈ o.op.operands.toList, SRep E w (ρ x) (ev x)) →
    ∃ w' E', (execOp ρ o).run P w = .ok .skip w' ∧ EnvLe E w E' w' ∧ WOk F0 w0 E' w' m' c') :
  Does P F0 w0 o ev mem ck (Fx .junk m' c' []) := by
 intro B σ E a w hF ow he hm hc hr hB hd next Q hn
 subst hF; subst ow; subst hm; subst hc
 obtain ⟨w', E', h1, h2, h3⟩ := h E w a.eval hr.1 (fun x hx => by rw [← he x hx]; exact hr.ev x)
 unfold Oper.wp
 rw [h1]
 refine hn .junk m' c' [] _ _ ⟨rfl, rfl, rfl, rfl⟩ ⟨E', ?_, hB.trans h2⟩
 rw [FH]
 exact hr.putOE h2 h3 hd (.junk _)
theorem HO {ev : Operand → SVal} {v : SVal}
  (h : ∀ (E : Env) (w : World) (ρ : Operand → Value), (∀ x ∈ o.op.operands.toList, SRep E w (ρ x) (ev x)) → ∃ u, (execOp ρ o).run P w = .ok (.value u) w ∧ SRep E w u v) :
  ∀ mem ck, Does P F0 w0 o ev mem ck (Fx v mem ck []) := fun mem ck =>
 BF fun E w ρ hw hρ => by
  obtain ⟨u, h1, h2⟩ := h E w ρ hρ
  exact ⟨u, w, E, h1, EnvLe.refl _ _, hw, h2⟩
def Qs (k : IntKind) (a b : Int) : Int := k.wrap (BitVec.ofInt k.bits a ||| BitVec.ofInt k.bits b).toNat
def Lu (k : IntKind) (a b : Int) : Int := k.wrap (BitVec.ofInt k.bits a ^^^ BitVec.ofInt k.bits b).toNat
def CQ (k : IntKind) (a b : Int) : Int := a.fdiv (2 ^ min b.toNat k.bits)
def Lv (k : IntKind) (a b : Int) : Int := k.wrap (a * 2 ^ min b.toNat k.bits)
theorem Za {n : Nat} (h : n ≤ 64) : CQ .i64 a n = a.fdiv (2 ^ n) := by
 unfold CQ; rw [To, show IntKind.i64.bits = 64 from rfl, Nat.min_eq_left h]
variable {dr : Bool} {ops rest : List Oper} {K : St → Prop} {n : Nat} {sl : List (Nat × SVal)} {mem : List Blk} {ck : Nat} {df : List (FuncId × List Cell)} {acc : List Nat}
variable {d : Tmp} {op : Op} {ty : TypeId} {pos : String} {iU : Array Edge} {g : Option (Nat × Bool)}
theorem Xj {k k' : IntKind} {b : Int}
  (h : Reg P F0 w0 dr ops K rest ⟨n, (d, .c (.d (.lit (.int k z)))) :: sl, mem, ck, df⟩ (0 :: acc)) (hw : GW ops g sl := by first | exact trivial | exact rfl) (hx : AH sl x = .c (.d (.lit (.int k a))) := by exact rfl) (hy : AH sl y = .c (.d (.lit (.int k' b))) := by exact rfl) (hb : 0 ≤ b := by omega) (hz : CQ k a b = z := by exact rfl) :
  Reg P F0 w0 dr ops K (⟨some d, .binOp .shr t x y t', ty, pos, iU, g⟩ :: rest) ⟨n, sl, mem, ck, df⟩ acc :=
 Gp hw (HO fun E w ρ hρ => by
  have e1 := hρ x (by simp [Op.operands])
  have e2 := hρ y (by simp [Op.operands])
  rw [hx] at e1; rw [hy] at e2
  have e1 := e1.lit_inv
  have e2 := e2.lit_inv
  subst hz
  refine ⟨.int k (CQ k a b), ?_, .c (.d (.lit _ rfl))⟩
  simp only [execOp, e1, e2, Sem.run_bind, eqGuard, binOp, Op.shift]
  rw [if_neg (show ¬ b < 0 by omega)]
  simp [CQ]) h
theorem ae {k k' : IntKind} {b : Int}
  (h : Reg P F0 w0 dr ops K rest ⟨n, (d, .c (.d (.lit (.int k z)))) :: sl, mem, ck, df⟩ (0 :: acc)) (hw : GW ops g sl := by first | exact trivial | exact rfl) (hx : AH sl x = .c (.d (.lit (.int k a))) := by exact rfl) (hy : AH sl y = .c (.d (.lit (.int k' b))) := by exact rfl) (hb : 0 ≤ b := by omega) (hz : Lv k a b = z := by exact rfl) :
  Reg P F0 w0 dr ops K (⟨some d, .binOp .shl t x y t', ty, pos, iU, g⟩ :: rest) ⟨n, sl, mem, ck, df⟩ acc :=
 Gp hw (HO fun E w ρ hρ => by
  have e1 := hρ x (by simp [Op.operands])
  have e2 := hρ y (by simp [Op.operands])
  rw [hx] at e1; rw [hy] at e2
  have e1 := e1.lit_inv
  have e2 := e2.lit_inv
  subst hz
  refine ⟨.int k (Lv k a b), ?_, .c (.d (.lit _ rfl))⟩
  simp only [execOp, e1, e2, Sem.run_bind, eqGuard, binOp, Op.shift]
  rw [if_neg (show ¬ b < 0 by omega)]
  simp [Lv]) h
theorem eX {k : IntKind} {b : Int}
  (h : Reg P F0 w0 dr ops K rest ⟨n, (d, .c (.d (.lit (.int k z)))) :: sl, mem, ck, df⟩ (0 :: acc)) (hw : GW ops g sl := by first | exact trivial | exact rfl) (hx : AH sl x = .c (.d (.lit (.int k a))) := by exact rfl) (hy : AH sl y = .c (.d (.lit (.int k b))) := by exact rfl) (hz : Qs k a b = z := by exact rfl) :
  Reg P F0 w0 dr ops K (⟨some d, .binOp .or t x y t', ty, pos, iU, g⟩ :: rest) ⟨n, sl, mem, ck, df⟩ acc :=
 Gp hw (HO fun E w ρ hρ => by
  have e1 := hρ x (by simp [Op.operands])
  have e2 := hρ y (by simp [Op.operands])
  rw [hx] at e1; rw [hy] at e2
  have e1 := e1.lit_inv
  have e2 := e2.lit_inv
  subst hz
  refine ⟨.int k (Qs k a b), ?_, .c (.d (.lit _ rfl))⟩
  simp only [execOp, e1, e2, Sem.run_bind, eqGuard, binOp, ne_eq, not_true_eq_false, if_false]
  simp [Op.intBits, Qs]) h
theorem af {k : IntKind} {b : Int}
  (h : Reg P F0 w0 dr ops K rest ⟨n, (d, .c (.d (.lit (.int k z)))) :: sl, mem, ck, df⟩ (0 :: acc)) (hw : GW ops g sl := by first | exact trivial | exact rfl) (hx : AH sl x = .c (.d (.lit (.int k a))) := by exact rfl) (hy : AH sl y = .c (.d (.lit (.int k b))) := by exact rfl) (hz : Lu k a b = z := by exact rfl) :
  Reg P F0 w0 dr ops K (⟨some d, .binOp .xor t x y t', ty, pos, iU, g⟩ :: rest) ⟨n, sl, mem, ck, df⟩ acc :=
 Gp hw (HO fun E w ρ hρ => by
  have e1 := hρ x (by simp [Op.operands])
  have e2 := hρ y (by simp [Op.operands])
  rw [hx] at e1; rw [hy] at e2
  have e1 := e1.lit_inv
  have e2 := e2.lit_inv
  subst hz
  refine ⟨.int k (Lu k a b), ?_, .c (.d (.lit _ rfl))⟩
  simp only [execOp, e1, e2, Sem.run_bind, eqGuard, binOp, ne_eq, not_true_eq_false, if_false]
  simp [Op.intBits, Lu]) h
theorem Xk [tc : TC P T] {i : TI} {k : IntKind} {s : ByteArray} {b : UInt8}
  (h : Reg P F0 w0 dr ops K rest ⟨n, (d, .c (.d (.lit (.int .u8 b.toNat)))) :: sl, mem, ck, df⟩ (0 :: acc)) (hb : 0 ≤ z ∧ s[z.toNat]? = some b) (hw : GW ops g sl := by first | exact trivial | exact rfl) (hx : AH sl x = .c (.d (.lit (.string s))) := by exact rfl) (hy : AH sl y = .c (.d (.lit (.int k z))) := by exact rfl) (ht : T t = some i := by exact rfl) (hi : i.desc = .str := by exact rfl) :
  Reg P F0 w0 dr ops K (⟨some d, .index t x y, ty, pos, iU, g⟩ :: rest) ⟨n, sl, mem, ck, df⟩ acc :=
 Gp hw (HO fun E w ρ hρ => by
  have e1 := hρ x (by simp [Op.operands])
  have e2 := hρ y (by simp [Op.operands])
  rw [hx] at e1; rw [hy] at e2
  have e1 := e1.lit_inv
  have e2 := e2.lit_inv
  have hu : P.underlying t = some .string := by have := (tc.ok t i ht).desc; rw [hi] at this; exact this
  refine ⟨.int .u8 b.toNat, ?_, .c (.d (.lit _ rfl))⟩
  simp [execOp, e1, e2, Instr.index, run_underlying hu, asIntOf, hb.1, hb.2]) h
theorem Xl {o : Nat} {cs : List Cell}
  (h : Reg P F0 w0 dr ops K rest ⟨n, (d, .c (.bp r k o)) :: sl, mem, ck, df⟩ (1 :: acc)) (hw : GW ops g sl := by first | exact trivial | exact rfl) (hx : AH sl x = .c (.bp r k o) := by exact rfl) (hm : mem[r]? = some (.box k cs) := by exact rfl) :
  Reg P F0 w0 dr ops K (⟨some d, .nilCheck x, ty, pos, iU, g⟩ :: rest) ⟨n, sl, mem, ck, df⟩ acc :=
 Dh hw hm (fun mem ck hm => BF fun E w ρ j0 hρ => by
  have e1 := hρ x (by simp [Op.operands])
  rw [hx] at e1
  have hv := (j0.mem.ok r _ hm).1
  have e2 := e1.bp_inv hv
  exact ⟨ρ x, w, E, by simp [execOp, e2], EnvLe.refl _ _, j0, e1⟩) h
end
end Go.Abs
end
section
namespace Go.Abs
open Go.RowKit
open Classical in
noncomputable def findE (k : Value) : List MapEntry → Nat → Option (Nat × Value)
 | [], _ => none
 | e :: es, i => if k = e.key then some (i, e.val) else findE k es (i + 1)
class KeyOk (P : Program) (kt : TypeId) (G : outParam (Value → Prop)) : Prop where
 check : ∀ (w : World) (b : Bool) (k : Value), G k → (Instr.checkKey b 10000 kt k).run P w = .ok () w
 find : ∀ (w : World) (k : Value) (es : List MapEntry), G k → (∀ e ∈ es, G e.key) → (Instr.findKey kt k es).run P w = .ok (findE k es 0) w
 same : ∀ (k : Value), G k → Instr.sameBits 10000 k k = true
theorem Ii {k : Value} : ∀ {es : List MapEntry} {i : Nat}, (∀ e ∈ es, k ≠ e.key) → findE k es i = none
 | [], _, _ => rfl
 | e :: es, i, h => by rw [findE, if_neg (h e (by simp)), Ii fun e he => h e (by simp [he])]
theorem Ij {k : Value} : ∀ {es : List MapEntry} {i j : Nat} {e : MapEntry}, es[j]? = some e → e.key = k → (∀ (l : Nat) e', l < j → es[l]? = some e' → k ≠ e'.key) → findE k es i = some (i + j, e.val)
 | [], _, _, _, h, _, _ => by simp at h
 | x :: es, i, 0, e, h, hk, _ => by simp at h; subst h; rw [findE, if_pos hk.symm]; rfl
 | x :: es, i, j + 1, e, h, hk, hn => by
   rw [findE, if_neg (hn 0 x (by omega) rfl), Ij (j := j) (by simpa using h) hk (fun l e' hl he => hn (l + 1) e' (by omega) (by simpa using he))]
   congr 2
   omega
theorem Ju (a b : ByteArray) : (a == b) = decide (a = b) := by
 rw [beq_toListBytes]
 by_cases h : a = b
 ·subst h; simp
 ·have : ¬ a.toList = b.toList := by
   intro q
   rw [ByteArray.toList_eq, ByteArray.toList_eq] at q
   apply h
   cases a; cases b
   simp only at q
   congr 1
   exact Q3 q
  simp [h, this]
def JW (v : Value) : Prop := ∃ s : ByteArray, v = .string s
theorem JX (s : ByteArray) : ∀ (es : List MapEntry) (i : Nat), (∀ e ∈ es, JW e.key) → Instr.findNow .string (.string s) es i = some (findE (.string s) es i)
 | [], _, _ => rfl
 | e :: es, i, h => by
   obtain ⟨u, hu⟩ := h e (by simp)
   have ih := JX s es (i + 1) fun e he => h e (by simp [he])
   by_cases hs : s = u
   ·subst hs
    have j2 : (s == s) = true := by rw [Ju]; simp
    simp only [Instr.findNow, hu, Instr.sameNow, j2, findE, if_true]
   ·have j2 : (s == u) = false := by rw [Ju]; simpa using hs
    simp only [Instr.findNow, hu, Instr.sameNow, j2, findE]
    rw [if_neg (by rw [hu]; simpa using hs), ih]
theorem cp {P : Program} {kt : TypeId} (h : P.underlying kt = some .string) : KeyOk P kt JW where
 check w b k hk := by
  obtain ⟨s, rfl⟩ := hk
  exact MapKept.run_checkKey h (by trivial) b 9999
 find w k es hk j6 := by
  obtain ⟨s, rfl⟩ := hk
  exact MapKept.run_findKey h (JX s es 0 j6)
 same k hk := by
  obtain ⟨s, rfl⟩ := hk
  simp only [Instr.sameBits, Ju, decide_true]
def ig (zero : List Value) (v : Value) : Prop := ∃ us, v = .agg us.toArray ∧ Dw zero us
end Go.Abs
end
section
namespace Go.Abs
open Go.RowKit
variable {A : Array MapEntry} {G : Value → Prop} {bs : List Nat} {c i k r r' : Nat} {es : List (Value × PV)} {kt kA t vt kB : TypeId} {kv v : Value} {f' : List Blk} {p : PV} {s : SVal} {x y : Operand}
class MapTy (P : Program) (t : TypeId) (kt vt : outParam TypeId) : Prop where
 out : P.underlying t = some (.map kt vt)
class ZeroV (P : Program) (vt : TypeId) (z : outParam PV) : Prop where
 out : ∀ w : World, ∃ v, (zeroValue vt).run P w = .ok v w ∧ ∀ (F : Nat → Prop) (w' : World), PVRep F w' v z
theorem M5 {P : Program} (h : (P.info? vt).map (·.zero) = some (some v)) (h1 : v.oneCell' = true) : ZeroV P vt (.one (.lit v)) := by
 refine ⟨fun w => ⟨v, ?_, fun F w' => .lit v h1⟩⟩
 cases hi : P.info? vt with
 | none => rw [hi] at h; cases h
 | some i =>
   rw [hi] at h
   simp only [Option.map_some, Option.some.injEq] at h
   simp [zeroValue, typeInfo, hi, h]
theorem UJ {P : Program} (h : (P.info? vt).map (·.zero) = some (some (.slice none 0 0))) : ZeroV P vt (.one (.sl [])) := by
 refine ⟨fun w => ⟨.slice none 0 0, ?_, fun F w' => .emp none 0⟩⟩
 cases hi : P.info? vt with
 | none => rw [hi] at h; cases h
 | some i =>
   rw [hi] at h
   simp only [Option.map_some, Option.some.injEq] at h
   simp [zeroValue, typeInfo, hi, h]
def Ce : SVal → Option Value
 | .c (.d (.lit v)) => some v
 | .agg cs => (match D8 cs with
   | some us => some (.agg us.toArray)
   | none => none)
 | _ => none
theorem Be {E : Env} {w : World} {u : Value} (h : SRep E w u s) (hk : Ce s = some v) : u = v := by
 unfold Ce at hk
 split at hk
 ·cases hk; exact h.lit_inv
 ·split at hk
  ·rename_i us s9
   cases hk
   cases h with | agg _ vs hl hd => rw [FQ s9 hl hd]
  ·cases hk
 ·cases hk
theorem PVRep.srep {E : Env} {w : World} (h : PVRep E.F w v p) : SRep E w v p.s := by
 cases p with
 | one x => exact .c (.d h)
 | agg xs =>
   obtain ⟨vs, rfl, h2, h3⟩ := h
   refine .agg _ vs (by simpa using h2) (fun i u c hu hc => ?_)
   rw [BU] at hc
   cases hx : xs[i]? with
   | none => rw [hx] at hc; cases hc
   | some x => rw [hx] at hc; simp only [Option.map_some, Option.some.injEq] at hc; subst hc; exact .d (h3 i u x hu hx)
theorem SD.prep {E : Env} {w : World} (h : SD s p) (hv : SRep E w v s) : PVRep E.F w v p := by
 have := h.rep hv
 cases p with
 | one x => exact this.d_inv
 | agg xs =>
   cases this with | agg _ vs hl hd =>
   refine ⟨vs, rfl, by simpa using hl, fun i u x hu hx => ?_⟩
   exact (hd i u (.d x) hu (by rw [BU, hx]; rfl)).d_of
theorem Cn {n0 : Nat} (w : World) (b : Nat) (o : Obj) (h : n0 ≤ b) : Bel n0 w { w with heap := w.heap.setIfInBounds b o } :=
 ⟨⟨rfl, rfl, rfl, by simp, fun k hk => by simp only; rw [R7 (by omega)]⟩, Nat.le_refl _⟩
section
variable {F0 : Nat → Prop} {w0 w : World} {E : Env} {mem : List Blk} {clock : Nat}
theorem WOk.allocObj (h : WOk F0 w0 E w mem clock) (o : Obj) (nb : Blk)
  (jV : EnvLe E w (E.upd mem.length w.heap.size 0 (clock + 1)) (w.alloc o) → BlkOk w0.heap.size (E.upd mem.length w.heap.size 0 (clock + 1)) (w.alloc o) mem.length nb) :
  WOk F0 w0 (E.upd mem.length w.heap.size 0 (clock + 1)) (w.alloc o) (mem ++ [nb]) (clock + 1) ∧ EnvLe E w (E.upd mem.length w.heap.size 0 (clock + 1)) (w.alloc o) := by
 have hf := h.fresh
 have hle : EnvLe E w (E.upd mem.length w.heap.size 0 (clock + 1)) (w.alloc o) := Env.upd_le _ _ _ _ (by have := h.mem.clock mem.length; omega) (fun i hi => Bel.heap_alloc w _ i (h.FN i hi))
 exact h.turn _ _ _ _ _ _ (by omega) (Nat.le_refl _) (Hd mem _) ((Bel.refl _ w).alloc h.le0 _) (fun i hi _ => Bel.heap_alloc w _ i hi) (fun s x _ hx hh => hf.2 s x hx hh) hf.1 (jV hle)
theorem MapOk.look (h : MapOk E w es bs c A) (hi : es[i]? = some (kv, p)) :
  ∃ m, A[i]? = some m ∧ m.key = kv ∧ PVRep E.F w m.val p ∧ findE kv A.toList 0 = some (i, m.val) := by
 obtain ⟨h1, h2, h3, h0, h4, h5⟩ := h
 have i7 := lt_of_getElem? hi
 have hm : A[i]? = some (A[i]'(by omega)) := LZ _
 obtain ⟨q1, p', q2, q3⟩ := h5 i _ hm
 rw [hi] at q2
 simp only [Option.some.injEq, HK] at q2
 obtain ⟨q4, q5⟩ := q2
 subst q5
 refine ⟨_, hm, q4.symm, q3, ?_⟩
 have := Ij (k := kv) (es := A.toList) (i := 0) (j := i) (e := A[i]'(by omega)) (by rw [LV]; exact hm) q4.symm (fun l e' hl he => by
  obtain ⟨_, p2, q6, _⟩ := h5 l e' (by rw [← LV]; exact he)
  intro q
  have hp := XQ.1 h0 l i (by simp; omega) (by simpa using i7) hl
  apply hp
  have jk := lt_of_getElem? q6
  rw [Bo jk] at q6
  rw [Bo i7] at hi
  simp only [Option.some.injEq] at q6 hi
  simp only [List.getElem_map, q6, hi, q])
 simpa using this
theorem MapOk.not (h : MapOk E w es bs c A) (hn : ∀ e ∈ es, e.1 ≠ kv) : findE kv A.toList 0 = none := by
 refine Ii fun e he => ?_
 obtain ⟨i, hi⟩ := L0.1 he
 obtain ⟨_, p, q, _⟩ := h.2.2.2.2.2 i e (by rw [← LV]; exact hi)
 exact fun q' => hn _ (Cb q) q'.symm
theorem MapOk.good (h : MapOk E w es bs c A) (hg : ∀ e ∈ es, G e.1) : ∀ e ∈ A.toList, G e.key := by
 intro e he
 obtain ⟨i, hi⟩ := L0.1 he
 obtain ⟨_, p, q, _⟩ := h.2.2.2.2.2 i e (by rw [← LV]; exact hi)
 exact hg _ (Cb q)
end
section
variable {P : Program} {T : TypeId → Option TI} {F0 : Nat → Prop} {w0 : World}
variable {dr : Bool} {ops rest : List Oper} {K : St → Prop} {n : Nat} {sl : List (Nat × SVal)} {mem : List Blk} {ck : Nat} {df : List (FuncId × List Cell)} {acc : List Nat}
variable {d : Tmp} {op : Op} {ty : TypeId} {pos : String} {iU : Array Edge} {g : Option (Nat × Bool)}
theorem Td [mt : MapTy P t kt vt] {x : Option Operand} 
   (h : Reg P F0 w0 dr ops K rest ⟨n, (d, .c (.mp r (ck + 1))) :: sl, f', ck + 1, df⟩ (2 :: acc)) (hw : GW ops g sl := by first | exact trivial | exact rfl) (hx : ∀ y, x = some y → ∃ k z, AH sl y = .c (.d (.lit (.int k z))) := by first | (intro _ q; cases q; exact ⟨_, _, rfl⟩) | (intro _ q; cases q)) (hr : mem.length = r := by first | exact (rfl : _ = 0) | exact (rfl : _ = 1) | exact (rfl : _ = 2) | exact (rfl : _ = 3) | exact (rfl : _ = 4) | exact (rfl : _ = 5) | exact (rfl : _ = 6) | exact (rfl : _ = 7) | exact (rfl : _ = 8)) (iZ : mem ++ [Blk.map (ck + 1) kt vt [] [] 0] = f' := by repeat' (first | exact A6 rfl | apply AG rfl)) :
   Reg P F0 w0 dr ops K (⟨some d, .makeMap t x, ty, pos, iU, g⟩ :: rest) ⟨n, sl, mem, ck, df⟩ acc := by
 subst hr; subst iZ
 refine U6 (jx := []) hw (BF fun E w ρ j0 hρ => ?_) h
 have jM := j0.allocObj (.map #[] 0) (.map (ck + 1) kt vt [] [] 0) (fun _ => ⟨by simp [Env.upd], by simp [Env.upd]; exact j0.le0, by simp only [Env.upd, if_true]; exact j0.fresh.1, #[], by simp only [Env.upd, if_true]; exact XN w _, rfl, rfl, by simp, by simp, by simp, fun i m hm => by simp at hm⟩)
 refine ⟨.map (some w.heap.size), _, _, ?_, jM.2, jM.1, .c (.mp _ _ _ rfl (by simp [Env.upd]) (fun _ => by simp [Env.upd]))⟩
 cases x with
 | none => simp [execOp, Instr.makeMap]
 | some y =>
   obtain ⟨k, z, hy⟩ := hx y rfl
   have e1 := hρ y (by simp [Op.operands])
   rw [hy] at e1
   have e1 := e1.lit_inv
   simp [execOp, Instr.makeMap, run_underlying mt.out, e1, asInt, asIntOf]
theorem D2 (mt : P.underlying t = some (.map kt vt)) [ko : KeyOk P kt G] {E : Env} {w : World} (hw : WOk F0 w0 E w mem ck) (hm : mem[r]? = some (.map k kA kB es bs c)) (hG : ∀ e ∈ es, G e.1) (hg : G kv) :
  (∀ (i : Nat) p, es[i]? = some (kv, p) → ∃ v, PVRep E.F w v p ∧ (Instr.lookup t (.map (some (E.blk r))) kv false).run P w = .ok v w ∧ (Instr.lookup t (.map (some (E.blk r))) kv true).run P w = .ok (.tuple #[v, .bool true]) w) ∧
  ((∀ e ∈ es, e.1 ≠ kv) → ∀ v, (zeroValue vt).run P w = .ok v w → (Instr.lookup t (.map (some (E.blk r))) kv false).run P w = .ok v w ∧ (Instr.lookup t (.map (some (E.blk r))) kv true).run P w = .ok (.tuple #[v, .bool false]) w) := by
 obtain ⟨o1, o2, o3, A, o4, o5⟩ := hw.mem.ok r _ hm
 have lf := ko.find w kv A.toList hg (o5.good hG)
 have je := ko.check w A.isEmpty kv hg
 refine ⟨fun i p hi => ?_, fun hn v hv => ?_⟩
 ·obtain ⟨m, q1, q2, q3, q4⟩ := o5.look hi
  rw [q4] at lf
  exact ⟨m.val, q3, by simp only [Instr.lookup, Sem.run_bind, run_underlying mt, MapKept.run_getObj_map o4, Result.andThen_ok, Sem.run_pure, je, lf, Bool.false_eq_true, if_false],
    by simp only [Instr.lookup, Sem.run_bind, run_underlying mt, MapKept.run_getObj_map o4, Result.andThen_ok, Sem.run_pure, je, lf, if_true]⟩
 ·rw [o5.not hn] at lf
  exact ⟨by simp only [Instr.lookup, Sem.run_bind, run_underlying mt, MapKept.run_getObj_map o4, Result.andThen_ok, Sem.run_pure, je, lf, hv, Bool.false_eq_true, if_false],
    by simp only [Instr.lookup, Sem.run_bind, run_underlying mt, MapKept.run_getObj_map o4, Result.andThen_ok, Sem.run_pure, je, lf, hv, if_true]⟩
theorem Zb [mt : MapTy P t kt vt] [ko : KeyOk P kt G] {v : SVal} (hi : es[i]? = some (kv, p)) (hg : G kv) (hG : ∀ e ∈ es, G e.1)
  (h : Reg P F0 w0 dr ops K rest ⟨n, (d, v) :: sl, mem, ck, df⟩ (1 :: acc)) (hw : GW ops g sl := by first | exact trivial | exact rfl) (hx : AH sl x = .c (.mp r k) := by exact rfl) (hm : mem[r]? = some (.map k kA kB es bs c) := by exact rfl) (hy : AH sl y = s := by exact rfl) (hk : Ce s = some kv := by exact rfl) (hv : p.s = v := by exact rfl) :
  Reg P F0 w0 dr ops K (⟨some d, .lookup t x y false, ty, pos, iU, g⟩ :: rest) ⟨n, sl, mem, ck, df⟩ acc := by
 subst hv
 refine Dh hw hm (fun mem ck hm => BF fun E w ρ j0 hρ => ?_) h
 have e1 := hρ x (by simp [Op.operands])
 have e2 := hρ y (by simp [Op.operands])
 rw [hx] at e1; rw [hy] at e2
 have e1 := e1.mp_inv (j0.mem.ok r _ hm).1
 have e2 := Be e2 hk
 obtain ⟨u, q1, q2, _⟩ := (D2 mt.out j0 hm hG hg).1 i p hi
 exact ⟨u, w, E, by simp [execOp, e1, e2, q2], EnvLe.refl _ _, j0, q1.srep⟩
theorem Zc [mt : MapTy P t kt vt] [ko : KeyOk P kt G] {z : PV} [zv : ZeroV P vt z] {v : SVal} (hn : ∀ e ∈ es, e.1 ≠ kv) (hg : G kv) (hG : ∀ e ∈ es, G e.1)
  (h : Reg P F0 w0 dr ops K rest ⟨n, (d, v) :: sl, mem, ck, df⟩ (1 :: acc)) (hw : GW ops g sl := by first | exact trivial | exact rfl) (hx : AH sl x = .c (.mp r k) := by exact rfl) (hm : mem[r]? = some (.map k kA kB es bs c) := by exact rfl) (hy : AH sl y = s := by exact rfl) (hk : Ce s = some kv := by exact rfl) (hv : z.s = v := by exact rfl) :
  Reg P F0 w0 dr ops K (⟨some d, .lookup t x y false, ty, pos, iU, g⟩ :: rest) ⟨n, sl, mem, ck, df⟩ acc := by
 subst hv
 refine Dh hw hm (fun mem ck hm => BF fun E w ρ j0 hρ => ?_) h
 have e1 := hρ x (by simp [Op.operands])
 have e2 := hρ y (by simp [Op.operands])
 rw [hx] at e1; rw [hy] at e2
 have e1 := e1.mp_inv (j0.mem.ok r _ hm).1
 have e2 := Be e2 hk
 obtain ⟨u, z1, z2⟩ := zv.out w
 obtain ⟨q2, _⟩ := (D2 mt.out j0 hm hG hg).2 hn u z1
 exact ⟨u, w, E, by simp [execOp, e1, e2, q2], EnvLe.refl _ _, j0, (z2 E.F w).srep⟩
def iQ (es : List (Value × PV)) (kv : Value) (z p : PV) : Prop := (∃ i : Nat, es[i]? = some (kv, p)) ∨ ((∀ e ∈ es, e.1 ≠ kv) ∧ p = z)
theorem Xm [mt : MapTy P t kt vt] [ko : KeyOk P kt G] {v : SVal} (hi : es[i]? = some (kv, p)) (hg : G kv) (hG : ∀ e ∈ es, G e.1)
  (h : Reg P F0 w0 dr ops K rest ⟨n, (d, .tup [v, .c (.d (.lit (.bool true)))]) :: sl, mem, ck, df⟩ (1 :: acc)) (hw : GW ops g sl := by first | exact trivial | exact rfl) (hx : AH sl x = .c (.mp r k) := by exact rfl) (hm : mem[r]? = some (.map k kA kB es bs c) := by exact rfl) (hy : AH sl y = s := by exact rfl) (hk : Ce s = some kv := by exact rfl) (hv : p.s = v := by exact rfl) :
  Reg P F0 w0 dr ops K (⟨some d, .lookup t x y true, ty, pos, iU, g⟩ :: rest) ⟨n, sl, mem, ck, df⟩ acc := by
 subst hv
 refine Dh hw hm (fun mem ck hm => BF fun E w ρ j0 hρ => ?_) h
 have e1 := hρ x (by simp [Op.operands])
 have e2 := hρ y (by simp [Op.operands])
 rw [hx] at e1; rw [hy] at e2
 have e1 := e1.mp_inv (j0.mem.ok r _ hm).1
 have e2 := Be e2 hk
 obtain ⟨u, q1, _, q2⟩ := (D2 mt.out j0 hm hG hg).1 i p hi
 exact ⟨.tuple #[u, .bool true], w, E, by simp [execOp, e1, e2, q2], EnvLe.refl _ _, j0, .tup _ [u, .bool true] rfl (fun i u' y hu hy => by
  match i with
  | 0 => simp at hu hy; subst hu; subst hy; exact q1.srep
  | 1 => simp at hu hy; subst hu; subst hy; exact .c (.d (.lit _ rfl))
  | i + 2 => simp at hu)⟩
theorem Xn [mt : MapTy P t kt vt] [ko : KeyOk P kt G] {z : PV} [zv : ZeroV P vt z] {v : SVal} (hn : ∀ e ∈ es, e.1 ≠ kv) (hg : G kv) (hG : ∀ e ∈ es, G e.1)
  (h : Reg P F0 w0 dr ops K rest ⟨n, (d, .tup [v, .c (.d (.lit (.bool false)))]) :: sl, mem, ck, df⟩ (1 :: acc)) (hw : GW ops g sl := by first | exact trivial | exact rfl) (hx : AH sl x = .c (.mp r k) := by exact rfl) (hm : mem[r]? = some (.map k kA kB es bs c) := by exact rfl) (hy : AH sl y = s := by exact rfl) (hk : Ce s = some kv := by exact rfl) (hv : z.s = v := by exact rfl) :
  Reg P F0 w0 dr ops K (⟨some d, .lookup t x y true, ty, pos, iU, g⟩ :: rest) ⟨n, sl, mem, ck, df⟩ acc := by
 subst hv
 refine Dh hw hm (fun mem ck hm => BF fun E w ρ j0 hρ => ?_) h
 have e1 := hρ x (by simp [Op.operands])
 have e2 := hρ y (by simp [Op.operands])
 rw [hx] at e1; rw [hy] at e2
 have e1 := e1.mp_inv (j0.mem.ok r _ hm).1
 have e2 := Be e2 hk
 obtain ⟨u, z1, z2⟩ := zv.out w
 obtain ⟨_, q2⟩ := (D2 mt.out j0 hm hG hg).2 hn u z1
 exact ⟨.tuple #[u, .bool false], w, E, by simp [execOp, e1, e2, q2], EnvLe.refl _ _, j0, .tup _ [u, .bool false] rfl (fun i u' y hu hy => by
  match i with
  | 0 => simp at hu hy; subst hu; subst hy; exact (z2 E.F w).srep
  | 1 => simp at hu hy; subst hu; subst hy; exact .c (.d (.lit _ rfl))
  | i + 2 => simp at hu)⟩
theorem Kp (mt : P.underlying t = some (.map kt vt)) [ko : KeyOk P kt G] {E : Env} {w : World} (hw : WOk F0 w0 E w mem ck) (hm : mem[r]? = some (.map k kA kB es bs c)) (hG : ∀ e ∈ es, G e.1) (hg : G kv) (hv : PVRep E.F w v p) :
  (∀ (i : Nat) p0, es[i]? = some (kv, p0) → ∃ w', (Instr.mapUpdate t (.map (some (E.blk r))) kv v).run P w = .ok () w' ∧ EnvLe E w E w' ∧ WOk F0 w0 E w' (mem.set r (.map k kA kB (es.set i (kv, p)) bs c)) ck) ∧
  ((∀ e ∈ es, e.1 ≠ kv) → ∃ w', (Instr.mapUpdate t (.map (some (E.blk r))) kv v).run P w = .ok () w' ∧ EnvLe E w E w' ∧ WOk F0 w0 E w' (mem.set r (.map k kA kB (es ++ [(kv, p)]) (bs ++ [c]) (c + 1))) ck) := by
 have ho := hw.mem.ok r _ hm
 obtain ⟨o1, o2, o3, A, o4, o5⟩ := ho
 have i7 : E.blk r < w.heap.size := (Ox.1 o4).1
 have lf := ko.find w kv A.toList hg (o5.good hG)
 have je := ko.check w false kv hg
 refine ⟨fun i p0 hi => ?_, fun hn => ?_⟩
 ·obtain ⟨m, q1, q2, q3, q4⟩ := o5.look hi
  rw [q4] at lf
  have qt : (Instr.keyThatStays m.key kv).run P w = .ok kv w := by
    rw [q2]
    simp [Instr.keyThatStays, ko.same kv hg]
  refine ⟨{ w with heap := w.heap.setIfInBounds (E.blk r) (.map (A.modify i fun e => { e with key := kv, val := v }) c) }, ?_, ?_⟩
  · simp only [Instr.mapUpdate, Sem.run_bind, run_underlying mt, MapKept.run_getObj_map o4, Result.andThen_ok, je, lf, q1, Option.map_some, U4, qt]
    exact MapKept.run_setObj_map _ o4
  · have hp := hw.poke r _ (.map k kA kB (es.set i (kv, p)) bs c) hm trivial (fun _ => trivial) (Cn w (E.blk r) (.map (A.modify i fun e => { e with key := kv, val := v }) c) o2) (fun j hj => by simp only; rw [R7 (Ne.symm hj)]) (fun hle => by
     obtain ⟨h1, h2, h3, h0, h4, h5⟩ := o5
     refine ⟨o1, o2, o3, _, by simp only; rw [aO i7], by simpa using h1, by simpa using h2, h3, ?_, h4, fun j m' iZ => ?_⟩
     ·have jk := lt_of_getElem? hi
      rw [Bo jk] at hi
      simp only [Option.some.injEq] at hi
      rw [Sb]
      have : (es.map Prod.fst).set i kv = es.map Prod.fst := by
       apply Sa 
       intro j
       by_cases jY : i = j
       ·subst jY
        rw [J5 (by simpa using jk)]
        simp [Bo jk, hi]
       ·rw [J7 jY]
      rw [this]; exact h0
     ·rw [gj] at iZ
      by_cases jY : i = j
      ·subst jY
       rw [if_pos rfl, q1] at iZ
       simp only [Option.map_some, Option.some.injEq] at iZ
       subst iZ
       refine ⟨(h5 i m q1).1, p, ?_, hv.le hle⟩
       rw [J5 (lt_of_getElem? hi)]
      ·rw [if_neg jY] at iZ
       obtain ⟨b1, p', b2, b3⟩ := h5 j m' iZ
       exact ⟨b1, p', by rw [J7 jY]; exact b2, b3.le hle⟩)
    exact ⟨hp.2, hp.1⟩
 ·rw [o5.not hn] at lf
  refine ⟨{ w with heap := w.heap.setIfInBounds (E.blk r) (.map (A.push { key := kv, val := v, born := c }) (c + 1)) }, ?_, ?_⟩
  · simp only [Instr.mapUpdate, Sem.run_bind, run_underlying mt, MapKept.run_getObj_map o4, Result.andThen_ok, je, lf]
    exact MapKept.run_setObj_map _ o4
  · have hp := hw.poke r _ (.map k kA kB (es ++ [(kv, p)]) (bs ++ [c]) (c + 1)) hm trivial (fun _ => trivial) (Cn w (E.blk r) (.map (A.push { key := kv, val := v, born := c }) (c + 1)) o2) (fun j hj => by simp only; rw [R7 (Ne.symm hj)]) (fun hle => by
     obtain ⟨h1, h2, h3, h0, h4, h5⟩ := o5
     refine ⟨o1, o2, o3, _, by simp only; rw [aO i7], by simp [h1], by simp [h2], ?_, ?_, fun b hb => ?_, fun j m' iZ => ?_⟩
     ·rw [ZD]
      refine ⟨h3, by simp, fun a ha b hb q => ?_⟩
      simp at hb
      subst hb
      have := h4 a ha
      omega
     ·rw [Ag', ZD]
      refine ⟨h0, by simp, fun a ha b hb q => ?_⟩
      simp at hb
      obtain ⟨e, he, rfl⟩ := List.mem_map.1 ha
      exact hn e he (q.trans hb)
     ·rcases EY.1 hb with hb | hb
      ·have := h4 b hb; omega
      ·simp at hb; omega
     ·rw [Array.getElem?_push] at iZ
      split at iZ
      ·rename_i hj
       simp only [Option.some.injEq] at iZ
       subst iZ
       exact ⟨by rw [hj, Oy (by omega)]; simp [h1, h2], p, by rw [hj, Oy (by omega)]; simp [h1], hv.le hle⟩
      ·obtain ⟨b1, p', b2, b3⟩ := h5 j m' iZ
       exact ⟨by rw [Np (lt_of_getElem? b1)]; exact b1, p', by rw [Np (lt_of_getElem? b2)]; exact b2, b3.le hle⟩)
    exact ⟨hp.2, hp.1⟩
theorem Qt [mt : MapTy P t kt vt] [ko : KeyOk P kt G] {z : Operand} {u : SVal} (hn : ∀ e ∈ es, e.1 ≠ kv) (hg : G kv) (hG : ∀ e ∈ es, G e.1)
  (h : Reg P F0 w0 dr ops K rest ⟨n, sl, f', ck, df⟩ (2 :: acc)) (hw : GW ops g sl := by first | exact trivial | exact rfl) (hx : AH sl x = .c (.mp r k) := by exact rfl) (hm : mem[r]? = some (.map k kA kB es bs c) := by exact rfl) (hy : AH sl y = s := by exact rfl) (hk : Ce s = some kv := by exact rfl) (hz : AH sl z = u := by exact rfl) (hu : SD u p := by first | exact (show SD (.c _) (.one _) from rfl) | exact (show SD (.agg _) (.agg _) from rfl)) (iZ : mem.set r (.map k kA kB (es ++ [(kv, p)]) (bs ++ [c]) (c + 1)) = f' := by repeat' (first | exact A6 rfl | apply AG rfl)) :
  Reg P F0 w0 dr ops K (⟨none, .mapUpdate t x y z, ty, pos, iU, g⟩ :: rest) ⟨n, sl, mem, ck, df⟩ acc := by
 subst iZ
 refine IE (jx := []) hw (JV fun E w ρ j0 hρ => ?_) h
 have e1 := hρ x (by simp [Op.operands])
 have e2 := hρ y (by simp [Op.operands])
 have e3 := hρ z (by simp [Op.operands])
 rw [hx] at e1; rw [hy] at e2; rw [hz] at e3
 have e1 := e1.mp_inv (j0.mem.ok r _ hm).1
 have e2 := Be e2 hk
 obtain ⟨w', q1, q2, q3⟩ := (Kp mt.out j0 hm hG hg (hu.prep e3)).2 hn
 exact ⟨w', E, by simp [execOp, e1, e2, q1], q2, q3⟩
theorem Xo [mt : MapTy P t kt vt] [ko : KeyOk P kt G] {z : Operand} {ji : List (Value × PV)} {u : SVal} {p0 : PV} (hi : es[i]? = some (kv, p0)) (hg : G kv) (hG : ∀ e ∈ es, G e.1)
  (h : Reg P F0 w0 dr ops K rest ⟨n, sl, f', ck, df⟩ (2 :: acc)) (j6 : es.set i (kv, p) = ji := by exact rfl) (hw : GW ops g sl := by first | exact trivial | exact rfl) (hx : AH sl x = .c (.mp r k) := by exact rfl) (hm : mem[r]? = some (.map k kA kB es bs c) := by exact rfl) (hy : AH sl y = s := by exact rfl) (hk : Ce s = some kv := by exact rfl) (hz : AH sl z = u := by exact rfl) (hu : SD u p := by first | exact (show SD (.c _) (.one _) from rfl) | exact (show SD (.agg _) (.agg _) from rfl)) (iZ : mem.set r (.map k kA kB ji bs c) = f' := by repeat' (first | exact A6 rfl | apply AG rfl)) :
  Reg P F0 w0 dr ops K (⟨none, .mapUpdate t x y z, ty, pos, iU, g⟩ :: rest) ⟨n, sl, mem, ck, df⟩ acc := by
 subst iZ; subst j6
 refine IE (jx := []) hw (JV fun E w ρ j0 hρ => ?_) h
 have e1 := hρ x (by simp [Op.operands])
 have e2 := hρ y (by simp [Op.operands])
 have e3 := hρ z (by simp [Op.operands])
 rw [hx] at e1; rw [hy] at e2; rw [hz] at e3
 have e1 := e1.mp_inv (j0.mem.ok r _ hm).1
 have e2 := Be e2 hk
 obtain ⟨w', q1, q2, q3⟩ := (Kp mt.out j0 hm hG hg (hu.prep e3)).1 i p0 hi
 exact ⟨w', E, by simp [execOp, e1, e2, q1], q2, q3⟩
theorem Te [mt : MapTy P t kt vt] 
  (h : Reg P F0 w0 dr ops K rest ⟨n, (d, .c (.it r' (ck + 1))) :: sl, f', ck + 1, df⟩ (2 :: acc)) (hw : GW ops g sl := by first | exact trivial | exact rfl) (hx : AH sl x = .c (.mp r k) := by exact rfl) (hm : mem[r]? = some (.map k kA kB es bs c) := by exact rfl) (hr : mem.length = r' := by first | exact (rfl : _ = 0) | exact (rfl : _ = 1) | exact (rfl : _ = 2) | exact (rfl : _ = 3) | exact (rfl : _ = 4) | exact (rfl : _ = 5) | exact (rfl : _ = 6) | exact (rfl : _ = 7) | exact (rfl : _ = 8)) (iZ : mem ++ [Blk.iter (ck + 1) r k c []] = f' := by repeat' (first | exact A6 rfl | apply AG rfl)) :
  Reg P F0 w0 dr ops K (⟨some d, .range t x, ty, pos, iU, g⟩ :: rest) ⟨n, sl, mem, ck, df⟩ acc := by
 subst hr; subst iZ
 refine U6 (jx := []) hw (BF fun E w ρ j0 hρ => ?_) h
 have e1 := hρ x (by simp [Op.operands])
 rw [hx] at e1
 obtain ⟨o1, o2, o3, A, o4, o5⟩ := j0.mem.ok r _ hm
 have e1 := e1.mp_inv o1
 have j2 : r ≠ mem.length := by have := lt_of_getElem? hm; omega
 have jM := j0.allocObj (.mapIter (some (E.blk r)) c #[] c) (.iter (ck + 1) r k c []) (fun _ => ⟨by simp [Env.upd], by simp [Env.upd]; exact j0.le0, by simp only [Env.upd, if_true]; exact j0.fresh.1, E.blk r, by simp only [Env.upd, if_true]; exact XN w _, by simp only [Env.upd, if_neg j2]; omega, fun _ => by simp [Env.upd, j2]⟩)
 refine ⟨.pointer (some ⟨w.heap.size, 0, none⟩), _, _, ?_, jM.2, jM.1, .c (.it _ _ _ rfl (by simp [Env.upd]) (fun _ => by simp [Env.upd]))⟩
 have := run_range_map (P := P) w t kt vt (E.blk r) A c mt.out o4
 simp [execOp, e1, this]
theorem Qu {E : Env} {w : World} (h : MapOk E w es bs c A) : A.toList.map (·.born) = bs := by
 obtain ⟨h1, h2, h3, h0, h4, h5⟩ := h
 apply Sa
 intro i
 rw [BU, LV]
 cases hm : A[i]? with
 | none =>
   have : A.size ≤ i := by simpa using hm
   rw [XL (by omega)]
   rfl
 | some m => rw [(h5 i m hm).1]; rfl
theorem cq {k' : Nat} {sb : List Nat}
  (h1 : (∀ b ∈ bs, b ∈ sb) → Reg P F0 w0 false ops K rest ⟨n, (d, .tup [.c (.d (.lit (.bool false)))]) :: sl, mem, ck, df⟩ (2 :: acc))
  (h2 : ∀ (i : Nat) b kv p, bs[i]? = some b → b ∉ sb → es[i]? = some (kv, p) → Reg P F0 w0 false ops K rest ⟨n, (d, .tup [.c (.d (.lit (.bool true))), .junk, .junk]) :: sl, mem.set r (.iter k r' k' c (sb ++ [b])), ck, df⟩ (2 :: acc))
  (hw : GW ops g sl := by first | exact trivial | exact rfl) (hx : AH sl x = .c (.it r k) := by exact rfl) (hm : mem[r]? = some (.iter k r' k' c sb) := by exact rfl) (kW : mem[r']? = some (.map k' kt vt es bs c) := by exact rfl) :
  Reg P F0 w0 false ops K (⟨some d, .next x false, ty, pos, iU, g⟩ :: rest) ⟨n, sl, mem, ck, df⟩ acc := by
 refine Yu (R := fun v m c1 jx => (((∀ b ∈ bs, b ∈ sb) ∧ v = .tup [.c (.d (.lit (.bool false)))] ∧ m = mem ∧ c1 = ck) ∨ ∃ (i : Nat) (b : Nat) (kv : Value) (p : PV), bs[i]? = some b ∧ b ∉ sb ∧ es[i]? = some (kv, p) ∧ v = .tup [.c (.d (.lit (.bool true))), .junk, .junk] ∧ m = mem.set r (.iter k r' k' c (sb ++ [b])) ∧ c1 = ck) ∧ jx = []) rfl hw (Tc fun E w ρ j0 hρ => ?_) ?_
 ·have e1 := hρ x (by simp [Op.operands])
  rw [hx] at e1
  obtain ⟨o1, o2, o3, b0, o4, o5, o6⟩ := j0.mem.ok r _ hm
  obtain ⟨p1, p2, p3, A, p4, p5⟩ := j0.mem.ok r' _ kW
  have e1 := e1.it_inv o1
  have n9 := o6 p1
  subst n9
  have i7 : E.blk r < w.heap.size := (Ox.1 o4).1
  have og := Qu p5
  have hold : ∀ x ∈ A.toList, x.born < c := fun x hx => p5.2.2.2.2.1 _ (by rw [← og]; exact List.mem_map.2 ⟨x, hx, rfl⟩)
  rcases run_next_at (P := P) w ty (E.blk r) (E.blk r') c c sb.toArray A c o4 p4 hold (Nat.le_refl _) with ⟨q1, q2⟩ | ⟨e, he, w1, xR, q2⟩
  · refine ⟨.tuple #[.bool false], w, E, _, _, _, by simp [execOp, e1, q2], EnvLe.refl _ _, j0, .tup [.c (.d (.lit (.bool false)))] [.bool false] rfl (fun i u y hu hy => ?_), .inl ⟨fun b hb => ?_, rfl, rfl, rfl⟩⟩
    · match i with
      | 0 => simp at hu hy; subst hu; subst hy; exact .c (.d (.lit _ rfl))
      | i + 1 => simp at hu
    · rw [← og] at hb
      obtain ⟨m, jn, rfl⟩ := List.mem_map.1 hb
      have hl : leftOf A sb.toArray = #[] := Array.eq_empty_of_size_eq_zero q1
      unfold leftOf at hl
      rw [Array.filter_eq_empty_iff] at hl
      have := hl m (by simpa using jn)
      simpa using this
  · have oW : e ∈ A.toList ∧ e.born ∉ sb := by
      unfold leftOf at he
      simpa using he
    obtain ⟨i, hi⟩ := L0.1 oW.1
    have zO : A[i]? = some e := by rw [← LV]; exact hi
    obtain ⟨b1, p, b2, b3⟩ := p5.2.2.2.2.2 i e zO
    have jT : w1.heap = w.heap := by rcases xR with rfl | rfl <;> rfl
    have jO : Bel w0.heap.size w w1 := by rcases xR with rfl | rfl; exact Bel.refl _ _; exact (Bel.refl _ _).drew
    have hp := j0.poke (w' := Go.ChangeMaps.setBlock w1 (E.blk r) (.mapIter (some (E.blk r')) c (sb.toArray.push e.born) c)) r _ (.iter k r' k' c (sb ++ [e.born])) hm trivial (fun _ => trivial)
      (jO.trans (Cn w1 (E.blk r) _ o2)) (fun j hj => by simp only [Go.ChangeMaps.setBlock]; rw [R7 (Ne.symm hj), jT]) (fun hle => by
        refine ⟨o1, o2, o3, E.blk r', ?_, o5, fun _ => rfl⟩
        simp only [Go.ChangeMaps.setBlock]
        rw [aO (by rw [jT]; exact i7)]
        simp)
    refine ⟨.tuple #[.bool true, e.key, e.val], _, E, _, _, _, by simp [execOp, e1, q2], hp.2, hp.1, .tup [.c (.d (.lit (.bool true))), .junk, .junk] [.bool true, e.key, e.val] rfl (fun i u y hu hy => ?_), .inr ⟨i, e.born, e.key, p, b1, oW.2, b2, rfl, rfl, rfl⟩⟩
    match i with
    | 0 => simp at hu hy; subst hu; subst hy; exact .c (.d (.lit _ rfl))
    | 1 => simp at hu hy; subst hu; subst hy; exact .junk _
    | 2 => simp at hu hy; subst hu; subst hy; exact .junk _
    | i + 3 => simp at hu
 ·rintro v m c1 jx ⟨⟨q1, rfl, rfl, rfl⟩ | ⟨i, b, kv, p, q1, q2, q3, rfl, rfl, rfl⟩, rfl⟩
  · exact h1 q1
  · exact h2 i b kv p q1 q2 q3
theorem Zd {k' b : Nat} {sb : List Nat} {ks v : SVal} (hb : bs[i]? = some b) (he : es[i]? = some (kv, p)) (qt : ∀ E w, SRep E w kv ks)
   (h : Reg P F0 w0 dr ops K rest ⟨n, (d, .tup [ks, v]) :: sl, mem, ck, df⟩ (1 :: acc))
   (hw : GW ops g sl := by first | exact trivial | exact rfl) (hx : AH sl x = .c (.it r k) := by exact rfl) (hm : mem[r]? = some (.iter k r' k' c (sb ++ [b])) := by exact rfl) (kW : mem[r']? = some (.map k' kt vt es bs c) := by exact rfl) (hv : p.s = v := by exact rfl) :
   Reg P F0 w0 dr ops K (⟨some d, .entry x, ty, pos, iU, g⟩ :: rest) ⟨n, sl, mem, ck, df⟩ acc := by
 subst hv
 refine gD hw hm kW (fun mem ck hm kW => BF fun E w ρ j0 hρ => ?_) h
 have e1 := hρ x (by simp [Op.operands])
 rw [hx] at e1
 obtain ⟨o1, o2, o3, b0, o4, o5, o6⟩ := j0.mem.ok r _ hm
 obtain ⟨p1, p2, p3, A, p4, p5⟩ := j0.mem.ok r' _ kW
 have e1 := e1.it_inv o1
 have n9 := o6 p1
 subst n9
 have og := Qu p5
 obtain ⟨m, q1, q2, q3, q4⟩ := p5.look he
 have sf := (p5.2.2.2.2.2 i m q1).1
 rw [hb] at sf
 simp only [Option.some.injEq] at sf
 subst sf
 have hr := run_entry_at (P := P) w (E.blk r) (E.blk r') c sb.toArray A c m (by rw [o4]; simp) p4 (Cb (by rw [LV]; exact q1)) (by rw [og]; exact p5.2.2.1)
 refine ⟨.tuple #[m.key, m.val], w, E, by simp [execOp, e1, hr], EnvLe.refl _ _, j0, .tup _ [m.key, m.val] rfl (fun i u y hu hy => ?_)⟩
 match i with
 | 0 => simp at hu hy; subst hu; subst hy; rw [q2]; exact qt E w
 | 1 => simp at hu hy; subst hu; subst hy; exact q3.srep
 | i + 2 => simp at hu
end
end Go.Abs
end
