/-
  bag.merge, bag.Add, bag.Subtract.
-/
import Derived.Test.YtmpgmjlanngkfaaGreatPos
import Derived.Test.YtmpgmjlanngkfaaGreatExh
import Derived.Test.YtmpgmjlanngkfaaGreatExb
import Derived.Test.YtmpgmjlanngkfaaGreatOpa
section
namespace Go.Proofs.YtmpgmjlanngkfaaGreat
open Go.Abs Go.RowKit
set_option linter.unusedSimpArgs false
set_option maxRecDepth 100000
variable {l : List Entry}
theorem KQ (h : l.all AU = true) : ∀ e ∈ l, AG e.row := fun e he => by
 have := CN.1 h e he
 simp only [AU, Bi] at this
 exact A8 this.1
theorem HF (l : List Entry) : ∀ e, e ∈ sortE l → ∃ x ∈ l, x.row = e.row := by
 induction l using sortE.induct with
 | case1 l h => intro e he; rw [sortE, dif_pos h] at he; exact ⟨e, (Ms.1 he).1, rfl⟩
 | case2 l h ih1 ih2 =>
   intro e he
   rw [sortE, dif_neg h] at he
   obtain ⟨x, hx, hr⟩ := C2 _ _ e he
   rcases hx with hx | hx
   ·obtain ⟨y, hy, hq⟩ := ih1 x hx
    exact ⟨y, IS hy, hq.trans hr⟩
   ·obtain ⟨y, hy, hq⟩ := ih2 x hx
    exact ⟨y, U1 hy, hq.trans hr⟩
theorem D7 : ∀ {l : List Entry} {p : Option Entry}, (∀ e ∈ l, e.ok = true) → l.Pairwise eR → (∀ q, p = some q → ∀ e ∈ l, eR q e) → goodFrom p l = true
 | [], _, _, _, _ => rfl
 | x :: l, p, h, hs, hp => by
   obtain ⟨h1, h2⟩ := Mr.1 hs
   have ih := D7 (p := some x) (fun e he => h e (by simp [he])) h2 (fun q hq => by cases hq; exact h1)
   simp only [goodFrom, Bi]
   refine ⟨⟨h x (by simp), ?_⟩, ih⟩
   cases p with
   | none => rfl
   | some q => exact decide_eq_true (hp q rfl x (by simp))
theorem DC (h : (A4 l).2 = 0) : (A4 l).1 = sortE l ∧ Sorted (sortE l) ∧ Aj (sortE l) = true ∧ ∀ r, A1 (sortE l) r = A1 l r := by
 unfold A4 at *
 split at h
 ·rename_i hall
  rw [if_pos hall]
  obtain ⟨p1, p2⟩ := BX l (KQ hall)
  refine ⟨Mh h, p1, ?_, p2⟩
  unfold AS at h
  split at h
  ·cases h
  ·split at h
   ·rename_i hl hc
    simp only [Aj, Bi, decide_eq_true_eq]
    refine ⟨by omega, D7 (fun e he => ?_) p1.up (by simp)⟩
    have h1 := CN.1 hc e he
    obtain ⟨x, hx, hr⟩ := HF l e he
    have h2 := CN.1 hall x hx
    simp only [AU, Bi] at h2
    simp only [Entry.ok, Bi, decide_eq_true_eq]
    rw [← hr]
    exact ⟨⟨h2.1, h1⟩, p1.nz e he⟩
   ·cases h
 ·cases h
theorem AY (h : Aj l = true) : Sorted l := by
 obtain ⟨_, hm⟩ := AF h
 refine ⟨?_, fun e he => (hm e he).2.2, fun e he => A8 (hm e he).1⟩
 simp only [Aj, Bi] at h
 have key : ∀ {l : List Entry} {p : Option Entry}, goodFrom p l = true → l.Pairwise eR ∧ ∀ q, p = some q → ∀ e ∈ l, eR q e := by
  intro l
  induction l with
  | nil => intro p _; exact ⟨.nil, by simp⟩
  | cons x l ih =>
    intro p hp
    simp only [goodFrom, Bi] at hp
    obtain ⟨i1, i2⟩ := ih hp.2
    refine ⟨Mr.2 ⟨i2 x rfl, i1⟩, fun q hq e he => ?_⟩
    subst hq
    have hqx : eR q x := by simpa [eR] using hp.1.2
    rcases Fb.1 he with rfl | he
    ·exact hqx
    ·exact Xp _ _ _ hqx (i2 x rfl e he)
 exact (key h.2).1
theorem Jw (h : Aj l = true) : A4 l = (l, 0) := by
 have hs := AY h
 obtain ⟨hlen, hm⟩ := AF h
 have hall : l.all AU = true := CN.2 fun e he => by
  obtain ⟨h1, h2, _⟩ := hm e he
  simp only [AU, Av, Bi, decide_eq_true_eq]
  exact ⟨h1, h2.1, h2.2⟩
 obtain ⟨p1, p2⟩ := BX l (KQ hall)
 have : sortE l = l := p1.unique hs p2
 rw [A4, if_pos hall, this, AS, if_neg (by omega), if_pos]
 refine CN.2 fun e he => ?_
 obtain ⟨_, h2, _⟩ := hm e he
 simp only [Av, Bi, decide_eq_true_eq]
 exact h2
end Go.Proofs.YtmpgmjlanngkfaaGreat
end
section
namespace Go.Proofs.YtmpgmjlanngkfaaGreat
open Go.Abs Go.RowKit
attribute [local irreducible] ARun Au MCall PCall HCall Ak SF CF CFs Af Ag Ar fin AP VLe
set_option linter.unusedSimpArgs false
set_option maxRecDepth 100000
set_option maxHeartbeats 4000000
def cu (v : Val) : Int := if v.kind ≠ 1 then -1 else if v.int = 0 then 0 else 1
def bW (a b : Int) : Val := if a = 0 ∨ b = 0 then BV false else if a < 0 ∨ b < 0 then Val.null else BV true
def bX (a b : Int) : Val := if a = 1 ∨ b = 1 then BV true else if a < 0 ∨ b < 0 then Val.null else BV false
end Go.Proofs.YtmpgmjlanngkfaaGreat
end
section
namespace Go.Proofs.YtmpgmjlanngkfaaGreat
open Go.Abs Go.RowKit
set_option linter.unusedSimpArgs false
set_option maxRecDepth 100000
theorem RW {a b : ByteArray} (h : a.toList = b.toList) : a = b := by
 rw [ByteArray.toList_eq, ByteArray.toList_eq] at h
 cases a; cases b
 simp only at h
 congr
 exact Array.toList_inj.1 h
theorem YW {a b : Val} : CJ a b = true ↔ a = b := by
 refine ⟨fun h => ?_, fun h => by rw [h]; exact E8 _⟩
 simp only [CJ, Bi, beq_iff_eq] at h
 obtain ⟨h1, h2, h3⟩ := h
 have := RW h3
 cases a; cases b; simp_all
theorem UM : ∀ {r s : List Val}, Bz r s = true ↔ r = s
 | [], [] => by simp [Bz]
 | a :: x, b :: y => by simp [Bz, YW, UM (r := x) (s := y)]
 | [], _ :: _ => by simp [Bz]
 | _ :: _, [] => by simp [Bz]
end Go.Proofs.YtmpgmjlanngkfaaGreat
end
section
namespace Go.Proofs.YtmpgmjlanngkfaaGreat
open Go.Abs Go.RowKit
attribute [local irreducible] ARun Au MCall PCall HCall Ak SF CF CFs Af Ag Ar fin AP VLe
set_option linter.unusedSimpArgs false
set_option maxRecDepth 100000
set_option maxHeartbeats 4000000
def dw (e : List Trm) (pos n : Nat) : Int := match AW [] n (e.drop pos) with
 | none => -1
 | some (_, r) => ((e.length - r.length : Nat) : Int)
def cO (op a b : Int) : Val := if op = 4 then Val.ofInt (a + b) else if op = 5 then Val.ofInt (a - b) else if op = 6 then Val.ofInt (a * b) else JJ a b
def Pe (ss : List (List Trm)) : Dat := .sl (ss.map fun s => [Bw s])
end Go.Proofs.YtmpgmjlanngkfaaGreat
end
section
namespace Go.Abs
open Go.RowKit
section
variable {P : Program} {T : TypeId → Option TI} {F0 : Nat → Prop} {w0 : World}
variable {dr : Bool} {ops rest : List Oper} {K : St → Prop} {n : Nat} {sl : List (Nat × SVal)} {mem : List Blk} {ck : Nat} {df : List (FuncId × List Cell)} {acc : List Nat}
variable {d : Tmp} {op : Op} {ty : TypeId} {pos : String} {aft : Array Edge} {g : Option (Nat × Bool)}
end
end Go.Abs
end
section
namespace Go.Proofs.YtmpgmjlanngkfaaGreat
open Go.Abs Go.RowKit
set_option linter.unusedSimpArgs false
set_option maxRecDepth 100000
variable {l : List Entry} {n : Nat}
def A9 : List Entry → Nat
 | [] => 0
 | e :: l => e.count.natAbs + A9 l
theorem CC (a b : List Entry) : A9 (a ++ b) = A9 a + A9 b := by
 induction a with
 | nil => simp [A9]
 | cons e a ih => simp only [List.cons_append, A9, ih]; omega
theorem IF (a b : List Entry) : A9 (mergeE a b) ≤ A9 a + A9 b := by
  induction a, b using mergeE.induct with
  | case1 b => simp [mergeE, A9]
  | case2 a h => rw [mergeE]; · omega
                 · exact h
  | case3 x a y b h ih => rw [mergeE, if_pos h]; simp only [A9] at ih ⊢; omega
  | case4 x a y b h1 h2 ih => rw [mergeE, if_neg h1, if_pos h2]; simp only [A9] at ih ⊢; omega
  | case5 x a y b h1 h2 ih =>
    rw [mergeE, if_neg h1, if_neg h2, CC]
    simp only [A9] at ih ⊢
    split
    · simp only [A9]; omega
    · simp only [A9]; omega
theorem FQ (p : Entry → Bool) (l : List Entry) : A9 (l.filter p) ≤ A9 l := by
 induction l with
 | nil => exact Nat.le_refl _
 | cons e l ih =>
   rw [WQ]
   split
   ·simp only [A9]; omega
   ·simp only [A9]; omega
theorem Kf (l : List Entry) : A9 (sortE l) ≤ A9 l := by
 induction l using sortE.induct with
 | case1 l h => rw [sortE, dif_pos h]; exact FQ _ _
 | case2 l h ih1 ih2 =>
   rw [sortE, dif_neg h]
   have h1 := IF (sortE (l.take (l.length / 2))) (sortE (l.drop (l.length / 2)))
   have h2 := CC (l.take (l.length / 2)) (l.drop (l.length / 2))
   rw [XM] at h2
   omega
theorem FR {e : Entry} (h : e ∈ l) : e.count.natAbs ≤ A9 l := by
 induction l with
 | nil => cases h
 | cons x l ih =>
   rcases Fb.1 h with rfl | h
   ·simp only [A9]; omega
   ·have := ih h; simp only [A9]; omega
theorem Kg (h : ∀ e ∈ l, e.count ≠ 0) : l.length ≤ A9 l := by
 induction l with
 | nil => exact Nat.le_refl _
 | cons e l ih =>
   have h1 := ih fun x hx => h x (by simp [hx])
   have h2 := h e (by simp)
   simp only [A9, List.length_cons]; omega
theorem I5 (h : ∀ e ∈ l, e.count.natAbs ≤ n) : A9 l ≤ n * l.length := by
 induction l with
 | nil => exact Nat.zero_le _
 | cons e l ih =>
   have h1 := ih fun x hx => h x (by simp [hx])
   have h2 := h e (by simp)
   simp only [A9, List.length_cons, Nat.mul_add]; omega
def wS (f : List Val → Int) : List Entry → Int
 | [] => 0
 | e :: l => e.count * f e.row + wS f l
theorem DF (f : List Val → Int) (a b : List Entry) : wS f (a ++ b) = wS f a + wS f b := by
 induction a with
 | nil => simp [wS]
 | cons e a ih => simp only [List.cons_append, wS, ih]; omega
theorem UQ {f g : List Val → Int} (h : ∀ e ∈ l, f e.row = g e.row) : wS f l = wS g l := by
 induction l with
 | nil => rfl
 | cons e l ih => rw [wS, wS, h e (by simp), ih fun x hx => h x (by simp [hx])]
theorem Y2 (f g : List Val → Int) (l : List Entry) : wS (fun s => f s + g s) l = wS f l + wS g l := by
 induction l with
 | nil => rfl
 | cons e l ih => simp only [wS, ih, Int.mul_add]; omega
theorem Lx (f : List Val → Int) (a b : List Entry) : (∀ e ∈ a, AG e.row) → (∀ e ∈ b, AG e.row) → wS f (mergeE a b) = wS f a + wS f b := by
  induction a, b using mergeE.induct with
  | case1 b => intro _ _; simp [mergeE, wS]
  | case2 a h => intro _ _; rw [mergeE]; · simp [wS]
                 · exact h
  | case3 x a y b h ih =>
    intro ha hb
    have ih := ih (fun e he => ha e (by simp [he])) hb
    rw [mergeE, if_pos h]; simp only [wS] at ih ⊢; rw [ih]; omega
  | case4 x a y b h1 h2 ih =>
    intro ha hb
    have ih := ih ha (fun e he => hb e (by simp [he]))
    rw [mergeE, if_neg h1, if_pos h2]; simp only [wS] at ih ⊢; rw [ih]; omega
  | case5 x a y b h1 h2 ih =>
    intro ha hb
    have ih := ih (fun e he => ha e (by simp [he])) (fun e he => hb e (by simp [he]))
    have h0 : Ai x.row y.row = 0 := by omega
    have hr := EK (ha x (by simp)) (hb y (by simp)) h0
    rw [mergeE, if_neg h1, if_neg h2, DF, ih]
    simp only [wS]
    rw [← hr]
    have hm : (x.count + y.count) * f x.row = x.count * f x.row + y.count * f x.row := Int.add_mul ..
    split
    · rename_i hz
      rw [hz, Int.zero_mul] at hm
      simp only [wS]; omega
    · simp only [wS]; omega
theorem R2 (f : List Val → Int) (l : List Entry) : wS f (l.filter (fun e => decide (e.count ≠ 0))) = wS f l := by
 induction l with
 | nil => rfl
 | cons e l ih =>
   rw [WQ]
   split
   ·simp only [wS, ih]
   ·rename_i h
    have : e.count = 0 := by simpa using h
    simp only [wS, ih, this]; omega
theorem Kh (f : List Val → Int) (l : List Entry) : (∀ e ∈ l, AG e.row) → wS f (sortE l) = wS f l := by
 induction l using sortE.induct with
 | case1 l h => intro _; rw [sortE, dif_pos h]; exact R2 f l
 | case2 l h ih1 ih2 =>
   intro hc
   have c1 : ∀ e ∈ l.take (l.length / 2), AG e.row := fun e he => hc e (IS he)
   have c2 : ∀ e ∈ l.drop (l.length / 2), AG e.row := fun e he => hc e (U1 he)
   rw [sortE, dif_neg h, Lx f _ _ (BX _ c1).1.cl (BX _ c2).1.cl, ih1 c1, ih2 c2, ← DF, XM]
def UR (r s : List Val) : Int := if Ai s r = 0 then 1 else 0
theorem PD (l : List Entry) (r : List Val) : A1 l r = wS (UR r) l := by
 induction l with
 | nil => rfl
 | cons e l ih =>
   rw [A1, wS, ih, UR]
   split <;> simp
structure Tiny (n w : Nat) (b : List Entry) : Prop where
 v : Aj b = true
 w : ∀ e ∈ b, e.row.length = w
 s : A9 b ≤ n
theorem Tiny.cl {w : Nat} {b : List Entry} (h : Tiny n w b) : ∀ e ∈ b, AG e.row := fun e he => A8 ((AF h.v).2 e he).1
theorem Ht {w : Nat} (hr : ∀ e ∈ l, AD e.row = true) (hw : ∀ e ∈ l, e.row.length = w) (hs : A9 l ≤ n) (hn : n ≤ 4096) : Tiny n w (sortE l) ∧ ∀ e ∈ sortE l, e.count.natAbs ≤ 4096 := by
 obtain ⟨h1, _⟩ := BX l fun e he => A8 (hr e he)
 have h2 := Kf l
 have h3 : ∀ e ∈ sortE l, e.count.natAbs ≤ 4096 := fun e he => by have := FR he; omega
 have h4 := Kg h1.nz
 refine ⟨⟨?_, fun e he => ?_, by omega⟩, h3⟩
 ·rw [Aj, D7 (fun e he => ?_) h1.up (by simp), Bool.and_true]
  ·simp only [decide_eq_true_eq]; omega
  ·obtain ⟨x, hx, q⟩ := HF l e he
   have a1 := hr x hx
   rw [q] at a1
   have a2 := h1.nz e he
   have a3 := h3 e he
   simp only [Entry.ok, a1, Av, Bool.true_and, Bi, decide_eq_true_eq]
   omega
 ·obtain ⟨x, hx, q⟩ := HF l e he
  rw [← q]; exact hw x hx
end Go.Proofs.YtmpgmjlanngkfaaGreat
end
section
namespace Go.Proofs.YtmpgmjlanngkfaaGreat
open Go.Abs Go.RowKit
attribute [local irreducible] ARun Au MCall PCall HCall Ak SF CF CFs Af Ag Ar fin AP VLe
set_option linter.unusedSimpArgs false
set_option maxRecDepth 100000
set_option maxHeartbeats 4000000
theorem YQ (e : Entry) (out : List Entry) : HC 97 [.agg (e.d.map .d), (iC 0), .c (.bp 0 0 0)] [.box 0 [.arr 1 0 out.length], .arr 0 56 2 (out.map Entry.d)] (.tup []) [.box 0 [.arr 1 0 out.length], .arr 0 56 2 (out.map Entry.d)] := by
 refine AI hT Tryz.func97 Tryz.ntmps97 [] fun B => ?_
 repeat' first | refine kz ?_ | refine kf ?_ | exact k0 | refine Ab ?_
theorem J4 (e : Entry) (n : Int) (hn : n ≠ 0) (out : List Entry) (ho : out.length ≤ 1000000) (hr : e.row.length ≤ 1000000) : HC 97 [.agg (e.d.map .d), (iC n), .c (.bp 0 0 0)] [.box 0 [.arr 1 0 out.length], .arr 0 56 2 (out.map Entry.d)] (.tup []) [.box 0 [.arr 1 1 (out.length + 1)], .arr 1 56 2 ((out ++ [(⟨e.row, n⟩ : Entry)]).map Entry.d)] := by
 have hc := Mi e.row hr
 refine AI hT Tryz.func97 Tryz.ntmps97 [] fun B => ?_
 repeat' first | refine kz ?_ | refine Aa (hc) ?_ | refine kf ?_ | exact k0 | refine Ab ?_ | refine m1 ?_ ?_
 rw [Ah']; rfl
def sc (s : Int) (e : Entry) : Entry := ⟨e.row, s * e.count⟩
theorem Pu (a : List Entry) : mergeE a [] = a := by cases a <;> simp [mergeE]
theorem Iw (b : List Entry) : mergeE [] b = b := by simp [mergeE]
theorem Oh (a b : List Entry) (s : Int) (hs : s = 1 ∨ s = -1) (ha : Aj a = true) (hb : Aj b = true) : PC 48 [.one (Am a), .one (Am b), .one (.lit (.int .i64 s))] (.tup [.one (Am (AS (mergeE a (b.map (sc s)))).1), .one (.lit (.int .i64 (AS (mergeE a (b.map (sc s)))).2))]) := by
 obtain ⟨hal, hma⟩ := AF ha
 obtain ⟨hbl, hmb⟩ := AF hb
 refine Ac hT Tryz.func48 Tryz.ntmps48 [.tmp 6, .tmp 7] fun B => ?_
 repeat' first | refine kz ?_ | refine Aw ?_ | refine kh ?_ ?_ | exact ⟨⟩ | fail
 refine G8 0 0 56 2 ?_
 refine A0 (X := List Entry × List Entry × Nat × List Entry) ([0, 1, 10] ++ List.range' 17 67) (fun x => (∀ e ∈ x.1, e ∈ a) ∧ (∀ e ∈ x.2.1, e ∈ b) ∧ x.1.length ≤ a.length ∧ x.2.1.length ≤ b.length ∧ x.2.2.2.length + x.1.length + x.2.1.length ≤ a.length + b.length ∧ x.2.2.2 ++ mergeE x.1 (x.2.1.map (sc s)) = mergeE a (b.map (sc s))) (fun x lz => (0, .c (.d (Am x.1))) :: (1, .c (.d (Am x.2.1))) :: lz) (fun x => [.box 1 [.arr 1 x.2.2.1 x.2.2.2.length], .arr x.2.2.1 56 2 (x.2.2.2.map Entry.d)]) (fun x => x.1.length + x.2.1.length) ((a, b, 2, [])) ?_ ?_ ?_ ?_
 repeat' first | exact k0 | refine kw ?_ | refine kv ?_ ?_ | omega
 ·exact ⟨fun e h => h, fun e h => h, Nat.le_refl _, Nat.le_refl _, by simp, rfl⟩
 rintro ⟨a', b', k, out⟩ c ⟨h1, h2, h3, h4, h5, hinv⟩
 dsimp only at h1 h2 h3 h4 h5 hinv ⊢
 by_cases hend : a'.length = 0 ∨ b'.length = 0
 ·have hM : out ++ a' ++ b'.map (sc s) = mergeE a (b.map (sc s)) := by
   rw [← hinv]
   rcases hend with h | h
   · obtain rfl := bF.1 h
     rw [Iw, List.append_nil]
   · obtain rfl := bF.1 h
     rw [List.map_nil, Pu, List.append_nil]
  clear hinv
  generalize mergeE a (b.map (sc s)) = M at hM
  have hlm : M.length = out.length + a'.length + b'.length := by rw [← hM]; simp; omega
  have hend : a'.length = 0 ∨ (0 < a'.length ∧ b'.length = 0) := by omega
  rcases hend with hend | hend
  all_goals
   repeat' first | refine kz ?_ | refine Aw ?_ | refine kh ?_ ?_ | exact ⟨⟩ | fail
   refine A0 (X := Nat × Nat) ([12] ++ List.range' 86 10) (fun x => x.1 ≤ a'.length) (fun x lz => (86, (iC x.1)) :: lz) (fun x => [.box 1 [.arr 1 x.2 (out ++ a'.take x.1).length], .arr x.2 56 2 ((out ++ a'.take x.1).map Entry.d)]) (fun x => a'.length - x.1) ((0, k)) ?_ ?_ ?_ ?_
   repeat' first | exact k0 | refine kw ?_ | refine kv ?_ ?_ | omega
   all_goals try (simp; done)
   rintro ⟨i, k1⟩ c1 hi
   dsimp only at hi ⊢
   by_cases hlt : i < a'.length
   · have hv : a'[i]? = some a'[i] := Bh hlt
     obtain ⟨hxr, hxc, hxn⟩ := hma _ (h1 _ (Fp hlt))
     generalize a'[i] = e at hv hxr hxc hxn
     have hxl := CA hxr
     have htk : a'.take (i + 1) = a'.take i ++ [e] := by rw [IU, hv]; rfl
     have hol : (out ++ a'.take i).length ≤ 100000 := by simp; omega
     have hadd := J4 e e.count hxn (out ++ a'.take i) (by omega) (by omega)
     repeat' first | refine kz ?_ | refine AX hv ?_ | refine Aw ?_ | refine Ah [0, 1] (hadd) ?_ | refine kh ?_ ?_ | exact ⟨⟩ | fail
     apply Ad ((i + 1, _)) <;> (try dsimp only) <;> try repeat' first | exact k0 | refine w1 ?_ | refine w3 ?_ ?_ | refine Ab ?_ | refine m1 ?_ ?_ | refine m2 ?_ ?_ | omega
     all_goals first
      | (rw [htk, ← GR]; simp only [CP, QK]; done)
      | (rw [htk, ← GR]; done)
   · rw [Ao (show a'.length ≤ i by omega)]
     repeat' first | refine kz ?_ | refine Aw ?_ | refine kh ?_ ?_ | exact ⟨⟩ | fail
     refine A0 (X := Nat × Nat) ([14] ++ List.range' 98 12) (fun x => x.1 ≤ b'.length) (fun x lz => (98, (iC x.1)) :: lz) (fun x => [.box 1 [.arr 1 x.2 (out ++ a' ++ (b'.take x.1).map (sc s)).length], .arr x.2 56 2 ((out ++ a' ++ (b'.take x.1).map (sc s)).map Entry.d)]) (fun x => b'.length - x.1) ((0, k1)) ?_ ?_ ?_ ?_
     repeat' first | exact k0 | refine kw ?_ | refine kv ?_ ?_ | omega
     all_goals try (simp; done)
     rintro ⟨j, k2⟩ c2 hj
     dsimp only at hj ⊢
     by_cases hlt : j < b'.length
     ·have hv : b'[j]? = some b'[j] := Bh hlt
      obtain ⟨hxr, hxc, hxn⟩ := hmb _ (h2 _ (Fp hlt))
      generalize b'[j] = e at hv hxr hxc hxn
      have hxl := CA hxr
      have hsy : -262144 ≤ s * e.count ∧ s * e.count ≤ 262144 ∧ s * e.count ≠ 0 := by
        rcases hs with rfl | rfl
        · omega
        · omega
      have htk : (b'.take (j + 1)).map (sc s) = (b'.take j).map (sc s) ++ [sc s e] := Hn (sc s) hv
      have hol : (out ++ a' ++ (b'.take j).map (sc s)).length ≤ 100000 := by simp; omega
      have hadd := J4 e (s * e.count) hsy.2.2 (out ++ a' ++ (b'.take j).map (sc s)) (by omega) (by omega)
      repeat' first | refine kz ?_ | refine AX hv ?_ | refine Aw ?_ | refine Ah [0, 1] (hadd) ?_ | refine kh ?_ ?_ | exact ⟨⟩ | fail
      apply Ad ((j + 1, _)) <;> (try dsimp only) <;> try repeat' first | exact k0 | refine w1 ?_ | refine w3 ?_ ?_ | refine Ab ?_ | refine m1 ?_ ?_ | refine m2 ?_ ?_ | omega
      all_goals first
        | (rw [htk, ← GR]; simp only [CP, QK]; done)
        | (rw [htk, ← GR]; rfl)
     ·rw [Ao (show b'.length ≤ j by omega), hM]
      have hlc := Oi M
      have hsf : ∀ mem : List Blk, mem[1]? = some (.arr k2 56 2 (M.map Entry.d)) → SFs mem [.c (.arr 1 k2 M.length)] [.one (Am M)] := fun mem hm => I2 hm (by simp) (Ao (by simp))
      by_cases hz : (AS M).2 = 0
      · have hz1 := Mh hz
        rw [hz1, hz]
        rw [hz] at hlc
        repeat' first | refine kz ?_ | refine Aw ?_ | refine Eb hlc (hsf _ rfl) ?_ | refine kh ?_ ?_ | exact ⟨⟩ | fail
        · simp
        · rw [Ao (by simp)]; rfl
        · rfl
      · have hz1 := Ol hz
        rw [hz1]
        generalize (AS M).2 = er at hz hlc
        repeat' first | refine kz ?_ | refine Aw ?_ | refine Eb hlc (hsf _ rfl) ?_ | refine kh ?_ ?_ | exact ⟨⟩ | fail
        all_goals rfl
 ·obtain ⟨x, a2, rfl⟩ : ∃ x a2, a' = x :: a2 := by
   cases a' with
   | nil => exact absurd (.inl rfl) hend
   | cons x a2 => exact ⟨x, a2, rfl⟩
  obtain ⟨y, b2, rfl⟩ : ∃ y b2, b' = y :: b2 := by
   cases b' with
   | nil => exact absurd (.inr rfl) hend
   | cons y b2 => exact ⟨y, b2, rfl⟩
  obtain ⟨hxr, hxc, hxn⟩ := hma x (h1 x (by simp))
  obtain ⟨hyr, hyc, hyn⟩ := hmb y (h2 y (by simp))
  have hxl := CA hxr
  have hyl := CA hyr
  have hvx : (x :: a2)[0]? = some x := rfl
  have hvy : (y :: b2)[0]? = some y := rfl
  have hsy : -262144 ≤ s * y.count ∧ s * y.count ≤ 262144 ∧ s * y.count ≠ 0 := by
   rcases hs with rfl | rfl
   · omega
   · omega
  have hla : (x :: a2).length = a2.length + 1 := rfl
  have hlb : (y :: b2).length = b2.length + 1 := rfl
  rw [List.map_cons, mergeE] at hinv
  rcases Int.lt_trichotomy (Ai x.row y.row) 0 with hc | hc | hc
  ·have hadd := J4 x x.count hxn out (by omega) (by omega)
   rw [if_pos (show Ai x.row (sc s y).row < 0 from hc)] at hinv
   repeat' first | refine kz ?_ | refine AX hvx ?_ | refine AX hvy ?_ | refine Aw ?_ | refine Aa (Bf _ _) ?_ | refine Ah [0, 1] (hadd) ?_ | refine kh ?_ ?_ | exact ⟨⟩ | fail
   apply Ad ((a2, y :: b2, _, out ++ [x])) <;> (try dsimp only) <;> try repeat' first | exact k0 | refine w1 ?_ | refine w3 ?_ ?_ | refine Ab ?_ | refine m1 ?_ ?_ | refine m2 ?_ ?_ | omega
   · rw [Ao (by simp)]; rfl
   · rw [CP]; rfl
   · refine ⟨fun e h => h1 e (by simp [h]), h2, by omega, by omega, by rw [CP, QK]; omega, ?_⟩
     rw [← hinv, GR]; rfl
  ·rw [if_neg (show ¬ Ai x.row (sc s y).row < 0 by show ¬ Ai x.row y.row < 0; omega), if_neg (show ¬ 0 < Ai x.row (sc s y).row by show ¬ 0 < Ai x.row y.row; omega)] at hinv
   by_cases hz : x.count + s * y.count = 0
   · have hadd := YQ x out
     rw [if_pos (show x.count + (sc s y).count = 0 from hz)] at hinv
     rw [← hz] at hadd
     repeat' first | refine kz ?_ | refine AX hvx ?_ | refine AX hvy ?_ | refine Aw ?_ | refine Aa (Bf _ _) ?_ | refine Ah [0, 1] (hadd) ?_ | refine kh ?_ ?_ | exact ⟨⟩ | fail
     apply Ad ((a2, b2, _, out)) <;> (try dsimp only) <;> try repeat' first | exact k0 | refine w1 ?_ | refine w3 ?_ ?_ | refine Ab ?_ | refine m1 ?_ ?_ | refine m2 ?_ ?_ | omega
     ·rw [Ao (by simp)]; rfl
     ·rw [Ao (by simp)]; rfl
     ·exact ⟨fun e h => h1 e (by simp [h]), fun e h => h2 e (by simp [h]), by omega, by omega, by omega, hinv⟩
   · have hadd := J4 x (x.count + s * y.count) hz out (by omega) (by omega)
     rw [if_neg (show ¬ x.count + (sc s y).count = 0 from hz)] at hinv
     repeat' first | refine kz ?_ | refine AX hvx ?_ | refine AX hvy ?_ | refine Aw ?_ | refine Aa (Bf _ _) ?_ | refine Ah [0, 1] (hadd) ?_ | refine kh ?_ ?_ | exact ⟨⟩ | fail
     apply Ad ((a2, b2, _, out ++ [⟨x.row, x.count + s * y.count⟩])) <;> (try dsimp only) <;> try repeat' first | exact k0 | refine w1 ?_ | refine w3 ?_ ?_ | refine Ab ?_ | refine m1 ?_ ?_ | refine m2 ?_ ?_ | omega
     ·rw [Ao (by simp)]; rfl
     ·rw [Ao (by simp)]; rfl
     ·rw [CP]; rfl
     ·refine ⟨fun e h => h1 e (by simp [h]), fun e h => h2 e (by simp [h]), by omega, by omega, by rw [CP, QK]; omega, ?_⟩
      rw [← hinv, GR]; rfl
  ·have hadd := J4 y (s * y.count) hsy.2.2 out (by omega) (by omega)
   rw [if_neg (show ¬ Ai x.row (sc s y).row < 0 by show ¬ Ai x.row y.row < 0; omega), if_pos (show 0 < Ai x.row (sc s y).row from hc)] at hinv
   repeat' first | refine kz ?_ | refine AX hvx ?_ | refine AX hvy ?_ | refine Aw ?_ | refine Aa (Bf _ _) ?_ | refine Ah [0, 1] (hadd) ?_ | refine kh ?_ ?_ | exact ⟨⟩ | fail
   apply Ad ((x :: a2, b2, _, out ++ [sc s y])) <;> (try dsimp only) <;> try repeat' first | exact k0 | refine w1 ?_ | refine w3 ?_ ?_ | refine Ab ?_ | refine m1 ?_ ?_ | refine m2 ?_ ?_ | omega
   · rw [Ao (by simp)]; rfl
   · rw [CP]; rfl
   · refine ⟨h1, fun e h => h2 e (by simp [h]), by omega, by omega, by rw [CP, QK]; omega, ?_⟩
     rw [← hinv, GR]; rfl
end Go.Proofs.YtmpgmjlanngkfaaGreat
end
