/-
  Orders: of values and rows; lists that are sorted; the insertion of one more element from behind. Plain, no program.
-/
import Derived.Test.YtmpgmjlanngkfaaGreatRowc
import Derived.Test.YtmpgmjlanngkfaaGreatDex
import Derived.Test.YtmpgmjlanngkfaaGreatLaid
import Derived.Test.YtmpgmjlanngkfaaGreatSrt
section
namespace Go.Proofs.YtmpgmjlanngkfaaGreat
open Go.Abs Go.RowKit
attribute [local irreducible] ARun Au MCall PCall HCall Ak SF CF CFs Af Ag Ar fin AP VLe
set_option linter.unusedSimpArgs false
set_option maxRecDepth 100000
set_option maxHeartbeats 4000000
structure Entry where
 row : List Val
 count : Int
def Entry.d (e : Entry) : List Dat := [BP e.row, .lit (.int .i64 e.count)]
def Am (l : List Entry) : Dat := .sl (l.map Entry.d)
def Av (n : Int) : Bool := decide (-262144 ≤ n) && decide (n ≤ 262144)
def Entry.ok (e : Entry) : Bool := AD e.row && Av e.count && decide (e.count ≠ 0)
def goodFrom : Option Entry → List Entry → Bool
 | _, [] => true
 | p, e :: l => e.ok && (match p with | none => true | some q => decide (Ai q.row e.row < 0)) && goodFrom (some e) l
def Aj (l : List Entry) : Bool := decide (l.length ≤ 4096) && goodFrom none l
def El (l : List Entry) (i : Nat) : Option Entry := if i = 0 then none else l[i - 1]?
theorem EC (n : Int) : PC 75 [.one (.lit (.int .i64 n))] (.v (.one (.lit (.bool (Av n))))) := by
 refine Ac hT Tryz.func75 Tryz.ntmps75 [.tmp 2] fun B => ?_
 repeat' first | refine kz ?_ | refine Aq rfl rfl (fun hb => ?_) (fun hb => ?_) | refine kf ?_ | fail
 all_goals (refine congrArg Dat.lit (congrArg Value.bool ?_); simp_all [Av]; try omega)
theorem KP (n : Int) : PC 150 [.one (.lit (.int .i64 n))] (.v (.one (.lit (.bool (Av n))))) := by
 refine Ac hT Tryz.func150 Tryz.ntmps150 [.tmp 2] fun B => ?_
 repeat' first | refine kz ?_ | refine Aq rfl rfl (fun hb => ?_) (fun hb => ?_) | refine kf ?_ | fail
 all_goals (refine congrArg Dat.lit (congrArg Value.bool ?_); simp_all [Av]; try omega)
theorem Ds (e : Entry) : PC 96 [.agg e.d] (.v (.one (.lit (.bool (Av e.count && AD e.row))))) := by
 refine Ac hT Tryz.func96 Tryz.ntmps96 [.tmp 2] fun B => ?_
 repeat' first | refine kz ?_ | refine Aa (KP _) ?_ | refine Aa (Py _) ?_ | refine Aq rfl rfl (fun hb => ?_) (fun hb => ?_) | refine kf ?_ | fail
 all_goals (refine congrArg Dat.lit (congrArg Value.bool ?_); simp_all)
theorem Q7 {l : List Entry} {i : Nat} {e : Entry} (h : l[i]? = some e) : goodFrom (El l i) (l.drop i) = (e.ok && (match El l i with | none => true | some q => decide (Ai q.row e.row < 0)) && goodFrom (El l (i + 1)) (l.drop (i + 1))) := by
 rw [Ay h, goodFrom.eq_def]
 have : El l (i + 1) = some e := by simp [El, h]
 rw [this]
set_option maxHeartbeats 1000000 in
theorem BT (l : List Entry) : PC 47 [.one (Am l)] (.v (.one (.lit (.bool (Aj l))))) := by
 refine Ac hT Tryz.func47 Tryz.ntmps47 [.tmp 2] fun B => ?_
 repeat' first | refine kz ?_ | refine AN rfl (fun hb => ?_) (fun hb => ?_) | refine Aw ?_ | refine kf ?_ | refine Aq rfl rfl (fun hb => ?_) (fun hb => ?_) | refine BA (by repeat (first | exact Ae | refine As D8 ?_)) ?_
 ·refine congrArg Dat.lit (congrArg Value.bool ?_)
  simp [Aj]
  intros; omega
 ·have hl : l.length ≤ 4096 := by omega
  refine A0 (X := Nat) ([2, 3, 4] ++ List.range' 10 28) (fun x => x ≤ l.length ∧ goodFrom none l = goodFrom (El l x) (l.drop x)) (fun x lz => (10, (iC x)) :: lz) (fun x => []) (fun x => l.length - x) (0) ?_ ?_ ?_ ?_
  repeat' first | exact k0 | refine kw ?_ | omega
  ·exact ⟨by simp, by simp [El]⟩
  rintro i c ⟨hi, hinv⟩
  by_cases hlt : i < l.length
  ·obtain ⟨e, hv⟩ := gx hlt
   rw [Q7 hv] at hinv
   rcases i with _ | j
   ·have hp : El l 0 = none := rfl
    rw [hp] at hinv
    repeat' first | refine kz ?_ | refine AN rfl (fun hb => ?_) (fun hb => ?_) | refine AX hv ?_ | refine Aw ?_ | refine Aa (Ds _) ?_ | refine Aa (Bf _ _) ?_ | refine kf ?_ | refine Aq rfl rfl (fun hb => ?_) (fun hb => ?_) | refine BA (by repeat (first | exact Ae | refine As D8 ?_)) ?_
    all_goals first
     | (refine congrArg Dat.lit (congrArg Value.bool ?_); simp only [Aj, hinv, Entry.ok]; cases h1 : AD e.row <;> cases h2 : Av e.count <;> simp_all <;> done)
     | (refine congrArg Dat.lit (congrArg Value.bool ?_); simp only [Aj, hinv]; simp; intros; omega)
     | ((apply Ad (1); all_goals (try dsimp only); all_goals (try (repeat' (first | exact k0 | refine kw ?_ | omega)))); (try exact ⟨by omega, by rw [hinv]; simp_all [Entry.ok]⟩))
   ·obtain ⟨p, hu⟩ := gx (l := l) (i := j) (by omega)
    have hp : El l (j + 1) = some p := by simp [El, hu]
    rw [hp] at hinv
    repeat' first | refine kz ?_ | refine AN rfl (fun hb => ?_) (fun hb => ?_) | refine AX hv ?_ | refine AX hu ?_ | refine Aw ?_ | refine Aa (Ds _) ?_ | refine Aa (Bf _ _) ?_ | refine kf ?_ | refine Aq rfl rfl (fun hb => ?_) (fun hb => ?_) | refine BA (by repeat (first | exact Ae | refine As D8 ?_)) ?_
    all_goals first
     | (refine congrArg Dat.lit (congrArg Value.bool ?_); simp only [Aj, hinv, Entry.ok]; cases h1 : AD e.row <;> cases h2 : Av e.count <;> simp_all <;> done)
     | (refine congrArg Dat.lit (congrArg Value.bool ?_); simp only [Aj, hinv]; simp; intros; omega)
     | ((apply Ad (j + 1 + 1); all_goals (try dsimp only); all_goals (try (repeat' (first | exact k0 | refine kw ?_ | omega)))); (try exact ⟨by omega, by rw [hinv]; simp_all [Entry.ok]⟩))
  ·repeat' first | refine kz ?_ | refine AN rfl (fun hb => ?_) (fun hb => ?_) | refine Aw ?_ | refine kf ?_ | refine Aq rfl rfl (fun hb => ?_) (fun hb => ?_) | refine BA (by repeat (first | exact Ae | refine As D8 ?_)) ?_
   refine congrArg Dat.lit (congrArg Value.bool ?_)
   rw [Sd (by omega)] at hinv
   simp [Aj, hinv, hl, goodFrom]
end Go.Proofs.YtmpgmjlanngkfaaGreat
end
section
namespace Go.Proofs.YtmpgmjlanngkfaaGreat
open Go.Abs Go.RowKit
set_option linter.unusedSimpArgs false
variable {x y : Val}
structure CmpOk {α κ : Type} (f : α → α → Int) (key : α → κ) : Prop where
 zero : ∀ a b, f a b = 0 ↔ key a = key b
 anti : ∀ a b, f b a < 0 ↔ 0 < f a b
 trans : ∀ a b c, f a b < 0 → f b c < 0 → f a c < 0
namespace CmpOk
variable {α κ : Type} {f : α → α → Int} {key : α → κ} (h : CmpOk f key)
include h
theorem refl (a : α) : f a a = 0 := (h.zero a a).2 rfl
theorem left {a a' b : α} (e : key a = key a') (hb : f a b < 0) : f a' b < 0 := by
 have h0 := (h.zero a a').2 e
 rcases Int.lt_trichotomy (f a' b) 0 with q | q | q
 ·exact q
 ·have := (h.zero a' b).1 q
  have := (h.zero a b).2 (e.trans this)
  omega
 ·have := h.trans a b a' hb ((h.anti a' b).2 q)
  omega
theorem right {a b b' : α} (e : key b = key b') (hb : f a b < 0) : f a b' < 0 := by
 have h0 := (h.zero b b').2 e
 rcases Int.lt_trichotomy (f a b') 0 with q | q | q
 ·exact q
 ·have := (h.zero a b').1 q
  have := (h.zero a b).2 (this.trans e.symm)
  omega
 ·have := h.trans b' a b ((h.anti a b').2 q) hb
  have := (h.zero b' b).2 e.symm
  omega
theorem swo : Go.Sort.SWO (Go.Proofs.ltOf f) where
 irrefl x := by have := h.refl x; simp [Go.Proofs.ltOf, this]
 trans x y z h1 h2 := by
  simp only [Go.Proofs.ltOf, decide_eq_true_eq] at *
  exact h.trans x y z h1 h2
 ntrans x y z h1 h2 := by
  simp only [Go.Proofs.ltOf, decide_eq_false_iff_not] at *
  intro q
  have hyz : f z y ≤ 0 := by
   by_cases w : 0 < f z y
   ·exact absurd ((h.anti z y).2 w) h2
   ·omega
  rcases Int.lt_or_eq_of_le hyz with w | w
  ·exact h1 (h.trans x z y q w)
  ·exact h1 (h.right ((h.zero z y).1 w) q)
end CmpOk
theorem CmpOk.comp {α β κ : Type} {f : α → α → Int} {key : α → κ} (h : CmpOk f key) (g : β → α) : CmpOk (fun x y => f (g x) (g y)) (fun x => key (g x)) :=
 ⟨fun _ _ => h.zero _ _, fun _ _ => h.anti _ _, fun _ _ _ => h.trans _ _ _⟩
theorem Er {α : Type} {R : α → α → Prop} (hirr : ∀ a, ¬ R a a) (htr : ∀ a b c, R a b → R b c → R a c) : ∀ {l m : List α}, l.Pairwise R → m.Pairwise R → (∀ x, x ∈ l ↔ x ∈ m) → l = m
 | [], [], _, _, _ => rfl
 | [], b :: m, _, _, h => by have := (h b).2 (by simp); simp at this
 | a :: l, [], _, _, h => by have := (h a).1 (by simp); simp at this
 | a :: l, b :: m, hl, hm, h => by
   obtain ⟨l1, l2⟩ := Mr.1 hl
   obtain ⟨m1, m2⟩ := Mr.1 hm
   have hab : a = b := by
    rcases Fb.1 ((h a).1 (by simp)) with q | q
    ·exact q
    ·rcases Fb.1 ((h b).2 (by simp)) with p | p
     ·exact p.symm
     ·exact absurd (htr _ _ _ (m1 a q) (l1 b p)) (hirr b)
   subst hab
   rw [Er hirr htr l2 m2 fun x => ?_]
   constructor
   ·intro hx
    rcases Fb.1 ((h x).1 (by simp [hx])) with q | q
    ·subst q; exact absurd (l1 x hx) (hirr x)
    ·exact q
   ·intro hx
    rcases Fb.1 ((h x).2 (by simp [hx])) with q | q
    ·subst q; exact absurd (m1 x hx) (hirr x)
    ·exact q
theorem Lr : ∀ l : List UInt8, Op.bytesLess l l = false
 | [] => rfl
 | a :: l => by simp [Op.bytesLess, Lr l]
theorem Oq : ∀ {x y z : List UInt8}, Op.bytesLess x y = true → Op.bytesLess y z = true → Op.bytesLess x z = true
 | [], [], _, h, _ => by simp [Op.bytesLess] at h
 | [], _ :: _, [], _, h => by simp [Op.bytesLess] at h
 | [], _ :: _, _ :: _, _, _ => by simp [Op.bytesLess]
 | _ :: _, [], _, h, _ => by simp [Op.bytesLess] at h
 | _ :: _, _ :: _, [], _, h => by simp [Op.bytesLess] at h
 | a :: x, b :: y, c :: z, h1, h2 => by
   have ih := @Oq x y z
   simp only [Op.bytesLess, Vc, Bi, decide_eq_true_eq, beq_iff_eq, UInt8.lt_iff_toNat_lt] at h1 h2 ⊢
   rcases h1 with h1 | ⟨rfl, h1⟩
   ·rcases h2 with h2 | ⟨rfl, _⟩
    ·exact .inl (by omega)
    ·exact .inl h1
   ·rcases h2 with h2 | ⟨rfl, h2⟩
    ·exact .inl h2
    ·exact .inr ⟨rfl, ih h1 h2⟩
theorem Ot : ∀ {x y : List UInt8}, Op.bytesLess x y = false → Op.bytesLess y x = false → x = y
 | [], [], _, _ => rfl
 | [], _ :: _, h, _ => by simp [Op.bytesLess] at h
 | _ :: _, [], _, h => by simp [Op.bytesLess] at h
 | a :: x, b :: y, h1, h2 => by
   have ih := @Ot x y
   simp only [Op.bytesLess, Bool.or_eq_false_iff, decide_eq_false_iff_not, UInt8.lt_iff_toNat_lt] at h1 h2
   have hab : a = b := by
    apply UInt8.toNat_inj.1
    omega
   subst hab
   rw [ih (by simpa using h1.2) (by simpa using h2.2)]
theorem F7 {a b : ByteArray} (h : a.toList = b.toList) : a = b := by
 rw [ByteArray.toList_eq, ByteArray.toList_eq] at h
 cases a; cases b
 simp only at h
 congr 1
 exact OO h
theorem Hl : x.same y = true ↔ x = y := by
 constructor
 ·intro h
  simp only [Val.same, Bi, beq_iff_eq] at h
  cases x; cases y
  simp only at h
  rw [h.1, h.2.1, F7 h.2.2]
 ·rintro rfl
  simp [Val.same]
theorem FO (x : Val) : x.less x = false := by
 simp [Val.less, Lr]
theorem FP (hx : x.valid = true) (hy : y.valid = true) : x.less y = true ↔ x.kind < y.kind ∨ (x.kind = y.kind ∧ (x.int < y.int ∨ (x.int = y.int ∧ Op.bytesLess x.text.toList y.text.toList = true))) := by
 simp only [Val.less, Vc, Bi, decide_eq_true_eq, beq_iff_eq]
 constructor
 ·rintro (h | ⟨h1, h2 | h2⟩)
  ·exact .inl h
  ·exact .inr ⟨h1, .inl h2⟩
  ·by_cases hk : x.kind = 2
   ·exact .inr ⟨h1, .inr ⟨by rw [DD hx (by omega), DD hy (by omega)], h2⟩⟩
   ·rw [CT hx hk, CT hy (by omega)] at h2
    simp [Op.bytesLess] at h2
 ·rintro (h | ⟨h1, h2 | ⟨_, h2⟩⟩)
  ·exact .inl h
  ·exact .inr ⟨h1, .inl h2⟩
  ·exact .inr ⟨h1, .inr h2⟩
theorem J7 {z : Val} (hx : x.valid = true) (hy : y.valid = true) (hz : z.valid = true) (h1 : x.less y = true) (h2 : y.less z = true) : x.less z = true := by
 rw [FP hx hy] at h1
 rw [FP hy hz] at h2
 rw [FP hx hz]
 rcases h1 with h1 | ⟨h1, h1' | ⟨h1', h1''⟩⟩
 ·rcases h2 with h2 | ⟨h2, _⟩
  ·exact .inl (by omega)
  ·exact .inl (by omega)
 ·rcases h2 with h2 | ⟨h2, h2' | ⟨h2', _⟩⟩
  ·exact .inl (by omega)
  ·exact .inr ⟨by omega, .inl (by omega)⟩
  ·exact .inr ⟨by omega, .inl (by omega)⟩
 ·rcases h2 with h2 | ⟨h2, h2' | ⟨h2', h2''⟩⟩
  ·exact .inl (by omega)
  ·exact .inr ⟨by omega, .inl (by omega)⟩
  ·exact .inr ⟨by omega, .inr ⟨by omega, Oq h1'' h2''⟩⟩
theorem Px (hx : x.valid = true) (hy : y.valid = true) (h1 : x.less y = false) (h2 : y.less x = false) : x = y := by
 have n1 : ¬ x.less y = true := by simp [h1]
 have n2 : ¬ y.less x = true := by simp [h2]
 rw [FP hx hy] at n1
 rw [FP hy hx] at n2
 have hk : x.kind = y.kind := by omega
 have hi : x.int = y.int := by omega
 have ht : x.text = y.text := by
  apply F7
  apply Ot
  ·cases hq : Op.bytesLess x.text.toList y.text.toList with
   | false => rfl
   | true => exact absurd (.inr ⟨hk, .inr ⟨hi, hq⟩⟩) n1
  ·cases hq : Op.bytesLess y.text.toList x.text.toList with
   | false => rfl
   | true => exact absurd (.inr ⟨hk.symm, .inr ⟨hi.symm, hq⟩⟩) n2
 cases x; cases y
 simp only at hk hi ht
 rw [hk, hi, ht]
theorem cmp_ok : CmpOk Val.cmp Val.clean := by
 have lt : ∀ a b : Val, a.cmp b < 0 ↔ a.clean.less b.clean = true := by
  intro a b
  unfold Val.cmp
  split
  ·rename_i h
   rw [Hl] at h
   rw [h, FO]
   simp
  ·split <;> simp_all
 refine ⟨fun a b => ?_, fun a b => ?_, fun a b c h1 h2 => ?_⟩
 ·rw [← Hl]
  unfold Val.cmp
  split
  ·simp_all
  ·split <;> simp_all
 ·rw [lt]
  unfold Val.cmp
  by_cases hs : a.clean = b.clean
  ·rw [if_pos (Hl.2 hs), hs, FO]; simp
  ·rw [if_neg (fun q => hs (Hl.1 q))]
   split
   ·rename_i h
    constructor
    · intro q
      have := J7 (AR _) (AR _) (AR _) h q
      rw [FO] at this
      cases this
    · intro q; omega
   ·rename_i h
    simp only [Int.reduceLT, iff_true]
    cases hq : b.clean.less a.clean with
    | true => rfl
    | false => exact absurd (Px (AR _) (AR _) (by simpa using h) hq) hs
 ·rw [lt] at *
  exact J7 (AR _) (AR _) (AR _) h1 h2
theorem rowCmp_ok : CmpOk Ai (fun r => r.map Val.clean) := by
 have hz : ∀ r s : List Val, Ai r s = 0 ↔ r.map Val.clean = s.map Val.clean := by
   intro r
   induction r with
   | nil => intro s; cases s <;> simp [Ai]
   | cons a r ih =>
     intro s
     cases s with
     | nil => simp [Ai]
     | cons b s =>
       simp only [Ai, List.map_cons, U4]
       by_cases h : a.cmp b = 0
       ·rw [if_pos h, ih s]
        exact ⟨fun q => ⟨(cmp_ok.zero a b).1 h, q⟩, fun q => q.2⟩
       ·rw [if_neg h]
        exact ⟨fun q => absurd q h, fun q => absurd ((cmp_ok.zero a b).2 q.1) h⟩
 have ha : ∀ r s : List Val, Ai s r < 0 ↔ 0 < Ai r s := by
   intro r
   induction r with
   | nil => intro s; cases s <;> simp [Ai]
   | cons a r ih =>
     intro s
     cases s with
     | nil => simp [Ai]
     | cons b s =>
       simp only [Ai]
       by_cases h : a.cmp b = 0
       ·rw [if_pos h, if_pos ((cmp_ok.zero b a).2 ((cmp_ok.zero a b).1 h).symm)]
        exact ih s
       ·rw [if_neg h, if_neg (fun q => h ((cmp_ok.zero a b).2 ((cmp_ok.zero b a).1 q).symm))]
        exact cmp_ok.anti a b
 refine ⟨hz, ha, ?_⟩
 intro r
 induction r with
 | nil =>
   intro s t h1 h2
   cases t with
   | nil => cases s <;> simp [Ai] at h1 h2
   | cons c t => simp [Ai]
 | cons a r ih =>
   intro s t h1 h2
   cases s with
   | nil => simp [Ai] at h1
   | cons b s =>
     cases t with
     | nil => simp [Ai] at h2
     | cons c t =>
       simp only [Ai] at h1 h2 ⊢
       by_cases hab : a.cmp b = 0
       ·rw [if_pos hab] at h1
        by_cases hbc : b.cmp c = 0
        ·rw [if_pos hbc] at h2
         rw [if_pos ((cmp_ok.zero a c).2 (((cmp_ok.zero a b).1 hab).trans ((cmp_ok.zero b c).1 hbc)))]
         exact ih s t h1 h2
        ·rw [if_neg hbc] at h2
         have := cmp_ok.left ((cmp_ok.zero a b).1 hab).symm h2
         rw [if_neg (by omega)]; exact this
       ·rw [if_neg hab] at h1
        by_cases hbc : b.cmp c = 0
        ·have := cmp_ok.right ((cmp_ok.zero b c).1 hbc) h1
         rw [if_neg (by omega)]; exact this
        ·rw [if_neg hbc] at h2
         have := cmp_ok.trans a b c h1 h2
         rw [if_neg (by omega)]; exact this
def ax {α : Type} (lt : α → α → Bool) (p : α) : List α → List α → List α
 | [], B => p :: B
 | q :: A, B => if lt p q then ax lt p A (q :: B) else A.reverse ++ q :: p :: B
def dO {α : Type} (lt : α → α → Bool) (p : α) (l : List α) : List α := ax lt p l.reverse []
end Go.Proofs.YtmpgmjlanngkfaaGreat
end
