/-
  Expressions: terms as data, the number of operands, valid terms.
-/
import Derived.Test.YtmpgmjlanngkfaaGreatEnc
import Derived.Test.YtmpgmjlanngkfaaGreatSrt
import Derived.Test.YtmpgmjlanngkfaaGreatCmp
section
namespace Go.Proofs.YtmpgmjlanngkfaaGreat
open Go.Abs Go.RowKit
set_option linter.unusedSimpArgs false

/-- A comparing function: what is equal, and that it orders. -/
structure CmpOk {α κ : Type} (f : α → α → Int) (key : α → κ) : Prop where
  zero : ∀ a b, f a b = 0 ↔ key a = key b
  anti : ∀ a b, f b a < 0 ↔ 0 < f a b
  trans : ∀ a b c, f a b < 0 → f b c < 0 → f a c < 0

namespace CmpOk
variable {α κ : Type} {f : α → α → Int} {key : α → κ} (h : CmpOk f key)
include h
theorem refl (a : α) : f a a = 0 := (h.zero a a).2 rfl
theorem left {a a' b : α} (e : key a = key a') (hb : f a b < 0) : f a' b < 0 := by
  have h0 := (h.zero a a').2 e
  rcases Int.lt_trichotomy (f a' b) 0 with q | q | q
  · exact q
  · have := (h.zero a' b).1 q
    have := (h.zero a b).2 (e.trans this)
    omega
  · have := h.trans a b a' hb ((h.anti a' b).2 q)
    omega
theorem right {a b b' : α} (e : key b = key b') (hb : f a b < 0) : f a b' < 0 := by
  have h0 := (h.zero b b').2 e
  rcases Int.lt_trichotomy (f a b') 0 with q | q | q
  · exact q
  · have := (h.zero a b').1 q
    have := (h.zero a b).2 (this.trans e.symm)
    omega
  · have := h.trans b' a b ((h.anti a b').2 q) hb
    have := (h.zero b' b).2 e.symm
    omega
theorem swo : Go.Sort.SWO (Go.Proofs.ltOf f) where
  irrefl x := by have := h.refl x; simp [Go.Proofs.ltOf, this]
  trans x y z h1 h2 := by
    simp only [Go.Proofs.ltOf, decide_eq_true_eq] at *
    exact h.trans x y z h1 h2
  ntrans x y z h1 h2 := by
    simp only [Go.Proofs.ltOf, decide_eq_false_iff_not] at *
    intro q
    have hyz : f z y ≤ 0 := by
      by_cases w : 0 < f z y
      · exact absurd ((h.anti z y).2 w) h2
      · omega
    rcases Int.lt_or_eq_of_le hyz with w | w
    · exact h1 (h.trans x z y q w)
    · exact h1 (h.right ((h.zero z y).1 w) q)
end CmpOk

theorem CmpOk.comp {α β κ : Type} {f : α → α → Int} {key : α → κ} (h : CmpOk f key) (g : β → α) : CmpOk (fun x y => f (g x) (g y)) (fun x => key (g x)) :=
  ⟨fun _ _ => h.zero _ _, fun _ _ => h.anti _ _, fun _ _ _ => h.trans _ _ _⟩

/-- Two lists that are strictly sorted and have the same members are one. -/
theorem sorted_unique {α : Type} {R : α → α → Prop} (hirr : ∀ a, ¬ R a a) (htr : ∀ a b c, R a b → R b c → R a c) : ∀ {l m : List α}, l.Pairwise R → m.Pairwise R → (∀ x, x ∈ l ↔ x ∈ m) → l = m
  | [], [], _, _, _ => rfl
  | [], b :: m, _, _, h => by have := (h b).2 (by simp); simp at this
  | a :: l, [], _, _, h => by have := (h a).1 (by simp); simp at this
  | a :: l, b :: m, hl, hm, h => by
    obtain ⟨l1, l2⟩ := List.pairwise_cons.1 hl
    obtain ⟨m1, m2⟩ := List.pairwise_cons.1 hm
    have hab : a = b := by
      rcases List.mem_cons.1 ((h a).1 (by simp)) with q | q
      · exact q
      · rcases List.mem_cons.1 ((h b).2 (by simp)) with p | p
        · exact p.symm
        · exact absurd (htr _ _ _ (m1 a q) (l1 b p)) (hirr b)
    subst hab
    rw [sorted_unique hirr htr l2 m2 fun x => ?_]
    constructor
    · intro hx
      rcases List.mem_cons.1 ((h x).1 (by simp [hx])) with q | q
      · subst q; exact absurd (l1 x hx) (hirr x)
      · exact q
    · intro hx
      rcases List.mem_cons.1 ((h x).2 (by simp [hx])) with q | q
      · subst q; exact absurd (m1 x hx) (hirr x)
      · exact q

theorem bl_irrefl : ∀ l : List UInt8, Op.bytesLess l l = false
  | [] => rfl
  | a :: l => by simp [Op.bytesLess, bl_irrefl l]
theorem bl_trans : ∀ {x y z : List UInt8}, Op.bytesLess x y = true → Op.bytesLess y z = true → Op.bytesLess x z = true
  | [], [], _, h, _ => by simp [Op.bytesLess] at h
  | [], _ :: _, [], _, h => by simp [Op.bytesLess] at h
  | [], _ :: _, _ :: _, _, _ => by simp [Op.bytesLess]
  | _ :: _, [], _, h, _ => by simp [Op.bytesLess] at h
  | _ :: _, _ :: _, [], _, h => by simp [Op.bytesLess] at h
  | a :: x, b :: y, c :: z, h1, h2 => by
    have ih := @bl_trans x y z
    simp only [Op.bytesLess, Bool.or_eq_true, Bool.and_eq_true, decide_eq_true_eq, beq_iff_eq, UInt8.lt_iff_toNat_lt] at h1 h2 ⊢
    rcases h1 with h1 | ⟨rfl, h1⟩
    · rcases h2 with h2 | ⟨rfl, _⟩
      · exact .inl (by omega)
      · exact .inl h1
    · rcases h2 with h2 | ⟨rfl, h2⟩
      · exact .inl h2
      · exact .inr ⟨rfl, ih h1 h2⟩
theorem bl_total : ∀ {x y : List UInt8}, Op.bytesLess x y = false → Op.bytesLess y x = false → x = y
  | [], [], _, _ => rfl
  | [], _ :: _, h, _ => by simp [Op.bytesLess] at h
  | _ :: _, [], _, h => by simp [Op.bytesLess] at h
  | a :: x, b :: y, h1, h2 => by
    have ih := @bl_total x y
    simp only [Op.bytesLess, Bool.or_eq_false_iff, decide_eq_false_iff_not, UInt8.lt_iff_toNat_lt] at h1 h2
    have hab : a = b := by
      apply UInt8.toNat_inj.1
      omega
    subst hab
    rw [ih (by simpa using h1.2) (by simpa using h2.2)]

theorem bytes_ext {a b : ByteArray} (h : a.toList = b.toList) : a = b := by
  rw [ByteArray.toList_eq, ByteArray.toList_eq] at h
  cases a; cases b
  simp only at h
  congr 1
  exact Array.ext' h

theorem same_iff {x y : Val} : x.same y = true ↔ x = y := by
  constructor
  · intro h
    simp only [Val.same, Bool.and_eq_true, beq_iff_eq] at h
    cases x; cases y
    simp only at h
    rw [h.1, h.2.1, bytes_ext h.2.2]
  · rintro rfl
    simp [Val.same]

theorem less_irrefl (x : Val) : x.less x = false := by
  simp [Val.less, bl_irrefl]

theorem less_iff {x y : Val} (hx : x.valid = true) (hy : y.valid = true) : x.less y = true ↔ x.kind < y.kind ∨ (x.kind = y.kind ∧ (x.int < y.int ∨ (x.int = y.int ∧ Op.bytesLess x.text.toList y.text.toList = true))) := by
  simp only [Val.less, Bool.or_eq_true, Bool.and_eq_true, decide_eq_true_eq, beq_iff_eq]
  constructor
  · rintro (h | ⟨h1, h2 | h2⟩)
    · exact .inl h
    · exact .inr ⟨h1, .inl h2⟩
    · by_cases hk : x.kind = 2
      · exact .inr ⟨h1, .inr ⟨by rw [valid_int hx (by omega), valid_int hy (by omega)], h2⟩⟩
      · rw [valid_text hx hk, valid_text hy (by omega)] at h2
        simp [Op.bytesLess] at h2
  · rintro (h | ⟨h1, h2 | ⟨_, h2⟩⟩)
    · exact .inl h
    · exact .inr ⟨h1, .inl h2⟩
    · exact .inr ⟨h1, .inr h2⟩

theorem less_trans {x y z : Val} (hx : x.valid = true) (hy : y.valid = true) (hz : z.valid = true) (h1 : x.less y = true) (h2 : y.less z = true) : x.less z = true := by
  rw [less_iff hx hy] at h1
  rw [less_iff hy hz] at h2
  rw [less_iff hx hz]
  rcases h1 with h1 | ⟨h1, h1' | ⟨h1', h1''⟩⟩
  · rcases h2 with h2 | ⟨h2, _⟩
    · exact .inl (by omega)
    · exact .inl (by omega)
  · rcases h2 with h2 | ⟨h2, h2' | ⟨h2', _⟩⟩
    · exact .inl (by omega)
    · exact .inr ⟨by omega, .inl (by omega)⟩
    · exact .inr ⟨by omega, .inl (by omega)⟩
  · rcases h2 with h2 | ⟨h2, h2' | ⟨h2', h2''⟩⟩
    · exact .inl (by omega)
    · exact .inr ⟨by omega, .inl (by omega)⟩
    · exact .inr ⟨by omega, .inr ⟨by omega, bl_trans h1'' h2''⟩⟩

theorem less_total {x y : Val} (hx : x.valid = true) (hy : y.valid = true) (h1 : x.less y = false) (h2 : y.less x = false) : x = y := by
  have n1 : ¬ x.less y = true := by simp [h1]
  have n2 : ¬ y.less x = true := by simp [h2]
  rw [less_iff hx hy] at n1
  rw [less_iff hy hx] at n2
  have hk : x.kind = y.kind := by omega
  have hi : x.int = y.int := by omega
  have ht : x.text = y.text := by
    apply bytes_ext
    apply bl_total
    · cases hq : Op.bytesLess x.text.toList y.text.toList with
      | false => rfl
      | true => exact absurd (.inr ⟨hk, .inr ⟨hi, hq⟩⟩) n1
    · cases hq : Op.bytesLess y.text.toList x.text.toList with
      | false => rfl
      | true => exact absurd (.inr ⟨hk.symm, .inr ⟨hi.symm, hq⟩⟩) n2
  cases x; cases y
  simp only at hk hi ht
  rw [hk, hi, ht]

theorem cmp_ok : CmpOk Val.cmp Val.clean := by
  have lt : ∀ a b : Val, a.cmp b < 0 ↔ a.clean.less b.clean = true := by
    intro a b
    unfold Val.cmp
    split
    · rename_i h
      rw [same_iff] at h
      rw [h, less_irrefl]
      simp
    · split <;> simp_all
  refine ⟨fun a b => ?_, fun a b => ?_, fun a b c h1 h2 => ?_⟩
  · rw [← same_iff]
    unfold Val.cmp
    split
    · simp_all
    · split <;> simp_all
  · rw [lt]
    unfold Val.cmp
    by_cases hs : a.clean = b.clean
    · rw [if_pos (same_iff.2 hs), hs, less_irrefl]; simp
    · rw [if_neg (fun q => hs (same_iff.1 q))]
      split
      · rename_i h
        constructor
        · intro q
          have := less_trans (clean_valid _) (clean_valid _) (clean_valid _) h q
          rw [less_irrefl] at this
          cases this
        · intro q; omega
      · rename_i h
        simp only [Int.reduceLT, iff_true]
        cases hq : b.clean.less a.clean with
        | true => rfl
        | false => exact absurd (less_total (clean_valid _) (clean_valid _) (by simpa using h) hq) hs
  · rw [lt] at *
    exact less_trans (clean_valid _) (clean_valid _) (clean_valid _) h1 h2

theorem rowCmp_ok : CmpOk rowCmp (fun r => r.map Val.clean) := by
  have hz : ∀ r s : List Val, rowCmp r s = 0 ↔ r.map Val.clean = s.map Val.clean := by
    intro r
    induction r with
    | nil => intro s; cases s <;> simp [rowCmp]
    | cons a r ih =>
      intro s
      cases s with
      | nil => simp [rowCmp]
      | cons b s =>
        simp only [rowCmp, List.map_cons, List.cons.injEq]
        by_cases h : a.cmp b = 0
        · rw [if_pos h, ih s]
          exact ⟨fun q => ⟨(cmp_ok.zero a b).1 h, q⟩, fun q => q.2⟩
        · rw [if_neg h]
          exact ⟨fun q => absurd q h, fun q => absurd ((cmp_ok.zero a b).2 q.1) h⟩
  have ha : ∀ r s : List Val, rowCmp s r < 0 ↔ 0 < rowCmp r s := by
    intro r
    induction r with
    | nil => intro s; cases s <;> simp [rowCmp]
    | cons a r ih =>
      intro s
      cases s with
      | nil => simp [rowCmp]
      | cons b s =>
        simp only [rowCmp]
        by_cases h : a.cmp b = 0
        · rw [if_pos h, if_pos ((cmp_ok.zero b a).2 ((cmp_ok.zero a b).1 h).symm)]
          exact ih s
        · rw [if_neg h, if_neg (fun q => h ((cmp_ok.zero a b).2 ((cmp_ok.zero b a).1 q).symm))]
          exact cmp_ok.anti a b
  refine ⟨hz, ha, ?_⟩
  intro r
  induction r with
  | nil =>
    intro s t h1 h2
    cases t with
    | nil => cases s <;> simp [rowCmp] at h1 h2
    | cons c t => simp [rowCmp]
  | cons a r ih =>
    intro s t h1 h2
    cases s with
    | nil => simp [rowCmp] at h1
    | cons b s =>
      cases t with
      | nil => simp [rowCmp] at h2
      | cons c t =>
        simp only [rowCmp] at h1 h2 ⊢
        by_cases hab : a.cmp b = 0
        · rw [if_pos hab] at h1
          by_cases hbc : b.cmp c = 0
          · rw [if_pos hbc] at h2
            rw [if_pos ((cmp_ok.zero a c).2 (((cmp_ok.zero a b).1 hab).trans ((cmp_ok.zero b c).1 hbc)))]
            exact ih s t h1 h2
          · rw [if_neg hbc] at h2
            have := cmp_ok.left ((cmp_ok.zero a b).1 hab).symm h2
            rw [if_neg (by omega)]; exact this
        · rw [if_neg hab] at h1
          by_cases hbc : b.cmp c = 0
          · have := cmp_ok.right ((cmp_ok.zero b c).1 hbc) h1
            rw [if_neg (by omega)]; exact this
          · rw [if_neg hbc] at h2
            have := cmp_ok.trans a b c h1 h2
            rw [if_neg (by omega)]; exact this

/-- One more element is moved from the end to its place. -/
def bubR {α : Type} (lt : α → α → Bool) (p : α) : List α → List α → List α
  | [], B => p :: B
  | q :: A, B => if lt p q then bubR lt p A (q :: B) else A.reverse ++ q :: p :: B
def bub {α : Type} (lt : α → α → Bool) (p : α) (l : List α) : List α := bubR lt p l.reverse []

end Go.Proofs.YtmpgmjlanngkfaaGreat
end
section
namespace Go.Proofs.YtmpgmjlanngkfaaGreat
open Go.Abs Go.RowKit
attribute [local irreducible] ARun kont MCall PCall HCall resVal SF CF CFs defersOk slotsIn memIn fin finM VLe
set_option linter.unusedSimpArgs false
set_option maxRecDepth 100000
set_option maxHeartbeats 4000000

structure Trm where
  op : Int
  v : Val
  col : Int
def Trm.d (t : Trm) : List Dat := [.lit (.int .i64 t.op), .lit (.int .i64 t.v.kind), .lit (.int .i64 t.v.int), .lit (.string t.v.text), .lit (.int .i64 t.col)]
def exprD (e : List Trm) : Dat := .sl (e.map Trm.d)

def aryE (op : Int) : Int :=
  if op = 1 ∨ op = 2 then 0
  else if op = 3 ∨ op = 9 ∨ op = 13 ∨ op = 16 then 1
  else if op = 18 then 3
  else if 1 ≤ op ∧ op ≤ 18 then 2
  else -1
theorem aryE_bd (op : Int) : -1 ≤ aryE op ∧ aryE op ≤ 3 := by
  unfold aryE
  split
  · omega
  split
  · omega
  split
  · omega
  split <;> omega

theorem arity_c (op : Int) : PCall Tryz.prog 156 [.one (.lit (.int .i64 op))] (.v (.one (.lit (.int .i64 (aryE op))))) := by
  refine pcallN hT Tryz.func156 Tryz.ntmps156 [.tmp 2] fun B => ?_
  repeat' (first | (with_reducible (first | refine k_seq ?_ | refine k_block ?_ | refine k_skip ?_ | refine k_ret ?_ | refine n_seq ?_ | refine n_block ?_ | refine r_seq ?_ | refine r_block ?_)) | refine s_reg ?_ | refine s_ifT ?_ | refine s_if rfl (fun hb => ?_) (fun hb => ?_) | refine r_end ?_ | refine s_move ?_ | refine s_assign ?_ | refine s_int ?_ | refine f_ret1 def_nil ?_ | refine t_tmp ?_)
  all_goals (refine congrArg Dat.lit (congrArg (Value.int _) ?_); unfold aryE; simp_all)
  all_goals omega

theorem refArity_c (op : Int) : PCall Tryz.prog 72 [.one (.lit (.int .i64 op))] (.v (.one (.lit (.int .i64 (aryE op))))) := by
  refine pcallN hT Tryz.func72 Tryz.ntmps72 [.tmp 2] fun B => ?_
  repeat' (first | (with_reducible (first | refine k_seq ?_ | refine k_block ?_ | refine k_skip ?_ | refine k_ret ?_ | refine n_seq ?_ | refine n_block ?_ | refine r_seq ?_ | refine r_block ?_)) | refine s_reg ?_ | refine s_ifT ?_ | refine s_ifF ?_ | refine s_if rfl (fun hb => ?_) (fun hb => ?_) | refine r_end ?_ | refine s_skipS ?_ | refine s_move ?_ | refine s_assign ?_ | refine s_int ?_ | refine s_pick ?_ | refine s_split rfl rfl (fun hb => ?_) (fun hb => ?_) | refine f_ret1 def_nil ?_ | refine t_tmp ?_)
  all_goals (refine congrArg Dat.lit (congrArg (Value.int _) ?_); unfold aryE; simp_all)
  all_goals omega

/-- Whether the fields of a term fit its operator. -/
def fieldsE (t : Trm) : Bool :=
  if t.op = 1 then decide (t.col = 0) && decide (t.v.kind ≠ 0) && t.v.valid
  else if t.op = 2 then decide (0 ≤ t.col) && t.v.same Val.null
  else decide (t.col = 0) && t.v.same Val.null
def termOK (t : Trm) : Bool := decide (0 ≤ aryE t.op) && fieldsE t

theorem sameNull (v : Val) : v.same Val.null = ((v.kind == 0) && ((v.int == 0) && v.text.toList.isEmpty)) := by
  rw [Val.same, ← bytes_nil]; rfl

theorem beq_dec (a b : Int) : (a == b) = decide (a = b) := by
  rw [Bool.eq_iff_iff]; simp

theorem validTerm_c (t : Trm) : PCall Tryz.prog 203 [.agg t.d] (.v (.one (.lit (.bool (termOK t))))) := by
  have h1 := valid_c t.v
  have h2 := arity_c t.op
  refine pcallN hT Tryz.func203 Tryz.ntmps203 [.tmp 2] fun B => ?_
  repeat' (first | (with_reducible (first | refine k_seq ?_ | refine k_block ?_ | refine k_skip ?_ | refine k_ret ?_ | refine n_seq ?_ | refine n_block ?_ | refine r_seq ?_ | refine r_block ?_)) | refine s_reg ?_ | refine s_if rfl (fun hb => ?_) (fun hb => ?_) | refine r_end ?_ | refine s_skipS ?_ | refine s_move ?_ | refine s_assign ?_ | refine s_int ?_ | refine s_eqA ?_ | refine s_loadB1 ?_ | refine s_loadBA ?_ | refine s_fieldB ?_ | refine s_call (h1) ?_ | refine s_call (h2) ?_ | refine s_pick ?_ | refine s_box ?_ | refine s_build ?_ | refine s_split rfl rfl (fun hb => ?_) (fun hb => ?_) | refine f_ret1 def_nil ?_ | refine t_tmp ?_)
  all_goals (refine congrArg Dat.lit (congrArg Value.bool ?_); unfold termOK fieldsE; simp_all [sameNull, bytes_nil, litsEq, litEq])
  all_goals first | exact beq_dec _ _ | (intros; omega)
end Go.Proofs.YtmpgmjlanngkfaaGreat
end
