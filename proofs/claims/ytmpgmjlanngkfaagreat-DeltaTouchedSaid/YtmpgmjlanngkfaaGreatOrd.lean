/-
  Orders: of values and rows; lists that are sorted; the insertion of one more element from behind. Plain, no program.
-/
import Derived.Test.YtmpgmjlanngkfaaGreatRowc
import Derived.Test.YtmpgmjlanngkfaaGreatSrt
section
namespace Go.Proofs.YtmpgmjlanngkfaaGreat
open Go.Abs Go.RowKit
attribute [local irreducible] ARun Aq MCall PCall HCall Am SF CF CFs Af Al Ap B5 AW VLe
set_option linter.unusedSimpArgs false
set_option maxRecDepth 100000
set_option maxHeartbeats 4000000
def I4 (z : Int) : UInt8 := UInt8.ofNat (z.emod 256).toNat
theorem Ie (z : Int) : IntKind.u8.wrap z = ((I4 z).toNat : Nat) := by
 have h1 := Int.emod_nonneg z (show (256 : Int) ≠ 0 by decide)
 have h2 := Int.emod_lt_of_pos z (show (0 : Int) < 256 by decide)
 have e : (I4 z).toNat = (z.emod 256).toNat := by
  unfold I4
  rw [UInt8.toNat_ofNat']
  have : (z.emod 256).toNat < 256 := by
   have : z.emod 256 = z % 256 := rfl
   omega
  omega
 rw [e]
 have : z.emod 256 = z % 256 := rfl
 simp [IntKind.wrap, IntKind.bits, IntKind.signed]
 omega
def Bs (n : Int) : List UInt8 := [2, I4 (CQ .i64 n 32), I4 (CQ .i64 n 24), I4 (CQ .i64 n 16), I4 (CQ .i64 n 8), I4 n]
def En (b : UInt8) : List UInt8 := if b = 0 then [0, 255] else [b]
def CW (l : List UInt8) : List UInt8 := l.flatMap En
def AL (v : Val) : List UInt8 :=
 if v.kind = 1 then Bs (v.int + 4294967296)
 else if v.kind = 2 then 3 :: (CW v.text.data.toList ++ [0, 0])
 else [1]
theorem NW {l : List UInt8} {i : Nat} {b : UInt8} (h : l[i]? = some b) : CW (l.take (i + 1)) = CW (l.take i) ++ En b := by
 rw [KL, h, CW, CW, List.flatMap_append]
 simp
theorem L8 (l : List UInt8) : (CW l).length ≤ 2 * l.length := by
 induction l with
 | nil => simp [CW]
 | cons b l ih =>
   have : CW (b :: l) = En b ++ CW l := by simp [CW]
   rw [this, Dg, List.length_cons]
   have : (En b).length ≤ 2 := by unfold En; split <;> simp
   omega
theorem JZ (v : Val) (h : v.valid = true) : (AL v).length ≤ 80 := by
 unfold AL
 split
 ·simp [Bs]
 ·split
  ·rename_i h1 h2
   have hs : v.text.size ≤ 32 := by
    unfold Val.valid at h
    rw [if_neg (by omega), if_neg h1, if_pos h2] at h
    simp at h
    exact h.2
   have := L8 v.text.data.toList
   have e : v.text.data.toList.length = v.text.size := by simp
   simp only [List.length_cons, Dg, List.length_nil]
   omega
  ·simp
theorem KE (out : List UInt8) (v : Val) (ho : out.length ≤ 1000000) (hv : v.valid = true) :
  HC 176 [.c (.arr 0 0 out.length), .agg (v.d.map .d)] [.arr 0 5 1 (out.map MD)] (.c (.arr 0 1 (out ++ AL v).length)) [.arr 1 5 1 ((out ++ AL v).map MD)] := by
 by_cases hk1 : v.kind = 1
 ·have hb1 : -4294967296 ≤ v.int ∧ v.int ≤ 4294967296 := by
   unfold Val.valid at hv
   rw [if_neg (by omega), if_pos hk1] at hv
   simp at hv
   exact ⟨hv.1.1, hv.1.2⟩
  obtain ⟨hb1, hb2⟩ := hb1
  have he : AL v = Bs (v.int + 4294967296) := by rw [AL, if_pos hk1]
  refine AF hT Tryz.func176 Tryz.ntmps176 [.tmp 4] fun B => ?_
  repeat' first | refine kz ?_ | refine AE rfl (fun hb => ?_) (fun hb => ?_) | refine As ?_ | refine kg ?_ ?_ | exact k0 | refine m1 ?_ ?_ | refine CC ?_
  ·rw [he, As']
   simp only [Ie, Bs, List.map_cons, List.map_nil, MD]
   rfl
  ·rw [he]; simp [Bs]
 ·by_cases hk2 : v.kind = 2
  ·have hs : v.text.size ≤ 32 := by
    unfold Val.valid at hv
    rw [if_neg (by omega), if_neg hk1, if_pos hk2] at hv
    simp at hv
    exact hv.2
   have he : AL v = 3 :: (CW v.text.data.toList ++ [0, 0]) := by rw [AL, if_neg hk1, if_pos hk2]
   have hl : v.text.data.toList.length = v.text.size := by simp
   generalize hL : v.text.data.toList = l at he hl
   refine AF hT Tryz.func176 Tryz.ntmps176 [.tmp 4] fun B => ?_
   repeat' first | refine kz ?_ | refine AE rfl (fun hb => ?_) (fun hb => ?_) | refine As ?_ | refine kg ?_ ?_ | exact k0 | refine m1 ?_ ?_ | refine CC ?_
   rw [hL]
   refine AY (X := Nat × Nat) ([0, 7] ++ List.range' 41 14) (fun x => x.1 ≤ l.length) (fun x lz => (0, .c (.arr 0 x.2 (out ++ 3 :: CW (l.take x.1)).length)) :: (41, (iC x.1)) :: lz) (fun x => [.arr x.2 5 1 ((out ++ 3 :: CW (l.take x.1)).map MD)]) (fun x => l.length - x.1) ((0, 2)) ?_ ?_ ?_ ?_
   repeat' first | exact k0 | refine kw ?_ | refine kv ?_ ?_ | omega
   ·simp [CW]
   ·simp [CW]; rfl
   rintro ⟨i, k⟩ c hi
   dsimp only at hi ⊢
   have hel := L8 (l.take i)
   have htl : (l.take i).length = i := by simp; omega
   by_cases hlt : i < l.length
   ·obtain ⟨b, hv⟩ := gx hlt
    have hsn := NW hv
    repeat' first | refine kz ?_ | refine AE rfl (fun hb => ?_) (fun hb => ?_) | refine AT hv ?_ | refine As ?_ | refine kg ?_ ?_ | exact k0 | refine m1 ?_ ?_ | refine CC ?_
    ·have hb0 : b = 0 := by apply UInt8.toNat_inj.1; simpa using hb
     subst hb0
     apply Ae ((i + 1, _)) <;> (try dsimp only) <;> try repeat' first | exact k0 | refine w1 ?_ | refine w5 ?_ ?_ | refine m1 ?_ ?_ | omega
     ·rw [hsn]; simp [En]; omega
     ·rw [hsn]; simp [En, MD]
    ·have hb0 : ¬ b = 0 := by intro q; subst q; exact hb rfl
     apply Ae ((i + 1, _)) <;> (try dsimp only) <;> try repeat' first | exact k0 | refine w1 ?_ | refine w5 ?_ ?_ | refine m1 ?_ ?_ | omega
     ·rw [hsn]; simp [En, hb0]; omega
     ·rw [hsn]; simp [En, MD, hb0]
   ·repeat' first | refine kz ?_ | refine AE rfl (fun hb => ?_) (fun hb => ?_) | refine As ?_ | refine kg ?_ ?_ | exact k0 | refine m1 ?_ ?_ | refine CC ?_
    ·rw [he, Ag (by omega)]; simp [MD]
    ·rw [he, Ag (by omega)]; simp; omega
  ·have he : AL v = [1] := by rw [AL, if_neg hk1, if_neg hk2]
   refine AF hT Tryz.func176 Tryz.ntmps176 [.tmp 4] fun B => ?_
   repeat' first | refine kz ?_ | refine AE rfl (fun hb => ?_) (fun hb => ?_) | refine As ?_ | refine kg ?_ ?_ | exact k0 | refine m1 ?_ ?_ | refine CC ?_
   ·rw [he, As']; rfl
   ·rw [he]; simp
def AD (r : List Val) : List UInt8 := r.flatMap fun v => AL v.clean
theorem D2 (v : Val) : v.clean.valid = true := by
 unfold Val.clean
 split
 ·assumption
 ·simp [Val.null, Val.valid, ByteArray.toList_eq]
theorem NY {r : List Val} {i : Nat} {v : Val} (h : r[i]? = some v) : AD (r.take (i + 1)) = AD (r.take i) ++ AL v.clean := by
 rw [KL, h, AD, AD, List.flatMap_append]
 simp
theorem J0 (r : List Val) : (AD r).length ≤ 80 * r.length := by
 induction r with
 | nil => simp [AD]
 | cons v r ih =>
   have : AD (v :: r) = AL v.clean ++ AD r := by simp [AD]
   rw [this, Dg, List.length_cons]
   have := JZ v.clean (D2 v)
   omega
theorem F4 (r : List Val) (hr : r.length ≤ 10000) : PC 114 [.one (BS r)] (.v (.one (.lit (.string ⟨(AD r).toArray⟩)))) := by
 refine Ad hT Tryz.func114 Tryz.ntmps114 [.tmp 2] fun B => ?_
 repeat' first | refine kz ?_ | refine As ?_ | refine kf ?_ | fail
 refine CN 3 5 1 ?_
 refine AY (X := Nat × Nat) ([3, 5] ++ List.range' 8 9) (fun x => x.1 ≤ r.length) (fun x lz => (3, .c (.arr 0 x.2 (AD (r.take x.1)).length)) :: (8, (iC x.1)) :: lz) (fun x => [.arr x.2 5 1 ((AD (r.take x.1)).map MD)]) (fun x => r.length - x.1) ((0, 1)) ?_ ?_ ?_ ?_
 repeat' first | exact k0 | refine kw ?_ | refine kv ?_ ?_ | omega
 rintro ⟨i, k⟩ c hi
 dsimp only at hi ⊢
 have hel := J0 (r.take i)
 have htl : (r.take i).length = i := by simp; omega
 by_cases hlt : i < r.length
 ·obtain ⟨v, hv⟩ := gx hlt
  have hsn := NY hv
  repeat' first | refine kz ?_ | refine AT hv ?_ | refine As ?_ | refine Aa (HP _) ?_ | refine Ak [0] (KE (AD (r.take i)) v.clean (by omega) (D2 v)) ?_ | refine kf ?_ | fail
  apply Ae ((i + 1, _)) <;> (try dsimp only) <;> try repeat' first | exact k0 | refine w1 ?_ | refine w5 ?_ ?_ | refine Ab ?_ | refine m1 ?_ ?_ | omega
  all_goals rw [hsn]
 ·repeat' first | refine kz ?_ | refine As ?_ | refine kf ?_ | fail
  all_goals (rw [Ag (by omega)])
end Go.Proofs.YtmpgmjlanngkfaaGreat
end
section
namespace Go.Proofs.YtmpgmjlanngkfaaGreat
open Go.Abs Go.RowKit
set_option linter.unusedSimpArgs false
variable {x y : Val}
structure CmpOk {α κ : Type} (f : α → α → Int) (key : α → κ) : Prop where
 zero : ∀ a b, f a b = 0 ↔ key a = key b
 anti : ∀ a b, f b a < 0 ↔ 0 < f a b
 trans : ∀ a b c, f a b < 0 → f b c < 0 → f a c < 0
namespace CmpOk
variable {α κ : Type} {f : α → α → Int} {key : α → κ} (h : CmpOk f key)
include h
theorem refl (a : α) : f a a = 0 := (h.zero a a).2 rfl
theorem left {a a' b : α} (e : key a = key a') (hb : f a b < 0) : f a' b < 0 := by
 have h0 := (h.zero a a').2 e
 rcases ZM (f a' b) 0 with q | q | q
 ·exact q
 ·have := (h.zero a' b).1 q
  have := (h.zero a b).2 (e.trans this)
  omega
 ·have := h.trans a b a' hb ((h.anti a' b).2 q)
  omega
theorem right {a b b' : α} (e : key b = key b') (hb : f a b < 0) : f a b' < 0 := by
 have h0 := (h.zero b b').2 e
 rcases ZM (f a b') 0 with q | q | q
 ·exact q
 ·have := (h.zero a b').1 q
  have := (h.zero a b).2 (this.trans e.symm)
  omega
 ·have := h.trans b' a b ((h.anti a b').2 q) hb
  have := (h.zero b' b).2 e.symm
  omega
theorem swo : Go.Sort.SWO (Go.Proofs.ltOf f) where
 irrefl x := by have := h.refl x; simp [Go.Proofs.ltOf, this]
 trans x y z h1 h2 := by
  simp only [Go.Proofs.ltOf, decide_eq_true_eq] at *
  exact h.trans x y z h1 h2
 ntrans x y z h1 h2 := by
  simp only [Go.Proofs.ltOf, decide_eq_false_iff_not] at *
  intro q
  have hyz : f z y ≤ 0 := by
   by_cases w : 0 < f z y
   ·exact absurd ((h.anti z y).2 w) h2
   ·omega
  rcases Int.lt_or_eq_of_le hyz with w | w
  ·exact h1 (h.trans x z y q w)
  ·exact h1 (h.right ((h.zero z y).1 w) q)
end CmpOk
theorem CmpOk.comp {α β κ : Type} {f : α → α → Int} {key : α → κ} (h : CmpOk f key) (g : β → α) : CmpOk (fun x y => f (g x) (g y)) (fun x => key (g x)) :=
 ⟨fun _ _ => h.zero _ _, fun _ _ => h.anti _ _, fun _ _ _ => h.trans _ _ _⟩
theorem DB {α : Type} {R : α → α → Prop} (hirr : ∀ a, ¬ R a a) (htr : ∀ a b c, R a b → R b c → R a c) : ∀ {l m : List α}, l.Pairwise R → m.Pairwise R → (∀ x, x ∈ l ↔ x ∈ m) → l = m
 | [], [], _, _, _ => rfl
 | [], b :: m, _, _, h => by have := (h b).2 (by simp); simp at this
 | a :: l, [], _, _, h => by have := (h a).1 (by simp); simp at this
 | a :: l, b :: m, hl, hm, h => by
   obtain ⟨l1, l2⟩ := Fe.1 hl
   obtain ⟨m1, m2⟩ := Fe.1 hm
   have hab : a = b := by
    rcases Dp.1 ((h a).1 (by simp)) with q | q
    ·exact q
    ·rcases Dp.1 ((h b).2 (by simp)) with p | p
     ·exact p.symm
     ·exact absurd (htr _ _ _ (m1 a q) (l1 b p)) (hirr b)
   subst hab
   rw [DB hirr htr l2 m2 fun x => ?_]
   constructor
   ·intro hx
    rcases Dp.1 ((h x).1 (by simp [hx])) with q | q
    ·subst q; exact absurd (l1 x hx) (hirr x)
    ·exact q
   ·intro hx
    rcases Dp.1 ((h x).2 (by simp [hx])) with q | q
    ·subst q; exact absurd (m1 x hx) (hirr x)
    ·exact q
theorem Lu : ∀ l : List UInt8, Op.bytesLess l l = false
 | [] => rfl
 | a :: l => by simp [Op.bytesLess, Lu l]
theorem Ou : ∀ {x y z : List UInt8}, Op.bytesLess x y = true → Op.bytesLess y z = true → Op.bytesLess x z = true
 | [], [], _, h, _ => by simp [Op.bytesLess] at h
 | [], _ :: _, [], _, h => by simp [Op.bytesLess] at h
 | [], _ :: _, _ :: _, _, _ => by simp [Op.bytesLess]
 | _ :: _, [], _, h, _ => by simp [Op.bytesLess] at h
 | _ :: _, _ :: _, [], _, h => by simp [Op.bytesLess] at h
 | a :: x, b :: y, c :: z, h1, h2 => by
   have ih := @Ou x y z
   simp only [Op.bytesLess, Ui, BO, decide_eq_true_eq, beq_iff_eq, UInt8.lt_iff_toNat_lt] at h1 h2 ⊢
   rcases h1 with h1 | ⟨rfl, h1⟩
   ·rcases h2 with h2 | ⟨rfl, _⟩
    ·exact .inl (by omega)
    ·exact .inl h1
   ·rcases h2 with h2 | ⟨rfl, h2⟩
    ·exact .inl h2
    ·exact .inr ⟨rfl, ih h1 h2⟩
theorem Ov : ∀ {x y : List UInt8}, Op.bytesLess x y = false → Op.bytesLess y x = false → x = y
 | [], [], _, _ => rfl
 | [], _ :: _, h, _ => by simp [Op.bytesLess] at h
 | _ :: _, [], _, h => by simp [Op.bytesLess] at h
 | a :: x, b :: y, h1, h2 => by
   have ih := @Ov x y
   simp only [Op.bytesLess, Bool.or_eq_false_iff, decide_eq_false_iff_not, UInt8.lt_iff_toNat_lt] at h1 h2
   have hab : a = b := by
    apply UInt8.toNat_inj.1
    omega
   subst hab
   rw [ih (by simpa using h1.2) (by simpa using h2.2)]
theorem GG {a b : ByteArray} (h : a.toList = b.toList) : a = b := by
 rw [ByteArray.toList_eq, ByteArray.toList_eq] at h
 cases a; cases b
 simp only at h
 congr 1
 exact OU h
theorem HJ : x.same y = true ↔ x = y := by
 constructor
 ·intro h
  simp only [Val.same, BO, beq_iff_eq] at h
  cases x; cases y
  simp only at h
  rw [h.1, h.2.1, GG h.2.2]
 ·rintro rfl
  simp [Val.same]
theorem Ge (x : Val) : x.less x = false := by
 simp [Val.less, Lu]
theorem Gf (hx : x.valid = true) (hy : y.valid = true) : x.less y = true ↔ x.kind < y.kind ∨ (x.kind = y.kind ∧ (x.int < y.int ∨ (x.int = y.int ∧ Op.bytesLess x.text.toList y.text.toList = true))) := by
 simp only [Val.less, Ui, BO, decide_eq_true_eq, beq_iff_eq]
 constructor
 ·rintro (h | ⟨h1, h2 | h2⟩)
  ·exact .inl h
  ·exact .inr ⟨h1, .inl h2⟩
  ·by_cases hk : x.kind = 2
   ·exact .inr ⟨h1, .inr ⟨by rw [D9 hx (by omega), D9 hy (by omega)], h2⟩⟩
   ·rw [Du hx hk, Du hy (by omega)] at h2
    simp [Op.bytesLess] at h2
 ·rintro (h | ⟨h1, h2 | ⟨_, h2⟩⟩)
  ·exact .inl h
  ·exact .inr ⟨h1, .inl h2⟩
  ·exact .inr ⟨h1, .inr h2⟩
theorem Kg {z : Val} (hx : x.valid = true) (hy : y.valid = true) (hz : z.valid = true) (h1 : x.less y = true) (h2 : y.less z = true) : x.less z = true := by
 rw [Gf hx hy] at h1
 rw [Gf hy hz] at h2
 rw [Gf hx hz]
 rcases h1 with h1 | ⟨h1, h1' | ⟨h1', h1''⟩⟩
 ·rcases h2 with h2 | ⟨h2, _⟩
  ·exact .inl (by omega)
  ·exact .inl (by omega)
 ·rcases h2 with h2 | ⟨h2, h2' | ⟨h2', _⟩⟩
  ·exact .inl (by omega)
  ·exact .inr ⟨by omega, .inl (by omega)⟩
  ·exact .inr ⟨by omega, .inl (by omega)⟩
 ·rcases h2 with h2 | ⟨h2, h2' | ⟨h2', h2''⟩⟩
  ·exact .inl (by omega)
  ·exact .inr ⟨by omega, .inl (by omega)⟩
  ·exact .inr ⟨by omega, .inr ⟨by omega, Ou h1'' h2''⟩⟩
theorem PF (hx : x.valid = true) (hy : y.valid = true) (h1 : x.less y = false) (h2 : y.less x = false) : x = y := by
 have n1 : ¬ x.less y = true := by simp [h1]
 have n2 : ¬ y.less x = true := by simp [h2]
 rw [Gf hx hy] at n1
 rw [Gf hy hx] at n2
 have hk : x.kind = y.kind := by omega
 have hi : x.int = y.int := by omega
 have ht : x.text = y.text := by
  apply GG
  apply Ov
  ·cases hq : Op.bytesLess x.text.toList y.text.toList with
   | false => rfl
   | true => exact absurd (.inr ⟨hk, .inr ⟨hi, hq⟩⟩) n1
  ·cases hq : Op.bytesLess y.text.toList x.text.toList with
   | false => rfl
   | true => exact absurd (.inr ⟨hk.symm, .inr ⟨hi.symm, hq⟩⟩) n2
 cases x; cases y
 simp only at hk hi ht
 rw [hk, hi, ht]
theorem cmp_ok : CmpOk Val.cmp Val.clean := by
 have lt : ∀ a b : Val, a.cmp b < 0 ↔ a.clean.less b.clean = true := by
  intro a b
  unfold Val.cmp
  split
  ·rename_i h
   rw [HJ] at h
   rw [h, Ge]
   simp
  ·split <;> simp_all
 refine ⟨fun a b => ?_, fun a b => ?_, fun a b c h1 h2 => ?_⟩
 ·rw [← HJ]
  unfold Val.cmp
  split
  ·simp_all
  ·split <;> simp_all
 ·rw [lt]
  unfold Val.cmp
  by_cases hs : a.clean = b.clean
  ·rw [if_pos (HJ.2 hs), hs, Ge]; simp
  ·rw [if_neg (fun q => hs (HJ.1 q))]
   split
   ·rename_i h
    constructor
    · intro q
      have := Kg (AV _) (AV _) (AV _) h q
      rw [Ge] at this
      cases this
    · intro q; omega
   ·rename_i h
    simp only [Int.reduceLT, iff_true]
    cases hq : b.clean.less a.clean with
    | true => rfl
    | false => exact absurd (PF (AV _) (AV _) (by simpa using h) hq) hs
 ·rw [lt] at *
  exact Kg (AV _) (AV _) (AV _) h1 h2
theorem rowCmp_ok : CmpOk Ai (fun r => r.map Val.clean) := by
 have hz : ∀ r s : List Val, Ai r s = 0 ↔ r.map Val.clean = s.map Val.clean := by
   intro r
   induction r with
   | nil => intro s; cases s <;> simp [Ai]
   | cons a r ih =>
     intro s
     cases s with
     | nil => simp [Ai]
     | cons b s =>
       simp only [Ai, List.map_cons, Uh]
       by_cases h : a.cmp b = 0
       ·rw [if_pos h, ih s]
        exact ⟨fun q => ⟨(cmp_ok.zero a b).1 h, q⟩, fun q => q.2⟩
       ·rw [if_neg h]
        exact ⟨fun q => absurd q h, fun q => absurd ((cmp_ok.zero a b).2 q.1) h⟩
 have ha : ∀ r s : List Val, Ai s r < 0 ↔ 0 < Ai r s := by
   intro r
   induction r with
   | nil => intro s; cases s <;> simp [Ai]
   | cons a r ih =>
     intro s
     cases s with
     | nil => simp [Ai]
     | cons b s =>
       simp only [Ai]
       by_cases h : a.cmp b = 0
       ·rw [if_pos h, if_pos ((cmp_ok.zero b a).2 ((cmp_ok.zero a b).1 h).symm)]
        exact ih s
       ·rw [if_neg h, if_neg (fun q => h ((cmp_ok.zero a b).2 ((cmp_ok.zero b a).1 q).symm))]
        exact cmp_ok.anti a b
 refine ⟨hz, ha, ?_⟩
 intro r
 induction r with
 | nil =>
   intro s t h1 h2
   cases t with
   | nil => cases s <;> simp [Ai] at h1 h2
   | cons c t => simp [Ai]
 | cons a r ih =>
   intro s t h1 h2
   cases s with
   | nil => simp [Ai] at h1
   | cons b s =>
     cases t with
     | nil => simp [Ai] at h2
     | cons c t =>
       simp only [Ai] at h1 h2 ⊢
       by_cases hab : a.cmp b = 0
       ·rw [if_pos hab] at h1
        by_cases hbc : b.cmp c = 0
        ·rw [if_pos hbc] at h2
         rw [if_pos ((cmp_ok.zero a c).2 (((cmp_ok.zero a b).1 hab).trans ((cmp_ok.zero b c).1 hbc)))]
         exact ih s t h1 h2
        ·rw [if_neg hbc] at h2
         have := cmp_ok.left ((cmp_ok.zero a b).1 hab).symm h2
         rw [if_neg (by omega)]; exact this
       ·rw [if_neg hab] at h1
        by_cases hbc : b.cmp c = 0
        ·have := cmp_ok.right ((cmp_ok.zero b c).1 hbc) h1
         rw [if_neg (by omega)]; exact this
        ·rw [if_neg hbc] at h2
         have := cmp_ok.trans a b c h1 h2
         rw [if_neg (by omega)]; exact this
def YQ {α : Type} (lt : α → α → Bool) (p : α) : List α → List α → List α
 | [], B => p :: B
 | q :: A, B => if lt p q then YQ lt p A (q :: B) else A.reverse ++ q :: p :: B
def a8 {α : Type} (lt : α → α → Bool) (p : α) (l : List α) : List α := YQ lt p l.reverse []
end Go.Proofs.YtmpgmjlanngkfaaGreat
end
