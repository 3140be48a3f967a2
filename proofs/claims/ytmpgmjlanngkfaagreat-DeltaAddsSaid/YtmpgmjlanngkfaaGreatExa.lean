/-
  Expressions: terms as data, the number of operands, valid terms.
-/
import Derived.Test.YtmpgmjlanngkfaaGreatNorm
import Derived.Test.YtmpgmjlanngkfaaGreatSrt
import Derived.Test.YtmpgmjlanngkfaaGreatCmp
section
namespace Go.Proofs.YtmpgmjlanngkfaaGreat
open Go.Abs Go.RowKit
attribute [local irreducible] ARun kont MCall PCall HCall resVal SF CF CFs defersOk slotsIn memIn fin finM VLe
set_option linter.unusedSimpArgs false
set_option maxRecDepth 100000
set_option maxHeartbeats 4000000
def u8of (z : Int) : UInt8 := UInt8.ofNat (z.emod 256).toNat
theorem u8of_wrap (z : Int) : IntKind.u8.wrap z = ((u8of z).toNat : Nat) := by
  have h1 := Int.emod_nonneg z (show (256 : Int) ≠ 0 by decide)
  have h2 := Int.emod_lt_of_pos z (show (0 : Int) < 256 by decide)
  have e : (u8of z).toNat = (z.emod 256).toNat := by
    unfold u8of
    rw [UInt8.toNat_ofNat']
    have : (z.emod 256).toNat < 256 := by
      have : z.emod 256 = z % 256 := rfl
      omega
    omega
  rw [e]
  have : z.emod 256 = z % 256 := rfl
  simp [IntKind.wrap, IntKind.bits, IntKind.signed]
  omega
def encInt (n : Int) : List UInt8 := [2, u8of (shrInt .i64 n 32), u8of (shrInt .i64 n 24), u8of (shrInt .i64 n 16), u8of (shrInt .i64 n 8), u8of n]
def esc1 (b : UInt8) : List UInt8 := if b = 0 then [0, 255] else [b]
def esc (l : List UInt8) : List UInt8 := l.flatMap esc1
def encVal (v : Val) : List UInt8 :=
  if v.kind = 1 then encInt (v.int + 4294967296)
  else if v.kind = 2 then 3 :: (esc v.text.data.toList ++ [0, 0])
  else [1]
theorem esc_snoc {l : List UInt8} {i : Nat} {b : UInt8} (h : l[i]? = some b) : esc (l.take (i + 1)) = esc (l.take i) ++ esc1 b := by
  rw [List.take_add_one, h, esc, esc, List.flatMap_append]
  simp
theorem esc_len (l : List UInt8) : (esc l).length ≤ 2 * l.length := by
  induction l with
  | nil => simp [esc]
  | cons b l ih =>
    have : esc (b :: l) = esc1 b ++ esc l := by simp [esc]
    rw [this, List.length_append, List.length_cons]
    have : (esc1 b).length ≤ 2 := by unfold esc1; split <;> simp
    omega
theorem encVal_len (v : Val) (h : v.valid = true) : (encVal v).length ≤ 80 := by
  unfold encVal
  split
  · simp [encInt]
  · split
    · rename_i h1 h2
      have hs : v.text.size ≤ 32 := by
        unfold Val.valid at h
        rw [if_neg (by omega), if_neg h1, if_pos h2] at h
        simp at h
        exact h.2
      have := esc_len v.text.data.toList
      have e : v.text.data.toList.length = v.text.size := by simp
      simp only [List.length_cons, List.length_append, List.length_nil]
      omega
    · simp
theorem appendValue_h (out : List UInt8) (v : Val) (ho : out.length ≤ 1000000) (hv : v.valid = true) :
    HCall Tryz.prog 176 [.c (.arr 0 0 out.length), .agg (v.d.map .d)] [.arr 0 5 1 (out.map byD)] (.c (.arr 0 1 (out ++ encVal v).length)) [.arr 1 5 1 ((out ++ encVal v).map byD)] := by
  by_cases hk1 : v.kind = 1
  · have hb1 : -4294967296 ≤ v.int ∧ v.int ≤ 4294967296 := by
      unfold Val.valid at hv
      rw [if_neg (by omega), if_pos hk1] at hv
      simp at hv
      exact ⟨hv.1.1, hv.1.2⟩
    obtain ⟨hb1, hb2⟩ := hb1
    have he : encVal v = encInt (v.int + 4294967296) := by rw [encVal, if_pos hk1]
    refine hcallN hT Tryz.func176 Tryz.ntmps176 [.tmp 4] fun B => ?_
    repeat' (first | refine ks ?_ | refine ko ?_ | refine s_if rfl (fun hb => ?_) (fun hb => ?_) | refine s_indexD ?_ (hel := (by first | exact rfl)) | refine kg ?_ ?_ | exact k0 | refine m1 ?_ ?_ | refine am_arr ?_)
    · rw [he, List.map_append]
      simp only [u8of_wrap, encInt, List.map_cons, List.map_nil, byD]
      rfl
    · rw [he]; simp [encInt]
  · by_cases hk2 : v.kind = 2
    · have hs : v.text.size ≤ 32 := by
        unfold Val.valid at hv
        rw [if_neg (by omega), if_neg hk1, if_pos hk2] at hv
        simp at hv
        exact hv.2
      have he : encVal v = 3 :: (esc v.text.data.toList ++ [0, 0]) := by rw [encVal, if_neg hk1, if_pos hk2]
      have hl : v.text.data.toList.length = v.text.size := by simp
      generalize hL : v.text.data.toList = l at he hl
      refine hcallN hT Tryz.func176 Tryz.ntmps176 [.tmp 4] fun B => ?_
      repeat' (first | refine ks ?_ | refine ko ?_ | refine s_if rfl (fun hb => ?_) (fun hb => ?_) | refine s_indexD ?_ (hel := (by first | exact rfl)) | refine kg ?_ ?_ | exact k0 | refine m1 ?_ ?_ | refine am_arr ?_)
      rw [hL]
      refine s_lp (X := Nat × Nat) [0, 7, 41, 42, 43, 44, 45, 46, 47, 48, 49, 50, 51, 52, 53, 54] (fun x => x.1 ≤ l.length) (fun x lz => (0, .c (.arr 0 x.2 (out ++ 3 :: esc (l.take x.1)).length)) :: (41, (.c (.d (.lit (.int .i64 x.1))))) :: lz) (fun x => [.arr x.2 5 1 ((out ++ 3 :: esc (l.take x.1)).map byD)]) (fun x => l.length - x.1) ((0, 2)) ?_ ?_ ?_ ?_
      repeat' (first | exact slots_nil | refine kw ?_ | refine kv ?_ ?_ | exact memIn_nil | omega)
      · simp [esc]
      · simp [esc]; rfl
      rintro ⟨i, k⟩ c hi
      dsimp only at hi ⊢
      have hel := esc_len (l.take i)
      have htl : (l.take i).length = i := by simp; omega
      by_cases hlt : i < l.length
      · have hv : l[i]? = some l[i] := List.getElem?_eq_getElem hlt
        generalize l[i] = b at hv
        have hsn := esc_snoc hv
        repeat' (first | refine ks ?_ | refine ko ?_ | refine s_if rfl (fun hb => ?_) (fun hb => ?_) | refine s_indexD ?_ (hel := (by first | exact idx_map hv (by omega) | exact hv | exact rfl)) | refine kg ?_ ?_ | exact k0 | refine m1 ?_ ?_ | refine am_arr ?_)
        · have hb0 : b = 0 := by apply UInt8.toNat_inj.1; simpa using hb
          subst hb0
          (apply s_round ((i + 1, _)); all_goals (try dsimp only); all_goals (try (repeat' (first | exact slots_nil | refine w1 ?_ | refine w5 ?_ ?_ | exact memIn_nil | refine m1 ?_ ?_ | omega))))
          · rw [hsn]; simp [esc1]; omega
          · rw [hsn]; simp [esc1, byD]
        · have hb0 : ¬ b = 0 := by intro q; subst q; exact hb rfl
          (apply s_round ((i + 1, _)); all_goals (try dsimp only); all_goals (try (repeat' (first | exact slots_nil | refine w1 ?_ | refine w5 ?_ ?_ | exact memIn_nil | refine m1 ?_ ?_ | omega))))
          · rw [hsn]; simp [esc1, hb0]; omega
          · rw [hsn]; simp [esc1, byD, hb0]
      · repeat' (first | refine ks ?_ | refine ko ?_ | refine s_if rfl (fun hb => ?_) (fun hb => ?_) | refine s_indexD ?_ (hel := (by first | exact rfl)) | refine kg ?_ ?_ | exact k0 | refine m1 ?_ ?_ | refine am_arr ?_)
        · rw [he, take_ge (by omega)]; simp [byD]
        · rw [he, take_ge (by omega)]; simp; omega
    · have he : encVal v = [1] := by rw [encVal, if_neg hk1, if_neg hk2]
      refine hcallN hT Tryz.func176 Tryz.ntmps176 [.tmp 4] fun B => ?_
      repeat' (first | refine ks ?_ | refine ko ?_ | refine s_if rfl (fun hb => ?_) (fun hb => ?_) | refine s_indexD ?_ (hel := (by first | exact rfl)) | refine kg ?_ ?_ | exact k0 | refine m1 ?_ ?_ | refine am_arr ?_)
      · rw [he, List.map_append]; rfl
      · rw [he]; simp
def encRow (r : List Val) : List UInt8 := r.flatMap fun v => encVal v.clean
theorem clean_valid' (v : Val) : v.clean.valid = true := by
  unfold Val.clean
  split
  · assumption
  · simp [Val.null, Val.valid, ByteArray.toList_eq]
theorem encRow_snoc {r : List Val} {i : Nat} {v : Val} (h : r[i]? = some v) : encRow (r.take (i + 1)) = encRow (r.take i) ++ encVal v.clean := by
  rw [List.take_add_one, h, encRow, encRow, List.flatMap_append]
  simp
theorem encRow_len (r : List Val) : (encRow r).length ≤ 80 * r.length := by
  induction r with
  | nil => simp [encRow]
  | cons v r ih =>
    have : encRow (v :: r) = encVal v.clean ++ encRow r := by simp [encRow]
    rw [this, List.length_append, List.length_cons]
    have := encVal_len v.clean (clean_valid' v)
    omega
theorem encodeRow_c (r : List Val) (hr : r.length ≤ 10000) : PCall Tryz.prog 114 [.one (rowD r)] (.v (.one (.lit (.string ⟨(encRow r).toArray⟩)))) := by
  refine pcallN hT Tryz.func114 Tryz.ntmps114 [.tmp 2] fun B => ?_
  repeat' (first | refine ks ?_ | refine ko ?_ | refine s_indexD ?_ (hel := (by first | exact rfl)) | refine kf ?_ | fail)
  refine s_own 3 5 1 ?_
  refine s_lp (X := Nat × Nat) [3, 5, 8, 9, 10, 11, 12, 13, 14, 15, 16] (fun x => x.1 ≤ r.length) (fun x lz => (3, .c (.arr 0 x.2 (encRow (r.take x.1)).length)) :: (8, (.c (.d (.lit (.int .i64 x.1))))) :: lz) (fun x => [.arr x.2 5 1 ((encRow (r.take x.1)).map byD)]) (fun x => r.length - x.1) ((0, 1)) ?_ ?_ ?_ ?_
  repeat' (first | exact slots_nil | refine kw ?_ | refine kv ?_ ?_ | exact memIn_nil | omega)
  rintro ⟨i, k⟩ c hi
  dsimp only at hi ⊢
  have hel := encRow_len (r.take i)
  have htl : (r.take i).length = i := by simp; omega
  by_cases hlt : i < r.length
  · have hv : r[i]? = some r[i] := List.getElem?_eq_getElem hlt
    generalize r[i] = v at hv
    have hsn := encRow_snoc hv
    repeat' (first | refine ks ?_ | refine ko ?_ | refine s_indexD ?_ (hel := (by first | exact idx_map hv (by omega) | exact hv | exact rfl)) | refine s_call (clean_c _) ?_ | refine s_callH [0] (appendValue_h (encRow (r.take i)) v.clean (by omega) (clean_valid' v)) ?_ | refine kf ?_ | fail)
    (apply s_round ((i + 1, _)); all_goals (try dsimp only); all_goals (try (repeat' (first | exact slots_nil | refine w1 ?_ | refine w5 ?_ ?_ | exact memIn_nil | refine memIn_same ?_ | refine m1 ?_ ?_ | omega))))
    all_goals rw [hsn]
  · repeat' (first | refine ks ?_ | refine ko ?_ | refine s_indexD ?_ (hel := (by first | exact rfl)) | refine kf ?_ | fail)
    all_goals (rw [take_ge (by omega)])
end Go.Proofs.YtmpgmjlanngkfaaGreat
end
section
namespace Go.Proofs.YtmpgmjlanngkfaaGreat
open Go.Abs Go.RowKit
set_option linter.unusedSimpArgs false
structure CmpOk {α κ : Type} (f : α → α → Int) (key : α → κ) : Prop where
  zero : ∀ a b, f a b = 0 ↔ key a = key b
  anti : ∀ a b, f b a < 0 ↔ 0 < f a b
  trans : ∀ a b c, f a b < 0 → f b c < 0 → f a c < 0
namespace CmpOk
variable {α κ : Type} {f : α → α → Int} {key : α → κ} (h : CmpOk f key)
include h
theorem refl (a : α) : f a a = 0 := (h.zero a a).2 rfl
theorem left {a a' b : α} (e : key a = key a') (hb : f a b < 0) : f a' b < 0 := by
  have h0 := (h.zero a a').2 e
  rcases Int.lt_trichotomy (f a' b) 0 with q | q | q
  · exact q
  · have := (h.zero a' b).1 q
    have := (h.zero a b).2 (e.trans this)
    omega
  · have := h.trans a b a' hb ((h.anti a' b).2 q)
    omega
theorem right {a b b' : α} (e : key b = key b') (hb : f a b < 0) : f a b' < 0 := by
  have h0 := (h.zero b b').2 e
  rcases Int.lt_trichotomy (f a b') 0 with q | q | q
  · exact q
  · have := (h.zero a b').1 q
    have := (h.zero a b).2 (this.trans e.symm)
    omega
  · have := h.trans b' a b ((h.anti a b').2 q) hb
    have := (h.zero b' b).2 e.symm
    omega
theorem swo : Go.Sort.SWO (Go.Proofs.ltOf f) where
  irrefl x := by have := h.refl x; simp [Go.Proofs.ltOf, this]
  trans x y z h1 h2 := by
    simp only [Go.Proofs.ltOf, decide_eq_true_eq] at *
    exact h.trans x y z h1 h2
  ntrans x y z h1 h2 := by
    simp only [Go.Proofs.ltOf, decide_eq_false_iff_not] at *
    intro q
    have hyz : f z y ≤ 0 := by
      by_cases w : 0 < f z y
      · exact absurd ((h.anti z y).2 w) h2
      · omega
    rcases Int.lt_or_eq_of_le hyz with w | w
    · exact h1 (h.trans x z y q w)
    · exact h1 (h.right ((h.zero z y).1 w) q)
end CmpOk
theorem CmpOk.comp {α β κ : Type} {f : α → α → Int} {key : α → κ} (h : CmpOk f key) (g : β → α) : CmpOk (fun x y => f (g x) (g y)) (fun x => key (g x)) :=
  ⟨fun _ _ => h.zero _ _, fun _ _ => h.anti _ _, fun _ _ _ => h.trans _ _ _⟩
theorem sorted_unique {α : Type} {R : α → α → Prop} (hirr : ∀ a, ¬ R a a) (htr : ∀ a b c, R a b → R b c → R a c) : ∀ {l m : List α}, l.Pairwise R → m.Pairwise R → (∀ x, x ∈ l ↔ x ∈ m) → l = m
  | [], [], _, _, _ => rfl
  | [], b :: m, _, _, h => by have := (h b).2 (by simp); simp at this
  | a :: l, [], _, _, h => by have := (h a).1 (by simp); simp at this
  | a :: l, b :: m, hl, hm, h => by
    obtain ⟨l1, l2⟩ := List.pairwise_cons.1 hl
    obtain ⟨m1, m2⟩ := List.pairwise_cons.1 hm
    have hab : a = b := by
      rcases List.mem_cons.1 ((h a).1 (by simp)) with q | q
      · exact q
      · rcases List.mem_cons.1 ((h b).2 (by simp)) with p | p
        · exact p.symm
        · exact absurd (htr _ _ _ (m1 a q) (l1 b p)) (hirr b)
    subst hab
    rw [sorted_unique hirr htr l2 m2 fun x => ?_]
    constructor
    · intro hx
      rcases List.mem_cons.1 ((h x).1 (by simp [hx])) with q | q
      · subst q; exact absurd (l1 x hx) (hirr x)
      · exact q
    · intro hx
      rcases List.mem_cons.1 ((h x).2 (by simp [hx])) with q | q
      · subst q; exact absurd (m1 x hx) (hirr x)
      · exact q
theorem bl_irrefl : ∀ l : List UInt8, Op.bytesLess l l = false
  | [] => rfl
  | a :: l => by simp [Op.bytesLess, bl_irrefl l]
theorem bl_trans : ∀ {x y z : List UInt8}, Op.bytesLess x y = true → Op.bytesLess y z = true → Op.bytesLess x z = true
  | [], [], _, h, _ => by simp [Op.bytesLess] at h
  | [], _ :: _, [], _, h => by simp [Op.bytesLess] at h
  | [], _ :: _, _ :: _, _, _ => by simp [Op.bytesLess]
  | _ :: _, [], _, h, _ => by simp [Op.bytesLess] at h
  | _ :: _, _ :: _, [], _, h => by simp [Op.bytesLess] at h
  | a :: x, b :: y, c :: z, h1, h2 => by
    have ih := @bl_trans x y z
    simp only [Op.bytesLess, Bool.or_eq_true, Bool.and_eq_true, decide_eq_true_eq, beq_iff_eq, UInt8.lt_iff_toNat_lt] at h1 h2 ⊢
    rcases h1 with h1 | ⟨rfl, h1⟩
    · rcases h2 with h2 | ⟨rfl, _⟩
      · exact .inl (by omega)
      · exact .inl h1
    · rcases h2 with h2 | ⟨rfl, h2⟩
      · exact .inl h2
      · exact .inr ⟨rfl, ih h1 h2⟩
theorem bl_total : ∀ {x y : List UInt8}, Op.bytesLess x y = false → Op.bytesLess y x = false → x = y
  | [], [], _, _ => rfl
  | [], _ :: _, h, _ => by simp [Op.bytesLess] at h
  | _ :: _, [], _, h => by simp [Op.bytesLess] at h
  | a :: x, b :: y, h1, h2 => by
    have ih := @bl_total x y
    simp only [Op.bytesLess, Bool.or_eq_false_iff, decide_eq_false_iff_not, UInt8.lt_iff_toNat_lt] at h1 h2
    have hab : a = b := by
      apply UInt8.toNat_inj.1
      omega
    subst hab
    rw [ih (by simpa using h1.2) (by simpa using h2.2)]
theorem bytes_ext {a b : ByteArray} (h : a.toList = b.toList) : a = b := by
  rw [ByteArray.toList_eq, ByteArray.toList_eq] at h
  cases a; cases b
  simp only at h
  congr 1
  exact Array.ext' h
theorem same_iff {x y : Val} : x.same y = true ↔ x = y := by
  constructor
  · intro h
    simp only [Val.same, Bool.and_eq_true, beq_iff_eq] at h
    cases x; cases y
    simp only at h
    rw [h.1, h.2.1, bytes_ext h.2.2]
  · rintro rfl
    simp [Val.same]
theorem less_irrefl (x : Val) : x.less x = false := by
  simp [Val.less, bl_irrefl]
theorem less_iff {x y : Val} (hx : x.valid = true) (hy : y.valid = true) : x.less y = true ↔ x.kind < y.kind ∨ (x.kind = y.kind ∧ (x.int < y.int ∨ (x.int = y.int ∧ Op.bytesLess x.text.toList y.text.toList = true))) := by
  simp only [Val.less, Bool.or_eq_true, Bool.and_eq_true, decide_eq_true_eq, beq_iff_eq]
  constructor
  · rintro (h | ⟨h1, h2 | h2⟩)
    · exact .inl h
    · exact .inr ⟨h1, .inl h2⟩
    · by_cases hk : x.kind = 2
      · exact .inr ⟨h1, .inr ⟨by rw [valid_int hx (by omega), valid_int hy (by omega)], h2⟩⟩
      · rw [valid_text hx hk, valid_text hy (by omega)] at h2
        simp [Op.bytesLess] at h2
  · rintro (h | ⟨h1, h2 | ⟨_, h2⟩⟩)
    · exact .inl h
    · exact .inr ⟨h1, .inl h2⟩
    · exact .inr ⟨h1, .inr h2⟩
theorem less_trans {x y z : Val} (hx : x.valid = true) (hy : y.valid = true) (hz : z.valid = true) (h1 : x.less y = true) (h2 : y.less z = true) : x.less z = true := by
  rw [less_iff hx hy] at h1
  rw [less_iff hy hz] at h2
  rw [less_iff hx hz]
  rcases h1 with h1 | ⟨h1, h1' | ⟨h1', h1''⟩⟩
  · rcases h2 with h2 | ⟨h2, _⟩
    · exact .inl (by omega)
    · exact .inl (by omega)
  · rcases h2 with h2 | ⟨h2, h2' | ⟨h2', _⟩⟩
    · exact .inl (by omega)
    · exact .inr ⟨by omega, .inl (by omega)⟩
    · exact .inr ⟨by omega, .inl (by omega)⟩
  · rcases h2 with h2 | ⟨h2, h2' | ⟨h2', h2''⟩⟩
    · exact .inl (by omega)
    · exact .inr ⟨by omega, .inl (by omega)⟩
    · exact .inr ⟨by omega, .inr ⟨by omega, bl_trans h1'' h2''⟩⟩
theorem less_total {x y : Val} (hx : x.valid = true) (hy : y.valid = true) (h1 : x.less y = false) (h2 : y.less x = false) : x = y := by
  have n1 : ¬ x.less y = true := by simp [h1]
  have n2 : ¬ y.less x = true := by simp [h2]
  rw [less_iff hx hy] at n1
  rw [less_iff hy hx] at n2
  have hk : x.kind = y.kind := by omega
  have hi : x.int = y.int := by omega
  have ht : x.text = y.text := by
    apply bytes_ext
    apply bl_total
    · cases hq : Op.bytesLess x.text.toList y.text.toList with
      | false => rfl
      | true => exact absurd (.inr ⟨hk, .inr ⟨hi, hq⟩⟩) n1
    · cases hq : Op.bytesLess y.text.toList x.text.toList with
      | false => rfl
      | true => exact absurd (.inr ⟨hk.symm, .inr ⟨hi.symm, hq⟩⟩) n2
  cases x; cases y
  simp only at hk hi ht
  rw [hk, hi, ht]
theorem cmp_ok : CmpOk Val.cmp Val.clean := by
  have lt : ∀ a b : Val, a.cmp b < 0 ↔ a.clean.less b.clean = true := by
    intro a b
    unfold Val.cmp
    split
    · rename_i h
      rw [same_iff] at h
      rw [h, less_irrefl]
      simp
    · split <;> simp_all
  refine ⟨fun a b => ?_, fun a b => ?_, fun a b c h1 h2 => ?_⟩
  · rw [← same_iff]
    unfold Val.cmp
    split
    · simp_all
    · split <;> simp_all
  · rw [lt]
    unfold Val.cmp
    by_cases hs : a.clean = b.clean
    · rw [if_pos (same_iff.2 hs), hs, less_irrefl]; simp
    · rw [if_neg (fun q => hs (same_iff.1 q))]
      split
      · rename_i h
        constructor
        · intro q
          have := less_trans (clean_valid _) (clean_valid _) (clean_valid _) h q
          rw [less_irrefl] at this
          cases this
        · intro q; omega
      · rename_i h
        simp only [Int.reduceLT, iff_true]
        cases hq : b.clean.less a.clean with
        | true => rfl
        | false => exact absurd (less_total (clean_valid _) (clean_valid _) (by simpa using h) hq) hs
  · rw [lt] at *
    exact less_trans (clean_valid _) (clean_valid _) (clean_valid _) h1 h2
theorem rowCmp_ok : CmpOk rowCmp (fun r => r.map Val.clean) := by
  have hz : ∀ r s : List Val, rowCmp r s = 0 ↔ r.map Val.clean = s.map Val.clean := by
    intro r
    induction r with
    | nil => intro s; cases s <;> simp [rowCmp]
    | cons a r ih =>
      intro s
      cases s with
      | nil => simp [rowCmp]
      | cons b s =>
        simp only [rowCmp, List.map_cons, List.cons.injEq]
        by_cases h : a.cmp b = 0
        · rw [if_pos h, ih s]
          exact ⟨fun q => ⟨(cmp_ok.zero a b).1 h, q⟩, fun q => q.2⟩
        · rw [if_neg h]
          exact ⟨fun q => absurd q h, fun q => absurd ((cmp_ok.zero a b).2 q.1) h⟩
  have ha : ∀ r s : List Val, rowCmp s r < 0 ↔ 0 < rowCmp r s := by
    intro r
    induction r with
    | nil => intro s; cases s <;> simp [rowCmp]
    | cons a r ih =>
      intro s
      cases s with
      | nil => simp [rowCmp]
      | cons b s =>
        simp only [rowCmp]
        by_cases h : a.cmp b = 0
        · rw [if_pos h, if_pos ((cmp_ok.zero b a).2 ((cmp_ok.zero a b).1 h).symm)]
          exact ih s
        · rw [if_neg h, if_neg (fun q => h ((cmp_ok.zero a b).2 ((cmp_ok.zero b a).1 q).symm))]
          exact cmp_ok.anti a b
  refine ⟨hz, ha, ?_⟩
  intro r
  induction r with
  | nil =>
    intro s t h1 h2
    cases t with
    | nil => cases s <;> simp [rowCmp] at h1 h2
    | cons c t => simp [rowCmp]
  | cons a r ih =>
    intro s t h1 h2
    cases s with
    | nil => simp [rowCmp] at h1
    | cons b s =>
      cases t with
      | nil => simp [rowCmp] at h2
      | cons c t =>
        simp only [rowCmp] at h1 h2 ⊢
        by_cases hab : a.cmp b = 0
        · rw [if_pos hab] at h1
          by_cases hbc : b.cmp c = 0
          · rw [if_pos hbc] at h2
            rw [if_pos ((cmp_ok.zero a c).2 (((cmp_ok.zero a b).1 hab).trans ((cmp_ok.zero b c).1 hbc)))]
            exact ih s t h1 h2
          · rw [if_neg hbc] at h2
            have := cmp_ok.left ((cmp_ok.zero a b).1 hab).symm h2
            rw [if_neg (by omega)]; exact this
        · rw [if_neg hab] at h1
          by_cases hbc : b.cmp c = 0
          · have := cmp_ok.right ((cmp_ok.zero b c).1 hbc) h1
            rw [if_neg (by omega)]; exact this
          · rw [if_neg hbc] at h2
            have := cmp_ok.trans a b c h1 h2
            rw [if_neg (by omega)]; exact this
def bubR {α : Type} (lt : α → α → Bool) (p : α) : List α → List α → List α
  | [], B => p :: B
  | q :: A, B => if lt p q then bubR lt p A (q :: B) else A.reverse ++ q :: p :: B
def bub {α : Type} (lt : α → α → Bool) (p : α) (l : List α) : List α := bubR lt p l.reverse []
end Go.Proofs.YtmpgmjlanngkfaaGreat
end
section
namespace Go.Proofs.YtmpgmjlanngkfaaGreat
open Go.Abs Go.RowKit
attribute [local irreducible] ARun kont MCall PCall HCall resVal SF CF CFs defersOk slotsIn memIn fin finM VLe
set_option linter.unusedSimpArgs false
set_option maxRecDepth 100000
set_option maxHeartbeats 4000000
structure Trm where
  op : Int
  v : Val
  col : Int
def Trm.d (t : Trm) : List Dat := [.lit (.int .i64 t.op), .lit (.int .i64 t.v.kind), .lit (.int .i64 t.v.int), .lit (.string t.v.text), .lit (.int .i64 t.col)]
def exprD (e : List Trm) : Dat := .sl (e.map Trm.d)
def aryE (op : Int) : Int :=
  if op = 1 ∨ op = 2 then 0
  else if op = 3 ∨ op = 9 ∨ op = 13 ∨ op = 16 then 1
  else if op = 18 then 3
  else if 1 ≤ op ∧ op ≤ 18 then 2
  else -1
theorem aryE_bd (op : Int) : -1 ≤ aryE op ∧ aryE op ≤ 3 := by
  unfold aryE
  split
  · omega
  split
  · omega
  split
  · omega
  split <;> omega
theorem arity_c (op : Int) : PCall Tryz.prog 156 [.one (.lit (.int .i64 op))] (.v (.one (.lit (.int .i64 (aryE op))))) := by
  refine pcallN hT Tryz.func156 Tryz.ntmps156 [.tmp 2] fun B => ?_
  repeat' (first | refine ks ?_ | refine ko ?_ | refine s_if rfl (fun hb => ?_) (fun hb => ?_) | refine kf ?_ | fail)
  all_goals (refine congrArg Dat.lit (congrArg (Value.int _) ?_); unfold aryE; simp_all)
  all_goals omega
theorem refArity_c (op : Int) : PCall Tryz.prog 72 [.one (.lit (.int .i64 op))] (.v (.one (.lit (.int .i64 (aryE op))))) := by
  refine pcallN hT Tryz.func72 Tryz.ntmps72 [.tmp 2] fun B => ?_
  repeat' (first | refine ks ?_ | refine ko ?_ | refine s_if rfl (fun hb => ?_) (fun hb => ?_) | refine s_split rfl rfl (fun hb => ?_) (fun hb => ?_) | refine kf ?_ | fail)
  all_goals (refine congrArg Dat.lit (congrArg (Value.int _) ?_); unfold aryE; simp_all)
  all_goals omega
def fieldsE (t : Trm) : Bool :=
  if t.op = 1 then decide (t.col = 0) && decide (t.v.kind ≠ 0) && t.v.valid
  else if t.op = 2 then decide (0 ≤ t.col) && t.v.same Val.null
  else decide (t.col = 0) && t.v.same Val.null
def termOK (t : Trm) : Bool := decide (0 ≤ aryE t.op) && fieldsE t
theorem sameNull (v : Val) : v.same Val.null = ((v.kind == 0) && ((v.int == 0) && v.text.toList.isEmpty)) := by
  rw [Val.same, ← bytes_nil]; rfl
theorem beq_dec (a b : Int) : (a == b) = decide (a = b) := by
  rw [Bool.eq_iff_iff]; simp
theorem validTerm_c (t : Trm) : PCall Tryz.prog 203 [.agg t.d] (.v (.one (.lit (.bool (termOK t))))) := by
  have h1 := valid_c t.v
  have h2 := arity_c t.op
  refine pcallN hT Tryz.func203 Tryz.ntmps203 [.tmp 2] fun B => ?_
  repeat' (first | refine ks ?_ | refine ko ?_ | refine s_if rfl (fun hb => ?_) (fun hb => ?_) | refine s_call (h1) ?_ | refine s_call (h2) ?_ | refine s_split rfl rfl (fun hb => ?_) (fun hb => ?_) | refine kf ?_ | fail)
  all_goals (refine congrArg Dat.lit (congrArg Value.bool ?_); unfold termOK fieldsE; simp_all [sameNull, bytes_nil, litsEq, litEq])
  all_goals first | exact beq_dec _ _ | (intros; omega)
end Go.Proofs.YtmpgmjlanngkfaaGreat
end
