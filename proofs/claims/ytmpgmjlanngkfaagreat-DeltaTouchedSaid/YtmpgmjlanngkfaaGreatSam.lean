/-
  Equal rows and bags; supports and sizes; the examples of the chapter.
-/
import Derived.Test.YtmpgmjlanngkfaaGreatNrm
import Derived.Test.YtmpgmjlanngkfaaGreatTap
section
namespace Go.Proofs.YtmpgmjlanngkfaaGreat
open Go.Abs Go.RowKit
attribute [local irreducible] ARun Aq MCall PCall HCall Am SF CF CFs Af Al Ap B5 AW VLe
set_option linter.unusedSimpArgs false
set_option maxRecDepth 100000
set_option maxHeartbeats 4000000
def Fy (a b : Val) : Bool := (a.kind == b.kind) && ((a.int == b.int) && (a.text.toList == b.text.toList))
def Br : List Val → List Val → Bool
 | [], [] => true
 | a :: x, b :: y => Fy a b && Br x y
 | _, _ => false
theorem HK (a : Val) : Fy a a = true := by simp [Fy]
theorem Fz : ∀ r : List Val, Br r r = true
 | [] => rfl
 | a :: r => by simp [Br, HK, Fz r]
theorem IT : ∀ {r s : List Val}, Br r s = true → r.length = s.length
 | [], [], _ => rfl
 | a :: x, b :: y, h => by simp [Br] at h; simp [IT h.2]
 | [], _ :: _, h => by cases h
 | _ :: _, [], h => by cases h
theorem RF (a b : Val) : Cs [.int .i64 a.kind, .int .i64 a.int, .string a.text] [.int .i64 b.kind, .int .i64 b.int, .string b.text] = Fy a b := by
 simp [Cs, Jk, Fy]
theorem Kj (r s : List Val) : PC 49 [.one (BS r), .one (BS s)] (.v (.one (.lit (.bool (Br r s))))) := by
 refine Ad hT Tryz.func49 Tryz.ntmps49 [.tmp 4] fun B => ?_
 refine Hy 0 rfl fun hlr => ?_
 simp only [BT, maxLen] at hlr
 repeat' first | refine kz ?_ | refine AE rfl (fun hb => ?_) (fun hb => ?_) | refine As ?_ | refine kf ?_ | fail
 ·refine congrArg Dat.lit (congrArg Value.bool ?_)
  cases h : Br r s with
  | false => rfl
  | true => have := IT h; omega
 ·have hl : r.length = s.length := by omega
  refine AY (X := Nat) ([4, 5] ++ List.range' 11 15) (fun x => x ≤ r.length ∧ Br r s = Br (r.drop x) (s.drop x)) (fun x lz => (5, (iC x)) :: lz) (fun x => []) (fun x => r.length - x) (0) ?_ ?_ ?_ ?_
  repeat' first | exact k0 | refine kw ?_ | omega
  · exact ⟨by simp, by simp⟩
  rintro i c ⟨hi, hinv⟩
  by_cases hlt : i < r.length
  · obtain ⟨a, hv⟩ := gx hlt
    obtain ⟨b, hu⟩ := gx (l := s) (i := i) (by omega)
    rw [Az hv, Az hu, Br] at hinv
    have hls := RF a b
    repeat' first | refine kz ?_ | refine AE rfl (fun hb => ?_) (fun hb => ?_) | refine AT hv ?_ | refine AT hu ?_ | refine As ?_ | refine kf ?_ | fail
    all_goals first
     | (refine congrArg Dat.lit (congrArg Value.bool ?_); rw [hinv]; simp_all <;> done)
     | ((apply Ae (i + 1); all_goals (try dsimp only); all_goals (try (repeat' (first | exact k0 | refine kw ?_ | omega)))); (try exact ⟨by omega, by rw [hinv]; simp_all⟩))
  · repeat' first | refine kz ?_ | refine AE rfl (fun hb => ?_) (fun hb => ?_) | refine As ?_ | refine kf ?_ | fail
    refine congrArg Dat.lit (congrArg Value.bool ?_)
    rw [QF (by omega), QF (by omega)] at hinv
    rw [hinv]; rfl
def DD : List Entry → List Entry → Bool
 | [], [] => true
 | a :: x, b :: y => (a.count == b.count) && Br a.row b.row && DD x y
 | _, _ => false
theorem HL : ∀ r : List Entry, DD r r = true
 | [] => rfl
 | a :: r => by simp [DD, Fz, HL r]
theorem IU : ∀ {r s : List Entry}, DD r s = true → r.length = s.length
 | [], [], _ => rfl
 | a :: x, b :: y, h => by simp [DD] at h; simp [IU h.2]
 | [], _ :: _, h => by cases h
 | _ :: _, [], h => by cases h
theorem TL (r s : List Entry) : PC 20 [.one (Ao r), .one (Ao s)] (.v (.one (.lit (.bool (DD r s))))) := by
 refine Ad hT Tryz.func20 Tryz.ntmps20 [.tmp 4] fun B => ?_
 refine Hy 0 rfl fun hlr => ?_
 simp only [BT, maxLen] at hlr
 repeat' first | refine kz ?_ | refine AE rfl (fun hb => ?_) (fun hb => ?_) | refine As ?_ | refine Av rfl rfl (fun hb => ?_) (fun hb => ?_) | refine kf ?_ | fail
 ·refine congrArg Dat.lit (congrArg Value.bool ?_)
  cases h : DD r s with
  | false => rfl
  | true => have := IU h; omega
 ·have hl : r.length = s.length := by omega
  refine AY (X := Nat) ([4, 5] ++ List.range' 11 31) (fun x => x ≤ r.length ∧ DD r s = DD (r.drop x) (s.drop x)) (fun x lz => (5, (iC x)) :: lz) (fun x => []) (fun x => r.length - x) (0) ?_ ?_ ?_ ?_
  repeat' first | exact k0 | refine kw ?_ | omega
  · exact ⟨by simp, by simp⟩
  rintro i c ⟨hi, hinv⟩
  by_cases hlt : i < r.length
  · obtain ⟨a, hv⟩ := gx hlt
    obtain ⟨b, hu⟩ := gx (l := s) (i := i) (by omega)
    rw [Az hv, Az hu, DD] at hinv
    repeat' first | refine kz ?_ | refine AE rfl (fun hb => ?_) (fun hb => ?_) | refine AT hv ?_ | refine AT hu ?_ | refine As ?_ | refine Aa (Kj _ _) ?_ | refine Av rfl rfl (fun hb => ?_) (fun hb => ?_) | refine kf ?_ | fail
    all_goals first
     | (refine congrArg Dat.lit (congrArg Value.bool ?_); rw [hinv]; simp_all <;> done)
     | ((apply Ae (i + 1); all_goals (try dsimp only); all_goals (try (repeat' (first | exact k0 | refine kw ?_ | omega)))); (try exact ⟨by omega, by rw [hinv]; simp_all⟩))
  · repeat' first | refine kz ?_ | refine AE rfl (fun hb => ?_) (fun hb => ?_) | refine As ?_ | refine Av rfl rfl (fun hb => ?_) (fun hb => ?_) | refine kf ?_ | fail
    refine congrArg Dat.lit (congrArg Value.bool ?_)
    rw [QF (by omega), QF (by omega)] at hinv
    rw [hinv]; rfl
theorem HM (r : List Val) (hr : r.length ≤ 1000000) : PC 98 [.one (BS r)] (.v (.one (BS r))) := by
 refine Ad hT Tryz.func98 Tryz.ntmps98 [.tmp 2] fun B => ?_
 repeat' first | refine kz ?_ | refine AE rfl (fun hb => ?_) (fun hb => ?_) | refine CH (fun b hnil => ?_) | refine kh ?_ ?_ | exact ⟨⟩ | fail
 ·have h := hnil hb
  have : r = [] := by simpa using h
  rw [this]; rfl
 ·simp
 ·rw [Ag (by simp)]; rfl
theorem FA : DeferOk Tryz.prog 148 0 := by
 refine ⟨⟨_, Tryz.func148, by kernel_rfl, by kernel_rfl⟩, fun vs w hl => ?_⟩
 match vs, hl with
 | [], _ =>
   refine callsD_of_wpS Tryz.func148 rfl fun c₀ cs hu => ?_
   apply wpS_region
   simp [wpOpsS, go_sem, recoverD, hu, Tryz.ntmps148, Exit.thenS]
   cases c₀
   simp_all [bodyPostS, results, Tryz.results148]
def KH (l : List Entry) : List Entry := (l.filter fun e => decide (0 < e.count)).map fun e => ⟨e.row, 1⟩
def CD (l : List Entry) : List Entry := if Aj l then KH l else []
theorem RG {l : List Entry} {i : Nat} {e : Entry} (h : l[i]? = some e) : KH (l.take (i + 1)) = KH (l.take i) ++ (if 0 < e.count then [⟨e.row, 1⟩] else []) := by
 unfold KH
 rw [KL, h, Ue, As']
 congr 1
 by_cases hq : 0 < e.count <;> simp [hq]
theorem Oz : ∀ {l : List Entry} {p : Option Entry}, goodFrom p l = true → ∀ e ∈ l, e.ok = true
 | [], _, _, e, he => by cases he
 | x :: l, p, h, e, he => by
   simp only [goodFrom, BO] at h
   rcases Dp.1 he with rfl | he
   ·exact h.1.1
   ·exact Oz h.2 e he
theorem AG {l : List Entry} (h : Aj l = true) : l.length ≤ 4096 ∧ ∀ e ∈ l, A7 e.row = true ∧ (-262144 ≤ e.count ∧ e.count ≤ 262144) ∧ e.count ≠ 0 := by
 simp only [Aj, BO, decide_eq_true_eq] at h
 refine ⟨h.1, fun e he => ?_⟩
 have := Oz h.2 e he
 simp only [Entry.ok, AH, BO, decide_eq_true_eq] at this
 exact ⟨this.1.1, this.1.2, this.2⟩
theorem E9 {r : List Val} (h : A7 r = true) : r.length ≤ 16 := by
 simp only [A7, BO, decide_eq_true_eq] at h; exact h.1
theorem RH (l : List Entry) : PC 92 [.one (Ao l)] (.v (.one (Ao (CD l)))) := by
 have hvc := Cb l
 cases hb : Aj l with
 | false =>
   rw [hb] at hvc
   have he : CD l = [] := by simp [CD, hb]
   rw [he]
   refine Ad hT Tryz.func92 Tryz.ntmps92 [.tmp 2] fun B => ?_
   repeat' first | refine kz ?_ | refine AE rfl (fun hb => ?_) (fun hb => ?_) | refine As ?_ | refine Aa (hvc) ?_ | refine Ay (by repeat (first | exact Ac | refine Ah FA ?_)) ?_ | refine kh ?_ ?_ | exact ⟨⟩ | fail
   all_goals rfl
 | true =>
   rw [hb] at hvc
   have he : CD l = KH l := by simp [CD, hb]
   obtain ⟨hl, hm⟩ := AG hb
   rw [he]
   refine Ad hT Tryz.func92 Tryz.ntmps92 [.tmp 2] fun B => ?_
   repeat' first | refine kz ?_ | refine AE rfl (fun hb => ?_) (fun hb => ?_) | refine As ?_ | refine Aa (hvc) ?_ | refine Ay (by repeat (first | exact Ac | refine Ah FA ?_)) ?_ | refine kh ?_ ?_ | exact ⟨⟩ | fail
   refine CN 3 56 2 ?_
   refine AY (X := Nat × Nat) ([3, 5] ++ List.range' 11 15) (fun x => x.1 ≤ l.length) (fun x lz => (3, .c (.arr 0 x.2 (KH (l.take x.1)).length)) :: (11, (iC x.1)) :: lz) (fun x => [.arr x.2 56 2 ((KH (l.take x.1)).map Entry.d)]) (fun x => l.length - x.1) ((0, 1)) ?_ ?_ ?_ ?_
   repeat' first | exact k0 | refine kw ?_ | refine kv ?_ ?_ | omega
   rintro ⟨i, k⟩ c hi
   dsimp only at hi ⊢
   have hsl : (KH (l.take i)).length ≤ i := by
    unfold KH
    rw [BT]
    refine OQ (PN ..) (by simp; omega)
   by_cases hlt : i < l.length
   ·have hv : l[i]? = some l[i] := Bi hlt
    have hro := (hm _ (Gl hlt)).1
    generalize l[i] = e at hv hro
    have hsn := RG hv
    have hrl := E9 hro
    have hcl := HM e.row (by omega)
    repeat' first | refine kz ?_ | refine AE rfl (fun hb => ?_) (fun hb => ?_) | refine AT hv ?_ | refine As ?_ | refine Aa (hcl) ?_ | refine Ay (by repeat (first | exact Ac | refine Ah FA ?_)) ?_ | refine kh ?_ ?_ | exact ⟨⟩ | fail
    ·rw [if_pos hb] at hsn
     apply Ae ((i + 1, _)) <;> (try dsimp only) <;> try repeat' first | exact k0 | refine w1 ?_ | refine w5 ?_ ?_ | refine Ab ?_ | refine m1 ?_ ?_ | omega
     ·rw [hsn]; simp
     ·rw [hsn, As']; rfl
    ·rw [if_neg (by omega), List.append_nil] at hsn
     apply Ae ((i + 1, _)) <;> (try dsimp only) <;> try repeat' first | exact k0 | refine w1 ?_ | refine w5 ?_ ?_ | refine Ab ?_ | refine m1 ?_ ?_ | omega
     all_goals (rw [hsn])
   ·rw [Ag (by omega)]
    repeat' first | refine kz ?_ | refine AE rfl (fun hb => ?_) (fun hb => ?_) | refine As ?_ | refine Ay (by repeat (first | exact Ac | refine Ah FA ?_)) ?_ | refine kh ?_ ?_ | exact ⟨⟩ | fail
    ·simp
    ·rw [Ag (by simp)]; rfl
def FG (l : List Entry) : Int := l.foldl (fun s e => s + e.count) 0
def aH (l : List Entry) : Int := if Aj l then FG l else 0
end Go.Proofs.YtmpgmjlanngkfaaGreat
end
