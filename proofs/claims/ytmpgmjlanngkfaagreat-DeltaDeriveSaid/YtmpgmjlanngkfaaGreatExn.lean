/-
  Algebra: Where.
-/
import Derived.Test.YtmpgmjlanngkfaaGreatNrm
import Derived.Test.YtmpgmjlanngkfaaGreatExg
import Derived.Test.YtmpgmjlanngkfaaGreatExm
import Derived.Test.YtmpgmjlanngkfaaGreatTyB
section
namespace Go.Proofs.YtmpgmjlanngkfaaGreat
open Go.Abs Go.RowKit
attribute [local irreducible] ARun At MCall PCall HCall Am SF CF CFs Ah Aj Ar fin AW VLe
set_option linter.unusedSimpArgs false
set_option maxRecDepth 100000
set_option maxHeartbeats 4000000
def Cp (a b : Val) : Bool := (a.kind == b.kind) && ((a.int == b.int) && (a.text.toList == b.text.toList))
def BH : List Val → List Val → Bool
 | [], [] => true
 | a :: x, b :: y => Cp a b && BH x y
 | _, _ => false
theorem Fi (a : Val) : Cp a a = true := by simp [Cp]
theorem HJ : ∀ r : List Val, BH r r = true
 | [] => rfl
 | a :: r => by simp [BH, Fi, HJ r]
theorem ioq : ∀ {r s : List Val}, BH r s = true → r.length = s.length
 | [], [], _ => rfl
 | a :: x, b :: y, h => by simp [BH] at h; simp [ioq h.2]
 | [], _ :: _, h => by cases h
 | _ :: _, [], h => by cases h
theorem Li (a b : Val) : Cb [.int .i64 a.kind, .int .i64 a.int, .string a.text] [.int .i64 b.kind, .int .i64 b.int, .string b.text] = Cp a b := by
 simp [Cb, Iv, Cp]
theorem Oe (r s : List Val) : PCall Tryz.prog 49 [.one (AU r), .one (AU s)] (.v (.one (.lit (.bool (BH r s))))) := by
 refine Ac hT Tryz.func49 Tryz.ntmps49 [.tmp 4] fun B => ?_
 refine fsq 0 rfl fun hlr => ?_
 simp only [List.length_map, maxLen] at hlr
 repeat' (first | refine kz ?_ | refine Au rfl (fun hb => ?_) (fun hb => ?_) | refine ki ?_ | refine kf ?_ | fail)
 ·refine congrArg Dat.lit (congrArg Value.bool ?_)
  cases h : BH r s with
  | false => rfl
  | true => have := ioq h; omega
 ·have hl : r.length = s.length := by omega
  refine AO (X := Nat) [4, 5, 11, 12, 13, 14, 15, 16, 17, 18, 19, 20, 21, 22, 23, 24, 25] (fun x => x ≤ r.length ∧ BH r s = BH (r.drop x) (s.drop x)) (fun x lz => (5, (.c (.d (.lit (.int .i64 x))))) :: lz) (fun x => []) (fun x => r.length - x) (0) ?_ ?_ ?_ ?_
  repeat' (first | exact k0 | refine kw ?_ | omega)
  · exact ⟨by simp, by simp⟩
  rintro i c ⟨hi, hinv⟩
  by_cases hlt : i < r.length
  · have hv : r[i]? = some r[i] := List.getElem?_eq_getElem hlt
    generalize r[i] = a at hv
    have hu : s[i]? = some s[i] := List.getElem?_eq_getElem (by omega)
    generalize s[i] = b at hu
    rw [AD hv, AD hu, BH] at hinv
    have hls := Li a b
    repeat' (first | refine kz ?_ | refine Au rfl (fun hb => ?_) (fun hb => ?_) | refine kx hv ?_ | refine kx hu ?_ | refine ki ?_ | refine kf ?_ | fail)
    all_goals first
     | (refine congrArg Dat.lit (congrArg Value.bool ?_); rw [hinv]; simp_all <;> done)
     | ((apply Ae (i + 1); all_goals (try dsimp only); all_goals (try (repeat' (first | exact k0 | refine kw ?_ | omega)))); (try exact ⟨by omega, by rw [hinv]; simp_all⟩))
  · repeat' (first | refine kz ?_ | refine Au rfl (fun hb => ?_) (fun hb => ?_) | refine ki ?_ | refine kf ?_ | fail)
    refine congrArg Dat.lit (congrArg Value.bool ?_)
    rw [List.drop_eq_nil_of_le (by omega), List.drop_eq_nil_of_le (by omega)] at hinv
    rw [hinv]; rfl
def Dg : List Entry → List Entry → Bool
 | [], [] => true
 | a :: x, b :: y => (a.count == b.count) && BH a.row b.row && Dg x y
 | _, _ => false
theorem Fj : ∀ r : List Entry, Dg r r = true
 | [] => rfl
 | a :: r => by simp [Dg, HJ, Fj r]
theorem IP : ∀ {r s : List Entry}, Dg r s = true → r.length = s.length
 | [], [], _ => rfl
 | a :: x, b :: y, h => by simp [Dg] at h; simp [IP h.2]
 | [], _ :: _, h => by cases h
 | _ :: _, [], h => by cases h
theorem Of (r s : List Entry) : PCall Tryz.prog 20 [.one (Ap r), .one (Ap s)] (.v (.one (.lit (.bool (Dg r s))))) := by
 refine Ac hT Tryz.func20 Tryz.ntmps20 [.tmp 4] fun B => ?_
 refine fsq 0 rfl fun hlr => ?_
 simp only [List.length_map, maxLen] at hlr
 repeat' (first | refine kz ?_ | refine Au rfl (fun hb => ?_) (fun hb => ?_) | refine ki ?_ | refine Ai rfl rfl (fun hb => ?_) (fun hb => ?_) | refine kf ?_ | fail)
 ·refine congrArg Dat.lit (congrArg Value.bool ?_)
  cases h : Dg r s with
  | false => rfl
  | true => have := IP h; omega
 ·have hl : r.length = s.length := by omega
  refine AO (X := Nat) [4, 5, 11, 12, 13, 14, 15, 16, 17, 18, 19, 20, 21, 22, 23, 24, 25, 26, 27, 28, 29, 30, 31, 32, 33, 34, 35, 36, 37, 38, 39, 40, 41] (fun x => x ≤ r.length ∧ Dg r s = Dg (r.drop x) (s.drop x)) (fun x lz => (5, (.c (.d (.lit (.int .i64 x))))) :: lz) (fun x => []) (fun x => r.length - x) (0) ?_ ?_ ?_ ?_
  repeat' (first | exact k0 | refine kw ?_ | omega)
  · exact ⟨by simp, by simp⟩
  rintro i c ⟨hi, hinv⟩
  by_cases hlt : i < r.length
  · have hv : r[i]? = some r[i] := List.getElem?_eq_getElem hlt
    generalize r[i] = a at hv
    have hu : s[i]? = some s[i] := List.getElem?_eq_getElem (by omega)
    generalize s[i] = b at hu
    rw [AD hv, AD hu, Dg] at hinv
    repeat' (first | refine kz ?_ | refine Au rfl (fun hb => ?_) (fun hb => ?_) | refine kx hv ?_ | refine kx hu ?_ | refine ki ?_ | refine Aa (Oe _ _) ?_ | refine Ai rfl rfl (fun hb => ?_) (fun hb => ?_) | refine kf ?_ | fail)
    all_goals first
     | (refine congrArg Dat.lit (congrArg Value.bool ?_); rw [hinv]; simp_all <;> done)
     | ((apply Ae (i + 1); all_goals (try dsimp only); all_goals (try (repeat' (first | exact k0 | refine kw ?_ | omega)))); (try exact ⟨by omega, by rw [hinv]; simp_all⟩))
  · repeat' (first | refine kz ?_ | refine Au rfl (fun hb => ?_) (fun hb => ?_) | refine ki ?_ | refine Ai rfl rfl (fun hb => ?_) (fun hb => ?_) | refine kf ?_ | fail)
    refine congrArg Dat.lit (congrArg Value.bool ?_)
    rw [List.drop_eq_nil_of_le (by omega), List.drop_eq_nil_of_le (by omega)] at hinv
    rw [hinv]; rfl
theorem L9 (r : List Val) (hr : r.length ≤ 1000000) : PCall Tryz.prog 98 [.one (AU r)] (.v (.one (AU r))) := by
 refine Ac hT Tryz.func98 Tryz.ntmps98 [.tmp 2] fun B => ?_
 repeat' (first | refine kz ?_ | refine Au rfl (fun hb => ?_) (fun hb => ?_) | refine LF (fun b hnil => ?_) | refine kf ?_ | refine kg ?_ ?_ | fail)
 ·have h := hnil hb
  have : r = [] := by simpa using h
  rw [this]; rfl
 ·simp
 ·rw [Ag (by simp)]; rfl
theorem Fk : DeferOk Tryz.prog 148 0 := by
 refine ⟨⟨_, Tryz.func148, by kernel_rfl, by kernel_rfl⟩, fun vs w hl => ?_⟩
 match vs, hl with
 | [], _ =>
   refine callsD_of_wpS Tryz.func148 rfl fun c₀ cs hu => ?_
   apply wpS_region
   simp [wpOpsS, go_sem, recoverD, hu, Tryz.ntmps148, Exit.thenS]
   cases c₀
   simp_all [bodyPostS, results, Tryz.results148]
def Ha (l : List Entry) : List Entry := (l.filter fun e => decide (0 < e.count)).map fun e => ⟨e.row, 1⟩
def Bq (l : List Entry) : List Entry := if Al l then Ha l else []
theorem Lj {l : List Entry} {i : Nat} {e : Entry} (h : l[i]? = some e) : Ha (l.take (i + 1)) = Ha (l.take i) ++ (if 0 < e.count then [⟨e.row, 1⟩] else []) := by
 unfold Ha
 rw [List.take_add_one, h, List.filter_append, List.map_append]
 congr 1
 by_cases hq : 0 < e.count <;> simp [hq]
theorem Og : ∀ {l : List Entry} {p : Option Entry}, goodFrom p l = true → ∀ e ∈ l, e.ok = true
 | [], _, _, e, he => by cases he
 | x :: l, p, h, e, he => by
   simp only [goodFrom, Bool.and_eq_true] at h
   rcases List.mem_cons.1 he with rfl | he
   ·exact h.1.1
   ·exact Og h.2 e he
theorem AZ {l : List Entry} (h : Al l = true) : l.length ≤ 4096 ∧ ∀ e ∈ l, AQ e.row = true ∧ (-262144 ≤ e.count ∧ e.count ≤ 262144) ∧ e.count ≠ 0 := by
 simp only [Al, Bool.and_eq_true, decide_eq_true_eq] at h
 refine ⟨h.1, fun e he => ?_⟩
 have := Og h.2 e he
 simp only [Entry.ok, Az, Bool.and_eq_true, decide_eq_true_eq] at this
 exact ⟨this.1.1, this.1.2, this.2⟩
theorem CP {r : List Val} (h : AQ r = true) : r.length ≤ 16 := by
 simp only [AQ, Bool.and_eq_true, decide_eq_true_eq] at h; exact h.1
theorem RO (l : List Entry) : PCall Tryz.prog 92 [.one (Ap l)] (.v (.one (Ap (Bq l)))) := by
 have hvc := BX l
 cases hb : Al l with
 | false =>
   rw [hb] at hvc
   have he : Bq l = [] := by simp [Bq, hb]
   rw [he]
   refine Ac hT Tryz.func92 Tryz.ntmps92 [.tmp 2] fun B => ?_
   repeat' (first | refine kz ?_ | refine Au rfl (fun hb => ?_) (fun hb => ?_) | refine ki ?_ | refine Aa (hvc) ?_ | refine A4 (by repeat (first | exact Af | refine Aq Fk ?_)) ?_ | refine kf ?_ | refine kg ?_ ?_ | fail)
   all_goals rfl
 | true =>
   rw [hb] at hvc
   have he : Bq l = Ha l := by simp [Bq, hb]
   obtain ⟨hl, hm⟩ := AZ hb
   rw [he]
   refine Ac hT Tryz.func92 Tryz.ntmps92 [.tmp 2] fun B => ?_
   repeat' (first | refine kz ?_ | refine Au rfl (fun hb => ?_) (fun hb => ?_) | refine ki ?_ | refine Aa (hvc) ?_ | refine A4 (by repeat (first | exact Af | refine Aq Fk ?_)) ?_ | refine kf ?_ | refine kg ?_ ?_ | fail)
   refine BA 3 56 2 ?_
   refine AO (X := Nat × Nat) [3, 5, 11, 12, 13, 14, 15, 16, 17, 18, 19, 20, 21, 22, 23, 24, 25] (fun x => x.1 ≤ l.length) (fun x lz => (3, .c (.arr 0 x.2 (Ha (l.take x.1)).length)) :: (11, (.c (.d (.lit (.int .i64 x.1))))) :: lz) (fun x => [.arr x.2 56 2 ((Ha (l.take x.1)).map Entry.d)]) (fun x => l.length - x.1) ((0, 1)) ?_ ?_ ?_ ?_
   repeat' (first | exact k0 | refine kw ?_ | refine kv ?_ ?_ | omega)
   rintro ⟨i, k⟩ c hi
   dsimp only at hi ⊢
   have hsl : (Ha (l.take i)).length ≤ i := by
    unfold Ha
    rw [List.length_map]
    refine Nat.le_trans (List.length_filter_le ..) (by simp; omega)
   by_cases hlt : i < l.length
   ·have hv : l[i]? = some l[i] := List.getElem?_eq_getElem hlt
    have hro := (hm _ (List.getElem_mem hlt)).1
    generalize l[i] = e at hv hro
    have hsn := Lj hv
    have hrl := CP hro
    have hcl := L9 e.row (by omega)
    repeat' (first | refine kz ?_ | refine Au rfl (fun hb => ?_) (fun hb => ?_) | refine kx hv ?_ | refine ki ?_ | refine Aa (hcl) ?_ | refine A4 (by repeat (first | exact Af | refine Aq Fk ?_)) ?_ | refine kf ?_ | refine kg ?_ ?_ | fail)
    ·rw [if_pos hb] at hsn
     (apply Ae ((i + 1, _)); all_goals (try dsimp only); all_goals (try (repeat' (first | exact k0 | refine w1 ?_ | refine w5 ?_ ?_ | refine Ab ?_ | refine m1 ?_ ?_ | omega))))
     · rw [hsn]; simp
     · rw [hsn, List.map_append]; rfl
    ·rw [if_neg (by omega), List.append_nil] at hsn
     (apply Ae ((i + 1, _)); all_goals (try dsimp only); all_goals (try (repeat' (first | exact k0 | refine w1 ?_ | refine w5 ?_ ?_ | refine Ab ?_ | refine m1 ?_ ?_ | omega))))
     all_goals (rw [hsn])
   ·rw [Ag (by omega)]
    repeat' (first | refine kz ?_ | refine Au rfl (fun hb => ?_) (fun hb => ?_) | refine ki ?_ | refine A4 (by repeat (first | exact Af | refine Aq Fk ?_)) ?_ | refine kf ?_ | refine kg ?_ ?_ | fail)
    ·simp
    ·rw [Ag (by simp)]; rfl
def Fz (l : List Entry) : Int := l.foldl (fun s e => s + e.count) 0
def Z9 (l : List Entry) : Int := if Al l then Fz l else 0
theorem FX : DeferOk Tryz.prog 104 0 := by
 refine ⟨⟨_, Tryz.func104, by kernel_rfl, by kernel_rfl⟩, fun vs w hl => ?_⟩
 match vs, hl with
 | [], _ =>
   refine callsD_of_wpS Tryz.func104 rfl fun c₀ cs hu => ?_
   apply wpS_region
   simp [wpOpsS, go_sem, recoverD, hu, Tryz.ntmps104, Exit.thenS]
   cases c₀
   simp_all [bodyPostS, results, Tryz.results104]
def keepE (e : List Trm) (x : Entry) : Bool := decide (e.length = 0) || E9 e x.row
def Bt (b : List Entry) (e : List Trm) : List Entry := if Al b then b.filter (keepE e) else []
theorem IG {α : Type} {p : α → Bool} {l : List α} {i : Nat} {x : α} (h : l[i]? = some x) : (l.take (i + 1)).filter p = (l.take i).filter p ++ if p x then [x] else [] := by
 rw [List.take_add_one, h, List.filter_append]
 congr 1
 cases hp : p x <;> simp [hp]
theorem Vr (b : List Entry) (e : List Trm) : PCall Tryz.prog 56 [.one (Ap b), .one (AK e)] (.v (.one (Ap (Bt b e)))) := by
 have hv := BX b
 cases hb : Al b
 ·rw [show Bt b e = [] by rw [Bt, hb]; rfl]
  rw [hb] at hv
  refine Ac hT Tryz.func56 Tryz.ntmps56 [.tmp 4] fun B => ?_
  repeat' (first | refine kz ?_ | refine ki ?_ | refine Aa (hv) ?_ | refine kf ?_ | refine A4 (by repeat (first | exact Af | refine Aq FX ?_)) ?_)
  all_goals rfl
 rw [hb] at hv
 obtain ⟨bl, bm⟩ := AZ hb
 rw [show Bt b e = b.filter (keepE e) by rw [Bt, hb, if_pos rfl]]
 have hcl : ∀ (i : Nat), ((b.take i).filter (keepE e)).length ≤ 4096 := fun i => by
  have h1 := List.length_filter_le (keepE e) (b.take i)
  have h2 := List.length_take_le i b
  have h3 : (b.take i).length ≤ b.length := by simp; omega
  omega
 refine Ac hT Tryz.func56 Tryz.ntmps56 [.tmp 4] fun B => ?_
 repeat' (first | refine kz ?_ | refine ki ?_ | refine Aa (hv) ?_ | refine kf ?_ | refine A4 (by repeat (first | exact Af | refine Aq FX ?_)) ?_)
 refine BA 5 56 2 ?_
 refine AO (X := Nat × Nat × List Entry) [5, 7, 13, 14, 15, 16, 17, 18, 19, 20, 21, 22, 23, 24, 25, 26, 27, 28, 29, 30, 31, 32, 33, 34, 35] (fun x => x.1 ≤ b.length ∧ x.2.2 = (b.take x.1).filter (keepE e)) (fun x lz => (5, .c (.arr 0 x.2.1 x.2.2.length)) :: (13, (.c (.d (.lit (.int .i64 x.1))))) :: lz) (fun x => [.arr x.2.1 56 2 (x.2.2.map Entry.d)]) (fun x => b.length - x.1) ((0, 1, [])) ?_ ?_ ?_ ?_
 repeat' (first | exact k0 | refine kw ?_ | refine kv ?_ ?_ | omega)
 ·exact ⟨by simp, rfl⟩
 rintro ⟨i, k, out⟩ c ⟨hi, hout⟩
 dsimp only at hi hout ⊢
 have hol : out.length ≤ 4096 := by rw [hout]; exact hcl i
 by_cases hlt : i < b.length
 ·have hx : b[i]? = some b[i] := List.getElem?_eq_getElem hlt
  generalize b[i] = x at hx
  have hxl : x.row.length ≤ 1000000 := by
   have := (bm x (List.mem_of_getElem? hx)).1
   simp only [AQ, Bool.and_eq_true, decide_eq_true_eq] at this
   omega
  have hsn := IG (p := keepE e) hx
  rw [← hout] at hsn
  have hcln := L9 x.row hxl
  have hh := Q4 e x.row
  clear hout hv bm hb
  by_cases h0 : e.length = 0
  ·rw [show keepE e x = true by rw [keepE, decide_eq_true h0]; rfl, if_pos rfl] at hsn
   repeat' (first | refine kz ?_ | refine kx hx ?_ | refine ki ?_ | refine Aa (hcln) ?_ | refine kf ?_ | fail)
   (apply Ae ((i + 1, _, out ++ [x])); all_goals (try dsimp only); all_goals (try (repeat' (first | exact k0 | refine w1 ?_ | refine Ab ?_ | refine m1 ?_ ?_ | omega))))
   all_goals first | (exact ⟨by omega, hsn.symm⟩) | (simp; done) | (rw [List.map_append]; rfl)
  ·cases hk : E9 e x.row with
   | true =>
     rw [show keepE e x = true by rw [keepE, hk, Bool.or_true], if_pos rfl] at hsn
     rw [hk] at hh
     repeat' (first | refine kz ?_ | refine kx hx ?_ | refine ki ?_ | refine Aa (hcln) ?_ | refine Aa (hh) ?_ | refine kf ?_ | fail)
     (apply Ae ((i + 1, _, out ++ [x])); all_goals (try dsimp only); all_goals (try (repeat' (first | exact k0 | refine w1 ?_ | refine Ab ?_ | refine m1 ?_ ?_ | omega))))
     all_goals first | (exact ⟨by omega, hsn.symm⟩) | (simp; done) | (rw [List.map_append]; rfl)
   | false =>
     rw [show keepE e x = false by rw [keepE, hk, decide_eq_false h0]; rfl] at hsn
     simp only [Bool.false_eq_true, if_false, List.append_nil] at hsn
     rw [hk] at hh
     repeat' (first | refine kz ?_ | refine kx hx ?_ | refine ki ?_ | refine Aa (hcln) ?_ | refine Aa (hh) ?_ | refine kf ?_ | fail)
     (apply Ae ((i + 1, _, out)); all_goals (try dsimp only); all_goals (try (repeat' (first | exact k0 | refine w1 ?_ | refine Ab ?_ | refine m1 ?_ ?_ | omega))))
     all_goals exact ⟨by omega, hsn.symm⟩
 ·have hie : i = b.length := by omega
  subst hie
  rw [List.take_length] at hout
  rw [← hout]
  have hf : List.take out.length (out.map Entry.d) = out.map Entry.d := Ag (by simp)
  repeat' (first | refine Aw 5 ?_ (hes := hf) | refine kz ?_ | refine ki ?_ | refine LQ ?_ | refine Gw ?_ | refine A4 (by repeat (first | exact Af | refine Aq FX ?_)) ?_ | refine Bo ?_ | refine BR ?_)
  all_goals rfl
theorem JK (b : List Entry) (e : List Trm) : PCall Tryz.prog 136 [.one (Ap b), .one (AK e)] (.v (.one (Ap (Bt b e)))) := by
 have hv := BL b
 cases hb : Al b
 ·rw [show Bt b e = [] by rw [Bt, hb]; rfl]
  rw [hb] at hv
  refine Ac hT Tryz.func136 Tryz.ntmps136 [.tmp 4] fun B => ?_
  repeat' (first | refine kz ?_ | refine ki ?_ | refine Aa (hv) ?_ | refine kf ?_ | fail)
  all_goals rfl
 rw [hb] at hv
 obtain ⟨bl, bm⟩ := AZ hb
 rw [show Bt b e = b.filter (keepE e) by rw [Bt, hb, if_pos rfl]]
 have hcl : ∀ (i : Nat), ((b.take i).filter (keepE e)).length ≤ 4096 := fun i => by
  have h1 := List.length_filter_le (keepE e) (b.take i)
  have h3 : (b.take i).length ≤ b.length := by simp; omega
  omega
 refine Ac hT Tryz.func136 Tryz.ntmps136 [.tmp 4] fun B => ?_
 repeat' (first | refine kz ?_ | refine ki ?_ | refine Aa (hv) ?_ | refine kf ?_ | fail)
 refine BA 5 56 2 ?_
 refine AO (X := Nat × Nat × List Entry) [5, 6, 10, 11, 12, 13, 14, 15, 16, 17, 18, 19, 20, 21, 22, 23, 24, 25, 26, 27, 28, 29, 30, 31, 32, 33, 34] (fun x => x.1 ≤ b.length ∧ x.2.2 = (b.take x.1).filter (keepE e)) (fun x lz => (5, .c (.arr 0 x.2.1 x.2.2.length)) :: (6, (.c (.d (.lit (.int .i64 x.1))))) :: lz) (fun x => [.arr x.2.1 56 2 (x.2.2.map Entry.d)]) (fun x => b.length - x.1) ((0, 1, [])) ?_ ?_ ?_ ?_
 repeat' (first | exact k0 | refine kw ?_ | refine kv ?_ ?_ | omega)
 ·exact ⟨by simp, rfl⟩
 rintro ⟨i, k, out⟩ c ⟨hi, hout⟩
 dsimp only at hi hout ⊢
 have hol : out.length ≤ 4096 := by rw [hout]; exact hcl i
 by_cases hlt : i < b.length
 ·have hx : b[i]? = some b[i] := List.getElem?_eq_getElem hlt
  generalize b[i] = x at hx
  have hsn := IG (p := keepE e) hx
  rw [← hout] at hsn
  have hh := Pd e x.row
  clear hout hv bm hb
  by_cases h0 : e.length = 0
  ·rw [show keepE e x = true by rw [keepE, decide_eq_true h0]; rfl, if_pos rfl] at hsn
   repeat' (first | refine kz ?_ | refine kx hx ?_ | refine ki ?_ | refine kf ?_ | fail)
   (apply Ae ((i + 1, _, out ++ [x])); all_goals (try dsimp only); all_goals (try (repeat' (first | exact k0 | refine w1 ?_ | refine Ab ?_ | refine m1 ?_ ?_ | omega))))
   all_goals first | (exact ⟨by omega, hsn.symm⟩) | (simp; done) | (rw [List.map_append]; rfl)
  ·cases hk : E9 e x.row with
   | true =>
     rw [show keepE e x = true by rw [keepE, hk, Bool.or_true], if_pos rfl] at hsn
     rw [hk] at hh
     repeat' (first | refine kz ?_ | refine kx hx ?_ | refine ki ?_ | refine Aa (hh) ?_ | refine kf ?_ | fail)
     (apply Ae ((i + 1, _, out ++ [x])); all_goals (try dsimp only); all_goals (try (repeat' (first | exact k0 | refine w1 ?_ | refine Ab ?_ | refine m1 ?_ ?_ | omega))))
     all_goals first | (exact ⟨by omega, hsn.symm⟩) | (simp; done) | (rw [List.map_append]; rfl)
   | false =>
     rw [show keepE e x = false by rw [keepE, hk, decide_eq_false h0]; rfl] at hsn
     simp only [Bool.false_eq_true, if_false, List.append_nil] at hsn
     rw [hk] at hh
     repeat' (first | refine kz ?_ | refine kx hx ?_ | refine ki ?_ | refine Aa (hh) ?_ | refine kf ?_ | fail)
     (apply Ae ((i + 1, _, out)); all_goals (try dsimp only); all_goals (try (repeat' (first | exact k0 | refine w1 ?_ | refine Ab ?_ | refine m1 ?_ ?_ | omega))))
     all_goals exact ⟨by omega, hsn.symm⟩
 ·have hie : i = b.length := by omega
  subst hie
  rw [List.take_length] at hout
  rw [← hout]
  have hf : List.take out.length (out.map Entry.d) = out.map Entry.d := Ag (by simp)
  repeat' (first | refine Aw 5 ?_ (hes := hf) | refine kz ?_ | refine ki ?_ | refine LQ ?_ | refine Gw ?_ | refine A4 Af ?_ | refine Bo ?_ | refine BR ?_)
  all_goals rfl
end Go.Proofs.YtmpgmjlanngkfaaGreat
end
