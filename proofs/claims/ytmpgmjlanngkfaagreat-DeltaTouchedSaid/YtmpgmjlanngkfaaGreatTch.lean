/-
  Touched: the different key rows of the entries in which the input of a view changes.
-/
import Derived.Test.YtmpgmjlanngkfaaGreatXct
import Derived.Test.YtmpgmjlanngkfaaGreatBag
import Derived.Test.YtmpgmjlanngkfaaGreatArx
import Derived.Test.YtmpgmjlanngkfaaGreatVch
import Derived.Test.YtmpgmjlanngkfaaGreatAgr
section
namespace Go.Proofs.YtmpgmjlanngkfaaGreat
open Go.Abs Go.RowKit
attribute [local irreducible] ARun Aq MCall PCall HCall Am SF CF CFs Af Al Ap B5 AW VLe
set_option linter.unusedSimpArgs false
set_option maxRecDepth 100000
set_option maxHeartbeats 4000000
def Pg {β : Type} (q : β → β → Bool) (l : List β) : Nat → Bool
 | 0 => false
 | j + 1 => match l[j + 1]?, l[j]? with
   | some x, some y => q x y
   | _, _ => false
theorem JS {β : Type} {q : β → β → Bool} {l : List β} {j : Nat} {x y : β} (hx : l[j + 1]? = some x) (hy : l[j]? = some y) : Pg q l (j + 1) = q x y := by
 show (match l[j + 1]?, l[j]? with
  | some x, some y => q x y
  | _, _ => false) = q x y
 rw [hx, hy]
def Cw {β : Type} (q : β → β → Bool) (l : List β) : Nat → List β
 | 0 => []
 | i + 1 => Cw q l i ++ (if Pg q l i = true then [] else (l[i]?).toList)
theorem Nn {β : Type} {q : β → β → Bool} {l : List β} {i : Nat} {x y : β} (hi : 1 ≤ i) (hx : l[i]? = some x) (hy : l[i - 1]? = some y) (h : q x y = true) : Cw q l (i + 1) = Cw q l i := by
 obtain ⟨j, rfl⟩ : ∃ j, i = j + 1 := ⟨i - 1, by omega⟩
 rw [Nat.add_sub_cancel] at hy
 have hd : Pg q l (j + 1) = true := (JS hx hy).trans h
 show Cw q l (j + 1) ++ _ = _
 rw [if_pos hd, List.append_nil]
theorem Np {β : Type} {q : β → β → Bool} {l : List β} {i : Nat} {x y : β} (hi : 1 ≤ i) (hx : l[i]? = some x) (hy : l[i - 1]? = some y) (h : q x y = false) : Cw q l (i + 1) = Cw q l i ++ [x] := by
 obtain ⟨j, rfl⟩ : ∃ j, i = j + 1 := ⟨i - 1, by omega⟩
 rw [Nat.add_sub_cancel] at hy
 have hd : Pg q l (j + 1) = false := (JS hx hy).trans h
 show Cw q l (j + 1) ++ _ = _
 rw [hd, if_neg (by decide), hx]; rfl
theorem Nq {β : Type} (q : β → β → Bool) (l : List β) : Cw q l 1 = l.take 1 := by
 show [] ++ (if Pg q l 0 = true then [] else (l[0]?).toList) = _
 rw [if_neg (by simp [Pg]), List.nil_append]
 cases l <;> rfl
theorem Nr {β : Type} (q : β → β → Bool) (l : List β) : ∀ n, (Cw q l n).length ≤ n
 | 0 => Nat.le_refl _
 | n + 1 => by
   have h := Nr q l n
   show (Cw q l n ++ _).length ≤ _
   rw [Dg]
   split
   ·simp; omega
   ·cases l[n]? <;> simp <;> omega
theorem Sw {β : Type} {q : β → β → Bool} {l : List β} (hq : ∀ x ∈ l, ∀ y ∈ l, q x y = true → x = y) (n : Nat) : n ≤ l.length → ∀ i x, i < n → l[i]? = some x → x ∈ Cw q l n := by
 induction n with
 | zero => intro _ i x hi; omega
 | succ n ih =>
   intro hn i x hi hx
   show x ∈ Cw q l n ++ _
   by_cases him : i < n
   ·exact Gn.2 (.inl (ih (by omega) i x him hx))
   ·obtain rfl : i = n := by omega
    by_cases hd : Pg q l i = true
    ·match i, hd, hx with
     | j + 1, hd, hx =>
       have hy : l[j]? = some l[j] := Bi (by omega)
       rw [JS hx hy] at hd
       have h1 := hq x (Df hx) _ (Df hy) hd
       have h2 := ih (by omega) j l[j] (by omega) hy
       rw [← h1] at h2
       exact Gn.2 (.inl h2)
    ·rw [if_neg hd, hx]
     exact Gn.2 (.inr (by simp))
theorem YC {P : Program} {B : Base} {os : Array Oper} {d : Bool} {σ : St} {Q : Ex → St → Prop} (h : ARun P B (.region 7 os d) σ Q) : ARun P B (.region 7 os d) σ Q := h
theorem Q1 {β : Type} (enc : β → Dat) (q : β → β → Bool) (g : Nat) (l : List β) (hl : l.length ≤ 1000000) (hg : ∀ x ∈ l, ∀ y ∈ l, PC g [.one (enc x), .one (enc y)] (.v (.one (.lit (.bool (q x y)))))) :
  HC 60 [.c (.arr 0 0 l.length), .c (.d (.lit (.func (.func g) #[] #[])))] [.arr 0 54 1 (l.map fun x => [enc x])] (.c (.arr 0 0 (Cw q l l.length).length)) [.arr 0 54 1 ((Cw q l l.length).map fun x => [enc x])] := by
 by_cases h2 : l.length < 2
 ·have hc : Cw q l l.length = l := by
   match l, h2 with
   | [], _ => rfl
   | [x], _ => exact Nq q [x]
  rw [hc]
  refine AF hT Tryz.func60 Tryz.ntmps60 [.tmp 4] fun B => ?_
  repeat' first | refine kz ?_ | refine kg ?_ ?_ | exact k0 | refine Ab ?_ | refine CC ?_
  all_goals rfl
 have hL : (l.map fun x => [enc x]).length = l.length := BT _
 have hget : ∀ i x, l[i]? = some x → (l.map fun x => [enc x])[i]? = some [enc x] := fun i x h => by rw [Ci, h]; rfl
 refine AF hT Tryz.func60 Tryz.ntmps60 [.tmp 4] fun B => ?_
 repeat' first | refine kz ?_ | refine kg ?_ ?_ | exact k0 | refine Ab ?_ | refine CC ?_
 refine AY (X := Nat) (List.range' 4 4 ++ List.range' 12 53) (fun x => 1 ≤ x ∧ x ≤ l.length ∧ Cw q l x = l.take x) (fun x lz => (5, (iC x)) :: lz) (fun x => [.arr 0 54 1 (l.map fun x => [enc x])]) (fun x => l.length - x) (1) ?_ ?_ ?_ ?_
 repeat' first | exact k0 | refine kw ?_ | omega
 all_goals try (first | rfl | exact ⟨Nat.le_refl _, by omega, Nq q l⟩)
 rintro k c ⟨hk1, hkl, hinv⟩
 try dsimp only at hk1 hkl hinv ⊢
 by_cases hlt : k < l.length
 ·have hv : l[k]? = some l[k] := Bi hlt
  have hu : l[k - 1]? = some l[k - 1] := Bi (by omega)
  have hgg := hg _ (Gl hlt) _ (Gl (show k - 1 < l.length by omega))
  generalize l[k] = x at hv hgg
  generalize l[k - 1] = y at hu hgg
  have hv1 := hget _ _ hv
  have hu1 : (l.map fun x => [enc x])[((k : Int) - 1).toNat]? = some [enc y] := by rw [show ((k : Int) - 1).toNat = k - 1 by omega]; exact hget _ _ hu
  cases hq : q x y
  ·rw [hq] at hgg
   have hnx := Np hk1 hv hu hq
   rw [hinv, show l.take k ++ [x] = l.take (k + 1) by rw [KL, hv]; rfl] at hnx
   clear hg hget
   repeat' first | refine kz ?_ | refine AT hv1 ?_ | refine AT hu1 ?_ | refine As ?_ | refine Aa (hgg) ?_ | refine kg ?_ ?_ | exact k0 | refine Ab ?_ | refine CC ?_
   apply Ae (k + 1) <;> (try dsimp only) <;> try repeat' first | exact k0 | refine kw ?_ | omega
   all_goals exact ⟨by omega, by omega, hnx⟩
  ·rw [hq] at hgg
   have hnx := Nn hk1 hv hu hq
   rw [hinv] at hnx
   repeat' first | ((with_reducible (refine YC ?_)); refine VR 0 rfl rfl (fun h _ => absurd h ?_) (fun b c' hc1 hc2 hc3 => ?_)) | (refine FZ (ei := GQ) (off := 0) (c := c') (a := (k : Int)) (b := (l.length : Int)) (off' := k * 1) (m' := l.length - k) (c' := c' - k) ?_ (by omega) (by omega) (by omega) (by rw [if_neg (by omega)]; simp [GQ]) (by omega) (by omega)) | refine kz ?_ | refine AT hv1 ?_ | refine AT hu1 ?_ | refine As ?_ | refine Aa (hgg) ?_ | refine Bd Ac ?_ ?_ | exact k0 | refine Ab ?_ | refine CC ?_
   · intro h
     have := congrArg List.length h
     simp at this
     omega
   rw [hL] at hc2
   refine AY (X := Nat × Nat × List (List Dat)) ([5, 7] ++ List.range' 32 27) (fun x => 1 ≤ x.1 ∧ k + x.1 ≤ l.length ∧ x.2.1 = (Cw q l (k + x.1)).length ∧ x.2.1 + 1 ≤ k + x.1 ∧ x.2.2.length = l.length ∧ (∀ e ∈ x.2.2, e.length = 1) ∧ x.2.2.take x.2.1 = (Cw q l (k + x.1)).map (fun x => [enc x]) ∧ x.2.2.drop (k + x.1 - 1) = (l.map fun x => [enc x]).drop (k + x.1 - 1)) (fun x lz => (7, (iC x.1)) :: (5, (iC x.2.1)) :: lz) (fun x => [.arrc 0 54 1 x.2.2 b c']) (fun x => l.length - x.1) ((1, k, l.map fun x => [enc x])) ?_ ?_ ?_ ?_
   repeat' first | exact k0 | refine kw ?_ | omega
   · refine ⟨Nat.le_refl _, by dsimp only; omega, ?_, by dsimp only; omega, hL, fun e he => by obtain ⟨u, _, rfl⟩ := List.mem_map.1 he; rfl, ?_, rfl⟩
     ·dsimp only; rw [hnx]; simp; omega
     ·dsimp only; rw [hnx, List.map_take]
   rintro ⟨j, m, es⟩ c2 ⟨hj1, hjl, hm, hmj, hel, he1, htk, hdr⟩
   dsimp only at hj1 hjl hm hmj hel he1 htk hdr ⊢
   by_cases hjt : k + j < l.length
   · have hv : l[k + j]? = some l[k + j] := Bi hjt
     have hu : l[k + j - 1]? = some l[k + j - 1] := Bi (by omega)
     have hgg := hg _ (Gl hjt) _ (Gl (show k + j - 1 < l.length by omega))
     generalize l[k + j] = x2 at hv hgg
     generalize l[k + j - 1] = y2 at hu hgg
     have e1 : es[k + j]? = some [enc x2] := by
      have h := congrArg (·[1]?) hdr
      simp only [T3] at h
      rw [show k + j - 1 + 1 = k + j by omega] at h
      rw [h]; exact hget _ _ hv
     have e2 : es[k + j - 1]? = some [enc y2] := by
      have h := congrArg (·[0]?) hdr
      simp only [T3, Nat.add_zero] at h
      rw [h]; exact hget _ _ hu
     cases hq2 : q x2 y2
     ·rw [hq2] at hgg
      have hn2 := Np (by omega) hv hu hq2
      have e3 : es[m]? = some es[m] := Bi (by omega)
      have hol := he1 _ (Gl (show m < es.length by omega))
      generalize es[m] = old at e3 hol
      obtain ⟨ov, rfl⟩ : ∃ ov, old = [ov] := by
       match old, hol with
       | [ov], _ => exact ⟨ov, rfl⟩
      have hs1 : ∀ e ∈ es.set m [enc x2], e.length = 1 := fun e he => by
       rcases XX he with h | rfl
       · exact he1 e h
       · rfl
      have hsl : (es.set m [enc x2]).length = l.length := by rw [Jj]; exact hel
      have hst : (es.set m [enc x2]).take (m + 1) = (Cw q l (k + (j + 1))).map fun x => [enc x] := by
       rw [show k + (j + 1) = k + j + 1 by omega, hn2, As', ← htk, KL, ON (by omega), List.take_set_of_le (Nat.le_refl _)]
       rfl
      have hsd : (es.set m [enc x2]).drop (k + (j + 1) - 1) = (l.map fun x => [enc x]).drop (k + (j + 1) - 1) := by
       rw [List.drop_set_of_lt (by omega)]
       have h := congrArg (List.drop 1) hdr
       rw [PR, PR, show k + j - 1 + 1 = k + (j + 1) - 1 by omega] at h
       exact h
      clear hg hget hdr htk
      repeat' first | refine LS ?_ | refine E1 (ei := GQ) (r := 0) (j := k) (q := k + j) (z := (j : Int)) (m := l.length - k) (off := k * 1) (es := es) ?_ rfl (by omega) (by omega) rfl (by omega) | refine E1 (ei := GQ) (r := 0) (j := k) (q := k + j - 1) (z := (j : Int) - 1) (m := l.length - k) (off := k * 1) (es := es) ?_ rfl (by omega) (by omega) rfl (by omega) | refine E1 (ei := GQ) (r := 0) (j := 0) (q := m) (z := (m : Int)) (m := l.length) (off := 0) (es := es) ?_ rfl (by omega) (by omega) rfl (by omega) | refine Hu (r := 0) ?_ rfl e1 | refine Hu (r := 0) ?_ rfl e2 | refine Nw (r := 0) (j := m) (e' := [enc x2]) (mem' := _ :: _) ?_ (by exact rfl) e3 (hes := rfl) (hm' := rfl) | refine kz ?_ | refine Aa (hgg) ?_ | refine Bd Ac ?_ ?_ | exact k0 | refine Ab ?_ | refine CC ?_
      apply Ae ((j + 1, m + 1, es.set m [enc x2])) <;> (try dsimp only) <;> try repeat' first | exact k0 | refine kw ?_ | omega
      all_goals first
       | exact ⟨by omega, by omega, by rw [show k + (j + 1) = k + j + 1 by omega, hn2]; simp; omega, by omega, hsl, hs1, hst, hsd⟩
       | skip
     ·rw [hq2] at hgg
      have hn2 := Nn (by omega) hv hu hq2
      have hsd : es.drop (k + (j + 1) - 1) = (l.map fun x => [enc x]).drop (k + (j + 1) - 1) := by
       have h := congrArg (List.drop 1) hdr
       rw [PR, PR, show k + j - 1 + 1 = k + (j + 1) - 1 by omega] at h
       exact h
      rw [← hn2, VN] at hm htk
      clear hg hget hdr
      repeat' first | refine LS ?_ | refine E1 (ei := GQ) (r := 0) (j := k) (q := k + j) (z := (j : Int)) (m := l.length - k) (off := k * 1) (es := es) ?_ rfl (by omega) (by omega) rfl (by omega) | refine E1 (ei := GQ) (r := 0) (j := k) (q := k + j - 1) (z := (j : Int) - 1) (m := l.length - k) (off := k * 1) (es := es) ?_ rfl (by omega) (by omega) rfl (by omega) | refine E1 (ei := GQ) (r := 0) (j := 0) (q := m) (z := (m : Int)) (m := l.length) (off := 0) (es := es) ?_ rfl (by omega) (by omega) rfl (by omega) | refine Hu (r := 0) ?_ rfl e1 | refine Hu (r := 0) ?_ rfl e2 | refine kz ?_ | refine Aa (hgg) ?_ | refine Bd Ac ?_ ?_ | exact k0 | refine Ab ?_ | refine CC ?_
      apply Ae ((j + 1, m, es)) <;> (try dsimp only) <;> try repeat' first | exact k0 | refine kw ?_ | omega
      all_goals first
       | exact ⟨by omega, by omega, hm, by omega, hel, he1, htk, hsd⟩
       | skip
   · have hkj : k + j = l.length := by omega
     rw [hkj] at hm htk
     clear hg hget hdr
     repeat' first | refine LS ?_ | (refine FZ (ei := GQ) (off := 0) (c := c') (a := (m : Int)) (b := (l.length : Int)) (off' := m * 1) (m' := l.length - m) (c' := c' - m) ?_ (by omega) (by omega) (by omega) (by rw [if_neg (by omega)]; simp [GQ]) (by omega) (by omega)) | refine Nc (ei := GQ) (mem' := [.arrc 0 54 1 ((Cw q l l.length).map fun x => [enc x]) b c']) (r := 0) (o := m) (m := l.length - m) (c := c') (off := m * 1) (es := es) (es' := (Cw q l l.length).map fun x => [enc x]) ?_ rfl hc1 (by omega) (by omega) (.inr (by simp only [GQ])) htk | (refine FZ (ei := GQ) (off := 0) (c := c') (a := 0) (b := (m : Int)) (off' := 0) (m' := m) (c' := c') ?_ (by omega) (by omega) (by omega) (by rw [if_neg (by omega)]; simp [GQ]) (by omega) (by omega)) | ((with_reducible (refine Hv ?_)); refine P5 (r := 0) 4 ?_ rfl hc1) | refine kz ?_ | refine Bd Ac ?_ ?_ | exact k0 | refine Ab ?_ | refine CC ?_
     all_goals exact hm
 ·obtain rfl : k = l.length := by omega
  rw [PQ] at hinv
  rw [hinv]
  clear hg hget
  repeat' first | refine kz ?_ | refine kg ?_ ?_ | exact k0 | refine Ab ?_ | refine CC ?_
  all_goals rfl
theorem BZ : DeferOk Tryz.prog 54 0 := by
 refine ⟨⟨_, Tryz.func54, by kernel_rfl, by kernel_rfl⟩, fun vs w hl => ?_⟩
 match vs, hl with
 | [], _ =>
   refine callsD_of_wpS Tryz.func54 rfl fun c₀ cs hu => ?_
   apply wpS_region
   simp [wpOpsS, go_sem, recoverD, hu, Tryz.ntmps54, Exit.thenS]
   cases c₀
   simp_all [bodyPostS, results, Tryz.results54]
def rD (r : List Val) : List Dat := [BS r]
def Xu (l : List (List Val)) : Dat := .sl (l.map rD)
def Y0 (a b : List Val) : Bool := decide (Ai a b = 0)
theorem TN (a b : List Val) : PC 61 [.one (BS a), .one (BS b)] (.v (.one (.lit (.bool (Y0 a b))))) := by
 have h := AN a b
 refine Ad hT Tryz.func61 Tryz.ntmps61 [.tmp 4] fun B => ?_
 repeat' first | refine kz ?_ | refine Aa (h) ?_ | refine kf ?_ | fail
 all_goals rfl
noncomputable def srtK (items : List Itm) (D : List Entry) : List (List Val) := sortF Ai (D.map fun e => Ax items e.row)
noncomputable def tkE (items : List Itm) (D : List Entry) : List (List Val) := Cw Y0 (srtK items D) (srtK items D).length
theorem Xv {items : List Itm} {D : List Entry} {e : Entry} (he : e ∈ D) : Ax items e.row ∈ tkE items D := by
 have hm : Ax items e.row ∈ srtK items D := (Bt rowCmp_ok.swo _).mem_iff.2 (List.mem_map.2 ⟨e, he, rfl⟩)
 have hc : ∀ x ∈ srtK items D, Au x := fun x hx => by
  obtain ⟨y, _, rfl⟩ := List.mem_map.1 ((Bt rowCmp_ok.swo _).mem_iff.1 hx)
  exact AR _ _
 obtain ⟨i, hi⟩ := Mz.1 hm
 exact Sw (fun x hx y hy h => Ck (hc x hx) (hc y hy) (of_decide_eq_true h)) _ (Nat.le_refl _) i _ (lt_of_getElem? hi) hi
noncomputable def tchE (v : Vw) (ok : Bool) (s j d : List Entry × Int) : List (List Val) × Int :=
 if v.kind = 1 ∧ ok = true then (if s.2 = 0 then (if j.2 = 0 then (if d.2 = 0 then (tkE v.items d.1, 0) else ([], d.2)) else ([], j.2)) else ([], s.2)) else ([], 1)
def Ms (q : List (List Val) × Int) : PRes := .tup [.one (Xu q.1), .one (.lit (.int .i64 q.2))]
theorem RI (v : Vw) (l r dl dr : List Entry) (s j : List Entry × Int) (hil : v.items.length ≤ 10000)
  (hs : v.kind = 1 → PC 41 [.agg v.d, .one (Ao l), .one (Ao r)] (B4 s))
  (hj : v.kind = 1 → PC 55 [.agg v.d, .one (Ao s.1), .one (Ao l), .one (Ao r), .one (Ao dl), .one (Ao dr)] (B4 j))
  (hdl : (Bj (-1) (Bm j.1 v.wher) (Bm s.1 v.wher)).1.length ≤ 10000) :
  PC 24 [.agg v.d, .one (Ao l), .one (Ao r), .one (Ao dl), .one (Ao dr)] (Ms (tchE v (Co v l r) s j (Bj (-1) (Bm j.1 v.wher) (Bm s.1 v.wher)))) := by
 have hd := Gk v l r
 unfold tchE
 by_cases hk : v.kind = 1
 ·specialize hs hk
  specialize hj hk
  cases hder : Co v l r
  · rw [hder] at hd
    rw [if_neg (by simp)]
    dsimp only [Ms]
    clear hs hj hdl
    refine Ad hT Tryz.func24 Tryz.ntmps24 [.tmp 10, .tmp 11] fun B => ?_
    repeat' first | refine kz ?_ | refine As ?_ | refine Aa (hd) ?_ | refine kf ?_ | refine Ar (by repeat (first | exact Ac | refine Ah BZ ?_)) ?_ ?_
    all_goals rfl
  · rw [hder] at hd
    rw [if_pos ⟨hk, rfl⟩]
    obtain ⟨s, e1⟩ := s
    obtain ⟨j, e2⟩ := j
    dsimp only [B4] at hs hj hdl ⊢
    by_cases h1 : e1 = 0
    ·subst h1
     rw [if_pos rfl]
     by_cases h2 : e2 = 0
     ·subst h2
      rw [if_pos rfl]
      have w1 := Me j v.wher
      have w2 := Me s v.wher
      have hsub := Jw (Bm j v.wher) (Bm s v.wher)
      generalize Bm j v.wher = J at w1 hsub hdl ⊢
      generalize Bm s v.wher = S at w2 hsub hdl ⊢
      generalize Bj (-1) J S = d at hsub hdl ⊢
      obtain ⟨D, e3⟩ := d
      dsimp only at hsub hdl ⊢
      by_cases h3 : e3 = 0
      ·subst h3
       rw [if_pos rfl]
       dsimp only [Ms]
       refine Ad hT Tryz.func24 Tryz.ntmps24 [.tmp 10, .tmp 11] fun B => ?_
       repeat' first | refine Aa (ha := by exact And.intro rfl (And.intro rfl (And.intro rfl (And.intro rfl (And.intro rfl (And.intro rfl trivial)))))) hj ?_ | refine kz ?_ | refine As ?_ | refine Aa (hd) ?_ | refine Aa (hs) ?_ | refine Aa (w1) ?_ | refine Aa (w2) ?_ | refine Aa (hsub) ?_ | refine DU ?_ | refine De ?_ | refine Ar (by repeat (first | exact Ac | refine Ah BZ ?_)) ?_ ?_ | refine BB ?_ | refine Cf ?_
       refine CN 16 54 1 ?_
       refine AY (X := Nat × Nat) ([16] ++ List.range' 18 4 ++ List.range' 72 30) (fun x => x.1 ≤ D.length) (fun x lz => (72, (iC x.1)) :: (16, .c (.arr 1 x.2 ((D.take x.1).map fun e => Ax v.items e.row).length)) :: lz) (fun x => [.box 1 (v.d.map .d), .arr x.2 54 1 (((D.take x.1).map fun e => Ax v.items e.row).map rD)]) (fun x => D.length - x.1) ((0, 2)) ?_ ?_ ?_ ?_
       repeat' first | exact k0 | refine kw ?_ | refine kv ?_ ?_ | omega
       all_goals try rfl
       rintro ⟨i, k⟩ c hi
       dsimp only at hi ⊢
       by_cases hlt : i < D.length
       ·obtain ⟨e, hv⟩ := gx hlt
        have hsn := Gh (fun e : Entry => Ax v.items e.row) hv
        have hln : ((D.take i).map fun e => Ax v.items e.row).length = i := by simp; omega
        generalize hKS : (D.take (i + 1)).map (fun e => Ax v.items e.row) = KS at hsn
        generalize (D.take i).map (fun e => Ax v.items e.row) = K at hsn hln ⊢
        clear hd hs hj w1 w2 hsub
        repeat' first | refine kz ?_ | refine AT hv ?_ | refine As ?_ | refine kf ?_ | refine Ar (by repeat (first | exact Ac | refine Ah BZ ?_)) ?_ ?_
        refine AY (X := Nat) ([20, 21] ++ List.range' 83 14) (fun x => x ≤ v.items.length) (fun x lz => (83, (iC x)) :: lz) (fun x => [.box 1 (v.d.map .d), .arr k 54 1 (K.map rD), .box (c + 1) [.d (BS e.row), .d (.lit (.int .i64 e.count))], .arr (c + 1 + 1) 73 3 ((Ax (v.items.take x) e.row).map Val.d ++ List.replicate (v.items.length - x) Val.null.d)]) (fun x => v.items.length - x) (0) ?_ ?_ ?_ ?_
        repeat' first | exact k0 | refine kw ?_ | refine kv ?_ ?_ | omega
        all_goals try rfl
        rintro n2 c2 hn2
        by_cases hnt : n2 < v.items.length
        ·obtain ⟨it, hw⟩ := gx hnt
         have hev := F8 it.expr e.row
         have hl0 : ((Ax (v.items.take n2) e.row).map Val.d).length = n2 := by simp [Ax]; omega
         have hset : ((Ax (v.items.take n2) e.row).map Val.d ++ List.replicate (v.items.length - n2) Val.null.d).set n2 (GX it.expr e.row).d = (Ax (v.items.take (n2 + 1)) e.row).map Val.d ++ List.replicate (v.items.length - (n2 + 1)) Val.null.d := by
          obtain ⟨k, hk⟩ : ∃ k, v.items.length - n2 = k + 1 := ⟨v.items.length - n2 - 1, by omega⟩
          rw [hk, show v.items.length - (n2 + 1) = k by omega, ZH, VL _ _ (by omega), hl0, MF, List.set_cons_zero]
          unfold Ax
          rw [KL, hw]; simp
         have hel : ((Ax (v.items.take n2) e.row).map Val.d ++ List.replicate (v.items.length - n2) Val.null.d)[n2]? = some Val.null.d := by
          rw [LH (by omega), hl0, MF, Yf, if_pos (by omega)]
         have hAl : ((Ax (v.items.take n2) e.row).map Val.d ++ List.replicate (v.items.length - n2) Val.null.d).length = v.items.length := by rw [Dg, hl0, Jh]; omega
         generalize (Ax (v.items.take n2) e.row).map Val.d ++ List.replicate (v.items.length - n2) Val.null.d = A at hset hel hAl ⊢
         repeat' first | refine kz ?_ | refine AT hw ?_ | refine AT hel ?_ | refine As ?_ | refine Aa (hev) ?_ | refine kf ?_ | refine Ar (by repeat (first | exact Ac | refine Ah BZ ?_)) ?_ ?_
         apply Ae (n2 + 1) <;> (try dsimp only) <;> try repeat' first | exact k0 | refine kw ?_ | refine kv ?_ ?_ | omega
         all_goals exact hset
        ·obtain rfl : n2 = v.items.length := by omega
         rw [PQ, MF, List.replicate_zero, List.append_nil]
         have hkl : ((Ax v.items e.row).map Val.d).length = v.items.length := by rw [BT, E0]
         repeat' first | refine A8 (r := 3) (m := v.items.length) (es1 := (Ax v.items e.row).map Val.d) 19 ?_ (hl := by omega) (hes := Ag (by omega)) | refine kz ?_ | refine As ?_ | refine DU ?_ | refine De ?_ | refine Ar (by repeat (first | exact Ac | refine Ah BZ ?_)) ?_ ?_ | refine BB ?_ | refine Cf ?_
         apply Ae ((i + 1, _)) <;> (try dsimp only) <;> try repeat' first | exact k0 | refine w1 ?_ | refine w3 ?_ ?_ | refine w5 ?_ ?_ | refine Ab ?_ | refine m1 ?_ ?_ | omega
         all_goals first
          | (rw [hKS, hsn, As']; rfl)
          | (rw [hKS, hsn]; simp; done)
          | skip
       ·rw [Ag (show D.length ≤ i by omega)]
        have hS := Rq BS Ai rowCmp_ok.swo 59 (D.map fun e => Ax v.items e.row) (by simp; omega) (fun x _ y _ => AN x y)
        have hperm := (Bt rowCmp_ok.swo (D.map fun e => Ax v.items e.row)).length_eq
        have hC := Q1 BS Y0 61 (srtK v.items D) (by unfold srtK; rw [hperm]; simp; omega) (fun x _ y _ => TN x y)
        rw [show Cw Y0 (srtK v.items D) (srtK v.items D).length = tkE v.items D from rfl] at hC
        rw [show sortF Ai (D.map fun e => Ax v.items e.row) = srtK v.items D from rfl] at hS hperm
        generalize tkE v.items D = R at hC ⊢
        generalize srtK v.items D = Q at hC hS hperm
        generalize (D.map fun e => Ax v.items e.row) = K at hS hperm ⊢
        rw [hperm] at hC
        clear hd hs hj w1 w2 hsub
        repeat' first | ((with_reducible (refine Hv ?_)); refine A8 (r := 1) (m := R.length) (es1 := R.map rD) 10 ?_ (hl := by simp) (hes := Ag (by simp))) | refine kz ?_ | refine As ?_ | refine Ak [1] (hS) ?_ | refine Ak [1] (hC) ?_ | refine DU ?_ | refine De ?_ | refine Ar (by repeat (first | exact Ac | refine Ah BZ ?_)) ?_ ?_ | refine BB ?_ | refine Cf ?_
        all_goals rfl
      ·rw [if_neg h3]
       dsimp only [Ms]
       refine Ad hT Tryz.func24 Tryz.ntmps24 [.tmp 10, .tmp 11] fun B => ?_
       repeat' first | refine Aa (ha := by exact And.intro rfl (And.intro rfl (And.intro rfl (And.intro rfl (And.intro rfl (And.intro rfl trivial)))))) hj ?_ | refine kz ?_ | refine As ?_ | refine Aa (hd) ?_ | refine Aa (hs) ?_ | refine Aa (w1) ?_ | refine Aa (w2) ?_ | refine Aa (hsub) ?_ | refine DU ?_ | refine De ?_ | refine Ar (by repeat (first | exact Ac | refine Ah BZ ?_)) ?_ ?_ | refine BB ?_ | refine Cf ?_
       all_goals rfl
     ·rw [if_neg h2]
      dsimp only [Ms]
      refine Ad hT Tryz.func24 Tryz.ntmps24 [.tmp 10, .tmp 11] fun B => ?_
      repeat' first | refine Aa (ha := by exact And.intro rfl (And.intro rfl (And.intro rfl (And.intro rfl (And.intro rfl (And.intro rfl trivial)))))) hj ?_ | refine kz ?_ | refine As ?_ | refine Aa (hd) ?_ | refine Aa (hs) ?_ | refine DU ?_ | refine De ?_ | refine Ar (by repeat (first | exact Ac | refine Ah BZ ?_)) ?_ ?_ | refine BB ?_ | refine Cf ?_
      all_goals rfl
    ·rw [if_neg h1]
     dsimp only [Ms]
     refine Ad hT Tryz.func24 Tryz.ntmps24 [.tmp 10, .tmp 11] fun B => ?_
     repeat' first | refine kz ?_ | refine As ?_ | refine Aa (hd) ?_ | refine Aa (hs) ?_ | refine kf ?_ | refine Ar (by repeat (first | exact Ac | refine Ah BZ ?_)) ?_ ?_
     all_goals rfl
 ·rw [if_neg fun h => hk h.1]
  dsimp only [Ms]
  clear hs hj hdl
  refine Ad hT Tryz.func24 Tryz.ntmps24 [.tmp 10, .tmp 11] fun B => ?_
  repeat' first | refine kz ?_ | refine As ?_ | refine Aa (hd) ?_ | refine kf ?_ | refine Ar (by repeat (first | exact Ac | refine Ah BZ ?_)) ?_ ?_
  all_goals rfl
end Go.Proofs.YtmpgmjlanngkfaaGreat
end
