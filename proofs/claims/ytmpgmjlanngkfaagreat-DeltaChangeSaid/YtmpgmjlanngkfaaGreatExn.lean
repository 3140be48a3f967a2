/-
  Algebra: Where.
-/
import Derived.Test.YtmpgmjlanngkfaaGreatJod
import Derived.Test.YtmpgmjlanngkfaaGreatAgm
import Derived.Test.YtmpgmjlanngkfaaGreatRga
import Derived.Test.YtmpgmjlanngkfaaGreatRej
import Derived.Test.YtmpgmjlanngkfaaGreatExm
import Derived.Test.YtmpgmjlanngkfaaGreatAgr
import Derived.Test.YtmpgmjlanngkfaaGreatAgh
import Derived.Test.YtmpgmjlanngkfaaGreatTap
section
namespace Go.Proofs.YtmpgmjlanngkfaaGreat
open Go.Abs Go.RowKit
attribute [local irreducible] ARun Av MCall PCall HCall Ap SF CF CFs Ag Ai As fin AY VLe
set_option linter.unusedSimpArgs false
set_option maxRecDepth 100000
set_option maxHeartbeats 4000000
variable {i : Nat}
theorem UM {keys : List Itm} {row : List Val} {x : Itm} (h : keys[i]? = some x) : (AQ (keys.take i) row).map Val.d ++ [(EC x.expr row).d] = (AQ (keys.take (i + 1)) row).map Val.d := by
 rw [Bp h]; simp [AQ]
theorem QB (keys : List Itm) (row : List Val) (hk : keys.length ≤ 10000) : PC 152 [.one (J8 keys), .one (A0 row)] (.v (.one (A0 (AQ keys row)))) := by
 refine Ac hT Tryz.func152 Tryz.ntmps152 [.tmp 4] fun B => ?_
 repeat' first | refine kz ?_ | refine Ao ?_ | refine kh ?_ ?_ | exact ⟨⟩ | fail
 refine Bv 5 73 3 ?_
 refine AK (X := Nat × Nat) (List.range' 5 18) (fun x => x.1 ≤ keys.length) (fun x lz => (6, (iC x.1)) :: (5, .c (.arr 0 x.2 x.1)) :: lz) (fun x => [.arr x.2 73 3 ((AQ (keys.take x.1) row).map Val.d)]) (fun x => keys.length - x.1) ((0, 1)) ?_ ?_ ?_ ?_
 repeat' first | exact k0 | refine kw ?_ | refine kv ?_ ?_ | omega
 rintro ⟨i, k⟩ c hi
 dsimp only at hi ⊢
 by_cases i7 : i < keys.length
 ·obtain ⟨it, hv⟩ := gx i7
  have qe := Hr it.expr row
  have hs := UM (row := row) hv
  have jL : (keys.map Itm.d)[i]? = some it.d := by rw [BU, hv]; rfl
  have jM : ((AQ (keys.take i) row).map Val.d).length = i := by simp [AQ]; omega
  generalize (AQ (keys.take i) row).map Val.d = A at hs jM ⊢
  repeat' first | refine kz ?_ | refine AF jL ?_ | refine Ao ?_ | refine Aa (qe) ?_ | refine kh ?_ ?_ | exact ⟨⟩ | fail
  apply Af ((i + 1, c + 1)) <;> (try dsimp only) <;> try repeat' first | exact k0 | refine kw ?_ | refine kv ?_ ?_ | omega
  all_goals first
   | omega
   | (rw [Ah (by omega)]; exact hs)
 ·obtain rfl : i = keys.length := by omega
  rw [Ah (Nat.le_refl _)]
  repeat' first | refine kz ?_ | refine Ao ?_ | refine kh ?_ ?_ | exact ⟨⟩ | fail
  all_goals first
   | (rw [Ah (by rw [BR, DU]; omega)]; rfl)
   | rfl
   | (rw [BR, DU]; omega)
def aj (l : List (List Val)) : Dat := .sl (l.map fun r => [A0 r])
theorem Na (b : List Entry) (keys : List Itm) (hb : b.length ≤ 1000) (hk : keys.length ≤ 16) : PC 102 [.one (Ak b), .one (J8 keys)] (.v (.one (aj (Dg b (AQ keys))))) := by
 have l5 := E9 (b.map fun e => ⟨AQ keys e.row, 1⟩) (by rw [BR]; omega)
 have ll : ∀ e ∈ b.map fun e : Entry => (⟨AQ keys e.row, 1⟩ : Entry), AR e.row = true ∧ -3 ≤ e.count ∧ e.count ≤ 3 := fun e he => by
  obtain ⟨x, _, rfl⟩ := List.mem_map.1 he
  refine ⟨?_, by dsimp only; omega, by dsimp only; omega⟩
  simp only [AR, BM, decide_eq_true_eq, Eg]
  refine ⟨by rw [DU]; exact hk, fun v hv => ?_⟩
  obtain ⟨it, _, rfl⟩ := List.mem_map.1 hv
  exact Ho ..
 have hz := LO ll (by rw [BR]; exact hb)
 have hg := Fw hz.1
 rw [hz.1, hg.1] at l5
 have hlen := hz.2.2.2
 rw [hg.1, BR] at hlen
 unfold Dg
 generalize sortE (b.map fun e => ⟨AQ keys e.row, 1⟩) = S at l5 hlen
 clear hz hg ll
 refine Ac hT Tryz.func102 Tryz.ntmps102 [.tmp 4] fun B => ?_
 repeat' first | refine kz ?_ | refine Ao ?_ | refine kh ?_ ?_ | exact ⟨⟩ | fail
 refine Bv 5 56 2 ?_
 refine AK (X := Nat × Nat) ([5, 6] ++ List.range' 9 17) (fun x => x.1 ≤ b.length) (fun x lz => (6, (iC x.1)) :: (5, .c (.arr 0 x.2 x.1)) :: lz) (fun x => [.arr x.2 56 2 (((b.take x.1).map fun e => (⟨AQ keys e.row, 1⟩ : Entry)).map Entry.d)]) (fun x => b.length - x.1) ((0, 1)) ?_ ?_ ?_ ?_
 repeat' first | exact k0 | refine kw ?_ | refine kv ?_ ?_ | omega
 rintro ⟨i, k⟩ c hi
 dsimp only at hi ⊢
 by_cases i7 : i < b.length
 ·obtain ⟨e, hv⟩ := gx i7
  have qa := QB keys e.row (by omega)
  have jL : (b.map Entry.d)[i]? = some e.d := by rw [BU, hv]; rfl
  have hs : ((b.take i).map fun e => (⟨AQ keys e.row, 1⟩ : Entry)).map Entry.d ++ [[A0 (AQ keys e.row), .lit (.int .i64 1)]] = ((b.take (i + 1)).map fun e => (⟨AQ keys e.row, 1⟩ : Entry)).map Entry.d := by
   rw [Bp hv]; simp [Entry.d]
  have jM : (((b.take i).map fun e => (⟨AQ keys e.row, 1⟩ : Entry)).map Entry.d).length = i := by simp; omega
  generalize ((b.take i).map fun e => (⟨AQ keys e.row, 1⟩ : Entry)).map Entry.d = A at hs jM ⊢
  repeat' first | refine kz ?_ | refine AF jL ?_ | refine Ao ?_ | refine Aa (qa) ?_ | refine kh ?_ ?_ | exact ⟨⟩ | fail
  apply Af ((i + 1, c + 1)) <;> (try dsimp only) <;> try repeat' first | exact k0 | refine kw ?_ | refine kv ?_ ?_ | omega
  all_goals first
   | omega
   | (rw [Ah (by omega)]; exact hs)
 ·obtain rfl : i = b.length := by omega
  rw [Ah (Nat.le_refl _)]
  refine Ax (r := 0) (m := b.length) (es := (b.map fun e => (⟨AQ keys e.row, 1⟩ : Entry)).map Entry.d) 5 ?_ (hl := by simp) (j6 := Ah (by simp))
  repeat' first | refine kz ?_ | refine Ao ?_ | refine Aa (l5) ?_ | refine kh ?_ ?_ | exact ⟨⟩ | fail
  refine Bv 7 54 1 ?_
  refine AK (X := Nat × Nat) ([7, 8] ++ List.range' 31 14) (fun x => x.1 ≤ S.length) (fun x lz => (8, (iC x.1)) :: (7, .c (.arr 1 x.2 x.1)) :: lz) (fun x => [.dead, .arr x.2 54 1 ((S.take x.1).map fun e => [A0 e.row])]) (fun x => S.length - x.1) ((0, c + 1)) ?_ ?_ ?_ ?_
  repeat' first | exact k0 | refine kw ?_ | refine kv ?_ ?_ | omega
  rintro ⟨j, k2⟩ c2 hj
  dsimp only at hj ⊢
  by_cases ky : j < S.length
  ·obtain ⟨e, hw⟩ := gx ky
   have mU : (S.map Entry.d)[j]? = some e.d := by rw [BU, hw]; rfl
   have hs : ((S.take j).map fun e => [A0 e.row]) ++ [[A0 e.row]] = (S.take (j + 1)).map fun e => [A0 e.row] := by
     rw [Bp hw]; simp
   have jM : ((S.take j).map fun e => [A0 e.row]).length = j := by simp; omega
   generalize (S.take j).map (fun e => [A0 e.row]) = A at hs jM ⊢
   repeat' first | refine kz ?_ | refine AF mU ?_ | refine Ao ?_ | refine kh ?_ ?_ | exact ⟨⟩ | fail
   apply Af ((j + 1, c2 + 1)) <;> (try dsimp only) <;> try repeat' first | exact k0 | refine kw ?_ | refine kv ?_ ?_ | omega
   all_goals first
     | omega
     | (rw [Ah (by omega)]; exact hs)
  ·obtain rfl : j = S.length := by omega
   rw [Ah (Nat.le_refl _)]
   repeat' first | refine kz ?_ | refine Ao ?_ | refine kh ?_ ?_ | exact ⟨⟩ | fail
   all_goals first
     | (rw [Ah (by simp)]; unfold aj; rw [Sc]; rfl)
     | rfl
     | (simp; done)
def IW (x : Entry) : List Entry → List Entry
 | [] => [x]
 | o :: l => if Aj o.row x.row < 0 then o :: IW x l else x :: o :: l
def e9 (x o : Entry) : Bool := decide (Aj o.row x.row < 0)
theorem Oj (x : Entry) : ∀ (l : List Entry) (n : Nat), n ≤ l.length → (l.take n).all (e9 x) = true → (∀ o, l[n]? = some o → ¬ Aj o.row x.row < 0) → IW x l = l.take n ++ x :: l.drop n
 | [], n, _, _, _ => by simp [IW]
 | o :: l, 0, _, _, h => by
   rw [IW, if_neg (h o rfl)]; rfl
 | o :: l, n + 1, hn, ha, h => by
   simp only [List.take_succ_cons, List.all_cons, BM, e9, decide_eq_true_eq] at ha
   rw [IW, if_pos ha.1, Oj x l n (by simpa using hn) ha.2 (fun o ho => h o (by simpa using ho))]; rfl
theorem Jw (x : Entry) : ∀ l : List Entry, (IW x l).Perm (x :: l)
 | [] => .refl _
 | o :: l => by
   rw [IW]
   split
   ·exact ((Jw x l).cons o).trans (.swap x o l)
   ·exact .refl _
def XO (a b : Entry) : Prop := ¬ Aj b.row a.row < 0
theorem cu {a b c : Entry} (h1 : XO a b) (h2 : XO b c) : XO a c := fun h => by
 have e1 := rowCmp_ok.anti a.row c.row
 have e2 := rowCmp_ok.anti b.row c.row
 have e3 := rowCmp_ok.anti a.row b.row
 unfold XO at h1 h2
 by_cases z : Aj b.row c.row = 0
 ·exact h1 (rowCmp_ok.left ((rowCmp_ok.zero _ _).1 z).symm h)
 ·exact h1 (rowCmp_ok.trans _ _ _ (by omega) h)
theorem Tf (x : Entry) : ∀ l : List Entry, l.Pairwise XO → (IW x l).Pairwise XO
 | [], _ => dB ..
 | o :: l, h => by
   obtain ⟨h1, h2⟩ := LW.1 h
   rw [IW]
   split
   ·rename_i i7
    refine LW.2 ⟨fun y hy => ?_, Tf x l h2⟩
    rcases FL.1 ((Jw x l).mem_iff.1 hy) with rfl | hy
    ·unfold XO
     have := rowCmp_ok.anti o.row y.row; omega
    ·exact h1 y hy
   ·rename_i i7
    refine LW.2 ⟨fun y hy => ?_, h⟩
    rcases FL.1 hy with rfl | hy
    ·exact i7
    ·exact cu i7 (h1 y hy)
def EU (p : Entry → Bool) (f : Entry → Entry) (b : List Entry) : List Entry := b.foldl (fun o e => if p e = true then IW (f e) o else o) []
theorem UN {p : Entry → Bool} {f : Entry → Entry} {b : List Entry} {e : Entry} (h : b[i]? = some e) : EU p f (b.take (i + 1)) = if p e = true then IW (f e) (EU p f (b.take i)) else EU p f (b.take i) := by
 unfold EU
 rw [Bp h, List.foldl_append]; rfl
theorem LA (p : Entry → Bool) (f : Entry → Entry) : ∀ (b o : List Entry), o.Pairwise XO → (b.foldl (fun o e => if p e = true then IW (f e) o else o) o).Pairwise XO ∧ (b.foldl (fun o e => if p e = true then IW (f e) o else o) o).Perm (o ++ (b.filter p).map f)
 | [], o, h => ⟨h, by simp⟩
 | e :: b, o, h => by
   rw [XU]
   by_cases hp : p e = true
   ·rw [if_pos hp]
    obtain ⟨h1, h2⟩ := LA p f b (IW (f e) o) (Tf _ _ h)
    refine ⟨h1, h2.trans ?_⟩
    rw [List.filter_cons_of_pos hp, List.map_cons]
    refine ((Jw (f e) o).append_right _).trans ?_
    rw [List.cons_append]
    exact (List.perm_middle).symm
   ·rw [if_neg hp]
    obtain ⟨h1, h2⟩ := LA p f b o h
    refine ⟨h1, ?_⟩
    rw [List.filter_cons_of_neg hp]; exact h2
theorem Jx (p : Entry → Bool) (f : Entry → Entry) (b : List Entry) : (EU p f b).Pairwise XO ∧ (EU p f b).Perm ((b.filter p).map f) := by
 have h := LA p f b [] .nil
 rw [List.nil_append] at h
 exact h
theorem Xu (p : Entry → Bool) (f : Entry → Entry) (b : List Entry) : (EU p f b).length ≤ b.length := by
 rw [(Jx p f b).2.length_eq, BR]; exact Q1 _ _
theorem Tg {A B : List Entry} {X : Entry} {m n : Nat} (hA : (A.map Entry.d).length = m) (hn : m + 1 + (B.map Entry.d).length = n) : List.take n (List.take (m + 1) (List.take (A.map Entry.d).length (A.map Entry.d) ++ [X.d]) ++ B.map Entry.d) = (A ++ X :: B).map Entry.d := by
 have h1 : (A.map Entry.d ++ [X.d]).length = m + 1 := by rw [CR, hA]; rfl
 rw [Ir, JF (Nat.le_of_eq h1), JF (by rw [CR, h1]; omega), Ag', List.map_cons, Hc]; rfl
def kP (keys : List Itm) (key : List Val) (e : Entry) : Bool := B1 (AQ keys e.row) key
def LB (ex : List Trm) (e : Entry) : Entry := ⟨[EC ex e.row], e.count⟩
theorem UO (b : List Entry) (keys : List Itm) (key : List Val) (ex : List Trm) (hb : b.length ≤ 1000) (hk : keys.length ≤ 16) : PC 138 [.one (Ak b), .one (J8 keys), .one (A0 key), .one (AW ex)] (.v (.one (Ak (EU (kP keys key) (LB ex) b)))) := by
 refine Ac hT Tryz.func138 Tryz.ntmps138 [.tmp 8] fun B => ?_
 repeat' first | refine kz ?_ | refine Ao ?_ | refine kf ?_ | fail
 refine AK (X := Nat) (List.range' 9 63) (fun x => x ≤ b.length) (fun x lz => (10, (iC x)) :: (9, .c (.d (Ak (EU (kP keys key) (LB ex) (b.take x))))) :: lz) (fun x => []) (fun x => b.length - x) (0) ?_ ?_ ?_ ?_
 repeat' first | exact k0 | refine kw ?_ | refine kv ?_ ?_ | omega
 all_goals try rfl
 rintro i c hi
 by_cases i7 : i < b.length
 ·obtain ⟨e, hv⟩ := gx i7
  have qa := QB keys e.row (by omega)
  have nL := LG (AQ keys e.row) key
  have qe := Hr ex e.row
  have jL : (b.map Entry.d)[i]? = some e.d := by rw [BU, hv]; rfl
  have hs := UN (p := kP keys key) (f := LB ex) hv
  have mP : (EU (kP keys key) (LB ex) (b.take i)).length ≤ 1000 := LX (Xu ..) (by simp; omega)
  generalize EU (kP keys key) (LB ex) (b.take i) = O at hs mP ⊢
  cases hp : kP keys key e with
  | false =>
    rw [hp, if_neg (by decide)] at hs
    unfold kP at hp
    rw [hp] at nL
    repeat' first | refine kz ?_ | refine AF jL ?_ | refine Ao ?_ | refine Aa (qa) ?_ | refine Aa (nL) ?_ | refine kf ?_ | fail
    apply Af (i + 1) <;> (try dsimp only) <;> try repeat' first | exact k0 | refine kw ?_ | refine kv ?_ ?_ | omega
    all_goals rw [hs]
  | true =>
    rw [hp, if_pos rfl] at hs
    unfold kP at hp
    rw [hp] at nL
    have hX : (LB ex e).d = [A0 [EC ex e.row], .lit (.int .i64 e.count)] := rfl
    have xu : (LB ex e).row = [EC ex e.row] := rfl
    generalize LB ex e = X at hs hX xu
    repeat' first | refine kz ?_ | refine AF jL ?_ | refine Ao ?_ | refine Aa (qa) ?_ | refine Aa (nL) ?_ | refine Aa (qe) ?_ | refine kf ?_ | fail
    refine AK (X := Nat) ([12] ++ List.range' 43 17) (fun x => x ≤ O.length ∧ (O.take x).all (e9 X) = true) (fun x lz => (12, (iC x)) :: lz) (fun x => [.box (c + 1) (X.d.map .d)]) (fun x => O.length - x) (0) ?_ ?_ ?_ ?_
    repeat' first | exact k0 | refine kw ?_ | refine kv ?_ ?_ | omega
    all_goals try (rw [hX]; rfl)
    ·exact ⟨by simp, by simp⟩
    rintro m c2 ⟨hm, hinv⟩
    by_cases mK : m < O.length
    ·obtain ⟨o, hw⟩ := gx mK
     have mU : (O.map Entry.d)[m]? = some o.d := by rw [BU, hw]; rfl
     have qC := Bd o.row [EC ex e.row]
     rw [← xu] at qC
     by_cases hc : Aj o.row X.row < 0
     ·repeat' first | refine kz ?_ | refine AF mU ?_ | refine Ao ?_ | refine Aa (qC) ?_ | refine kf ?_ | fail
      apply Af (m + 1) <;> (try dsimp only) <;> try repeat' first | exact k0 | refine kw ?_ | refine kv ?_ ?_ | omega
      all_goals exact ⟨by omega, CX (e9 X) hw hinv (by simpa [e9] using hc)⟩
     ·have lI := Oj X O m hm hinv (fun o' mX => by rw [hw] at mX; injection mX with mX; rw [← mX]; exact hc)
      rw [← hs] at lI
      generalize rO : EU (kP keys key) (LB ex) (b.take (i + 1)) = O2 at lI
      refine BY 1 ?_
      refine F2 ?_
      refine F2 ?_
      have yY : O2.length = O.length + 1 := by rw [lI]; simp; omega
      have hA : ((O.take m).map Entry.d).length = m := by simp; omega
      have hB : ((O.drop m).map Entry.d).length = O.length - m := by simp
      have qM := Tg (X := X) hA (show m + 1 + ((O.drop m).map Entry.d).length = O.length + 1 by omega)
      rw [← lI] at qM
      repeat' first | refine WN (dr := true) (ei := Gt) 1 ?_ ?_ ?_ ?_ | (refine GZ (dr := true) (ei := Gt) (k := c2 + 1) 1 (c2 + 2) (m := m + 1) ?_ (by omega) (by omega) ?_ ?_ (by simp only [maxLen]; omega) (by simp only [Gt]; omega) ?_ rfl) | (refine GZ (dr := true) (ei := Gt) (k := c2 + 2) 1 (c2 + 3) (m := O.length + 1) ?_ (by omega) (by omega) ?_ ?_ (by simp only [maxLen]; omega) (by simp only [Gt]; omega) ?_ rfl) | refine Dk (dr := true) ?_ | refine Ax (r := 1) (k := c2 + 3) (m := O.length + 1) (lH := O2.map Entry.d) 9 ?_ (hl := ?_) (j6 := qM) | refine kz ?_ | refine AF mU ?_ | refine Ao ?_ | refine Aa (qC) ?_ | refine H6 ?_ | refine EW ?_ | refine Bg Ad ?_ | refine Bq ?_
      all_goals first
        | exact Fy (fun _ => rfl)
        | exact AI rfl Bc
        | (simp only [maxLen]; omega)
        | (simp only [Gt]; omega)
        | (simp only [Gu, CR, List.length_cons, List.length_nil]; omega) | omega
        | skip
      apply Af (i + 1) <;> (try dsimp only) <;> try repeat' first | exact k0 | refine kw ?_ | refine kv ?_ ?_ | omega
      all_goals (rw [rO]; rfl)
    ·have lI := Oj X O m hm hinv (fun o' mX => by have := lt_of_getElem? mX; omega)
     rw [← hs] at lI
     generalize rO : EU (kP keys key) (LB ex) (b.take (i + 1)) = O2 at lI
     refine BY 1 ?_
     refine F2 ?_
     refine F2 ?_
     have yY : O2.length = O.length + 1 := by rw [lI]; simp; omega
     have hA : ((O.take m).map Entry.d).length = m := by simp; omega
     have hB : ((O.drop m).map Entry.d).length = O.length - m := by simp
     have qM := Tg (X := X) hA (show m + 1 + ((O.drop m).map Entry.d).length = O.length + 1 by omega)
     rw [← lI] at qM
     repeat' first | refine WN (dr := true) (ei := Gt) 1 ?_ ?_ ?_ ?_ | (refine GZ (dr := true) (ei := Gt) (k := c2 + 1) 1 (c2 + 2) (m := m + 1) ?_ (by omega) (by omega) ?_ ?_ (by simp only [maxLen]; omega) (by simp only [Gt]; omega) ?_ rfl) | (refine GZ (dr := true) (ei := Gt) (k := c2 + 2) 1 (c2 + 3) (m := O.length + 1) ?_ (by omega) (by omega) ?_ ?_ (by simp only [maxLen]; omega) (by simp only [Gt]; omega) ?_ rfl) | refine Dk (dr := true) ?_ | refine Ax (r := 1) (k := c2 + 3) (m := O.length + 1) (lH := O2.map Entry.d) 9 ?_ (hl := ?_) (j6 := qM) | refine kz ?_ | refine Ao ?_ | refine H6 ?_ | refine EW ?_ | refine Bg Ad ?_ | refine Bq ?_
     all_goals first
      | exact Fy (fun _ => rfl)
      | exact AI rfl Bc
      | (simp only [maxLen]; omega)
      | (simp only [Gt]; omega)
      | (simp only [Gu, CR, List.length_cons, List.length_nil]; omega) | omega
      | skip
     apply Af (i + 1) <;> (try dsimp only) <;> try repeat' first | exact k0 | refine kw ?_ | refine kv ?_ ?_ | omega
     all_goals (rw [rO]; rfl)
 ·rw [Ah (show b.length ≤ i by omega)]
  repeat' first | refine kz ?_ | refine Ao ?_ | refine kf ?_ | fail
  all_goals rfl
theorem WT (code : Bs) (hc : code ≠ []) (st : List Lev) (s r : List (Bs × Int)) (jK : List Lev) (s' r' : List (Bs × Int)) (h : closeE code st.reverse s r = some (jK.reverse, s', r')) (kp : st.length ≤ 100000) (kS : ∀ l ∈ st, l.opened.length ≤ 100000) (hr : r.length ≤ 4096) :
  HC 195 [.c (.bp 0 0 0), .c (.d (Dq code))] (jm st s r) (.c (.d (.lit (.bool true)))) (gu jK s' r') := by
 have oA : ((⟨(code : Bs).toArray⟩ : ByteArray).toList == ({ data := #[] } : ByteArray).toList) = false := by rw [F4]; simp [hc]
 refine Au hT Tryz.func195 Tryz.ntmps195 [.tmp 4] fun B => ?_
 repeat' first | refine kz ?_ | refine Ao ?_ | refine Al rfl rfl (fun hb => ?_) (fun hb => ?_) | refine kg ?_ ?_ | exact k0 | refine Ab ?_ | refine m1 ?_ ?_
 refine AK (X := List Lev × List (Bs × Int) × List (Bs × Int) × List (List Dat) × Nat × Nat) ([4, 5] ++ List.range' 7 81) (fun x => closeE code x.1.reverse x.2.1 x.2.2.1 = some (jK.reverse, s', r') ∧ x.1.length ≤ 100000 ∧ (∀ l ∈ x.1, l.opened.length ≤ 100000) ∧ x.2.2.1.length ≤ 4096) (fun x lz => lz) (fun x => [.box 0 [.arr 1 x.2.2.2.2.1 x.1.length, .mp 2 0, .arr 3 x.2.2.2.2.2 x.2.2.1.length], .arr x.2.2.2.2.1 232 2 (x.1.map Lev.d ++ x.2.2.2.1), .mapb 0 9 2 (x.2.1.map Lh), .arr x.2.2.2.2.2 200 2 (x.2.2.1.map Hv)]) (fun x => x.1.length) ((st, s, r, [], 0, 0)) ?_ ?_ ?_ ?_
 repeat' first | exact k0 | refine kw ?_ | refine kv ?_ ?_ | omega
 ·simp
 ·exact ⟨h, kp, kS, hr⟩
 rintro ⟨st1, s1, r1, tl, k1, k3⟩ c ⟨hinv, lv, kc, mM⟩
 dsimp only at hinv lv kc mM ⊢
 refine Tb 1 st1.length ?_ (show (st1.map Lev.d ++ tl).take st1.length = st1.map Lev.d by rw [gb (by simp)]; exact JF (by simp))
 rcases E8 st1 with rfl | ⟨st2, l, rfl⟩
 ·simp only [List.reverse_nil, closeE, Option.some.injEq, HK] at hinv
  obtain ⟨h1, rfl, rfl⟩ := hinv
  have h1 : jK = [] := by simpa using h1.symm
  subst h1
  dsimp only [List.length_nil, List.map_nil]
  repeat' first | refine kz ?_ | refine Ao ?_ | refine Al rfl rfl (fun hb => ?_) (fun hb => ?_) | refine kg ?_ ?_ | exact k0 | refine Ab ?_ | refine m1 ?_ ?_
 ·have mh : st2.length + 1 ≤ 100000 := by simpa using lv
  have hlen : (st2 ++ [l]).length = st2.length + 1 := by simp
  have he : ((st2 ++ [l]).map Lev.d)[(((st2 ++ [l]).length : Int) - 1).toNat]? = some l.d := by
   rw [hlen, show (((st2.length + 1 : Nat) : Int) - 1).toNat = st2.length by omega, Ag']; exact IM _ _ (by simp)
  have nQ : ∀ l ∈ st2, l.opened.length ≤ 100000 := fun l hl => kc l (by simp [hl])
  have lr := kc l (by simp)
  rw [gl, gg, dR, closeE] at hinv
  have hp := OW ⟨code.toArray⟩ ⟨l.code.toArray⟩
  rw [JN] at hp
  by_cases lD : l.code.isPrefixOf code = true
  ·rw [if_pos ⟨hc, lD⟩] at hinv
   simp only [Option.some.injEq, HK] at hinv
   obtain ⟨h1, rfl, rfl⟩ := hinv
   have h1 : jK = st2 ++ [l] := by have := congrArg List.reverse h1; simpa using this.symm
   subst h1
   rw [lD] at hp
   repeat' first | (exfalso; rw [oA] at hb; cases hb; done) | refine EO (m' := st2.length) ?_ (iZ := by omega) | refine kz ?_ | refine AF he ?_ | refine Ao ?_ | refine Aa (hp) ?_ | refine Al rfl rfl (fun hb => ?_) (fun hb => ?_) | refine AO Ad ?_ ?_ | exact k0 | refine Ab ?_ | refine m1 ?_ ?_
  ·rw [if_neg (fun q => lD q.2)] at hinv
   have lD : l.code.isPrefixOf code = false := dZ.2 lD
   rw [lD] at hp
   cases jz : closeLev l.opened s1 r1 with
   | none =>
     rw [jz] at hinv; cases hinv
   | some q =>
     obtain ⟨s2, r2⟩ := q
     rw [jz] at hinv
     have pL := Et jz mM
     repeat' first | (exfalso; rw [oA] at hb; cases hb; done) | refine EO (m' := st2.length) ?_ (iZ := by omega) | refine kz ?_ | refine AF he ?_ | refine Ao ?_ | refine Aa (hp) ?_ | refine Al rfl rfl (fun hb => ?_) (fun hb => ?_) | refine AO Ad ?_ ?_ | exact k0 | refine Ab ?_ | refine m1 ?_ ?_
     refine AK (X := Nat × List (Bs × Int) × List (Bs × Int) × Nat) ([4, 7, 8] ++ List.range' 52 36) (fun x => closeLev (l.opened.drop x.1) x.2.1 x.2.2.1 = some (s2, r2) ∧ x.1 ≤ l.opened.length ∧ x.2.2.1.length ≤ 4096) (fun x lz => (52, (iC x.1)) :: lz) (fun x => [.box 0 [.arr 1 k1 st2.length, .mp 2 0, .arr 3 x.2.2.2 x.2.2.1.length], .arr k1 232 2 ((st2 ++ [l]).map Lev.d), .mapb 0 9 2 (x.2.1.map Lh), .arr x.2.2.2 200 2 (x.2.2.1.map Hv)]) (fun x => l.opened.length - x.1) ((0, s1, r1, k3)) ?_ ?_ ?_ ?_
     repeat' first | exact k0 | refine kw ?_ | refine kv ?_ ?_ | omega
     ·exact ⟨by simpa using jz, by simp, mM⟩
     rintro ⟨i, s3, r3, k4⟩ c4 ⟨jb, jG, mV⟩
     dsimp only at jb jG mV ⊢
     by_cases i7 : i < l.opened.length
     ·obtain ⟨cc, hv⟩ := gx i7
      rw [AB hv, closeLev] at jb
      rcases Cd cc s3 with ⟨i0, v, g1, g2, _, g4, _⟩ | ⟨g1, g2, _, g4, _⟩
      ·rw [g4] at jb
       by_cases hz : v = 0
       ·have hn : B7 cc s3 r3 = r3 := by rw [B7, g2, if_pos hz]
        rw [hn, if_neg (by omega)] at jb
        repeat' first | refine kz ?_ | refine AF hv ?_ | refine Ao ?_ | refine CZ (BA g1) ⟨_, rfl⟩ (AS _) ?_ | refine Cx (BA g1) ⟨_, rfl⟩ (AS _) ?_ | refine Al rfl rfl (fun hb => ?_) (fun hb => ?_) | refine kg ?_ ?_ | exact k0 | refine Ab ?_ | refine m1 ?_ ?_
        rw [E7]
        generalize s3.eraseIdx i0 = s4 at jb ⊢
        apply Af ((i + 1, s4, r3, k4)) <;> (try dsimp only) <;> try repeat' first | exact k0 | refine kw ?_ | refine kv ?_ ?_ | omega
        exact ⟨jb, by omega, mV⟩
       ·have hn : B7 cc s3 r3 = r3 ++ [(cc, v)] := by rw [B7, g2, if_neg hz]
        rw [hn] at jb
        have rP : (r3 ++ [(cc, v)]).length = r3.length + 1 := by simp
        have qo : r3.length + [[Dq cc, Dat.lit (Value.int .i64 v)]].length = (r3 ++ [(cc, v)]).length := by simp
        have oH : r3.map Hv ++ [[Dq cc, Dat.lit (Value.int .i64 v)]] = (r3 ++ [(cc, v)]).map Hv := by rw [Ag']; rfl
        have kD : ¬ 4096 < (r3 ++ [(cc, v)]).length := fun q => by rw [if_pos q] at jb; cases jb
        rw [if_neg kD] at jb
        repeat' first | refine kz ?_ | refine AF hv ?_ | refine Ao ?_ | refine CZ (BA g1) ⟨_, rfl⟩ (AS _) ?_ | refine Cx (BA g1) ⟨_, rfl⟩ (AS _) ?_ | refine Al rfl rfl (fun hb => ?_) (fun hb => ?_) | refine kg ?_ ?_ | exact k0 | refine Ab ?_ | refine m1 ?_ ?_
        rw [E7, oH, qo]
        generalize s3.eraseIdx i0 = s4 at jb ⊢
        generalize r3 ++ [(cc, v)] = r4 at jb rP kD ⊢
        apply Af ((i + 1, s4, r4, c4 + 1)) <;> (try dsimp only) <;> try repeat' first | exact k0 | refine kw ?_ | refine kv ?_ ?_ | omega
        exact ⟨jb, by omega, by omega⟩
      ·rw [g4] at jb
       have hn : B7 cc s3 r3 = r3 := by rw [B7, g2, if_pos rfl]
       rw [hn, if_neg (by omega)] at jb
       repeat' first | refine kz ?_ | refine AF hv ?_ | refine Ao ?_ | refine G4 (Er g1) ⟨_, rfl⟩ (AS _) ?_ | refine F6 (Er g1) ⟨_, rfl⟩ (AS _) ?_ | refine Al rfl rfl (fun hb => ?_) (fun hb => ?_) | refine kg ?_ ?_ | exact k0 | refine Ab ?_ | refine m1 ?_ ?_
       apply Af ((i + 1, s3, r3, k4)) <;> (try dsimp only) <;> try repeat' first | exact k0 | refine kw ?_ | refine kv ?_ ?_ | omega
       exact ⟨jb, by omega, mV⟩
     ·have k8 : i = l.opened.length := by omega
      subst k8
      rw [aX, closeLev] at jb
      simp only [Option.some.injEq, HK] at jb
      obtain ⟨rfl, rfl⟩ := jb
      repeat' first | refine kz ?_ | refine Ao ?_ | refine Al rfl rfl (fun hb => ?_) (fun hb => ?_) | refine kg ?_ ?_ | exact k0 | refine Ab ?_ | refine m1 ?_ ?_
      apply Af ((st2, s3, r3, [l.d], k1, k4)) <;> (try dsimp only) <;> try repeat' first | exact k0 | refine kw ?_ | refine kv ?_ ?_ | omega
      ·rw [Ag']; rfl
      ·exact ⟨hinv, by omega, nQ, mV⟩
theorem GV : DeferOk Tryz.prog 104 0 := by
 refine ⟨⟨_, Tryz.func104, by kernel_rfl, by kernel_rfl⟩, fun vs w hl => ?_⟩
 match vs, hl with
 | [], _ =>
   refine callsD_of_wpS Tryz.func104 rfl fun c₀ cs hu => ?_
   apply wpS_region
   simp [wpOpsS, go_sem, recoverD, hu, Tryz.ntmps104, Exit.thenS]
   cases c₀
   simp_all [bodyPostS, results, Tryz.results104]
def keepE (e : List Trm) (x : Entry) : Bool := decide (e.length = 0) || Fh e x.row
def A9 (b : List Entry) (e : List Trm) : List Entry := if Am b then b.filter (keepE e) else []
theorem JT {α : Type} {p : α → Bool} {l : List α} {x : α} (h : l[i]? = some x) : (l.take (i + 1)).filter p = (l.take i).filter p ++ if p x then [x] else [] := by
 rw [Gm, h, ZC]
 congr 1
 cases hp : p x <;> simp [hp]
theorem N6 (b : List Entry) (e : List Trm) : PC 56 [.one (Ak b), .one (AW e)] (.v (.one (Ak (A9 b e)))) := by
 have hv := Ck b
 cases hb : Am b
 ·rw [show A9 b e = [] by rw [A9, hb]; rfl]
  rw [hb] at hv
  refine Ac hT Tryz.func56 Tryz.ntmps56 [.tmp 4] fun B => ?_
  repeat' first | refine kz ?_ | refine Ao ?_ | refine Aa (hv) ?_ | refine kf ?_ | refine Bg (by repeat (first | exact Ad | refine Aq GV ?_)) ?_
  all_goals rfl
 rw [hb] at hv
 obtain ⟨bl, bm⟩ := AP hb
 rw [show A9 b e = b.filter (keepE e) by rw [A9, hb, if_pos rfl]]
 have jz : ∀ (i : Nat), ((b.take i).filter (keepE e)).length ≤ 4096 := fun i => by
  have h1 := Q1 (keepE e) (b.take i)
  have h2 := List.length_take_le i b
  have h3 : (b.take i).length ≤ b.length := by simp; omega
  omega
 refine Ac hT Tryz.func56 Tryz.ntmps56 [.tmp 4] fun B => ?_
 repeat' first | refine kz ?_ | refine Ao ?_ | refine Aa (hv) ?_ | refine kf ?_ | refine Bg (by repeat (first | exact Ad | refine Aq GV ?_)) ?_
 refine Bv 5 56 2 ?_
 refine AK (X := Nat × Nat × List Entry) ([5, 7] ++ List.range' 13 23) (fun x => x.1 ≤ b.length ∧ x.2.2 = (b.take x.1).filter (keepE e)) (fun x lz => (5, .c (.arr 0 x.2.1 x.2.2.length)) :: (13, (iC x.1)) :: lz) (fun x => [.arr x.2.1 56 2 (x.2.2.map Entry.d)]) (fun x => b.length - x.1) ((0, 1, [])) ?_ ?_ ?_ ?_
 repeat' first | exact k0 | refine kw ?_ | refine kv ?_ ?_ | omega
 ·exact ⟨by simp, rfl⟩
 rintro ⟨i, k, out⟩ c ⟨hi, jR⟩
 dsimp only at hi jR ⊢
 have mP : out.length ≤ 4096 := by rw [jR]; exact jz i
 by_cases i7 : i < b.length
 ·obtain ⟨x, hx⟩ := gx i7
  have oJ : x.row.length ≤ 1000000 := by
   have := (bm x (Cb hx)).1
   simp only [AR, BM, decide_eq_true_eq] at this
   omega
  have jc := JT (p := keepE e) hx
  rw [← jR] at jc
  have rQ := Ol x.row oJ
  have hh := T8 e x.row
  clear jR hv bm hb
  by_cases h0 : e.length = 0
  ·rw [show keepE e x = true by rw [keepE, decide_eq_true h0]; rfl, if_pos rfl] at jc
   repeat' first | refine kz ?_ | refine AF hx ?_ | refine Ao ?_ | refine Aa (rQ) ?_ | refine kf ?_ | fail
   apply Af ((i + 1, _, out ++ [x])) <;> (try dsimp only) <;> try repeat' first | exact k0 | refine w1 ?_ | refine Ab ?_ | refine m1 ?_ ?_ | omega
   all_goals first | (exact ⟨by omega, jc.symm⟩) | (simp; done) | (rw [Ag']; rfl)
  ·cases hk : Fh e x.row with
   | true =>
     rw [show keepE e x = true by rw [keepE, hk, Bool.or_true], if_pos rfl] at jc
     rw [hk] at hh
     repeat' first | refine kz ?_ | refine AF hx ?_ | refine Ao ?_ | refine Aa (rQ) ?_ | refine Aa (hh) ?_ | refine kf ?_ | fail
     apply Af ((i + 1, _, out ++ [x])) <;> (try dsimp only) <;> try repeat' first | exact k0 | refine w1 ?_ | refine Ab ?_ | refine m1 ?_ ?_ | omega
     all_goals first | (exact ⟨by omega, jc.symm⟩) | (simp; done) | (rw [Ag']; rfl)
   | false =>
     rw [show keepE e x = false by rw [keepE, hk, decide_eq_false h0]; rfl] at jc
     simp only [Bool.false_eq_true, if_false, List.append_nil] at jc
     rw [hk] at hh
     repeat' first | refine kz ?_ | refine AF hx ?_ | refine Ao ?_ | refine Aa (rQ) ?_ | refine Aa (hh) ?_ | refine kf ?_ | fail
     apply Af ((i + 1, _, out)) <;> (try dsimp only) <;> try repeat' first | exact k0 | refine w1 ?_ | refine Ab ?_ | refine m1 ?_ ?_ | omega
     all_goals exact ⟨by omega, jc.symm⟩
 ·have k8 : i = b.length := by omega
  subst k8
  rw [Ir] at jR
  rw [← jR]
  have hf : List.take out.length (out.map Entry.d) = out.map Entry.d := Ah (by simp)
  repeat' first | refine Ax 5 ?_ (j6 := hf) | refine kz ?_ | refine Ao ?_ | refine H6 ?_ | refine EW ?_ | refine Bg (by repeat (first | exact Ad | refine Aq GV ?_)) ?_ | refine Bq ?_ | refine BC ?_
  all_goals rfl
theorem K8 (b : List Entry) (e : List Trm) : PC 136 [.one (Ak b), .one (AW e)] (.v (.one (Ak (A9 b e)))) := by
 have hv := Bz b
 cases hb : Am b
 ·rw [show A9 b e = [] by rw [A9, hb]; rfl]
  rw [hb] at hv
  refine Ac hT Tryz.func136 Tryz.ntmps136 [.tmp 4] fun B => ?_
  repeat' first | refine kz ?_ | refine Ao ?_ | refine Aa (hv) ?_ | refine kf ?_ | fail
  all_goals rfl
 rw [hb] at hv
 obtain ⟨bl, bm⟩ := AP hb
 rw [show A9 b e = b.filter (keepE e) by rw [A9, hb, if_pos rfl]]
 have jz : ∀ (i : Nat), ((b.take i).filter (keepE e)).length ≤ 4096 := fun i => by
  have h1 := Q1 (keepE e) (b.take i)
  have h3 : (b.take i).length ≤ b.length := by simp; omega
  omega
 refine Ac hT Tryz.func136 Tryz.ntmps136 [.tmp 4] fun B => ?_
 repeat' first | refine kz ?_ | refine Ao ?_ | refine Aa (hv) ?_ | refine kf ?_ | fail
 refine Bv 5 56 2 ?_
 refine AK (X := Nat × Nat × List Entry) ([5, 6] ++ List.range' 10 25) (fun x => x.1 ≤ b.length ∧ x.2.2 = (b.take x.1).filter (keepE e)) (fun x lz => (5, .c (.arr 0 x.2.1 x.2.2.length)) :: (6, (iC x.1)) :: lz) (fun x => [.arr x.2.1 56 2 (x.2.2.map Entry.d)]) (fun x => b.length - x.1) ((0, 1, [])) ?_ ?_ ?_ ?_
 repeat' first | exact k0 | refine kw ?_ | refine kv ?_ ?_ | omega
 ·exact ⟨by simp, rfl⟩
 rintro ⟨i, k, out⟩ c ⟨hi, jR⟩
 dsimp only at hi jR ⊢
 have mP : out.length ≤ 4096 := by rw [jR]; exact jz i
 by_cases i7 : i < b.length
 ·obtain ⟨x, hx⟩ := gx i7
  have jc := JT (p := keepE e) hx
  rw [← jR] at jc
  have hh := RD e x.row
  clear jR hv bm hb
  by_cases h0 : e.length = 0
  ·rw [show keepE e x = true by rw [keepE, decide_eq_true h0]; rfl, if_pos rfl] at jc
   repeat' first | refine kz ?_ | refine AF hx ?_ | refine Ao ?_ | refine kf ?_ | fail
   apply Af ((i + 1, _, out ++ [x])) <;> (try dsimp only) <;> try repeat' first | exact k0 | refine w1 ?_ | refine Ab ?_ | refine m1 ?_ ?_ | omega
   all_goals first | (exact ⟨by omega, jc.symm⟩) | (simp; done) | (rw [Ag']; rfl)
  ·cases hk : Fh e x.row with
   | true =>
     rw [show keepE e x = true by rw [keepE, hk, Bool.or_true], if_pos rfl] at jc
     rw [hk] at hh
     repeat' first | refine kz ?_ | refine AF hx ?_ | refine Ao ?_ | refine Aa (hh) ?_ | refine kf ?_ | fail
     apply Af ((i + 1, _, out ++ [x])) <;> (try dsimp only) <;> try repeat' first | exact k0 | refine w1 ?_ | refine Ab ?_ | refine m1 ?_ ?_ | omega
     all_goals first | (exact ⟨by omega, jc.symm⟩) | (simp; done) | (rw [Ag']; rfl)
   | false =>
     rw [show keepE e x = false by rw [keepE, hk, decide_eq_false h0]; rfl] at jc
     simp only [Bool.false_eq_true, if_false, List.append_nil] at jc
     rw [hk] at hh
     repeat' first | refine kz ?_ | refine AF hx ?_ | refine Ao ?_ | refine Aa (hh) ?_ | refine kf ?_ | fail
     apply Af ((i + 1, _, out)) <;> (try dsimp only) <;> try repeat' first | exact k0 | refine w1 ?_ | refine Ab ?_ | refine m1 ?_ ?_ | omega
     all_goals exact ⟨by omega, jc.symm⟩
 ·have k8 : i = b.length := by omega
  subst k8
  rw [Ir] at jR
  rw [← jR]
  have hf : List.take out.length (out.map Entry.d) = out.map Entry.d := Ah (by simp)
  repeat' first | refine Ax 5 ?_ (j6 := hf) | refine kz ?_ | refine Ao ?_ | refine H6 ?_ | refine EW ?_ | refine Bg Ad ?_ | refine Bq ?_ | refine BC ?_
  all_goals rfl
end Go.Proofs.YtmpgmjlanngkfaaGreat
end
