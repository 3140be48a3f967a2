/-
  Aggregates, the document's: Group.
-/
import Derived.Test.YtmpgmjlanngkfaaGreatRgb
import Derived.Test.YtmpgmjlanngkfaaGreatAwt
import Derived.Test.YtmpgmjlanngkfaaGreatSpq
import Derived.Test.YtmpgmjlanngkfaaGreatArw
import Derived.Test.YtmpgmjlanngkfaaGreatExm
import Derived.Test.YtmpgmjlanngkfaaGreatAgk
import Derived.Test.YtmpgmjlanngkfaaGreatHoa
import Derived.Test.YtmpgmjlanngkfaaGreatHom
section
namespace Go.Proofs.YtmpgmjlanngkfaaGreat
open Go.Abs Go.RowKit
attribute [local irreducible] ARun At MCall PCall HCall Am SF CF CFs Ah Aj Ar fin AW VLe
set_option linter.unusedSimpArgs false
set_option maxRecDepth 100000
set_option maxHeartbeats 4000000
theorem RG {keys : List Itm} {row : List Val} {i : Nat} {x : Itm} (h : keys[i]? = some x) : (A0 (keys.take i) row).map Val.d ++ [(Ek x.expr row).d] = (A0 (keys.take (i + 1)) row).map Val.d := by
 rw [A9 h]; simp [A0]
theorem Ob (keys : List Itm) (row : List Val) (hk : keys.length ≤ 10000) : PCall Tryz.prog 152 [.one (IU keys), .one (AU row)] (.v (.one (AU (A0 keys row)))) := by
 refine Ac hT Tryz.func152 Tryz.ntmps152 [.tmp 4] fun B => ?_
 repeat' (first | refine kz ?_ | refine ki ?_ | refine kf ?_ | refine kg ?_ ?_ | fail)
 refine BA 5 73 3 ?_
 refine AO (X := Nat × Nat) [5, 6, 7, 8, 9, 10, 11, 12, 13, 14, 15, 16, 17, 18, 19, 20, 21, 22] (fun x => x.1 ≤ keys.length) (fun x lz => (6, (.c (.d (.lit (.int .i64 x.1))))) :: (5, .c (.arr 0 x.2 x.1)) :: lz) (fun x => [.arr x.2 73 3 ((A0 (keys.take x.1) row).map Val.d)]) (fun x => keys.length - x.1) ((0, 1)) ?_ ?_ ?_ ?_
 repeat' (first | exact k0 | refine kw ?_ | refine kv ?_ ?_ | omega)
 rintro ⟨i, k⟩ c hi
 dsimp only at hi ⊢
 by_cases hlt : i < keys.length
 ·have hv : keys[i]? = some keys[i] := List.getElem?_eq_getElem hlt
  generalize keys[i] = it at hv
  have hev := Gn it.expr row
  have hs := RG (row := row) hv
  have hv2 : (keys.map Itm.d)[i]? = some it.d := by rw [List.getElem?_map, hv]; rfl
  have hal : ((A0 (keys.take i) row).map Val.d).length = i := by simp [A0]; omega
  generalize (A0 (keys.take i) row).map Val.d = A at hs hal ⊢
  repeat' (first | refine kz ?_ | refine kx hv2 ?_ | refine ki ?_ | refine Aa (hev) ?_ | refine kf ?_ | refine kg ?_ ?_ | fail)
  (apply Ae ((i + 1, c + 1)); all_goals (try dsimp only); all_goals (try (repeat' (first | exact k0 | refine kw ?_ | refine kv ?_ ?_ | omega))))
  all_goals first
    | omega
    | (rw [Ag (by omega)]; exact hs)
 ·obtain rfl : i = keys.length := by omega
  rw [Ag (Nat.le_refl _)]
  repeat' (first | refine kz ?_ | refine ki ?_ | refine kf ?_ | refine kg ?_ ?_ | fail)
  all_goals first
    | (rw [Ag (by rw [List.length_map, D0]; omega)]; rfl)
    | rfl
    | (rw [List.length_map, D0]; omega)
def WA (l : List (List Val)) : Dat := .sl (l.map fun r => [AU r])
theorem RH (b : List Entry) (keys : List Itm) (hb : b.length ≤ 1000) (hk : keys.length ≤ 16) : PCall Tryz.prog 102 [.one (Ap b), .one (IU keys)] (.v (.one (WA (DY b (A0 keys))))) := by
 have hno := Eq (b.map fun e => ⟨A0 keys e.row, 1⟩) (by rw [List.length_map]; omega)
 have hok : ∀ e ∈ b.map fun e : Entry => (⟨A0 keys e.row, 1⟩ : Entry), AQ e.row = true ∧ -3 ≤ e.count ∧ e.count ≤ 3 := fun e he => by
  obtain ⟨x, _, rfl⟩ := List.mem_map.1 he
  refine ⟨?_, by dsimp only; omega, by dsimp only; omega⟩
  simp only [AQ, Bool.and_eq_true, decide_eq_true_eq, List.all_eq_true]
  refine ⟨by rw [D0]; exact hk, fun v hv => ?_⟩
  obtain ⟨it, _, rfl⟩ := List.mem_map.1 hv
  exact Gk ..
 have hz := Ke hok (by rw [List.length_map]; exact hb)
 have hg := HY hz.1
 rw [hz.1, hg.1] at hno
 have hlen := hz.2.2.2
 rw [hg.1, List.length_map] at hlen
 unfold DY
 generalize sortE (b.map fun e => ⟨A0 keys e.row, 1⟩) = S at hno hlen
 clear hz hg hok
 refine Ac hT Tryz.func102 Tryz.ntmps102 [.tmp 4] fun B => ?_
 repeat' (first | refine kz ?_ | refine ki ?_ | refine kf ?_ | refine kg ?_ ?_ | fail)
 refine BA 5 56 2 ?_
 refine AO (X := Nat × Nat) [5, 6, 9, 10, 11, 12, 13, 14, 15, 16, 17, 18, 19, 20, 21, 22, 23, 24, 25] (fun x => x.1 ≤ b.length) (fun x lz => (6, (.c (.d (.lit (.int .i64 x.1))))) :: (5, .c (.arr 0 x.2 x.1)) :: lz) (fun x => [.arr x.2 56 2 (((b.take x.1).map fun e => (⟨A0 keys e.row, 1⟩ : Entry)).map Entry.d)]) (fun x => b.length - x.1) ((0, 1)) ?_ ?_ ?_ ?_
 repeat' (first | exact k0 | refine kw ?_ | refine kv ?_ ?_ | omega)
 rintro ⟨i, k⟩ c hi
 dsimp only at hi ⊢
 by_cases hlt : i < b.length
 ·have hv : b[i]? = some b[i] := List.getElem?_eq_getElem hlt
  generalize b[i] = e at hv
  have hke := Ob keys e.row (by omega)
  have hv2 : (b.map Entry.d)[i]? = some e.d := by rw [List.getElem?_map, hv]; rfl
  have hs : ((b.take i).map fun e => (⟨A0 keys e.row, 1⟩ : Entry)).map Entry.d ++ [[AU (A0 keys e.row), .lit (.int .i64 1)]] = ((b.take (i + 1)).map fun e => (⟨A0 keys e.row, 1⟩ : Entry)).map Entry.d := by
    rw [A9 hv]; simp [Entry.d]
  have hal : (((b.take i).map fun e => (⟨A0 keys e.row, 1⟩ : Entry)).map Entry.d).length = i := by simp; omega
  generalize ((b.take i).map fun e => (⟨A0 keys e.row, 1⟩ : Entry)).map Entry.d = A at hs hal ⊢
  repeat' (first | refine kz ?_ | refine kx hv2 ?_ | refine ki ?_ | refine Aa (hke) ?_ | refine kf ?_ | refine kg ?_ ?_ | fail)
  (apply Ae ((i + 1, c + 1)); all_goals (try dsimp only); all_goals (try (repeat' (first | exact k0 | refine kw ?_ | refine kv ?_ ?_ | omega))))
  all_goals first
    | omega
    | (rw [Ag (by omega)]; exact hs)
 ·obtain rfl : i = b.length := by omega
  rw [Ag (Nat.le_refl _)]
  refine Aw (r := 0) (m := b.length) (es := (b.map fun e => (⟨A0 keys e.row, 1⟩ : Entry)).map Entry.d) 5 ?_ (hl := by simp) (hes := Ag (by simp))
  repeat' (first | refine kz ?_ | refine ki ?_ | refine Aa (hno) ?_ | refine kf ?_ | refine kg ?_ ?_ | fail)
  refine BA 7 54 1 ?_
  refine AO (X := Nat × Nat) [7, 8, 31, 32, 33, 34, 35, 36, 37, 38, 39, 40, 41, 42, 43, 44] (fun x => x.1 ≤ S.length) (fun x lz => (8, (.c (.d (.lit (.int .i64 x.1))))) :: (7, .c (.arr 1 x.2 x.1)) :: lz) (fun x => [.dead, .arr x.2 54 1 ((S.take x.1).map fun e => [AU e.row])]) (fun x => S.length - x.1) ((0, c + 1)) ?_ ?_ ?_ ?_
  repeat' (first | exact k0 | refine kw ?_ | refine kv ?_ ?_ | omega)
  rintro ⟨j, k2⟩ c2 hj
  dsimp only at hj ⊢
  by_cases hjl : j < S.length
  · have hw : S[j]? = some S[j] := List.getElem?_eq_getElem hjl
    generalize S[j] = e at hw
    have hw2 : (S.map Entry.d)[j]? = some e.d := by rw [List.getElem?_map, hw]; rfl
    have hs : ((S.take j).map fun e => [AU e.row]) ++ [[AU e.row]] = (S.take (j + 1)).map fun e => [AU e.row] := by
      rw [A9 hw]; simp
    have hal : ((S.take j).map fun e => [AU e.row]).length = j := by simp; omega
    generalize (S.take j).map (fun e => [AU e.row]) = A at hs hal ⊢
    repeat' (first | refine kz ?_ | refine kx hw2 ?_ | refine ki ?_ | refine kf ?_ | refine kg ?_ ?_ | fail)
    (apply Ae ((j + 1, c2 + 1)); all_goals (try dsimp only); all_goals (try (repeat' (first | exact k0 | refine kw ?_ | refine kv ?_ ?_ | omega))))
    all_goals first
      | omega
      | (rw [Ag (by omega)]; exact hs)
  · obtain rfl : j = S.length := by omega
    rw [Ag (Nat.le_refl _)]
    repeat' (first | refine kz ?_ | refine ki ?_ | refine kf ?_ | refine kg ?_ ?_ | fail)
    all_goals first
      | (rw [Ag (by simp)]; unfold WA; rw [List.map_map]; rfl)
      | rfl
      | (simp; done)
def HI (x : Entry) : List Entry → List Entry
 | [] => [x]
 | o :: l => if Ak o.row x.row < 0 then o :: HI x l else x :: o :: l
def Y4 (x o : Entry) : Bool := decide (Ak o.row x.row < 0)
theorem L8 (x : Entry) : ∀ (l : List Entry) (n : Nat), n ≤ l.length → (l.take n).all (Y4 x) = true → (∀ o, l[n]? = some o → ¬ Ak o.row x.row < 0) → HI x l = l.take n ++ x :: l.drop n
 | [], n, _, _, _ => by simp [HI]
 | o :: l, 0, _, _, h => by
   rw [HI, if_neg (h o rfl)]; rfl
 | o :: l, n + 1, hn, ha, h => by
   simp only [List.take_succ_cons, List.all_cons, Bool.and_eq_true, Y4, decide_eq_true_eq] at ha
   rw [HI, if_pos ha.1, L8 x l n (by simpa using hn) ha.2 (fun o ho => h o (by simpa using ho))]; rfl
theorem Io (x : Entry) : ∀ l : List Entry, (HI x l).Perm (x :: l)
 | [] => .refl _
 | o :: l => by
   rw [HI]
   split
   ·exact ((Io x l).cons o).trans (.swap x o l)
   ·exact .refl _
def UA (a b : Entry) : Prop := ¬ Ak b.row a.row < 0
theorem XS {a b c : Entry} (h1 : UA a b) (h2 : UA b c) : UA a c := fun h => by
 have e1 := rowCmp_ok.anti a.row c.row
 have e2 := rowCmp_ok.anti b.row c.row
 have e3 := rowCmp_ok.anti a.row b.row
 unfold UA at h1 h2
 by_cases z : Ak b.row c.row = 0
 ·exact h1 (rowCmp_ok.left ((rowCmp_ok.zero _ _).1 z).symm h)
 ·exact h1 (rowCmp_ok.trans _ _ _ (by omega) h)
theorem Qt (x : Entry) : ∀ l : List Entry, l.Pairwise UA → (HI x l).Pairwise UA
 | [], _ => List.pairwise_singleton ..
 | o :: l, h => by
   obtain ⟨h1, h2⟩ := List.pairwise_cons.1 h
   rw [HI]
   split
   ·rename_i hlt
    refine List.pairwise_cons.2 ⟨fun y hy => ?_, Qt x l h2⟩
    rcases List.mem_cons.1 ((Io x l).mem_iff.1 hy) with rfl | hy
    ·unfold UA
     have := rowCmp_ok.anti o.row y.row; omega
    ·exact h1 y hy
   ·rename_i hlt
    refine List.pairwise_cons.2 ⟨fun y hy => ?_, h⟩
    rcases List.mem_cons.1 hy with rfl | hy
    ·exact hlt
    ·exact XS hlt (h1 y hy)
def Ec (p : Entry → Bool) (f : Entry → Entry) (b : List Entry) : List Entry := b.foldl (fun o e => if p e = true then HI (f e) o else o) []
theorem RI {p : Entry → Bool} {f : Entry → Entry} {b : List Entry} {i : Nat} {e : Entry} (h : b[i]? = some e) : Ec p f (b.take (i + 1)) = if p e = true then HI (f e) (Ec p f (b.take i)) else Ec p f (b.take i) := by
 unfold Ec
 rw [A9 h, List.foldl_append]; rfl
theorem J5 (p : Entry → Bool) (f : Entry → Entry) : ∀ (b o : List Entry), o.Pairwise UA → (b.foldl (fun o e => if p e = true then HI (f e) o else o) o).Pairwise UA ∧ (b.foldl (fun o e => if p e = true then HI (f e) o else o) o).Perm (o ++ (b.filter p).map f)
 | [], o, h => ⟨h, by simp⟩
 | e :: b, o, h => by
   rw [List.foldl_cons]
   by_cases hp : p e = true
   ·rw [if_pos hp]
    obtain ⟨h1, h2⟩ := J5 p f b (HI (f e) o) (Qt _ _ h)
    refine ⟨h1, h2.trans ?_⟩
    rw [List.filter_cons_of_pos hp, List.map_cons]
    refine ((Io (f e) o).append_right _).trans ?_
    rw [List.cons_append]
    exact (List.perm_middle).symm
   ·rw [if_neg hp]
    obtain ⟨h1, h2⟩ := J5 p f b o h
    refine ⟨h1, ?_⟩
    rw [List.filter_cons_of_neg hp]; exact h2
theorem Ip (p : Entry → Bool) (f : Entry → Entry) (b : List Entry) : (Ec p f b).Pairwise UA ∧ (Ec p f b).Perm ((b.filter p).map f) := by
 have h := J5 p f b [] .nil
 rw [List.nil_append] at h
 exact h
theorem Uj (p : Entry → Bool) (f : Entry → Entry) (b : List Entry) : (Ec p f b).length ≤ b.length := by
 rw [(Ip p f b).2.length_eq, List.length_map]; exact List.length_filter_le _ _
theorem Qu {A B : List Entry} {X : Entry} {m n : Nat} (hA : (A.map Entry.d).length = m) (hn : m + 1 + (B.map Entry.d).length = n) : List.take n (List.take (m + 1) (List.take (A.map Entry.d).length (A.map Entry.d) ++ [X.d]) ++ B.map Entry.d) = (A ++ X :: B).map Entry.d := by
 have h1 : (A.map Entry.d ++ [X.d]).length = m + 1 := by rw [List.length_append, hA]; rfl
 rw [List.take_length, List.take_of_length_le (Nat.le_of_eq h1), List.take_of_length_le (by rw [List.length_append, h1]; omega), List.map_append, List.map_cons, List.append_assoc]; rfl
def kP (keys : List Itm) (key : List Val) (e : Entry) : Bool := BH (A0 keys e.row) key
def J6 (ex : List Trm) (e : Entry) : Entry := ⟨[Ek ex e.row], e.count⟩
theorem RJ (b : List Entry) (keys : List Itm) (key : List Val) (ex : List Trm) (hb : b.length ≤ 1000) (hk : keys.length ≤ 16) : PCall Tryz.prog 138 [.one (Ap b), .one (IU keys), .one (AU key), .one (AK ex)] (.v (.one (Ap (Ec (kP keys key) (J6 ex) b)))) := by
 refine Ac hT Tryz.func138 Tryz.ntmps138 [.tmp 8] fun B => ?_
 repeat' (first | refine kz ?_ | refine ki ?_ | refine kf ?_ | fail)
 refine AO (X := Nat) [9, 10, 11, 12, 13, 14, 15, 16, 17, 18, 19, 20, 21, 22, 23, 24, 25, 26, 27, 28, 29, 30, 31, 32, 33, 34, 35, 36, 37, 38, 39, 40, 41, 42, 43, 44, 45, 46, 47, 48, 49, 50, 51, 52, 53, 54, 55, 56, 57, 58, 59, 60, 61, 62, 63, 64, 65, 66, 67, 68, 69, 70, 71] (fun x => x ≤ b.length) (fun x lz => (10, (.c (.d (.lit (.int .i64 x))))) :: (9, .c (.d (Ap (Ec (kP keys key) (J6 ex) (b.take x))))) :: lz) (fun x => []) (fun x => b.length - x) (0) ?_ ?_ ?_ ?_
 repeat' (first | exact k0 | refine kw ?_ | refine kv ?_ ?_ | omega)
 all_goals try rfl
 rintro i c hi
 by_cases hlt : i < b.length
 ·have hv : b[i]? = some b[i] := List.getElem?_eq_getElem hlt
  generalize b[i] = e at hv
  have hke := Ob keys e.row (by omega)
  have hsm := Oe (A0 keys e.row) key
  have hev := Gn ex e.row
  have hv2 : (b.map Entry.d)[i]? = some e.d := by rw [List.getElem?_map, hv]; rfl
  have hs := RI (p := kP keys key) (f := J6 ex) hv
  have hol : (Ec (kP keys key) (J6 ex) (b.take i)).length ≤ 1000 := Nat.le_trans (Uj ..) (by simp; omega)
  generalize Ec (kP keys key) (J6 ex) (b.take i) = O at hs hol ⊢
  cases hp : kP keys key e with
  | false =>
    rw [hp, if_neg (by decide)] at hs
    unfold kP at hp
    rw [hp] at hsm
    repeat' (first | refine kz ?_ | refine kx hv2 ?_ | refine ki ?_ | refine Aa (hke) ?_ | refine Aa (hsm) ?_ | refine kf ?_ | fail)
    (apply Ae (i + 1); all_goals (try dsimp only); all_goals (try (repeat' (first | exact k0 | refine kw ?_ | refine kv ?_ ?_ | omega))))
    all_goals rw [hs]
  | true =>
    rw [hp, if_pos rfl] at hs
    unfold kP at hp
    rw [hp] at hsm
    have hX : (J6 ex e).d = [AU [Ek ex e.row], .lit (.int .i64 e.count)] := rfl
    have hXr : (J6 ex e).row = [Ek ex e.row] := rfl
    generalize J6 ex e = X at hs hX hXr
    repeat' (first | refine kz ?_ | refine kx hv2 ?_ | refine ki ?_ | refine Aa (hke) ?_ | refine Aa (hsm) ?_ | refine Aa (hev) ?_ | refine kf ?_ | fail)
    refine AO (X := Nat) [12, 43, 44, 45, 46, 47, 48, 49, 50, 51, 52, 53, 54, 55, 56, 57, 58, 59] (fun x => x ≤ O.length ∧ (O.take x).all (Y4 X) = true) (fun x lz => (12, (.c (.d (.lit (.int .i64 x))))) :: lz) (fun x => [.box (c + 1) (X.d.map .d)]) (fun x => O.length - x) (0) ?_ ?_ ?_ ?_
    repeat' (first | exact k0 | refine kw ?_ | refine kv ?_ ?_ | omega)
    all_goals try (rw [hX]; rfl)
    · exact ⟨by simp, by simp⟩
    rintro m c2 ⟨hm, hinv⟩
    by_cases hml : m < O.length
    · have hw : O[m]? = some O[m] := List.getElem?_eq_getElem hml
      generalize O[m] = o at hw
      have hw2 : (O.map Entry.d)[m]? = some o.d := by rw [List.getElem?_map, hw]; rfl
      have hcm := Bb o.row [Ek ex e.row]
      rw [← hXr] at hcm
      by_cases hc : Ak o.row X.row < 0
      · repeat' (first | refine kz ?_ | refine kx hw2 ?_ | refine ki ?_ | refine Aa (hcm) ?_ | refine kf ?_ | fail)
        (apply Ae (m + 1); all_goals (try dsimp only); all_goals (try (repeat' (first | exact k0 | refine kw ?_ | refine kv ?_ ?_ | omega))))
        all_goals exact ⟨by omega, Cw (Y4 X) hw hinv (by simpa [Y4] using hc)⟩
      · have hat := L8 X O m hm hinv (fun o' ho' => by rw [hw] at ho'; injection ho' with ho'; rw [← ho']; exact hc)
        rw [← hs] at hat
        generalize hgen : Ec (kP keys key) (J6 ex) (b.take (i + 1)) = O2 at hat
        refine BF 1 ?_
        refine G0 ?_
        refine G0 ?_
        have hO2 : O2.length = O.length + 1 := by rw [hat]; simp; omega
        have hA : ((O.take m).map Entry.d).length = m := by simp; omega
        have hB : ((O.drop m).map Entry.d).length = O.length - m := by simp
        have hfr := Qu (X := X) hA (show m + 1 + ((O.drop m).map Entry.d).length = O.length + 1 by omega)
        rw [← hat] at hfr
        repeat' (first | refine Tz (dr := true) (ei := HN) 1 ?_ ?_ ?_ ?_ | (refine Ig (dr := true) (ei := HN) (k := c2 + 1) 1 (c2 + 2) (m := m + 1) ?_ (by omega) (by omega) ?_ ?_ (by simp only [maxLen]; omega) (by simp only [HN]; omega) ?_ rfl) | (refine Ig (dr := true) (ei := HN) (k := c2 + 2) 1 (c2 + 3) (m := O.length + 1) ?_ (by omega) (by omega) ?_ ?_ (by simp only [maxLen]; omega) (by simp only [HN]; omega) ?_ rfl) | refine CV (dr := true) ?_ | refine Aw (r := 1) (k := c2 + 3) (m := O.length + 1) (es1 := O2.map Entry.d) 9 ?_ (hl := ?_) (hes := hfr) | refine kz ?_ | refine kx hw2 ?_ | refine ki ?_ | refine Aa (hcm) ?_ | refine LQ ?_ | refine Gw ?_ | refine A4 Af ?_ | refine Bo ?_)
        all_goals first
          | exact EL (fun _ => rfl)
          | exact AF rfl A1
          | (simp only [maxLen]; omega)
          | (simp only [HN]; omega)
          | (simp only [List.length_take, List.length_append, List.length_cons, List.length_nil]; omega)
          | skip
        (apply Ae (i + 1); all_goals (try dsimp only); all_goals (try (repeat' (first | exact k0 | refine kw ?_ | refine kv ?_ ?_ | omega))))
        all_goals (rw [hgen]; rfl)
    · have hat := L8 X O m hm hinv (fun o' ho' => by have := lt_of_getElem? ho'; omega)
      rw [← hs] at hat
      generalize hgen : Ec (kP keys key) (J6 ex) (b.take (i + 1)) = O2 at hat
      refine BF 1 ?_
      refine G0 ?_
      refine G0 ?_
      have hO2 : O2.length = O.length + 1 := by rw [hat]; simp; omega
      have hA : ((O.take m).map Entry.d).length = m := by simp; omega
      have hB : ((O.drop m).map Entry.d).length = O.length - m := by simp
      have hfr := Qu (X := X) hA (show m + 1 + ((O.drop m).map Entry.d).length = O.length + 1 by omega)
      rw [← hat] at hfr
      repeat' (first | refine Tz (dr := true) (ei := HN) 1 ?_ ?_ ?_ ?_ | (refine Ig (dr := true) (ei := HN) (k := c2 + 1) 1 (c2 + 2) (m := m + 1) ?_ (by omega) (by omega) ?_ ?_ (by simp only [maxLen]; omega) (by simp only [HN]; omega) ?_ rfl) | (refine Ig (dr := true) (ei := HN) (k := c2 + 2) 1 (c2 + 3) (m := O.length + 1) ?_ (by omega) (by omega) ?_ ?_ (by simp only [maxLen]; omega) (by simp only [HN]; omega) ?_ rfl) | refine CV (dr := true) ?_ | refine Aw (r := 1) (k := c2 + 3) (m := O.length + 1) (es1 := O2.map Entry.d) 9 ?_ (hl := ?_) (hes := hfr) | refine kz ?_ | refine ki ?_ | refine LQ ?_ | refine Gw ?_ | refine A4 Af ?_ | refine Bo ?_)
      all_goals first
        | exact EL (fun _ => rfl)
        | exact AF rfl A1
        | (simp only [maxLen]; omega)
        | (simp only [HN]; omega)
        | (simp only [List.length_take, List.length_append, List.length_cons, List.length_nil]; omega)
        | skip
      (apply Ae (i + 1); all_goals (try dsimp only); all_goals (try (repeat' (first | exact k0 | refine kw ?_ | refine kv ?_ ?_ | omega))))
      all_goals (rw [hgen]; rfl)
 ·rw [Ag (show b.length ≤ i by omega)]
  repeat' (first | refine kz ?_ | refine ki ?_ | refine kf ?_ | fail)
  all_goals rfl
def PK (l : List Int) : Dat := .sl (l.map fun n => [.lit (.int .i64 n)])
structure Sta where
 key : List Val
 count : Int
 sums : List Int
 some : List Int
def Sta.d (s : Sta) : List Dat := [AU s.key, .lit (.int .i64 s.count), PK s.sums, PK s.some]
def Sta.x (s : Sta) : List Dat := [EG s.key, .lit (.int .i64 s.count), PK s.sums, PK s.some]
def aj (l : List Sta) : Dat := .sl (l.map Sta.d)
def Sta.zero (s : Sta) : Bool := decide (s.count = 0) && !(s.sums.any fun n => decide (n ≠ 0)) && !(s.some.any fun n => decide (n ≠ 0))
def W8 (l : List Agg) : Bool := l.all fun x => decide (x.func = 0 ∨ x.func = 1)
def ak (es : List Entry) (x : Agg) : Int := if x.func = 1 then FL (Cj x es) else 0
def ao (es : List Entry) (x : Agg) : Int := if x.func = 1 then FA (Cj x es) else 0
def nE (es : List Entry) : Int := (es.map Entry.count).sum
def aq (ag : List Agg) (g : List Val × List Entry) : Sta := ⟨g.1, nE g.2, ag.map (ak g.2), ag.map (ao g.2)⟩
def ar (f : Agg → Int) (ag : List Agg) (k : Nat) : List (List Dat) := ((ag.take k).map fun x => [Dat.lit (.int .i64 (f x))]) ++ List.replicate (ag.length - k) [Dat.lit (.int .i64 0)]
def au (s : Sta) : Bool := !s.zero
def ZH (b : List Entry) (keys : List Itm) (ag : List Agg) : List Sta × Int :=
 if Al b = true ∧ keys.length + ag.length ≤ 8 ∧ W8 ag = true then (((Hi b (A0 keys)).map (aq ag)).filter au, 0) else ([], 1)
end Go.Proofs.YtmpgmjlanngkfaaGreat
end
section
namespace Go.Proofs.YtmpgmjlanngkfaaGreat
open Go.Abs Go.RowKit
set_option linter.unusedSimpArgs false
set_option maxRecDepth 100000
theorem J7 {L L' : List (Val × Int)} (h : L.Perm L') : C4 L = C4 L' := DZ h
theorem RL {L L' : List (Val × Int)} (h : L.Perm L') : FL L = FL L' := DZ h
theorem RM {L L' : List (Val × Int)} (h : L.Perm L') : FA L = FA L' := DZ h
theorem J8 {L L' : List (Val × Int)} (h : L.Perm L') : (BW L).Perm (BW L') := h.filter _
theorem Fh {L L' : List (Val × Int)} (h : L.Perm L') (hp : Dx L) (hc : RF L) {i : Int} (h0 : 0 ≤ i) (h1 : i < C4 (BW L)) : B4 (ascE L) i = B4 (ascE L') i := by
 have hpm : (ascE L).Perm (ascE L') := (B8 L).trans ((J8 h).trans (B8 L').symm)
 refine My (Jp L) (Jp L') (fun x hx => hp x (List.mem_filter.1 ((B8 L).mem_iff.1 hx)).1) hpm (fun x hx => hc x (List.mem_filter.1 ((B8 L).mem_iff.1 hx)).1) h0 ?_
 rw [J7 (B8 L)]; exact h1
theorem Pt {L L' : List (Val × Int)} (h : L.Perm L') (hp : Dx L) (hc : RF L) (f : Int) : foldE f L = foldE f L' := by
 have hP : Dx (BW L) := fun x hx => hp x (List.mem_filter.1 hx).1
 have e1 := J7 h
 have e2 := RM h
 have e3 := RL h
 have e4 := J7 (J8 h)
 have e5 : BW L = [] ↔ BW L' = [] := by
  have := (J8 h).length_eq
  rw [← List.length_eq_zero_iff, ← List.length_eq_zero_iff, this]
 unfold foldE
 rw [← e1, ← e2, ← e3, ← e4]
 by_cases hn : BW L = []
 ·have hn' := e5.1 hn
  rw [if_pos hn, if_pos hn, if_pos hn, if_pos hn', if_pos hn', if_pos hn']
 ·have hn' : ¬ BW L' = [] := fun q => hn (e5.2 q)
  have hpos := Hk hP hn
  rw [if_neg hn, if_neg hn, if_neg hn, if_neg hn', if_neg hn', if_neg hn', Fh h hp hc (i := 0) (by omega) (by omega), Fh h hp hc (i := C4 (BW L) - 1) (by omega) (by omega), Fh h hp hc (i := (C4 (BW L) - 1) / 2) (by omega) (by omega)]
theorem Pu {L L' : List (Val × Int)} (h : C4 L = C4 L') : foldE 0 L = foldE 0 L' := by
 unfold foldE; rw [if_pos rfl, if_pos rfl, h]
def WB (ex : List Trm) (e : Entry) : Val × Int := (Ek ex e.row, e.count)
theorem XT (ex : List Trm) (l : List Entry) : CX (l.map (J6 ex)) = l.map (WB ex) := by
 unfold CX; rw [List.map_map]; rfl
theorem Uk (p : Entry → Bool) (ex : List Trm) (b : List Entry) : (CX (Ec p (J6 ex) b)).Perm ((b.filter p).map (WB ex)) := by
 rw [← XT]; exact (Ip p (J6 ex) b).2.map _
theorem XU {keys : List Itm} {b : List Entry} {key : List Val} (hc : AI key) : b.filter (kP keys key) = b.filter (OP (A0 keys) key) := by
 refine List.filter_congr fun e he => ?_
 have h1 := Gb (b := b) (kf := A0 keys) (fun e _ => Cz keys e.row) he hc
 rw [Bool.eq_iff_iff, h1]
 exact Pw
theorem Lh (ex : List Trm) (e : Entry) : (WB ex e).1.valid = true := Gk ..
theorem XV {ex : List Trm} {es : List Entry} (hl : es.length ≤ 4096) (hc : ∀ e ∈ es, -262144 ≤ e.count ∧ e.count ≤ 262144) : Ls (es.map (WB ex)) := by
 refine ⟨by rw [List.length_map]; exact hl, fun y hy => ?_⟩
 obtain ⟨e, he, rfl⟩ := List.mem_map.1 hy
 exact ⟨Kz (Lh ex e), hc e he⟩
theorem XW {ex : List Trm} {es : List Entry} (hc : ∀ e ∈ es, 0 < e.count) : Dx (es.map (WB ex)) := fun y hy => by
 obtain ⟨e, he, rfl⟩ := List.mem_map.1 hy
 exact hc e he
theorem XX (ex : List Trm) (es : List Entry) : RF (es.map (WB ex)) := fun y hy => by
 obtain ⟨e, he, rfl⟩ := List.mem_map.1 hy
 unfold Val.clean
 rw [if_pos (Lh ex e)]
theorem Ul {L L' : List (Val × Int)} (h : L.Perm L') (hb : Ls L') : Ls L := ⟨by rw [h.length_eq]; exact hb.1, fun x hx => hb.2 x (h.mem_iff.1 hx)⟩
theorem Um (p : Entry → Bool) (ex : List Trm) (b : List Entry) : Lx (CX (Ec p (J6 ex) b)) := by
 obtain ⟨h1, h2⟩ := Ip p (J6 ex) b
 unfold Lx CX
 rw [List.pairwise_map]
 refine List.Pairwise.imp_of_mem (fun {x y} hx hy h => ?_) h1
 obtain ⟨a, _, rfl⟩ := List.mem_map.1 (h2.mem_iff.1 hx)
 obtain ⟨c, _, rfl⟩ := List.mem_map.1 (h2.mem_iff.1 hy)
 intro q
 refine h ?_
 have q : (Ek ex c.row).cmp (Ek ex a.row) < 0 := q
 show Ak [Ek ex c.row] [Ek ex a.row] < 0
 rw [Ak]
 split <;> first | exact q | (exfalso; omega)
theorem Od {keys : List Itm} {b : List Entry} {key : List Val} (hc : AI key) (hl : b.length ≤ 4096) (hb : ∀ e ∈ b, -262144 ≤ e.count ∧ e.count ≤ 262144) (ex : List Trm) :
  Ls (CX (Ec (kP keys key) (J6 ex) b)) ∧ Lx (CX (Ec (kP keys key) (J6 ex) b)) ∧ RF (CX (Ec (kP keys key) (J6 ex) b)) ∧ (CX (Ec (kP keys key) (J6 ex) b)).Perm ((b.filter (OP (A0 keys) key)).map (WB ex)) := by
 have h := Uk (kP keys key) ex b
 rw [XU hc] at h
 refine ⟨Ul h (XV (Nat.le_trans (List.length_filter_le _ _) hl) fun e he => hb e (List.mem_filter.1 he).1), Um .., fun x hx => XX ex _ x (h.mem_iff.1 hx), h⟩
theorem Un {keys : List Itm} {b : List Entry} {key : List Val} (hc : AI key) (hl : b.length ≤ 4096) (hb : ∀ e ∈ b, -262144 ≤ e.count ∧ e.count ≤ 262144) (hp : ∀ e ∈ b, 0 < e.count) (x : Agg) :
  Dx (CX (Ec (kP keys key) (J6 x.expr) b)) ∧ foldE x.func (CX (Ec (kP keys key) (J6 x.expr) b)) = foldE x.func (Cj x (b.filter (OP (A0 keys) key))) := by
 obtain ⟨h1, h2, h3, h4⟩ := Od (keys := keys) hc hl hb x.expr
 have hP : Dx (CX (Ec (kP keys key) (J6 x.expr) b)) := fun y hy => XW (ex := x.expr) (fun e he => hp e (List.mem_filter.1 he).1) y (h4.mem_iff.1 hy)
 refine ⟨hP, ?_⟩
 rw [Pt h4 hP h3]
 by_cases hf : x.func = 0
 ·rw [hf]
  refine Pu ?_
  unfold C4 Cj
  rw [List.map_map, List.map_map]; rfl
 ·congr 1
  unfold Cj
  refine List.map_congr_left fun e _ => ?_
  unfold UK WB
  rw [if_neg hf]
end Go.Proofs.YtmpgmjlanngkfaaGreat
end
section
namespace Go.Proofs.YtmpgmjlanngkfaaGreat
open Go.Abs Go.RowKit
attribute [local irreducible] ARun At MCall PCall HCall Am SF CF CFs Ah Aj Ar fin AW VLe
set_option linter.unusedSimpArgs false
set_option maxRecDepth 100000
set_option maxHeartbeats 4000000
noncomputable def grE (ag : List Agg) (keys : List Itm) (b : List Entry) (k : List Val) : Entry := ⟨grpRow ag (k, b.filter (OP (A0 keys) k)), 1⟩
theorem Oc {b : List Entry} {keys : List Itm} {ag : List Agg} (h : AG b = true ∧ keys.length + ag.length ≤ 8) : groupE b keys ag = Bl ((DY b (A0 keys)).map (grE ag keys b)) := by
 unfold groupE Hi
 rw [if_pos h, List.map_map]; rfl
theorem RK {b : List Entry} {keys : List Itm} {k : List Val} (h : k ∈ DY b (A0 keys)) : AI k ∧ k.length = keys.length := by
 have hK : DX b (A0 keys) := fun e _ => Cz keys e.row
 obtain ⟨_, h2, h3⟩ := HV hK
 refine ⟨h2 k h, ?_⟩
 obtain ⟨e, _, rfl⟩ := (h3 k).1 h
 exact D0 ..
theorem Ps (b : List Entry) (keys : List Itm) (ag : List Agg) (hbl0 : b.length ≤ 1000) (hkl : keys.length ≤ 10000) (hal : ag.length ≤ 10000) : PCall Tryz.prog 83 [.one (Ap b), .one (IU keys), .one (QD ag)] (.tup [.one (Ap (groupE b keys ag).1), .one (.lit (.int .i64 (groupE b keys ag).2))]) := by
 have hp := EC b
 by_cases hc : AG b = true ∧ keys.length + ag.length ≤ 8
 ·obtain ⟨hb1, hb2⟩ := hc
  obtain ⟨hbv, hbp⟩ := PJ hb1
  obtain ⟨hbl, hbm⟩ := AZ hbv
  rw [Oc ⟨hb1, hb2⟩]
  rw [hb1] at hp
  have hg := RH b keys hbl0 (by omega)
  have hgl := Ky b _ (fun e _ => Cz keys e.row)
  have hno := Eq ((DY b (A0 keys)).map (grE ag keys b)) (by rw [List.length_map]; omega)
  have hgm : ∀ k ∈ DY b (A0 keys), AI k ∧ k.length = keys.length := fun k hk => RK hk
  generalize DY b (A0 keys) = G at hg hgl hno hgm ⊢
  generalize Bl (G.map (grE ag keys b)) = R at hno ⊢
  refine Ac hT Tryz.func83 Tryz.ntmps83 [.tmp 6, .tmp 7] fun B => ?_
  repeat' (first | refine kz ?_ | refine ki ?_ | refine Aa (hp) ?_ | refine Aa (hg) ?_ | refine kg ?_ ?_ | refine kf ?_ | fail)
  refine BA 8 56 2 ?_
  refine AO (X := Nat × Nat) [8, 10, 11, 12, 27, 28, 29, 30, 31, 32, 33, 34, 35, 36, 37, 38, 39, 40, 41, 42, 43, 44, 45, 46, 47, 48, 49, 50, 51, 52, 53, 54, 55, 56, 57, 58, 59, 60, 61, 62, 63, 64, 65, 66, 67, 68, 69, 70] (fun x => x.1 ≤ G.length) (fun x lz => (10, (.c (.d (.lit (.int .i64 x.1))))) :: (8, .c (.arr 0 x.2 x.1)) :: lz) (fun x => [.arr x.2 56 2 ((G.take x.1).map fun k => (grE ag keys b k).d)]) (fun x => G.length - x.1) ((0, 1)) ?_ ?_ ?_ ?_
  repeat' (first | exact k0 | refine kw ?_ | refine kv ?_ ?_ | omega)
  rintro ⟨i, v⟩ c0 hi
  dsimp only at hi ⊢
  by_cases hlt : i < G.length
  · have hx : G[i]? = some G[i] := List.getElem?_eq_getElem hlt
    obtain ⟨hkc, hkk⟩ := hgm _ (List.getElem_mem hlt)
    generalize G[i] = key at hx hkc hkk
    have hx2 : (G.map fun r => [AU r])[i]? = some [AU key] := by rw [List.getElem?_map, hx]; rfl
    have hsn : ((G.take i).map fun k => (grE ag keys b k).d) ++ [[AU (grpRow ag (key, b.filter (OP (A0 keys) key))), .lit (.int .i64 1)]] = (G.take (i + 1)).map fun k => (grE ag keys b k).d := by
     rw [A9 hx, List.map_append]; rfl
    have hAl : ((G.take i).map fun k => (grE ag keys b k).d).length = i := by simp; omega
    have hml : (key.map Val.d).length = key.length := by simp
    generalize (G.take i).map (fun k => (grE ag keys b k).d) = A at hsn hAl ⊢
    generalize hgp : (key, b.filter (OP (A0 keys) key)) = g at hsn
    have hg1 : g.1 = key := by rw [← hgp]
    have hg2 : g.2 = b.filter (OP (A0 keys) key) := by rw [← hgp]
    have hr0 : grpRow [] g = key := by rw [GK, hg1]
    repeat' (first | refine kz ?_ | refine kx hx2 ?_ | refine ki ?_ | refine kg ?_ ?_ | refine kf ?_ | fail)
    refine AO (X := Nat × Nat) [11, 12, 39, 40, 41, 42, 43, 44, 45, 46, 47, 48, 49, 50, 51, 52, 53, 54, 55, 56, 57, 58, 59, 60, 61, 62, 63, 64, 65] (fun x => x.1 ≤ ag.length) (fun x lz => (12, (.c (.d (.lit (.int .i64 x.1))))) :: (11, .c (.arr 1 x.2 (key.length + x.1))) :: lz) (fun x => [.arr v 56 2 A, .arr x.2 73 3 ((grpRow (ag.take x.1) g).map Val.d)]) (fun x => ag.length - x.1) ((0, c0 + 1)) ?_ ?_ ?_ ?_
    repeat' (first | exact k0 | refine kw ?_ | refine kv ?_ ?_ | omega)
    all_goals try (rw [List.take_zero, hr0]; done)
    all_goals try (first | rfl | (simp; done))
    rintro ⟨k, r⟩ c1 hk
    dsimp only at hk ⊢
    have hrl : ((grpRow (ag.take k) g).map Val.d).length = key.length + k := by rw [List.length_map, E2, hg1, List.length_take]; omega
    by_cases hkl3 : k < ag.length
    ·have hy : ag[k]? = some ag[k] := List.getElem?_eq_getElem hkl3
     generalize ag[k] = y at hy
     have hy2 : (ag.map Agg.d)[k]? = some y.d := by rw [List.getElem?_map, hy]; rfl
     have hvc := RJ b keys key y.expr hbl0 (by omega)
     obtain ⟨v1, v2, v3, v4⟩ := Od (keys := keys) hkc hbl (fun e he => (hbm e he).2.1) y.expr
     obtain ⟨v5, v6⟩ := Un (keys := keys) hkc hbl (fun e he => (hbm e he).2.1) hbp y
     have hfc := VO y.func _ v1 v5 v2 v3
     rw [v6, ← hg2] at hfc
     have hrs := congrArg (List.map Val.d) (Iz (g := g) hy)
     rw [List.map_append, List.map_singleton] at hrs
     generalize (grpRow (ag.take k) g).map Val.d = Z at hrs hrl ⊢
     generalize foldE y.func (Cj y g.2) = F at hfc hrs
     generalize Ec (kP keys key) (J6 y.expr) b = V at hvc hfc
     clear v1 v2 v3 v4 v5 v6
     repeat' (first | refine kz ?_ | refine kx hx2 ?_ | refine kx hy2 ?_ | refine ki ?_ | refine Aa (hvc) ?_ | refine Aa (hfc) ?_ | refine kg ?_ ?_ | refine kf ?_ | fail)
     (apply Ae ((k + 1, c1 + 1)); all_goals (try dsimp only); all_goals (try (repeat' (first | exact k0 | refine kw ?_ | refine kv ?_ ?_ | omega))))
     all_goals first
       | omega
       | (rw [Ag (by omega)]; exact hrs.symm)
    ·have hke : k = ag.length := by omega
     have hrl2 : ((grpRow ag g).map Val.d).length = key.length + ag.length := by rw [List.length_map, E2, hg1]
     rw [hke, Ag (Nat.le_refl _)]
     refine Aw (r := 1) (m := key.length + ag.length) (es1 := (grpRow ag g).map Val.d) 11 ?_ (hl := by omega) (hes := Ag (by omega))
     repeat' (first | refine kz ?_ | refine ki ?_ | refine kg ?_ ?_ | refine kf ?_ | fail)
     (apply Ae ((i + 1, _)); all_goals (try dsimp only); all_goals (try (repeat' (first | exact k0 | refine w1 ?_ | refine Ab ?_ | refine m1 ?_ ?_ | omega))))
     all_goals (rw [Ag (by omega)]; exact hsn)
  · obtain rfl : i = G.length := by omega
    rw [Ag (Nat.le_refl _)]
    refine Aw (r := 0) (m := G.length) (es1 := (G.map (grE ag keys b)).map Entry.d) 8 ?_ (hl := by simp) (hes := by rw [Ag (by simp), List.map_map]; rfl)
    repeat' (first | refine kz ?_ | refine ki ?_ | refine Aa (hno) ?_ | refine kg ?_ ?_ | refine kf ?_ | fail)
    all_goals rfl
 ·have he : groupE b keys ag = ([], 1) := if_neg hc
  rw [he]
  cases hb : AG b with
  | false =>
    rw [hb] at hp
    refine Ac hT Tryz.func83 Tryz.ntmps83 [.tmp 6, .tmp 7] fun B => ?_
    repeat' (first | refine kz ?_ | refine ki ?_ | refine Aa (hp) ?_ | refine kg ?_ ?_ | refine kf ?_ | fail)
    all_goals rfl
  | true =>
    rw [hb] at hp
    have hk2 : ¬ keys.length + ag.length ≤ 8 := fun h => hc ⟨hb, h⟩
    refine Ac hT Tryz.func83 Tryz.ntmps83 [.tmp 6, .tmp 7] fun B => ?_
    repeat' (first | refine kz ?_ | refine ki ?_ | refine Aa (hp) ?_ | refine kg ?_ ?_ | refine kf ?_ | fail)
    all_goals rfl
end Go.Proofs.YtmpgmjlanngkfaaGreat
end
