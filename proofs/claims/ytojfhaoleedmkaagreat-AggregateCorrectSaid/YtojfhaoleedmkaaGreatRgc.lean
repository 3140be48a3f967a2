/-
  Aggregates, the document's: Key, Keys, values.
-/
import Derived.Test.YtojfhaoleedmkaaGreatRgb
import Derived.Test.YtojfhaoleedmkaaGreatPos
import Derived.Test.YtojfhaoleedmkaaGreatTab
import Derived.Test.YtojfhaoleedmkaaGreatRgw
import Derived.Test.YtojfhaoleedmkaaGreatExm
namespace Go.Proofs.YtojfhaoleedmkaaGreat
open Go.Abs Go.RowKit
attribute [local irreducible] ARun kont MCall PCall HCall resVal SF CF CFs defersOk slotsIn memIn fin finM VLe
set_option linter.unusedSimpArgs false
set_option maxRecDepth 100000
set_option maxHeartbeats 4000000
theorem keyE_snoc {keys : List Itm} {row : List Val} {i : Nat} {x : Itm} (h : keys[i]? = some x) : (keyE (keys.take i) row).map Val.d ++ [(evE x.expr row).d] = (keyE (keys.take (i + 1)) row).map Val.d := by
  rw [take_snoc' h]; simp [keyE]
theorem refKey_c (keys : List Itm) (row : List Val) (hk : keys.length ≤ 10000) : PCall Tryz.prog 27 [.one (itmD keys), .one (rowD row)] (.v (.one (rowD (keyE keys row)))) := by
  refine pcallN hT Tryz.func27 Tryz.ntmps27 [.tmp 4] fun B => ?_
  repeat' (first | refine ks ?_ | refine ko ?_ | refine s_indexD ?_ (hel := (by first | exact rfl)) | refine f_ret1 def_nil ?_ | refine t_tmpA rfl rfl ?_ ?_)
  refine s_own 5 53 3 ?_
  refine s_lp (X := Nat × Nat) [5, 6, 7, 8, 9, 10, 11, 12, 13, 14, 15, 16, 17, 18, 19, 20, 21, 22] (fun x => x.1 ≤ keys.length) (fun x lz => (6, (.c (.d (.lit (.int .i64 x.1))))) :: (5, .c (.arr 0 x.2 x.1)) :: lz) (fun x => [.arr x.2 53 3 ((keyE (keys.take x.1) row).map Val.d)]) (fun x => keys.length - x.1) ((0, 1)) ?_ ?_ ?_ ?_
  repeat' (first | exact slots_nil | refine kw ?_ | exact memIn_nil | refine kv ?_ ?_ | omega)
  rintro ⟨i, k⟩ c hi
  dsimp only at hi ⊢
  by_cases hlt : i < keys.length
  · have hv : keys[i]? = some keys[i] := List.getElem?_eq_getElem hlt
    generalize keys[i] = it at hv
    have hev := refEval_c it.expr row
    have hs := keyE_snoc (row := row) hv
    have hv2 : (keys.map Itm.d)[i]? = some it.d := by rw [List.getElem?_map, hv]; rfl
    have hal : ((keyE (keys.take i) row).map Val.d).length = i := by simp [keyE]; omega
    generalize (keyE (keys.take i) row).map Val.d = A at hs hal ⊢
    repeat' (first | refine ks ?_ | refine ko ?_ | refine s_indexD ?_ (hel := (by first | exact idx_map hv2 (by omega) | exact hv2 | exact rfl)) | refine s_call (hev) ?_ | refine f_ret1 def_nil ?_ | refine t_tmpA rfl rfl ?_ ?_)
    (apply s_round ((i + 1, c + 1)); all_goals (try dsimp only); all_goals (try (repeat' (first | exact slots_nil | refine kw ?_ | exact memIn_nil | refine kv ?_ ?_ | omega))))
    all_goals first
      | omega
      | (rw [take_ge (by omega)]; exact hs)
  · obtain rfl : i = keys.length := by omega
    rw [take_ge (Nat.le_refl _)]
    repeat' (first | refine ks ?_ | refine ko ?_ | refine s_indexD ?_ (hel := (by first | exact rfl)) | refine f_ret1 def_nil ?_ | refine t_tmpA rfl rfl ?_ ?_)
    all_goals first
      | (rw [take_ge (by rw [List.length_map, keyE_len]; omega)]; rfl)
      | rfl
      | (rw [List.length_map, keyE_len]; omega)
def rowsD (l : List (List Val)) : Dat := .sl (l.map fun r => [rowD r])
theorem refKeys_c (b : List Entry) (keys : List Itm) (hb : b.length ≤ 1000) (hk : keys.length ≤ 16) : PCall Tryz.prog 53 [.one (bagD b), .one (itmD keys)] (.v (.one (rowsD (keysE b (keyE keys))))) := by
  have hno := normalize_c (b.map fun e => ⟨keyE keys e.row, 1⟩) (by rw [List.length_map]; omega)
  have hok : ∀ e ∈ b.map fun e : Entry => (⟨keyE keys e.row, 1⟩ : Entry), rowOK e.row = true ∧ -3 ≤ e.count ∧ e.count ≤ 3 := fun e he => by
    obtain ⟨x, _, rfl⟩ := List.mem_map.1 he
    refine ⟨?_, by dsimp only; omega, by dsimp only; omega⟩
    simp only [rowOK, Bool.and_eq_true, decide_eq_true_eq, List.all_eq_true]
    refine ⟨by rw [keyE_len]; exact hk, fun v hv => ?_⟩
    obtain ⟨it, _, rfl⟩ := List.mem_map.1 hv
    exact evE_valid ..
  have hz := norm_small hok (by rw [List.length_map]; exact hb)
  have hg := norm_good hz.1
  rw [hz.1, hg.1] at hno
  have hlen := hz.2.2.2
  rw [hg.1, List.length_map] at hlen
  unfold keysE
  generalize sortE (b.map fun e => ⟨keyE keys e.row, 1⟩) = S at hno hlen
  clear hz hg hok
  refine pcallN hT Tryz.func53 Tryz.ntmps53 [.tmp 4] fun B => ?_
  repeat' (first | refine ks ?_ | refine ko ?_ | refine s_indexD ?_ (hel := (by first | exact rfl)) | refine f_ret1 def_nil ?_ | refine t_tmpA rfl rfl ?_ ?_)
  refine s_own 5 49 2 ?_
  refine s_lp (X := Nat × Nat) [5, 6, 9, 10, 11, 12, 13, 14, 15, 16, 17, 18, 19, 20, 21, 22, 23, 24, 25] (fun x => x.1 ≤ b.length) (fun x lz => (6, (.c (.d (.lit (.int .i64 x.1))))) :: (5, .c (.arr 0 x.2 x.1)) :: lz) (fun x => [.arr x.2 49 2 (((b.take x.1).map fun e => (⟨keyE keys e.row, 1⟩ : Entry)).map Entry.d)]) (fun x => b.length - x.1) ((0, 1)) ?_ ?_ ?_ ?_
  repeat' (first | exact slots_nil | refine kw ?_ | exact memIn_nil | refine kv ?_ ?_ | omega)
  rintro ⟨i, k⟩ c hi
  dsimp only at hi ⊢
  by_cases hlt : i < b.length
  · have hv : b[i]? = some b[i] := List.getElem?_eq_getElem hlt
    generalize b[i] = e at hv
    have hke := refKey_c keys e.row (by omega)
    have hv2 : (b.map Entry.d)[i]? = some e.d := by rw [List.getElem?_map, hv]; rfl
    have hs : ((b.take i).map fun e => (⟨keyE keys e.row, 1⟩ : Entry)).map Entry.d ++ [[rowD (keyE keys e.row), .lit (.int .i64 1)]] = ((b.take (i + 1)).map fun e => (⟨keyE keys e.row, 1⟩ : Entry)).map Entry.d := by
      rw [take_snoc' hv]; simp [Entry.d]
    have hal : (((b.take i).map fun e => (⟨keyE keys e.row, 1⟩ : Entry)).map Entry.d).length = i := by simp; omega
    generalize ((b.take i).map fun e => (⟨keyE keys e.row, 1⟩ : Entry)).map Entry.d = A at hs hal ⊢
    repeat' (first | refine ks ?_ | refine ko ?_ | refine s_indexD ?_ (hel := (by first | exact idx_map hv2 (by omega) | exact hv2 | exact rfl)) | refine s_call (hke) ?_ | refine f_ret1 def_nil ?_ | refine t_tmpA rfl rfl ?_ ?_)
    (apply s_round ((i + 1, c + 1)); all_goals (try dsimp only); all_goals (try (repeat' (first | exact slots_nil | refine kw ?_ | exact memIn_nil | refine kv ?_ ?_ | omega))))
    all_goals first
      | omega
      | (rw [take_ge (by omega)]; exact hs)
  · obtain rfl : i = b.length := by omega
    rw [take_ge (Nat.le_refl _)]
    refine s_freeze (r := 0) (m := b.length) (es := (b.map fun e => (⟨keyE keys e.row, 1⟩ : Entry)).map Entry.d) 5 ?_ (hl := by simp) (hes := take_ge (by simp))
    repeat' (first | refine ks ?_ | refine ko ?_ | refine s_indexD ?_ (hel := (by first | exact rfl)) | refine s_call (hno) ?_ | refine f_ret1 def_nil ?_ | refine t_tmpA rfl rfl ?_ ?_)
    refine s_own 7 47 1 ?_
    refine s_lp (X := Nat × Nat) [7, 8, 31, 32, 33, 34, 35, 36, 37, 38, 39, 40, 41, 42, 43, 44] (fun x => x.1 ≤ S.length) (fun x lz => (8, (.c (.d (.lit (.int .i64 x.1))))) :: (7, .c (.arr 1 x.2 x.1)) :: lz) (fun x => [.dead, .arr x.2 47 1 ((S.take x.1).map fun e => [rowD e.row])]) (fun x => S.length - x.1) ((0, c + 1)) ?_ ?_ ?_ ?_
    repeat' (first | exact slots_nil | refine kw ?_ | exact memIn_nil | refine kv ?_ ?_ | omega)
    rintro ⟨j, k2⟩ c2 hj
    dsimp only at hj ⊢
    by_cases hjl : j < S.length
    · have hw : S[j]? = some S[j] := List.getElem?_eq_getElem hjl
      generalize S[j] = e at hw
      have hw2 : (S.map Entry.d)[j]? = some e.d := by rw [List.getElem?_map, hw]; rfl
      have hs : ((S.take j).map fun e => [rowD e.row]) ++ [[rowD e.row]] = (S.take (j + 1)).map fun e => [rowD e.row] := by
        rw [take_snoc' hw]; simp
      have hal : ((S.take j).map fun e => [rowD e.row]).length = j := by simp; omega
      generalize (S.take j).map (fun e => [rowD e.row]) = A at hs hal ⊢
      repeat' (first | refine ks ?_ | refine ko ?_ | refine s_indexD ?_ (hel := (by first | exact idx_map hw2 (by omega) | exact hw2 | exact rfl)) | refine f_ret1 def_nil ?_ | refine t_tmpA rfl rfl ?_ ?_)
      (apply s_round ((j + 1, c2 + 1)); all_goals (try dsimp only); all_goals (try (repeat' (first | exact slots_nil | refine kw ?_ | exact memIn_nil | refine kv ?_ ?_ | omega))))
      all_goals first
        | omega
        | (rw [take_ge (by omega)]; exact hs)
    · obtain rfl : j = S.length := by omega
      rw [take_ge (Nat.le_refl _)]
      repeat' (first | refine ks ?_ | refine ko ?_ | refine s_indexD ?_ (hel := (by first | exact rfl)) | refine f_ret1 def_nil ?_ | refine t_tmpA rfl rfl ?_ ?_)
      all_goals first
        | (rw [take_ge (by simp)]; unfold rowsD; rw [List.map_map]; rfl)
        | rfl
        | (simp; done)
def insE (x : Entry) : List Entry → List Entry
  | [] => [x]
  | o :: l => if rowCmp o.row x.row < 0 then o :: insE x l else x :: o :: l
def ltX (x o : Entry) : Bool := decide (rowCmp o.row x.row < 0)
theorem insE_at (x : Entry) : ∀ (l : List Entry) (n : Nat), n ≤ l.length → (l.take n).all (ltX x) = true → (∀ o, l[n]? = some o → ¬ rowCmp o.row x.row < 0) → insE x l = l.take n ++ x :: l.drop n
  | [], n, _, _, _ => by simp [insE]
  | o :: l, 0, _, _, h => by
    rw [insE, if_neg (h o rfl)]; rfl
  | o :: l, n + 1, hn, ha, h => by
    simp only [List.take_succ_cons, List.all_cons, Bool.and_eq_true, ltX, decide_eq_true_eq] at ha
    rw [insE, if_pos ha.1, insE_at x l n (by simpa using hn) ha.2 (fun o ho => h o (by simpa using ho))]; rfl
theorem insE_perm (x : Entry) : ∀ l : List Entry, (insE x l).Perm (x :: l)
  | [] => .refl _
  | o :: l => by
    rw [insE]
    split
    · exact ((insE_perm x l).cons o).trans (.swap x o l)
    · exact .refl _
def upR (a b : Entry) : Prop := ¬ rowCmp b.row a.row < 0
theorem upR_tr {a b c : Entry} (h1 : upR a b) (h2 : upR b c) : upR a c := fun h => by
  have e1 := rowCmp_ok.anti a.row c.row
  have e2 := rowCmp_ok.anti b.row c.row
  have e3 := rowCmp_ok.anti a.row b.row
  unfold upR at h1 h2
  by_cases z : rowCmp b.row c.row = 0
  · exact h1 (rowCmp_ok.left ((rowCmp_ok.zero _ _).1 z).symm h)
  · exact h1 (rowCmp_ok.trans _ _ _ (by omega) h)
theorem insE_up (x : Entry) : ∀ l : List Entry, l.Pairwise upR → (insE x l).Pairwise upR
  | [], _ => List.pairwise_singleton ..
  | o :: l, h => by
    obtain ⟨h1, h2⟩ := List.pairwise_cons.1 h
    rw [insE]
    split
    · rename_i hlt
      refine List.pairwise_cons.2 ⟨fun y hy => ?_, insE_up x l h2⟩
      rcases List.mem_cons.1 ((insE_perm x l).mem_iff.1 hy) with rfl | hy
      · unfold upR
        have := rowCmp_ok.anti o.row y.row; omega
      · exact h1 y hy
    · rename_i hlt
      refine List.pairwise_cons.2 ⟨fun y hy => ?_, h⟩
      rcases List.mem_cons.1 hy with rfl | hy
      · exact hlt
      · exact upR_tr hlt (h1 y hy)
def valI (p : Entry → Bool) (f : Entry → Entry) (b : List Entry) : List Entry := b.foldl (fun o e => if p e = true then insE (f e) o else o) []
theorem valI_snoc {p : Entry → Bool} {f : Entry → Entry} {b : List Entry} {i : Nat} {e : Entry} (h : b[i]? = some e) : valI p f (b.take (i + 1)) = if p e = true then insE (f e) (valI p f (b.take i)) else valI p f (b.take i) := by
  unfold valI
  rw [take_snoc' h, List.foldl_append]; rfl
theorem valI_gen (p : Entry → Bool) (f : Entry → Entry) : ∀ (b o : List Entry), o.Pairwise upR → (b.foldl (fun o e => if p e = true then insE (f e) o else o) o).Pairwise upR ∧ (b.foldl (fun o e => if p e = true then insE (f e) o else o) o).Perm (o ++ (b.filter p).map f)
  | [], o, h => ⟨h, by simp⟩
  | e :: b, o, h => by
    rw [List.foldl_cons]
    by_cases hp : p e = true
    · rw [if_pos hp]
      obtain ⟨h1, h2⟩ := valI_gen p f b (insE (f e) o) (insE_up _ _ h)
      refine ⟨h1, h2.trans ?_⟩
      rw [List.filter_cons_of_pos hp, List.map_cons]
      refine ((insE_perm (f e) o).append_right _).trans ?_
      rw [List.cons_append]
      exact (List.perm_middle).symm
    · rw [if_neg hp]
      obtain ⟨h1, h2⟩ := valI_gen p f b o h
      refine ⟨h1, ?_⟩
      rw [List.filter_cons_of_neg hp]; exact h2
theorem valI_says (p : Entry → Bool) (f : Entry → Entry) (b : List Entry) : (valI p f b).Pairwise upR ∧ (valI p f b).Perm ((b.filter p).map f) := by
  have h := valI_gen p f b [] .nil
  rw [List.nil_append] at h
  exact h
theorem valI_len (p : Entry → Bool) (f : Entry → Entry) (b : List Entry) : (valI p f b).length ≤ b.length := by
  rw [(valI_says p f b).2.length_eq, List.length_map]; exact List.length_filter_le _ _
theorem ins_arr {A B : List Entry} {X : Entry} {m n : Nat} (hA : (A.map Entry.d).length = m) (hn : m + 1 + (B.map Entry.d).length = n) : List.take n (List.take (m + 1) (List.take (A.map Entry.d).length (A.map Entry.d) ++ [X.d]) ++ B.map Entry.d) = (A ++ X :: B).map Entry.d := by
  have h1 : (A.map Entry.d ++ [X.d]).length = m + 1 := by rw [List.length_append, hA]; rfl
  rw [List.take_length, List.take_of_length_le (Nat.le_of_eq h1), List.take_of_length_le (by rw [List.length_append, h1]; omega), List.map_append, List.map_cons, List.append_assoc]; rfl
def kP (keys : List Itm) (key : List Val) (e : Entry) : Bool := sameRow (keyE keys e.row) key
def exF (ex : List Trm) (e : Entry) : Entry := ⟨[evE ex e.row], e.count⟩
theorem refVals_c (b : List Entry) (keys : List Itm) (key : List Val) (ex : List Trm) (hb : b.length ≤ 1000) (hk : keys.length ≤ 16) : PCall Tryz.prog 55 [.one (bagD b), .one (itmD keys), .one (rowD key), .one (exprD ex)] (.v (.one (bagD (valI (kP keys key) (exF ex) b)))) := by
  refine pcallN hT Tryz.func55 Tryz.ntmps55 [.tmp 8] fun B => ?_
  repeat' (first | refine ks ?_ | refine ko ?_ | refine s_indexD ?_ (hel := (by first | exact rfl)) | refine s_kT ?_ | refine s_kF ?_ | refine f_ret1 def_nil ?_ | refine t_tmp ?_)
  refine s_lp (X := Nat) [9, 10, 11, 12, 13, 14, 15, 16, 17, 18, 19, 20, 21, 22, 23, 24, 25, 26, 27, 28, 29, 30, 31, 32, 33, 34, 35, 36, 37, 38, 39, 40, 41, 42, 43, 44, 45, 46, 47, 48, 49, 50, 51, 52, 53, 54, 55, 56, 57, 58, 59, 60, 61, 62, 63, 64, 65, 66, 67, 68, 69, 70, 71] (fun x => x ≤ b.length) (fun x lz => (10, (.c (.d (.lit (.int .i64 x))))) :: (9, .c (.d (bagD (valI (kP keys key) (exF ex) (b.take x))))) :: lz) (fun x => []) (fun x => b.length - x) (0) ?_ ?_ ?_ ?_
  repeat' (first | exact slots_nil | refine kw ?_ | refine kv ?_ ?_ | exact memIn_nil | omega)
  all_goals try rfl
  rintro i c hi
  by_cases hlt : i < b.length
  · have hv : b[i]? = some b[i] := List.getElem?_eq_getElem hlt
    generalize b[i] = e at hv
    have hke := refKey_c keys e.row (by omega)
    have hsm := same01_c (keyE keys e.row) key
    have hev := refEval_c ex e.row
    have hv2 : (b.map Entry.d)[i]? = some e.d := by rw [List.getElem?_map, hv]; rfl
    have hs := valI_snoc (p := kP keys key) (f := exF ex) hv
    have hol : (valI (kP keys key) (exF ex) (b.take i)).length ≤ 1000 := Nat.le_trans (valI_len ..) (by simp; omega)
    generalize valI (kP keys key) (exF ex) (b.take i) = O at hs hol ⊢
    cases hp : kP keys key e with
    | false =>
      rw [hp, if_neg (by decide)] at hs
      unfold kP at hp
      rw [hp] at hsm
      repeat' (first | refine ks ?_ | refine ko ?_ | refine s_indexD ?_ (hel := (by first | exact idx_map hv2 (by omega) | exact hv2 | exact rfl)) | refine s_call (hke) ?_ | refine s_call (hsm) ?_ | refine s_kT ?_ | refine s_kF ?_ | refine f_ret1 def_nil ?_ | refine t_tmp ?_)
      (apply s_round (i + 1); all_goals (try dsimp only); all_goals (try (repeat' (first | exact slots_nil | refine kw ?_ | refine kv ?_ ?_ | exact memIn_nil | omega))))
      all_goals rw [hs]
    | true =>
      rw [hp, if_pos rfl] at hs
      unfold kP at hp
      rw [hp] at hsm
      have hX : (exF ex e).d = [rowD [evE ex e.row], .lit (.int .i64 e.count)] := rfl
      have hXr : (exF ex e).row = [evE ex e.row] := rfl
      generalize exF ex e = X at hs hX hXr
      repeat' (first | refine ks ?_ | refine ko ?_ | refine s_indexD ?_ (hel := (by first | exact idx_map hv2 (by omega) | exact hv2 | exact rfl)) | refine s_call (hke) ?_ | refine s_call (hsm) ?_ | refine s_call (hev) ?_ | refine s_kT ?_ | refine s_kF ?_ | refine f_ret1 def_nil ?_ | refine t_tmp ?_)
      refine s_lp (X := Nat) [12, 43, 44, 45, 46, 47, 48, 49, 50, 51, 52, 53, 54, 55, 56, 57, 58, 59] (fun x => x ≤ O.length ∧ (O.take x).all (ltX X) = true) (fun x lz => (12, (.c (.d (.lit (.int .i64 x))))) :: lz) (fun x => [.box (c + 1) (X.d.map .d)]) (fun x => O.length - x) (0) ?_ ?_ ?_ ?_
      repeat' (first | exact slots_nil | refine kw ?_ | refine kv ?_ ?_ | exact memIn_nil | omega)
      all_goals try (rw [hX]; rfl)
      · exact ⟨by simp, by simp⟩
      rintro m c2 ⟨hm, hinv⟩
      by_cases hml : m < O.length
      · have hw : O[m]? = some O[m] := List.getElem?_eq_getElem hml
        generalize O[m] = o at hw
        have hw2 : (O.map Entry.d)[m]? = some o.d := by rw [List.getElem?_map, hw]; rfl
        have hcm := refCompareRows_c o.row [evE ex e.row]
        rw [← hXr] at hcm
        by_cases hc : rowCmp o.row X.row < 0
        · repeat' (first | refine ks ?_ | refine ko ?_ | refine s_indexD ?_ (hel := (by first | exact idx_map hw2 (by omega) | exact hw2 | exact rfl)) | refine s_call (hcm) ?_ | refine s_kT ?_ | refine s_kF ?_ | refine f_ret1 def_nil ?_ | refine t_tmp ?_)
          (apply s_round (m + 1); all_goals (try dsimp only); all_goals (try (repeat' (first | exact slots_nil | refine kw ?_ | refine kv ?_ ?_ | exact memIn_nil | omega))))
          all_goals exact ⟨by omega, take_all (ltX X) hw hinv (by simpa [ltX] using hc)⟩
        · have hat := insE_at X O m hm hinv (fun o' ho' => by rw [hw] at ho'; injection ho' with ho'; rw [← ho']; exact hc)
          rw [← hs] at hat
          generalize hgen : valI (kP keys key) (exF ex) (b.take (i + 1)) = O2 at hat
          refine k_hole 1 ?_
          refine k_tick ?_
          refine k_tick ?_
          have hO2 : O2.length = O.length + 1 := by rw [hat]; simp; omega
          have hA : ((O.take m).map Entry.d).length = m := by simp; omega
          have hB : ((O.drop m).map Entry.d).length = O.length - m := by simp
          have hfr := ins_arr (X := X) hA (show m + 1 + ((O.drop m).map Entry.d).length = O.length + 1 by omega)
          rw [← hat] at hfr
          repeat' (first | refine h_appE (dr := true) (ei := ti49) 1 ?_ ?_ ?_ ?_ | (refine h_appA (dr := true) (ei := ti49) (k := c2 + 1) 1 (c2 + 2) (m := m + 1) ?_ (by omega) (by omega) ?_ ?_ (by simp only [maxLen]; omega) (by simp only [ti49]; omega) ?_ rfl) | (refine h_appA (dr := true) (ei := ti49) (k := c2 + 2) 1 (c2 + 3) (m := O.length + 1) ?_ (by omega) (by omega) ?_ ?_ (by simp only [maxLen]; omega) (by simp only [ti49]; omega) ?_ rfl) | refine h_loadBA (dr := true) ?_ | refine s_freeze (r := 1) (k := c2 + 3) (m := O.length + 1) (es1 := O2.map Entry.d) 9 ?_ (hl := ?_) (hes := hfr) | refine ks ?_ | refine ko ?_ | refine s_indexD ?_ (hel := (by first | exact idx_map hw2 (by omega) | exact hw2 | exact rfl)) | refine s_call (hcm) ?_ | refine s_kT ?_ | refine s_kF ?_ | refine f_ret1 def_nil ?_ | refine t_tmp ?_)
          all_goals first
            | exact sized_map (fun _ => rfl)
            | exact sized_cons rfl sized_nil
            | (simp only [maxLen]; omega)
            | (simp only [ti49]; omega)
            | (simp only [List.length_take, List.length_append, List.length_cons, List.length_nil]; omega)
            | skip
          (apply s_round (i + 1); all_goals (try dsimp only); all_goals (try (repeat' (first | exact slots_nil | refine kw ?_ | refine kv ?_ ?_ | exact memIn_nil | omega))))
          all_goals (rw [hgen]; rfl)
      · have hat := insE_at X O m hm hinv (fun o' ho' => by have := lt_of_getElem? ho'; omega)
        rw [← hs] at hat
        generalize hgen : valI (kP keys key) (exF ex) (b.take (i + 1)) = O2 at hat
        refine k_hole 1 ?_
        refine k_tick ?_
        refine k_tick ?_
        have hO2 : O2.length = O.length + 1 := by rw [hat]; simp; omega
        have hA : ((O.take m).map Entry.d).length = m := by simp; omega
        have hB : ((O.drop m).map Entry.d).length = O.length - m := by simp
        have hfr := ins_arr (X := X) hA (show m + 1 + ((O.drop m).map Entry.d).length = O.length + 1 by omega)
        rw [← hat] at hfr
        repeat' (first | refine h_appE (dr := true) (ei := ti49) 1 ?_ ?_ ?_ ?_ | (refine h_appA (dr := true) (ei := ti49) (k := c2 + 1) 1 (c2 + 2) (m := m + 1) ?_ (by omega) (by omega) ?_ ?_ (by simp only [maxLen]; omega) (by simp only [ti49]; omega) ?_ rfl) | (refine h_appA (dr := true) (ei := ti49) (k := c2 + 2) 1 (c2 + 3) (m := O.length + 1) ?_ (by omega) (by omega) ?_ ?_ (by simp only [maxLen]; omega) (by simp only [ti49]; omega) ?_ rfl) | refine h_loadBA (dr := true) ?_ | refine s_freeze (r := 1) (k := c2 + 3) (m := O.length + 1) (es1 := O2.map Entry.d) 9 ?_ (hl := ?_) (hes := hfr) | refine ks ?_ | refine ko ?_ | refine s_indexD ?_ (hel := (by first | exact rfl)) | refine s_kT ?_ | refine s_kF ?_ | refine f_ret1 def_nil ?_ | refine t_tmp ?_)
        all_goals first
          | exact sized_map (fun _ => rfl)
          | exact sized_cons rfl sized_nil
          | (simp only [maxLen]; omega)
          | (simp only [ti49]; omega)
          | (simp only [List.length_take, List.length_append, List.length_cons, List.length_nil]; omega)
          | skip
        (apply s_round (i + 1); all_goals (try dsimp only); all_goals (try (repeat' (first | exact slots_nil | refine kw ?_ | refine kv ?_ ?_ | exact memIn_nil | omega))))
        all_goals (rw [hgen]; rfl)
  · rw [take_ge (show b.length ≤ i by omega)]
    repeat' (first | refine ks ?_ | refine ko ?_ | refine s_indexD ?_ (hel := (by first | exact rfl)) | refine s_kT ?_ | refine s_kF ?_ | refine f_ret1 def_nil ?_ | refine t_tmp ?_)
    all_goals rfl
end Go.Proofs.YtojfhaoleedmkaaGreat
