/-
  bag.merge, bag.Add, bag.Subtract.
-/
import Derived.Test.YtmpgmjlanngkfaaGreatTyB
import Derived.Test.YtmpgmjlanngkfaaGreatExn
section
namespace Go.Proofs.YtmpgmjlanngkfaaGreat
open Go.Abs Go.RowKit
attribute [local irreducible] ARun At MCall PCall HCall Am SF CF CFs Ah Aj Ar fin AW VLe
set_option linter.unusedSimpArgs false
set_option maxRecDepth 100000
set_option maxHeartbeats 4000000
def C0 (t : Tape) : Nat → List Val × Tape
 | 0 => ([], t)
 | j + 1 => ((C0 t j).1 ++ [(C0 t j).2.short], (C0 t j).2.go 6)
def entNums : List Int := [1, 1, 1, 2, -1, 3, -2, 0]
def Tape.num (t : Tape) : Int := entNums.getD (t.nx 8).toNat 0
def Du (t : Tape) (w : Nat) : Nat → List Entry × Tape
 | 0 => ([], t)
 | m + 1 => ((Du t w m).1 ++ [⟨(C0 (Du t w m).2 w).1, (C0 (Du t w m).2 w).2.num⟩], (C0 (Du t w m).2 w).2.go 8)
theorem Mc {t : Tape} (h : t.ok) : ∀ j, (C0 t j).2.ok ∧ (C0 t j).1.length = j
 | 0 => ⟨h, rfl⟩
 | j + 1 => by
   obtain ⟨h1, h2⟩ := Mc h j
   exact ⟨h1.go 6, by rw [C0]; simp [h2]⟩
theorem Md {t : Tape} (h : t.ok) (w : Nat) : ∀ m, (Du t w m).2.ok ∧ (Du t w m).1.length = m
 | 0 => ⟨h, rfl⟩
 | m + 1 => by
   obtain ⟨h1, h2⟩ := Md h w m
   exact ⟨(Mc h1 w).1.go 8, by rw [Du]; simp [h2]⟩
theorem RR (t : Tape) (w n : Nat) (ht : t.ok) (hw : w ≤ 1000) (hn : n ≤ 1000) : HCall Tryz.prog 32 [.c (.bp 0 0 0), (.c (.d (.lit (.int .i64 (w : Int))))), (.c (.d (.lit (.int .i64 (n : Int)))))] [(.box 0 [.d (Ax (t).l), .d (.lit (.int .i64 (t).at_))])] (.c (.arr 1 1 (t.nx ((n : Int) + 1)).toNat)) [(.box 0 [.d (Ax ((Du (t.go ((n : Int) + 1)) w (t.nx ((n : Int) + 1)).toNat).2).l), .d (.lit (.int .i64 ((Du (t.go ((n : Int) + 1)) w (t.nx ((n : Int) + 1)).toNat).2).at_))]), .arr 1 56 2 ((Du (t.go ((n : Int) + 1)) w (t.nx ((n : Int) + 1)).toNat).1.map Entry.d)] := by
 have hnx := DC t ((n : Int) + 1) ht (by omega) (by omega)
 obtain ⟨b1, b2⟩ := t.nx_bd ((n : Int) + 1)
 have ht1 := ht.go ((n : Int) + 1)
 obtain ⟨i, hi⟩ := Int.eq_ofNat_of_zero_le b1
 rw [hi] at hnx b1 b2 ⊢
 rw [Int.toNat_natCast]
 generalize t.go ((n : Int) + 1) = t1 at hnx ht1
 have hin : i ≤ 1000 := by omega
 refine As hT Tryz.func32 Tryz.ntmps32 [.tmp 6] fun B => ?_
 repeat' (first | refine kz ?_ | refine ki ?_ | refine Ad [0] (hnx) ?_ | refine kg ?_ ?_ | exact k0 | refine Ab ?_ | refine m1 ?_ ?_ | refine m2 ?_ ?_)
 refine BA 7 56 2 ?_
 refine AO (X := Nat × Nat) [7, 8, 9, 10, 15, 16, 17, 18, 19, 20, 21, 22, 23, 24, 25, 26, 27, 28, 29, 30, 31, 32, 33, 34, 35, 36, 37, 38] (fun x => x.1 ≤ i) (fun x lz => (7, .c (.arr 1 x.2 x.1)) :: (8, (.c (.d (.lit (.int .i64 ((i - x.1 : Nat) : Int)))))) :: lz) (fun x => [(.box 0 [.d (Ax ((Du t1 w x.1).2).l), .d (.lit (.int .i64 ((Du t1 w x.1).2).at_))]), .arr x.2 56 2 ((Du t1 w x.1).1.map Entry.d)]) (fun x => i - x.1) ((0, 2)) ?_ ?_ ?_ ?_
 repeat' (first | exact k0 | refine kw ?_ | refine kv ?_ ?_ | omega)
 rintro ⟨m, k⟩ c hm
 dsimp only at hm ⊢
 obtain ⟨hok, hlen⟩ := Md ht1 w m
 have hstep : Du t1 w (m + 1) = ((Du t1 w m).1 ++ [⟨(C0 (Du t1 w m).2 w).1, (C0 (Du t1 w m).2 w).2.num⟩], (C0 (Du t1 w m).2 w).2.go 8) := rfl
 by_cases hlt : m < i
 ·generalize hE : Du t1 w m = E at hok hlen hstep
  obtain ⟨el, T⟩ := E
  dsimp only at hok hlen hstep ⊢
  repeat' (first | refine kz ?_ | refine ki ?_ | refine kg ?_ ?_ | exact k0 | refine Ab ?_ | refine m1 ?_ ?_ | refine m2 ?_ ?_)
  refine BA 9 73 3 ?_
  refine AO (X := Nat × Nat) [9, 10, 19, 20, 21, 22, 23, 24, 25, 26, 27, 28] (fun x => x.1 ≤ w) (fun x lz => (9, .c (.arr 2 x.2 x.1)) :: (10, (.c (.d (.lit (.int .i64 x.1))))) :: lz) (fun x => [(.box 0 [.d (Ax ((C0 T x.1).2).l), .d (.lit (.int .i64 ((C0 T x.1).2).at_))]), .arr k 56 2 (el.map Entry.d), .arr x.2 73 3 ((C0 T x.1).1.map Val.d)]) (fun x => w - x.1) ((0, c + 1)) ?_ ?_ ?_ ?_
  repeat' (first | exact k0 | refine kw ?_ | refine kv ?_ ?_ | omega)
  rintro ⟨j, k2⟩ c2 hj
  dsimp only at hj ⊢
  obtain ⟨rok, rlen⟩ := Mc hok j
  by_cases hlt2 : j < w
  ·have hsh := VW (C0 T j).2 rok
   repeat' (first | refine kz ?_ | refine ki ?_ | refine Ad [0] (hsh) ?_ | refine kg ?_ ?_ | exact k0 | refine Ab ?_ | refine m1 ?_ ?_ | refine m2 ?_ ?_)
   (apply Ae ((j + 1, _)); all_goals (try dsimp only); all_goals (try (repeat' (first | exact k0 | refine w1 ?_ | refine Ab ?_ | refine m1 ?_ ?_ | refine m2 ?_ ?_ | omega))))
   rw [C0, List.map_append]; rfl
  ·obtain rfl : j = w := by omega
   have hnx := DC (C0 T j).2 8 rok (by omega) (by omega)
   obtain ⟨q1, q2⟩ := (C0 T j).2.nx_bd 8
   have hvn : (entNums.map iD)[((C0 T j).2.nx 8).toNat]? = some (iD (C0 T j).2.num) := by
     rw [List.getElem?_map]
     unfold Tape.num
     rw [List.getD_eq_getElem?_getD, List.getElem?_eq_getElem (by simp [entNums]; omega)]; rfl
   have hf9 : List.take j ((C0 T j).1.map Val.d) = (C0 T j).1.map Val.d := Ag (by simp; omega)
   repeat' (first | refine Aw 9 ?_ (hes := hf9) | refine kz ?_ | refine kx hvn ?_ | refine ki ?_ | refine Ad [0] (hnx) ?_ | refine AX Af ?_ ?_ | exact k0 | refine Ab ?_ | refine m1 ?_ ?_ | refine m2 ?_ ?_)
   (apply Ae ((m + 1, _)); all_goals (try dsimp only); all_goals (try (repeat' (first | exact k0 | refine w1 ?_ | refine Ab ?_ | refine m1 ?_ ?_ | refine m2 ?_ ?_ | omega))))
   · rw [hstep]
   · rw [hstep, List.map_append]; rfl
 ·obtain rfl : m = i := by omega
  repeat' (first | refine kz ?_ | refine ki ?_ | refine kg ?_ ?_ | exact k0 | refine Ab ?_ | refine m1 ?_ ?_ | refine m2 ?_ ?_)
end Go.Proofs.YtmpgmjlanngkfaaGreat
end
section
namespace Go.Proofs.YtmpgmjlanngkfaaGreat
open Go.Abs Go.RowKit
set_option linter.unusedSimpArgs false
set_option maxRecDepth 100000
theorem KE {l : List Entry} (h : l.all Be = true) : ∀ e ∈ l, AI e.row := fun e he => by
 have := List.all_eq_true.1 h e he
 simp only [Be, Bool.and_eq_true] at this
 exact BD this.1
theorem HX (l : List Entry) : ∀ e, e ∈ sortE l → ∃ x ∈ l, x.row = e.row := by
 induction l using sortE.induct with
 | case1 l h => intro e he; rw [sortE, dif_pos h] at he; exact ⟨e, (List.mem_filter.1 he).1, rfl⟩
 | case2 l h ih1 ih2 =>
   intro e he
   rw [sortE, dif_neg h] at he
   obtain ⟨x, hx, hr⟩ := Fp _ _ e he
   rcases hx with hx | hx
   ·obtain ⟨y, hy, hq⟩ := ih1 x hx
    exact ⟨y, List.mem_of_mem_take hy, hq.trans hr⟩
   ·obtain ⟨y, hy, hq⟩ := ih2 x hx
    exact ⟨y, List.mem_of_mem_drop hy, hq.trans hr⟩
theorem LE : ∀ {l : List Entry} {p : Option Entry}, (∀ e ∈ l, e.ok = true) → l.Pairwise eR → (∀ q, p = some q → ∀ e ∈ l, eR q e) → goodFrom p l = true
 | [], _, _, _, _ => rfl
 | x :: l, p, h, hs, hp => by
   obtain ⟨h1, h2⟩ := List.pairwise_cons.1 hs
   have ih := LE (p := some x) (fun e he => h e (by simp [he])) h2 (fun q hq => by cases hq; exact h1)
   simp only [goodFrom, Bool.and_eq_true]
   refine ⟨⟨h x (by simp), ?_⟩, ih⟩
   cases p with
   | none => rfl
   | some q => exact decide_eq_true (hp q rfl x (by simp))
theorem HY {l : List Entry} (h : (Bl l).2 = 0) : (Bl l).1 = sortE l ∧ Sorted (sortE l) ∧ Al (sortE l) = true ∧ ∀ r, A8 (sortE l) r = A8 l r := by
 unfold Bl at *
 split at h
 ·rename_i hall
  rw [if_pos hall]
  obtain ⟨p1, p2⟩ := CJ l (KE hall)
  refine ⟨L4 h, p1, ?_, p2⟩
  unfold A2 at h
  split at h
  ·cases h
  ·split at h
   ·rename_i hl hc
    simp only [Al, Bool.and_eq_true, decide_eq_true_eq]
    refine ⟨by omega, LE (fun e he => ?_) p1.up (by simp)⟩
    have h1 := List.all_eq_true.1 hc e he
    obtain ⟨x, hx, hr⟩ := HX l e he
    have h2 := List.all_eq_true.1 hall x hx
    simp only [Be, Bool.and_eq_true] at h2
    simp only [Entry.ok, Bool.and_eq_true, decide_eq_true_eq]
    rw [← hr]
    exact ⟨⟨h2.1, h1⟩, p1.nz e he⟩
   ·cases h
 ·cases h
theorem Fu {l : List Entry} (h : Al l = true) : Sorted l := by
 obtain ⟨_, hm⟩ := AZ h
 refine ⟨?_, fun e he => (hm e he).2.2, fun e he => BD (hm e he).1⟩
 simp only [Al, Bool.and_eq_true] at h
 have key : ∀ {l : List Entry} {p : Option Entry}, goodFrom p l = true → l.Pairwise eR ∧ ∀ q, p = some q → ∀ e ∈ l, eR q e := by
  intro l
  induction l with
  | nil => intro p _; exact ⟨.nil, by simp⟩
  | cons x l ih =>
    intro p hp
    simp only [goodFrom, Bool.and_eq_true] at hp
    obtain ⟨i1, i2⟩ := ih hp.2
    refine ⟨List.pairwise_cons.2 ⟨i2 x rfl, i1⟩, fun q hq e he => ?_⟩
    subst hq
    have hqx : eR q x := by simpa [eR] using hp.1.2
    rcases List.mem_cons.1 he with rfl | he
    ·exact hqx
    ·exact WD _ _ _ hqx (i2 x rfl e he)
 exact (key h.2).1
theorem OV {l : List Entry} (h : Al l = true) : Bl l = (l, 0) := by
 have hs := Fu h
 obtain ⟨hlen, hm⟩ := AZ h
 have hall : l.all Be = true := List.all_eq_true.2 fun e he => by
  obtain ⟨h1, h2, _⟩ := hm e he
  simp only [Be, Az, Bool.and_eq_true, decide_eq_true_eq]
  exact ⟨h1, h2.1, h2.2⟩
 obtain ⟨p1, p2⟩ := CJ l (KE hall)
 have : sortE l = l := p1.unique hs p2
 rw [Bl, if_pos hall, this, A2, if_neg (by omega), if_pos]
 refine List.all_eq_true.2 fun e he => ?_
 obtain ⟨_, h2, _⟩ := hm e he
 simp only [Az, Bool.and_eq_true, decide_eq_true_eq]
 exact h2
end Go.Proofs.YtmpgmjlanngkfaaGreat
end
section
namespace Go.Proofs.YtmpgmjlanngkfaaGreat
open Go.Abs Go.RowKit
attribute [local irreducible] ARun At MCall PCall HCall Am SF CF CFs Ah Aj Ar fin AW VLe
set_option linter.unusedSimpArgs false
set_option maxRecDepth 100000
set_option maxHeartbeats 4000000
theorem XK (e : Entry) (out : List Entry) : HCall Tryz.prog 97 [.agg (e.d.map .d), (.c (.d (.lit (.int .i64 0)))), .c (.bp 0 0 0)] [.box 0 [.arr 1 0 out.length], .arr 0 56 2 (out.map Entry.d)] (.tup []) [.box 0 [.arr 1 0 out.length], .arr 0 56 2 (out.map Entry.d)] := by
 refine As hT Tryz.func97 Tryz.ntmps97 [] fun B => ?_
 repeat' (first | refine kz ?_ | refine kf ?_ | exact k0 | refine Ab ?_)
theorem J0 (e : Entry) (n : Int) (hn : n ≠ 0) (out : List Entry) (ho : out.length ≤ 1000000) (hr : e.row.length ≤ 1000000) : HCall Tryz.prog 97 [.agg (e.d.map .d), (.c (.d (.lit (.int .i64 n)))), .c (.bp 0 0 0)] [.box 0 [.arr 1 0 out.length], .arr 0 56 2 (out.map Entry.d)] (.tup []) [.box 0 [.arr 1 1 (out.length + 1)], .arr 1 56 2 ((out ++ [(⟨e.row, n⟩ : Entry)]).map Entry.d)] := by
 have hc := L9 e.row hr
 refine As hT Tryz.func97 Tryz.ntmps97 [] fun B => ?_
 repeat' (first | refine kz ?_ | refine Aa (hc) ?_ | refine kf ?_ | exact k0 | refine Ab ?_ | refine m1 ?_ ?_)
 rw [List.map_append]; rfl
def sc (s : Int) (e : Entry) : Entry := ⟨e.row, s * e.count⟩
theorem Pm (a : List Entry) : mergeE a [] = a := by cases a <;> simp [mergeE]
theorem NX (b : List Entry) : mergeE [] b = b := by simp [mergeE]
theorem NY (a b : List Entry) (s : Int) (hs : s = 1 ∨ s = -1) (ha : Al a = true) (hb : Al b = true) : PCall Tryz.prog 48 [.one (Ap a), .one (Ap b), .one (.lit (.int .i64 s))] (.tup [.one (Ap (A2 (mergeE a (b.map (sc s)))).1), .one (.lit (.int .i64 (A2 (mergeE a (b.map (sc s)))).2))]) := by
 obtain ⟨hal, hma⟩ := AZ ha
 obtain ⟨hbl, hmb⟩ := AZ hb
 refine Ac hT Tryz.func48 Tryz.ntmps48 [.tmp 6, .tmp 7] fun B => ?_
 repeat' (first | refine kz ?_ | refine ki ?_ | refine kf ?_ | refine kg ?_ ?_ | fail)
 refine Ht 0 0 56 2 ?_
 refine AO (X := List Entry × List Entry × Nat × List Entry) [0, 1, 10, 17, 18, 19, 20, 21, 22, 23, 24, 25, 26, 27, 28, 29, 30, 31, 32, 33, 34, 35, 36, 37, 38, 39, 40, 41, 42, 43, 44, 45, 46, 47, 48, 49, 50, 51, 52, 53, 54, 55, 56, 57, 58, 59, 60, 61, 62, 63, 64, 65, 66, 67, 68, 69, 70, 71, 72, 73, 74, 75, 76, 77, 78, 79, 80, 81, 82, 83] (fun x => (∀ e ∈ x.1, e ∈ a) ∧ (∀ e ∈ x.2.1, e ∈ b) ∧ x.1.length ≤ a.length ∧ x.2.1.length ≤ b.length ∧ x.2.2.2.length + x.1.length + x.2.1.length ≤ a.length + b.length ∧ x.2.2.2 ++ mergeE x.1 (x.2.1.map (sc s)) = mergeE a (b.map (sc s))) (fun x lz => (0, .c (.d (Ap x.1))) :: (1, .c (.d (Ap x.2.1))) :: lz) (fun x => [.box 1 [.arr 1 x.2.2.1 x.2.2.2.length], .arr x.2.2.1 56 2 (x.2.2.2.map Entry.d)]) (fun x => x.1.length + x.2.1.length) ((a, b, 2, [])) ?_ ?_ ?_ ?_
 repeat' (first | exact k0 | refine kw ?_ | refine kv ?_ ?_ | omega)
 ·exact ⟨fun e h => h, fun e h => h, Nat.le_refl _, Nat.le_refl _, by simp, rfl⟩
 rintro ⟨a', b', k, out⟩ c ⟨h1, h2, h3, h4, h5, hinv⟩
 dsimp only at h1 h2 h3 h4 h5 hinv ⊢
 by_cases hend : a'.length = 0 ∨ b'.length = 0
 ·have hM : out ++ a' ++ b'.map (sc s) = mergeE a (b.map (sc s)) := by
   rw [← hinv]
   rcases hend with h | h
   · obtain rfl := List.length_eq_zero_iff.1 h
     rw [NX, List.append_nil]
   · obtain rfl := List.length_eq_zero_iff.1 h
     rw [List.map_nil, Pm, List.append_nil]
  clear hinv
  generalize mergeE a (b.map (sc s)) = M at hM
  have hlm : M.length = out.length + a'.length + b'.length := by rw [← hM]; simp; omega
  have hend : a'.length = 0 ∨ (0 < a'.length ∧ b'.length = 0) := by omega
  rcases hend with hend | hend
  all_goals
   repeat' (first | refine kz ?_ | refine ki ?_ | refine kf ?_ | refine kg ?_ ?_ | fail)
   refine AO (X := Nat × Nat) [12, 86, 87, 88, 89, 90, 91, 92, 93, 94, 95] (fun x => x.1 ≤ a'.length) (fun x lz => (86, (.c (.d (.lit (.int .i64 x.1))))) :: lz) (fun x => [.box 1 [.arr 1 x.2 (out ++ a'.take x.1).length], .arr x.2 56 2 ((out ++ a'.take x.1).map Entry.d)]) (fun x => a'.length - x.1) ((0, k)) ?_ ?_ ?_ ?_
   repeat' (first | exact k0 | refine kw ?_ | refine kv ?_ ?_ | omega)
   all_goals try (simp; done)
   rintro ⟨i, k1⟩ c1 hi
   dsimp only at hi ⊢
   by_cases hlt : i < a'.length
   · have hv : a'[i]? = some a'[i] := List.getElem?_eq_getElem hlt
     obtain ⟨hxr, hxc, hxn⟩ := hma _ (h1 _ (List.getElem_mem hlt))
     generalize a'[i] = e at hv hxr hxc hxn
     have hxl := CP hxr
     have htk : a'.take (i + 1) = a'.take i ++ [e] := by rw [List.take_add_one, hv]; rfl
     have hol : (out ++ a'.take i).length ≤ 100000 := by simp; omega
     have hadd := J0 e e.count hxn (out ++ a'.take i) (by omega) (by omega)
     repeat' (first | refine kz ?_ | refine kx hv ?_ | refine ki ?_ | refine Ad [0, 1] (hadd) ?_ | refine kf ?_ | refine kg ?_ ?_ | fail)
     (apply Ae ((i + 1, _)); all_goals (try dsimp only); all_goals (try (repeat' (first | exact k0 | refine w1 ?_ | refine w3 ?_ ?_ | refine Ab ?_ | refine m1 ?_ ?_ | refine m2 ?_ ?_ | omega))))
     all_goals first
       | (rw [htk, ← List.append_assoc]; simp only [List.length_append, List.length_singleton]; done)
       | (rw [htk, ← List.append_assoc]; done)
   · rw [Ag (show a'.length ≤ i by omega)]
     repeat' (first | refine kz ?_ | refine ki ?_ | refine kf ?_ | refine kg ?_ ?_ | fail)
     refine AO (X := Nat × Nat) [14, 98, 99, 100, 101, 102, 103, 104, 105, 106, 107, 108, 109] (fun x => x.1 ≤ b'.length) (fun x lz => (98, (.c (.d (.lit (.int .i64 x.1))))) :: lz) (fun x => [.box 1 [.arr 1 x.2 (out ++ a' ++ (b'.take x.1).map (sc s)).length], .arr x.2 56 2 ((out ++ a' ++ (b'.take x.1).map (sc s)).map Entry.d)]) (fun x => b'.length - x.1) ((0, k1)) ?_ ?_ ?_ ?_
     repeat' (first | exact k0 | refine kw ?_ | refine kv ?_ ?_ | omega)
     all_goals try (simp; done)
     rintro ⟨j, k2⟩ c2 hj
     dsimp only at hj ⊢
     by_cases hlt : j < b'.length
     · have hv : b'[j]? = some b'[j] := List.getElem?_eq_getElem hlt
       obtain ⟨hxr, hxc, hxn⟩ := hmb _ (h2 _ (List.getElem_mem hlt))
       generalize b'[j] = e at hv hxr hxc hxn
       have hxl := CP hxr
       have hsy : -262144 ≤ s * e.count ∧ s * e.count ≤ 262144 ∧ s * e.count ≠ 0 := by
         rcases hs with rfl | rfl
         · omega
         · omega
       have htk : (b'.take (j + 1)).map (sc s) = (b'.take j).map (sc s) ++ [sc s e] := EU (sc s) hv
       have hol : (out ++ a' ++ (b'.take j).map (sc s)).length ≤ 100000 := by simp; omega
       have hadd := J0 e (s * e.count) hsy.2.2 (out ++ a' ++ (b'.take j).map (sc s)) (by omega) (by omega)
       repeat' (first | refine kz ?_ | refine kx hv ?_ | refine ki ?_ | refine Ad [0, 1] (hadd) ?_ | refine kf ?_ | refine kg ?_ ?_ | fail)
       (apply Ae ((j + 1, _)); all_goals (try dsimp only); all_goals (try (repeat' (first | exact k0 | refine w1 ?_ | refine w3 ?_ ?_ | refine Ab ?_ | refine m1 ?_ ?_ | refine m2 ?_ ?_ | omega))))
       all_goals first
         | (rw [htk, ← List.append_assoc]; simp only [List.length_append, List.length_singleton]; done)
         | (rw [htk, ← List.append_assoc]; rfl)
     · rw [Ag (show b'.length ≤ j by omega), hM]
       have hlc := NZ M
       have hsf : ∀ mem : List Blk, mem[1]? = some (.arr k2 56 2 (M.map Entry.d)) → SFs mem [.c (.arr 1 k2 M.length)] [.one (Ap M)] := fun mem hm => I8 hm (by simp) (Ag (by simp))
       by_cases hz : (A2 M).2 = 0
       · have hz1 := L4 hz
         rw [hz1, hz]
         rw [hz] at hlc
         repeat' (first | refine kz ?_ | refine ki ?_ | refine En hlc (hsf _ rfl) ?_ | refine kf ?_ | refine kg ?_ ?_ | fail)
         · simp
         · rw [Ag (by simp)]; rfl
         · rfl
       · have hz1 := N1 hz
         rw [hz1]
         generalize (A2 M).2 = er at hz hlc
         repeat' (first | refine kz ?_ | refine ki ?_ | refine En hlc (hsf _ rfl) ?_ | refine kf ?_ | refine kg ?_ ?_ | fail)
         all_goals rfl
 ·obtain ⟨x, a2, rfl⟩ : ∃ x a2, a' = x :: a2 := by
   cases a' with
   | nil => exact absurd (.inl rfl) hend
   | cons x a2 => exact ⟨x, a2, rfl⟩
  obtain ⟨y, b2, rfl⟩ : ∃ y b2, b' = y :: b2 := by
   cases b' with
   | nil => exact absurd (.inr rfl) hend
   | cons y b2 => exact ⟨y, b2, rfl⟩
  obtain ⟨hxr, hxc, hxn⟩ := hma x (h1 x (by simp))
  obtain ⟨hyr, hyc, hyn⟩ := hmb y (h2 y (by simp))
  have hxl := CP hxr
  have hyl := CP hyr
  have hvx : (x :: a2)[0]? = some x := rfl
  have hvy : (y :: b2)[0]? = some y := rfl
  have hsy : -262144 ≤ s * y.count ∧ s * y.count ≤ 262144 ∧ s * y.count ≠ 0 := by
   rcases hs with rfl | rfl
   · omega
   · omega
  have hla : (x :: a2).length = a2.length + 1 := rfl
  have hlb : (y :: b2).length = b2.length + 1 := rfl
  rw [List.map_cons, mergeE] at hinv
  rcases Int.lt_trichotomy (Ak x.row y.row) 0 with hc | hc | hc
  ·have hadd := J0 x x.count hxn out (by omega) (by omega)
   rw [if_pos (show Ak x.row (sc s y).row < 0 from hc)] at hinv
   repeat' (first | refine kz ?_ | refine kx hvx ?_ | refine kx hvy ?_ | refine ki ?_ | refine Aa (Bf _ _) ?_ | refine Ad [0, 1] (hadd) ?_ | refine kf ?_ | refine kg ?_ ?_ | fail)
   (apply Ae ((a2, y :: b2, _, out ++ [x])); all_goals (try dsimp only); all_goals (try (repeat' (first | exact k0 | refine w1 ?_ | refine w3 ?_ ?_ | refine Ab ?_ | refine m1 ?_ ?_ | refine m2 ?_ ?_ | omega))))
   · rw [Ag (by simp)]; rfl
   · rw [List.length_append]; rfl
   · refine ⟨fun e h => h1 e (by simp [h]), h2, by omega, by omega, by rw [List.length_append, List.length_singleton]; omega, ?_⟩
     rw [← hinv, List.append_assoc]; rfl
  ·rw [if_neg (show ¬ Ak x.row (sc s y).row < 0 by show ¬ Ak x.row y.row < 0; omega), if_neg (show ¬ 0 < Ak x.row (sc s y).row by show ¬ 0 < Ak x.row y.row; omega)] at hinv
   by_cases hz : x.count + s * y.count = 0
   · have hadd := XK x out
     rw [if_pos (show x.count + (sc s y).count = 0 from hz)] at hinv
     rw [← hz] at hadd
     repeat' (first | refine kz ?_ | refine kx hvx ?_ | refine kx hvy ?_ | refine ki ?_ | refine Aa (Bf _ _) ?_ | refine Ad [0, 1] (hadd) ?_ | refine kf ?_ | refine kg ?_ ?_ | fail)
     (apply Ae ((a2, b2, _, out)); all_goals (try dsimp only); all_goals (try (repeat' (first | exact k0 | refine w1 ?_ | refine w3 ?_ ?_ | refine Ab ?_ | refine m1 ?_ ?_ | refine m2 ?_ ?_ | omega))))
     · rw [Ag (by simp)]; rfl
     · rw [Ag (by simp)]; rfl
     · exact ⟨fun e h => h1 e (by simp [h]), fun e h => h2 e (by simp [h]), by omega, by omega, by omega, hinv⟩
   · have hadd := J0 x (x.count + s * y.count) hz out (by omega) (by omega)
     rw [if_neg (show ¬ x.count + (sc s y).count = 0 from hz)] at hinv
     repeat' (first | refine kz ?_ | refine kx hvx ?_ | refine kx hvy ?_ | refine ki ?_ | refine Aa (Bf _ _) ?_ | refine Ad [0, 1] (hadd) ?_ | refine kf ?_ | refine kg ?_ ?_ | fail)
     (apply Ae ((a2, b2, _, out ++ [⟨x.row, x.count + s * y.count⟩])); all_goals (try dsimp only); all_goals (try (repeat' (first | exact k0 | refine w1 ?_ | refine w3 ?_ ?_ | refine Ab ?_ | refine m1 ?_ ?_ | refine m2 ?_ ?_ | omega))))
     · rw [Ag (by simp)]; rfl
     · rw [Ag (by simp)]; rfl
     · rw [List.length_append]; rfl
     · refine ⟨fun e h => h1 e (by simp [h]), fun e h => h2 e (by simp [h]), by omega, by omega, by rw [List.length_append, List.length_singleton]; omega, ?_⟩
       rw [← hinv, List.append_assoc]; rfl
  ·have hadd := J0 y (s * y.count) hsy.2.2 out (by omega) (by omega)
   rw [if_neg (show ¬ Ak x.row (sc s y).row < 0 by show ¬ Ak x.row y.row < 0; omega), if_pos (show 0 < Ak x.row (sc s y).row from hc)] at hinv
   repeat' (first | refine kz ?_ | refine kx hvx ?_ | refine kx hvy ?_ | refine ki ?_ | refine Aa (Bf _ _) ?_ | refine Ad [0, 1] (hadd) ?_ | refine kf ?_ | refine kg ?_ ?_ | fail)
   (apply Ae ((x :: a2, b2, _, out ++ [sc s y])); all_goals (try dsimp only); all_goals (try (repeat' (first | exact k0 | refine w1 ?_ | refine w3 ?_ ?_ | refine Ab ?_ | refine m1 ?_ ?_ | refine m2 ?_ ?_ | omega))))
   · rw [Ag (by simp)]; rfl
   · rw [List.length_append]; rfl
   · refine ⟨h1, fun e h => h2 e (by simp [h]), by omega, by omega, by rw [List.length_append, List.length_singleton]; omega, ?_⟩
     rw [← hinv, List.append_assoc]; rfl
end Go.Proofs.YtmpgmjlanngkfaaGreat
end
