/-
  The tape: Keys, Aggregates, Exacts.
-/
import Derived.Test.YtmpgmjlanngkfaaGreatAgk
import Derived.Test.YtmpgmjlanngkfaaGreatHoa
import Derived.Test.YtmpgmjlanngkfaaGreatTex
section
namespace Go.Proofs.YtmpgmjlanngkfaaGreat
open Go.Abs Go.RowKit
attribute [local irreducible] ARun kont MCall PCall HCall resVal SF CF CFs defersOk slotsIn memIn fin finM VLe
set_option linter.unusedSimpArgs false
set_option maxRecDepth 100000
set_option maxHeartbeats 4000000

def intsD (l : List Int) : Dat := .sl (l.map fun n => [.lit (.int .i64 n)])

structure Sta where
  key : List Val
  count : Int
  sums : List Int
  some : List Int
def Sta.d (s : Sta) : List Dat := [rowD s.key, .lit (.int .i64 s.count), intsD s.sums, intsD s.some]
def Sta.x (s : Sta) : List Dat := [rowX s.key, .lit (.int .i64 s.count), intsD s.sums, intsD s.some]
def stsD (l : List Sta) : Dat := .sl (l.map Sta.d)
def Sta.zero (s : Sta) : Bool := decide (s.count = 0) && !(s.sums.any fun n => decide (n ≠ 0)) && !(s.some.any fun n => decide (n ≠ 0))

def exactE (l : List Agg) : Bool := l.all fun x => decide (x.func = 0 ∨ x.func = 1)
end Go.Proofs.YtmpgmjlanngkfaaGreat
end
section
namespace Go.Proofs.YtmpgmjlanngkfaaGreat
open Go.Abs Go.RowKit
attribute [local irreducible] ARun kont MCall PCall HCall resVal SF CF CFs defersOk slotsIn memIn fin finM VLe
set_option linter.unusedSimpArgs false
set_option maxRecDepth 100000
set_option maxHeartbeats 4000000

theorem digit_c (s : ByteArray) (hs : s.size ≤ 100) (n : Nat) (hn : n < 3) : PCall Tryz.prog 50 [.one (.lit (.string s)), .one (.lit (.int .i64 n))] (.v (.one (.lit (.string (s ++ (⟨#[UInt8.ofNat (48 + n)]⟩ : ByteArray)))))) := by
  have hsz : ∀ b : UInt8, (⟨#[b]⟩ : ByteArray).size = 1 := fun _ => rfl
  have h1 := hsz (UInt8.ofNat 48)
  have h2 := hsz (UInt8.ofNat 49)
  have h3 := hsz (UInt8.ofNat 50)
  have hc : n = 0 ∨ n = 1 ∨ n = 2 := by omega
  rcases hc with rfl | rfl | rfl
  · refine pcallN hT Tryz.func50 Tryz.ntmps50 [.tmp 4] fun B => ?_
    repeat' (first | refine s_convBSd (l := [UInt8.ofNat 48]) ?_ | (refine s_str (b := (⟨#[UInt8.ofNat 48]⟩ : ByteArray)) ?_ (hv := .add (by simp only [maxLen]; omega))) | (with_reducible (first | refine k_seq ?_ | refine k_ret ?_ | refine n_seq ?_)) | refine s_reg ?_ | refine r_end ?_ | refine s_move ?_ | refine s_assign ?_ | refine s_int ?_ | refine s_str ?_ | refine s_bslice ?_ | refine s_conv ?_ | refine s_convBSd ?_ | refine f_ret1 def_nil ?_ | refine t_tmp ?_)
    all_goals rfl
  · refine pcallN hT Tryz.func50 Tryz.ntmps50 [.tmp 4] fun B => ?_
    repeat' (first | refine s_convBSd (l := [UInt8.ofNat 49]) ?_ | (refine s_str (b := (⟨#[UInt8.ofNat 49]⟩ : ByteArray)) ?_ (hv := .add (by simp only [maxLen]; omega))) | (with_reducible (first | refine k_seq ?_ | refine k_ret ?_ | refine n_seq ?_)) | refine s_reg ?_ | refine r_end ?_ | refine s_move ?_ | refine s_assign ?_ | refine s_int ?_ | refine s_str ?_ | refine s_bslice ?_ | refine s_conv ?_ | refine s_convBSd ?_ | refine f_ret1 def_nil ?_ | refine t_tmp ?_)
    all_goals rfl
  · refine pcallN hT Tryz.func50 Tryz.ntmps50 [.tmp 4] fun B => ?_
    repeat' (first | refine s_convBSd (l := [UInt8.ofNat 50]) ?_ | (refine s_str (b := (⟨#[UInt8.ofNat 50]⟩ : ByteArray)) ?_ (hv := .add (by simp only [maxLen]; omega))) | (with_reducible (first | refine k_seq ?_ | refine k_ret ?_ | refine n_seq ?_)) | refine s_reg ?_ | refine r_end ?_ | refine s_move ?_ | refine s_assign ?_ | refine s_int ?_ | refine s_str ?_ | refine s_bslice ?_ | refine s_conv ?_ | refine s_convBSd ?_ | refine f_ret1 def_nil ?_ | refine t_tmp ?_)
    all_goals rfl

theorem keys_h (t : Tape) (n m : Nat) (ht : t.ok) (hn : n ≤ 3) (h1 : 1 ≤ m) (hm : m ≤ 1000) : ∃ (l : List Itm) (t' : Tape), t'.ok ∧ l.length ≤ n ∧ HCall Tryz.prog 21 [.c (.bp 0 0 0), (.c (.d (.lit (.int .i64 (n : Int))))), (.c (.d (.lit (.int .i64 (m : Int)))))] [(.box 0 [.d (numD (t).l), .d (.lit (.int .i64 (t).at_))])] (.c (.d (itmD l))) [(.box 0 [.d (numD (t').l), .d (.lit (.int .i64 (t').at_))])] := by
  obtain ⟨w, t1, ok1, hw, n1⟩ := nextE_h t (n + 1) ht (by omega) (by omega)
  rw [show ((n + 1 : Nat) : Int) = (n : Int) + 1 by omega] at n1
  -- the items, one behind the other
  have hits : ∀ k : Nat, k ≤ w → ∃ (f : Nat → Itm) (ts : Nat → Tape), ts 0 = t1 ∧ (ts k).ok ∧ ∀ i, i < k → ∃ (z : Nat) (t2 : Tape), z < 2 ∧ (f i).name = (⟨#[107]⟩ : ByteArray) ++ (⟨#[UInt8.ofNat (48 + i)]⟩ : ByteArray) ∧ HCall Tryz.prog 30 [.c (.bp 0 0 0), .c (.d (.lit (.int .i64 2)))] [(.box 0 [.d (numD ((ts i)).l), .d (.lit (.int .i64 ((ts i)).at_))])] (.c (.d (.lit (.int .i64 z)))) [(.box 0 [.d (numD (t2).l), .d (.lit (.int .i64 (t2).at_))])] ∧ HCall Tryz.prog 31 [.c (.bp 0 0 0), (.c (.d (.lit (.int .i64 ((z + 1 : Nat) : Int))))), (.c (.d (.lit (.int .i64 (m : Int)))))] [(.box 0 [.d (numD (t2).l), .d (.lit (.int .i64 (t2).at_))])] (.c (.d (exprD (f i).expr))) [(.box 0 [.d (numD ((ts (i + 1))).l), .d (.lit (.int .i64 ((ts (i + 1))).at_))])] := by
    intro k
    induction k with
    | zero => intro _; exact ⟨fun _ => ⟨⟨#[]⟩, []⟩, fun _ => t1, rfl, ok1, fun i hi => by omega⟩
    | succ k ih =>
      intro hk
      obtain ⟨f, ts, e0, okk, hf⟩ := ih (by omega)
      obtain ⟨z, t2, ok2, hz, n2⟩ := nextE_h (ts k) 2 okk (by omega) (by omega)
      obtain ⟨e, t3, ok3, _, c3⟩ := expr_h m h1 hm (z + 1) t2 ok2 (by omega)
      refine ⟨fun i => if i = k then ⟨(⟨#[107]⟩ : ByteArray) ++ (⟨#[UInt8.ofNat (48 + k)]⟩ : ByteArray), e⟩ else f i, fun i => if i = k + 1 then t3 else ts i, by simp [e0], by simp [ok3], fun i hi => ?_⟩
      by_cases him : i = k
      · subst him
        refine ⟨z, t2, hz, by simp, ?_, ?_⟩
        · simp only [show ¬ i = i + 1 by omega, if_false]; exact n2
        · simp only [if_true]; exact c3
      · have := hf i (by omega)
        simp only [if_neg him, show ¬ i = k + 1 by omega, show ¬ i + 1 = k + 1 by omega, if_false]
        exact this
  obtain ⟨f, ts, e0, okw, hf⟩ := hits w (Nat.le_refl _)
  clear hits
  refine ⟨(List.range w).map f, ts w, okw, by simp; omega, ?_⟩
  rw [← e0] at n1
  refine hcallN hT Tryz.func21 Tryz.ntmps21 [.tmp 6] fun B => ?_
  repeat' (first | (with_reducible (first | refine k_seq ?_ | refine k_block ?_ | refine k_skip ?_ | refine k_exit ?_ | refine k_ret ?_ | refine n_seq ?_ | refine n_block ?_ | refine e_seq ?_ | refine e_here ?_ | refine o_exit ?_)) | refine s_reg ?_ | refine s_ifT ?_ | refine s_ifF ?_ | refine r_end ?_ | refine s_move ?_ | refine s_assign ?_ | refine s_int ?_ | refine s_callH [0] (n1) ?_ | refine s_lenA ?_ | refine s_appA ?_ | refine s_bslice ?_ | refine s_build ?_ | refine fh_ret1 def_nil ?_ ?_ | exact memIn_nil | refine memIn_same ?_ | refine m1 ?_ ?_ | exact am_same)
  refine s_own 7 86 2 ?_
  refine s_lp (X := Nat × Nat × Tape) [7, 8, 13, 14, 15, 16, 17, 18, 19, 20, 21, 22, 23, 24, 25, 26, 27, 28, 29] (fun x => x.1 ≤ w ∧ x.2.2 = ts x.1) (fun x lz => (7, .c (.arr 1 x.2.1 x.1)) :: (8, (.c (.d (.lit (.int .i64 ((w - x.1 : Nat) : Int)))))) :: lz) (fun x => [(.box 0 [.d (numD (x.2.2).l), .d (.lit (.int .i64 (x.2.2).at_))]), .arr x.2.1 86 2 (((List.range x.1).map f).map Itm.d)]) (fun x => w - x.1) ((0, 2, ts 0)) ?_ ?_ ?_ ?_
  repeat' (first | exact slots_nil | refine w1 ?_ | exact memIn_nil | refine memIn_same ?_ | refine m1 ?_ ?_ | omega)
  all_goals try (first | rfl | exact ⟨Nat.zero_le _, rfl⟩)
  rintro ⟨i, v, T'⟩ c ⟨hi, hT'⟩
  dsimp only at hi hT' ⊢
  by_cases hlt : i < w
  · obtain ⟨z, t2, hz, hnm, n2, c3⟩ := hf i hlt
    have hdg := digit_c (⟨#[107]⟩ : ByteArray) (by decide) i (by omega)
    rw [← hnm] at hdg
    rw [← hT'] at n2
    rw [show ((z + 1 : Nat) : Int) = 1 + (z : Int) by omega] at c3
    have hs : ((List.range i).map f).map Itm.d ++ [[Dat.lit (.string (f i).name), exprD (f i).expr]] = ((List.range (i + 1)).map f).map Itm.d := by rw [List.range_succ]; simp [Itm.d]
    have hal : (((List.range i).map f).map Itm.d).length = i := by simp
    generalize f i = y at hs hdg c3
    clear hf hnm hT'
    generalize ((List.range i).map f).map Itm.d = A at hs hal ⊢
    generalize hq : ts (i + 1) = T2 at c3
    repeat' (first | (with_reducible (first | refine k_seq ?_ | refine k_block ?_ | refine k_skip ?_ | refine k_exit ?_ | refine k_ret ?_ | refine n_seq ?_ | refine n_block ?_ | refine e_seq ?_ | refine e_here ?_ | refine o_exit ?_)) | refine s_reg ?_ | refine s_ifT ?_ | refine s_ifF ?_ | refine r_end ?_ | refine s_move ?_ | refine s_assign ?_ | refine s_int ?_ | refine s_call (hdg) ?_ | refine s_callH [0] (n2) ?_ | refine s_callH [0] (c3) ?_ | refine s_lenA ?_ | refine s_appA ?_ | refine s_bslice ?_ | refine s_build ?_ | refine fh_ret1 def_nil ?_ ?_ | exact memIn_nil | refine memIn_same ?_ | refine m1 ?_ ?_ | exact am_same)
    (apply s_round ((i + 1, _, T2)); all_goals (try dsimp only); all_goals (try (repeat' (first | exact slots_nil | refine w1 ?_ | exact memIn_nil | refine memIn_same ?_ | refine m1 ?_ ?_ | omega))))
    all_goals first
      | exact ⟨by omega, hq.symm⟩
      | (rw [take_ge (by omega)]; exact hs)
      | skip
  · obtain rfl : i = w := by omega
    rw [hT']
    clear hf
    repeat' (first | (refine s_freeze (r := 1) (m := i) (es1 := ((List.range i).map f).map Itm.d) 7 ?_ (hl := by simp) (hes := take_ge (by rw [List.length_map, List.length_map, List.length_range]; exact Nat.le_refl _))) | (with_reducible (first | refine k_seq ?_ | refine k_block ?_ | refine k_skip ?_ | refine k_exit ?_ | refine k_ret ?_ | refine n_seq ?_ | refine n_block ?_ | refine e_seq ?_ | refine e_here ?_ | refine o_exit ?_)) | refine s_reg ?_ | refine s_ifT ?_ | refine s_ifF ?_ | refine r_end ?_ | refine s_move ?_ | refine s_assign ?_ | refine s_int ?_ | refine s_lenA ?_ | refine s_appA ?_ | refine s_bslice ?_ | refine s_build ?_ | refine fh_ret1 def_nil ?_ ?_ | exact memIn_nil | refine memIn_same ?_ | refine m1 ?_ ?_ | exact am_same)
    all_goals rfl

theorem aggItems_h (m : Nat) (h1 : 1 ≤ m) (hm : m ≤ 1000) (t1 : Tape) (ok1 : t1.ok) : ∀ k : Nat, ∃ (f : Nat → Agg) (ts : Nat → Tape), ts 0 = t1 ∧ (ts k).ok ∧ ∀ i, i < k → ∃ (z : Nat) (t2 : Tape), z < 5 ∧ (f i).name = (⟨#[97]⟩ : ByteArray) ++ (⟨#[UInt8.ofNat (48 + i)]⟩ : ByteArray) ∧ (f i).func = z ∧ HCall Tryz.prog 30 [.c (.bp 0 0 0), .c (.d (.lit (.int .i64 5)))] [(.box 0 [.d (numD ((ts i)).l), .d (.lit (.int .i64 ((ts i)).at_))])] (.c (.d (.lit (.int .i64 z)))) [(.box 0 [.d (numD (t2).l), .d (.lit (.int .i64 (t2).at_))])] ∧
    ((z = 0 ∧ (f i).expr = [] ∧ ts (i + 1) = t2) ∨ (z ≠ 0 ∧ ∃ (q : Nat) (t3 : Tape), q < 2 ∧ HCall Tryz.prog 30 [.c (.bp 0 0 0), .c (.d (.lit (.int .i64 2)))] [(.box 0 [.d (numD (t2).l), .d (.lit (.int .i64 (t2).at_))])] (.c (.d (.lit (.int .i64 q)))) [(.box 0 [.d (numD (t3).l), .d (.lit (.int .i64 (t3).at_))])] ∧ HCall Tryz.prog 31 [.c (.bp 0 0 0), (.c (.d (.lit (.int .i64 ((q + 1 : Nat) : Int))))), (.c (.d (.lit (.int .i64 (m : Int)))))] [(.box 0 [.d (numD (t3).l), .d (.lit (.int .i64 (t3).at_))])] (.c (.d (exprD (f i).expr))) [(.box 0 [.d (numD ((ts (i + 1))).l), .d (.lit (.int .i64 ((ts (i + 1))).at_))])])) := by
  intro k
  induction k with
  | zero => exact ⟨fun _ => ⟨⟨#[]⟩, 0, []⟩, fun _ => t1, rfl, ok1, fun i hi => by omega⟩
  | succ k ih =>
    obtain ⟨f, ts, e0, okk, hf⟩ := ih
    obtain ⟨z, t2, ok2, hz, n2⟩ := nextE_h (ts k) 5 okk (by omega) (by omega)
    obtain ⟨q, t3, ok3, hq, n3⟩ := nextE_h t2 2 ok2 (by omega) (by omega)
    obtain ⟨e, t4, ok4, _, c4⟩ := expr_h m h1 hm (q + 1) t3 ok3 (by omega)
    refine ⟨fun i => if i = k then ⟨(⟨#[97]⟩ : ByteArray) ++ (⟨#[UInt8.ofNat (48 + k)]⟩ : ByteArray), z, if z = 0 then [] else e⟩ else f i, fun i => if i = k + 1 then (if z = 0 then t2 else t4) else ts i, by simp [e0], ?_, fun i hi => ?_⟩
    · simp only [if_true]; split
      · exact ok2
      · exact ok4
    · by_cases him : i = k
      · subst him
        refine ⟨z, t2, hz, by simp, by simp, ?_, ?_⟩
        · simp only [show ¬ i = i + 1 by omega, if_false]; exact n2
        · by_cases hz0 : z = 0
          · exact .inl ⟨hz0, by simp [hz0], by simp [hz0]⟩
          · refine .inr ⟨hz0, q, t3, hq, n3, ?_⟩
            simp only [if_true, if_neg hz0]; exact c4
      · have := hf i (by omega)
        simp only [if_neg him, show ¬ i = k + 1 by omega, show ¬ i + 1 = k + 1 by omega, if_false]
        exact this

theorem aggs_h (t : Tape) (n m : Nat) (ht : t.ok) (hn : n ≤ 3) (h1 : 1 ≤ m) (hm : m ≤ 1000) : ∃ (l : List Agg) (t' : Tape), t'.ok ∧ l.length ≤ n ∧ (∀ x ∈ l, 0 ≤ x.func ∧ x.func ≤ 4) ∧ HCall Tryz.prog 23 [.c (.bp 0 0 0), (.c (.d (.lit (.int .i64 (n : Int))))), (.c (.d (.lit (.int .i64 (m : Int)))))] [(.box 0 [.d (numD (t).l), .d (.lit (.int .i64 (t).at_))])] (.c (.d (aggD l))) [(.box 0 [.d (numD (t').l), .d (.lit (.int .i64 (t').at_))])] := by
  obtain ⟨w, t1, ok1, hw, n1⟩ := nextE_h t (n + 1) ht (by omega) (by omega)
  rw [show ((n + 1 : Nat) : Int) = (n : Int) + 1 by omega] at n1
  obtain ⟨f, ts, e0, okw, hf⟩ := aggItems_h m h1 hm t1 ok1 w
  refine ⟨(List.range w).map f, ts w, okw, by simp; omega, fun x hx => ?_, ?_⟩
  · obtain ⟨i, hi, rfl⟩ := List.mem_map.1 hx
    obtain ⟨z, _, hz, _, hfn, _⟩ := hf i (List.mem_range.1 hi)
    rw [hfn]; omega
  rw [← e0] at n1
  refine hcallN hT Tryz.func23 Tryz.ntmps23 [.tmp 6] fun B => ?_
  repeat' (first | (with_reducible (first | refine k_seq ?_ | refine k_block ?_ | refine k_skip ?_ | refine k_exit ?_ | refine k_ret ?_ | refine n_seq ?_ | refine n_block ?_ | refine e_seq ?_ | refine e_here ?_ | refine o_exit ?_)) | refine s_reg ?_ | refine s_ifT ?_ | refine s_ifF ?_ | refine r_end ?_ | refine s_move ?_ | refine s_assign ?_ | refine s_int ?_ | refine s_loadB1 ?_ | refine s_loadBA ?_ | refine s_fieldB ?_ | refine s_callH [0] (n1) ?_ | refine s_lenA ?_ | refine s_appA ?_ | refine s_storeB ?_ | refine s_bslice ?_ | refine s_alloc ?_ | refine s_build ?_ | refine fh_ret1 def_nil ?_ ?_ | exact memIn_nil | refine memIn_same ?_ | refine m1 ?_ ?_ | exact am_same)
  refine s_own 7 49 3 ?_
  refine s_lp (X := Nat × Nat × Tape) [7, 8, 9, 14, 15, 16, 17, 18, 19, 20, 21, 22, 23, 24, 25, 26, 27, 28, 29, 30, 31, 32, 33, 34, 35, 36, 37] (fun x => x.1 ≤ w ∧ x.2.2 = ts x.1) (fun x lz => (7, .c (.arr 1 x.2.1 x.1)) :: (8, (.c (.d (.lit (.int .i64 ((w - x.1 : Nat) : Int)))))) :: lz) (fun x => [(.box 0 [.d (numD (x.2.2).l), .d (.lit (.int .i64 (x.2.2).at_))]), .arr x.2.1 49 3 (((List.range x.1).map f).map Agg.d)]) (fun x => w - x.1) ((0, 2, ts 0)) ?_ ?_ ?_ ?_
  repeat' (first | exact slots_nil | refine w1 ?_ | exact memIn_nil | refine memIn_same ?_ | refine m1 ?_ ?_ | omega)
  all_goals try (first | rfl | exact ⟨Nat.zero_le _, rfl⟩)
  rintro ⟨i, v, T'⟩ c ⟨hi, hT'⟩
  dsimp only at hi hT' ⊢
  by_cases hlt : i < w
  · obtain ⟨z, t2, hz, hnm, hfn, n2, hrest⟩ := hf i hlt
    have hdg := digit_c (⟨#[97]⟩ : ByteArray) (by decide) i (by omega)
    rw [← hnm] at hdg
    rw [← hT'] at n2
    rw [← hfn] at n2
    have hs : ((List.range i).map f).map Agg.d ++ [[Dat.lit (.string (f i).name), Dat.lit (.int .i64 (f i).func), exprD (f i).expr]] = ((List.range (i + 1)).map f).map Agg.d := by rw [List.range_succ]; simp [Agg.d]
    have hal : (((List.range i).map f).map Agg.d).length = i := by simp
    generalize f i = y at hs hdg n2 hrest hfn
    clear hf hnm hT'
    generalize ((List.range i).map f).map Agg.d = A at hs hal ⊢
    generalize hq : ts (i + 1) = T2 at hrest
    obtain ⟨name, func, expr⟩ := y
    dsimp only at hs hdg n2 hrest hfn
    rcases hrest with ⟨hz0, hex, rfl⟩ | ⟨hz0, q, t3, hq2, n3, c3⟩
    · have hf0 : func = 0 := by omega
      subst hex
      subst hf0
      repeat' (first | (with_reducible (first | refine k_seq ?_ | refine k_block ?_ | refine k_skip ?_ | refine k_exit ?_ | refine k_ret ?_ | refine n_seq ?_ | refine n_block ?_ | refine e_seq ?_ | refine e_here ?_ | refine o_exit ?_)) | refine s_reg ?_ | refine s_ifT ?_ | refine s_ifF ?_ | refine r_end ?_ | refine s_move ?_ | refine s_assign ?_ | refine s_int ?_ | refine s_loadB1 ?_ | refine s_loadBA ?_ | refine s_fieldB ?_ | refine s_call (hdg) ?_ | refine s_callH [0] (n2) ?_ | refine s_lenA ?_ | refine s_appA ?_ | refine s_storeB ?_ | refine s_bslice ?_ | refine s_alloc ?_ | refine s_build ?_ | refine fh_ret1 def_nil ?_ ?_ | exact memIn_nil | refine memIn_same ?_ | refine m1 ?_ ?_ | exact am_same)
      (apply s_round ((i + 1, _, T2)); all_goals (try dsimp only); all_goals (try (repeat' (first | exact slots_nil | refine w1 ?_ | exact memIn_nil | refine memIn_same ?_ | refine m1 ?_ ?_ | omega))))
      all_goals first
        | exact ⟨by omega, hq.symm⟩
        | (rw [take_ge (by omega)]; exact hs)
        | skip
    · have hf0 : func ≠ 0 := by omega
      rw [show ((q + 1 : Nat) : Int) = 1 + (q : Int) by omega] at c3
      repeat' (first | (with_reducible (first | refine k_seq ?_ | refine k_block ?_ | refine k_skip ?_ | refine k_exit ?_ | refine k_ret ?_ | refine n_seq ?_ | refine n_block ?_ | refine e_seq ?_ | refine e_here ?_ | refine o_exit ?_)) | refine s_reg ?_ | refine s_ifT ?_ | refine s_ifF ?_ | refine r_end ?_ | refine s_move ?_ | refine s_assign ?_ | refine s_int ?_ | refine s_loadB1 ?_ | refine s_loadBA ?_ | refine s_fieldB ?_ | refine s_call (hdg) ?_ | refine s_callH [0] (n2) ?_ | refine s_callH [0] (n3) ?_ | refine s_callH [0] (c3) ?_ | refine s_lenA ?_ | refine s_appA ?_ | refine s_storeB ?_ | refine s_bslice ?_ | refine s_alloc ?_ | refine s_build ?_ | refine fh_ret1 def_nil ?_ ?_ | exact memIn_nil | refine memIn_same ?_ | refine m1 ?_ ?_ | exact am_same)
      (apply s_round ((i + 1, _, T2)); all_goals (try dsimp only); all_goals (try (repeat' (first | exact slots_nil | refine w1 ?_ | exact memIn_nil | refine memIn_same ?_ | refine m1 ?_ ?_ | omega))))
      all_goals first
        | exact ⟨by omega, hq.symm⟩
        | (rw [take_ge (by omega)]; exact hs)
        | skip
  · obtain rfl : i = w := by omega
    rw [hT']
    clear hf
    repeat' (first | (refine s_freeze (r := 1) (m := i) (es1 := ((List.range i).map f).map Agg.d) 7 ?_ (hl := by simp) (hes := take_ge (by rw [List.length_map, List.length_map, List.length_range]; exact Nat.le_refl _))) | (with_reducible (first | refine k_seq ?_ | refine k_block ?_ | refine k_skip ?_ | refine k_exit ?_ | refine k_ret ?_ | refine n_seq ?_ | refine n_block ?_ | refine e_seq ?_ | refine e_here ?_ | refine o_exit ?_)) | refine s_reg ?_ | refine s_ifT ?_ | refine s_ifF ?_ | refine r_end ?_ | refine s_move ?_ | refine s_assign ?_ | refine s_int ?_ | refine s_loadB1 ?_ | refine s_loadBA ?_ | refine s_fieldB ?_ | refine s_lenA ?_ | refine s_appA ?_ | refine s_storeB ?_ | refine s_bslice ?_ | refine s_alloc ?_ | refine s_build ?_ | refine fh_ret1 def_nil ?_ ?_ | exact memIn_nil | refine memIn_same ?_ | refine m1 ?_ ?_ | exact am_same)
    all_goals rfl

def sumX (x : Agg) : Agg := if x.func = 0 then x else ⟨x.name, 1, x.expr⟩
end Go.Proofs.YtmpgmjlanngkfaaGreat
end
