/-
  Positive, the program's and the document's.
-/
import Derived.Test.YtmpgmjlanngkfaaGreatNrm
import Derived.Test.YtmpgmjlanngkfaaGreatAgp
import Derived.Test.YtmpgmjlanngkfaaGreatArz
import Derived.Test.YtmpgmjlanngkfaaGreatOrd
import Derived.Test.YtmpgmjlanngkfaaGreatRowc
section
namespace Go.Proofs.YtmpgmjlanngkfaaGreat
open Go.Abs Go.RowKit
attribute [local irreducible] ARun Au MCall PCall HCall Ak SF CF CFs Af Ag Ar fin AP VLe
set_option linter.unusedSimpArgs false
set_option maxRecDepth 100000
set_option maxHeartbeats 4000000
def CJ (a b : Val) : Bool := (a.kind == b.kind) && ((a.int == b.int) && (a.text.toList == b.text.toList))
def Bz : List Val → List Val → Bool
 | [], [] => true
 | a :: x, b :: y => CJ a b && Bz x y
 | _, _ => false
theorem E8 (a : Val) : CJ a a = true := by simp [CJ]
theorem Ho : ∀ r : List Val, Bz r r = true
 | [] => rfl
 | a :: r => by simp [Bz, E8, Ho r]
theorem IB : ∀ {r s : List Val}, Bz r s = true → r.length = s.length
 | [], [], _ => rfl
 | a :: x, b :: y, h => by simp [Bz] at h; simp [IB h.2]
 | [], _ :: _, h => by cases h
 | _ :: _, [], h => by cases h
theorem RX (a b : Val) : Cb [.int .i64 a.kind, .int .i64 a.int, .string a.text] [.int .i64 b.kind, .int .i64 b.int, .string b.text] = CJ a b := by
 simp [Cb, Ja, CJ]
theorem UN (r s : List Val) : PC 49 [.one (BP r), .one (BP s)] (.v (.one (.lit (.bool (Bz r s))))) := by
 refine Ac hT Tryz.func49 Tryz.ntmps49 [.tmp 4] fun B => ?_
 refine JD 0 rfl fun hlr => ?_
 simp only [BQ, maxLen] at hlr
 repeat' first | refine kz ?_ | refine AN rfl (fun hb => ?_) (fun hb => ?_) | refine Aw ?_ | refine kf ?_ | fail
 ·refine congrArg Dat.lit (congrArg Value.bool ?_)
  cases h : Bz r s with
  | false => rfl
  | true => have := IB h; omega
 ·have hl : r.length = s.length := by omega
  refine A0 (X := Nat) ([4, 5] ++ List.range' 11 15) (fun x => x ≤ r.length ∧ Bz r s = Bz (r.drop x) (s.drop x)) (fun x lz => (5, (iC x)) :: lz) (fun x => []) (fun x => r.length - x) (0) ?_ ?_ ?_ ?_
  repeat' first | exact k0 | refine kw ?_ | omega
  · exact ⟨by simp, by simp⟩
  rintro i c ⟨hi, hinv⟩
  by_cases hlt : i < r.length
  · obtain ⟨a, hv⟩ := gx hlt
    obtain ⟨b, hu⟩ := gx (l := s) (i := i) (by omega)
    rw [Ay hv, Ay hu, Bz] at hinv
    have hls := RX a b
    repeat' first | refine kz ?_ | refine AN rfl (fun hb => ?_) (fun hb => ?_) | refine AX hv ?_ | refine AX hu ?_ | refine Aw ?_ | refine kf ?_ | fail
    all_goals first
     | (refine congrArg Dat.lit (congrArg Value.bool ?_); rw [hinv]; simp_all <;> done)
     | ((apply Ad (i + 1); all_goals (try dsimp only); all_goals (try (repeat' (first | exact k0 | refine kw ?_ | omega)))); (try exact ⟨by omega, by rw [hinv]; simp_all⟩))
  · repeat' first | refine kz ?_ | refine AN rfl (fun hb => ?_) (fun hb => ?_) | refine Aw ?_ | refine kf ?_ | fail
    refine congrArg Dat.lit (congrArg Value.bool ?_)
    rw [Sd (by omega), Sd (by omega)] at hinv
    rw [hinv]; rfl
def C5 : List Entry → List Entry → Bool
 | [], [] => true
 | a :: x, b :: y => (a.count == b.count) && Bz a.row b.row && C5 x y
 | _, _ => false
theorem Hp : ∀ r : List Entry, C5 r r = true
 | [] => rfl
 | a :: r => by simp [C5, Ho, Hp r]
theorem IC : ∀ {r s : List Entry}, C5 r s = true → r.length = s.length
 | [], [], _ => rfl
 | a :: x, b :: y, h => by simp [C5] at h; simp [IC h.2]
 | [], _ :: _, h => by cases h
 | _ :: _, [], h => by cases h
theorem UO (r s : List Entry) : PC 20 [.one (Am r), .one (Am s)] (.v (.one (.lit (.bool (C5 r s))))) := by
 refine Ac hT Tryz.func20 Tryz.ntmps20 [.tmp 4] fun B => ?_
 refine JD 0 rfl fun hlr => ?_
 simp only [BQ, maxLen] at hlr
 repeat' first | refine kz ?_ | refine AN rfl (fun hb => ?_) (fun hb => ?_) | refine Aw ?_ | refine Aq rfl rfl (fun hb => ?_) (fun hb => ?_) | refine kf ?_ | fail
 ·refine congrArg Dat.lit (congrArg Value.bool ?_)
  cases h : C5 r s with
  | false => rfl
  | true => have := IC h; omega
 ·have hl : r.length = s.length := by omega
  refine A0 (X := Nat) ([4, 5] ++ List.range' 11 31) (fun x => x ≤ r.length ∧ C5 r s = C5 (r.drop x) (s.drop x)) (fun x lz => (5, (iC x)) :: lz) (fun x => []) (fun x => r.length - x) (0) ?_ ?_ ?_ ?_
  repeat' first | exact k0 | refine kw ?_ | omega
  · exact ⟨by simp, by simp⟩
  rintro i c ⟨hi, hinv⟩
  by_cases hlt : i < r.length
  · obtain ⟨a, hv⟩ := gx hlt
    obtain ⟨b, hu⟩ := gx (l := s) (i := i) (by omega)
    rw [Ay hv, Ay hu, C5] at hinv
    repeat' first | refine kz ?_ | refine AN rfl (fun hb => ?_) (fun hb => ?_) | refine AX hv ?_ | refine AX hu ?_ | refine Aw ?_ | refine Aa (UN _ _) ?_ | refine Aq rfl rfl (fun hb => ?_) (fun hb => ?_) | refine kf ?_ | fail
    all_goals first
     | (refine congrArg Dat.lit (congrArg Value.bool ?_); rw [hinv]; simp_all <;> done)
     | ((apply Ad (i + 1); all_goals (try dsimp only); all_goals (try (repeat' (first | exact k0 | refine kw ?_ | omega)))); (try exact ⟨by omega, by rw [hinv]; simp_all⟩))
  · repeat' first | refine kz ?_ | refine AN rfl (fun hb => ?_) (fun hb => ?_) | refine Aw ?_ | refine Aq rfl rfl (fun hb => ?_) (fun hb => ?_) | refine kf ?_ | fail
    refine congrArg Dat.lit (congrArg Value.bool ?_)
    rw [Sd (by omega), Sd (by omega)] at hinv
    rw [hinv]; rfl
theorem Mi (r : List Val) (hr : r.length ≤ 1000000) : PC 98 [.one (BP r)] (.v (.one (BP r))) := by
 refine Ac hT Tryz.func98 Tryz.ntmps98 [.tmp 2] fun B => ?_
 repeat' first | refine kz ?_ | refine AN rfl (fun hb => ?_) (fun hb => ?_) | refine LS (fun b hnil => ?_) | refine kh ?_ ?_ | exact ⟨⟩ | fail
 ·have h := hnil hb
  have : r = [] := by simpa using h
  rw [this]; rfl
 ·simp
 ·rw [Ao (by simp)]; rfl
theorem E9 : DeferOk Tryz.prog 148 0 := by
 refine ⟨⟨_, Tryz.func148, by kernel_rfl, by kernel_rfl⟩, fun vs w hl => ?_⟩
 match vs, hl with
 | [], _ =>
   refine callsD_of_wpS Tryz.func148 rfl fun c₀ cs hu => ?_
   apply wpS_region
   simp [wpOpsS, go_sem, recoverD, hu, Tryz.ntmps148, Exit.thenS]
   cases c₀
   simp_all [bodyPostS, results, Tryz.results148]
def Fm (l : List Entry) : List Entry := (l.filter fun e => decide (0 < e.count)).map fun e => ⟨e.row, 1⟩
def BO (l : List Entry) : List Entry := if Aj l then Fm l else []
theorem RY {l : List Entry} {i : Nat} {e : Entry} (h : l[i]? = some e) : Fm (l.take (i + 1)) = Fm (l.take i) ++ (if 0 < e.count then [⟨e.row, 1⟩] else []) := by
 unfold Fm
 rw [IU, h, XP, Ah']
 congr 1
 by_cases hq : 0 < e.count <;> simp [hq]
theorem Ov : ∀ {l : List Entry} {p : Option Entry}, goodFrom p l = true → ∀ e ∈ l, e.ok = true
 | [], _, _, e, he => by cases he
 | x :: l, p, h, e, he => by
   simp only [goodFrom, Bi] at h
   rcases Fb.1 he with rfl | he
   ·exact h.1.1
   ·exact Ov h.2 e he
theorem AF {l : List Entry} (h : Aj l = true) : l.length ≤ 4096 ∧ ∀ e ∈ l, AD e.row = true ∧ (-262144 ≤ e.count ∧ e.count ≤ 262144) ∧ e.count ≠ 0 := by
 simp only [Aj, Bi, decide_eq_true_eq] at h
 refine ⟨h.1, fun e he => ?_⟩
 have := Ov h.2 e he
 simp only [Entry.ok, Av, Bi, decide_eq_true_eq] at this
 exact ⟨this.1.1, this.1.2, this.2⟩
theorem CA {r : List Val} (h : AD r = true) : r.length ≤ 16 := by
 simp only [AD, Bi, decide_eq_true_eq] at h; exact h.1
theorem RZ (l : List Entry) : PC 92 [.one (Am l)] (.v (.one (Am (BO l)))) := by
 have hvc := BT l
 cases hb : Aj l with
 | false =>
   rw [hb] at hvc
   have he : BO l = [] := by simp [BO, hb]
   rw [he]
   refine Ac hT Tryz.func92 Tryz.ntmps92 [.tmp 2] fun B => ?_
   repeat' first | refine kz ?_ | refine AN rfl (fun hb => ?_) (fun hb => ?_) | refine Aw ?_ | refine Aa (hvc) ?_ | refine BA (by repeat (first | exact Ae | refine As E9 ?_)) ?_ | refine kh ?_ ?_ | exact ⟨⟩ | fail
   all_goals rfl
 | true =>
   rw [hb] at hvc
   have he : BO l = Fm l := by simp [BO, hb]
   obtain ⟨hl, hm⟩ := AF hb
   rw [he]
   refine Ac hT Tryz.func92 Tryz.ntmps92 [.tmp 2] fun B => ?_
   repeat' first | refine kz ?_ | refine AN rfl (fun hb => ?_) (fun hb => ?_) | refine Aw ?_ | refine Aa (hvc) ?_ | refine BA (by repeat (first | exact Ae | refine As E9 ?_)) ?_ | refine kh ?_ ?_ | exact ⟨⟩ | fail
   refine Cr 3 56 2 ?_
   refine A0 (X := Nat × Nat) ([3, 5] ++ List.range' 11 15) (fun x => x.1 ≤ l.length) (fun x lz => (3, .c (.arr 0 x.2 (Fm (l.take x.1)).length)) :: (11, (iC x.1)) :: lz) (fun x => [.arr x.2 56 2 ((Fm (l.take x.1)).map Entry.d)]) (fun x => l.length - x.1) ((0, 1)) ?_ ?_ ?_ ?_
   repeat' first | exact k0 | refine kw ?_ | refine kv ?_ ?_ | omega
   rintro ⟨i, k⟩ c hi
   dsimp only at hi ⊢
   have hsl : (Fm (l.take i)).length ≤ i := by
    unfold Fm
    rw [BQ]
    refine LF (Sl ..) (by simp; omega)
   by_cases hlt : i < l.length
   ·have hv : l[i]? = some l[i] := Bh hlt
    have hro := (hm _ (Fp hlt)).1
    generalize l[i] = e at hv hro
    have hsn := RY hv
    have hrl := CA hro
    have hcl := Mi e.row (by omega)
    repeat' first | refine kz ?_ | refine AN rfl (fun hb => ?_) (fun hb => ?_) | refine AX hv ?_ | refine Aw ?_ | refine Aa (hcl) ?_ | refine BA (by repeat (first | exact Ae | refine As E9 ?_)) ?_ | refine kh ?_ ?_ | exact ⟨⟩ | fail
    ·rw [if_pos hb] at hsn
     apply Ad ((i + 1, _)) <;> (try dsimp only) <;> try repeat' first | exact k0 | refine w1 ?_ | refine w5 ?_ ?_ | refine Ab ?_ | refine m1 ?_ ?_ | omega
     ·rw [hsn]; simp
     ·rw [hsn, Ah']; rfl
    ·rw [if_neg (by omega), List.append_nil] at hsn
     apply Ad ((i + 1, _)) <;> (try dsimp only) <;> try repeat' first | exact k0 | refine w1 ?_ | refine w5 ?_ ?_ | refine Ab ?_ | refine m1 ?_ ?_ | omega
     all_goals (rw [hsn])
   ·rw [Ao (by omega)]
    repeat' first | refine kz ?_ | refine AN rfl (fun hb => ?_) (fun hb => ?_) | refine Aw ?_ | refine BA (by repeat (first | exact Ae | refine As E9 ?_)) ?_ | refine kh ?_ ?_ | exact ⟨⟩ | fail
    ·simp
    ·rw [Ao (by simp)]; rfl
def Fh (l : List Entry) : Int := l.foldl (fun s e => s + e.count) 0
def cU (l : List Entry) : Int := if Aj l then Fh l else 0
def CM (t : Tape) : Nat → List Val × Tape
 | 0 => ([], t)
 | j + 1 => ((CM t j).1 ++ [(CM t j).2.short], (CM t j).2.go 6)
def entNums : List Int := [1, 1, 1, 2, -1, 3, -2, 0]
def Tape.num (t : Tape) : Int := entNums.getD (t.nx 8).toNat 0
def C3 (t : Tape) (w : Nat) : Nat → List Entry × Tape
 | 0 => ([], t)
 | m + 1 => ((C3 t w m).1 ++ [⟨(CM (C3 t w m).2 w).1, (CM (C3 t w m).2 w).2.num⟩], (CM (C3 t w m).2 w).2.go 8)
theorem Mk {t : Tape} (h : t.ok) : ∀ j, (CM t j).2.ok ∧ (CM t j).1.length = j
 | 0 => ⟨h, rfl⟩
 | j + 1 => by
   obtain ⟨h1, h2⟩ := Mk h j
   exact ⟨h1.go 6, by rw [CM]; simp [h2]⟩
theorem I4 {t : Tape} (h : t.ok) (w : Nat) : ∀ m, (C3 t w m).2.ok ∧ (C3 t w m).1.length = m
 | 0 => ⟨h, rfl⟩
 | m + 1 => by
   obtain ⟨h1, h2⟩ := I4 h w m
   exact ⟨(Mk h1 w).1.go 8, by rw [C3]; simp [h2]⟩
theorem Lw (t : Tape) (w n : Nat) (ht : t.ok) (hw : w ≤ 1000) (hn : n ≤ 1000) : HC 32 [.c (.bp 0 0 0), (iC (w : Int)), (iC (n : Int))] [(tB t)] (.c (.arr 1 1 (t.nx ((n : Int) + 1)).toNat)) [(.box 0 [.d (Dh ((C3 (t.go ((n : Int) + 1)) w (t.nx ((n : Int) + 1)).toNat).2).l), .d (.lit (.int .i64 ((C3 (t.go ((n : Int) + 1)) w (t.nx ((n : Int) + 1)).toNat).2).at_))]), .arr 1 56 2 ((C3 (t.go ((n : Int) + 1)) w (t.nx ((n : Int) + 1)).toNat).1.map Entry.d)] := by
 have hnx := Ii t ((n : Int) + 1) ht (by omega) (by omega)
 obtain ⟨b1, b2⟩ := t.nx_bd ((n : Int) + 1)
 have ht1 := ht.go ((n : Int) + 1)
 obtain ⟨i, hi⟩ := UY b1
 rw [hi] at hnx b1 b2 ⊢
 rw [QL]
 generalize t.go ((n : Int) + 1) = t1 at hnx ht1
 have hin : i ≤ 1000 := by omega
 refine AI hT Tryz.func32 Tryz.ntmps32 [.tmp 6] fun B => ?_
 repeat' first | refine kz ?_ | refine Aw ?_ | refine Ah [0] (hnx) ?_ | refine kg ?_ ?_ | exact k0 | refine Ab ?_ | refine m1 ?_ ?_ | refine m2 ?_ ?_
 refine Cr 7 56 2 ?_
 refine A0 (X := Nat × Nat) (List.range' 7 4 ++ List.range' 15 24) (fun x => x.1 ≤ i) (fun x lz => (7, .c (.arr 1 x.2 x.1)) :: (8, (iC ((i - x.1 : Nat) : Int))) :: lz) (fun x => [(.box 0 [.d (Dh ((C3 t1 w x.1).2).l), .d (.lit (.int .i64 ((C3 t1 w x.1).2).at_))]), .arr x.2 56 2 ((C3 t1 w x.1).1.map Entry.d)]) (fun x => i - x.1) ((0, 2)) ?_ ?_ ?_ ?_
 repeat' first | exact k0 | refine kw ?_ | refine kv ?_ ?_ | omega
 rintro ⟨m, k⟩ c hm
 dsimp only at hm ⊢
 obtain ⟨hok, hlen⟩ := I4 ht1 w m
 have hstep : C3 t1 w (m + 1) = ((C3 t1 w m).1 ++ [⟨(CM (C3 t1 w m).2 w).1, (CM (C3 t1 w m).2 w).2.num⟩], (CM (C3 t1 w m).2 w).2.go 8) := rfl
 by_cases hlt : m < i
 ·generalize hE : C3 t1 w m = E at hok hlen hstep
  obtain ⟨el, T⟩ := E
  dsimp only at hok hlen hstep ⊢
  repeat' first | refine kz ?_ | refine Aw ?_ | refine kg ?_ ?_ | exact k0 | refine Ab ?_ | refine m1 ?_ ?_ | refine m2 ?_ ?_
  refine Cr 9 73 3 ?_
  refine A0 (X := Nat × Nat) ([9, 10] ++ List.range' 19 10) (fun x => x.1 ≤ w) (fun x lz => (9, .c (.arr 2 x.2 x.1)) :: (10, (iC x.1)) :: lz) (fun x => [(.box 0 [.d (Dh ((CM T x.1).2).l), .d (.lit (.int .i64 ((CM T x.1).2).at_))]), .arr k 56 2 (el.map Entry.d), .arr x.2 73 3 ((CM T x.1).1.map Val.d)]) (fun x => w - x.1) ((0, c + 1)) ?_ ?_ ?_ ?_
  repeat' first | exact k0 | refine kw ?_ | refine kv ?_ ?_ | omega
  rintro ⟨j, k2⟩ c2 hj
  dsimp only at hj ⊢
  obtain ⟨rok, rlen⟩ := Mk hok j
  by_cases hlt2 : j < w
  ·have hsh := WB (CM T j).2 rok
   repeat' first | refine kz ?_ | refine Aw ?_ | refine Ah [0] (hsh) ?_ | refine kg ?_ ?_ | exact k0 | refine Ab ?_ | refine m1 ?_ ?_ | refine m2 ?_ ?_
   apply Ad ((j + 1, _)) <;> (try dsimp only) <;> try repeat' first | exact k0 | refine w1 ?_ | refine Ab ?_ | refine m1 ?_ ?_ | refine m2 ?_ ?_ | omega
   rw [CM, Ah']; rfl
  ·obtain rfl : j = w := by omega
   have hnx := Ii (CM T j).2 8 rok (by omega) (by omega)
   obtain ⟨q1, q2⟩ := (CM T j).2.nx_bd 8
   have hvn : (entNums.map iD)[((CM T j).2.nx 8).toNat]? = some (iD (CM T j).2.num) := by
    rw [B2]
    unfold Tape.num
    rw [PI, Bh (by simp [entNums]; omega)]; rfl
   have hf9 : List.take j ((CM T j).1.map Val.d) = (CM T j).1.map Val.d := Ao (by simp; omega)
   repeat' first | refine Bc 9 ?_ (hes := hf9) | refine kz ?_ | refine AX hvn ?_ | refine Aw ?_ | refine Ah [0] (hnx) ?_ | refine Bb Ae ?_ ?_ | exact k0 | refine Ab ?_ | refine m1 ?_ ?_ | refine m2 ?_ ?_
   apply Ad ((m + 1, _)) <;> (try dsimp only) <;> try repeat' first | exact k0 | refine w1 ?_ | refine Ab ?_ | refine m1 ?_ ?_ | refine m2 ?_ ?_ | omega
   ·rw [hstep]
   ·rw [hstep, Ah']; rfl
 ·obtain rfl : m = i := by omega
  repeat' first | refine kz ?_ | refine Aw ?_ | refine kg ?_ ?_ | exact k0 | refine Ab ?_ | refine m1 ?_ ?_ | refine m2 ?_ ?_
structure Trm where
 op : Int
 v : Val
 col : Int
def Trm.d (t : Trm) : List Dat := [.lit (.int .i64 t.op), .lit (.int .i64 t.v.kind), .lit (.int .i64 t.v.int), .lit (.string t.v.text), .lit (.int .i64 t.col)]
def Bw (e : List Trm) : Dat := .sl (e.map Trm.d)
def Fj (op : Int) : Int :=
 if op = 1 ∨ op = 2 then 0
 else if op = 3 ∨ op = 9 ∨ op = 13 ∨ op = 16 then 1
 else if op = 18 then 3
 else if 1 ≤ op ∧ op ≤ 18 then 2
 else -1
theorem L9 (op : Int) : -1 ≤ Fj op ∧ Fj op ≤ 3 := by
 unfold Fj
 split
 ·omega
 split
 ·omega
 split
 ·omega
 split <;> omega
theorem Ma (op : Int) : PC 156 [.one (.lit (.int .i64 op))] (.v (.one (.lit (.int .i64 (Fj op))))) := by
 refine Ac hT Tryz.func156 Tryz.ntmps156 [.tmp 2] fun B => ?_
 repeat' first | refine kz ?_ | refine AN rfl (fun hb => ?_) (fun hb => ?_) | refine kf ?_ | fail
 all_goals (refine congrArg Dat.lit (congrArg (Value.int _) ?_); unfold Fj; simp_all)
 all_goals omega
theorem O7 (op : Int) : PC 72 [.one (.lit (.int .i64 op))] (.v (.one (.lit (.int .i64 (Fj op))))) := by
 refine Ac hT Tryz.func72 Tryz.ntmps72 [.tmp 2] fun B => ?_
 repeat' first | refine kz ?_ | refine AN rfl (fun hb => ?_) (fun hb => ?_) | refine Aq rfl rfl (fun hb => ?_) (fun hb => ?_) | refine kf ?_ | fail
 all_goals (refine congrArg Dat.lit (congrArg (Value.int _) ?_); unfold Fj; simp_all)
 all_goals omega
def G9 (t : Trm) : Bool :=
 if t.op = 1 then decide (t.col = 0) && decide (t.v.kind ≠ 0) && t.v.valid
 else if t.op = 2 then decide (0 ≤ t.col) && t.v.same Val.null
 else decide (t.col = 0) && t.v.same Val.null
def DT (t : Trm) : Bool := decide (0 ≤ Fj t.op) && G9 t
theorem TQ (v : Val) : v.same Val.null = ((v.kind == 0) && ((v.int == 0) && v.text.toList.isEmpty)) := by
 rw [Val.same, ← F9]; rfl
theorem Qn (a b : Int) : (a == b) = decide (a = b) := by
 rw [U3]; simp
theorem NT (t : Trm) : PC 203 [.agg t.d] (.v (.one (.lit (.bool (DT t))))) := by
 have h1 := I6 t.v
 have h2 := Ma t.op
 refine Ac hT Tryz.func203 Tryz.ntmps203 [.tmp 2] fun B => ?_
 repeat' first | refine kz ?_ | refine AN rfl (fun hb => ?_) (fun hb => ?_) | refine Aa (h1) ?_ | refine Aa (h2) ?_ | refine Aq rfl rfl (fun hb => ?_) (fun hb => ?_) | refine kf ?_ | fail
 all_goals (refine congrArg Dat.lit (congrArg Value.bool ?_); unfold DT G9; simp_all [TQ, F9, Cb, Ja])
 all_goals first | exact Qn _ _ | (intros; omega)
def Ap (l : List Entry) : Bool := Aj l && l.all (fun e => decide (0 ≤ e.count))
theorem DY (l : List Entry) : PC 87 [.one (Am l)] (.v (.one (.lit (.bool (Ap l))))) := by
 have hvc := BT l
 cases hb : Aj l with
 | false =>
   rw [hb] at hvc
   have he : Ap l = false := by simp [Ap, hb]
   rw [he]
   refine Ac hT Tryz.func87 Tryz.ntmps87 [.tmp 2] fun B => ?_
   repeat' first | refine kz ?_ | refine Aw ?_ | refine Aa (hvc) ?_ | refine kf ?_ | fail
   all_goals rfl
 | true =>
   rw [hb] at hvc
   have he : Ap l = l.all (fun e => decide (0 ≤ e.count)) := by simp [Ap, hb]
   obtain ⟨hl, hm⟩ := AF hb
   rw [he]
   refine Ac hT Tryz.func87 Tryz.ntmps87 [.tmp 2] fun B => ?_
   repeat' first | refine kz ?_ | refine Aw ?_ | refine Aa (hvc) ?_ | refine kf ?_ | fail
   refine A0 (X := Nat) ([2, 4] ++ List.range' 10 8) (fun x => x ≤ l.length ∧ (l.take x).all (fun e => decide (0 ≤ e.count)) = true) (fun x lz => (10, (iC x)) :: lz) (fun x => []) (fun x => l.length - x) (0) ?_ ?_ ?_ ?_
   repeat' first | exact k0 | refine kw ?_ | omega
   ·exact ⟨by simp, by simp⟩
   rintro i c ⟨hi, hinv⟩
   by_cases hlt : i < l.length
   ·obtain ⟨e, hv⟩ := gx hlt
    by_cases hr : e.count < 0
    ·rw [Ee (fun e : Entry => decide (0 ≤ e.count)) hv (by simpa using hr)]
     repeat' first | refine kz ?_ | refine AX hv ?_ | refine Aw ?_ | refine kf ?_ | fail
     all_goals rfl
    ·repeat' first | refine kz ?_ | refine AX hv ?_ | refine Aw ?_ | refine kf ?_ | fail
     apply Ad (i + 1) <;> (try dsimp only) <;> try repeat' first | exact k0 | refine kw ?_ | omega
     exact ⟨by omega, Dg (fun e : Entry => decide (0 ≤ e.count)) hv hinv (by simp; omega)⟩
   ·rw [Ao (by omega)] at hinv
    rw [hinv]
    repeat' first | refine kz ?_ | refine Aw ?_ | refine kf ?_ | fail
    all_goals rfl
end Go.Proofs.YtmpgmjlanngkfaaGreat
end
