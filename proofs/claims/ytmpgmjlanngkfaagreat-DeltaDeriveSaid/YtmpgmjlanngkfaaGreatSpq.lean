/-
  The tape: rows.
-/
import Derived.Test.YtmpgmjlanngkfaaGreatMrg
import Derived.Test.YtmpgmjlanngkfaaGreatVew
section
namespace Go.Proofs.YtmpgmjlanngkfaaGreat
open Go.Abs Go.RowKit
attribute [local irreducible] ARun At MCall PCall HCall Am SF CF CFs Ah Aj Ar fin AW VLe
set_option linter.unusedSimpArgs false
set_option maxRecDepth 100000
set_option maxHeartbeats 4000000
theorem Kb : Val.null.valid = true := by decide +kernel
theorem Ya {α β : Type} {f g : α → β} {l : List α} {i : Nat} {e : α} (h : l[i]? = some e) : ((l.take i).map f ++ (l.drop i).map g)[i]? = some (g e) := by
 have hlt := lt_of_getElem? h
 rw [List.getElem?_append_right (by simp; omega), List.length_map, List.length_take, Nat.min_eq_left (by omega), Nat.sub_self, AD h]; rfl
theorem map_set {α β : Type} {f g : α → β} {l : List α} {i : Nat} {e : α} (h : l[i]? = some e) : ((l.take i).map f ++ (l.drop i).map g).set i (f e) = (l.take (i + 1)).map f ++ (l.drop (i + 1)).map g := by
 have hlt := lt_of_getElem? h
 have hl : ((l.take i).map f).length = i := by simp; omega
 rw [EU f h, AD h, List.set_append_right _ _ (by omega), hl, Nat.sub_self, List.append_assoc]; rfl
theorem Ur {β : Type} {l : List β} {i : Nat} {v : β} (h : l[i]? = some v) : l.set i v = l := by
 apply List.ext_getElem?
 intro j
 by_cases hj : i = j
 ·subst hj; rw [List.getElem?_set_self (lt_of_getElem? h), h]
 ·rw [List.getElem?_set_ne hj]
theorem Oo (t : Tape) : t.short.valid = true := by
 have h : ∀ v ∈ shortVals, v.valid = true := by
   intro v hv
   simp only [shortVals, List.mem_cons, List.not_mem_nil, or_false] at hv
   rcases hv with rfl | rfl | rfl | rfl | rfl | rfl
   ·exact Kb
   all_goals exact E7 _
 unfold Tape.short
 rw [List.getD_eq_getElem?_getD]
 cases hq : shortVals[(t.nx 6).toNat]? with
 | none => exact Kb
 | some v => exact h v (List.mem_of_getElem? hq)
theorem Yb (t : Tape) : -3 ≤ t.num ∧ t.num ≤ 3 := by
 have h : ∀ z ∈ entNums, -3 ≤ z ∧ z ≤ 3 := by decide
 unfold Tape.num
 rw [List.getD_eq_getElem?_getD]
 cases hq : entNums[(t.nx 8).toNat]? with
 | none => decide
 | some v => exact h v (List.mem_of_getElem? hq)
theorem Kc (t : Tape) : ∀ j, ∀ v ∈ (C0 t j).1, v.valid = true
 | 0 => by simp [C0]
 | j + 1 => by
   intro v hv
   rw [C0] at hv
   rcases List.mem_append.1 hv with hv | hv
   ·exact Kc t j v hv
   ·obtain rfl := List.mem_singleton.1 hv; exact Oo _
theorem Kd (t : Tape) : ∀ j, (C0 t j).1.length = j
 | 0 => rfl
 | j + 1 => by rw [C0]; simp [Kd t j]
theorem Lm (t : Tape) (w : Nat) (hw : w ≤ 16) : ∀ m, ∀ e ∈ (Du t w m).1, AQ e.row = true ∧ -3 ≤ e.count ∧ e.count ≤ 3
 | 0 => by simp [Du]
 | m + 1 => by
   intro e he
   rw [Du] at he
   rcases List.mem_append.1 he with he | he
   ·exact Lm t w hw m e he
   ·obtain rfl := List.mem_singleton.1 he
    refine ⟨?_, Yb _⟩
    simp only [AQ, Bool.and_eq_true, decide_eq_true_eq, List.all_eq_true]
    exact ⟨by rw [Kd]; exact hw, Kc _ _⟩
theorem Oq (t : Tape) (w : Nat) : ∀ m, ∀ e ∈ (Du t w m).1, e.row.length = w
 | 0 => by simp [Du]
 | m + 1 => by
   intro e he
   rw [Du] at he
   rcases List.mem_append.1 he with he | he
   ·exact Oq t w m e he
   ·obtain rfl := List.mem_singleton.1 he
    exact Kd _ _
theorem Ko (M : Int) (hM : 0 ≤ M) (l : List Entry) : A6 M l → A6 (M * l.length) (sortE l) := by
 induction l using sortE.induct with
 | case1 l h =>
   intro hw
   rw [sortE, dif_pos h]
   intro e he
   have hm := (List.mem_filter.1 he).1
   have := hw e hm
   have hl : l.length = 1 := by cases l <;> simp at hm h ⊢; omega
   rw [hl]; omega
 | case2 l h ih1 ih2 =>
   intro hw
   rw [sortE, dif_neg h]
   have q1 := ih1 (fun e he => hw e (List.mem_of_mem_take he))
   have q2 := ih2 (fun e he => hw e (List.mem_of_mem_drop he))
   have p1 := Int.mul_nonneg hM (show (0 : Int) ≤ ((l.take (l.length / 2)).length : Int) by omega)
   have p2 := Int.mul_nonneg hM (show (0 : Int) ≤ ((l.drop (l.length / 2)).length : Int) by omega)
   refine BC (EA p1 p2 _ _ q1 q2) ?_
   rw [← Int.mul_add]
   refine Int.mul_le_mul_of_nonneg_left ?_ hM
   simp; omega
theorem Ke {l : List Entry} (h : ∀ e ∈ l, AQ e.row = true ∧ -3 ≤ e.count ∧ e.count ≤ 3) (hl : l.length ≤ 1000) : (Bl l).2 = 0 ∧ Al (Bl l).1 = true ∧ A6 3000 (Bl l).1 ∧ (Bl l).1.length ≤ l.length := by
 have hall : l.all Be = true := List.all_eq_true.2 fun e he => by
  obtain ⟨h1, h2, h3⟩ := h e he
  simp only [Be, Az, Bool.and_eq_true, decide_eq_true_eq]
  exact ⟨h1, by omega, by omega⟩
 have hw : A6 (3 * l.length) (sortE l) := Ko 3 (by omega) l (fun e he => (h e he).2)
 have hw2 : A6 3000 (sortE l) := BC hw (by omega)
 have hlen := Lb l
 have hz : (Bl l).2 = 0 := by
  rw [Bl, if_pos hall, A2, if_neg (by omega), if_pos]
  refine List.all_eq_true.2 fun e he => ?_
  have := hw2 e he
  simp only [Az, Bool.and_eq_true, decide_eq_true_eq]
  omega
 obtain ⟨g1, g2, g3, g4⟩ := HY hz
 rw [g1]
 exact ⟨hz, g3, hw2, hlen⟩
def FF (sg : Bool) (e : Entry) : Entry := if sg = false ∧ e.count < 0 then ⟨e.row, -e.count⟩ else e
theorem Yc (t : Tape) (w n : Nat) (sg : Bool) (ht : t.ok) (hw : w ≤ 16) (hn : n ≤ 999) : ∃ (b : List Entry) (t' : Tape), t'.ok ∧ Al b = true ∧ A6 3000 b ∧ b.length ≤ n ∧ Tiny (3 * n) w b ∧ HCall Tryz.prog 11 [.c (.bp 0 0 0), (.c (.d (.lit (.int .i64 (w : Int))))), (.c (.d (.lit (.int .i64 (n : Int))))), .c (.d (.lit (.bool sg)))] [(.box 0 [.d (Ax (t).l), .d (.lit (.int .i64 (t).at_))])] (.c (.d (Ap b))) [(.box 0 [.d (Ax (t').l), .d (.lit (.int .i64 (t').at_))])] := by
 have hent := RR t w n ht (by omega) (by omega)
 obtain ⟨b1, b2⟩ := t.nx_bd ((n : Int) + 1)
 have hok1 := ht.go ((n : Int) + 1)
 obtain ⟨i0, hi0⟩ := Int.eq_ofNat_of_zero_le b1
 rw [hi0, Int.toNat_natCast] at hent
 rw [hi0] at b1 b2
 have hxo := Md hok1 w i0
 have hgood := Lm (t.go ((n : Int) + 1)) w hw i0
 have hwid := Oq (t.go ((n : Int) + 1)) w i0
 generalize t.go ((n : Int) + 1) = t1 at hent hok1 hxo hgood hwid
 obtain ⟨hok2, hxl⟩ := hxo
 generalize Du t1 w i0 = E at hent hok2 hxl hgood hwid
 obtain ⟨es, t2⟩ := E
 dsimp only at hent hok2 hxl hgood hwid
 have hxn : es.length ≤ n := by omega
 subst hxl
 have hg2 : ∀ e ∈ es.map (FF sg), AQ e.row = true ∧ -3 ≤ e.count ∧ e.count ≤ 3 := fun e he => by
  obtain ⟨x, hx, rfl⟩ := List.mem_map.1 he
  obtain ⟨g1, g2⟩ := hgood x hx
  unfold FF
  split
  ·exact ⟨g1, by simp only; omega⟩
  ·exact ⟨g1, g2⟩
 have hsm := Ke hg2 (by simp; omega)
 have htn : Tiny (3 * n) w (Bl (es.map (FF sg))).1 := by
  rw [(HY hsm.1).1]
  refine (V0 (fun e he => (hg2 e he).1) (fun e he => ?_) (Nat.le_trans (VZ (n := 3) fun e he => ?_) ?_) (by omega)).1
  ·obtain ⟨x, hx, rfl⟩ := List.mem_map.1 he
   have := hwid x hx
   unfold FF
   split <;> exact this
  ·have := (hg2 e he).2
   omega
  ·rw [List.length_map]
   omega
 rw [List.length_map] at hsm
 have hnc := Eq (es.map (FF sg)) (by simp; omega)
 generalize Bl (es.map (FF sg)) = R at hsm hnc htn
 obtain ⟨rb, re⟩ := R
 dsimp only at hsm hnc htn
 refine ⟨rb, t2, hok2, hsm.2.1, hsm.2.2.1, by omega, htn, ?_⟩
 have f9 : List.take es.length ((es.map (FF sg)).map Entry.d) = (es.map (FF sg)).map Entry.d := Ag (by simp)
 refine As hT Tryz.func11 Tryz.ntmps11 [.tmp 8] fun B => ?_
 repeat' (first | refine kz ?_ | refine Ad [0] (hent) ?_ | refine kg ?_ ?_ | exact k0 | refine Ab ?_ | refine m1 ?_ ?_)
 refine AO (X := Nat) [10, 17, 18, 19, 20, 21, 22, 23, 24, 25, 26, 27, 28, 29, 30, 31, 32, 33, 34, 35, 36, 37, 38, 39, 40, 41, 42] (fun x => x ≤ es.length) (fun x lz => (10, (.c (.d (.lit (.int .i64 x))))) :: lz) (fun x => [(.box 0 [.d (Ax (t2).l), .d (.lit (.int .i64 (t2).at_))]), .arr 1 56 2 ((es.take x).map (fun e => (FF sg e).d) ++ (es.drop x).map Entry.d)]) (fun x => es.length - x) (0) ?_ ?_ ?_ ?_
 repeat' (first | exact k0 | refine kw ?_ | refine kv ?_ ?_ | omega)
 rintro i c hi
 by_cases hlt : i < es.length
 ·have hv : es[i]? = some es[i] := List.getElem?_eq_getElem hlt
  have hgc := (hgood _ (List.getElem_mem hlt)).2
  generalize es[i] = e at hv hgc
  have hv1 := Ya (f := fun e => (FF sg e).d) (g := Entry.d) hv
  have hst := map_set (f := fun e => (FF sg e).d) (g := Entry.d) hv
  generalize hA : (es.take i).map (fun e => (FF sg e).d) ++ (es.drop i).map Entry.d = A at hv1 hst
  by_cases hc : sg = false ∧ e.count < 0
  ·obtain ⟨rfl, hc⟩ := hc
   have he : FF false e = ⟨e.row, -e.count⟩ := if_pos ⟨rfl, hc⟩
   simp only [he] at hst
   have hal : A.length = es.length := by rw [← hA]; simp; omega
   repeat' (first | refine kz ?_ | refine kx hv1 ?_ | refine ki ?_ | refine kg ?_ ?_ | exact k0 | refine Ab ?_ | refine m1 ?_ ?_)
   (apply Ae (i + 1); all_goals (try dsimp only); all_goals (try (repeat' (first | exact k0 | refine kw ?_ | refine kv ?_ ?_ | omega))))
   exact hst
  ·have he : FF sg e = e := if_neg hc
   simp only [he] at hst
   rw [Ur hv1] at hst
   have hal : A.length = es.length := by rw [← hA]; simp; omega
   cases sg with
   | true =>
     repeat' (first | refine kz ?_ | refine kx hv1 ?_ | refine ki ?_ | refine kg ?_ ?_ | exact k0 | refine Ab ?_ | refine m1 ?_ ?_)
     (apply Ae (i + 1); all_goals (try dsimp only); all_goals (try (repeat' (first | exact k0 | refine kw ?_ | refine kv ?_ ?_ | omega))))
   | false =>
     have hc : ¬ e.count < 0 := fun h => hc ⟨rfl, h⟩
     repeat' (first | refine kz ?_ | refine kx hv1 ?_ | refine ki ?_ | refine kg ?_ ?_ | exact k0 | refine Ab ?_ | refine m1 ?_ ?_)
     (apply Ae (i + 1); all_goals (try dsimp only); all_goals (try (repeat' (first | exact k0 | refine kw ?_ | refine kv ?_ ?_ | omega))))
 ·rw [Ag (show es.length ≤ i by omega), List.drop_eq_nil_of_le (by omega), List.map_nil, List.append_nil, show (es.map fun e => (FF sg e).d) = (es.map (FF sg)).map Entry.d by rw [List.map_map]; rfl]
  have hl1 : (es.map (FF sg)).length = es.length := by simp
  have hl2 : ((es.map (FF sg)).map Entry.d).length = es.length := by simp
  repeat' (first | refine Aw 9 ?_ (hes := f9) | refine kz ?_ | refine Aa (hnc) ?_ | refine AX Af ?_ ?_ | exact k0 | refine Ab ?_ | refine m1 ?_ ?_)
theorem Us (t : Tape) (w n : Nat) (sg : Bool) (ht : t.ok) (hw : w ≤ 16) (hn : n ≤ 999) : ∃ (b : List Entry) (t' : Tape), t'.ok ∧ Al b = true ∧ A6 3000 b ∧ b.length ≤ n ∧ HCall Tryz.prog 11 [.c (.bp 0 0 0), (.c (.d (.lit (.int .i64 (w : Int))))), (.c (.d (.lit (.int .i64 (n : Int))))), .c (.d (.lit (.bool sg)))] [(.box 0 [.d (Ax (t).l), .d (.lit (.int .i64 (t).at_))])] (.c (.d (Ap b))) [(.box 0 [.d (Ax (t').l), .d (.lit (.int .i64 (t').at_))])] := by
 obtain ⟨b, t', h1, h2, h3, h4, _, h5⟩ := Yc t w n sg ht hw hn
 exact ⟨b, t', h1, h2, h3, h4, h5⟩
def txts : List ByteArray := [⟨#[97]⟩, ⟨#[98]⟩, ⟨#[]⟩, ⟨#[97, 98]⟩, ⟨#[97, 32, 98]⟩, ⟨#[120, 0, 121]⟩, ⟨#[255, 34, 92]⟩, ⟨#[98, 32, 97, 32, 98]⟩, ⟨#[108, 111, 110, 103, 32, 116, 101, 120, 116, 32, 111, 102, 32, 116, 104, 105, 114, 116, 121, 45, 116, 119, 111, 32, 98, 121, 116, 101, 115, 32, 105, 116]⟩, ⟨#[66]⟩]
def sD (s : ByteArray) : List Dat := [.lit (.string s)]
def ints : List Int := [0, 1, 2, 3, -1, -2, 7, 100, 4294967296, -4294967296, 5, 4]
def Tape.text (t : Tape) : Val := Val.ofText (txts.getD (t.nx 10).toNat ⟨#[]⟩)
def Tape.int (t : Tape) : Val := Val.ofInt (ints.getD (t.nx 12).toNat 0)
theorem Uo (t : Tape) (ht : t.ok) : HCall Tryz.prog 127 [.c (.bp 0 0 0)] [(.box 0 [.d (Ax (t).l), .d (.lit (.int .i64 (t).at_))])] (.agg (t.text.d.map .d)) [(.box 0 [.d (Ax (t.go 10).l), .d (.lit (.int .i64 (t.go 10).at_))])] := by
 have hn := DC t 10 ht (by omega) (by omega)
 obtain ⟨b1, b2⟩ := t.nx_bd 10
 have hv : txts[(t.nx 10).toNat]? = some (txts.getD (t.nx 10).toNat ⟨#[]⟩) := by
  rw [List.getD_eq_getElem?_getD, List.getElem?_eq_getElem (by simp [txts]; omega)]; rfl
 have hv1 : (txts.map sD)[(t.nx 10).toNat]? = some (sD (txts.getD (t.nx 10).toNat ⟨#[]⟩)) := by rw [List.getElem?_map, hv]; rfl
 have hr := Gu (txts.getD (t.nx 10).toNat ⟨#[]⟩)
 change PCall _ _ _ (.v (.agg t.text.d)) at hr
 generalize txts.getD (t.nx 10).toNat ⟨#[]⟩ = s at hv hv1 hr
 generalize t.nx 10 = z at hn b1 b2 hv hv1
 generalize t.go 10 = t' at hn
 refine As hT Tryz.func127 Tryz.ntmps127 [.cell 2 73] fun B => ?_
 repeat' (first | refine kz ?_ | refine kx hv1 ?_ | refine ki ?_ | refine Aa (hr) ?_ | refine Ad [0] (hn) ?_ | refine Cn Af ?_ ?_ | exact k0 | refine Ab ?_)
theorem WC (t : Tape) (ht : t.ok) : HCall Tryz.prog 128 [.c (.bp 0 0 0)] [(.box 0 [.d (Ax (t).l), .d (.lit (.int .i64 (t).at_))])] (.agg (t.int.d.map .d)) [(.box 0 [.d (Ax (t.go 12).l), .d (.lit (.int .i64 (t.go 12).at_))])] := by
 have hn := DC t 12 ht (by omega) (by omega)
 obtain ⟨b1, b2⟩ := t.nx_bd 12
 have hv : ints[(t.nx 12).toNat]? = some (ints.getD (t.nx 12).toNat 0) := by
  rw [List.getD_eq_getElem?_getD, List.getElem?_eq_getElem (by simp [ints]; omega)]; rfl
 have hv1 : (ints.map iD)[(t.nx 12).toNat]? = some (iD (ints.getD (t.nx 12).toNat 0)) := by rw [List.getElem?_map, hv]; rfl
 have hr := Ba (ints.getD (t.nx 12).toNat 0)
 change PCall _ _ _ (.v (.agg t.int.d)) at hr
 generalize ints.getD (t.nx 12).toNat 0 = s at hv hv1 hr
 generalize t.nx 12 = z at hn b1 b2 hv hv1
 generalize t.go 12 = t' at hn
 refine As hT Tryz.func128 Tryz.ntmps128 [.cell 2 73] fun B => ?_
 repeat' (first | refine kz ?_ | refine kx hv1 ?_ | refine ki ?_ | refine Aa (hr) ?_ | refine Ad [0] (hn) ?_ | refine Cn Af ?_ ?_ | exact k0 | refine Ab ?_)
def Tape.val (t : Tape) : Val × Tape :=
 if t.nx 5 = 0 then (Val.null, t.go 5)
 else if t.nx 5 = 1 ∨ t.nx 5 = 2 then ((t.go 5).text, (t.go 5).go 10)
 else ((t.go 5).int, (t.go 5).go 12)
theorem Qv (t : Tape) (ht : t.ok) : HCall Tryz.prog 78 [.c (.bp 0 0 0)] [(.box 0 [.d (Ax (t).l), .d (.lit (.int .i64 (t).at_))])] (.agg (t.val.1.d.map .d)) [(.box 0 [.d (Ax (t.val.2).l), .d (.lit (.int .i64 (t.val.2).at_))])] := by
 have hn := DC t 5 ht (by omega) (by omega)
 obtain ⟨b1, b2⟩ := t.nx_bd 5
 have h1 := Uo (t.go 5) (ht.go 5)
 have h2 := WC (t.go 5) (ht.go 5)
 by_cases hz : t.nx 5 = 0
 ·have e : t.val = (Val.null, t.go 5) := if_pos hz
  rw [e]
  rw [hz] at hn
  generalize t.go 5 = t' at hn
  refine As hT Tryz.func78 Tryz.ntmps78 [.cell 2 73] fun B => ?_
  repeat' (first | refine kz ?_ | refine Au rfl (fun hb => ?_) (fun hb => ?_) | refine Ad [0] (hn) ?_ | refine Cn Af ?_ ?_ | exact k0 | refine Ab ?_)
 ·by_cases ho : t.nx 5 = 1 ∨ t.nx 5 = 2
  ·have e : t.val = ((t.go 5).text, (t.go 5).go 10) := by rw [Tape.val, if_neg hz, if_pos ho]
   rw [e]
   generalize t.nx 5 = z at hn hz ho b1 b2
   generalize t.go 5 = t' at hn h1
   refine As hT Tryz.func78 Tryz.ntmps78 [.cell 2 73] fun B => ?_
   repeat' (first | refine kz ?_ | refine Au rfl (fun hb => ?_) (fun hb => ?_) | refine Ad [0] (hn) ?_ | refine Ad [0] (h1) ?_ | refine Cn Af ?_ ?_ | exact k0 | refine Ab ?_)
  ·have e : t.val = ((t.go 5).int, (t.go 5).go 12) := by rw [Tape.val, if_neg hz, if_neg ho]
   rw [e]
   generalize t.nx 5 = z at hn hz ho b1 b2
   generalize t.go 5 = t' at hn h2
   refine As hT Tryz.func78 Tryz.ntmps78 [.cell 2 73] fun B => ?_
   repeat' (first | refine kz ?_ | refine Au rfl (fun hb => ?_) (fun hb => ?_) | refine Ad [0] (hn) ?_ | refine Ad [0] (h2) ?_ | refine Cn Af ?_ ?_ | exact k0 | refine Ab ?_)
theorem Up {t : Tape} (h : t.ok) : t.val.2.ok := by
 unfold Tape.val
 split
 ·exact h.go 5
 ·split
  ·exact (h.go 5).go 10
  ·exact (h.go 5).go 12
def Iq (t : Tape) : Nat → List Val × Tape
 | 0 => ([], t)
 | j + 1 => ((Iq t j).1 ++ [(Iq t j).2.val.1], (Iq t j).2.val.2)
theorem Ma {t : Tape} (h : t.ok) : ∀ j, (Iq t j).2.ok ∧ (Iq t j).1.length = j
 | 0 => ⟨h, rfl⟩
 | j + 1 => by
   obtain ⟨h1, h2⟩ := Ma h j
   exact ⟨Up h1, by rw [Iq]; simp [h2]⟩
theorem Y5 (t : Tape) (n : Nat) (ht : t.ok) (hn : n ≤ 1000) : ∃ (r : List Val) (t' : Tape), t'.ok ∧ r.length ≤ n ∧ HCall Tryz.prog 34 [.c (.bp 0 0 0), (.c (.d (.lit (.int .i64 (n : Int)))))] [(.box 0 [.d (Ax (t).l), .d (.lit (.int .i64 (t).at_))])] (.c (.arr 1 1 r.length)) [(.box 0 [.d (Ax (t').l), .d (.lit (.int .i64 (t').at_))]), .arr 1 73 3 (r.map Val.d)] := by
 have hnx := DC t ((n : Int) + 1) ht (by omega) (by omega)
 obtain ⟨b1, b2⟩ := t.nx_bd ((n : Int) + 1)
 have ht1 := ht.go ((n : Int) + 1)
 obtain ⟨i, hi⟩ := Int.eq_ofNat_of_zero_le b1
 rw [hi] at hnx b1 b2
 generalize t.go ((n : Int) + 1) = t1 at hnx ht1
 obtain ⟨o1, o2⟩ := Ma ht1 i
 refine ⟨(Iq t1 i).1, (Iq t1 i).2, o1, by omega, ?_⟩
 rw [o2]
 have hin : i ≤ 1000 := by omega
 refine As hT Tryz.func34 Tryz.ntmps34 [.tmp 4] fun B => ?_
 repeat' (first | refine kz ?_ | refine Ad [0] (hnx) ?_ | refine kg ?_ ?_ | exact k0 | refine Ab ?_ | refine m1 ?_ ?_)
 refine BA 5 73 3 ?_
 refine AO (X := Nat × Nat) [5, 6, 11, 12, 13, 14, 15, 16, 17, 18, 19] (fun x => x.1 ≤ i) (fun x lz => (5, .c (.arr 1 x.2 x.1)) :: (6, (.c (.d (.lit (.int .i64 ((i - x.1 : Nat) : Int)))))) :: lz) (fun x => [(.box 0 [.d (Ax ((Iq t1 x.1).2).l), .d (.lit (.int .i64 ((Iq t1 x.1).2).at_))]), .arr x.2 73 3 ((Iq t1 x.1).1.map Val.d)]) (fun x => i - x.1) ((0, 2)) ?_ ?_ ?_ ?_
 repeat' (first | exact k0 | refine kw ?_ | refine kv ?_ ?_ | omega)
 rintro ⟨m, k⟩ c hm
 dsimp only at hm ⊢
 obtain ⟨hok, hlen⟩ := Ma ht1 m
 by_cases hlt : m < i
 ·have hv := Qv (Iq t1 m).2 hok
  repeat' (first | refine kz ?_ | refine Ad [0] (hv) ?_ | refine kg ?_ ?_ | exact k0 | refine Ab ?_ | refine m1 ?_ ?_)
  (apply Ae ((m + 1, _)); all_goals (try dsimp only); all_goals (try (repeat' (first | exact k0 | refine w1 ?_ | refine Ab ?_ | refine m1 ?_ ?_ | omega))))
  rw [Iq, List.map_append]; rfl
 ·obtain rfl : m = i := by omega
  repeat' (first | refine kz ?_ | refine kg ?_ ?_ | exact k0 | refine Ab ?_ | refine m1 ?_ ?_)
end Go.Proofs.YtmpgmjlanngkfaaGreat
end
