/-
  The tape: expressions.
-/
import Derived.Test.YtmpgmjlanngkfaaGreatRek
import Derived.Test.YtmpgmjlanngkfaaGreatAss
import Derived.Test.YtmpgmjlanngkfaaGreatOpa
import Derived.Test.YtmpgmjlanngkfaaGreatHoa
import Derived.Test.YtmpgmjlanngkfaaGreatAgr
section
namespace Go.Proofs.YtmpgmjlanngkfaaGreat
open Go.Abs Go.RowKit
attribute [local irreducible] ARun kont MCall PCall HCall resVal SF CF CFs defersOk slotsIn memIn fin finM VLe
set_option linter.unusedSimpArgs false
set_option maxRecDepth 100000
set_option maxHeartbeats 4000000
theorem null_valid : Val.null.valid = true := by decide +kernel
theorem map_at {α β : Type} {f g : α → β} {l : List α} {i : Nat} {e : α} (h : l[i]? = some e) : ((l.take i).map f ++ (l.drop i).map g)[i]? = some (g e) := by
  have hlt := lt_of_getElem? h
  rw [List.getElem?_append_right (by simp; omega), List.length_map, List.length_take, Nat.min_eq_left (by omega), Nat.sub_self, drop_cons h]; rfl
theorem map_set {α β : Type} {f g : α → β} {l : List α} {i : Nat} {e : α} (h : l[i]? = some e) : ((l.take i).map f ++ (l.drop i).map g).set i (f e) = (l.take (i + 1)).map f ++ (l.drop (i + 1)).map g := by
  have hlt := lt_of_getElem? h
  have hl : ((l.take i).map f).length = i := by simp; omega
  rw [take_map f h, drop_cons h, List.set_append_right _ _ (by omega), hl, Nat.sub_self, List.append_assoc]; rfl
theorem set_same {β : Type} {l : List β} {i : Nat} {v : β} (h : l[i]? = some v) : l.set i v = l := by
  apply List.ext_getElem?
  intro j
  by_cases hj : i = j
  · subst hj; rw [List.getElem?_set_self (lt_of_getElem? h), h]
  · rw [List.getElem?_set_ne hj]
theorem short_valid (t : Tape) : t.short.valid = true := by
  have h : ∀ v ∈ shortVals, v.valid = true := by
    intro v hv
    simp only [shortVals, List.mem_cons, List.not_mem_nil, or_false] at hv
    rcases hv with rfl | rfl | rfl | rfl | rfl | rfl
    · exact null_valid
    all_goals exact clean_valid' _
  unfold Tape.short
  rw [List.getD_eq_getElem?_getD]
  cases hq : shortVals[(t.nx 6).toNat]? with
  | none => exact null_valid
  | some v => exact h v (List.mem_of_getElem? hq)
theorem num_bd (t : Tape) : -3 ≤ t.num ∧ t.num ≤ 3 := by
  have h : ∀ z ∈ entNums, -3 ≤ z ∧ z ≤ 3 := by decide
  unfold Tape.num
  rw [List.getD_eq_getElem?_getD]
  cases hq : entNums[(t.nx 8).toNat]? with
  | none => decide
  | some v => exact h v (List.mem_of_getElem? hq)
theorem rowS_valid (t : Tape) : ∀ j, ∀ v ∈ (rowS t j).1, v.valid = true
  | 0 => by simp [rowS]
  | j + 1 => by
    intro v hv
    rw [rowS] at hv
    rcases List.mem_append.1 hv with hv | hv
    · exact rowS_valid t j v hv
    · obtain rfl := List.mem_singleton.1 hv; exact short_valid _
theorem rowS_len (t : Tape) : ∀ j, (rowS t j).1.length = j
  | 0 => rfl
  | j + 1 => by rw [rowS]; simp [rowS_len t j]
theorem entS_good (t : Tape) (w : Nat) (hw : w ≤ 16) : ∀ m, ∀ e ∈ (entS t w m).1, rowOK e.row = true ∧ -3 ≤ e.count ∧ e.count ≤ 3
  | 0 => by simp [entS]
  | m + 1 => by
    intro e he
    rw [entS] at he
    rcases List.mem_append.1 he with he | he
    · exact entS_good t w hw m e he
    · obtain rfl := List.mem_singleton.1 he
      refine ⟨?_, num_bd _⟩
      simp only [rowOK, Bool.and_eq_true, decide_eq_true_eq, List.all_eq_true]
      exact ⟨by rw [rowS_len]; exact hw, rowS_valid _ _⟩
theorem entS_wid (t : Tape) (w : Nat) : ∀ m, ∀ e ∈ (entS t w m).1, e.row.length = w
  | 0 => by simp [entS]
  | m + 1 => by
    intro e he
    rw [entS] at he
    rcases List.mem_append.1 he with he | he
    · exact entS_wid t w m e he
    · obtain rfl := List.mem_singleton.1 he
      exact rowS_len _ _
theorem sortE_withinM (M : Int) (hM : 0 ≤ M) (l : List Entry) : within M l → within (M * l.length) (sortE l) := by
  induction l using sortE.induct with
  | case1 l h =>
    intro hw
    rw [sortE, dif_pos h]
    intro e he
    have hm := (List.mem_filter.1 he).1
    have := hw e hm
    have hl : l.length = 1 := by cases l <;> simp at hm h ⊢; omega
    rw [hl]; omega
  | case2 l h ih1 ih2 =>
    intro hw
    rw [sortE, dif_neg h]
    have q1 := ih1 (fun e he => hw e (List.mem_of_mem_take he))
    have q2 := ih2 (fun e he => hw e (List.mem_of_mem_drop he))
    have p1 := Int.mul_nonneg hM (show (0 : Int) ≤ ((l.take (l.length / 2)).length : Int) by omega)
    have p2 := Int.mul_nonneg hM (show (0 : Int) ≤ ((l.drop (l.length / 2)).length : Int) by omega)
    refine within_mono (mergeE_within p1 p2 _ _ q1 q2) ?_
    rw [← Int.mul_add]
    refine Int.mul_le_mul_of_nonneg_left ?_ hM
    simp; omega
theorem norm_small {l : List Entry} (h : ∀ e ∈ l, rowOK e.row = true ∧ -3 ≤ e.count ∧ e.count ≤ 3) (hl : l.length ≤ 1000) : (normE l).2 = 0 ∧ bagValid (normE l).1 = true ∧ within 3000 (normE l).1 ∧ (normE l).1.length ≤ l.length := by
  have hall : l.all entryIn = true := List.all_eq_true.2 fun e he => by
    obtain ⟨h1, h2, h3⟩ := h e he
    simp only [entryIn, countOK, Bool.and_eq_true, decide_eq_true_eq]
    exact ⟨h1, by omega, by omega⟩
  have hw : within (3 * l.length) (sortE l) := sortE_withinM 3 (by omega) l (fun e he => (h e he).2)
  have hw2 : within 3000 (sortE l) := within_mono hw (by omega)
  have hlen := sortE_len l
  have hz : (normE l).2 = 0 := by
    rw [normE, if_pos hall, fitsE, if_neg (by omega), if_pos]
    refine List.all_eq_true.2 fun e he => ?_
    have := hw2 e he
    simp only [countOK, Bool.and_eq_true, decide_eq_true_eq]
    omega
  obtain ⟨g1, g2, g3, g4⟩ := norm_good hz
  rw [g1]
  exact ⟨hz, g3, hw2, hlen⟩
def absE (sg : Bool) (e : Entry) : Entry := if sg = false ∧ e.count < 0 then ⟨e.row, -e.count⟩ else e
def txts : List ByteArray := [⟨#[97]⟩, ⟨#[98]⟩, ⟨#[]⟩, ⟨#[97, 98]⟩, ⟨#[97, 32, 98]⟩, ⟨#[120, 0, 121]⟩, ⟨#[255, 34, 92]⟩, ⟨#[98, 32, 97, 32, 98]⟩, ⟨#[108, 111, 110, 103, 32, 116, 101, 120, 116, 32, 111, 102, 32, 116, 104, 105, 114, 116, 121, 45, 116, 119, 111, 32, 98, 121, 116, 101, 115, 32, 105, 116]⟩, ⟨#[66]⟩]
def sD (s : ByteArray) : List Dat := [.lit (.string s)]
def ints : List Int := [0, 1, 2, 3, -1, -2, 7, 100, 4294967296, -4294967296, 5, 4]
def Tape.text (t : Tape) : Val := Val.ofText (txts.getD (t.nx 10).toNat ⟨#[]⟩)
def Tape.int (t : Tape) : Val := Val.ofInt (ints.getD (t.nx 12).toNat 0)
theorem text_h (t : Tape) (ht : t.ok) : HCall Tryz.prog 127 [.c (.bp 0 0 0)] [(.box 0 [.d (numD (t).l), .d (.lit (.int .i64 (t).at_))])] (.agg (t.text.d.map .d)) [(.box 0 [.d (numD (t.go 10).l), .d (.lit (.int .i64 (t.go 10).at_))])] := by
  have hn := next_h t 10 ht (by omega) (by omega)
  obtain ⟨b1, b2⟩ := t.nx_bd 10
  have hv : txts[(t.nx 10).toNat]? = some (txts.getD (t.nx 10).toNat ⟨#[]⟩) := by
    rw [List.getD_eq_getElem?_getD, List.getElem?_eq_getElem (by simp [txts]; omega)]; rfl
  have hv1 : (txts.map sD)[(t.nx 10).toNat]? = some (sD (txts.getD (t.nx 10).toNat ⟨#[]⟩)) := by rw [List.getElem?_map, hv]; rfl
  have hr := refText_c (txts.getD (t.nx 10).toNat ⟨#[]⟩)
  change PCall _ _ _ (.v (.agg t.text.d)) at hr
  generalize txts.getD (t.nx 10).toNat ⟨#[]⟩ = s at hv hv1 hr
  generalize t.nx 10 = z at hn b1 b2 hv hv1
  generalize t.go 10 = t' at hn
  refine hcallN hT Tryz.func127 Tryz.ntmps127 [.cell 2 73] fun B => ?_
  repeat' (first | refine ks ?_ | refine ko ?_ | refine s_indexD ?_ (hel := (by first | exact idx_map hv1 (by omega) | exact hv1 | exact rfl)) | refine s_call (hr) ?_ | refine s_callH [0] (hn) ?_ | refine fh_cellG def_nil ?_ ?_ | exact k0 | refine memIn_same ?_)
theorem int_h (t : Tape) (ht : t.ok) : HCall Tryz.prog 128 [.c (.bp 0 0 0)] [(.box 0 [.d (numD (t).l), .d (.lit (.int .i64 (t).at_))])] (.agg (t.int.d.map .d)) [(.box 0 [.d (numD (t.go 12).l), .d (.lit (.int .i64 (t.go 12).at_))])] := by
  have hn := next_h t 12 ht (by omega) (by omega)
  obtain ⟨b1, b2⟩ := t.nx_bd 12
  have hv : ints[(t.nx 12).toNat]? = some (ints.getD (t.nx 12).toNat 0) := by
    rw [List.getD_eq_getElem?_getD, List.getElem?_eq_getElem (by simp [ints]; omega)]; rfl
  have hv1 : (ints.map iD)[(t.nx 12).toNat]? = some (iD (ints.getD (t.nx 12).toNat 0)) := by rw [List.getElem?_map, hv]; rfl
  have hr := refInt_c (ints.getD (t.nx 12).toNat 0)
  change PCall _ _ _ (.v (.agg t.int.d)) at hr
  generalize ints.getD (t.nx 12).toNat 0 = s at hv hv1 hr
  generalize t.nx 12 = z at hn b1 b2 hv hv1
  generalize t.go 12 = t' at hn
  refine hcallN hT Tryz.func128 Tryz.ntmps128 [.cell 2 73] fun B => ?_
  repeat' (first | refine ks ?_ | refine ko ?_ | refine s_indexD ?_ (hel := (by first | exact idx_map hv1 (by omega) | exact hv1 | exact rfl)) | refine s_call (hr) ?_ | refine s_callH [0] (hn) ?_ | refine fh_cellG def_nil ?_ ?_ | exact k0 | refine memIn_same ?_)
def Tape.val (t : Tape) : Val × Tape :=
  if t.nx 5 = 0 then (Val.null, t.go 5)
  else if t.nx 5 = 1 ∨ t.nx 5 = 2 then ((t.go 5).text, (t.go 5).go 10)
  else ((t.go 5).int, (t.go 5).go 12)
def rowV (t : Tape) : Nat → List Val × Tape
  | 0 => ([], t)
  | j + 1 => ((rowV t j).1 ++ [(rowV t j).2.val.1], (rowV t j).2.val.2)
theorem sumK_ge {r : List Val} : ∀ {l : List Entry}, (∀ e ∈ l, 0 ≤ e.count) → 0 ≤ sumK l r
  | [], _ => Int.le_refl _
  | e :: l, h => by
    have h1 := sumK_ge (r := r) (l := l) fun x hx => h x (by simp [hx])
    have h2 := h e (by simp)
    rw [sumK]; split <;> omega
theorem bagP_h (t : Tape) (w n : Nat) (ht : t.ok) (hw : w ≤ 16) (hn : n ≤ 999) : ∃ (b : List Entry) (t' : Tape), t'.ok ∧ bagValid b = true ∧ within 3000 b ∧ b.length ≤ n ∧ Tiny (3 * n) w b ∧ (∀ e ∈ b, 0 < e.count) ∧ HCall Tryz.prog 11 [.c (.bp 0 0 0), (.c (.d (.lit (.int .i64 (w : Int))))), (.c (.d (.lit (.int .i64 (n : Int))))), .c (.d (.lit (.bool false)))] [(.box 0 [.d (numD (t).l), .d (.lit (.int .i64 (t).at_))])] (.c (.d (bagD b))) [(.box 0 [.d (numD (t').l), .d (.lit (.int .i64 (t').at_))])] := by
  have hent := entries_h t w n ht (by omega) (by omega)
  obtain ⟨b1, b2⟩ := t.nx_bd ((n : Int) + 1)
  have hok1 := ht.go ((n : Int) + 1)
  obtain ⟨i0, hi0⟩ := Int.eq_ofNat_of_zero_le b1
  rw [hi0, Int.toNat_natCast] at hent
  rw [hi0] at b1 b2
  have hxo := entS_ok hok1 w i0
  have hgood := entS_good (t.go ((n : Int) + 1)) w hw i0
  have hwid := entS_wid (t.go ((n : Int) + 1)) w i0
  generalize t.go ((n : Int) + 1) = t1 at hent hok1 hxo hgood hwid
  obtain ⟨hok2, hxl⟩ := hxo
  generalize entS t1 w i0 = E at hent hok2 hxl hgood hwid
  obtain ⟨es, t2⟩ := E
  dsimp only at hent hok2 hxl hgood hwid
  have hxn : es.length ≤ n := by omega
  subst hxl
  have hg2 : ∀ e ∈ es.map (absE false), rowOK e.row = true ∧ -3 ≤ e.count ∧ e.count ≤ 3 := fun e he => by
    obtain ⟨x, hx, rfl⟩ := List.mem_map.1 he
    obtain ⟨g1, g2⟩ := hgood x hx
    unfold absE
    split
    · exact ⟨g1, by simp only; omega⟩
    · exact ⟨g1, g2⟩
  have hsm := norm_small hg2 (by simp; omega)
  have htn : Tiny (3 * n) w (normE (es.map (absE false))).1 := by
    rw [(norm_good hsm.1).1]
    refine (tiny_of (fun e he => (hg2 e he).1) (fun e he => ?_) (Nat.le_trans (absS_le (n := 3) fun e he => ?_) ?_) (by omega)).1
    · obtain ⟨x, hx, rfl⟩ := List.mem_map.1 he
      have := hwid x hx
      unfold absE
      split <;> exact this
    · have := (hg2 e he).2
      omega
    · rw [List.length_map]
      omega
  have hpos : ∀ e ∈ (normE (es.map (absE false))).1, 0 < e.count := by
    obtain ⟨q1, q2, _, q4⟩ := norm_good hsm.1
    rw [q1]
    intro e he
    have h1 := q4 e.row
    rw [sumK_mem (apart_of_sorted q2.up) he (rowCmp_ok.refl _)] at h1
    have h2 := sumK_ge (r := e.row) (l := es.map (absE false)) fun x hx => by
      obtain ⟨y, _, rfl⟩ := List.mem_map.1 hx
      unfold absE
      split
      · dsimp only; omega
      · rename_i hq
        have : ¬ y.count < 0 := fun h => hq ⟨rfl, h⟩
        omega
    have h3 := q2.nz e he
    omega
  rw [List.length_map] at hsm
  have hnc := normalize_c (es.map (absE false)) (by simp; omega)
  generalize normE (es.map (absE false)) = R at hsm hnc htn hpos
  obtain ⟨rb, re⟩ := R
  dsimp only at hsm hnc htn hpos
  refine ⟨rb, t2, hok2, hsm.2.1, hsm.2.2.1, by omega, htn, hpos, ?_⟩
  have f9 : List.take es.length ((es.map (absE false)).map Entry.d) = (es.map (absE false)).map Entry.d := take_ge (by simp)
  refine hcallN hT Tryz.func11 Tryz.ntmps11 [.tmp 8] fun B => ?_
  repeat' (first | refine ks ?_ | refine ko ?_ | refine s_callH [0] (hent) ?_ | refine kg ?_ ?_ | exact k0 | refine memIn_same ?_ | refine m1 ?_ ?_)
  refine s_lp (X := Nat) [10, 17, 18, 19, 20, 21, 22, 23, 24, 25, 26, 27, 28, 29, 30, 31, 32, 33, 34, 35, 36, 37, 38, 39, 40, 41, 42] (fun x => x ≤ es.length) (fun x lz => (10, (.c (.d (.lit (.int .i64 x))))) :: lz) (fun x => [(.box 0 [.d (numD (t2).l), .d (.lit (.int .i64 (t2).at_))]), .arr 1 56 2 ((es.take x).map (fun e => (absE false e).d) ++ (es.drop x).map Entry.d)]) (fun x => es.length - x) (0) ?_ ?_ ?_ ?_
  repeat' (first | exact slots_nil | refine kw ?_ | exact memIn_nil | refine kv ?_ ?_ | omega)
  rintro i c hi
  by_cases hlt : i < es.length
  · have hv : es[i]? = some es[i] := List.getElem?_eq_getElem hlt
    have hgc := (hgood _ (List.getElem_mem hlt)).2
    generalize es[i] = e at hv hgc
    have hv1 := map_at (f := fun e => (absE false e).d) (g := Entry.d) hv
    have hst := map_set (f := fun e => (absE false e).d) (g := Entry.d) hv
    generalize hA : (es.take i).map (fun e => (absE false e).d) ++ (es.drop i).map Entry.d = A at hv1 hst
    by_cases hc : e.count < 0
    · have he : absE false e = ⟨e.row, -e.count⟩ := if_pos ⟨rfl, hc⟩
      simp only [he] at hst
      have hal : A.length = es.length := by rw [← hA]; simp; omega
      repeat' (first | refine ks ?_ | refine ko ?_ | refine s_loadA1 ?_ (he' := (by first | exact hv1 | exact rfl)) | refine s_storeA ?_ (hj := (by first | exact hv1 | exact rfl)) | refine kg ?_ ?_ | exact k0 | refine memIn_same ?_ | refine m1 ?_ ?_)
      (apply s_round (i + 1); all_goals (try dsimp only); all_goals (try (repeat' (first | exact slots_nil | refine kw ?_ | exact memIn_nil | refine kv ?_ ?_ | omega))))
      exact hst
    · have he : absE false e = e := if_neg fun q => hc q.2
      simp only [he] at hst
      rw [set_same hv1] at hst
      have hal : A.length = es.length := by rw [← hA]; simp; omega
      repeat' (first | refine ks ?_ | refine ko ?_ | refine s_loadA1 ?_ (he' := (by first | exact hv1 | exact rfl)) | refine s_storeA ?_ (hj := (by first | exact hv1 | exact rfl)) | refine kg ?_ ?_ | exact k0 | refine memIn_same ?_ | refine m1 ?_ ?_)
      (apply s_round (i + 1); all_goals (try dsimp only); all_goals (try (repeat' (first | exact slots_nil | refine kw ?_ | exact memIn_nil | refine kv ?_ ?_ | omega))))
  · rw [take_ge (show es.length ≤ i by omega), List.drop_eq_nil_of_le (by omega), List.map_nil, List.append_nil, show (es.map fun e => (absE false e).d) = (es.map (absE false)).map Entry.d by rw [List.map_map]; rfl]
    have hl1 : (es.map (absE false)).length = es.length := by simp
    have hl2 : ((es.map (absE false)).map Entry.d).length = es.length := by simp
    repeat' (first | refine s_freeze 9 ?_ (hes := f9) | refine ks ?_ | refine ko ?_ | refine s_call (hnc) ?_ | refine fh_ret1 def_nil ?_ ?_ | exact memIn_nil | refine memIn_same ?_ | refine m1 ?_ ?_ | exact am_same)
end Go.Proofs.YtmpgmjlanngkfaaGreat
end
section
namespace Go.Abs
open Go.RowKit
section
variable {P : Program} {T : TypeId → Option TI} {F0 : Nat → Prop} {w0 : World}
variable {dr : Bool} {ops rest : List Oper} {K : St → Prop} {n : Nat} {sl : List (Nat × SVal)} {mem : List Blk} {ck : Nat} {df : List (FuncId × List Cell)} {acc : List Nat}
variable {d : Tmp} {ty : TypeId} {pos : String} {aft : Array Edge} {g : Option (Nat × Bool)}
theorem s_bsliceO [tc : TC P T] {t e : TypeId} {len : Nat} {parts : Array (Nat × Operand)} {i ei : TI} {es es' : List (List Dat)} {r : Nat} {mem' : List Blk} (h : Reg P F0 w0 dr ops K rest ⟨n, (d, .c (.arr r (ck + 1) len)) :: sl, mem', ck + 1, df⟩ (2 :: acc)) (hw : GW ops g sl := by first | exact trivial | exact rfl) (ht : T t = some i := by exact rfl) (hi : i.desc = .slice e := by exact rfl) (hei : T e = some ei := by exact rfl)
    (hc : (Nat.blt 0 len && Nat.blt 0 ei.size && Nat.beq ei.zero.length ei.size && Nat.ble (len * ei.size) 16777216 && Nat.beq parts.size len) = true := by exact rfl) (hp : partsS sl ei.size parts.toList 0 = some es := by exact rfl) (hn : es = es' := by repeat' (first | exact nfNil rfl | apply nfCons rfl)) (hr : mem.length = r := by exact rfl) (hm' : mem ++ [.arr (ck + 1) e ei.size es'] = mem' := by repeat' (first | exact nfNil rfl | apply nfCons rfl)) :
    Reg P F0 w0 dr ops K (⟨some d, .buildSlice t len parts, ty, pos, aft, g⟩ :: rest) ⟨n, sl, mem, ck, df⟩ acc := by
  subst hm'; subst hn; subst hr
  refine at2 (df' := []) hw (fun B σ E a w hF hw0 he hmm hck hr hB hd next Q hnx => ?_) h
  subst hF; subst hw0; subst hmm; subst hck
  obtain ⟨a1, a2, a3, a4, a5⟩ := i
  simp only at hi
  subst hi
  have hu : P.underlying t = some (.slice e) := (tc.ok t _ ht).desc
  simp only [Bool.and_eq_true, Nat.beq_eq, Nat.ble_eq, Nat.blt, Nat.succ_le_iff] at hc
  obtain ⟨⟨⟨⟨h1, h2⟩, h3⟩, h4⟩, h5⟩ := hc
  have h5' : parts.toList.length = len := by simpa using h5
  have hq := partsS_eq (τ := σ) parts.toList _ (fun p hp => he p.2 (by simp only [Op.operands]; simp; exact ⟨p.1, by simpa using hp⟩)) es hp
  have hsz := (tc.ok e ei hei).sizeOf (w := w)
  obtain ⟨fi, z, hi1, hi2, hi3, hi4, hi5⟩ := (tc.ok e ei hei).info
  obtain ⟨cells', q1, q2, q3, q4, q5, q6⟩ := parts_fill (fun x => hr.ev x) ei.size parts.toList 0 es ((Array.range (len * ei.size)).map (z.cells[· % z.cells.size]!)) hq (by simp [h5'])
  have hcs : cells'.size = len * ei.size := by rw [q2]; simp
  have hrep : ∀ (i j : Nat) el v x, es[i]? = some el → el[j]? = some x → cells'[i * ei.size + j]? = some v → DRep E.F w v x := fun i j el v x b1 b2 b3 => q6 i j el v x b1 b2 (by simpa using b3)
  have hone : ∀ v ∈ cells', v.oneCell' = true := fun v hv => by
    obtain ⟨q, hq1, hq2⟩ := Array.getElem_of_mem hv
    have hqd := Nat.div_add_mod q ei.size
    have hlt : q % ei.size < ei.size := Nat.mod_lt _ h2
    have hdl : q / ei.size < len := by
      rw [Nat.div_lt_iff_lt_mul h2, ← hcs]; exact hq1
    have e1 : es[q / ei.size]? = some (es[q / ei.size]'(by omega)) := List.getElem?_eq_getElem _
    have l1 := q4 _ (List.mem_of_getElem? e1)
    have e2 : (es[q / ei.size]'(by omega))[q % ei.size]? = some ((es[q / ei.size]'(by omega))[q % ei.size]'(by omega)) := List.getElem?_eq_getElem _
    exact CRep.one (CRep.d (E := E) (hrep _ _ _ v _ e1 e2 (by rw [Nat.mul_comm, hqd, ← hq2]; simp [hq1])))
  have hnz : len * ei.size ≠ 0 := by
    have : 0 < len * ei.size := Nat.mul_pos h1 h2
    omega
  have hlm : len ≤ maxLen := by
    have : len ≤ len * ei.size := Nat.le_mul_of_pos_right _ h2
    simp only [maxLen]; omega
  have hnew := hr.1.newArr (w' := w.alloc (.cells cells' e)) e ei.size len es h2 q4 (by omega) hlm ((Bel.refl _ w).alloc hr.1.le0 _) (fun k hk => Bel.heap_alloc w _ k hk) (.inr ⟨cells', Go.heap_alloc_new w _, hcs, hone, hrep⟩)
  have hmap : (parts.map fun (i, x) => (i, a.eval x)).toList = parts.toList.map fun p => (p.1, a.eval p.2) := by simp
  have hrun : (Instr.buildSlice t len (parts.map fun (i, x) => (i, a.eval x))).run P w = .ok (.slice (some ⟨w.heap.size, 0, none⟩) len len) (w.alloc (.cells cells' e)) := by
    simp only [Instr.buildSlice, Sem.run_bind, run_underlying hu, Result.andThen_ok, hsz, hmap]
    rw [if_neg (show ¬ len * ei.size > 2 ^ 24 by omega)]
    simp only [Sem.run_pure, Result.andThen_ok, if_neg hnz, Sem.run_bind, zeroValue, typeInfo, run_program, hi1, hi4]
    rw [q1]
    simp only [Sem.run_bind, newRow, run_newObj, Result.andThen_ok, Sem.run_pure, World.alloc_eq]
  unfold Oper.wp
  rw [show (execOp a.eval ⟨some d, .buildSlice t len parts, ty, pos, aft, g⟩).run P w = .ok (.value (.slice (some ⟨w.heap.size, 0, none⟩) len len)) (w.alloc (.cells cells' e)) by simp at hrun; simp [execOp, hrun]]
  refine hnx _ _ _ [] _ _ ⟨rfl, rfl, rfl, rfl⟩ ⟨_, ?_, hB.trans hnew.2⟩
  rw [upd_putO]
  exact hr.putOE hnew.2 hnew.1 hd (.c (.arr _ _ _ _ rfl (by simp [Env.upd]) (fun _ => .inr (by simp [Env.upd]; exact h1))))
end
end Go.Abs
end
section
namespace Go.Proofs.YtmpgmjlanngkfaaGreat
open Go.Abs Go.RowKit
attribute [local irreducible] ARun kont MCall PCall HCall resVal SF CF CFs defersOk slotsIn memIn fin finM VLe
set_option linter.unusedSimpArgs false
set_option maxRecDepth 100000
set_option maxHeartbeats 4000000
theorem nextE_h (t : Tape) (n : Nat) (ht : t.ok) (h1 : 1 ≤ n) (h2 : n ≤ 1000000) : ∃ (v : Nat) (t' : Tape), t'.ok ∧ v < n ∧ HCall Tryz.prog 30 [.c (.bp 0 0 0), .c (.d (.lit (.int .i64 n)))] [(.box 0 [.d (numD (t).l), .d (.lit (.int .i64 (t).at_))])] (.c (.d (.lit (.int .i64 v)))) [(.box 0 [.d (numD (t').l), .d (.lit (.int .i64 (t').at_))])] := by
  have h := next_h t n ht (by omega) (by omega)
  obtain ⟨b1, b2⟩ := t.nx_bd n
  have e : t.nx n = ((t.nx n).toNat : Int) := by omega
  rw [e] at h
  exact ⟨_, _, ht.go n, by omega, h⟩
def ColB (n : Nat) (x : Trm) : Prop := x.op = 2 → 0 ≤ x.col ∧ x.col < n
theorem leaf_h (t : Tape) (n : Nat) (ht : t.ok) (h1 : 1 ≤ n) (hn : n ≤ 1000) : ∃ (x : Trm) (t' : Tape), t'.ok ∧ ColB n x ∧ HCall Tryz.prog 71 [.c (.bp 0 0 0), (.c (.d (.lit (.int .i64 (n : Int)))))] [(.box 0 [.d (numD (t).l), .d (.lit (.int .i64 (t).at_))])] (.c (.d (exprD [x]))) [(.box 0 [.d (numD (t').l), .d (.lit (.int .i64 (t').at_))])] := by
  obtain ⟨v1, t1, ok1, l1, n1⟩ := nextE_h t 3 ht (by omega) (by omega)
  by_cases h0 : v1 = 0
  · subst h0
    obtain ⟨v2, t2, ok2, l2, n2⟩ := nextE_h t1 2 ok1 (by omega) (by omega)
    by_cases h3 : v2 = 0
    · subst h3
      have hc := text_h t2 ok2
      refine ⟨⟨1, t2.text, 0⟩, t2.go 10, ok2.go 10, fun h => absurd (show (1 : Int) = 2 from h) (by decide), ?_⟩
      generalize t2.go 10 = t3 at hc
      generalize t2.text = v at hc
      refine hcallN hT Tryz.func71 Tryz.ntmps71 [.tmp 4] fun B => ?_
      repeat' (first | refine ks ?_ | refine ko ?_ | refine s_callH [0] (n1) ?_ | refine s_callH [0] (n2) ?_ | refine s_callH [0] (hc) ?_ | refine kg ?_ ?_ | exact k0 | refine memIn_same ?_)
    · have hc := int_h t2 ok2
      refine ⟨⟨1, t2.int, 0⟩, t2.go 12, ok2.go 12, fun h => absurd (show (1 : Int) = 2 from h) (by decide), ?_⟩
      generalize t2.go 12 = t3 at hc
      generalize t2.int = v at hc
      refine hcallN hT Tryz.func71 Tryz.ntmps71 [.tmp 4] fun B => ?_
      repeat' (first | refine ks ?_ | refine ko ?_ | refine s_callH [0] (n1) ?_ | refine s_callH [0] (n2) ?_ | refine s_callH [0] (hc) ?_ | refine kg ?_ ?_ | exact k0 | refine memIn_same ?_)
  · obtain ⟨v2, t2, ok2, l2, n2⟩ := nextE_h t1 n ok1 h1 (by omega)
    refine ⟨⟨2, Val.null, v2⟩, t2, ok2, fun _ => ⟨Int.natCast_nonneg _, by show (v2 : Int) < n; omega⟩, ?_⟩
    refine hcallN hT Tryz.func71 Tryz.ntmps71 [.tmp 4] fun B => ?_
    repeat' (first | refine ks ?_ | refine ko ?_ | refine s_callH [0] (n1) ?_ | refine s_callH [0] (n2) ?_ | refine kg ?_ ?_ | exact k0 | refine memIn_same ?_)
theorem exprC_h (n : Nat) (h1 : 1 ≤ n) (hn : n ≤ 1000) : ∀ (dp : Nat) (t : Tape), t.ok → dp ≤ 8 → ∃ (e : List Trm) (t' : Tape), t'.ok ∧ e.length ≤ 4 ^ dp ∧ (∀ x ∈ e, ColB n x) ∧ HCall Tryz.prog 31 [.c (.bp 0 0 0), (.c (.d (.lit (.int .i64 (dp : Int))))), (.c (.d (.lit (.int .i64 (n : Int)))))] [(.box 0 [.d (numD (t).l), .d (.lit (.int .i64 (t).at_))])] (.c (.d (exprD e))) [(.box 0 [.d (numD (t').l), .d (.lit (.int .i64 (t').at_))])] := by
  intro dp
  induction dp with
  | zero =>
    intro t ht _
    obtain ⟨x, t', ok', hx, hc⟩ := leaf_h t n ht h1 hn
    refine ⟨[x], t', ok', by simp, by simpa using hx, ?_⟩
    refine hcallN hT Tryz.func31 Tryz.ntmps31 [.tmp 6] fun B => ?_
    repeat' (first | refine ks ?_ | refine ko ?_ | refine s_callH [0] (hc) ?_ | refine kf ?_ | refine kg ?_ ?_ | exact k0 | refine memIn_same ?_ | refine m1 ?_ ?_)
  | succ dp ih =>
    intro t ht hdp
    have hpow : 1 ≤ 4 ^ dp := Nat.pos_of_ne_zero (by simp)
    have hpow2 : 4 ^ dp ≤ 4 ^ 7 := Nat.pow_le_pow_right (by omega) (by omega)
    have hpow3 : 4 ^ (dp + 1) = 4 * 4 ^ dp := by rw [Nat.pow_succ, Nat.mul_comm]
    by_cases hd0 : dp = 0
    · subst hd0
      obtain ⟨x, t', ok', hx, hc⟩ := leaf_h t n ht h1 hn
      refine ⟨[x], t', ok', by simp, by simpa using hx, ?_⟩
      clear ih
      refine hcallN hT Tryz.func31 Tryz.ntmps31 [.tmp 6] fun B => ?_
      repeat' (first | refine ks ?_ | refine ko ?_ | refine s_callH [0] (hc) ?_ | refine kf ?_ | refine kg ?_ ?_ | exact k0 | refine memIn_same ?_ | refine m1 ?_ ?_)
    obtain ⟨v1, t1, ok1, l1, n1⟩ := nextE_h t 4 ht (by omega) (by omega)
    by_cases h0 : v1 = 0
    · subst h0
      obtain ⟨x, t', ok', hx, hc⟩ := leaf_h t1 n ok1 h1 hn
      refine ⟨[x], t', ok', by simp; omega, by simpa using hx, ?_⟩
      clear ih
      refine hcallN hT Tryz.func31 Tryz.ntmps31 [.tmp 6] fun B => ?_
      repeat' (first | refine ks ?_ | refine ko ?_ | refine s_callH [0] (n1) ?_ | refine s_callH [0] (hc) ?_ | refine kf ?_ | refine kg ?_ ?_ | exact k0 | refine memIn_same ?_ | refine m1 ?_ ?_)
    obtain ⟨v2, t2, ok2, l2, n2⟩ := nextE_h t1 16 ok1 (by omega) (by omega)
    have ha := refArity_c ((3 : Int) + v2)
    obtain ⟨k, hk⟩ := Int.eq_ofNat_of_zero_le (show 0 ≤ aryE ((3 : Int) + v2) by
      unfold aryE
      split
      · omega
      split
      · omega
      split
      · omega
      split <;> omega)
    have hk3 : k ≤ 3 := by have := (aryE_bd ((3 : Int) + v2)).2; omega
    rw [hk] at ha
    have hops : ∀ m : Nat, m ≤ 3 → ∃ (f : Nat → List Trm) (ts : Nat → Tape), ts 0 = t2 ∧ ∀ i, i < m → (ts i).ok ∧ (ts (i + 1)).ok ∧ ((f i).length ≤ 4 ^ dp ∧ ∀ x ∈ f i, ColB n x) ∧ HCall Tryz.prog 31 [.c (.bp 0 0 0), (.c (.d (.lit (.int .i64 (dp : Int))))), (.c (.d (.lit (.int .i64 (n : Int)))))] [(.box 0 [.d (numD ((ts i)).l), .d (.lit (.int .i64 ((ts i)).at_))])] (.c (.d (exprD (f i)))) [(.box 0 [.d (numD ((ts (i + 1))).l), .d (.lit (.int .i64 ((ts (i + 1))).at_))])] := by
      intro m
      induction m with
      | zero => intro _; exact ⟨fun _ => [], fun _ => t2, rfl, fun i hi => by omega⟩
      | succ m ihm =>
        intro hm
        obtain ⟨f, ts, e0, hf⟩ := ihm (by omega)
        have okm : (ts m).ok := by
          cases m with
          | zero => rw [e0]; exact ok2
          | succ m => exact (hf m (by omega)).2.1
        obtain ⟨e, t', ok', hle, hcb, hc⟩ := ih (ts m) okm (by omega)
        refine ⟨fun i => if i = m then e else f i, fun i => if i = m + 1 then t' else ts i, by simp [e0], fun i hi => ?_⟩
        by_cases him : i = m
        · subst him
          simp only [if_true, show ¬ i = i + 1 by omega, if_false]
          exact ⟨okm, ok', ⟨hle, hcb⟩, hc⟩
        · have := hf i (by omega)
          simp only [if_neg him, show ¬ i = m + 1 by omega, show ¬ i + 1 = m + 1 by omega, if_false]
          exact this
    obtain ⟨f, ts, e0, hf⟩ := hops 3 (by omega)
    clear hops ih
    have hcat : ∀ i, ∃ L : List Trm, L = ⟨(3 : Int) + v2, Val.null, 0⟩ :: ((List.range i).map f).flatten := fun i => ⟨_, rfl⟩
    obtain ⟨cat, hcat⟩ : ∃ cat : Nat → List Trm, ∀ i, cat i = ⟨(3 : Int) + v2, Val.null, 0⟩ :: ((List.range i).map f).flatten := ⟨fun i => _, fun i => rfl⟩
    have hc0 : cat 0 = [⟨(3 : Int) + v2, Val.null, 0⟩] := by rw [hcat]; rfl
    have hcs : ∀ i, cat (i + 1) = cat i ++ f i := fun i => by rw [hcat, hcat, List.range_succ]; simp
    have hcl : ∀ i, i ≤ 3 → (cat i).length ≤ 1 + i * 4 ^ dp := by
      intro i
      induction i with
      | zero => intro _; rw [hc0]; simp
      | succ i ihi =>
        intro hi
        have h1 := ihi (by omega)
        have h2 := (hf i (by omega)).2.2.1.1
        rw [hcs, List.length_append, Nat.add_mul, Nat.one_mul]; omega
    have hck : (cat k).length ≤ 4 ^ (dp + 1) := by
      have h1 := hcl k hk3
      have h2 : k * 4 ^ dp ≤ 3 * 4 ^ dp := Nat.mul_le_mul_right _ hk3
      omega
    have okk : (ts k).ok := by
      cases k with
      | zero => rw [e0]; exact ok2
      | succ k => exact (hf k (by omega)).2.1
    have hcb : ∀ i, i ≤ 3 → ∀ x ∈ cat i, ColB n x := by
      intro i
      induction i with
      | zero =>
        intro _ x hx
        rw [hc0] at hx
        obtain rfl := List.mem_singleton.1 hx
        intro h
        have h : (3 : Int) + v2 = 2 := h
        omega
      | succ i ihi =>
        intro hi x hx
        rw [hcs] at hx
        rcases List.mem_append.1 hx with hx | hx
        · exact ihi (by omega) x hx
        · exact (hf i (by omega)).2.2.1.2 x hx
    refine ⟨cat k, ts k, okk, hck, hcb k hk3, ?_⟩
    clear hcb
    have hfr : List.take (cat k).length ((cat k).map Trm.d) = (cat k).map Trm.d := take_ge (by simp)
    clear hcat
    rw [← e0] at n2
    refine hcallN hT Tryz.func31 Tryz.ntmps31 [.tmp 6] fun B => ?_
    repeat' (first | refine s_bsliceO (r := 1) ?_ | refine ks ?_ | refine ko ?_ | refine s_call (ha) ?_ | refine s_callH [0] (n1) ?_ | refine s_callH [0] (n2) ?_ | refine s_kF ?_ | refine fh_ret1 def_nil ?_ ?_ | exact memIn_nil | refine memIn_same ?_ | refine m1 ?_ ?_ | exact am_same)
    refine s_lp (X := Nat × Nat × Nat × List Trm × Tape) [8, 9, 28, 29, 30, 31, 32, 33, 34, 35, 36, 37, 38] (fun x => x.1 ≤ k ∧ x.2.2.1 = x.2.2.2.1.length ∧ x.2.2.2.1 = cat x.1 ∧ x.2.2.2.2 = ts x.1) (fun x lz => (8, .c (.arr 1 x.2.1 x.2.2.1)) :: (9, (.c (.d (.lit (.int .i64 ((k - x.1 : Nat) : Int)))))) :: lz) (fun x => [(.box 0 [.d (numD (x.2.2.2.2).l), .d (.lit (.int .i64 (x.2.2.2.2).at_))]), .arr x.2.1 109 5 (x.2.2.2.1.map Trm.d)]) (fun x => k - x.1) ((0, 3, 1, [⟨(3 : Int) + v2, Val.null, 0⟩], ts 0)) ?_ ?_ ?_ ?_
    repeat' (first | exact slots_nil | refine kw ?_ | exact memIn_nil | refine Go.Abs.kv ?_ ?_ | omega)
    · exact ⟨by simp, rfl, hc0.symm, rfl⟩
    rintro ⟨i, kv, len, L, T'⟩ c ⟨hi, hlen, hL, hT'⟩
    dsimp only at hi hlen hL hT' ⊢
    have hLl : L.length ≤ 100000 := by
      have h1 := hcl i (by omega)
      have h2 : i * 4 ^ dp ≤ 3 * 4 ^ dp := Nat.mul_le_mul_right _ (by omega)
      rw [hL]
      have h3 : (4 : Nat) ^ 7 = 16384 := by decide
      omega
    by_cases hlt : i < k
    · obtain ⟨_, _, ⟨hfl, _⟩, hcall⟩ := hf i (by omega)
      rw [← hT'] at hcall
      rw [show (dp : Int) = ((dp + 1 : Nat) : Int) - 1 by omega] at hcall
      have hfl2 : (f i).length ≤ 100000 := by
        have h3 : (4 : Nat) ^ 7 = 16384 := by decide
        omega
      have hnext := hcs i
      rw [← hL] at hnext
      have hts : ts (i + 1) = ts (i + 1) := rfl
      clear hf hcl hcs hL hck hc0 hT'
      generalize f i = fi at *
      generalize hq : ts (i + 1) = T2 at hcall
      repeat' (first | refine ks ?_ | refine ko ?_ | refine s_callH [0] (hcall) ?_ | refine kf ?_ | refine kg ?_ ?_ | exact k0 | refine memIn_same ?_ | refine m1 ?_ ?_)
      (apply s_round ((i + 1, _, len + fi.length, L ++ fi, T2)); all_goals (try dsimp only); all_goals (try (repeat' (first | exact slots_nil | refine w1 ?_ | exact memIn_nil | refine memIn_same ?_ | refine m1 ?_ ?_ | omega))))
      all_goals first | (exact ⟨by omega, by simp; omega, hnext.symm, hq.symm⟩) | exact List.map_append.symm | skip
    · obtain rfl : i = k := by omega
      rw [← hL, ← hT']
      rw [← hL] at hfr
      rw [hlen]
      clear hf hcl hcs
      repeat' (first | refine s_freeze 8 ?_ (hes := hfr) | refine ks ?_ | refine ko ?_ | refine s_kF ?_ | refine fh_ret1 def_nil ?_ ?_ | exact memIn_nil | refine memIn_same ?_ | refine m1 ?_ ?_ | exact am_same)
      all_goals skip
theorem expr_h (n : Nat) (h1 : 1 ≤ n) (hn : n ≤ 1000) (dp : Nat) (t : Tape) (ht : t.ok) (hd : dp ≤ 8) : ∃ (e : List Trm) (t' : Tape), t'.ok ∧ e.length ≤ 4 ^ dp ∧ HCall Tryz.prog 31 [.c (.bp 0 0 0), (.c (.d (.lit (.int .i64 (dp : Int))))), (.c (.d (.lit (.int .i64 (n : Int)))))] [(.box 0 [.d (numD (t).l), .d (.lit (.int .i64 (t).at_))])] (.c (.d (exprD e))) [(.box 0 [.d (numD (t').l), .d (.lit (.int .i64 (t').at_))])] := by
  obtain ⟨e, t', h2, h3, _, h4⟩ := exprC_h n h1 hn dp t ht hd
  exact ⟨e, t', h2, h3, h4⟩
end Go.Proofs.YtmpgmjlanngkfaaGreat
end
