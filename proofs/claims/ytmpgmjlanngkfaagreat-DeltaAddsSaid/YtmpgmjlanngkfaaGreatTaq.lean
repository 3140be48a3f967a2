/-
  The tape: lists of entries.
-/
import Derived.Test.YtmpgmjlanngkfaaGreatNorm
import Derived.Test.YtmpgmjlanngkfaaGreatSrt
import Derived.Test.YtmpgmjlanngkfaaGreatLast
import Derived.Test.YtmpgmjlanngkfaaGreatCmp
section
namespace Go.Proofs.YtmpgmjlanngkfaaGreat
open Go.Abs Go.RowKit
section
variable {P : Program} {T : TypeId → Option TI} {B : Base} {n : Nat} {sl : List (Nat × SVal)} {mem mem1 m1 : List Blk} {ck : Nat} {df : List (FuncId × List Cell)} {r1 r : SVal}
theorem fh_cellG {a t rr k o : Nat} {i : TI} {cs cs1 : List Cell} (hd : defersOk P df) (h : memIn mem m1) (ha : AM (.agg cs1) r) (hk : keptL mem mem1 0 := by repeat' (first | exact trivial | refine And.intro rfl ?_ | refine And.intro trivial ?_)) (hl : Abs.look sl a = .c (.bp rr k o) := by exact rfl) (hmm : mem[rr]? = some (.box k cs) := by exact rfl) (ht : T t = some i := by exact rfl) (hag : i.desc.agg = true := by exact rfl) (hs : decide (o + i.size ≤ cs.length) = true := by exact rfl) (hcs : (cs.drop o).take i.size = cs1 := by repeat' (first | exact nfNil rfl | apply nfCons rfl)) (hr : r1.up id (actV mem) = r := by exact rfl) (hm : upL id (actV mem) mem1 0 = m1 := by repeat' (first | exact nfNil rfl | apply nfCons rfl)) : kont P B (finM P T [.cell a t] (fun r m _ => HR m mem1 r r1)) [] .ret ⟨n, sl, mem, ck, df⟩ := by
  subst hcs
  refine ⟨hd, ?_⟩
  simp only [resM, resVal, St.get, hl, aLoad, ht, hag, hmm]
  refine ⟨.inl trivial, trivial, by simpa using hs, ?_⟩
  exact hr_mk hm hr h ha hk
end
attribute [local irreducible] ARun kont MCall PCall HCall resVal SF CF CFs defersOk slotsIn memIn fin finM VLe
set_option linter.unusedSimpArgs false
set_option maxRecDepth 100000
set_option maxHeartbeats 4000000
def iD (n : Int) : List Dat := [.lit (.int .i64 n)]
def numD (l : List Int) : Dat := .sl (l.map iD)
structure Tape where
  l : List Int
  at_ : Nat
structure Tape.ok (t : Tape) : Prop where
  len : t.l.length ≤ 17592186044416
  pos : t.at_ ≤ 4 * t.l.length
def Tape.raw (t : Tape) : Int :=
  let x := t.l.getD (t.at_ % t.l.length) 0
  if 0 < t.at_ / t.l.length then xorInt .i64 (shrInt .i64 x ((t.at_ / t.l.length : Nat) : Int)) ((t.at_ / t.l.length : Nat) : Int) else x
def Tape.stop (t : Tape) (n : Int) : Prop := n < 2 ∨ t.l.length = 0 ∨ 4 * t.l.length ≤ t.at_
instance (t : Tape) (n : Int) : Decidable (t.stop n) := by unfold Tape.stop; infer_instance
def Tape.nx (t : Tape) (n : Int) : Int := if t.stop n then 0 else ((t.raw).tmod n + n).tmod n
def Tape.go (t : Tape) (n : Int) : Tape := if t.stop n then t else ⟨t.l, t.at_ + 1⟩
theorem Tape.nx_bd (t : Tape) (n : Int) : 0 ≤ t.nx n ∧ (t.nx n < n ∨ t.nx n = 0) := by
  unfold Tape.nx
  split
  · exact ⟨by omega, .inr rfl⟩
  · rename_i h
    have hn : 2 ≤ n := by unfold Tape.stop at h; omega
    have h1 : -n < (t.raw).tmod n := Int.lt_tmod_of_pos _ (by omega)
    have h2 : 0 ≤ (t.raw).tmod n + n := by omega
    rw [Int.tmod_eq_emod_of_nonneg h2]
    exact ⟨Int.emod_nonneg _ (by omega), .inl (Int.emod_lt_of_pos _ (by omega))⟩
theorem Tape.ok.go {t : Tape} (h : t.ok) (n : Int) : (t.go n).ok := by
  unfold Tape.go
  split
  · exact h
  · rename_i hs
    unfold Tape.stop at hs
    exact ⟨h.len, by have := h.pos; simp only; omega⟩
theorem u64w (z : Int) : IntKind.u64.wrap z = z % 18446744073709551616 := by
  simp only [IntKind.wrap, IntKind.signed, IntKind.bits]
  simp
theorem u64w_nn (z : Int) : 0 ≤ IntKind.u64.wrap z := by rw [u64w]; omega
theorem u64w_id {z : Int} (h1 : 0 ≤ z) (h2 : z < 18446744073709551616) : IntKind.u64.wrap z = z := by rw [u64w]; omega
theorem next_h (t : Tape) (n : Int) (ht : t.ok) (hn : n ≤ 1099511627776) (hn' : -1099511627776 ≤ n) : HCall Tryz.prog 30 [.c (.bp 0 0 0), .c (.d (.lit (.int .i64 n)))] [(.box 0 [.d (numD (t).l), .d (.lit (.int .i64 (t).at_))])] (.c (.d (.lit (.int .i64 (t.nx n))))) [(.box 0 [.d (numD (t.go n).l), .d (.lit (.int .i64 (t.go n).at_))])] := by
  obtain ⟨l, at_⟩ := t
  obtain ⟨hl, hat⟩ := ht
  dsimp only at hl hat
  by_cases h1 : n < 2
  · have e : (Tape.mk l at_).stop n := .inl h1
    have e1 : (Tape.mk l at_).nx n = 0 := if_pos e
    have e2 : (Tape.mk l at_).go n = ⟨l, at_⟩ := if_pos e
    rw [e1, e2]
    change HCall _ _ _ [.box 0 [.d (numD l), .d (.lit (.int .i64 at_))]] _ [.box 0 [.d (numD l), .d (.lit (.int .i64 at_))]]
    refine hcallN hT Tryz.func30 Tryz.ntmps30 [.tmp 4] fun B => ?_
    repeat' (first | refine ks ?_ | refine ko ?_ | refine s_if rfl (fun hb => ?_) (fun hb => ?_) | refine s_indexD ?_ (hel := (by first | exact rfl)) | refine kf ?_ | refine kg ?_ ?_ | exact k0 | refine memIn_same ?_ | refine am_d rfl ?_)
  by_cases h2 : l.length = 0
  · have e : (Tape.mk l at_).stop n := .inr (.inl h2)
    have e1 : (Tape.mk l at_).nx n = 0 := if_pos e
    have e2 : (Tape.mk l at_).go n = ⟨l, at_⟩ := if_pos e
    rw [e1, e2]
    change HCall _ _ _ [.box 0 [.d (numD l), .d (.lit (.int .i64 at_))]] _ [.box 0 [.d (numD l), .d (.lit (.int .i64 at_))]]
    refine hcallN hT Tryz.func30 Tryz.ntmps30 [.tmp 4] fun B => ?_
    repeat' (first | refine ks ?_ | refine ko ?_ | refine s_if rfl (fun hb => ?_) (fun hb => ?_) | refine s_indexD ?_ (hel := (by first | exact rfl)) | refine kf ?_ | refine kg ?_ ?_ | exact k0 | refine memIn_same ?_ | refine am_d rfl ?_)
  by_cases h3 : 4 * l.length ≤ at_
  · have e : (Tape.mk l at_).stop n := .inr (.inr h3)
    have e1 : (Tape.mk l at_).nx n = 0 := if_pos e
    have e2 : (Tape.mk l at_).go n = ⟨l, at_⟩ := if_pos e
    rw [e1, e2]
    change HCall _ _ _ [.box 0 [.d (numD l), .d (.lit (.int .i64 at_))]] _ [.box 0 [.d (numD l), .d (.lit (.int .i64 at_))]]
    refine hcallN hT Tryz.func30 Tryz.ntmps30 [.tmp 4] fun B => ?_
    repeat' (first | refine ks ?_ | refine ko ?_ | refine s_if rfl (fun hb => ?_) (fun hb => ?_) | refine s_indexD ?_ (hel := (by first | exact rfl)) | refine kf ?_ | refine kg ?_ ?_ | exact k0 | refine memIn_same ?_ | refine am_d rfl ?_)
  have e : ¬ (Tape.mk l at_).stop n := by rintro (q | q | q); exact h1 q; exact h2 q; exact h3 q
  have e1 : (Tape.mk l at_).nx n = (((Tape.mk l at_).raw).tmod n + n).tmod n := if_neg e
  have e2 : (Tape.mk l at_).go n = ⟨l, at_ + 1⟩ := if_neg e
  rw [e1, e2]
  have ht1 : (at_ : Int).tmod l.length = ((at_ % l.length : Nat) : Int) := by rw [Int.tmod_eq_emod_of_nonneg (by omega)]; rfl
  have ht2 : (at_ : Int).tdiv l.length = ((at_ / l.length : Nat) : Int) := by rw [Int.tdiv_eq_ediv_of_nonneg (by omega)]; rfl
  have hml : at_ % l.length < l.length := Nat.mod_lt _ (by omega)
  have hdl : at_ / l.length ≤ 4 := by
    have : at_ / l.length < 5 := Nat.div_lt_of_lt_mul (by omega)
    omega
  have hv : l[at_ % l.length]? = some l[at_ % l.length] := List.getElem?_eq_getElem hml
  have hraw : (Tape.mk l at_).raw = if 0 < at_ / l.length then xorInt .i64 (shrInt .i64 l[at_ % l.length] ((at_ / l.length : Nat) : Int)) ((at_ / l.length : Nat) : Int) else l[at_ % l.length] := by
    unfold Tape.raw
    simp only [List.getD_eq_getElem?_getD, hv, Option.getD_some]
  rw [hraw]
  generalize l[at_ % l.length] = x at hv
  change HCall _ _ _ [.box 0 [.d (numD l), .d (.lit (.int .i64 at_))]] _ [.box 0 [.d (numD l), .d (.lit (.int .i64 (at_ + 1 : Nat)))]]
  refine hcallN hT Tryz.func30 Tryz.ntmps30 [.tmp 4] fun B => ?_
  have hmn : ∀ y : Int, IntKind.i64.wrap (y.tmod n + n) = y.tmod n + n := fun y => by
    have q1 : -n < y.tmod n := Int.lt_tmod_of_pos _ (by omega)
    have q2 : y.tmod n < n := Int.tmod_lt_of_pos _ (by omega)
    exact wrap_i64 (by omega) (by omega)
  repeat' (first | refine ks ?_ | refine ko ?_ | refine s_if rfl (fun hb => ?_) (fun hb => ?_) | refine s_indexD ?_ (hel := (by first | exact idx_map hv (by omega) | exact hv | exact rfl)) | refine s_shr ?_ (hb := u64w_nn _) | refine kf ?_ | refine kg ?_ ?_ | exact k0 | refine memIn_same ?_ | refine am_d rfl ?_)
  · rw [hmn, u64w_id (by omega) (by omega), if_pos (by omega)]
  · rw [hmn, if_neg (by omega)]
def Val.ofText (s : ByteArray) : Val := (Val.mk 2 0 s).clean
theorem refText_c (s : ByteArray) : PCall Tryz.prog 129 [.one (.lit (.string s))] (.v (.agg (Val.ofText s).d)) := by
  have h := refClean_c ⟨2, 0, s⟩
  refine pcallN hT Tryz.func129 Tryz.ntmps129 [.cell 2 73] fun B => ?_
  repeat' (first | refine ks ?_ | refine ko ?_ | refine s_call (h) ?_ | refine kf ?_ | exact k0 | refine kg ?_ ?_ | fail)
  all_goals rfl
theorem new_h (l : List Int) (hl : l.length ≤ 17592186044416) : HCall Tryz.prog 9 [.c (.d (numD l))] [] (.c (.bp 1 1 0)) [.dead, .box 1 [.d (numD l), .d (.lit (.int .i64 (0 : Nat)))]] := by
  have hf : List.take l.length (l.map iD) = l.map iD := take_ge (by simp)
  refine hcallN hT Tryz.func9 Tryz.ntmps9 [.tmp 2] fun B => ?_
  repeat' (first | refine r_freeze 5 rfl rfl (by simp) hf rfl ?_ | refine ks ?_ | refine ko ?_ | refine fh_ret1 def_nil ?_ ?_ | exact memIn_nil | refine memIn_same ?_ | exact am_same)
def shortVals : List Val := [Val.null, Val.ofInt 1, Val.ofInt 2, Val.ofInt 3, Val.ofText ⟨#[97]⟩, Val.ofText ⟨#[98]⟩]
def Tape.short (t : Tape) : Val := shortVals.getD (t.nx 6).toNat Val.null
theorem short_h (t : Tape) (ht : t.ok) : HCall Tryz.prog 73 [.c (.bp 0 0 0)] [(.box 0 [.d (numD (t).l), .d (.lit (.int .i64 (t).at_))])] (.agg (t.short.d.map .d)) [(.box 0 [.d (numD (t.go 6).l), .d (.lit (.int .i64 (t.go 6).at_))])] := by
  have hn := next_h t 6 ht (by omega) (by omega)
  obtain ⟨b1, b2⟩ := t.nx_bd 6
  have hv : shortVals[(t.nx 6).toNat]? = some t.short := by
    unfold Tape.short
    rw [List.getD_eq_getElem?_getD, List.getElem?_eq_getElem (by simp [shortVals]; omega)]; rfl
  have hv1 : (shortVals.map Val.d)[(t.nx 6).toNat]? = some t.short.d := by rw [List.getElem?_map, hv]; rfl
  have i1 := refInt_c 1
  have i2 := refInt_c 2
  have i3 := refInt_c 3
  generalize t.nx 6 = z at hn b1 b2 hv hv1
  generalize t.go 6 = t' at hn
  refine hcallN hT Tryz.func73 Tryz.ntmps73 [.cell 2 73] fun B => ?_
  repeat' (first | refine ks ?_ | refine ko ?_ | refine s_indexD ?_ (hel := (by first | exact idx_map hv1 (by omega) | exact hv1 | exact rfl)) | refine s_call (i1) ?_ | refine s_call (i2) ?_ | refine s_call (i3) ?_ | refine s_call (refText_c _) ?_ | refine s_callH [0] (hn) ?_ | refine fh_cellG def_nil ?_ ?_ | exact k0 | refine memIn_same ?_)
end Go.Proofs.YtmpgmjlanngkfaaGreat
end
section
namespace Go.Abs
open Go.RowKit
section
variable {P : Program} {T : TypeId → Option TI} {t : TypeId} {i : TI} {xs : List Dat}
theorem bytes_of (hT : TypesOk P T) (ht : T t = some i) : P.bytesOf t = i.bytes := by
  obtain ⟨f, z, h1, _, h3, _⟩ := (hT t i ht).info
  simp [Program.bytesOf, h1, h3]
def inI (z : Int) : Prop := -9223372036854775808 ≤ z ∧ z ≤ 9223372036854775807
theorem ty_int (hT : TypesOk P T) (ht : T t = some i) (hi : i.desc = .int .i64) (h : TyD P t xs) : ∃ z, xs = [.lit (.int .i64 z)] ∧ inI z := by
  have hu := (hT t i ht).desc
  rw [hi] at hu
  obtain ⟨n, h⟩ := h
  cases n with
  | zero => exact h.elim
  | succ n =>
    simp only [tyD, show P.underlying t = some (.int .i64) from hu] at h
    obtain ⟨z, h1, h2⟩ := h
    refine ⟨z, h1, ?_⟩
    simpa [Lit.wf, IntKind.min, IntKind.max, IntKind.signed, IntKind.bits, inI] using h2
theorem ty_slice (hT : TypesOk P T) {e : TypeId} {ei : TI} (ht : T t = some i) (hi : i.desc = .slice e) (he : T e = some ei) (h : TyD P t xs) : ∃ es, xs = [.sl es] ∧ es.length * ei.bytes ≤ reachBytes ∧ ∀ el ∈ es, TyD P e el := by
  have hu := (hT t i ht).desc
  rw [hi] at hu
  obtain ⟨n, h⟩ := h
  cases n with
  | zero => exact h.elim
  | succ n =>
    simp only [tyD, show P.underlying t = some (.slice e) from hu] at h
    obtain ⟨es, h1, h2, h3⟩ := h
    rw [bytes_of hT he] at h2
    exact ⟨es, h1, h2, fun el hel => ⟨n, h3 el hel⟩⟩
theorem list_lift {α : Type} {f : α → List Dat} {Q : α → Prop} : ∀ (es : List (List Dat)), (∀ el ∈ es, ∃ a, el = f a ∧ Q a) → ∃ l : List α, es = l.map f ∧ ∀ a ∈ l, Q a
  | [], _ => ⟨[], rfl, by simp⟩
  | e :: es, h => by
    obtain ⟨a, rfl, ha⟩ := h e (by simp)
    obtain ⟨l, rfl, hl⟩ := list_lift es (fun el hel => h el (by simp [hel]))
    exact ⟨a :: l, rfl, fun b hb => by rcases List.mem_cons.1 hb with rfl | hb; exact ha; exact hl b hb⟩
end
end Go.Abs
end
section
namespace Go.Proofs.YtmpgmjlanngkfaaGreat
open Go.Abs Go.RowKit
def Val.wf (v : Val) : Prop := inI v.kind ∧ inI v.int ∧ v.text.size ≤ reachBytes
theorem ty_nums {xs : List Dat} (h : TyD Tryz.prog 22 xs) : ∃ r : List Int, xs = [numD r] ∧ r.length ≤ 17592186044416 := by
  obtain ⟨es, rfl, h1, h2⟩ := ty_slice hT rfl rfl rfl h
  obtain ⟨l, rfl, hl⟩ := list_lift (f := iD) (Q := inI) es (fun el hel => ty_int hT rfl rfl (h2 el hel))
  refine ⟨l, rfl, ?_⟩
  rw [List.length_map] at h1
  have h2 : l.length * 8 ≤ 140737488351232 := h1
  omega
end Go.Proofs.YtmpgmjlanngkfaaGreat
end
section
namespace Go.Proofs.YtmpgmjlanngkfaaGreat
open Go.Abs Go.RowKit
attribute [local irreducible] ARun kont MCall PCall HCall resVal SF CF CFs defersOk slotsIn memIn fin finM VLe
set_option linter.unusedSimpArgs false
set_option maxRecDepth 100000
set_option maxHeartbeats 4000000
def rowS (t : Tape) : Nat → List Val × Tape
  | 0 => ([], t)
  | j + 1 => ((rowS t j).1 ++ [(rowS t j).2.short], (rowS t j).2.go 6)
def entNums : List Int := [1, 1, 1, 2, -1, 3, -2, 0]
def Tape.num (t : Tape) : Int := entNums.getD (t.nx 8).toNat 0
def entS (t : Tape) (w : Nat) : Nat → List Entry × Tape
  | 0 => ([], t)
  | m + 1 => ((entS t w m).1 ++ [⟨(rowS (entS t w m).2 w).1, (rowS (entS t w m).2 w).2.num⟩], (rowS (entS t w m).2 w).2.go 8)
theorem rowS_ok {t : Tape} (h : t.ok) : ∀ j, (rowS t j).2.ok ∧ (rowS t j).1.length = j
  | 0 => ⟨h, rfl⟩
  | j + 1 => by
    obtain ⟨h1, h2⟩ := rowS_ok h j
    exact ⟨h1.go 6, by rw [rowS]; simp [h2]⟩
theorem entS_ok {t : Tape} (h : t.ok) (w : Nat) : ∀ m, (entS t w m).2.ok ∧ (entS t w m).1.length = m
  | 0 => ⟨h, rfl⟩
  | m + 1 => by
    obtain ⟨h1, h2⟩ := entS_ok h w m
    exact ⟨(rowS_ok h1 w).1.go 8, by rw [entS]; simp [h2]⟩
theorem entries_h (t : Tape) (w n : Nat) (ht : t.ok) (hw : w ≤ 1000) (hn : n ≤ 1000) : HCall Tryz.prog 32 [.c (.bp 0 0 0), (.c (.d (.lit (.int .i64 (w : Int))))), (.c (.d (.lit (.int .i64 (n : Int)))))] [(.box 0 [.d (numD (t).l), .d (.lit (.int .i64 (t).at_))])] (.c (.arr 1 1 (t.nx ((n : Int) + 1)).toNat)) [(.box 0 [.d (numD ((entS (t.go ((n : Int) + 1)) w (t.nx ((n : Int) + 1)).toNat).2).l), .d (.lit (.int .i64 ((entS (t.go ((n : Int) + 1)) w (t.nx ((n : Int) + 1)).toNat).2).at_))]), .arr 1 56 2 ((entS (t.go ((n : Int) + 1)) w (t.nx ((n : Int) + 1)).toNat).1.map Entry.d)] := by
  have hnx := next_h t ((n : Int) + 1) ht (by omega) (by omega)
  obtain ⟨b1, b2⟩ := t.nx_bd ((n : Int) + 1)
  have ht1 := ht.go ((n : Int) + 1)
  obtain ⟨i, hi⟩ := Int.eq_ofNat_of_zero_le b1
  rw [hi] at hnx b1 b2 ⊢
  rw [Int.toNat_natCast]
  generalize t.go ((n : Int) + 1) = t1 at hnx ht1
  have hin : i ≤ 1000 := by omega
  refine hcallN hT Tryz.func32 Tryz.ntmps32 [.tmp 6] fun B => ?_
  repeat' (first | refine ks ?_ | refine ko ?_ | refine s_indexD ?_ (hel := (by first | exact rfl)) | refine s_callH [0] (hnx) ?_ | refine kg ?_ ?_ | exact k0 | refine memIn_same ?_ | refine m1 ?_ ?_ | refine m2 ?_ ?_)
  refine s_own 7 56 2 ?_
  refine s_lp (X := Nat × Nat) [7, 8, 9, 10, 15, 16, 17, 18, 19, 20, 21, 22, 23, 24, 25, 26, 27, 28, 29, 30, 31, 32, 33, 34, 35, 36, 37, 38] (fun x => x.1 ≤ i) (fun x lz => (7, .c (.arr 1 x.2 x.1)) :: (8, (.c (.d (.lit (.int .i64 ((i - x.1 : Nat) : Int)))))) :: lz) (fun x => [(.box 0 [.d (numD ((entS t1 w x.1).2).l), .d (.lit (.int .i64 ((entS t1 w x.1).2).at_))]), .arr x.2 56 2 ((entS t1 w x.1).1.map Entry.d)]) (fun x => i - x.1) ((0, 2)) ?_ ?_ ?_ ?_
  repeat' (first | exact slots_nil | refine kw ?_ | exact memIn_nil | refine kv ?_ ?_ | omega)
  rintro ⟨m, k⟩ c hm
  dsimp only at hm ⊢
  obtain ⟨hok, hlen⟩ := entS_ok ht1 w m
  have hstep : entS t1 w (m + 1) = ((entS t1 w m).1 ++ [⟨(rowS (entS t1 w m).2 w).1, (rowS (entS t1 w m).2 w).2.num⟩], (rowS (entS t1 w m).2 w).2.go 8) := rfl
  by_cases hlt : m < i
  · generalize hE : entS t1 w m = E at hok hlen hstep
    obtain ⟨el, T⟩ := E
    dsimp only at hok hlen hstep ⊢
    repeat' (first | refine ks ?_ | refine ko ?_ | refine s_indexD ?_ (hel := (by first | exact rfl)) | refine kg ?_ ?_ | exact k0 | refine memIn_same ?_ | refine m1 ?_ ?_ | refine m2 ?_ ?_)
    refine s_own 9 73 3 ?_
    refine s_lp (X := Nat × Nat) [9, 10, 19, 20, 21, 22, 23, 24, 25, 26, 27, 28] (fun x => x.1 ≤ w) (fun x lz => (9, .c (.arr 2 x.2 x.1)) :: (10, (.c (.d (.lit (.int .i64 x.1))))) :: lz) (fun x => [(.box 0 [.d (numD ((rowS T x.1).2).l), .d (.lit (.int .i64 ((rowS T x.1).2).at_))]), .arr k 56 2 (el.map Entry.d), .arr x.2 73 3 ((rowS T x.1).1.map Val.d)]) (fun x => w - x.1) ((0, c + 1)) ?_ ?_ ?_ ?_
    repeat' (first | exact slots_nil | refine kw ?_ | exact memIn_nil | refine kv ?_ ?_ | omega)
    rintro ⟨j, k2⟩ c2 hj
    dsimp only at hj ⊢
    obtain ⟨rok, rlen⟩ := rowS_ok hok j
    by_cases hlt2 : j < w
    · have hsh := short_h (rowS T j).2 rok
      repeat' (first | refine ks ?_ | refine ko ?_ | refine s_indexD ?_ (hel := (by first | exact rfl)) | refine s_callH [0] (hsh) ?_ | refine kg ?_ ?_ | exact k0 | refine memIn_same ?_ | refine m1 ?_ ?_ | refine m2 ?_ ?_)
      (apply s_round ((j + 1, _)); all_goals (try dsimp only); all_goals (try (repeat' (first | exact slots_nil | refine w1 ?_ | exact memIn_nil | refine memIn_same ?_ | refine m1 ?_ ?_ | refine m2 ?_ ?_ | omega))))
      rw [rowS, List.map_append]; rfl
    · obtain rfl : j = w := by omega
      have hnx := next_h (rowS T j).2 8 rok (by omega) (by omega)
      obtain ⟨q1, q2⟩ := (rowS T j).2.nx_bd 8
      have hvn : (entNums.map iD)[((rowS T j).2.nx 8).toNat]? = some (iD (rowS T j).2.num) := by
        rw [List.getElem?_map]
        unfold Tape.num
        rw [List.getD_eq_getElem?_getD, List.getElem?_eq_getElem (by simp [entNums]; omega)]; rfl
      have hf9 : List.take j ((rowS T j).1.map Val.d) = (rowS T j).1.map Val.d := take_ge (by simp; omega)
      repeat' (first | refine s_freeze 9 ?_ (hes := hf9) | refine ks ?_ | refine ko ?_ | refine s_indexD ?_ (hel := (by first | exact idx_map hvn (by omega) | exact hvn | exact rfl)) | refine s_callH [0] (hnx) ?_ | refine fh_ret1 def_nil ?_ ?_ | exact memIn_nil | refine memIn_same ?_ | refine m1 ?_ ?_ | refine m2 ?_ ?_ | exact am_same)
      (apply s_round ((m + 1, _)); all_goals (try dsimp only); all_goals (try (repeat' (first | exact slots_nil | refine w1 ?_ | exact memIn_nil | refine memIn_same ?_ | refine m1 ?_ ?_ | refine m2 ?_ ?_ | omega))))
      · rw [hstep]
      · rw [hstep, List.map_append]; rfl
  · obtain rfl : m = i := by omega
    repeat' (first | refine ks ?_ | refine ko ?_ | refine s_indexD ?_ (hel := (by first | exact rfl)) | refine kg ?_ ?_ | exact k0 | refine memIn_same ?_ | refine m1 ?_ ?_ | refine m2 ?_ ?_)
end Go.Proofs.YtmpgmjlanngkfaaGreat
end
