/-
  The plain types of the program: values, rows, entries, numbers (for laws about tapes).
-/
import Derived.Test.YtmpgmjlanngkfaaGreatCmp
import Derived.Recover
import Derived.Test.YtmpgmjlanngkfaaGreatExa
import Derived.Test.YtmpgmjlanngkfaaGreatSrt
import Derived.Test.YtmpgmjlanngkfaaGreatLast
section
namespace Go.Proofs.YtmpgmjlanngkfaaGreat
open Go.Abs Go.RowKit
set_option linter.unusedSimpArgs false
set_option maxRecDepth 100000
theorem Ei : DeferOk Tryz.prog 95 0 := by
 refine ⟨⟨_, Tryz.func95, by kernel_rfl, by kernel_rfl⟩, fun vs w hl => ?_⟩
 match vs, hl with
 | [], _ =>
   refine callsD_of_wpS Tryz.func95 rfl fun c₀ cs hu => ?_
   apply wpS_region
   simp [wpOpsS, go_sem, recoverD, hu, Tryz.ntmps95, Exit.thenS]
   cases c₀
   simp_all [bodyPostS, results, Tryz.results95]
end Go.Proofs.YtmpgmjlanngkfaaGreat
end
section
namespace Go.Proofs.YtmpgmjlanngkfaaGreat
open Go.Abs Go.RowKit
attribute [local irreducible] ARun At MCall PCall HCall Am SF CF CFs Ah Aj Ar fin AW VLe
set_option linter.unusedSimpArgs false
set_option maxRecDepth 100000
structure Entry where
 row : List Val
 count : Int
def Entry.d (e : Entry) : List Dat := [AU e.row, .lit (.int .i64 e.count)]
def Ap (l : List Entry) : Dat := .sl (l.map Entry.d)
def Az (n : Int) : Bool := decide (-262144 ≤ n) && decide (n ≤ 262144)
def Entry.ok (e : Entry) : Bool := AQ e.row && Az e.count && decide (e.count ≠ 0)
def goodFrom : Option Entry → List Entry → Bool
 | _, [] => true
 | p, e :: l => e.ok && (match p with | none => true | some q => decide (Ak q.row e.row < 0)) && goodFrom (some e) l
def Al (l : List Entry) : Bool := decide (l.length ≤ 4096) && goodFrom none l
def CB (l : List Entry) (i : Nat) : Option Entry := if i = 0 then none else l[i - 1]?
theorem Gc (n : Int) : PCall Tryz.prog 75 [.one (.lit (.int .i64 n))] (.v (.one (.lit (.bool (Az n))))) := by
 refine Ac hT Tryz.func75 Tryz.ntmps75 [.tmp 2] fun B => ?_
 repeat' (first | refine kz ?_ | refine Ai rfl rfl (fun hb => ?_) (fun hb => ?_) | refine kf ?_ | fail)
 all_goals (refine congrArg Dat.lit (congrArg Value.bool ?_); simp_all [Az]; try omega)
theorem KC (n : Int) : PCall Tryz.prog 150 [.one (.lit (.int .i64 n))] (.v (.one (.lit (.bool (Az n))))) := by
 refine Ac hT Tryz.func150 Tryz.ntmps150 [.tmp 2] fun B => ?_
 repeat' (first | refine kz ?_ | refine Ai rfl rfl (fun hb => ?_) (fun hb => ?_) | refine kf ?_ | fail)
 all_goals (refine congrArg Dat.lit (congrArg Value.bool ?_); simp_all [Az]; try omega)
theorem DI (e : Entry) : PCall Tryz.prog 96 [.agg e.d] (.v (.one (.lit (.bool (Az e.count && AQ e.row))))) := by
 refine Ac hT Tryz.func96 Tryz.ntmps96 [.tmp 2] fun B => ?_
 repeat' (first | refine kz ?_ | refine Aa (KC _) ?_ | refine Aa (Pv _) ?_ | refine Ai rfl rfl (fun hb => ?_) (fun hb => ?_) | refine kf ?_ | fail)
 all_goals (refine congrArg Dat.lit (congrArg Value.bool ?_); simp_all)
theorem KD {l : List Entry} {i : Nat} {e : Entry} (h : l[i]? = some e) : goodFrom (CB l i) (l.drop i) = (e.ok && (match CB l i with | none => true | some q => decide (Ak q.row e.row < 0)) && goodFrom (CB l (i + 1)) (l.drop (i + 1))) := by
 rw [AD h, goodFrom.eq_def]
 have : CB l (i + 1) = some e := by simp [CB, h]
 rw [this]
set_option maxHeartbeats 1000000 in
theorem BX (l : List Entry) : PCall Tryz.prog 47 [.one (Ap l)] (.v (.one (.lit (.bool (Al l))))) := by
 refine Ac hT Tryz.func47 Tryz.ntmps47 [.tmp 2] fun B => ?_
 repeat' (first | refine kz ?_ | refine Au rfl (fun hb => ?_) (fun hb => ?_) | refine ki ?_ | refine kf ?_ | refine Ai rfl rfl (fun hb => ?_) (fun hb => ?_) | refine A4 (by repeat (first | exact Af | refine Aq Ei ?_)) ?_)
 ·refine congrArg Dat.lit (congrArg Value.bool ?_)
  simp [Al]
  intros; omega
 ·have hl : l.length ≤ 4096 := by omega
  refine AO (X := Nat) [2, 3, 4, 10, 11, 12, 13, 14, 15, 16, 17, 18, 19, 20, 21, 22, 23, 24, 25, 26, 27, 28, 29, 30, 31, 32, 33, 34, 35, 36, 37] (fun x => x ≤ l.length ∧ goodFrom none l = goodFrom (CB l x) (l.drop x)) (fun x lz => (10, (.c (.d (.lit (.int .i64 x))))) :: lz) (fun x => []) (fun x => l.length - x) (0) ?_ ?_ ?_ ?_
  repeat' (first | exact k0 | refine kw ?_ | omega)
  ·exact ⟨by simp, by simp [CB]⟩
  rintro i c ⟨hi, hinv⟩
  by_cases hlt : i < l.length
  ·have hv : l[i]? = some l[i] := List.getElem?_eq_getElem hlt
   generalize l[i] = e at hv
   rw [KD hv] at hinv
   rcases i with _ | j
   ·have hp : CB l 0 = none := rfl
    rw [hp] at hinv
    repeat' (first | refine kz ?_ | refine Au rfl (fun hb => ?_) (fun hb => ?_) | refine kx hv ?_ | refine ki ?_ | refine Aa (DI _) ?_ | refine Aa (Bf _ _) ?_ | refine kf ?_ | refine Ai rfl rfl (fun hb => ?_) (fun hb => ?_) | refine A4 (by repeat (first | exact Af | refine Aq Ei ?_)) ?_)
    all_goals first
     | (refine congrArg Dat.lit (congrArg Value.bool ?_); simp only [Al, hinv, Entry.ok]; cases h1 : AQ e.row <;> cases h2 : Az e.count <;> simp_all <;> done)
     | (refine congrArg Dat.lit (congrArg Value.bool ?_); simp only [Al, hinv]; simp; intros; omega)
     | ((apply Ae (1); all_goals (try dsimp only); all_goals (try (repeat' (first | exact k0 | refine kw ?_ | omega)))); (try exact ⟨by omega, by rw [hinv]; simp_all [Entry.ok]⟩))
   ·have hu : l[j]? = some l[j] := List.getElem?_eq_getElem (by omega)
    generalize l[j] = p at hu
    have hp : CB l (j + 1) = some p := by simp [CB, hu]
    rw [hp] at hinv
    repeat' (first | refine kz ?_ | refine Au rfl (fun hb => ?_) (fun hb => ?_) | refine kx hv ?_ | refine kx hu ?_ | refine ki ?_ | refine Aa (DI _) ?_ | refine Aa (Bf _ _) ?_ | refine kf ?_ | refine Ai rfl rfl (fun hb => ?_) (fun hb => ?_) | refine A4 (by repeat (first | exact Af | refine Aq Ei ?_)) ?_)
    all_goals first
     | (refine congrArg Dat.lit (congrArg Value.bool ?_); simp only [Al, hinv, Entry.ok]; cases h1 : AQ e.row <;> cases h2 : Az e.count <;> simp_all <;> done)
     | (refine congrArg Dat.lit (congrArg Value.bool ?_); simp only [Al, hinv]; simp; intros; omega)
     | ((apply Ae (j + 1 + 1); all_goals (try dsimp only); all_goals (try (repeat' (first | exact k0 | refine kw ?_ | omega)))); (try exact ⟨by omega, by rw [hinv]; simp_all [Entry.ok]⟩))
  ·repeat' (first | refine kz ?_ | refine Au rfl (fun hb => ?_) (fun hb => ?_) | refine ki ?_ | refine kf ?_ | refine Ai rfl rfl (fun hb => ?_) (fun hb => ?_) | refine A4 (by repeat (first | exact Af | refine Aq Ei ?_)) ?_)
   refine congrArg Dat.lit (congrArg Value.bool ?_)
   rw [List.drop_eq_nil_of_le (by omega)] at hinv
   simp [Al, hinv, hl, goodFrom]
set_option maxHeartbeats 1000000 in
theorem BL (l : List Entry) : PCall Tryz.prog 134 [.one (Ap l)] (.v (.one (.lit (.bool (Al l))))) := by
 refine Ac hT Tryz.func134 Tryz.ntmps134 [.tmp 2] fun B => ?_
 repeat' (first | refine kz ?_ | refine Au rfl (fun hb => ?_) (fun hb => ?_) | refine ki ?_ | refine kf ?_ | refine Ai rfl rfl (fun hb => ?_) (fun hb => ?_))
 ·refine congrArg Dat.lit (congrArg Value.bool ?_)
  simp [Al]
  intros; omega
 ·have hl : l.length ≤ 4096 := by omega
  refine AO (X := Nat) [2, 3, 7, 8, 9, 10, 11, 12, 13, 14, 15, 16, 17, 18, 19, 20, 21, 22, 23, 24, 25, 26, 27, 28, 29, 30, 31, 32, 33, 34, 35, 36, 37, 38, 39, 40, 41, 42, 43, 44, 45, 46, 47, 48, 49, 50, 51, 52, 53, 54, 55] (fun x => x ≤ l.length ∧ goodFrom none l = goodFrom (CB l x) (l.drop x)) (fun x lz => (3, (.c (.d (.lit (.int .i64 x))))) :: lz) (fun x => []) (fun x => l.length - x) (0) ?_ ?_ ?_ ?_
  repeat' (first | exact k0 | refine kw ?_ | omega)
  ·exact ⟨by simp, by simp [CB]⟩
  rintro i c ⟨hi, hinv⟩
  by_cases hlt : i < l.length
  ·have hv : l[i]? = some l[i] := List.getElem?_eq_getElem hlt
   generalize l[i] = e at hv
   rw [KD hv] at hinv
   rcases i with _ | j
   ·have hp : CB l 0 = none := rfl
    rw [hp] at hinv
    repeat' (first | refine kz ?_ | refine Au rfl (fun hb => ?_) (fun hb => ?_) | refine kx hv ?_ | refine ki ?_ | refine Aa (ED _) ?_ | refine Aa (Gc _) ?_ | refine Aa (Bb _ _) ?_ | refine kf ?_ | refine Ai rfl rfl (fun hb => ?_) (fun hb => ?_))
    all_goals first
     | (refine congrArg Dat.lit (congrArg Value.bool ?_); simp only [Al, hinv, Entry.ok]; cases h1 : AQ e.row <;> cases h2 : Az e.count <;> simp_all <;> done)
     | (refine congrArg Dat.lit (congrArg Value.bool ?_); simp only [Al, hinv]; simp; intros; omega)
     | ((apply Ae (1); all_goals (try dsimp only); all_goals (try (repeat' (first | exact k0 | refine kw ?_ | omega)))); (try exact ⟨by omega, by rw [hinv]; simp_all [Entry.ok]⟩))
   ·have hu : l[j]? = some l[j] := List.getElem?_eq_getElem (by omega)
    generalize l[j] = p at hu
    have hp : CB l (j + 1) = some p := by simp [CB, hu]
    rw [hp] at hinv
    repeat' (first | refine kz ?_ | refine Au rfl (fun hb => ?_) (fun hb => ?_) | refine kx hv ?_ | refine kx hu ?_ | refine ki ?_ | refine Aa (ED _) ?_ | refine Aa (Gc _) ?_ | refine Aa (Bb _ _) ?_ | refine kf ?_ | refine Ai rfl rfl (fun hb => ?_) (fun hb => ?_))
    all_goals first
     | (refine congrArg Dat.lit (congrArg Value.bool ?_); simp only [Al, hinv, Entry.ok]; cases h1 : AQ e.row <;> cases h2 : Az e.count <;> simp_all <;> done)
     | (refine congrArg Dat.lit (congrArg Value.bool ?_); simp only [Al, hinv]; simp; intros; omega)
     | ((apply Ae (j + 1 + 1); all_goals (try dsimp only); all_goals (try (repeat' (first | exact k0 | refine kw ?_ | omega)))); (try exact ⟨by omega, by rw [hinv]; simp_all [Entry.ok]⟩))
  ·repeat' (first | refine kz ?_ | refine Au rfl (fun hb => ?_) (fun hb => ?_) | refine ki ?_ | refine kf ?_ | refine Ai rfl rfl (fun hb => ?_) (fun hb => ?_))
   refine congrArg Dat.lit (congrArg Value.bool ?_)
   rw [List.drop_eq_nil_of_le (by omega)] at hinv
   simp [Al, hinv, hl, goodFrom]
end Go.Proofs.YtmpgmjlanngkfaaGreat
end
section
namespace Go.Proofs.YtmpgmjlanngkfaaGreat
open Go.Abs Go.RowKit
section
variable {P : Program} {T : TypeId → Option TI} {B : Base} {n : Nat} {sl : List (Nat × SVal)} {mem mem1 m1 : List Blk} {ck : Nat} {df : List (FuncId × List Cell)} {r1 r : SVal}
theorem Cn {a t rr k o : Nat} {i : TI} {cs cs1 : List Cell} (hd : Ah P df) (h : Ar mem m1) (ha : AM (.agg cs1) r) (hk : JN mem mem1 0 := by repeat' (first | exact trivial | refine And.intro rfl ?_ | refine And.intro trivial ?_)) (hl : Abs.look sl a = .c (.bp rr k o) := by exact rfl) (hmm : mem[rr]? = some (.box k cs) := by exact rfl) (ht : T t = some i := by exact rfl) (hag : i.desc.agg = true := by exact rfl) (hs : decide (o + i.size ≤ cs.length) = true := by exact rfl) (hcs : (cs.drop o).take i.size = cs1 := by repeat' (first | exact AS rfl | apply AA rfl)) (hr : r1.up id (CU mem) = r := by exact rfl) (hm : Hf id (CU mem) mem1 0 = m1 := by repeat' (first | exact AS rfl | apply AA rfl)) : At P B (AW P T [.cell a t] (fun r m _ => HR m mem1 r r1)) [] .ret ⟨n, sl, mem, ck, df⟩ := by
 subst hcs
 refine ⟨hd, ?_⟩
 simp only [QX, Am, St.get, hl, DD, ht, hag, hmm]
 refine ⟨.inl trivial, trivial, by simpa using hs, ?_⟩
 exact Qg hm hr h ha hk
end
attribute [local irreducible] ARun At MCall PCall HCall Am SF CF CFs Ah Aj Ar fin AW VLe
set_option linter.unusedSimpArgs false
set_option maxRecDepth 100000
set_option maxHeartbeats 4000000
def iD (n : Int) : List Dat := [.lit (.int .i64 n)]
def Ax (l : List Int) : Dat := .sl (l.map iD)
structure Tape where
 l : List Int
 at_ : Nat
structure Tape.ok (t : Tape) : Prop where
 len : t.l.length ≤ 17592186044416
 pos : t.at_ ≤ 4 * t.l.length
def Tape.raw (t : Tape) : Int :=
 let x := t.l.getD (t.at_ % t.l.length) 0
 if 0 < t.at_ / t.l.length then J1 .i64 (Cq .i64 x ((t.at_ / t.l.length : Nat) : Int)) ((t.at_ / t.l.length : Nat) : Int) else x
def Tape.stop (t : Tape) (n : Int) : Prop := n < 2 ∨ t.l.length = 0 ∨ 4 * t.l.length ≤ t.at_
instance (t : Tape) (n : Int) : Decidable (t.stop n) := by unfold Tape.stop; infer_instance
def Tape.nx (t : Tape) (n : Int) : Int := if t.stop n then 0 else ((t.raw).tmod n + n).tmod n
def Tape.go (t : Tape) (n : Int) : Tape := if t.stop n then t else ⟨t.l, t.at_ + 1⟩
theorem Tape.nx_bd (t : Tape) (n : Int) : 0 ≤ t.nx n ∧ (t.nx n < n ∨ t.nx n = 0) := by
 unfold Tape.nx
 split
 ·exact ⟨by omega, .inr rfl⟩
 ·rename_i h
  have hn : 2 ≤ n := by unfold Tape.stop at h; omega
  have h1 : -n < (t.raw).tmod n := Int.lt_tmod_of_pos _ (by omega)
  have h2 : 0 ≤ (t.raw).tmod n + n := by omega
  rw [Int.tmod_eq_emod_of_nonneg h2]
  exact ⟨Int.emod_nonneg _ (by omega), .inl (Int.emod_lt_of_pos _ (by omega))⟩
theorem Tape.ok.go {t : Tape} (h : t.ok) (n : Int) : (t.go n).ok := by
 unfold Tape.go
 split
 ·exact h
 ·rename_i hs
  unfold Tape.stop at hs
  exact ⟨h.len, by have := h.pos; simp only; omega⟩
theorem Y7 (z : Int) : IntKind.u64.wrap z = z % 18446744073709551616 := by
 simp only [IntKind.wrap, IntKind.signed, IntKind.bits]
 simp
theorem VU (z : Int) : 0 ≤ IntKind.u64.wrap z := by rw [Y7]; omega
theorem VV {z : Int} (h1 : 0 ≤ z) (h2 : z < 18446744073709551616) : IntKind.u64.wrap z = z := by rw [Y7]; omega
theorem DC (t : Tape) (n : Int) (ht : t.ok) (hn : n ≤ 1099511627776) (hn' : -1099511627776 ≤ n) : HCall Tryz.prog 30 [.c (.bp 0 0 0), .c (.d (.lit (.int .i64 n)))] [(.box 0 [.d (Ax (t).l), .d (.lit (.int .i64 (t).at_))])] (.c (.d (.lit (.int .i64 (t.nx n))))) [(.box 0 [.d (Ax (t.go n).l), .d (.lit (.int .i64 (t.go n).at_))])] := by
 obtain ⟨l, at_⟩ := t
 obtain ⟨hl, hat⟩ := ht
 dsimp only at hl hat
 by_cases h1 : n < 2
 ·have e : (Tape.mk l at_).stop n := .inl h1
  have e1 : (Tape.mk l at_).nx n = 0 := if_pos e
  have e2 : (Tape.mk l at_).go n = ⟨l, at_⟩ := if_pos e
  rw [e1, e2]
  change HCall _ _ _ [.box 0 [.d (Ax l), .d (.lit (.int .i64 at_))]] _ [.box 0 [.d (Ax l), .d (.lit (.int .i64 at_))]]
  refine As hT Tryz.func30 Tryz.ntmps30 [.tmp 4] fun B => ?_
  repeat' (first | refine kz ?_ | refine Au rfl (fun hb => ?_) (fun hb => ?_) | refine ki ?_ | refine kf ?_ | refine kg ?_ ?_ | exact k0 | refine Ab ?_ | refine Tw rfl ?_)
 by_cases h2 : l.length = 0
 ·have e : (Tape.mk l at_).stop n := .inr (.inl h2)
  have e1 : (Tape.mk l at_).nx n = 0 := if_pos e
  have e2 : (Tape.mk l at_).go n = ⟨l, at_⟩ := if_pos e
  rw [e1, e2]
  change HCall _ _ _ [.box 0 [.d (Ax l), .d (.lit (.int .i64 at_))]] _ [.box 0 [.d (Ax l), .d (.lit (.int .i64 at_))]]
  refine As hT Tryz.func30 Tryz.ntmps30 [.tmp 4] fun B => ?_
  repeat' (first | refine kz ?_ | refine Au rfl (fun hb => ?_) (fun hb => ?_) | refine ki ?_ | refine kf ?_ | refine kg ?_ ?_ | exact k0 | refine Ab ?_ | refine Tw rfl ?_)
 by_cases h3 : 4 * l.length ≤ at_
 ·have e : (Tape.mk l at_).stop n := .inr (.inr h3)
  have e1 : (Tape.mk l at_).nx n = 0 := if_pos e
  have e2 : (Tape.mk l at_).go n = ⟨l, at_⟩ := if_pos e
  rw [e1, e2]
  change HCall _ _ _ [.box 0 [.d (Ax l), .d (.lit (.int .i64 at_))]] _ [.box 0 [.d (Ax l), .d (.lit (.int .i64 at_))]]
  refine As hT Tryz.func30 Tryz.ntmps30 [.tmp 4] fun B => ?_
  repeat' (first | refine kz ?_ | refine Au rfl (fun hb => ?_) (fun hb => ?_) | refine ki ?_ | refine kf ?_ | refine kg ?_ ?_ | exact k0 | refine Ab ?_ | refine Tw rfl ?_)
 have e : ¬ (Tape.mk l at_).stop n := by rintro (q | q | q); exact h1 q; exact h2 q; exact h3 q
 have e1 : (Tape.mk l at_).nx n = (((Tape.mk l at_).raw).tmod n + n).tmod n := if_neg e
 have e2 : (Tape.mk l at_).go n = ⟨l, at_ + 1⟩ := if_neg e
 rw [e1, e2]
 have ht1 : (at_ : Int).tmod l.length = ((at_ % l.length : Nat) : Int) := by rw [Int.tmod_eq_emod_of_nonneg (by omega)]; rfl
 have ht2 : (at_ : Int).tdiv l.length = ((at_ / l.length : Nat) : Int) := by rw [Int.tdiv_eq_ediv_of_nonneg (by omega)]; rfl
 have hml : at_ % l.length < l.length := Nat.mod_lt _ (by omega)
 have hdl : at_ / l.length ≤ 4 := by
  have : at_ / l.length < 5 := Nat.div_lt_of_lt_mul (by omega)
  omega
 have hv : l[at_ % l.length]? = some l[at_ % l.length] := List.getElem?_eq_getElem hml
 have hraw : (Tape.mk l at_).raw = if 0 < at_ / l.length then J1 .i64 (Cq .i64 l[at_ % l.length] ((at_ / l.length : Nat) : Int)) ((at_ / l.length : Nat) : Int) else l[at_ % l.length] := by
  unfold Tape.raw
  simp only [List.getD_eq_getElem?_getD, hv, Option.getD_some]
 rw [hraw]
 generalize l[at_ % l.length] = x at hv
 change HCall _ _ _ [.box 0 [.d (Ax l), .d (.lit (.int .i64 at_))]] _ [.box 0 [.d (Ax l), .d (.lit (.int .i64 (at_ + 1 : Nat)))]]
 refine As hT Tryz.func30 Tryz.ntmps30 [.tmp 4] fun B => ?_
 have hmn : ∀ y : Int, IntKind.i64.wrap (y.tmod n + n) = y.tmod n + n := fun y => by
  have q1 : -n < y.tmod n := Int.lt_tmod_of_pos _ (by omega)
  have q2 : y.tmod n < n := Int.tmod_lt_of_pos _ (by omega)
  exact BE (by omega) (by omega)
 repeat' (first | refine kz ?_ | refine Au rfl (fun hb => ?_) (fun hb => ?_) | refine kx hv ?_ | refine ki ?_ | refine T9 ?_ (hb := VU _) | refine kf ?_ | refine kg ?_ ?_ | exact k0 | refine Ab ?_ | refine Tw rfl ?_)
 ·rw [hmn, VV (by omega) (by omega), if_pos (by omega)]
 ·rw [hmn, if_neg (by omega)]
def Val.ofText (s : ByteArray) : Val := (Val.mk 2 0 s).clean
theorem Gu (s : ByteArray) : PCall Tryz.prog 129 [.one (.lit (.string s))] (.v (.agg (Val.ofText s).d)) := by
 have h := Fq ⟨2, 0, s⟩
 refine Ac hT Tryz.func129 Tryz.ntmps129 [.cell 2 73] fun B => ?_
 repeat' (first | refine kz ?_ | refine Aa (h) ?_ | refine kf ?_ | exact k0 | refine kg ?_ ?_ | fail)
 all_goals rfl
theorem Y8 (l : List Int) (hl : l.length ≤ 17592186044416) : HCall Tryz.prog 9 [.c (.d (Ax l))] [] (.c (.bp 1 1 0)) [.dead, .box 1 [.d (Ax l), .d (.lit (.int .i64 (0 : Nat)))]] := by
 have hf : List.take l.length (l.map iD) = l.map iD := Ag (by simp)
 refine As hT Tryz.func9 Tryz.ntmps9 [.tmp 2] fun B => ?_
 repeat' (first | refine FR 5 rfl rfl (by simp) hf rfl ?_ | refine kz ?_ | refine AX Af ?_ ?_ | exact k0 | refine Ab ?_)
def shortVals : List Val := [Val.null, Val.ofInt 1, Val.ofInt 2, Val.ofInt 3, Val.ofText ⟨#[97]⟩, Val.ofText ⟨#[98]⟩]
def Tape.short (t : Tape) : Val := shortVals.getD (t.nx 6).toNat Val.null
theorem VW (t : Tape) (ht : t.ok) : HCall Tryz.prog 73 [.c (.bp 0 0 0)] [(.box 0 [.d (Ax (t).l), .d (.lit (.int .i64 (t).at_))])] (.agg (t.short.d.map .d)) [(.box 0 [.d (Ax (t.go 6).l), .d (.lit (.int .i64 (t.go 6).at_))])] := by
 have hn := DC t 6 ht (by omega) (by omega)
 obtain ⟨b1, b2⟩ := t.nx_bd 6
 have hv : shortVals[(t.nx 6).toNat]? = some t.short := by
  unfold Tape.short
  rw [List.getD_eq_getElem?_getD, List.getElem?_eq_getElem (by simp [shortVals]; omega)]; rfl
 have hv1 : (shortVals.map Val.d)[(t.nx 6).toNat]? = some t.short.d := by rw [List.getElem?_map, hv]; rfl
 have i1 := Ba 1
 have i2 := Ba 2
 have i3 := Ba 3
 generalize t.nx 6 = z at hn b1 b2 hv hv1
 generalize t.go 6 = t' at hn
 refine As hT Tryz.func73 Tryz.ntmps73 [.cell 2 73] fun B => ?_
 repeat' (first | refine kz ?_ | refine kx hv1 ?_ | refine ki ?_ | refine Aa (i1) ?_ | refine Aa (i2) ?_ | refine Aa (i3) ?_ | refine Aa (Gu _) ?_ | refine Ad [0] (hn) ?_ | refine Cn Af ?_ ?_ | exact k0 | refine Ab ?_)
end Go.Proofs.YtmpgmjlanngkfaaGreat
end
section
namespace Go.Abs
open Go.RowKit
section
variable {P : Program} {T : TypeId → Option TI} {t : TypeId} {i : TI} {xs : List Dat}
theorem Uu (hT : AE P T) (ht : T t = some i) : P.bytesOf t = i.bytes := by
 obtain ⟨f, z, h1, _, h3, _⟩ := (hT t i ht).info
 simp [Program.bytesOf, h1, h3]
def Y9 (z : Int) : Prop := -9223372036854775808 ≤ z ∧ z ≤ 9223372036854775807
theorem Ye (hT : AE P T) (ht : T t = some i) (hi : i.desc = .int .i64) (h : YB P t xs) : ∃ z, xs = [.lit (.int .i64 z)] ∧ Y9 z := by
 have hu := (hT t i ht).desc
 rw [hi] at hu
 obtain ⟨n, h⟩ := h
 cases n with
 | zero => exact h.elim
 | succ n =>
   simp only [K8, show P.underlying t = some (.int .i64) from hu] at h
   obtain ⟨z, h1, h2⟩ := h
   refine ⟨z, h1, ?_⟩
   simpa [Lit.wf, IntKind.min, IntKind.max, IntKind.signed, IntKind.bits, Y9] using h2
theorem Uv (hT : AE P T) {e : TypeId} {ei : TI} (ht : T t = some i) (hi : i.desc = .slice e) (he : T e = some ei) (h : YB P t xs) : ∃ es, xs = [.sl es] ∧ es.length * ei.bytes ≤ reachBytes ∧ ∀ el ∈ es, YB P e el := by
 have hu := (hT t i ht).desc
 rw [hi] at hu
 obtain ⟨n, h⟩ := h
 cases n with
 | zero => exact h.elim
 | succ n =>
   simp only [K8, show P.underlying t = some (.slice e) from hu] at h
   obtain ⟨es, h1, h2, h3⟩ := h
   rw [Uu hT he] at h2
   exact ⟨es, h1, h2, fun el hel => ⟨n, h3 el hel⟩⟩
theorem Ln {α : Type} {f : α → List Dat} {Q : α → Prop} : ∀ (es : List (List Dat)), (∀ el ∈ es, ∃ a, el = f a ∧ Q a) → ∃ l : List α, es = l.map f ∧ ∀ a ∈ l, Q a
 | [], _ => ⟨[], rfl, by simp⟩
 | e :: es, h => by
   obtain ⟨a, rfl, ha⟩ := h e (by simp)
   obtain ⟨l, rfl, hl⟩ := Ln es (fun el hel => h el (by simp [hel]))
   exact ⟨a :: l, rfl, fun b hb => by rcases List.mem_cons.1 hb with rfl | hb; exact ha; exact hl b hb⟩
end
end Go.Abs
end
section
namespace Go.Proofs.YtmpgmjlanngkfaaGreat
open Go.Abs Go.RowKit
def Val.wf (v : Val) : Prop := Y9 v.kind ∧ Y9 v.int ∧ v.text.size ≤ reachBytes
theorem V1 {xs : List Dat} (h : YB Tryz.prog 22 xs) : ∃ r : List Int, xs = [Ax r] ∧ r.length ≤ 17592186044416 := by
 obtain ⟨es, rfl, h1, h2⟩ := Uv hT rfl rfl rfl h
 obtain ⟨l, rfl, hl⟩ := Ln (f := iD) (Q := Y9) es (fun el hel => Ye hT rfl rfl (h2 el hel))
 refine ⟨l, rfl, ?_⟩
 rw [List.length_map] at h1
 have h2 : l.length * 8 ≤ 140737488351232 := h1
 omega
end Go.Proofs.YtmpgmjlanngkfaaGreat
end
