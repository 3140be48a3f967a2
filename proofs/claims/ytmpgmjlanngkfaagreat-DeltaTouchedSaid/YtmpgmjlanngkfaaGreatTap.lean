/-
  The tape of numbers from which the laws build their arguments.
-/
import Derived.Test.YtmpgmjlanngkfaaGreatOrd
import Derived.Test.YtmpgmjlanngkfaaGreatMpc
import Derived.Test.YtmpgmjlanngkfaaGreatBag
import Derived.Test.YtmpgmjlanngkfaaGreatSrt
section
namespace Go.Proofs.YtmpgmjlanngkfaaGreat
open Go.Abs Go.RowKit
set_option linter.unusedSimpArgs false
theorem F5 {a b : Int} (h : I4 a = I4 b) : a % 256 = b % 256 := by
 have h1 := Ie a
 have h2 := Ie b
 rw [h] at h1
 have := h1.trans h2.symm
 simpa [IntKind.wrap, IntKind.bits, IntKind.signed] using this
theorem Jc (n : Int) (k : Nat) (z : Int) (hk : k ≤ 64) (hz : (2 : Int) ^ k = z) : CQ .i64 n k = n / z := by
 rw [Vo hk, hz]
 exact Int.fdiv_eq_ediv_of_nonneg n (by rw [← hz]; exact Int.le_of_lt (Int.pow_pos (by decide)))
theorem S2 (n : Int) : CQ .i64 n 32 = n / 4294967296 := Jc n 32 _ (by decide) rfl
theorem S3 (n : Int) : CQ .i64 n 24 = n / 16777216 := Jc n 24 _ (by decide) rfl
theorem S4 (n : Int) : CQ .i64 n 16 = n / 65536 := Jc n 16 _ (by decide) rfl
theorem Xa (n : Int) : CQ .i64 n 8 = n / 256 := Jc n 8 _ (by decide) rfl
theorem Pl {a b : Int} (ha : 0 ≤ a) (ha' : a ≤ 8589934592) (hb : 0 ≤ b) (hb' : b ≤ 8589934592) {x y : List UInt8} (h : Bs a ++ x = Bs b ++ y) : a = b ∧ x = y := by
 simp only [Bs, List.cons_append, List.nil_append, Uh, true_and] at h
 obtain ⟨h1, h2, h3, h4, h5, h6⟩ := h
 have q1 := F5 h1
 have q2 := F5 h2
 have q3 := F5 h3
 have q4 := F5 h4
 have q5 := F5 h5
 rw [S2, S2] at q1
 rw [S3, S3] at q2
 rw [S4, S4] at q3
 rw [Xa, Xa] at q4
 exact ⟨by omega, h6⟩
theorem Ma : ∀ {l m x y : List UInt8}, CW l ++ 0 :: 0 :: x = CW m ++ 0 :: 0 :: y → l = m ∧ x = y
 | [], [], x, y, h => by simp [CW] at h; exact ⟨rfl, h⟩
 | [], b :: m, x, y, h => by
   have : CW (b :: m) = En b ++ CW m := by simp [CW]
   rw [this] at h
   unfold En at h
   split at h
   ·simp [CW] at h
   ·rename_i hb
    simp [CW] at h
    exact absurd h.1.symm hb
 | a :: l, [], x, y, h => by
   have : CW (a :: l) = En a ++ CW l := by simp [CW]
   rw [this] at h
   unfold En at h
   split at h
   ·simp [CW] at h
   ·rename_i hb
    simp [CW] at h
    exact absurd h.1 hb
 | a :: l, b :: m, x, y, h => by
   have e1 : CW (a :: l) = En a ++ CW l := by simp [CW]
   have e2 : CW (b :: m) = En b ++ CW m := by simp [CW]
   rw [e1, e2] at h
   by_cases ha : a = 0
   ·by_cases hb : b = 0
    ·subst ha; subst hb
     simp only [En, if_true, List.cons_append, List.nil_append, Uh, true_and] at h
     obtain ⟨q1, q2⟩ := Ma h
     exact ⟨by rw [q1], q2⟩
    ·subst ha
     simp only [En, if_true, if_neg hb, List.cons_append, List.nil_append, Uh] at h
     exact absurd h.1.symm hb
   ·by_cases hb : b = 0
    ·subst hb
     simp only [En, if_true, if_neg ha, List.cons_append, List.nil_append, Uh] at h
     exact absurd h.1 ha
    ·simp only [En, if_neg ha, if_neg hb, List.cons_append, List.nil_append, Uh] at h
     obtain ⟨q1, q2⟩ := Ma h.2
     exact ⟨by rw [h.1, q1], q2⟩
theorem CA {v : Val} (h : v.valid = true) : (v.kind = 0 ∧ v = Val.null) ∨ (v.kind = 1 ∧ -4294967296 ≤ v.int ∧ v.int ≤ 4294967296 ∧ v = ⟨1, v.int, ⟨#[]⟩⟩) ∨ (v.kind = 2 ∧ v.text.size ≤ 32 ∧ v = ⟨2, 0, v.text⟩) := by
 have hnil : ∀ b : ByteArray, b.toList = [] → b = ⟨#[]⟩ := fun b hb => GG (by rw [hb, ByteArray.toList_eq])
 unfold Val.valid at h
 cases v with | mk k n t =>
 simp only at h ⊢
 split at h
 ·rename_i hk
  simp at h
  exact .inl ⟨hk, by rw [Val.null, hk, h.1, hnil t h.2]⟩
 ·split at h
  ·rename_i hk
   simp at h
   exact .inr (.inl ⟨hk, h.1.1, h.1.2, by rw [hk, hnil t h.2]⟩)
  ·split at h
   ·rename_i hk
    simp at h
    exact .inr (.inr ⟨hk, h.2, by rw [hk, h.1]⟩)
   ·cases h
theorem Pm {v u : Val} (hv : v.valid = true) (hu : u.valid = true) {x y : List UInt8} (h : AL v ++ x = AL u ++ y) : v = u ∧ x = y := by
 rcases CA hv with ⟨kv, ev⟩ | ⟨kv, v1, v2, ev⟩ | ⟨kv, _, ev⟩ <;> rcases CA hu with ⟨ku, eu⟩ | ⟨ku, u1, u2, eu⟩ | ⟨ku, _, eu⟩ <;> simp [AL, kv, ku, Bs] at h
 ·exact ⟨by rw [ev, eu], h⟩
 ·have h' : Bs (v.int + 4294967296) ++ x = Bs (u.int + 4294967296) ++ y := by simp [Bs, h]
  obtain ⟨q1, q2⟩ := Pl (by omega) (by omega) (by omega) (by omega) h'
  exact ⟨by rw [ev, eu, show v.int = u.int by omega], q2⟩
 ·obtain ⟨q1, q2⟩ := Ma (by simpa using h)
  refine ⟨?_, q2⟩
  rw [ev, eu, GG (a := v.text) (b := u.text) (by rw [ByteArray.toList_eq, ByteArray.toList_eq]; exact q1)]
theorem Ig (v : Val) : AL v ≠ [] := by
 unfold AL
 split
 ·simp [Bs]
 ·split <;> simp
theorem Hb : ∀ {r s : List Val}, AD r = AD s → r.map Val.clean = s.map Val.clean
 | [], [], _ => rfl
 | [], b :: s, h => by
   have : AD (b :: s) = AL b.clean ++ AD s := by simp [AD]
   rw [this] at h
   have hl := congrArg List.length h
   have hne : 0 < (AL b.clean).length := VM.2 (Ig b.clean)
   rw [Dg, show (AD []).length = 0 from rfl] at hl
   omega
 | a :: r, [], h => by
   have : AD (a :: r) = AL a.clean ++ AD r := by simp [AD]
   rw [this] at h
   have hl := congrArg List.length h
   have hne : 0 < (AL a.clean).length := VM.2 (Ig a.clean)
   rw [Dg, show (AD []).length = 0 from rfl] at hl
   omega
 | a :: r, b :: s, h => by
   have e1 : AD (a :: r) = AL a.clean ++ AD r := by simp [AD]
   have e2 : AD (b :: s) = AL b.clean ++ AD s := by simp [AD]
   rw [e1, e2] at h
   obtain ⟨q1, q2⟩ := Pm (AV a) (AV b) h
   rw [List.map_cons, List.map_cons, q1, Hb q2]
theorem HA (r : List Val) : AD (r.map Val.clean) = AD r := by
 have : ∀ v : Val, v.clean.clean = v.clean := fun v => by rw [Val.clean, if_pos (AV v)]
 simp [AD, List.flatMap_map, this]
theorem Hc {r s : List Val} : AD r = AD s ↔ Ai r s = 0 := by
 rw [rowCmp_ok.zero]
 constructor
 ·exact Hb
 ·intro h
  rw [← HA r, ← HA s, h]
end Go.Proofs.YtmpgmjlanngkfaaGreat
end
section
namespace Go.Abs
open Go.RowKit
section
variable {P : Program} {T : TypeId → Option TI} {F0 : Nat → Prop} {w0 : World}
variable {dr : Bool} {ops rest : List Oper} {K : St → Prop} {n : Nat} {sl : List (Nat × SVal)} {mem : List Blk} {ck : Nat} {df : List (FuncId × List Cell)} {acc : List Nat}
variable {d : Tmp} {op : Op} {ty : TypeId} {pos : String} {aft : Array Edge} {g : Option (Nat × Bool)}
theorem Kc {m : List Blk} : Ap m m := fun _ _ h _ => h
theorem Tx : Ap [] [.dead] := fun s x h hl => by
 cases s with
 | zero => simp at h; subst h; exact hl.elim
 | succ s => simp at h
def aB (r k : Nat) (es : List (List Dat)) (c : Cell) (y : Dat) : Prop := (∃ m, c = .arr r k m ∧ m ≤ es.length ∧ y = .sl (es.take m)) ∨ c.dat = some y
def CFrs (r k : Nat) (es : List (List Dat)) : List Cell → List Dat → Prop
 | [], [] => True
 | c :: cs, y :: ys => aB r k es c y ∧ CFrs r k es cs ys
 | _, _ => False
theorem CFrs.get {r k : Nat} {es : List (List Dat)} : ∀ {cs : List Cell} {ys : List Dat}, CFrs r k es cs ys → cs.length = ys.length ∧ ∀ (i : Nat) c y, cs[i]? = some c → ys[i]? = some y → aB r k es c y
 | [], [], _ => ⟨rfl, by simp⟩
 | c :: cs, y :: ys, h => by
   obtain ⟨h1, h2⟩ := CFrs.get h.2
   refine ⟨by simp [h1], fun i c' y' hc hy => ?_⟩
   cases i with
   | zero => simp at hc hy; subst hc; subst hy; exact h.1
   | succ i => exact h2 i c' y' (by simpa using hc) (by simpa using hy)
 | [], _ :: _, h => h.elim
 | _ :: _, [], h => h.elim
theorem Rs [tc : TC P T] (r : Nat) {t e : TypeId} {x : Tmp} {i ei : TI} {k esz : Nat} {ety : TypeId} {es : List (List Dat)} {cs : List Cell} {ds : List Dat} {mem' : List Blk} (h : Reg P F0 w0 dr ops K rest ⟨n, (d, .c (.d (.sl [ds]))) :: sl, mem', ck, df⟩ (2 :: acc)) (hcs : CFrs r k es cs ds) (hm : mem[r]? = some (.arr k ety esz es) := by exact rfl) (hw : GW ops g sl := by first | exact trivial | exact rfl)
  (hx : AO sl (.tmp x) = .agg cs := by exact rfl) (ht : T t = some i := by exact rfl) (hi : i.desc = .slice e := by exact rfl) (hei : T e = some ei := by exact rfl) (hk : (Nat.blt 0 ei.size && (Nat.beq ei.zero.length ei.size && (Nat.ble ei.size 16777216 && Nat.beq cs.length ei.size))) = true := by exact rfl) (hm' : mem.set r .dead = mem' := by repeat' (first | exact A0 rfl | apply AI rfl)) :
  Reg P F0 w0 dr ops K (⟨some d, .buildSlice t 1 #[(0, .tmp x)], ty, pos, aft, g⟩ :: rest) ⟨n, sl, mem, ck, df⟩ acc := by
 subst hm'
 refine RS (df' := []) hw (fun B σ E a w hF hw0 he hmm hck hr hB hd next Q hn => ?_) h
 subst hF; subst hw0
 simp only [BO, PS, KM, Nat.blt, QI] at hk
 have hm2 : σ.mem[r]? = some (.arr k ety esz es) := by rw [hmm]; exact hm
 have hfz := hr.1.freeze r k ety esz es hm2
 have hxv : SRep E w (a.eval (.tmp x)) (.agg cs) := by
  have := hr.ev (.tmp x)
  rw [he (.tmp x) (by simp [Op.operands]), hx] at this
  exact this
 obtain ⟨hcl, hcg⟩ := hcs.get
 have hxd : SRep { E with F := fun i => E.F i ∨ (i = E.blk r ∧ E.cap r ≠ 0) } w (a.eval (.tmp x)) (.agg (ds.map .d)) := by
  generalize a.eval (.tmp x) = v at hxv
  cases hxv with | agg _ vs hl hv =>
  refine .agg _ vs (by rw [hl, hcl]; simp) fun i u y hu hy => ?_
  rw [Ci] at hy
  cases hq : ds[i]? with
  | none => rw [hq] at hy; cases hy
  | some z =>
    rw [hq] at hy
    simp only [Option.map_some, Option.some.injEq] at hy
    subst hy
    have hlt : i < cs.length := by rw [hcl]; exact lt_of_getElem? hq
    have hci : cs[i]? = some cs[i] := Bi hlt
    have hrep := hv i u _ hu hci
    rcases hcg i _ z hci hq with ⟨m, h1, h2, rfl⟩ | h1
    ·rw [h1] at hrep
     exact .d (EC hr.1 hm2 h2 hrep (fun b hb => .inl hb) fun hz => .inr ⟨rfl, hz⟩)
    ·exact .d ((hrep.dat h1).mono (fun _ hb => .inl hb) (fun _ _ => rfl))
 have hput : a.eval (.tmp x) = a.tmps.getD x undef := rfl
 have hρ : ∀ o, SRep { E with F := fun i => E.F i ∨ (i = E.blk r ∧ E.cap r ≠ 0) } w (a.eval o) (St.ev { σ with mem := σ.mem.set r .dead, slots := (x, .agg (ds.map .d)) :: σ.slots } o) := by
  intro o
  cases o with
  | tmp s =>
    simp only [St.ev, St.get, Bo]
    split
    ·rename_i q; subst q; exact hxd
    ·exact (hr.ev (.tmp s)).le hfz.2
  | const v => exact (hr.ev (.const v)).le hfz.2
  | global q => exact (hr.ev (.global q)).le hfz.2
  | func q => exact (hr.ev (.func q)).le hfz.2
 obtain ⟨a1, a2, a3, a4, a5⟩ := i
 simp only at hi
 subst hi
 obtain ⟨v, w', E', y, q1, q2, q3, q4, q5⟩ := GU (P := P) tc.ok (σ := { σ with mem := σ.mem.set r .dead, slots := (x, .agg (ds.map .d)) :: σ.slots }) hfz.1 (t := t) (len := 1) (ρ := a.eval) hρ (parts := #[(0, .tmp x)]) (V := fun y => y = .c (.d (.sl [ds]))) (by
  have hdd : DF (ds.map Cell.d) = some ds := by
    have : ∀ l : List Dat, DF (l.map Cell.d) = some l := fun l => by
     induction l with
     | nil => rfl
     | cons z l ih => simp [DF, ih, Cell.dat]
    exact this ds
  simp only [Cu, ht, hei, DZ, St.ev, St.get, Bo, if_true, SVal.cells, hdd]
  refine ⟨hk.1, hk.2.1, by omega, rfl, ?_⟩
  rw [if_pos (by rw [← hcl]; exact hk.2.2.2)])
 subst q5
 unfold Oper.wp
 rw [show (execOp a.eval ⟨some d, .buildSlice t 1 #[(0, .tmp x)], ty, pos, aft, g⟩).run P w = .ok (.value v) w' by have q1' := q1; simp at q1'; simp [execOp, q1']]
 refine hn _ _ _ [] _ _ ⟨rfl, rfl, rfl, rfl⟩ ⟨E', ?_, hB.trans (hfz.2.trans q2)⟩
 rw [Gc, ← hmm, ← hck]
 exact hr.putOE (hfz.2.trans q2) q3 hd q4
end
end Go.Abs
end
section
namespace Go.Proofs.YtmpgmjlanngkfaaGreat
open Go.Abs Go.RowKit
set_option linter.unusedSimpArgs false
set_option maxRecDepth 100000
set_option maxHeartbeats 4000000
section
variable {P : Program} {T : TypeId → Option TI} {B : Base} {n : Nat} {sl : List (Nat × SVal)} {mem mem1 m1 : List Blk} {ck : Nat} {df : List (FuncId × List Cell)} {r1 r : SVal}
theorem Kt {a t rr k o : Nat} {i : TI} {cs cs1 : List Cell} (hd : Af P df) (h : Ap mem m1) (ha : AM (.agg cs1) r) (hk : IM mem mem1 0 := by repeat' (first | exact trivial | refine And.intro rfl ?_ | refine And.intro trivial ?_)) (hl : Abs.look sl a = .c (.bp rr k o) := by exact rfl) (hmm : mem[rr]? = some (.box k cs) := by exact rfl) (ht : T t = some i := by exact rfl) (hag : i.desc.agg = true := by exact rfl) (hs : decide (o + i.size ≤ cs.length) = true := by exact rfl) (hcs : (cs.drop o).take i.size = cs1 := by repeat' (first | exact A0 rfl | apply AI rfl)) (hr : r1.up id (CP mem) = r := by exact rfl) (hm : He id (CP mem) mem1 0 = m1 := by repeat' (first | exact A0 rfl | apply AI rfl)) : Aq P B (AW P T [.cell a t] (fun r m _ => HR m mem1 r r1)) [] .ret ⟨n, sl, mem, ck, df⟩ := by
 subst hcs
 refine ⟨hd, ?_⟩
 simp only [Pk, Am, St.get, hl, Dq, ht, hag, hmm]
 refine ⟨.inl trivial, trivial, by simpa using hs, ?_⟩
 exact Ob hm hr h ha hk
end
attribute [local irreducible] ARun Aq MCall PCall HCall Am SF CF CFs Af Al Ap B5 AW VLe
set_option linter.unusedSimpArgs false
set_option maxRecDepth 100000
set_option maxHeartbeats 4000000
def iD (n : Int) : List Dat := [.lit (.int .i64 n)]
def DW (l : List Int) : Dat := .sl (l.map iD)
structure Tape where
 l : List Int
 at_ : Nat
structure Tape.ok (t : Tape) : Prop where
 len : t.l.length ≤ 17592186044416
 pos : t.at_ ≤ 4 * t.l.length
def Tape.raw (t : Tape) : Int :=
 let x := t.l.getD (t.at_ % t.l.length) 0
 if 0 < t.at_ / t.l.length then Ke .i64 (CQ .i64 x ((t.at_ / t.l.length : Nat) : Int)) ((t.at_ / t.l.length : Nat) : Int) else x
def Tape.stop (t : Tape) (n : Int) : Prop := n < 2 ∨ t.l.length = 0 ∨ 4 * t.l.length ≤ t.at_
instance (t : Tape) (n : Int) : Decidable (t.stop n) := by unfold Tape.stop; infer_instance
def Tape.nx (t : Tape) (n : Int) : Int := if t.stop n then 0 else ((t.raw).tmod n + n).tmod n
def Tape.go (t : Tape) (n : Int) : Tape := if t.stop n then t else ⟨t.l, t.at_ + 1⟩
theorem Tape.nx_bd (t : Tape) (n : Int) : 0 ≤ t.nx n ∧ (t.nx n < n ∨ t.nx n = 0) := by
 unfold Tape.nx
 split
 ·exact ⟨by omega, .inr rfl⟩
 ·rename_i h
  have hn : 2 ≤ n := by unfold Tape.stop at h; omega
  have h1 : -n < (t.raw).tmod n := Int.lt_tmod_of_pos _ (by omega)
  have h2 : 0 ≤ (t.raw).tmod n + n := by omega
  rw [Int.tmod_eq_emod_of_nonneg h2]
  exact ⟨Int.emod_nonneg _ (by omega), .inl (Int.emod_lt_of_pos _ (by omega))⟩
theorem Tape.ok.go {t : Tape} (h : t.ok) (n : Int) : (t.go n).ok := by
 unfold Tape.go
 split
 ·exact h
 ·rename_i hs
  unfold Tape.stop at hs
  exact ⟨h.len, by have := h.pos; simp only; omega⟩
theorem YY (z : Int) : IntKind.u64.wrap z = z % 18446744073709551616 := by
 simp only [IntKind.wrap, IntKind.signed, IntKind.bits]
 simp
theorem Vv (z : Int) : 0 ≤ IntKind.u64.wrap z := by rw [YY]; omega
theorem Vx {z : Int} (h1 : 0 ≤ z) (h2 : z < 18446744073709551616) : IntKind.u64.wrap z = z := by rw [YY]; omega
theorem Ix (t : Tape) (n : Int) (ht : t.ok) (hn : n ≤ 1099511627776) (hn' : -1099511627776 ≤ n) : HC 30 [.c (.bp 0 0 0), .c (.d (.lit (.int .i64 n)))] [(.box 0 [.d (DW (t).l), .d (.lit (.int .i64 (t).at_))])] (iC (t.nx n)) [(.box 0 [.d (DW (t.go n).l), .d (.lit (.int .i64 (t.go n).at_))])] := by
 obtain ⟨l, at_⟩ := t
 obtain ⟨hl, hat⟩ := ht
 dsimp only at hl hat
 by_cases h1 : n < 2
 ·have e : (Tape.mk l at_).stop n := .inl h1
  have e1 : (Tape.mk l at_).nx n = 0 := if_pos e
  have e2 : (Tape.mk l at_).go n = ⟨l, at_⟩ := if_pos e
  rw [e1, e2]
  change HCall _ _ _ [.box 0 [.d (DW l), .d (.lit (.int .i64 at_))]] _ [.box 0 [.d (DW l), .d (.lit (.int .i64 at_))]]
  refine AF hT Tryz.func30 Tryz.ntmps30 [.tmp 4] fun B => ?_
  repeat' first | refine kz ?_ | refine AE rfl (fun hb => ?_) (fun hb => ?_) | refine As ?_ | refine kf ?_ | refine kg ?_ ?_ | exact k0 | refine Ab ?_ | refine Tj rfl ?_
 by_cases h2 : l.length = 0
 ·have e : (Tape.mk l at_).stop n := .inr (.inl h2)
  have e1 : (Tape.mk l at_).nx n = 0 := if_pos e
  have e2 : (Tape.mk l at_).go n = ⟨l, at_⟩ := if_pos e
  rw [e1, e2]
  change HCall _ _ _ [.box 0 [.d (DW l), .d (.lit (.int .i64 at_))]] _ [.box 0 [.d (DW l), .d (.lit (.int .i64 at_))]]
  refine AF hT Tryz.func30 Tryz.ntmps30 [.tmp 4] fun B => ?_
  repeat' first | refine kz ?_ | refine AE rfl (fun hb => ?_) (fun hb => ?_) | refine As ?_ | refine kf ?_ | refine kg ?_ ?_ | exact k0 | refine Ab ?_ | refine Tj rfl ?_
 by_cases h3 : 4 * l.length ≤ at_
 ·have e : (Tape.mk l at_).stop n := .inr (.inr h3)
  have e1 : (Tape.mk l at_).nx n = 0 := if_pos e
  have e2 : (Tape.mk l at_).go n = ⟨l, at_⟩ := if_pos e
  rw [e1, e2]
  change HCall _ _ _ [.box 0 [.d (DW l), .d (.lit (.int .i64 at_))]] _ [.box 0 [.d (DW l), .d (.lit (.int .i64 at_))]]
  refine AF hT Tryz.func30 Tryz.ntmps30 [.tmp 4] fun B => ?_
  repeat' first | refine kz ?_ | refine AE rfl (fun hb => ?_) (fun hb => ?_) | refine As ?_ | refine kf ?_ | refine kg ?_ ?_ | exact k0 | refine Ab ?_ | refine Tj rfl ?_
 have e : ¬ (Tape.mk l at_).stop n := by rintro (q | q | q); exact h1 q; exact h2 q; exact h3 q
 have e1 : (Tape.mk l at_).nx n = (((Tape.mk l at_).raw).tmod n + n).tmod n := if_neg e
 have e2 : (Tape.mk l at_).go n = ⟨l, at_ + 1⟩ := if_neg e
 rw [e1, e2]
 have ht1 : (at_ : Int).tmod l.length = ((at_ % l.length : Nat) : Int) := by rw [Int.tmod_eq_emod_of_nonneg (by omega)]; rfl
 have ht2 : (at_ : Int).tdiv l.length = ((at_ / l.length : Nat) : Int) := by rw [Int.tdiv_eq_ediv_of_nonneg (by omega)]; rfl
 have hml : at_ % l.length < l.length := VP _ (by omega)
 have hdl : at_ / l.length ≤ 4 := by
  have : at_ / l.length < 5 := Yk (by omega)
  omega
 have hv : l[at_ % l.length]? = some l[at_ % l.length] := Bi hml
 have hraw : (Tape.mk l at_).raw = if 0 < at_ / l.length then Ke .i64 (CQ .i64 l[at_ % l.length] ((at_ / l.length : Nat) : Int)) ((at_ / l.length : Nat) : Int) else l[at_ % l.length] := by
  unfold Tape.raw
  simp only [OM, hv, RW]
 rw [hraw]
 generalize l[at_ % l.length] = x at hv
 change HCall _ _ _ [.box 0 [.d (DW l), .d (.lit (.int .i64 at_))]] _ [.box 0 [.d (DW l), .d (.lit (.int .i64 (at_ + 1 : Nat)))]]
 refine AF hT Tryz.func30 Tryz.ntmps30 [.tmp 4] fun B => ?_
 have hmn : ∀ y : Int, IntKind.i64.wrap (y.tmod n + n) = y.tmod n + n := fun y => by
  have q1 : -n < y.tmod n := Int.lt_tmod_of_pos _ (by omega)
  have q2 : y.tmod n < n := Int.tmod_lt_of_pos _ (by omega)
  exact BW (by omega) (by omega)
 repeat' first | refine kz ?_ | refine AE rfl (fun hb => ?_) (fun hb => ?_) | refine AT hv ?_ | refine As ?_ | refine TA ?_ (hb := Vv _) | refine kf ?_ | refine kg ?_ ?_ | exact k0 | refine Ab ?_ | refine Tj rfl ?_
 ·rw [hmn, Vx (by omega) (by omega), if_pos (by omega)]
 ·rw [hmn, if_neg (by omega)]
def Val.ofText (s : ByteArray) : Val := (Val.mk 2 0 s).clean
theorem LA (s : ByteArray) : PC 129 [.one (.lit (.string s))] (.v (.agg (Val.ofText s).d)) := by
 have h := Hm ⟨2, 0, s⟩
 refine Ad hT Tryz.func129 Tryz.ntmps129 [.cell 2 73] fun B => ?_
 repeat' first | refine kz ?_ | refine Aa (h) ?_ | refine kh ?_ ?_ | exact ⟨⟩ | fail
 all_goals rfl
theorem YZ (l : List Int) (hl : l.length ≤ 17592186044416) : HC 9 [.c (.d (DW l))] [] (.c (.bp 1 1 0)) [.dead, .box 1 [.d (DW l), .d (.lit (.int .i64 (0 : Nat)))]] := by
 have hf : List.take l.length (l.map iD) = l.map iD := Ag (by simp)
 refine AF hT Tryz.func9 Tryz.ntmps9 [.tmp 2] fun B => ?_
 repeat' first | refine SN 5 rfl rfl (by simp) hf rfl ?_ | refine kz ?_ | refine Bd Ac ?_ ?_ | exact k0 | refine Ab ?_
def shortVals : List Val := [Val.null, Val.ofInt 1, Val.ofInt 2, Val.ofInt 3, Val.ofText ⟨#[97]⟩, Val.ofText ⟨#[98]⟩]
def Tape.short (t : Tape) : Val := shortVals.getD (t.nx 6).toNat Val.null
theorem Vy (t : Tape) (ht : t.ok) : HC 73 [.c (.bp 0 0 0)] [(.box 0 [.d (DW (t).l), .d (.lit (.int .i64 (t).at_))])] (.agg (t.short.d.map .d)) [(.box 0 [.d (DW (t.go 6).l), .d (.lit (.int .i64 (t.go 6).at_))])] := by
 have hn := Ix t 6 ht (by omega) (by omega)
 obtain ⟨b1, b2⟩ := t.nx_bd 6
 have hv : shortVals[(t.nx 6).toNat]? = some t.short := by
  unfold Tape.short
  rw [OM, Bi (by simp [shortVals]; omega)]; rfl
 have hv1 : (shortVals.map Val.d)[(t.nx 6).toNat]? = some t.short.d := by rw [Ci, hv]; rfl
 have i1 := Fc 1
 have i2 := Fc 2
 have i3 := Fc 3
 generalize t.nx 6 = z at hn b1 b2 hv hv1
 generalize t.go 6 = t' at hn
 refine AF hT Tryz.func73 Tryz.ntmps73 [.cell 2 73] fun B => ?_
 repeat' first | refine kz ?_ | refine AT hv1 ?_ | refine As ?_ | refine Aa (i1) ?_ | refine Aa (i2) ?_ | refine Aa (i3) ?_ | refine Aa (LA _) ?_ | refine Ak [0] (hn) ?_ | refine Kt Ac ?_ ?_ | exact k0 | refine Ab ?_
abbrev tB (t : Tape) : Blk := .box 0 [.d (DW t.l), .d (.lit (.int .i64 t.at_))]
end Go.Proofs.YtmpgmjlanngkfaaGreat
end
