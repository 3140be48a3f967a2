/-
  A literal slice whose element holds an array of the call's own.
-/
import Derived.Test.YtmpgmjlanngkfaaGreatMrg
import Derived.Test.YtmpgmjlanngkfaaGreatMpc
section
namespace Go.Proofs.YtmpgmjlanngkfaaGreat
open Go.Abs Go.RowKit
attribute [local irreducible] ARun Au MCall PCall HCall Ak SF CF CFs Af Ag Ar fin AP VLe
set_option linter.unusedSimpArgs false
set_option maxRecDepth 100000
set_option maxHeartbeats 4000000
variable {s : Int}
theorem OT : DeferOk Tryz.prog 46 0 := by
 refine ⟨⟨_, Tryz.func46, by kernel_rfl, by kernel_rfl⟩, fun vs w hl => ?_⟩
 match vs, hl with
 | [], _ =>
   refine callsD_of_wpS Tryz.func46 rfl fun c₀ cs hu => ?_
   apply wpS_region
   simp [wpOpsS, go_sem, recoverD, hu, Tryz.ntmps46, Exit.thenS]
   cases c₀
   simp_all [bodyPostS, results, Tryz.results46]
theorem Fx : DeferOk Tryz.prog 94 0 := by
 refine ⟨⟨_, Tryz.func94, by kernel_rfl, by kernel_rfl⟩, fun vs w hl => ?_⟩
 match vs, hl with
 | [], _ =>
   refine callsD_of_wpS Tryz.func94 rfl fun c₀ cs hu => ?_
   apply wpS_region
   simp [wpOpsS, go_sem, recoverD, hu, Tryz.ntmps94, Exit.thenS]
   cases c₀
   simp_all [bodyPostS, results, Tryz.results94]
def Ba (s : Int) (a b : List Entry) : List Entry × Int := if Aj a ∧ Aj b then AS (mergeE a (b.map (sc s))) else ([], 1)
theorem Fc (a b : List Entry) : PC 19 [.one (Am a), .one (Am b)] (.tup [.one (Am (Ba 1 a b).1), .one (.lit (.int .i64 (Ba 1 a b).2))]) := by
 have h1 := BT a
 have h2 := BT b
 by_cases ha : Aj a = true
 ·by_cases hb : Aj b = true
  ·have hm := Oh a b 1 (.inl rfl) ha hb
   have he : Ba 1 a b = AS (mergeE a (b.map (sc 1))) := if_pos ⟨ha, hb⟩
   rw [he]
   generalize AS (mergeE a (b.map (sc 1))) = R at hm
   obtain ⟨r, er⟩ := R
   dsimp only at hm ⊢
   rw [ha] at h1
   rw [hb] at h2
   refine Ac hT Tryz.func19 Tryz.ntmps19 [.tmp 4, .tmp 5] fun B => ?_
   repeat' first | refine kz ?_ | refine Aa (h1) ?_ | refine Aa (h2) ?_ | refine Aa (hm) ?_ | refine AA (by repeat (first | exact Ae | refine As OT ?_)) ?_ ?_ | refine kf ?_ | fail
   all_goals rfl
  ·have he : Ba 1 a b = ([], 1) := if_neg (fun q => hb q.2)
   rw [he]
   rw [ha] at h1
   rw [show Aj b = false by simpa using hb] at h2
   refine Ac hT Tryz.func19 Tryz.ntmps19 [.tmp 4, .tmp 5] fun B => ?_
   repeat' first | refine kz ?_ | refine Aa (h1) ?_ | refine Aa (h2) ?_ | refine AA (by repeat (first | exact Ae | refine As OT ?_)) ?_ ?_ | refine kf ?_ | fail
   all_goals rfl
 ·have he : Ba 1 a b = ([], 1) := if_neg (fun q => ha q.1)
  rw [he]
  rw [show Aj a = false by simpa using ha] at h1
  refine Ac hT Tryz.func19 Tryz.ntmps19 [.tmp 4, .tmp 5] fun B => ?_
  repeat' first | refine kz ?_ | refine Aa (h1) ?_ | refine Aa (h2) ?_ | refine AA (by repeat (first | exact Ae | refine As OT ?_)) ?_ ?_ | refine kf ?_ | fail
  all_goals rfl
theorem OU (a b : List Entry) : PC 45 [.one (Am a), .one (Am b)] (.tup [.one (Am (Ba (-1) a b).1), .one (.lit (.int .i64 (Ba (-1) a b).2))]) := by
 have h1 := BT a
 have h2 := BT b
 by_cases ha : Aj a = true
 ·by_cases hb : Aj b = true
  ·have hm := Oh a b (-1) (.inr rfl) ha hb
   have he : Ba (-1) a b = AS (mergeE a (b.map (sc (-1)))) := if_pos ⟨ha, hb⟩
   rw [he]
   generalize AS (mergeE a (b.map (sc (-1)))) = R at hm
   obtain ⟨r, er⟩ := R
   dsimp only at hm ⊢
   rw [ha] at h1
   rw [hb] at h2
   refine Ac hT Tryz.func45 Tryz.ntmps45 [.tmp 4, .tmp 5] fun B => ?_
   repeat' first | refine kz ?_ | refine Aa (h1) ?_ | refine Aa (h2) ?_ | refine Aa (hm) ?_ | refine AA (by repeat (first | exact Ae | refine As Fx ?_)) ?_ ?_ | refine kf ?_ | fail
   all_goals rfl
  ·have he : Ba (-1) a b = ([], 1) := if_neg (fun q => hb q.2)
   rw [he]
   rw [ha] at h1
   rw [show Aj b = false by simpa using hb] at h2
   refine Ac hT Tryz.func45 Tryz.ntmps45 [.tmp 4, .tmp 5] fun B => ?_
   repeat' first | refine kz ?_ | refine Aa (h1) ?_ | refine Aa (h2) ?_ | refine AA (by repeat (first | exact Ae | refine As Fx ?_)) ?_ ?_ | refine kf ?_ | fail
   all_goals rfl
 ·have he : Ba (-1) a b = ([], 1) := if_neg (fun q => ha q.1)
  rw [he]
  rw [show Aj a = false by simpa using ha] at h1
  refine Ac hT Tryz.func45 Tryz.ntmps45 [.tmp 4, .tmp 5] fun B => ?_
  repeat' first | refine kz ?_ | refine Aa (h1) ?_ | refine Aa (h2) ?_ | refine AA (by repeat (first | exact Ae | refine As Fx ?_)) ?_ ?_ | refine kf ?_ | fail
  all_goals rfl
theorem Vn (s : Int) (l : List Entry) (r : List Val) : A1 (l.map (sc s)) r = s * A1 l r := by
 induction l with
 | nil => simp [A1]
 | cons e l ih =>
   simp only [List.map_cons, A1, ih, Int.mul_add]
   congr 1
   show (if Ai e.row r = 0 then s * e.count else 0) = _
   split <;> simp
theorem QQ (hs : s = 1 ∨ s = -1) {l : List Entry} (h : Sorted l) : Sorted (l.map (sc s)) := by
 refine ⟨?_, fun e he => ?_, fun e he => ?_⟩
 ·rw [XQ]; exact h.up
 ·obtain ⟨x, hx, rfl⟩ := List.mem_map.1 he
  have := h.nz x hx
  show s * x.count ≠ 0
  rcases hs with rfl | rfl <;> omega
 ·obtain ⟨x, hx, rfl⟩ := List.mem_map.1 he
  exact h.cl x hx
theorem QR (hs : s = 1 ∨ s = -1) {M : Int} {l : List Entry} (h : A2 M l) : A2 M (l.map (sc s)) := fun e he => by
 obtain ⟨x, hx, rfl⟩ := List.mem_map.1 he
 have := h x hx
 show -M ≤ s * x.count ∧ s * x.count ≤ M
 rcases hs with rfl | rfl <;> omega
theorem Jl (hs : s = 1 ∨ s = -1) {a b : List Entry} {M N : Int} (ha : Aj a = true) (hb : Aj b = true) (wa : A2 M a) (wb : A2 N b) (hM : 0 ≤ M) (hN : 0 ≤ N) (hMN : M + N ≤ 262144) (hl : a.length + b.length ≤ 4096) :
  (Ba s a b).2 = 0 ∧ Aj (Ba s a b).1 = true ∧ A2 (M + N) (Ba s a b).1 ∧ (Ba s a b).1.length ≤ a.length + b.length ∧ ∀ r, A1 (Ba s a b).1 r = A1 a r + s * A1 b r := by
 have he : Ba s a b = AS (mergeE a (b.map (sc s))) := if_pos ⟨ha, hb⟩
 have hsa := AY ha
 have hsb := QQ hs (AY hb)
 have hw := Ep hM hN a (b.map (sc s)) wa (QR hs wb)
 have hlen := E5 a (b.map (sc s))
 rw [BQ] at hlen
 have hso := Gh _ _ hsa hsb
 have hfit : AS (mergeE a (b.map (sc s))) = (mergeE a (b.map (sc s)), 0) := by
  rw [AS, if_neg (by omega), if_pos]
  refine CN.2 fun e he => ?_
  have := hw e he
  simp only [Av, Bi, decide_eq_true_eq]
  omega
 rw [he, hfit]
 refine ⟨rfl, ?_, hw, hlen, fun r => by rw [ID, Vn]⟩
 simp only [Aj, Bi, decide_eq_true_eq]
 refine ⟨by omega, D7 (fun e hm => ?_) hso.up (by simp)⟩
 obtain ⟨x, hx, hr⟩ := C2 _ _ e hm
 have hrow : AD e.row = true := by
  rw [← hr]
  rcases hx with hx | hx
  · exact ((AF ha).2 x hx).1
  · obtain ⟨y, hy, rfl⟩ := List.mem_map.1 hx
    exact ((AF hb).2 y hy).1
 have hcw := hw e hm
 simp only [Entry.ok, Av, Bi, decide_eq_true_eq]
 exact ⟨⟨hrow, by omega, by omega⟩, hso.nz e hm⟩
end Go.Proofs.YtmpgmjlanngkfaaGreat
end
section
namespace Go.Proofs.YtmpgmjlanngkfaaGreat
open Go.Abs Go.RowKit
set_option linter.unusedSimpArgs false
set_option maxRecDepth 100000
variable {A B n w : Nat} {a b : List Entry}
theorem OK (h : (AS a).2 = 0) : (AS a).1 = a := by
 unfold AS at *
 split at h
 ·cases h
 ·split at h
  ·rename_i h1 h2; rw [if_neg h1, if_pos h2]
  ·cases h
theorem Kq (l : List Entry) : l.map (sc 1) = l := by
 conv => rhs; rw [← List.map_id l]
 refine bM fun e _ => ?_
 show (⟨e.row, 1 * e.count⟩ : Entry) = e
 rw [Int.one_mul]
structure TinV (n : Nat) (b : List Entry) : Prop where
 v : Aj b = true
 s : A9 b ≤ n
theorem Tiny.tv (h : Tiny n w b) : TinV n b := ⟨h.v, h.s⟩
theorem TinV.cl (h : TinV n b) : ∀ e ∈ b, AG e.row := fun e he => A8 ((AF h.v).2 e he).1
theorem TinV.win (h : TinV n b) : A2 (n : Int) b := fun e he => by
 have h1 := FR he
 have h2 := h.s
 omega
theorem TinV.len9 (h : TinV n b) : b.length ≤ n :=
 LF (Kg (AY h.v).nz) h.s
theorem Tiny.win (h : Tiny n w b) : A2 (n : Int) b := h.tv.win
theorem Tiny.len9 (h : Tiny n w b) : b.length ≤ n := h.tv.len9
theorem Ik {m : Nat} (h : Tiny n w b) (hn : n ≤ m) : Tiny m w b := ⟨h.v, h.w, LF h.s hn⟩
theorem Sb {m : Nat} (h : TinV n b) (hn : n ≤ m) : TinV m b := ⟨h.v, LF h.s hn⟩
theorem Kr (ha : TinV A a) (hb : TinV B b) (hn : A + B ≤ 4096) : ∃ s, Ba 1 a b = (s, 0) ∧ TinV (A + B) s ∧ (∀ e ∈ s, ∃ x, (x ∈ a ∨ x ∈ b) ∧ x.row = e.row) ∧ ∀ g, wS g s = wS g a + wS g b := by
 have la := ha.len9
 have lb := hb.len9
 obtain ⟨h1, h2, _⟩ := Jl (s := 1) (.inl rfl) ha.v hb.v ha.win hb.win (by omega) (by omega) (by omega) (by omega)
 have he : Ba 1 a b = AS (mergeE a b) := by rw [Ba, if_pos ⟨ha.v, hb.v⟩, Kq]
 rw [he] at h1 h2 ⊢
 have hf := OK h1
 rw [hf] at h2
 refine ⟨mergeE a b, Prod.ext hf h1, ⟨h2, ?_⟩, fun e hm => C2 a b e hm, fun g => Lx g a b ha.cl hb.cl⟩
 have := IF a b
 have h3 := ha.s
 have h4 := hb.s
 omega
theorem Ks (ha : Tiny A w a) (hb : Tiny B w b) (hn : A + B ≤ 4096) : ∃ s, Ba 1 a b = (s, 0) ∧ Tiny (A + B) w s ∧ ∀ g, wS g s = wS g a + wS g b := by
 obtain ⟨s, h1, h2, h3, h4⟩ := Kr ha.tv hb.tv hn
 refine ⟨s, h1, ⟨h2.v, fun e hm => ?_, h2.s⟩, h4⟩
 obtain ⟨x, hx, hr⟩ := h3 e hm
 rw [← hr]
 rcases hx with hx | hx
 ·exact ha.w x hx
 ·exact hb.w x hx
theorem Sc (g : List Val → Int) (b : List Entry) : wS g (b.map (sc (-1))) = - wS g b := by
 induction b with
 | nil => rfl
 | cons e b ih =>
   rw [List.map_cons, wS, wS, ih]
   show (-1 * e.count) * g e.row + _ = _
   rw [show (-1 : Int) * e.count = -e.count by omega, Int.neg_mul]
   omega
theorem bA (hb : TinV B b) (hn : B ≤ 4096) : Ba (-1) [] b = (b.map (sc (-1)), 0) ∧ TinV B (b.map (sc (-1))) := by
 have lb := hb.len9
 have ev : Aj [] = true := rfl
 obtain ⟨h1, h2, _⟩ := Jl (s := -1) (.inr rfl) (M := 0) ev hb.v (fun e he => by cases he) hb.win (by omega) (by omega) (by omega) (by simp; omega)
 have he : Ba (-1) [] b = AS (b.map (sc (-1))) := by rw [Ba, if_pos ⟨ev, hb.v⟩, Iw]
 rw [he] at h1 h2 ⊢
 have hf := OK h1
 rw [hf] at h2
 refine ⟨Prod.ext hf h1, h2, ?_⟩
 have h3 := hb.s
 have : ∀ l : List Entry, A9 (l.map (sc (-1))) = A9 l := fun l => by
  induction l with
  | nil => rfl
  | cons e l ih => rw [List.map_cons, A9, A9, ih]; show (-1 * e.count).natAbs + _ = _; omega
 rw [this]; exact h3
theorem Hv {s t : List Entry} (hs : Aj s = true) (ht : Aj t = true) (h : ∀ g, wS g s = wS g t) : s = t :=
 (AY hs).unique (AY ht) fun r => by rw [PD, PD, h]
theorem KD {l : List Entry} (p : Entry → Bool) (h : Aj l = true) : Aj (l.filter p) = true := by
 obtain ⟨h1, h2⟩ := AF h
 have hs := AY h
 have hl := Sl p l
 rw [Aj, D7 (fun e he => ?_) (List.Pairwise.sublist List.filter_sublist hs.up) (by simp), Bool.and_true]
 ·simp only [decide_eq_true_eq]; omega
 ·obtain ⟨q1, q2, q3⟩ := h2 e (Ms.1 he).1
  simp only [Entry.ok, q1, Av, Bool.true_and, Bi, decide_eq_true_eq]
  omega
theorem bB (ha : TinV A a) (hb : TinV B b) (hn : A + B ≤ 4096) : ∃ s, Ba (-1) a b = (s, 0) ∧ TinV (A + B) s ∧ (∀ e ∈ s, ∃ x, (x ∈ a ∨ x ∈ b) ∧ x.row = e.row) ∧ ∀ g, wS g s = wS g a - wS g b := by
 obtain ⟨h1, h2⟩ := bA hb (by omega)
 obtain ⟨s, g1, g2, g3, g4⟩ := Kr ha h2 hn
 refine ⟨s, ?_, g2, fun e he => ?_, fun g => by rw [g4, Sc]; omega⟩
 ·rw [Ba, if_pos ⟨ha.v, h2.v⟩, Kq] at g1
  rw [Ba, if_pos ⟨ha.v, hb.v⟩]; exact g1
 ·obtain ⟨x, hx, hr⟩ := g3 e he
  rcases hx with hx | hx
  ·exact ⟨x, .inl hx, hr⟩
  ·obtain ⟨y, hy, rfl⟩ := List.mem_map.1 hx
   exact ⟨y, .inr hy, hr⟩
end Go.Proofs.YtmpgmjlanngkfaaGreat
end
section
namespace Go.Abs
open Go.RowKit
section
variable {P : Program} {T : TypeId → Option TI} {F0 : Nat → Prop} {w0 : World}
variable {dr : Bool} {ops rest : List Oper} {K : St → Prop} {n : Nat} {sl : List (Nat × SVal)} {mem : List Blk} {ck : Nat} {df : List (FuncId × List Cell)} {acc : List Nat}
variable {d : Tmp} {op : Op} {ty : TypeId} {pos : String} {aft : Array Edge} {g : Option (Nat × Bool)}
theorem EH {m : List Blk} : Ar m m := fun _ _ h _ => h
theorem Of : Ar [] [.dead] := fun s x h hl => by
 cases s with
 | zero => simp at h; subst h; exact hl.elim
 | succ s => simp at h
def cQ (r k : Nat) (es : List (List Dat)) (c : Cell) (y : Dat) : Prop := (∃ m, c = .arr r k m ∧ m ≤ es.length ∧ y = .sl (es.take m)) ∨ c.dat = some y
def CFrs (r k : Nat) (es : List (List Dat)) : List Cell → List Dat → Prop
 | [], [] => True
 | c :: cs, y :: ys => cQ r k es c y ∧ CFrs r k es cs ys
 | _, _ => False
theorem CFrs.get {r k : Nat} {es : List (List Dat)} : ∀ {cs : List Cell} {ys : List Dat}, CFrs r k es cs ys → cs.length = ys.length ∧ ∀ (i : Nat) c y, cs[i]? = some c → ys[i]? = some y → cQ r k es c y
 | [], [], _ => ⟨rfl, by simp⟩
 | c :: cs, y :: ys, h => by
   obtain ⟨h1, h2⟩ := CFrs.get h.2
   refine ⟨by simp [h1], fun i c' y' hc hy => ?_⟩
   cases i with
   | zero => simp at hc hy; subst hc; subst hy; exact h.1
   | succ i => exact h2 i c' y' (by simpa using hc) (by simpa using hy)
 | [], _ :: _, h => h.elim
 | _ :: _, [], h => h.elim
theorem RQ [tc : TC P T] (r : Nat) {t e : TypeId} {x : Tmp} {i ei : TI} {k esz : Nat} {ety : TypeId} {es : List (List Dat)} {cs : List Cell} {ds : List Dat} {mem' : List Blk} (h : Reg P F0 w0 dr ops K rest ⟨n, (d, .c (.d (.sl [ds]))) :: sl, mem', ck, df⟩ (2 :: acc)) (hcs : CFrs r k es cs ds) (hm : mem[r]? = some (.arr k ety esz es) := by exact rfl) (hw : GW ops g sl := by first | exact trivial | exact rfl)
  (hx : AH sl (.tmp x) = .agg cs := by exact rfl) (ht : T t = some i := by exact rfl) (hi : i.desc = .slice e := by exact rfl) (hei : T e = some ei := by exact rfl) (hk : (Nat.blt 0 ei.size && (Nat.beq ei.zero.length ei.size && (Nat.ble ei.size 16777216 && Nat.beq cs.length ei.size))) = true := by exact rfl) (hm' : mem.set r .dead = mem' := by repeat' (first | exact AT rfl | apply Az rfl)) :
  Reg P F0 w0 dr ops K (⟨some d, .buildSlice t 1 #[(0, .tmp x)], ty, pos, aft, g⟩ :: rest) ⟨n, sl, mem, ck, df⟩ acc := by
 subst hm'
 refine Sj (df' := []) hw (fun B σ E a w hF hw0 he hmm hck hr hB hd next Q hn => ?_) h
 subst hF; subst hw0
 simp only [Bi, QN, LG, Nat.blt, Sh] at hk
 have hm2 : σ.mem[r]? = some (.arr k ety esz es) := by rw [hmm]; exact hm
 have hfz := hr.1.freeze r k ety esz es hm2
 have hxv : SRep E w (a.eval (.tmp x)) (.agg cs) := by
  have := hr.ev (.tmp x)
  rw [he (.tmp x) (by simp [Op.operands]), hx] at this
  exact this
 obtain ⟨hcl, hcg⟩ := hcs.get
 have hxd : SRep { E with F := fun i => E.F i ∨ (i = E.blk r ∧ E.cap r ≠ 0) } w (a.eval (.tmp x)) (.agg (ds.map .d)) := by
  generalize a.eval (.tmp x) = v at hxv
  cases hxv with | agg _ vs hl hv =>
  refine .agg _ vs (by rw [hl, hcl]; simp) fun i u y hu hy => ?_
  rw [B2] at hy
  cases hq : ds[i]? with
  | none => rw [hq] at hy; cases hy
  | some z =>
    rw [hq] at hy
    simp only [Option.map_some, Option.some.injEq] at hy
    subst hy
    have hlt : i < cs.length := by rw [hcl]; exact lt_of_getElem? hq
    have hci : cs[i]? = some cs[i] := Bh hlt
    have hrep := hv i u _ hu hci
    rcases hcg i _ z hci hq with ⟨m, h1, h2, rfl⟩ | h1
    ·rw [h1] at hrep
     exact .d (D2 hr.1 hm2 h2 hrep (fun b hb => .inl hb) fun hz => .inr ⟨rfl, hz⟩)
    ·exact .d ((hrep.dat h1).mono (fun _ hb => .inl hb) (fun _ _ => rfl))
 have hput : a.eval (.tmp x) = a.tmps.getD x undef := rfl
 have hρ : ∀ o, SRep { E with F := fun i => E.F i ∨ (i = E.blk r ∧ E.cap r ≠ 0) } w (a.eval o) (St.ev { σ with mem := σ.mem.set r .dead, slots := (x, .agg (ds.map .d)) :: σ.slots } o) := by
  intro o
  cases o with
  | tmp s =>
    simp only [St.ev, St.get, Bg]
    split
    ·rename_i q; subst q; exact hxd
    ·exact (hr.ev (.tmp s)).le hfz.2
  | const v => exact (hr.ev (.const v)).le hfz.2
  | global q => exact (hr.ev (.global q)).le hfz.2
  | func q => exact (hr.ev (.func q)).le hfz.2
 obtain ⟨a1, a2, a3, a4, a5⟩ := i
 simp only at hi
 subst hi
 obtain ⟨v, w', E', y, q1, q2, q3, q4, q5⟩ := Gg (P := P) tc.ok (σ := { σ with mem := σ.mem.set r .dead, slots := (x, .agg (ds.map .d)) :: σ.slots }) hfz.1 (t := t) (len := 1) (ρ := a.eval) hρ (parts := #[(0, .tmp x)]) (V := fun y => y = .c (.d (.sl [ds]))) (by
  have hdd : DG (ds.map Cell.d) = some ds := by
    have : ∀ l : List Dat, DG (l.map Cell.d) = some l := fun l => by
     induction l with
     | nil => rfl
     | cons z l ih => simp [DG, ih, Cell.dat]
    exact this ds
  simp only [Cc, ht, hei, Dr, St.ev, St.get, Bg, if_true, SVal.cells, hdd]
  refine ⟨hk.1, hk.2.1, by omega, rfl, ?_⟩
  rw [if_pos (by rw [← hcl]; exact hk.2.2.2)])
 subst q5
 unfold Oper.wp
 rw [show (execOp a.eval ⟨some d, .buildSlice t 1 #[(0, .tmp x)], ty, pos, aft, g⟩).run P w = .ok (.value v) w' by have q1' := q1; simp at q1'; simp [execOp, q1']]
 refine hn _ _ _ [] _ _ ⟨rfl, rfl, rfl, rfl⟩ ⟨E', ?_, hB.trans (hfz.2.trans q2)⟩
 rw [EI, ← hmm, ← hck]
 exact hr.putOE (hfz.2.trans q2) q3 hd q4
end
end Go.Abs
end
