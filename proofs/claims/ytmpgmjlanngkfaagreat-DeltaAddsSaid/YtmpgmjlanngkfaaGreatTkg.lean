/-
  The tape: Keys, Aggregates, Exacts.
-/
import Derived.Test.YtmpgmjlanngkfaaGreatHom
import Derived.Test.YtmpgmjlanngkfaaGreatOpa
import Derived.Test.YtmpgmjlanngkfaaGreatVew
import Derived.Test.YtmpgmjlanngkfaaGreatRek
import Derived.Test.YtmpgmjlanngkfaaGreatAgk
import Derived.Test.YtmpgmjlanngkfaaGreatAgr
import Derived.Test.YtmpgmjlanngkfaaGreatHoa
import Derived.Test.YtmpgmjlanngkfaaGreatAss
import Derived.Test.YtmpgmjlanngkfaaGreatTex
section
namespace Go.Abs
open Go.RowKit
section
variable {P : Program} {B : Base} {n : Nat} {sl : List (Nat × SVal)} {mem : List Blk} {ck : Nat} {df : List (FuncId × List Cell)} {Q : Ex → St → Prop}
theorem tick_rel {a : Act} {w : World} (h : Rel B ⟨n, sl, mem, ck, df⟩ a w) : Rel B ⟨n, sl, mem, ck + 1, df⟩ a w := by
  obtain ⟨E, ⟨h1, h2, h3, h4⟩, hB⟩ := h
  exact ⟨E, ⟨⟨h1.below, h1.base, h1.F, ⟨fun r => Nat.le_succ_of_le (h1.mem.clock r), h1.mem.ok, h1.mem.apart⟩, h1.N⟩, h2, h3, h4⟩, hB⟩
theorem k_tick {c : Code} (h : ARun P B c ⟨n, sl, mem, ck + 1, df⟩ Q) : ARun P B c ⟨n, sl, mem, ck, df⟩ Q :=
  k_turn (τ := ⟨n, sl, mem, ck + 1, df⟩) rfl (fun _ _ hr => tick_rel hr) h
theorem k_ver (r : Nat) {k : Nat} {ety : TypeId} {esz : Nat} {es : List (List Dat)} {c : Code} (h : k ≤ ck → ARun P B c ⟨n, sl, mem, ck, df⟩ Q) (hm : mem[r]? = some (.arr k ety esz es) := by exact rfl) : ARun P B c ⟨n, sl, mem, ck, df⟩ Q := by
  intro a w hr
  refine h ?_ a w hr
  obtain ⟨E, ⟨h1, _⟩, _⟩ := hr
  have h2 : E.ver r = k := (h1.mem.ok r _ hm).1
  have h3 : E.ver r ≤ ck := h1.mem.clock r
  omega
end
section
variable {P : Program} {T : TypeId → Option TI} {F0 : Nat → Prop} {w0 : World}
variable {dr : Bool} {ops rest : List Oper} {K : St → Prop} {n : Nat} {sl : List (Nat × SVal)} {mem : List Blk} {ck : Nat} {df : List (FuncId × List Cell)} {acc : List Nat}
variable {d : Tmp} {op : Op} {ty : TypeId} {pos : String} {aft : Array Edge} {g : Option (Nat × Bool)}
theorem h_appA [tc : TC P T] (r kn : Nat) {t e : TypeId} {x y : Operand} {i ei : TI} {u : SVal} {ys es es' : List (List Dat)} {k j m : Nat} {mem' : List Blk} (h : Reg P F0 w0 dr ops K rest ⟨n, (d, .c (.arr r kn m)) :: sl, mem', ck, df⟩ (kindL r false :: acc)) (hkn : kn ≤ ck) (hlt : k < kn) (hj : j ≤ es.length) (hl : j + ys.length = m) (hmx : m ≤ maxLen) (hby : m * ei.bytes ≤ 140737488355328) (hsz : ∀ el ∈ ys, el.length = ei.size) (hes : es.take j ++ ys = es') (hm : mem[r]? = some (.arr k e ei.size es) := by exact rfl) (hw : GW ops g sl := by first | exact trivial | exact rfl)
    (hx : evS sl x = .c (.arr r k j) := by exact rfl) (hy : evS sl y = u := by exact (rfl : _ = SVal.c _)) (hs : srcOf u = some ys := by exact rfl) (ht : T t = some i := by exact rfl) (hi : i.desc = .slice e := by exact rfl) (hei : T e = some ei := by exact rfl) (hkk : Nat.beq ei.zero.length ei.size = true := by exact rfl) (hm' : mem.set r (.arr kn e ei.size es') = mem' := by exact rfl) :
    Reg P F0 w0 dr ops K (⟨some d, .call ⟨.builtin .append, #[x, y], #[t, t]⟩, ty, pos, aft, g⟩ :: rest) ⟨n, sl, mem, ck, df⟩ acc := by
  subst hm'; subst hes; subst hl
  refine at4 hw hm hkn (fun M c hM hc => doesM fun E w ρ hw' hρ => ?_) h
  have e1 := hρ x (by simp [Op.operands, Call.operands])
  have e2 := hρ y (by simp [Op.operands, Call.operands])
  rw [hx] at e1; rw [hy] at e2
  have hrep := src_rep e2 hs
  have hv : E.ver r < kn := by have := (hw'.mem.ok r _ hM).1; omega
  have hs1 : CRep E w (ρ x) (.arr r k j) := by
    generalize ρ x = vx at e1
    cases e1 with | c h => exact h
  obtain ⟨v', w', E', q1, q2, q3, q4⟩ := append_own tc.ok (ty := ty) hw' ht hi hei (by simpa using hkk) hsz hrep hM hs1 hj hmx hby hv (Nat.le_refl _) hc
  exact ⟨v', w', E', by simp [execOp, resolve, invoke, builtin, q1], q2, q3, .c q4⟩
end
section
variable {P : Program} {T : TypeId → Option TI} {F0 : Nat → Prop} {w0 : World}
variable {dr : Bool} {ops rest : List Oper} {K : St → Prop} {n : Nat} {sl : List (Nat × SVal)} {mem : List Blk} {ck : Nat} {df : List (FuncId × List Cell)} {acc : List Nat}
variable {d : Tmp} {op : Op} {ty : TypeId} {pos : String} {aft : Array Edge} {g : Option (Nat × Bool)}
end
end Go.Abs
end
section
namespace Go.Proofs.YtmpgmjlanngkfaaGreat
open Go.Abs Go.RowKit
attribute [local irreducible] ARun kont MCall PCall HCall resVal SF CF CFs defersOk slotsIn memIn fin finM VLe
set_option linter.unusedSimpArgs false
set_option maxRecDepth 100000
set_option maxHeartbeats 4000000
def firstV : List Val → Val
  | [] => Val.null
  | v :: _ => v
def vc (e : Entry) : Val × Int := (firstV e.row, e.count)
def vcs (l : List Entry) : List (Val × Int) := l.map vc
def ValC (L : List (Val × Int)) : Prop := ∀ x ∈ L, x.1.clean = x.1
end Go.Proofs.YtmpgmjlanngkfaaGreat
end
section
namespace Go.Proofs.YtmpgmjlanngkfaaGreat
open Go.Abs Go.RowKit
set_option linter.unusedSimpArgs false
set_option maxRecDepth 100000
theorem bytes_inj {a b : ByteArray} (h : a.toList = b.toList) : a = b := by
  rw [ByteArray.toList_eq, ByteArray.toList_eq] at h
  cases a; cases b
  simp only at h
  congr
  exact Array.toList_inj.1 h
theorem sv_iff {a b : Val} : sameVal a b = true ↔ a = b := by
  refine ⟨fun h => ?_, fun h => by rw [h]; exact sameVal_refl _⟩
  simp only [sameVal, Bool.and_eq_true, beq_iff_eq] at h
  obtain ⟨h1, h2, h3⟩ := h
  have := bytes_inj h3
  cases a; cases b; simp_all
theorem sr_iff : ∀ {r s : List Val}, sameRow r s = true ↔ r = s
  | [], [] => by simp [sameRow]
  | a :: x, b :: y => by simp [sameRow, sv_iff, sr_iff (r := x) (s := y)]
  | [], _ :: _ => by simp [sameRow]
  | _ :: _, [] => by simp [sameRow]
end Go.Proofs.YtmpgmjlanngkfaaGreat
end
section
namespace Go.Proofs.YtmpgmjlanngkfaaGreat
open Go.Abs Go.RowKit
attribute [local irreducible] ARun kont MCall PCall HCall resVal SF CF CFs defersOk slotsIn memIn fin finM VLe
set_option linter.unusedSimpArgs false
set_option maxRecDepth 100000
set_option maxHeartbeats 4000000
noncomputable def foldP (f : Int) (b : List Entry) : Val := if positiveE b = true then foldE f (vcs b) else Val.null
def rowsD (l : List (List Val)) : Dat := .sl (l.map fun r => [rowD r])
def insE (x : Entry) : List Entry → List Entry
  | [] => [x]
  | o :: l => if rowCmp o.row x.row < 0 then o :: insE x l else x :: o :: l
def ltX (x o : Entry) : Bool := decide (rowCmp o.row x.row < 0)
def upR (a b : Entry) : Prop := ¬ rowCmp b.row a.row < 0
def valI (p : Entry → Bool) (f : Entry → Entry) (b : List Entry) : List Entry := b.foldl (fun o e => if p e = true then insE (f e) o else o) []
def kP (keys : List Itm) (key : List Val) (e : Entry) : Bool := sameRow (keyE keys e.row) key
def exF (ex : List Trm) (e : Entry) : Entry := ⟨[evE ex e.row], e.count⟩
def intsD (l : List Int) : Dat := .sl (l.map fun n => [.lit (.int .i64 n)])
structure Sta where
  key : List Val
  count : Int
  sums : List Int
  some : List Int
def Sta.d (s : Sta) : List Dat := [rowD s.key, .lit (.int .i64 s.count), intsD s.sums, intsD s.some]
def Sta.x (s : Sta) : List Dat := [rowX s.key, .lit (.int .i64 s.count), intsD s.sums, intsD s.some]
def stsD (l : List Sta) : Dat := .sl (l.map Sta.d)
def Sta.zero (s : Sta) : Bool := decide (s.count = 0) && !(s.sums.any fun n => decide (n ≠ 0)) && !(s.some.any fun n => decide (n ≠ 0))
def exactE (l : List Agg) : Bool := l.all fun x => decide (x.func = 0 ∨ x.func = 1)
def suE (es : List Entry) (x : Agg) : Int := if x.func = 1 then sumV (valsE x es) else 0
def coE (es : List Entry) (x : Agg) : Int := if x.func = 1 then cntV (valsE x es) else 0
def nE (es : List Entry) : Int := (es.map Entry.count).sum
def stE (ag : List Agg) (g : List Val × List Entry) : Sta := ⟨g.1, nE g.2, ag.map (suE g.2), ag.map (coE g.2)⟩
def filE (f : Agg → Int) (ag : List Agg) (k : Nat) : List (List Dat) := ((ag.take k).map fun x => [Dat.lit (.int .i64 (f x))]) ++ List.replicate (ag.length - k) [Dat.lit (.int .i64 0)]
def inW (n m : Int) : Bool := decide (-m ≤ n) && decide (n ≤ m)
def tri (ag : List Agg) (s : Sta) : List (Agg × Int × Int) := ag.zip (s.sums.zip s.some)
def triOk (t : Agg × Int × Int) : Bool := inW t.2.2 1073741824 && inW t.2.1 4611686018427387904 && (!decide (t.1.func = 0) || (decide (t.2.2 = 0) && decide (t.2.1 = 0)))
def numsOk (ag : List Agg) (s : Sta) : Bool := decide (s.sums.length = ag.length) && decide (s.some.length = ag.length) && inW s.count 1073741824 && !s.zero && (tri ag s).all triOk
def staOk (ag : List Agg) (s : Sta) : Bool := decide (s.key.length ≤ 8) && rowOK s.key && numsOk ag s
def goodS (ag : List Agg) : Option Sta → List Sta → Bool
  | _, [] => true
  | p, e :: l => staOk ag e && (match p with | none => true | some q => decide (rowCmp q.key e.key < 0)) && goodS ag (some e) l
def stsOk (ag : List Agg) (l : List Sta) : Bool := decide (l.length ≤ 4096) && goodS ag none l
def prevS (l : List Sta) (i : Nat) : Option Sta := if i = 0 then none else l[i - 1]?
def nzS (s : Sta) : Bool := !s.zero
def statesE (b : List Entry) (keys : List Itm) (ag : List Agg) : List Sta × Int :=
  if bagValid b = true ∧ keys.length + ag.length ≤ 8 ∧ exactE ag = true then (((grpE b (keyE keys)).map (stE ag)).filter nzS, 0) else ([], 1)
end Go.Proofs.YtmpgmjlanngkfaaGreat
end
section
namespace Go.Proofs.YtmpgmjlanngkfaaGreat
open Go.Abs Go.RowKit
set_option linter.unusedSimpArgs false
set_option maxRecDepth 100000
def exC (ex : List Trm) (e : Entry) : Val × Int := (evE ex e.row, e.count)
end Go.Proofs.YtmpgmjlanngkfaaGreat
end
section
namespace Go.Proofs.YtmpgmjlanngkfaaGreat
open Go.Abs Go.RowKit
attribute [local irreducible] ARun kont MCall PCall HCall resVal SF CF CFs defersOk slotsIn memIn fin finM VLe
set_option linter.unusedSimpArgs false
set_option maxRecDepth 100000
set_option maxHeartbeats 4000000
def litsE (l : List Int) : List (List Dat) := l.map fun n => [.lit (.int .i64 n)]
noncomputable def grE (ag : List Agg) (keys : List Itm) (b : List Entry) (k : List Val) : Entry := ⟨grpRow ag (k, b.filter (atK (keyE keys) k)), 1⟩
theorem groupE_keys {b : List Entry} {keys : List Itm} {ag : List Agg} (h : positiveE b = true ∧ keys.length + ag.length ≤ 8) : groupE b keys ag = normE ((keysE b (keyE keys)).map (grE ag keys b)) := by
  unfold groupE grpE
  rw [if_pos h, List.map_map]; rfl
theorem keysE_mem {b : List Entry} {keys : List Itm} {k : List Val} (h : k ∈ keysE b (keyE keys)) : rowClean k ∧ k.length = keys.length := by
  have hK : CleanK b (keyE keys) := fun e _ => keyE_clean keys e.row
  obtain ⟨_, h2, h3⟩ := keys_says hK
  refine ⟨h2 k h, ?_⟩
  obtain ⟨e, _, rfl⟩ := (h3 k).1 h
  exact keyE_len ..
end Go.Proofs.YtmpgmjlanngkfaaGreat
end
section
namespace Go.Proofs.YtmpgmjlanngkfaaGreat
open Go.Abs Go.RowKit
set_option linter.unusedSimpArgs false
set_option maxRecDepth 100000
def w64 (z : Int) : Int := IntKind.i64.wrap z
def plusS (s t : Sta) : Sta := ⟨s.key, w64 (s.count + t.count), List.zipWith (fun x y => w64 (x + y)) s.sums t.sums, List.zipWith (fun x y => w64 (x + y)) s.some t.some⟩
def mergeS : List Sta → List Sta → List Sta
  | [], d => d
  | g, [] => g
  | x :: g, y :: d => if rowCmp x.key y.key < 0 then x :: mergeS g (y :: d) else if 0 < rowCmp x.key y.key then y :: mergeS (x :: g) d else plusS x y :: mergeS g d
termination_by g d => g.length + d.length
def sR (x y : Sta) : Prop := rowCmp x.key y.key < 0
def clS (l : List Sta) : Prop := ∀ s ∈ l, rowClean s.key
def atR (kf : List Val → List Val) (k : List Val) (f : List Val → Int) (r : List Val) : Int := if rowCmp (kf r) k = 0 then f r else 0
def suR (x : Agg) (r : List Val) : Int := if x.func = 1 then (if (evE x.expr r).kind = 1 then (evE x.expr r).int else 0) else 0
def coR (x : Agg) (r : List Val) : Int := if x.func = 1 then (if (evE x.expr r).kind = 1 then 1 else 0) else 0
def stT (ag : List Agg) (kf : List Val → List Val) (b : List Entry) (k : List Val) : Sta :=
  ⟨k, wS (atR kf k fun _ => 1) b, ag.map fun x => wS (atR kf k (suR x)) b, ag.map fun x => wS (atR kf k (coR x)) b⟩
def stsE (ag : List Agg) (kf : List Val → List Val) (b : List Entry) : List Sta := ((keysE b kf).map (stT ag kf b)).filter nzS
def sml (n : Int) : Prop := -4611686018427387904 ≤ n ∧ n ≤ 4611686018427387903
def SmlS (s : Sta) : Prop := sml s.count ∧ (∀ n ∈ s.sums, sml n) ∧ ∀ n ∈ s.some, sml n
end Go.Proofs.YtmpgmjlanngkfaaGreat
end
section
namespace Go.Proofs.YtmpgmjlanngkfaaGreat
open Go.Abs Go.RowKit
attribute [local irreducible] ARun kont MCall PCall HCall resVal SF CF CFs defersOk slotsIn memIn fin finM VLe
set_option linter.unusedSimpArgs false
set_option maxRecDepth 100000
set_option maxHeartbeats 4000000
theorem digit_c (s : ByteArray) (hs : s.size ≤ 100) (n : Nat) (hn : n < 10) : PCall Tryz.prog 50 [.one (.lit (.string s)), .one (.lit (.int .i64 n))] (.v (.one (.lit (.string (s ++ (⟨#[UInt8.ofNat (48 + n)]⟩ : ByteArray)))))) := by
  have h1 : (⟨#[UInt8.ofNat (48 + n)]⟩ : ByteArray).size = 1 := rfl
  have hes : [[Dat.lit (.int .u8 (IntKind.u8.wrap (IntKind.i64.wrap (48 + (n : Int).tmod 10))))]] = [UInt8.ofNat (48 + n)].map byD := by
    have hc : n = 0 ∨ n = 1 ∨ n = 2 ∨ n = 3 ∨ n = 4 ∨ n = 5 ∨ n = 6 ∨ n = 7 ∨ n = 8 ∨ n = 9 := by omega
    rcases hc with rfl | rfl | rfl | rfl | rfl | rfl | rfl | rfl | rfl | rfl <;> rfl
  refine pcallN hT Tryz.func50 Tryz.ntmps50 [.tmp 4] fun B => ?_
  repeat' (first | refine s_convBSd (l := [UInt8.ofNat (48 + n)]) ?_ (hes := hes) | (refine s_str (b := (⟨#[UInt8.ofNat (48 + n)]⟩ : ByteArray)) ?_ (hv := .add (by simp only [maxLen]; omega))) | refine ks ?_ | refine ko ?_ | refine f_ret1 def_nil ?_ | refine t_tmp ?_)
  all_goals rfl
theorem keysB_h (t : Tape) (n m : Nat) (ht : t.ok) (hn : n ≤ 3) (h1 : 1 ≤ m) (hm : m ≤ 1000) : ∃ (l : List Itm) (t' : Tape), t'.ok ∧ l.length ≤ n ∧ (∀ x ∈ l, x.expr.length ≤ 16) ∧ HCall Tryz.prog 21 [.c (.bp 0 0 0), (.c (.d (.lit (.int .i64 (n : Int))))), (.c (.d (.lit (.int .i64 (m : Int)))))] [(.box 0 [.d (numD (t).l), .d (.lit (.int .i64 (t).at_))])] (.c (.d (itmD l))) [(.box 0 [.d (numD (t').l), .d (.lit (.int .i64 (t').at_))])] := by
  obtain ⟨w, t1, ok1, hw, n1⟩ := nextE_h t (n + 1) ht (by omega) (by omega)
  rw [show ((n + 1 : Nat) : Int) = (n : Int) + 1 by omega] at n1
  have hits : ∀ k : Nat, k ≤ w → ∃ (f : Nat → Itm) (ts : Nat → Tape), ts 0 = t1 ∧ (ts k).ok ∧ ∀ i, i < k → ∃ (z : Nat) (t2 : Tape), (z < 2 ∧ (f i).expr.length ≤ 16) ∧ (f i).name = (⟨#[107]⟩ : ByteArray) ++ (⟨#[UInt8.ofNat (48 + i)]⟩ : ByteArray) ∧ HCall Tryz.prog 30 [.c (.bp 0 0 0), .c (.d (.lit (.int .i64 2)))] [(.box 0 [.d (numD ((ts i)).l), .d (.lit (.int .i64 ((ts i)).at_))])] (.c (.d (.lit (.int .i64 z)))) [(.box 0 [.d (numD (t2).l), .d (.lit (.int .i64 (t2).at_))])] ∧ HCall Tryz.prog 31 [.c (.bp 0 0 0), (.c (.d (.lit (.int .i64 ((z + 1 : Nat) : Int))))), (.c (.d (.lit (.int .i64 (m : Int)))))] [(.box 0 [.d (numD (t2).l), .d (.lit (.int .i64 (t2).at_))])] (.c (.d (exprD (f i).expr))) [(.box 0 [.d (numD ((ts (i + 1))).l), .d (.lit (.int .i64 ((ts (i + 1))).at_))])] := by
    intro k
    induction k with
    | zero => intro _; exact ⟨fun _ => ⟨⟨#[]⟩, []⟩, fun _ => t1, rfl, ok1, fun i hi => by omega⟩
    | succ k ih =>
      intro hk
      obtain ⟨f, ts, e0, okk, hf⟩ := ih (by omega)
      obtain ⟨z, t2, ok2, hz, n2⟩ := nextE_h (ts k) 2 okk (by omega) (by omega)
      obtain ⟨e, t3, ok3, hel, c3⟩ := expr_h m h1 hm (z + 1) t2 ok2 (by omega)
      have hel : e.length ≤ 16 := Nat.le_trans hel (Nat.pow_le_pow_right (show 0 < 4 by omega) (show z + 1 ≤ 2 by omega))
      refine ⟨fun i => if i = k then ⟨(⟨#[107]⟩ : ByteArray) ++ (⟨#[UInt8.ofNat (48 + k)]⟩ : ByteArray), e⟩ else f i, fun i => if i = k + 1 then t3 else ts i, by simp [e0], by simp [ok3], fun i hi => ?_⟩
      by_cases him : i = k
      · subst him
        refine ⟨z, t2, ⟨hz, by simpa using hel⟩, by simp, ?_, ?_⟩
        · simp only [show ¬ i = i + 1 by omega, if_false]; exact n2
        · simp only [if_true]; exact c3
      · have := hf i (by omega)
        simp only [if_neg him, show ¬ i = k + 1 by omega, show ¬ i + 1 = k + 1 by omega, if_false]
        exact this
  obtain ⟨f, ts, e0, okw, hf⟩ := hits w (Nat.le_refl _)
  clear hits
  refine ⟨(List.range w).map f, ts w, okw, by simp; omega, fun x hx => ?_, ?_⟩
  · obtain ⟨i, hi, rfl⟩ := List.mem_map.1 hx
    obtain ⟨_, _, ⟨_, h⟩, _⟩ := hf i (List.mem_range.1 hi)
    exact h
  rw [← e0] at n1
  refine hcallN hT Tryz.func21 Tryz.ntmps21 [.tmp 6] fun B => ?_
  repeat' (first | refine ks ?_ | refine ko ?_ | refine s_callH [0] (n1) ?_ | refine kg ?_ ?_ | exact k0 | refine memIn_same ?_ | refine m1 ?_ ?_)
  refine s_own 7 86 2 ?_
  refine s_lp (X := Nat × Nat × Tape) [7, 8, 13, 14, 15, 16, 17, 18, 19, 20, 21, 22, 23, 24, 25, 26, 27, 28, 29] (fun x => x.1 ≤ w ∧ x.2.2 = ts x.1) (fun x lz => (7, .c (.arr 1 x.2.1 x.1)) :: (8, (.c (.d (.lit (.int .i64 ((w - x.1 : Nat) : Int)))))) :: lz) (fun x => [(.box 0 [.d (numD (x.2.2).l), .d (.lit (.int .i64 (x.2.2).at_))]), .arr x.2.1 86 2 (((List.range x.1).map f).map Itm.d)]) (fun x => w - x.1) ((0, 2, ts 0)) ?_ ?_ ?_ ?_
  repeat' (first | exact slots_nil | refine kw ?_ | exact memIn_nil | refine kv ?_ ?_ | omega)
  all_goals try (first | rfl | exact ⟨Nat.zero_le _, rfl⟩)
  rintro ⟨i, v, T'⟩ c ⟨hi, hT'⟩
  dsimp only at hi hT' ⊢
  by_cases hlt : i < w
  · obtain ⟨z, t2, ⟨hz, _⟩, hnm, n2, c3⟩ := hf i hlt
    have hdg := digit_c (⟨#[107]⟩ : ByteArray) (by decide) i (by omega)
    rw [← hnm] at hdg
    rw [← hT'] at n2
    rw [show ((z + 1 : Nat) : Int) = 1 + (z : Int) by omega] at c3
    have hs : ((List.range i).map f).map Itm.d ++ [[Dat.lit (.string (f i).name), exprD (f i).expr]] = ((List.range (i + 1)).map f).map Itm.d := by rw [List.range_succ]; simp [Itm.d]
    have hal : (((List.range i).map f).map Itm.d).length = i := by simp
    generalize f i = y at hs hdg c3
    clear hf hnm hT'
    generalize ((List.range i).map f).map Itm.d = A at hs hal ⊢
    generalize hq : ts (i + 1) = T2 at c3
    repeat' (first | refine ks ?_ | refine ko ?_ | refine s_call (hdg) ?_ | refine s_callH [0] (n2) ?_ | refine s_callH [0] (c3) ?_ | refine kg ?_ ?_ | exact k0 | refine memIn_same ?_ | refine m1 ?_ ?_)
    (apply s_round ((i + 1, _, T2)); all_goals (try dsimp only); all_goals (try (repeat' (first | exact slots_nil | refine w1 ?_ | exact memIn_nil | refine memIn_same ?_ | refine m1 ?_ ?_ | omega))))
    all_goals first
      | exact ⟨by omega, hq.symm⟩
      | (rw [take_ge (by omega)]; exact hs)
      | skip
  · obtain rfl : i = w := by omega
    rw [hT']
    clear hf
    repeat' (first | (refine s_freeze (r := 1) (m := i) (es1 := ((List.range i).map f).map Itm.d) 7 ?_ (hl := by simp) (hes := take_ge (by rw [List.length_map, List.length_map, List.length_range]; exact Nat.le_refl _))) | refine ks ?_ | refine ko ?_ | refine fh_ret1 def_nil ?_ ?_ | exact memIn_nil | refine memIn_same ?_ | refine m1 ?_ ?_ | exact am_same)
    all_goals rfl
theorem aggItems_h (m : Nat) (h1 : 1 ≤ m) (hm : m ≤ 1000) (t1 : Tape) (ok1 : t1.ok) : ∀ k : Nat, ∃ (f : Nat → Agg) (ts : Nat → Tape), ts 0 = t1 ∧ (ts k).ok ∧ ∀ i, i < k → ∃ (z : Nat) (t2 : Tape), z < 5 ∧ (f i).name = (⟨#[97]⟩ : ByteArray) ++ (⟨#[UInt8.ofNat (48 + i)]⟩ : ByteArray) ∧ (f i).func = z ∧ HCall Tryz.prog 30 [.c (.bp 0 0 0), .c (.d (.lit (.int .i64 5)))] [(.box 0 [.d (numD ((ts i)).l), .d (.lit (.int .i64 ((ts i)).at_))])] (.c (.d (.lit (.int .i64 z)))) [(.box 0 [.d (numD (t2).l), .d (.lit (.int .i64 (t2).at_))])] ∧
    ((z = 0 ∧ (f i).expr = [] ∧ ts (i + 1) = t2) ∨ (z ≠ 0 ∧ ∃ (q : Nat) (t3 : Tape), q < 2 ∧ HCall Tryz.prog 30 [.c (.bp 0 0 0), .c (.d (.lit (.int .i64 2)))] [(.box 0 [.d (numD (t2).l), .d (.lit (.int .i64 (t2).at_))])] (.c (.d (.lit (.int .i64 q)))) [(.box 0 [.d (numD (t3).l), .d (.lit (.int .i64 (t3).at_))])] ∧ HCall Tryz.prog 31 [.c (.bp 0 0 0), (.c (.d (.lit (.int .i64 ((q + 1 : Nat) : Int))))), (.c (.d (.lit (.int .i64 (m : Int)))))] [(.box 0 [.d (numD (t3).l), .d (.lit (.int .i64 (t3).at_))])] (.c (.d (exprD (f i).expr))) [(.box 0 [.d (numD ((ts (i + 1))).l), .d (.lit (.int .i64 ((ts (i + 1))).at_))])])) := by
  intro k
  induction k with
  | zero => exact ⟨fun _ => ⟨⟨#[]⟩, 0, []⟩, fun _ => t1, rfl, ok1, fun i hi => by omega⟩
  | succ k ih =>
    obtain ⟨f, ts, e0, okk, hf⟩ := ih
    obtain ⟨z, t2, ok2, hz, n2⟩ := nextE_h (ts k) 5 okk (by omega) (by omega)
    obtain ⟨q, t3, ok3, hq, n3⟩ := nextE_h t2 2 ok2 (by omega) (by omega)
    obtain ⟨e, t4, ok4, _, c4⟩ := expr_h m h1 hm (q + 1) t3 ok3 (by omega)
    refine ⟨fun i => if i = k then ⟨(⟨#[97]⟩ : ByteArray) ++ (⟨#[UInt8.ofNat (48 + k)]⟩ : ByteArray), z, if z = 0 then [] else e⟩ else f i, fun i => if i = k + 1 then (if z = 0 then t2 else t4) else ts i, by simp [e0], ?_, fun i hi => ?_⟩
    · simp only [if_true]; split
      · exact ok2
      · exact ok4
    · by_cases him : i = k
      · subst him
        refine ⟨z, t2, hz, by simp, by simp, ?_, ?_⟩
        · simp only [show ¬ i = i + 1 by omega, if_false]; exact n2
        · by_cases hz0 : z = 0
          · exact .inl ⟨hz0, by simp [hz0], by simp [hz0]⟩
          · refine .inr ⟨hz0, q, t3, hq, n3, ?_⟩
            simp only [if_true, if_neg hz0]; exact c4
      · have := hf i (by omega)
        simp only [if_neg him, show ¬ i = k + 1 by omega, show ¬ i + 1 = k + 1 by omega, if_false]
        exact this
theorem aggs_h (t : Tape) (n m : Nat) (ht : t.ok) (hn : n ≤ 3) (h1 : 1 ≤ m) (hm : m ≤ 1000) : ∃ (l : List Agg) (t' : Tape), t'.ok ∧ l.length ≤ n ∧ (∀ x ∈ l, 0 ≤ x.func ∧ x.func ≤ 4) ∧ HCall Tryz.prog 23 [.c (.bp 0 0 0), (.c (.d (.lit (.int .i64 (n : Int))))), (.c (.d (.lit (.int .i64 (m : Int)))))] [(.box 0 [.d (numD (t).l), .d (.lit (.int .i64 (t).at_))])] (.c (.d (aggD l))) [(.box 0 [.d (numD (t').l), .d (.lit (.int .i64 (t').at_))])] := by
  obtain ⟨w, t1, ok1, hw, n1⟩ := nextE_h t (n + 1) ht (by omega) (by omega)
  rw [show ((n + 1 : Nat) : Int) = (n : Int) + 1 by omega] at n1
  obtain ⟨f, ts, e0, okw, hf⟩ := aggItems_h m h1 hm t1 ok1 w
  refine ⟨(List.range w).map f, ts w, okw, by simp; omega, fun x hx => ?_, ?_⟩
  · obtain ⟨i, hi, rfl⟩ := List.mem_map.1 hx
    obtain ⟨z, _, hz, _, hfn, _⟩ := hf i (List.mem_range.1 hi)
    rw [hfn]; omega
  rw [← e0] at n1
  refine hcallN hT Tryz.func23 Tryz.ntmps23 [.tmp 6] fun B => ?_
  repeat' (first | refine ks ?_ | refine ko ?_ | refine s_callH [0] (n1) ?_ | refine kg ?_ ?_ | exact k0 | refine memIn_same ?_ | refine m1 ?_ ?_)
  refine s_own 7 49 3 ?_
  refine s_lp (X := Nat × Nat × Tape) [7, 8, 9, 14, 15, 16, 17, 18, 19, 20, 21, 22, 23, 24, 25, 26, 27, 28, 29, 30, 31, 32, 33, 34, 35, 36, 37] (fun x => x.1 ≤ w ∧ x.2.2 = ts x.1) (fun x lz => (7, .c (.arr 1 x.2.1 x.1)) :: (8, (.c (.d (.lit (.int .i64 ((w - x.1 : Nat) : Int)))))) :: lz) (fun x => [(.box 0 [.d (numD (x.2.2).l), .d (.lit (.int .i64 (x.2.2).at_))]), .arr x.2.1 49 3 (((List.range x.1).map f).map Agg.d)]) (fun x => w - x.1) ((0, 2, ts 0)) ?_ ?_ ?_ ?_
  repeat' (first | exact slots_nil | refine kw ?_ | exact memIn_nil | refine kv ?_ ?_ | omega)
  all_goals try (first | rfl | exact ⟨Nat.zero_le _, rfl⟩)
  rintro ⟨i, v, T'⟩ c ⟨hi, hT'⟩
  dsimp only at hi hT' ⊢
  by_cases hlt : i < w
  · obtain ⟨z, t2, hz, hnm, hfn, n2, hrest⟩ := hf i hlt
    have hdg := digit_c (⟨#[97]⟩ : ByteArray) (by decide) i (by omega)
    rw [← hnm] at hdg
    rw [← hT'] at n2
    rw [← hfn] at n2
    have hs : ((List.range i).map f).map Agg.d ++ [[Dat.lit (.string (f i).name), Dat.lit (.int .i64 (f i).func), exprD (f i).expr]] = ((List.range (i + 1)).map f).map Agg.d := by rw [List.range_succ]; simp [Agg.d]
    have hal : (((List.range i).map f).map Agg.d).length = i := by simp
    generalize f i = y at hs hdg n2 hrest hfn
    clear hf hnm hT'
    generalize ((List.range i).map f).map Agg.d = A at hs hal ⊢
    generalize hq : ts (i + 1) = T2 at hrest
    obtain ⟨name, func, expr⟩ := y
    dsimp only at hs hdg n2 hrest hfn
    rcases hrest with ⟨hz0, hex, rfl⟩ | ⟨hz0, q, t3, hq2, n3, c3⟩
    · have hf0 : func = 0 := by omega
      subst hex
      subst hf0
      repeat' (first | refine ks ?_ | refine ko ?_ | refine s_call (hdg) ?_ | refine s_callH [0] (n2) ?_ | refine kg ?_ ?_ | exact k0 | refine memIn_same ?_ | refine m1 ?_ ?_)
      (apply s_round ((i + 1, _, T2)); all_goals (try dsimp only); all_goals (try (repeat' (first | exact slots_nil | refine w1 ?_ | exact memIn_nil | refine memIn_same ?_ | refine m1 ?_ ?_ | omega))))
      all_goals first
        | exact ⟨by omega, hq.symm⟩
        | (rw [take_ge (by omega)]; exact hs)
        | skip
    · have hf0 : func ≠ 0 := by omega
      rw [show ((q + 1 : Nat) : Int) = 1 + (q : Int) by omega] at c3
      repeat' (first | refine ks ?_ | refine ko ?_ | refine s_call (hdg) ?_ | refine s_callH [0] (n2) ?_ | refine s_callH [0] (n3) ?_ | refine s_callH [0] (c3) ?_ | refine kg ?_ ?_ | exact k0 | refine memIn_same ?_ | refine m1 ?_ ?_)
      (apply s_round ((i + 1, _, T2)); all_goals (try dsimp only); all_goals (try (repeat' (first | exact slots_nil | refine w1 ?_ | exact memIn_nil | refine memIn_same ?_ | refine m1 ?_ ?_ | omega))))
      all_goals first
        | exact ⟨by omega, hq.symm⟩
        | (rw [take_ge (by omega)]; exact hs)
        | skip
  · obtain rfl : i = w := by omega
    rw [hT']
    clear hf
    repeat' (first | (refine s_freeze (r := 1) (m := i) (es1 := ((List.range i).map f).map Agg.d) 7 ?_ (hl := by simp) (hes := take_ge (by rw [List.length_map, List.length_map, List.length_range]; exact Nat.le_refl _))) | refine ks ?_ | refine ko ?_ | refine fh_ret1 def_nil ?_ ?_ | exact memIn_nil | refine memIn_same ?_ | refine m1 ?_ ?_ | exact am_same)
    all_goals rfl
def sumX (x : Agg) : Agg := if x.func = 0 then x else ⟨x.name, 1, x.expr⟩
end Go.Proofs.YtmpgmjlanngkfaaGreat
end
