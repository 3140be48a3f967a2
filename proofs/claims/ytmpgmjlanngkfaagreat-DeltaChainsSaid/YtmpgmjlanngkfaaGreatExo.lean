/-
  Algebra: Map.
-/
import Derived.Test.YtmpgmjlanngkfaaGreatTpo
import Derived.Test.YtmpgmjlanngkfaaGreatMpd
import Derived.Test.YtmpgmjlanngkfaaGreatArc
import Derived.Test.YtmpgmjlanngkfaaGreatOrd
import Derived.Test.YtmpgmjlanngkfaaGreatArx
import Derived.Test.YtmpgmjlanngkfaaGreatSum
import Derived.Test.YtmpgmjlanngkfaaGreatAlc
import Derived.Test.YtmpgmjlanngkfaaGreatNrm
import Derived.Test.YtmpgmjlanngkfaaGreatPos
import Derived.Test.YtmpgmjlanngkfaaGreatDex
import Derived.Test.YtmpgmjlanngkfaaGreatExg
import Derived.Test.YtmpgmjlanngkfaaGreatMrg
section
namespace Go.Proofs.YtmpgmjlanngkfaaGreat
open Go.Abs Go.RowKit
set_option linter.unusedSimpArgs false
set_option maxRecDepth 100000
set_option maxHeartbeats 4000000
variable {ag : List Agg} {b : List Entry} {keys : List Itm}
theorem Od : ∀ (S : List (Val × Int)) (i : Int), D0 S i = Val.null ∨ ∃ x ∈ S, x.1 = D0 S i
 | [], _ => .inl rfl
 | x :: S, i => by
   rw [D0]
   split
   ·exact .inr ⟨x, by simp, rfl⟩
   ·rcases Od S (i - x.2) with h | ⟨y, hy, h⟩
    ·exact .inl h
    ·exact .inr ⟨y, by simp [hy], h⟩
theorem Oe (f : Int) {L : List (Val × Int)} (h : ∀ x ∈ L, x.1.valid = true) : (foldE f L).valid = true := by
 have hA : ∀ i, (D0 (ascE L) i).valid = true := fun i => by
  rcases Od (ascE L) i with h1 | ⟨x, hx, h1⟩
  · rw [h1]; exact FG
  · rw [← h1]; exact h x (Ms.1 ((Ey L).mem_iff.1 hx)).1
 have hI : ∀ n, (Val.ofInt n).valid = true := fun n => by unfold Val.ofInt; exact Dt _
 unfold foldE
 repeat' split
 all_goals first
  | exact hI _
  | exact FG
  | exact hA _
theorem J2 : ∀ {a b x y : List Val}, a.length = b.length → Ai a b < 0 → Ai (a ++ x) (b ++ y) < 0
 | [], [], _, _, _, h => by simp [Ai] at h
 | u :: a, v :: b, x, y, hl, h => by
   rw [List.cons_append, List.cons_append, Ai]
   rw [Ai] at h
   split
   ·rename_i q
    rw [if_pos q] at h
    exact J2 (by simpa using hl) h
   ·rename_i q
    rw [if_neg q] at h; exact h
 | [], _ :: _, _, _, hl, _ => by simp at hl
 | _ :: _, [], _, _, hl, _ => by simp at hl
theorem Uy (keys : List Itm) (row : List Val) : ∀ v ∈ Bm keys row, v.valid = true := fun v hv => by
 obtain ⟨it, _, rfl⟩ := List.mem_map.1 hv
 exact F1 ..
theorem Pr {k : List Val} (hk : k ∈ Dp b (Bm keys)) (es : List Entry) : ∀ v ∈ grpRow ag (k, es), v.valid = true := fun v hv => by
 obtain ⟨_, _, h3⟩ := Ew (b := b) (kf := Bm keys) fun e _ => Ce keys e.row
 rcases Ej.1 hv with hv | hv
 ·obtain ⟨e, _, rfl⟩ := (h3 k).1 hk
  exact Uy keys e.row v hv
 ·obtain ⟨x, _, rfl⟩ := List.mem_map.1 hv
  refine Oe _ fun y hy => ?_
  obtain ⟨e, _, rfl⟩ := List.mem_map.1 hy
  exact KK x e
theorem J3 (hl : b.length ≤ 4096) (h8 : keys.length + ag.length ≤ 8) : Aj ((Dp b (Bm keys)).map (grE ag keys b)) = true := by
 have hK : CS b (Bm keys) := fun e _ => Ce keys e.row
 obtain ⟨h1, _, _⟩ := Ew hK
 have hlen := HD b _ hK
 rw [Aj, D7 (fun e he => ?_) ?_ (by simp), Bool.and_true]
 ·simp only [decide_eq_true_eq, BQ]; omega
 ·rw [XQ]
  refine List.Pairwise.imp_of_mem (fun {x y} hx hy h => ?_) h1
  exact J2 (by rw [(F8 hx).2, (F8 hy).2]) h
 ·obtain ⟨k, hk, rfl⟩ := List.mem_map.1 he
  have q1 : AD (grE ag keys b k).row = true := by
   simp only [AD, Bi, decide_eq_true_eq, CN]
   refine ⟨?_, Pr hk _⟩
   show (grpRow ag (k, _)).length ≤ _
   rw [EW, (F8 hk).2]
   omega
  simp only [Entry.ok, q1, Bool.true_and]
  show (Av 1 && decide ((1 : Int) ≠ 0)) = true
  decide
theorem Ps (hp : Ap b = true) (h8 : keys.length + ag.length ≤ 8) : groupE b keys ag = ((Dp b (Bm keys)).map (grE ag keys b), 0) := by
 rw [Ou ⟨hp, h8⟩]
 exact Jw (J3 (AF (LN hp).1).1 h8)
theorem Pt (p : Entry → Bool) (h : Ap b = true) : Ap (b.filter p) = true := by
 obtain ⟨h1, h2⟩ := LN h
 obtain ⟨h3, h4⟩ := AF h1
 have hs := AY h1
 have hl := Sl p b
 unfold Ap
 rw [Aj, D7 (fun e he => ?_) (List.Pairwise.sublist List.filter_sublist hs.up) (by simp), Bool.and_true, Bi, CN]
 ·refine ⟨by simp only [decide_eq_true_eq]; omega, fun e he => ?_⟩
  have := h2 e (Ms.1 he).1
  simp only [decide_eq_true_eq]; omega
 ·obtain ⟨q1, q2, q3⟩ := h4 e (Ms.1 he).1
  simp only [Entry.ok, q1, Av, Bool.true_and, Bi, decide_eq_true_eq]
  omega
end Go.Proofs.YtmpgmjlanngkfaaGreat
end
section
namespace Go.Abs
open Go.RowKit
section
variable {P : Program} {T : TypeId → Option TI} {F0 : Nat → Prop} {w0 : World}
variable {dr : Bool} {ops rest : List Oper} {K : St → Prop} {n : Nat} {sl : List (Nat × SVal)} {mem : List Blk} {ck : Nat} {df : List (FuncId × List Cell)} {acc : List Nat}
variable {d : Tmp} {op : Op} {ty : TypeId} {pos : String} {aft : Array Edge} {g : Option (Nat × Bool)}
end
end Go.Abs
end
section
namespace Go.Proofs.YtmpgmjlanngkfaaGreat
open Go.Abs Go.RowKit
set_option linter.unusedSimpArgs false
set_option maxRecDepth 100000
noncomputable def GrE (ag : List Agg) (keys : List Itm) (b : List Entry) : List Entry := (Dp b (Bm keys)).map (grE ag keys b)
theorem Tj {ag : List Agg} {keys : List Itm} {b : List Entry} {n w : Nat} (h : Tiny n w b) (hn : n ≤ 4096) (h8 : keys.length + ag.length ≤ 8) : Tiny n (keys.length + ag.length) (GrE ag keys b) := by
 have hl := h.len9
 have hK : CS b (Bm keys) := fun e _ => Ce keys e.row
 refine ⟨J3 (by omega) h8, fun e he => ?_, ?_⟩
 ·obtain ⟨k, hk, rfl⟩ := List.mem_map.1 he
  show (grpRow ag (k, _)).length = _
  rw [EW, (F8 hk).2]
 ·have h1 : A9 (GrE ag keys b) ≤ 1 * (GrE ag keys b).length := I5 fun e he => by
   obtain ⟨k, hk, rfl⟩ := List.mem_map.1 he
   exact Nat.le_refl _
  have h2 := HD b _ hK
  have h3 : (GrE ag keys b).length = (Dp b (Bm keys)).length := BQ ..
  omega
end Go.Proofs.YtmpgmjlanngkfaaGreat
end
section
namespace Go.Proofs.YtmpgmjlanngkfaaGreat
open Go.Abs Go.RowKit
attribute [local irreducible] ARun Au MCall PCall HCall Ak SF CF CFs Af Ag Ar fin AP VLe
set_option linter.unusedSimpArgs false
set_option maxRecDepth 100000
set_option maxHeartbeats 4000000
def cg {β : Type} (q : β → β → Bool) (l : List β) : Nat → Bool
 | 0 => false
 | j + 1 => match l[j + 1]?, l[j]? with
   | some x, some y => q x y
   | _, _ => false
def W3 {β : Type} (q : β → β → Bool) (l : List β) : Nat → List β
 | 0 => []
 | i + 1 => W3 q l i ++ (if cg q l i = true then [] else (l[i]?).toList)
def ay (cols : List Int) (e : Entry) : Entry := ⟨cols.map (GQ e.row), e.count⟩
def cS (b : List Entry) (cols : List Int) : List Entry × Int :=
 if Aj b && (decide (cols.length ≤ 8) && cols.all fun n => decide (0 ≤ n)) then A4 (b.map (ay cols)) else ([], 1)
def Bt (q : List Entry × Int) : PRes := .tup [.one (Am q.1), .one (.lit (.int .i64 q.2))]
theorem F3 : DeferOk Tryz.prog 147 0 := by
 refine ⟨⟨_, Tryz.func147, by kernel_rfl, by kernel_rfl⟩, fun vs w hl => ?_⟩
 match vs, hl with
 | [], _ =>
   refine callsD_of_wpS Tryz.func147 rfl fun c₀ cs hu => ?_
   apply wpS_region
   simp [wpOpsS, go_sem, recoverD, hu, Tryz.ntmps147, Exit.thenS]
   cases c₀
   simp_all [bodyPostS, results, Tryz.results147]
def Fl (items : List (List Trm)) (e : Entry) : Entry := ⟨items.map fun t => Gc t e.row, e.count⟩
def FI (b : List Entry) (items : List (List Trm)) : List Entry × Int :=
 if Aj b && decide (items.length ≤ 8) then A4 (b.map (Fl items)) else ([], 1)
theorem au (b : List Entry) (items : List (List Trm)) : PC 91 [.one (Am b), .one (Pe items)] (Bt (FI b items)) := by
 have hv := BT b
 by_cases hil : 8 < items.length
 ·rw [show FI b items = ([], 1) by rw [FI, decide_eq_false (by omega), Bool.and_false]; rfl]
  refine Ac hT Tryz.func91 Tryz.ntmps91 [.tmp 4, .tmp 5] fun B => ?_
  repeat' first | refine kz ?_ | refine Aw ?_ | refine kf ?_ | refine AA (by repeat (first | exact Ae | refine As F3 ?_)) ?_ ?_
  all_goals rfl
 cases hb : Aj b
 ·rw [show FI b items = ([], 1) by rw [FI, hb]; rfl]
  rw [hb] at hv
  refine Ac hT Tryz.func91 Tryz.ntmps91 [.tmp 4, .tmp 5] fun B => ?_
  repeat' first | refine kz ?_ | refine Aw ?_ | refine Aa (hv) ?_ | refine kf ?_ | refine AA (by repeat (first | exact Ae | refine As F3 ?_)) ?_ ?_
  all_goals rfl
 rw [hb] at hv
 obtain ⟨bl, bm⟩ := AF hb
 have hpe : FI b items = A4 (b.map (Fl items)) := by rw [FI, hb, decide_eq_true (by omega)]; rfl
 rw [hpe]
 have hno := Hj (b.map (Fl items)) (by simp; omega)
 generalize hN : A4 (b.map (Fl items)) = R at hno ⊢
 clear hN hpe
 unfold Pe
 refine Ac hT Tryz.func91 Tryz.ntmps91 [.tmp 4, .tmp 5] fun B => ?_
 repeat' first | refine kz ?_ | refine Aw ?_ | refine Aa (hv) ?_ | refine kf ?_ | refine AA (by repeat (first | exact Ae | refine As F3 ?_)) ?_ ?_
 refine Cr 6 56 2 ?_
 refine A0 (X := Nat × Nat) ([6] ++ List.range' 8 4 ++ List.range' 22 30) (fun x => x.1 ≤ b.length) (fun x lz => (6, .c (.arr 0 x.2 (b.take x.1).length)) :: (22, (iC x.1)) :: lz) (fun x => [.arr x.2 56 2 (((b.take x.1).map (Fl items)).map Entry.d)]) (fun x => b.length - x.1) ((0, 1)) ?_ ?_ ?_ ?_
 repeat' first | exact k0 | refine kw ?_ | refine kv ?_ ?_ | omega
 rintro ⟨i, k⟩ c0 hi
 dsimp only at hi ⊢
 by_cases hlt2 : i < b.length
 ·obtain ⟨e, hx⟩ := gx hlt2
  have htk : b.take (i + 1) = b.take i ++ [e] := by rw [IU, hx]; rfl
  have htl : (b.take i).length = i := by simp; omega
  repeat' first | refine kz ?_ | refine AX hx ?_ | refine Aw ?_ | refine kh ?_ ?_ | exact ⟨⟩ | fail
  refine A0 (X := Nat) ([10, 11] ++ List.range' 31 13) (fun x => x ≤ items.length) (fun x lz => (31, (iC x)) :: lz) (fun x => [.arr k 56 2 (((b.take i).map (Fl items)).map Entry.d), .box (c0 + 1) [.d (BP e.row), .d (.lit (.int .i64 e.count))], .arr (c0 + 1 + 1) 73 3 (((items.take x).map fun t => (Gc t e.row).d) ++ List.replicate (items.length - x) Val.null.d)]) (fun x => items.length - x) (0) ?_ ?_ ?_ ?_
  repeat' first | exact k0 | refine kw ?_ | refine kv ?_ ?_ | omega
  rintro j c hj
  by_cases hlt3 : j < items.length
  ·obtain ⟨t, hy⟩ := gx hlt3
   have hy2 : (items.map fun s => [Bw s])[j]? = some [Bw t] := by rw [B2, hy]; rfl
   have htk2 : items.take (j + 1) = items.take j ++ [t] := by rw [IU, hy]; rfl
   have hat := Hc t e.row
   have hrep : List.replicate (items.length - j) Val.null.d = Val.null.d :: List.replicate (items.length - (j + 1)) Val.null.d := by rw [show items.length - j = (items.length - (j + 1)) + 1 by omega, bN]
   have he : (((items.take j).map fun t => (Gc t e.row).d) ++ List.replicate (items.length - j) Val.null.d)[j]? = some Val.null.d := by rw [hrep, LB (by simp; omega)]; simp [Nat.min_eq_left hj]
   have hset : (((items.take j).map fun t => (Gc t e.row).d) ++ List.replicate (items.length - j) Val.null.d).set j (Gc t e.row).d = ((items.take (j + 1)).map fun t => (Gc t e.row).d) ++ List.replicate (items.length - (j + 1)) Val.null.d := by
    rw [hrep, Zt _ _ (by simp; omega), htk2]; simp [Nat.min_eq_left hj]
   repeat' first | refine kz ?_ | refine AX hx ?_ | refine AX hy2 ?_ | refine AX he ?_ | refine Aw ?_ | refine Aa (hat) ?_ | refine kh ?_ ?_ | exact ⟨⟩ | fail
   apply Ad (j + 1) <;> (try dsimp only) <;> try repeat' first | exact k0 | refine kw ?_ | refine kv ?_ ?_ | omega
   exact hset
  ·have hje : j = items.length := by omega
   subst hje
   have hcf : CFrs 2 (c0 + 1 + 1) (((items.take items.length).map fun t => (Gc t e.row).d) ++ List.replicate (items.length - items.length) Val.null.d) [.arr 2 (c0 + 1 + 1) items.length, .d (.lit (.int .i64 e.count))] (Fl items e).d := ⟨.inl ⟨_, rfl, by simp, by rw [Mq (by simp)]; simp [Fl, BP, Ve, Function.comp_def]⟩, .inr rfl, trivial⟩
   repeat' first | refine kz ?_ | refine AX hx ?_ | refine Aw ?_ | refine RQ 2 ?_ hcf | refine kh ?_ ?_ | exact ⟨⟩ | fail
   apply Ad ((i + 1, _)) <;> (try dsimp only) <;> try repeat' first | exact k0 | refine w1 ?_ | refine Ab ?_ | refine m1 ?_ ?_ | omega
   rw [htk]; simp
 ·have hie : i = b.length := by omega
  subst hie
  rw [PK]
  repeat' first | refine Bc 6 ?_ (hes := show List.take b.length ((b.map (Fl items)).map Entry.d) = (b.map (Fl items)).map Entry.d from Mq (by simp)) | refine kz ?_ | refine Aw ?_ | refine Aa (hno) ?_ | refine O5 ?_ | refine JH ?_ | refine AA (by repeat (first | exact Ae | refine As F3 ?_)) ?_ ?_ | refine B7 ?_ | refine Cv ?_
  all_goals rfl
end Go.Proofs.YtmpgmjlanngkfaaGreat
end
