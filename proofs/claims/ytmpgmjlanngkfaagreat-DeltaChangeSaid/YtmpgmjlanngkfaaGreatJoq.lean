/-
  Algebra: what the joiner makes final, in plain terms.
-/
import Derived.Test.YtmpgmjlanngkfaaGreatAgr
import Derived.Test.YtmpgmjlanngkfaaGreatExm
import Derived.Test.YtmpgmjlanngkfaaGreatAgh
import Derived.Test.YtmpgmjlanngkfaaGreatNrm
import Derived.Test.YtmpgmjlanngkfaaGreatSum
import Derived.Test.YtmpgmjlanngkfaaGreatRek
import Derived.Test.YtmpgmjlanngkfaaGreatTap
section
namespace Go.Proofs.YtmpgmjlanngkfaaGreat
open Go.Abs Go.RowKit
attribute [local irreducible] ARun Av MCall PCall HCall Ap SF CF CFs Ag Ai As fin AY VLe
set_option linter.unusedSimpArgs false
set_option maxRecDepth 100000
set_option maxHeartbeats 4000000
theorem Hs : DeferOk Tryz.prog 147 0 := by
 refine ⟨⟨_, Tryz.func147, by kernel_rfl, by kernel_rfl⟩, fun vs w hl => ?_⟩
 match vs, hl with
 | [], _ =>
   refine callsD_of_wpS Tryz.func147 rfl fun c₀ cs hu => ?_
   apply wpS_region
   simp [wpOpsS, go_sem, recoverD, hu, Tryz.ntmps147, Exit.thenS]
   cases c₀
   simp_all [bodyPostS, results, Tryz.results147]
def Gs (items : List (List Trm)) (e : Entry) : Entry := ⟨items.map fun t => EC t e.row, e.count⟩
def DD (b : List Entry) (items : List (List Trm)) : List Entry × Int :=
 if Am b && decide (items.length ≤ 8) then Bh (b.map (Gs items)) else ([], 1)
theorem eV (b : List Entry) (items : List (List Trm)) : PC 91 [.one (Ak b), .one (Fi items)] (Bi (DD b items)) := by
 have hv := Ck b
 by_cases kJ : 8 < items.length
 ·rw [show DD b items = ([], 1) by rw [DD, decide_eq_false (by omega), Bool.and_false]; rfl]
  refine Ac hT Tryz.func91 Tryz.ntmps91 [.tmp 4, .tmp 5] fun B => ?_
  repeat' first | refine kz ?_ | refine Ao ?_ | refine kf ?_ | refine Aw (by repeat (first | exact Ad | refine Aq Hs ?_)) ?_ ?_
  all_goals rfl
 cases hb : Am b
 ·rw [show DD b items = ([], 1) by rw [DD, hb]; rfl]
  rw [hb] at hv
  refine Ac hT Tryz.func91 Tryz.ntmps91 [.tmp 4, .tmp 5] fun B => ?_
  repeat' first | refine kz ?_ | refine Ao ?_ | refine Aa (hv) ?_ | refine kf ?_ | refine Aw (by repeat (first | exact Ad | refine Aq Hs ?_)) ?_ ?_
  all_goals rfl
 rw [hb] at hv
 obtain ⟨bl, bm⟩ := AP hb
 have nR : DD b items = Bh (b.map (Gs items)) := by rw [DD, hb, decide_eq_true (by omega)]; rfl
 rw [nR]
 have l5 := IT (b.map (Gs items)) (by simp; omega)
 generalize hN : Bh (b.map (Gs items)) = R at l5 ⊢
 clear hN nR
 unfold Fi
 refine Ac hT Tryz.func91 Tryz.ntmps91 [.tmp 4, .tmp 5] fun B => ?_
 repeat' first | refine kz ?_ | refine Ao ?_ | refine Aa (hv) ?_ | refine kf ?_ | refine Aw (by repeat (first | exact Ad | refine Aq Hs ?_)) ?_ ?_
 refine Bv 6 56 2 ?_
 refine AK (X := Nat × Nat) ([6] ++ List.range' 8 4 ++ List.range' 22 30) (fun x => x.1 ≤ b.length) (fun x lz => (6, .c (.arr 0 x.2 (b.take x.1).length)) :: (22, (iC x.1)) :: lz) (fun x => [.arr x.2 56 2 (((b.take x.1).map (Gs items)).map Entry.d)]) (fun x => b.length - x.1) ((0, 1)) ?_ ?_ ?_ ?_
 repeat' first | exact k0 | refine kw ?_ | refine kv ?_ ?_ | omega
 rintro ⟨i, k⟩ c0 hi
 dsimp only at hi ⊢
 by_cases jk : i < b.length
 ·obtain ⟨e, hx⟩ := gx jk
  have ju : b.take (i + 1) = b.take i ++ [e] := by rw [Gm, hx]; rfl
  have qk : (b.take i).length = i := by simp; omega
  repeat' first | refine kz ?_ | refine AF hx ?_ | refine Ao ?_ | refine kh ?_ ?_ | exact ⟨⟩ | fail
  refine AK (X := Nat) ([10, 11] ++ List.range' 31 13) (fun x => x ≤ items.length) (fun x lz => (31, (iC x)) :: lz) (fun x => [.arr k 56 2 (((b.take i).map (Gs items)).map Entry.d), .box (c0 + 1) [.d (A0 e.row), .d (.lit (.int .i64 e.count))], .arr (c0 + 1 + 1) 73 3 (((items.take x).map fun t => (EC t e.row).d) ++ List.replicate (items.length - x) Val.null.d)]) (fun x => items.length - x) (0) ?_ ?_ ?_ ?_
  repeat' first | exact k0 | refine kw ?_ | refine kv ?_ ?_ | omega
  rintro j c hj
  by_cases vX : j < items.length
  ·obtain ⟨t, hy⟩ := gx vX
   have pJ : (items.map fun s => [AW s])[j]? = some [AW t] := by rw [BU, hy]; rfl
   have vY : items.take (j + 1) = items.take j ++ [t] := by rw [Gm, hy]; rfl
   have lI := GU t e.row
   have j4 : List.replicate (items.length - j) Val.null.d = Val.null.d :: List.replicate (items.length - (j + 1)) Val.null.d := by rw [show items.length - j = (items.length - (j + 1)) + 1 by omega, dV]
   have he : (((items.take j).map fun t => (EC t e.row).d) ++ List.replicate (items.length - j) Val.null.d)[j]? = some Val.null.d := by rw [j4, Oy (by simp; omega)]; simp [Nat.min_eq_left hj]
   have lA : (((items.take j).map fun t => (EC t e.row).d) ++ List.replicate (items.length - j) Val.null.d).set j (EC t e.row).d = ((items.take (j + 1)).map fun t => (EC t e.row).d) ++ List.replicate (items.length - (j + 1)) Val.null.d := by
    rw [j4, aR _ _ (by simp; omega), vY]; simp [Nat.min_eq_left hj]
   repeat' first | refine kz ?_ | refine AF hx ?_ | refine AF pJ ?_ | refine AF he ?_ | refine Ao ?_ | refine Aa (lI) ?_ | refine kh ?_ ?_ | exact ⟨⟩ | fail
   apply Af (j + 1) <;> (try dsimp only) <;> try repeat' first | exact k0 | refine kw ?_ | refine kv ?_ ?_ | omega
   exact lA
  ·have vZ : j = items.length := by omega
   subst vZ
   have w8 : CFrs 2 (c0 + 1 + 1) (((items.take items.length).map fun t => (EC t e.row).d) ++ List.replicate (items.length - items.length) Val.null.d) [.arr 2 (c0 + 1 + 1) items.length, .d (.lit (.int .i64 e.count))] (Gs items e).d := ⟨.inl ⟨_, rfl, by simp, by rw [JF (by simp)]; simp [Gs, A0, Sc, Function.comp_def]⟩, .inr rfl, trivial⟩
   repeat' first | refine kz ?_ | refine AF hx ?_ | refine Ao ?_ | refine M3 2 ?_ w8 | refine kh ?_ ?_ | exact ⟨⟩ | fail
   apply Af ((i + 1, _)) <;> (try dsimp only) <;> try repeat' first | exact k0 | refine w1 ?_ | refine Ab ?_ | refine m1 ?_ ?_ | omega
   rw [ju]; simp
 ·have k8 : i = b.length := by omega
  subst k8
  rw [Ir]
  repeat' first | refine Ax 6 ?_ (j6 := show List.take b.length ((b.map (Gs items)).map Entry.d) = (b.map (Gs items)).map Entry.d from JF (by simp)) | refine kz ?_ | refine Ao ?_ | refine Aa (l5) ?_ | refine H6 ?_ | refine EW ?_ | refine Aw (by repeat (first | exact Ad | refine Aq Hs ?_)) ?_ ?_ | refine Bq ?_ | refine BC ?_
  all_goals rfl
theorem P3 (items : List (List Trm)) (row : List Val) (kJ : items.length ≤ 8) : PC 139 [.one (Fi items), .one (A0 row)] (.v (.one (A0 (items.map fun t => EC t row)))) := by
 have hf : List.take items.length ((items.map fun t => EC t row).map Val.d) = (items.map fun t => EC t row).map Val.d := Ah (by simp)
 unfold Fi
 refine Ac hT Tryz.func139 Tryz.ntmps139 [.tmp 4] fun B => ?_
 repeat' first | refine kz ?_ | refine Ao ?_ | refine kf ?_ | fail
 refine Bv 5 73 3 ?_
 refine AK (X := Nat × Nat) (List.range' 5 17) (fun x => x.1 ≤ items.length) (fun x lz => (5, .c (.arr 0 x.2 x.1)) :: (6, (iC x.1)) :: lz) (fun x => [.arr x.2 73 3 (((items.take x.1).map fun t => EC t row).map Val.d)]) (fun x => items.length - x.1) ((0, 1)) ?_ ?_ ?_ ?_
 repeat' first | exact k0 | refine kw ?_ | refine kv ?_ ?_ | omega
 rintro ⟨j, k⟩ c hj
 dsimp only at hj ⊢
 have ky : (items.take j).length = j := by simp; omega
 by_cases i7 : j < items.length
 ·obtain ⟨t, hy⟩ := gx i7
  have pJ : (items.map fun s => [AW s])[j]? = some [AW t] := by rw [BU, hy]; rfl
  have ju : items.take (j + 1) = items.take j ++ [t] := by rw [Gm, hy]; rfl
  have lI := Hr t row
  repeat' first | refine kz ?_ | refine AF pJ ?_ | refine Ao ?_ | refine Aa (lI) ?_ | refine kf ?_ | fail
  apply Af ((j + 1, _)) <;> (try dsimp only) <;> try repeat' first | exact k0 | refine w1 ?_ | refine Ab ?_ | refine m1 ?_ ?_ | omega
  all_goals (rw [ju, Ag', Ag']; rfl)
 ·obtain rfl : j = items.length := by omega
  rw [Ir]
  repeat' first | refine Ax 5 ?_ (j6 := hf) | refine kz ?_ | refine Ao ?_ | refine Bg Ad ?_ | refine Bq ?_
  all_goals rfl
theorem WD (b : List Entry) (items : List (List Trm)) : PC 84 [.one (Ak b), .one (Fi items)] (Bi (DD b items)) := by
 have hv := Bz b
 cases hb : Am b
 ·rw [show DD b items = ([], 1) by rw [DD, hb]; rfl]
  rw [hb] at hv
  refine Ac hT Tryz.func84 Tryz.ntmps84 [.tmp 4, .tmp 5] fun B => ?_
  repeat' first | refine kz ?_ | refine Ao ?_ | refine Aa (hv) ?_ | refine kh ?_ ?_ | exact ⟨⟩ | fail
  all_goals rfl
 rw [hb] at hv
 by_cases kJ : 8 < items.length
 ·rw [show DD b items = ([], 1) by rw [DD, decide_eq_false (by omega), Bool.and_false]; rfl]
  unfold Fi
  refine Ac hT Tryz.func84 Tryz.ntmps84 [.tmp 4, .tmp 5] fun B => ?_
  repeat' first | refine kz ?_ | refine Ao ?_ | refine Aa (hv) ?_ | refine kh ?_ ?_ | exact ⟨⟩ | fail
  all_goals rfl
 obtain ⟨bl, bm⟩ := AP hb
 have nR : DD b items = Bh (b.map (Gs items)) := by rw [DD, hb, decide_eq_true (by omega)]; rfl
 rw [nR]
 have l5 := E9 (b.map (Gs items)) (by simp; omega)
 generalize hN : Bh (b.map (Gs items)) = R at l5 ⊢
 clear hN nR
 have zr : ((items.map fun s => [AW s]) : List (List Dat)).length = items.length := BR _
 refine Ac hT Tryz.func84 Tryz.ntmps84 [.tmp 4, .tmp 5] fun B => ?_
 repeat' first | refine kz ?_ | refine Ao ?_ | refine Aa (hv) ?_ | refine kh ?_ ?_ | exact ⟨⟩ | fail
 refine Bv 6 56 2 ?_
 refine AK (X := Nat × Nat) ([6, 7] ++ List.range' 16 22) (fun x => x.1 ≤ b.length) (fun x lz => (6, .c (.arr 0 x.2 (b.take x.1).length)) :: (7, (iC x.1)) :: lz) (fun x => [.arr x.2 56 2 (((b.take x.1).map (Gs items)).map Entry.d)]) (fun x => b.length - x.1) ((0, 1)) ?_ ?_ ?_ ?_
 repeat' first | exact k0 | refine kw ?_ | refine kv ?_ ?_ | omega
 rintro ⟨i, k⟩ c hi
 dsimp only at hi ⊢
 by_cases jk : i < b.length
 ·obtain ⟨e, hx⟩ := gx jk
  have ju : b.take (i + 1) = b.take i ++ [e] := by rw [Gm, hx]; rfl
  have qk : (b.take i).length = i := by simp; omega
  have jQ := P3 items e.row (by omega)
  repeat' first | refine kz ?_ | refine AF hx ?_ | refine Ao ?_ | refine Aa (jQ) ?_ | refine kh ?_ ?_ | exact ⟨⟩ | fail
  apply Af ((i + 1, _)) <;> (try dsimp only) <;> try repeat' first | exact k0 | refine w1 ?_ | refine Ab ?_ | refine m1 ?_ ?_ | omega
  all_goals (rw [ju]; simp [Gs, Entry.d])
 ·have k8 : i = b.length := by omega
  subst k8
  rw [Ir]
  repeat' first | refine Ax 6 ?_ (j6 := show List.take b.length ((b.map (Gs items)).map Entry.d) = (b.map (Gs items)).map Entry.d from JF (by simp)) | refine kz ?_ | refine Ao ?_ | refine Aa (l5) ?_ | refine Aw Ad ?_ ?_ | refine Bq ?_ | refine BC ?_
  all_goals rfl
end Go.Proofs.YtmpgmjlanngkfaaGreat
end
section
namespace Go.Proofs.YtmpgmjlanngkfaaGreat
open Go.Abs Go.RowKit
set_option linter.unusedSimpArgs false
set_option maxRecDepth 100000
variable {A D : Bs → Int} {G N : Bs → Prop} {c : Bs} {os : List Bs} {r s : List (Bs × Int)}
theorem Jr {α : Type} : ∀ {l : List α} {i : Nat} {x : α}, l[i]? = some x → ∃ l1 l2, l = l1 ++ x :: l2 ∧ l.eraseIdx i = l1 ++ l2 ∧ ∀ y, l.set i y = l1 ++ y :: l2
 | [], i, x, h => by simp at h
 | a :: l, 0, x, h => by
   simp at h; subst h
   exact ⟨[], l, rfl, rfl, fun _ => rfl⟩
 | a :: l, i + 1, x, h => by
   obtain ⟨l1, l2, h1, h2, h3⟩ := Jr (l := l) (i := i) (by simpa using h)
   exact ⟨a :: l1, l2, by rw [h1]; rfl, by simp [h2], fun y => by simp [h3 y]⟩
structure JInv (D : Bs → Int) (G N : Bs → Prop) (A : Bs → Int) (os : List Bs) (s r : List (Bs × Int)) : Prop where
 perm : os.Perm (s.map Prod.fst)
 nd : (s.map Prod.fst).Nodup
 val : ∀ e ∈ s, e.2 = D e.1
 kg : ∀ e ∈ s, G e.1
 dz : ∀ c, ¬ G c → D c = 0
 cl : ∀ c, G c → c ∉ s.map Prod.fst → N c ∧ (A c ≠ 0 → (c, A c) ∈ r)
 res : ∀ e ∈ r, e.2 = A e.1 ∧ e.2 ≠ 0 ∧ G e.1 ∧ e.1 ∉ s.map Prod.fst
 rnd : (r.map Prod.fst).Nodup
def RK (A : Bs → Int) (r : List (Bs × Int)) : Prop := (r.map Prod.fst).Nodup ∧ ∀ e ∈ r, e.2 = A e.1 ∧ e.2 ≠ 0
theorem JInv.fin (h : JInv D G N A os s r) : RK A r := ⟨h.rnd, fun e he => ⟨(h.res e he).1, (h.res e he).2.1⟩⟩
theorem JInv.congr {D' : Bs → Int} {G' N' : Bs → Prop} {uA : List Bs} (h : JInv D G N A os s r) (hD : ∀ c, D c = D' c) (hG : ∀ c, G c ↔ G' c) (hN : ∀ c, N c → N' c) (ho : uA.Perm os) : JInv D' G' N' A uA s r :=
 ⟨ho.trans h.perm, h.nd, fun e he => by rw [← hD]; exact h.val e he, fun e he => (hG _).1 (h.kg e he), fun c hc => by rw [← hD]; exact h.dz c fun q => hc ((hG c).1 q), fun c hc hk => ⟨hN c (h.cl c ((hG c).2 hc) hk).1, (h.cl c ((hG c).2 hc) hk).2⟩, fun e he => ⟨(h.res e he).1, (h.res e he).2.1, (hG _).1 (h.res e he).2.2.1, (h.res e he).2.2.2⟩, h.rnd⟩
theorem JInv.close1 (h : JInv D G N A (c :: os) s r) (hN : N c) (hA : A c = D c) : JInv D G N A os (P7 c s) (B7 c s r) := by
 have je : c ∈ s.map Prod.fst := h.perm.subset (by simp)
 rcases Cd c s with ⟨i, v, g1, g2, _, g4, _⟩ | ⟨g1, _⟩
 ·obtain ⟨l1, l2, e1, e2, _⟩ := Jr g1
  unfold B7
  rw [g4, e2, g2]
  have jQ := h.val (c, v) (Cb g1)
  have xI := h.kg (c, v) (Cb g1)
  simp only at jQ xI
  have hp := h.perm
  have mQ := h.nd
  have hm : s.map Prod.fst = l1.map Prod.fst ++ c :: l2.map Prod.fst := by rw [e1]; simp
  have kW : (l1 ++ l2).map Prod.fst = l1.map Prod.fst ++ l2.map Prod.fst := by simp
  rw [hm] at hp mQ
  have w9 := (List.perm_middle.nodup_iff).1 mQ
  obtain ⟨oA, wc⟩ := dK.1 w9
  have lP : ∀ e, e ∈ l1 ++ l2 → e ∈ s := fun e he => by
   rw [e1]
   rcases EY.1 he with q | q
   ·exact XS _ q
   ·exact dQ _ (dT _ q)
  have tK : ∀ x, x ∈ (l1 ++ l2).map Prod.fst → x ∈ s.map Prod.fst := fun x hx => by
   obtain ⟨e, he, rfl⟩ := List.mem_map.1 hx
   exact dW (lP e he)
  have zt : c ∉ r.map Prod.fst := fun q => by
   obtain ⟨e, he, hq⟩ := List.mem_map.1 q
   exact (h.res e he).2.2.2 (hq ▸ je)
  refine ⟨?_, ?_, fun e he => h.val e (lP e he), fun e he => h.kg e (lP e he), h.dz, fun x hx hk => ?_, fun e he => ?_, ?_⟩
  ·rw [kW]; exact (hp.trans List.perm_middle).cons_inv
  ·rw [kW]; exact wc
  ·by_cases ri : x = c
   ·subst ri
    refine ⟨hN, fun hz => ?_⟩
    rw [if_neg (by rw [jQ, ← hA]; exact hz), jQ, ← hA]
    simp
   ·have nO : x ∉ s.map Prod.fst := fun q => by
     rw [hm] at q
     rcases EY.1 q with q | q
     ·exact hk (by rw [kW]; exact XS _ q)
     ·rcases FL.1 q with q | q
      ·exact ri q
      ·exact hk (by rw [kW]; exact dQ _ q)
    obtain ⟨h1, h2⟩ := h.cl x hx nO
    refine ⟨h1, fun hz => ?_⟩
    split
    ·exact h2 hz
    ·exact XS _ (h2 hz)
  ·have hold : e ∈ r → e.2 = A e.1 ∧ e.2 ≠ 0 ∧ G e.1 ∧ e.1 ∉ (l1 ++ l2).map Prod.fst := fun q => ⟨(h.res e q).1, (h.res e q).2.1, (h.res e q).2.2.1, fun z => (h.res e q).2.2.2 (tK _ z)⟩
   split at he
   ·exact hold he
   ·rename_i hv
    rcases EY.1 he with he | he
    ·exact hold he
    ·obtain rfl := Ke.1 he
     exact ⟨by rw [hA]; exact jQ, hv, xI, by rw [kW]; exact oA⟩
  ·split
   ·exact h.rnd
   ·rw [Ag', ZD]
    refine ⟨h.rnd, by simp, fun x hx y hy q => ?_⟩
    simp at hy
    subst hy; subst q
    exact zt hx
 ·obtain ⟨e, he, hq⟩ := List.mem_map.1 je
  exact absurd hq (g1 e he)
theorem JInv.closeLev {D : Bs → Int} {G N : Bs → Prop} {A : Bs → Int} : ∀ {cs os : List Bs} {s r : List (Bs × Int)}, JInv D G N A (cs ++ os) s r → (∀ c ∈ cs, N c ∧ A c = D c) →
   (∀ s' r', closeLev cs s r = some (s', r') → JInv D G N A os s' r') ∧ (closeLev cs s r = none → ∃ r' : List (Bs × Int), 4096 < r'.length ∧ RK A r')
 | [], os, s, r, h, _ => ⟨fun s' r' q => by
     simp only [Go.Proofs.YtmpgmjlanngkfaaGreat.closeLev, Option.some.injEq, HK] at q
     obtain ⟨rfl, rfl⟩ := q
     exact h, fun q => by simp [Go.Proofs.YtmpgmjlanngkfaaGreat.closeLev] at q⟩
 | c :: cs, os, s, r, h, hc => by
   have h1 := h.close1 (hc c (by simp)).1 (hc c (by simp)).2
   have h2 := JInv.closeLev h1 (fun x hx => hc x (by simp [hx]))
   rw [Go.Proofs.YtmpgmjlanngkfaaGreat.closeLev]
   split
   · rename_i hl
     exact ⟨fun s' r' q => (by cases q), fun _ => ⟨_, hl, h1.fin⟩⟩
   · exact h2
theorem JInv.closeE {D : Bs → Int} {G N : Bs → Prop} {A : Bs → Int} {code : Bs} : ∀ {st : List Lev} {s r : List (Bs × Int)}, JInv D G N A (st.flatMap Lev.opened) s r → (∀ l ∈ st, ¬ (code ≠ [] ∧ l.code.isPrefixOf code = true) → ∀ c ∈ l.opened, N c ∧ A c = D c) →
   (∀ jK s' r', closeE code st s r = some (jK, s', r') → JInv D G N A (jK.flatMap Lev.opened) s' r' ∧ ∀ l ∈ jK, l ∈ st) ∧ (closeE code st s r = none → ∃ r' : List (Bs × Int), 4096 < r'.length ∧ RK A r')
 | [], s, r, h, _ => ⟨fun jK s' r' q => by
     simp only [Go.Proofs.YtmpgmjlanngkfaaGreat.closeE, Option.some.injEq, HK] at q
     obtain ⟨rfl, rfl, rfl⟩ := q
     exact ⟨h, fun l hl => hl⟩, fun q => by simp [Go.Proofs.YtmpgmjlanngkfaaGreat.closeE] at q⟩
 | l :: st, s, r, h, hc => by
   rw [Go.Proofs.YtmpgmjlanngkfaaGreat.closeE]
   split
   · exact ⟨fun jK s' r' q => by
      simp only [Option.some.injEq, HK] at q
      obtain ⟨rfl, rfl, rfl⟩ := q
      exact ⟨h, fun l hl => hl⟩, fun q => by cases q⟩
   · rename_i hp
     have h1 := JInv.closeLev (cs := l.opened) (os := st.flatMap Lev.opened) h (hc l (by simp) hp)
     split
     ·rename_i hq
      exact ⟨fun jK s' r' q => (by cases q), fun _ => h1.2 hq⟩
     ·rename_i s2 r2 hq
      have h2 := JInv.closeE (code := code) (h1.1 _ _ hq) (fun m hm => hc m (by simp [hm]))
      exact ⟨fun jK s' r' q => ⟨(h2.1 _ _ _ q).1, fun m hm => by simp [(h2.1 _ _ _ q).2 m hm]⟩, h2.2⟩
theorem Ll : ∀ {st : List Lev} {s r : List (Bs × Int)} {jK : List Lev} {s' r' : List (Bs × Int)}, closeE [] st s r = some (jK, s', r') → jK = []
 | [], s, r, jK, s', r', h => by
   simp only [closeE, Option.some.injEq, HK] at h
   exact h.1.symm
 | l :: st, s, r, jK, s', r', h => by
   rw [closeE, if_neg (by simp)] at h
   split at h
   ·cases h
   ·exact Ll h
theorem JInv.add1 {u y : Bs × Int} {op : List Bs} (h : JInv D G N A (op ++ os) s r) (hn : ¬ N (u.1 ++ y.1)) :
  JInv (fun c => D c + if u.1 ++ y.1 = c then u.2 * y.2 else 0) (fun c => G c ∨ u.1 ++ y.1 = c) N A ((A8 u (op, s) y).1 ++ os) (A8 u (op, s) y).2 r := by
 unfold A8
 generalize u.1 ++ y.1 = c0 at hn ⊢
 generalize u.2 * y.2 = k
 simp only
 rcases Cd c0 s with ⟨i, v, g1, g2, g3, _, g5⟩ | ⟨g1, g2, g3, _, g5⟩
 ·obtain ⟨l1, l2, e1, _, e3⟩ := Jr g1
  rw [g5, g2, g3, if_pos rfl, e3]
  have jQ := h.val (c0, v) (Cb g1)
  simp only at jQ
  have hm : s.map Prod.fst = l1.map Prod.fst ++ c0 :: l2.map Prod.fst := by rw [e1]; simp
  have kW : (l1 ++ (c0, v + k) :: l2).map Prod.fst = s.map Prod.fst := by rw [hm]; simp
  have mQ := h.nd
  rw [hm] at mQ
  have oA := (dK.1 ((List.perm_middle.nodup_iff).1 mQ)).1
  have qP : ∀ e ∈ l1 ++ (c0, v + k) :: l2, e = (c0, v + k) ∨ (e ∈ s ∧ e.1 ≠ c0) := fun e he => by
   rcases EY.1 he with q | q
   ·exact .inr ⟨by rw [e1]; exact XS _ q, fun z => oA (XS _ (z ▸ dW q))⟩
   ·rcases FL.1 q with q | q
    ·exact .inl q
    ·exact .inr ⟨by rw [e1]; exact dQ _ (dT _ q), fun z => oA (dQ _ (z ▸ dW q))⟩
  refine ⟨by rw [kW]; exact h.perm, by rw [kW]; exact h.nd, fun e he => ?_, fun e he => ?_, fun c hc => ?_, fun c hc hk => ?_, fun e he => ?_, h.rnd⟩
  ·rcases qP e he with rfl | ⟨q1, q2⟩
   ·simp [jQ]
   ·rw [if_neg (fun z => q2 z.symm), h.val e q1]; omega
  ·rcases qP e he with rfl | ⟨q1, q2⟩
   ·exact .inr rfl
   ·exact .inl (h.kg e q1)
  ·simp only [not_or] at hc
   rw [if_neg hc.2, h.dz c hc.1]; rfl
  ·rw [kW] at hk
   rcases hc with hc | hc
   ·exact h.cl c hc hk
   ·subst hc; exact absurd (by rw [hm]; simp) hk
  ·rw [kW]
   obtain ⟨q1, q2, q3, q4⟩ := h.res e he
   exact ⟨q1, q2, .inl q3, q4⟩
 ·rw [g5, g2, g3, if_neg (by simp)]
  have je : c0 ∉ s.map Prod.fst := fun q => by
   obtain ⟨e, he, hq⟩ := List.mem_map.1 q
   exact g1 e he hq
  have hG : ¬ G c0 := fun q => hn (h.cl c0 q je).1
  have kW : (s ++ [(c0, 0 + k)]).map Prod.fst = s.map Prod.fst ++ [c0] := by simp
  refine ⟨?_, ?_, fun e he => ?_, fun e he => ?_, fun c hc => ?_, fun c hc hk => ?_, fun e he => ?_, h.rnd⟩
  ·rw [kW]
   have q1 : (op ++ [c0] ++ os).Perm (op ++ os ++ [c0]) := by
    rw [Hc, Hc]
    exact List.Perm.append_left _ List.perm_append_comm
   exact q1.trans (h.perm.append_right _)
  ·rw [kW, ZD]
   exact ⟨h.nd, by simp, fun a ha b hb q => by simp at hb; subst hb; subst q; exact je ha⟩
  ·rcases EY.1 he with q | q
   ·have j2 : ¬ c0 = e.1 := fun z => g1 e q z.symm
    rw [if_neg j2, h.val e q]; omega
   ·obtain rfl := Ke.1 q
    simp [h.dz c0 hG]
  ·rcases EY.1 he with q | q
   ·exact .inl (h.kg e q)
   ·obtain rfl := Ke.1 q
    exact .inr rfl
  ·simp only [not_or] at hc
   rw [if_neg hc.2, h.dz c hc.1]; rfl
  ·rw [kW] at hk
   rcases hc with hc | hc
   ·exact h.cl c hc (fun q => hk (XS _ q))
   ·subst hc; exact absurd (by simp) hk
  ·rw [kW]
   obtain ⟨q1, q2, q3, q4⟩ := h.res e he
   refine ⟨q1, q2, .inl q3, fun q => ?_⟩
   rcases EY.1 q with q | q
   ·exact q4 q
   ·simp at q; exact hG (q ▸ q3)
abbrev F5 := (Bs × Int) × List (Bs × Int)
def T1 (u : Bs × Int) (ps : List (Bs × Int)) (c : Bs) : Int := (ps.map fun y => if u.1 ++ y.1 = c then u.2 * y.2 else 0).sum
def G1 (u : Bs × Int) (ps : List (Bs × Int)) (c : Bs) : Prop := ∃ y ∈ ps, u.1 ++ y.1 = c
def TT (l : List F5) (c : Bs) : Int := (l.map fun x => T1 x.1 x.2 c).sum
def GG (l : List F5) (c : Bs) : Prop := ∃ x ∈ l, G1 x.1 x.2 c
def NN (l : List F5) (c : Bs) : Prop := ∀ x ∈ l, ¬ x.1.1 <+: c
theorem JInv.addAll {N : Bs → Prop} {A : Bs → Int} {u : Bs × Int} {os : List Bs} {r : List (Bs × Int)} : ∀ {ps : List (Bs × Int)} {D : Bs → Int} {G : Bs → Prop} {op : List Bs} {s : List (Bs × Int)}, JInv D G N A (op ++ os) s r → (∀ y ∈ ps, ¬ N (u.1 ++ y.1)) →
   JInv (fun c => D c + T1 u ps c) (fun c => G c ∨ G1 u ps c) N A ((ps.foldl (A8 u) (op, s)).1 ++ os) (ps.foldl (A8 u) (op, s)).2 r
 | [], D, G, op, s, h, _ => h.congr (fun c => by simp [T1]) (fun c => by simp [G1]) (fun _ q => q) (List.Perm.refl _)
 | y :: ps, D, G, op, s, h, hn => by
   have h1 := h.add1 (u := u) (y := y) (hn y (by simp))
   have h2 := JInv.addAll (ps := ps) (u := u) (op := (A8 u (op, s) y).1) (s := (A8 u (op, s) y).2) h1 (fun z hz => hn z (by simp [hz]))
   rw [XU]
   refine h2.congr (fun c => ?_) (fun c => ?_) (fun _ q => q) (List.Perm.refl _)
   ·simp only [T1, List.map_cons, Vb]; omega
   ·simp only [G1, FL, exists_eq_or_imp, or_assoc]
theorem Lm {u : Bs × Int} : ∀ {ps : List (Bs × Int)} {op : List Bs} {s : List (Bs × Int)}, (∀ c ∈ op, u.1 <+: c) → ∀ c ∈ (ps.foldl (A8 u) (op, s)).1, u.1 <+: c
 | [], op, s, h => h
 | y :: ps, op, s, h => by
   rw [XU]
   refine Lm (op := (A8 u (op, s) y).1) (s := (A8 u (op, s) y).2) fun c hc => ?_
   unfold A8 at hc
   simp only at hc
   split at hc
   ·exact h c hc
   ·rcases EY.1 hc with q | q
    ·exact h c q
    ·simp at q; subst q; exact gn ..
theorem MX (a b : List F5) (c : Bs) : TT (a ++ b) c = TT a c + TT b c := by simp [TT]
theorem Y0 {u : Bs × Int} {ps : List (Bs × Int)} (h : ¬ u.1 <+: c) : T1 u ps c = 0 := by
 unfold T1
 induction ps with
 | nil => rfl
 | cons y ps ih =>
   have j2 : ¬ u.1 ++ y.1 = c := fun q => h (by rw [← q]; exact gn ..)
   rw [List.map_cons, Vb, ih, if_neg j2]; rfl
theorem Y1 {l : List F5} (h : NN l c) : TT l c = 0 := by
 induction l with
 | nil => rfl
 | cons x l ih =>
   unfold TT at ih ⊢
   rw [List.map_cons, Vb, ih (fun y hy => h y (by simp [hy])), Y0 (h x (by simp))]; rfl
def S5 (q : JS) (x : F5) : Option JS := match closeE x.1.1 q.1.reverse q.2.1 q.2.2 with
 | none => none
 | some (jK, s', r') => some (jK.reverse ++ [⟨x.1.1, (x.2.foldl (A8 x.1) ([], s')).1⟩], (x.2.foldl (A8 x.1) ([], s')).2, r')
def HE : List F5 → JS → Option JS
 | [], q => some q
 | x :: l, q => match S5 q x with
   | none => none
   | some q' => HE l q'
structure InOrd (all : List F5) : Prop where
 ord : all.Pairwise fun x y => ¬ y.1.1 <+: x.1.1
 near : ∀ d x0 t, all = d ++ x0 :: t → ∀ x ∈ d, ∀ y ∈ t, x.1.1 <+: y.1.1 → x.1.1 <+: x0.1.1
theorem Qa {all : List F5} (hO : InOrd all) : ∀ (todo dn : List F5) (st : List Lev) (s r : List (Bs × Int)), all = dn ++ todo → JInv (TT dn) (GG dn) (NN todo) (TT all) (st.reverse.flatMap Lev.opened) s r →
   (∀ l ∈ st, (∀ c ∈ l.opened, l.code <+: c) ∧ ∃ x ∈ dn, x.1.1 = l.code) →
   (∀ q, HE todo (st, s, r) = some q → JInv (TT all) (GG all) (NN []) (TT all) (q.1.reverse.flatMap Lev.opened) q.2.1 q.2.2) ∧ (HE todo (st, s, r) = none → ∃ r' : List (Bs × Int), 4096 < r'.length ∧ RK (TT all) r')
 | [], dn, st, s, r, ha, h, _ => by
   rw [List.append_nil] at ha
   subst ha
   exact ⟨fun q hq => by simp only [HE, Option.some.injEq] at hq; subst hq; exact h, fun hq => by simp [HE] at hq⟩
 | x0 :: t, dn, st, s, r, ha, h, hl => by
   have tL := hO.ord
   rw [ha] at tL
   obtain ⟨_, vE, xJ⟩ := aV.1 tL
   have jz := h.closeE (code := x0.1.1) (fun l pI hp c hc => by
     obtain ⟨h1, x, hx, qb⟩ := hl l (ef.1 pI)
     have sG := h1 c hc
     have xK : NN (x0 :: t) c := by
      have xL : ¬ l.code <+: x0.1.1 := fun q => hp ⟨fun z => by
       have := xJ x hx x0 (by simp)
       rw [z] at this
       exact this (List.nil_prefix), List.isPrefixOf_iff_prefix.2 q⟩
      intro y hy q
      rcases Nat.le_total y.1.1.length l.code.length with hle | hle
      ·have := List.prefix_of_prefix_length_le q sG hle
       rw [← qb] at this
       exact xJ x hx y hy this
      ·have hq := List.prefix_of_prefix_length_le sG q hle
       rcases FL.1 hy with rfl | hy
       ·exact xL hq
       ·exact xL (qb ▸ hO.near dn x0 t ha x hx y hy (qb ▸ hq))
     exact ⟨xK, by rw [ha, MX, Y1 xK]; omega⟩)
   rw [HE, S5]
   cases hq : Go.Proofs.YtmpgmjlanngkfaaGreat.closeE x0.1.1 st.reverse s r with
   | none => exact ⟨fun q z => (by cases z), fun _ => jz.2 hq⟩
   | some z =>
     obtain ⟨jK, s', r'⟩ := z
     obtain ⟨k1, k2⟩ := jz.1 _ _ _ hq
     simp only
     have k3 := JInv.addAll (u := x0.1) (ps := x0.2) (op := []) (os := jK.flatMap Lev.opened) k1 (fun y _ hN => hN x0 (by simp) (gn ..))
     have we := Lm (u := x0.1) (ps := x0.2) (op := []) (s := s') (by simp)
     refine Qa hO t (dn ++ [x0]) _ _ _ (by rw [ha]; simp) (k3.congr (fun c => ?_) (fun c => ?_) (fun c hN y hy => hN y (by simp [hy])) ?_) (fun l pI => ?_)
     ·rw [MX]; simp [TT]
     ·simp [GG, or_and_right, exists_or]
     ·simp
     ·rcases EY.1 pI with pI | pI
      ·obtain ⟨z1, x, z2, z3⟩ := hl l (ef.1 (k2 l (ef.1 pI)))
       exact ⟨z1, x, by simp [z2], z3⟩
      ·obtain rfl := Ke.1 pI
       exact ⟨we, x0, by simp, rfl⟩
def RL (l : List F5) : Option (List (Bs × Int)) := match HE l ([], [], []) with
 | none => none
 | some q => match closeE [] q.1.reverse q.2.1 q.2.2 with
   | none => none
   | some (_, _, r) => some r
theorem Up {l : List F5} (hO : InOrd l) : match RL l with
   | none => ∃ r : List (Bs × Int), 4096 < r.length ∧ RK (TT l) r
   | some r => RK (TT l) r ∧ ∀ c, TT l c ≠ 0 → (c, TT l c) ∈ r := by
 have h := Qa hO l [] [] [] [] rfl ⟨by simp, by simp, by simp, by simp, fun c _ => by simp [TT], fun c hc => by simp [GG] at hc, by simp, by simp⟩ (by simp)
 unfold RL
 cases hq : HE l ([], [], []) with
 | none => exact h.2 hq
 | some q =>
   simp only
   have h1 := (h.1 q hq).closeE (code := []) (fun l _ _ c _ => ⟨by simp [NN], rfl⟩)
   cases hc : closeE [] q.1.reverse q.2.1 q.2.2 with
   | none => exact h1.2 hc
   | some z =>
     obtain ⟨jK, s', r'⟩ := z
     have h2 := (h1.1 _ _ _ hc).1
     have := Ll hc
     subst this
     have hs : s' = [] := by
      have := h2.perm.length_eq
      simp at this
      exact XR.1 this.symm
     subst hs
     refine ⟨h2.fin, fun c hz => ?_⟩
     apply (h2.cl c _ (by simp)).2 hz
     apply Zz
     intro hG
     exact hz (h2.dz c hG)
end Go.Proofs.YtmpgmjlanngkfaaGreat
end
