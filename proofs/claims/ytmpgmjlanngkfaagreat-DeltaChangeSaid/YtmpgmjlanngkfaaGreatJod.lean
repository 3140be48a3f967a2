/-
  Algebra: the joiner's sums are made final: up to a row, without room.
-/
import Derived.Test.YtmpgmjlanngkfaaGreatRej
import Derived.Test.YtmpgmjlanngkfaaGreatAgh
import Derived.Test.YtmpgmjlanngkfaaGreatRga
import Derived.Test.YtmpgmjlanngkfaaGreatAgm
import Derived.Test.YtmpgmjlanngkfaaGreatAgi
import Derived.Test.YtmpgmjlanngkfaaGreatLasn
import Derived.Test.YtmpgmjlanngkfaaGreatTap
import Derived.Test.YtmpgmjlanngkfaaGreatTypes
import Derived.Test.YtmpgmjlanngkfaaGreatExb
import Derived.Test.YtmpgmjlanngkfaaGreatMpc
section
namespace Go.Proofs.YtmpgmjlanngkfaaGreat
open Go.Abs Go.RowKit
attribute [local irreducible] ARun Av MCall PCall HCall Ap SF CF CFs Ag Ai As fin AY VLe
set_option linter.unusedSimpArgs false
set_option maxRecDepth 100000
set_option maxHeartbeats 4000000
def gU (l : List Int) : List (List Dat) := l.map fun n => [.lit (.int .i64 n)]
noncomputable def foldP (f : Int) (b : List Entry) : Val := if Ay b = true then foldE f (Dp b) else Val.null
end Go.Proofs.YtmpgmjlanngkfaaGreat
end
section
namespace Go.Proofs.YtmpgmjlanngkfaaGreat
open Go.Abs Go.RowKit
set_option linter.unusedSimpArgs false
set_option maxRecDepth 100000
variable {b : List Entry} {n : Nat}
theorem QV {a : List Entry} (h : (AU a).2 = 0) : (AU a).1 = a := by
 unfold AU at *
 split at h
 ·cases h
 ·split at h
  ·rename_i h1 h2; rw [if_neg h1, if_pos h2]
  ·cases h
theorem Ip (l : List Entry) : l.map (sc 1) = l := by
 conv => rhs; rw [← List.map_id l]
 refine dE fun e _ => ?_
 show (⟨e.row, 1 * e.count⟩ : Entry) = e
 rw [Int.one_mul]
structure TinV (n : Nat) (b : List Entry) : Prop where
 v : Am b = true
 s : Cq b ≤ n
theorem Tiny.tv {w : Nat} (h : Tiny n w b) : TinV n b := ⟨h.v, h.s⟩
theorem TinV.cl (h : TinV n b) : ∀ e ∈ b, AE e.row := fun e he => Bu ((AP h.v).2 e he).1
theorem TinV.len9 (h : TinV n b) : b.length ≤ n :=
 LX (LQ (BH h.v).nz) h.s
theorem Tiny.len9 {w : Nat} (h : Tiny n w b) : b.length ≤ n := h.tv.len9
end Go.Proofs.YtmpgmjlanngkfaaGreat
end
section
namespace Go.Abs
open Go.RowKit
section
variable {P : Program} {T : TypeId → Option TI} {t : TypeId} {i : TI} {xs : List Dat}
theorem XG (hT : AL P T) (ht : T t = some i) : P.bytesOf t = i.bytes := by
 obtain ⟨f, z, h1, _, h3, _⟩ := (hT t i ht).info
 simp [Program.bytesOf, h1, h3]
def gM (z : Int) : Prop := -9223372036854775808 ≤ z ∧ z ≤ 9223372036854775807
theorem cS (hT : AL P T) (ht : T t = some i) (hi : i.desc = .int .i64) (h : dN P t xs) : ∃ z, xs = [.lit (.int .i64 z)] ∧ gM z := by
 have hu := (hT t i ht).desc
 rw [hi] at hu
 obtain ⟨n, h⟩ := h
 cases n with
 | zero => exact h.elim
 | succ n =>
   simp only [U8, show P.underlying t = some (.int .i64) from hu] at h
   obtain ⟨z, h1, h2⟩ := h
   refine ⟨z, h1, ?_⟩
   simpa [Lit.wf, IntKind.min, IntKind.max, IntKind.signed, IntKind.bits, gM] using h2
theorem XH (hT : AL P T) {e : TypeId} {ei : TI} (ht : T t = some i) (hi : i.desc = .slice e) (he : T e = some ei) (h : dN P t xs) : ∃ es, xs = [.sl es] ∧ es.length * ei.bytes ≤ reachBytes ∧ ∀ el ∈ es, dN P e el := by
 have hu := (hT t i ht).desc
 rw [hi] at hu
 obtain ⟨n, h⟩ := h
 cases n with
 | zero => exact h.elim
 | succ n =>
   simp only [U8, show P.underlying t = some (.slice e) from hu] at h
   obtain ⟨es, h1, h2, h3⟩ := h
   rw [XG hT he] at h2
   exact ⟨es, h1, h2, fun el jo => ⟨n, h3 el jo⟩⟩
theorem Nk {α : Type} {f : α → List Dat} {Q : α → Prop} : ∀ (es : List (List Dat)), (∀ el ∈ es, ∃ a, el = f a ∧ Q a) → ∃ l : List α, es = l.map f ∧ ∀ a ∈ l, Q a
 | [], _ => ⟨[], rfl, by simp⟩
 | e :: es, h => by
   obtain ⟨a, rfl, ha⟩ := h e (by simp)
   obtain ⟨l, rfl, hl⟩ := Nk es (fun el jo => h el (by simp [jo]))
   exact ⟨a :: l, rfl, fun b hb => by rcases FL.1 hb with rfl | hb; exact ha; exact hl b hb⟩
end
end Go.Abs
end
section
namespace Go.Proofs.YtmpgmjlanngkfaaGreat
open Go.Abs Go.RowKit
theorem Zt {xs : List Dat} (h : dN Tryz.prog 22 xs) : ∃ r : List Int, xs = [Ds r] ∧ r.length ≤ 17592186044416 := by
 obtain ⟨es, rfl, h1, h2⟩ := XH hT rfl rfl rfl h
 obtain ⟨l, rfl, hl⟩ := Nk (f := iD) (Q := gM) es (fun el jo => cS hT rfl rfl (h2 el jo))
 refine ⟨l, rfl, ?_⟩
 rw [BR] at h1
 have h2 : l.length * 8 ≤ 140737488351232 := h1
 omega
end Go.Proofs.YtmpgmjlanngkfaaGreat
end
section
namespace Go.Proofs.YtmpgmjlanngkfaaGreat
open Go.Abs Go.RowKit
attribute [local irreducible] ARun Av MCall PCall HCall Ap SF CF CFs Ag Ai As fin AY VLe
set_option linter.unusedSimpArgs false
set_option maxRecDepth 100000
set_option maxHeartbeats 4000000
abbrev Bs := List UInt8
structure Lev where
 code : Bs
 opened : List Bs
def Lev.d (l : Lev) : List Dat := [Dq l.code, .sl (l.opened.map fun c => [Dq c])]
def Hv (x : Bs × Int) : List Dat := [Dq x.1, .lit (.int .i64 x.2)]
def Lh (x : Bs × Int) : Value × Dat := (.string ⟨x.1.toArray⟩, .lit (.int .i64 x.2))
def Li (c : Bs) : List (Bs × Int) → Int
 | [] => 0
 | e :: l => if e.1 = c then e.2 else Li c l
def RI (c : Bs) : List (Bs × Int) → Bool
 | [] => false
 | e :: l => if e.1 = c then true else RI c l
def RJ (c : Bs) (v : Int) : List (Bs × Int) → List (Bs × Int)
 | [] => [(c, v)]
 | e :: l => if e.1 = c then (c, v) :: l else e :: RJ c v l
def P7 (c : Bs) : List (Bs × Int) → List (Bs × Int)
 | [] => []
 | e :: l => if e.1 = c then l else e :: P7 c l
theorem Lj {a b : Bs} (h : Value.string ⟨a.toArray⟩ = Value.string ⟨b.toArray⟩) : a = b := by
 injection h with h; injection h with h
 simpa using congrArg Array.toList h
theorem AS (l : List (Bs × Int)) : ∀ e ∈ l.map Lh, JW e.1 := fun e he => by
 obtain ⟨x, _, rfl⟩ := List.mem_map.1 he
 exact ⟨_, rfl⟩
theorem Cd (c : Bs) : ∀ l : List (Bs × Int), (∃ i v, l[i]? = some (c, v) ∧ Li c l = v ∧ RI c l = true ∧ P7 c l = l.eraseIdx i ∧ ∀ w, RJ c w l = l.set i (c, w)) ∨
   ((∀ e ∈ l, e.1 ≠ c) ∧ Li c l = 0 ∧ RI c l = false ∧ P7 c l = l ∧ ∀ w, RJ c w l = l ++ [(c, w)])
 | [] => .inr ⟨by simp, rfl, rfl, rfl, fun _ => rfl⟩
 | e :: l => by
   by_cases h : e.1 = c
   · exact .inl ⟨0, e.2, by rw [← h]; rfl, by simp [Li, h], by simp [RI, h], by simp [P7, h], fun w => by simp [RJ, h]⟩
   · rcases Cd c l with ⟨i, v, h1, h2, h3, h4, h5⟩ | ⟨h1, h2, h3, h4, h5⟩
     ·exact .inl ⟨i + 1, v, by simpa using h1, by simp [Li, h, h2], by simp [RI, h, h3], by simp [P7, h, h4], fun w => by simp [RJ, h, h5]⟩
     ·refine .inr ⟨fun x hx => ?_, by simp [Li, h, h2], by simp [RI, h, h3], by simp [P7, h, h4], fun w => by simp [RJ, h, h5]⟩
      rcases FL.1 hx with rfl | hx
      ·exact h
      ·exact h1 x hx
theorem BA {l : List (Bs × Int)} {i : Nat} {c : Bs} {v : Int} (h : l[i]? = some (c, v)) : (l.map Lh)[i]? = some (.string ⟨c.toArray⟩, .lit (.int .i64 v)) := by rw [BU, h]; rfl
theorem Er {l : List (Bs × Int)} {c : Bs} (h : ∀ e ∈ l, e.1 ≠ c) : ∀ e ∈ l.map Lh, e.1 ≠ Value.string ⟨c.toArray⟩ := fun e he q => by
 obtain ⟨x, hx, rfl⟩ := List.mem_map.1 he
 exact h x hx (Lj q)
theorem YT (l : List (Bs × Int)) (i : Nat) (c : Bs) (v : Int) : (l.map Lh).set i (.string ⟨c.toArray⟩, .lit (.int .i64 v)) = (l.set i (c, v)).map Lh := by rw [Sb]; rfl
theorem E7 (l : List (Bs × Int)) (i : Nat) : (l.map Lh).eraseIdx i = (l.eraseIdx i).map Lh := by
 induction l generalizing i with
 | nil => rfl
 | cons e l ih => cases i with
   | zero => rfl
   | succ i => simp [ih]
theorem WW (l : List (Bs × Int)) (c : Bs) (v : Int) : l.map Lh ++ [(.string ⟨c.toArray⟩, .lit (.int .i64 v))] = (l ++ [(c, v)]).map Lh := by rw [Ag']; rfl
def B7 (c : Bs) (s r : List (Bs × Int)) : List (Bs × Int) := if Li c s = 0 then r else r ++ [(c, Li c s)]
def closeLev : List Bs → List (Bs × Int) → List (Bs × Int) → Option (List (Bs × Int) × List (Bs × Int))
 | [], s, r => some (s, r)
 | c :: cs, s, r => if 4096 < (B7 c s r).length then none else closeLev cs (P7 c s) (B7 c s r)
def closeE (code : Bs) : List Lev → List (Bs × Int) → List (Bs × Int) → Option (List Lev × List (Bs × Int) × List (Bs × Int))
 | [], s, r => some ([], s, r)
 | l :: st, s, r =>
   if code ≠ [] ∧ l.code.isPrefixOf code = true then some (l :: st, s, r)
   else match closeLev l.opened s r with
    | none => none
    | some (s', r') => closeE code st s' r'
theorem Et : ∀ {cs : List Bs} {s r s' r' : List (Bs × Int)}, closeLev cs s r = some (s', r') → r.length ≤ 4096 → r'.length ≤ 4096
 | [], s, r, s', r', h, hr => by simp [closeLev] at h; rw [← h.2]; exact hr
 | c :: cs, s, r, s', r', h, hr => by
   rw [closeLev] at h
   split at h
   ·cases h
   ·exact Et h (by omega)
def jm (st : List Lev) (s r : List (Bs × Int)) : List Blk := [.box 0 [.arr 1 0 st.length, .mp 2 0, .arr 3 0 r.length], .arr 0 232 2 (st.map Lev.d), .mapb 0 9 2 (s.map Lh), .arr 0 200 2 (r.map Hv)]
def gu (st : List Lev) (s r : List (Bs × Int)) : List Blk := [.box 0 [.arr 1 1 st.length, .mp 2 0, .arr 3 1 r.length], .arr 1 232 2 (st.map Lev.d), .mapb 0 9 2 (s.map Lh), .arr 1 200 2 (r.map Hv)]
theorem F4 (a : Bs) : ((⟨a.toArray⟩ : ByteArray).toList == ({ data := #[] } : ByteArray).toList) = decide (a = []) := by
 rw [ByteArray.toList_eq, ByteArray.toList_eq]
 cases a <;> simp
theorem E8 {α : Type} (l : List α) : l = [] ∨ ∃ a b, l = a ++ [b] := by
 rcases List.eq_nil_or_concat l with h | ⟨a, b, h⟩
 ·exact .inl h
 ·exact .inr ⟨a, b, by rw [h, List.concat_eq_append]⟩
theorem IM {α : Type} (l : List α) (x : α) {n : Nat} (h : n = l.length) : (l ++ [x])[n]? = some x := by subst h; simp
theorem Uk (st : List Lev) (s r : List (Bs × Int)) (h : closeE [] st.reverse s r = none) (kp : st.length ≤ 100000) (kS : ∀ l ∈ st, l.opened.length ≤ 100000) (hr : r.length ≤ 4096) :
  HC 195 [.c (.bp 0 0 0), .c (.d (Dq []))] (jm st s r) (.c (.d (.lit (.bool false)))) [.dead, .dead, .dead, .dead] := by
 have oA : ((⟨([] : Bs).toArray⟩ : ByteArray).toList == ({ data := #[] } : ByteArray).toList) = true := by rw [F4]; simp
 refine Au hT Tryz.func195 Tryz.ntmps195 [.tmp 4] fun B => ?_
 repeat' first | refine kz ?_ | refine Ao ?_ | refine kf ?_ | refine kg ?_ ?_ | exact k0 | refine Ab ?_ | refine m1 ?_ ?_ | refine AJ ?_
 refine AK (X := List Lev × List (Bs × Int) × List (Bs × Int) × List (List Dat) × Nat × Nat) ([4, 5] ++ List.range' 7 81) (fun x => closeE [] x.1.reverse x.2.1 x.2.2.1 = none ∧ x.1.length ≤ 100000 ∧ (∀ l ∈ x.1, l.opened.length ≤ 100000) ∧ x.2.2.1.length ≤ 4096) (fun x lz => lz) (fun x => [.box 0 [.arr 1 x.2.2.2.2.1 x.1.length, .mp 2 0, .arr 3 x.2.2.2.2.2 x.2.2.1.length], .arr x.2.2.2.2.1 232 2 (x.1.map Lev.d ++ x.2.2.2.1), .mapb 0 9 2 (x.2.1.map Lh), .arr x.2.2.2.2.2 200 2 (x.2.2.1.map Hv)]) (fun x => x.1.length) ((st, s, r, [], 0, 0)) ?_ ?_ ?_ ?_
 repeat' first | exact k0 | refine kw ?_ | refine kv ?_ ?_ | omega
 ·simp
 ·exact ⟨h, kp, kS, hr⟩
 rintro ⟨st1, s1, r1, tl, k1, k3⟩ c ⟨hinv, lv, kc, mM⟩
 dsimp only at hinv lv kc mM ⊢
 refine Tb 1 st1.length ?_ (show (st1.map Lev.d ++ tl).take st1.length = st1.map Lev.d by rw [gb (by simp)]; exact JF (by simp))
 rcases E8 st1 with rfl | ⟨st2, l, rfl⟩
 ·simp only [List.reverse_nil, closeE] at hinv
  cases hinv
 ·have mh : st2.length + 1 ≤ 100000 := by simpa using lv
  have hlen : (st2 ++ [l]).length = st2.length + 1 := by simp
  have he : ((st2 ++ [l]).map Lev.d)[(((st2 ++ [l]).length : Int) - 1).toNat]? = some l.d := by
   rw [hlen, show (((st2.length + 1 : Nat) : Int) - 1).toNat = st2.length by omega, Ag']; exact IM _ _ (by simp)
  have nQ : ∀ l ∈ st2, l.opened.length ≤ 100000 := fun l hl => kc l (by simp [hl])
  have lr := kc l (by simp)
  rw [gl, gg, dR, closeE] at hinv
  rw [if_neg (by simp)] at hinv
  generalize jz : closeLev l.opened s1 r1 = q at hinv
  repeat' first | (exfalso; rw [oA] at hb; cases hb; done) | refine EO (m' := st2.length) ?_ (iZ := by omega) | refine kz ?_ | refine AF he ?_ | refine Ao ?_ | refine EW ?_ | refine AO Ad ?_ ?_ | exact k0 | refine Ab ?_ | refine m1 ?_ ?_ | refine AJ ?_
  refine AK (X := Nat × List (Bs × Int) × List (Bs × Int) × Nat) ([4, 7, 8] ++ List.range' 52 36) (fun x => closeLev (l.opened.drop x.1) x.2.1 x.2.2.1 = q ∧ x.1 ≤ l.opened.length ∧ x.2.2.1.length ≤ 4096) (fun x lz => (52, (iC x.1)) :: lz) (fun x => [.box 0 [.arr 1 k1 st2.length, .mp 2 0, .arr 3 x.2.2.2 x.2.2.1.length], .arr k1 232 2 ((st2 ++ [l]).map Lev.d), .mapb 0 9 2 (x.2.1.map Lh), .arr x.2.2.2 200 2 (x.2.2.1.map Hv)]) (fun x => l.opened.length - x.1) ((0, s1, r1, k3)) ?_ ?_ ?_ ?_
  repeat' first | exact k0 | refine kw ?_ | refine kv ?_ ?_ | omega
  ·exact ⟨by simpa using jz, by simp, mM⟩
  rintro ⟨i, s3, r3, k4⟩ c4 ⟨jb, jG, mV⟩
  dsimp only at jb jG mV ⊢
  by_cases i7 : i < l.opened.length
  ·obtain ⟨cc, hv⟩ := gx i7
   rw [AB hv, closeLev] at jb
   rcases Cd cc s3 with ⟨i0, v, g1, g2, _, g4, _⟩ | ⟨g1, g2, _, g4, _⟩
   ·rw [g4] at jb
    by_cases hz : v = 0
    ·have hn : B7 cc s3 r3 = r3 := by rw [B7, g2, if_pos hz]
     rw [hn, if_neg (by omega)] at jb
     repeat' first | refine kz ?_ | refine AF hv ?_ | refine Ao ?_ | refine CZ (BA g1) ⟨_, rfl⟩ (AS _) ?_ | refine Cx (BA g1) ⟨_, rfl⟩ (AS _) ?_ | refine kf ?_ | refine kg ?_ ?_ | exact k0 | refine Ab ?_ | refine m1 ?_ ?_ | refine AJ ?_
     rw [E7]
     generalize s3.eraseIdx i0 = s4 at jb ⊢
     apply Af ((i + 1, s4, r3, k4)) <;> (try dsimp only) <;> try repeat' first | exact k0 | refine kw ?_ | refine kv ?_ ?_ | omega
     exact ⟨jb, by omega, mV⟩
    ·have hn : B7 cc s3 r3 = r3 ++ [(cc, v)] := by rw [B7, g2, if_neg hz]
     rw [hn] at jb
     have rP : (r3 ++ [(cc, v)]).length = r3.length + 1 := by simp
     have qo : r3.length + [[Dq cc, Dat.lit (Value.int .i64 v)]].length = (r3 ++ [(cc, v)]).length := by simp
     have oH : r3.map Hv ++ [[Dq cc, Dat.lit (Value.int .i64 v)]] = (r3 ++ [(cc, v)]).map Hv := by rw [Ag']; rfl
     by_cases kD : 4096 < (r3 ++ [(cc, v)]).length
     ·repeat' first | refine kz ?_ | refine AF hv ?_ | refine Ao ?_ | refine CZ (BA g1) ⟨_, rfl⟩ (AS _) ?_ | refine Cx (BA g1) ⟨_, rfl⟩ (AS _) ?_ | refine kf ?_ | refine kg ?_ ?_ | exact k0 | refine Ab ?_ | refine m1 ?_ ?_ | refine AJ ?_
     rw [if_neg kD] at jb
     repeat' first | refine kz ?_ | refine AF hv ?_ | refine Ao ?_ | refine CZ (BA g1) ⟨_, rfl⟩ (AS _) ?_ | refine Cx (BA g1) ⟨_, rfl⟩ (AS _) ?_ | refine kf ?_ | refine kg ?_ ?_ | exact k0 | refine Ab ?_ | refine m1 ?_ ?_ | refine AJ ?_
     rw [E7, oH, qo]
     generalize s3.eraseIdx i0 = s4 at jb ⊢
     generalize r3 ++ [(cc, v)] = r4 at jb rP kD ⊢
     apply Af ((i + 1, s4, r4, c4 + 1)) <;> (try dsimp only) <;> try repeat' first | exact k0 | refine kw ?_ | refine kv ?_ ?_ | omega
     exact ⟨jb, by omega, by omega⟩
   ·rw [g4] at jb
    have hn : B7 cc s3 r3 = r3 := by rw [B7, g2, if_pos rfl]
    rw [hn, if_neg (by omega)] at jb
    repeat' first | refine kz ?_ | refine AF hv ?_ | refine Ao ?_ | refine G4 (Er g1) ⟨_, rfl⟩ (AS _) ?_ | refine F6 (Er g1) ⟨_, rfl⟩ (AS _) ?_ | refine kf ?_ | refine kg ?_ ?_ | exact k0 | refine Ab ?_ | refine m1 ?_ ?_ | refine AJ ?_
    apply Af ((i + 1, s3, r3, k4)) <;> (try dsimp only) <;> try repeat' first | exact k0 | refine kw ?_ | refine kv ?_ ?_ | omega
    exact ⟨jb, by omega, mV⟩
  ·have k8 : i = l.opened.length := by omega
   subst k8
   rw [aX, closeLev] at jb
   subst jb
   dsimp only at hinv
   repeat' first | refine kz ?_ | refine Ao ?_ | refine kf ?_ | refine kg ?_ ?_ | exact k0 | refine Ab ?_ | refine m1 ?_ ?_ | refine AJ ?_
   apply Af ((st2, s3, r3, [l.d], k1, k4)) <;> (try dsimp only) <;> try repeat' first | exact k0 | refine kw ?_ | refine kv ?_ ?_ | omega
   ·rw [Ag']; rfl
   ·exact ⟨hinv, by omega, nQ, mV⟩
theorem Uj (st : List Lev) (s r : List (Bs × Int)) (jK : List Lev) (s' r' : List (Bs × Int)) (h : closeE [] st.reverse s r = some (jK.reverse, s', r')) (kp : st.length ≤ 100000) (kS : ∀ l ∈ st, l.opened.length ≤ 100000) (hr : r.length ≤ 4096) :
  HC 195 [.c (.bp 0 0 0), .c (.d (Dq []))] (jm st s r) (.c (.d (.lit (.bool true)))) (gu jK s' r') := by
 have oA : ((⟨([] : Bs).toArray⟩ : ByteArray).toList == ({ data := #[] } : ByteArray).toList) = true := by rw [F4]; simp
 refine Au hT Tryz.func195 Tryz.ntmps195 [.tmp 4] fun B => ?_
 repeat' first | refine kz ?_ | refine Ao ?_ | refine kf ?_ | refine kg ?_ ?_ | exact k0 | refine Ab ?_ | refine m1 ?_ ?_
 refine AK (X := List Lev × List (Bs × Int) × List (Bs × Int) × List (List Dat) × Nat × Nat) ([4, 5] ++ List.range' 7 81) (fun x => closeE [] x.1.reverse x.2.1 x.2.2.1 = some (jK.reverse, s', r') ∧ x.1.length ≤ 100000 ∧ (∀ l ∈ x.1, l.opened.length ≤ 100000) ∧ x.2.2.1.length ≤ 4096) (fun x lz => lz) (fun x => [.box 0 [.arr 1 x.2.2.2.2.1 x.1.length, .mp 2 0, .arr 3 x.2.2.2.2.2 x.2.2.1.length], .arr x.2.2.2.2.1 232 2 (x.1.map Lev.d ++ x.2.2.2.1), .mapb 0 9 2 (x.2.1.map Lh), .arr x.2.2.2.2.2 200 2 (x.2.2.1.map Hv)]) (fun x => x.1.length) ((st, s, r, [], 0, 0)) ?_ ?_ ?_ ?_
 repeat' first | exact k0 | refine kw ?_ | refine kv ?_ ?_ | omega
 ·simp
 ·exact ⟨h, kp, kS, hr⟩
 rintro ⟨st1, s1, r1, tl, k1, k3⟩ c ⟨hinv, lv, kc, mM⟩
 dsimp only at hinv lv kc mM ⊢
 refine Tb 1 st1.length ?_ (show (st1.map Lev.d ++ tl).take st1.length = st1.map Lev.d by rw [gb (by simp)]; exact JF (by simp))
 rcases E8 st1 with rfl | ⟨st2, l, rfl⟩
 ·simp only [List.reverse_nil, closeE, Option.some.injEq, HK] at hinv
  obtain ⟨h1, rfl, rfl⟩ := hinv
  have h1 : jK = [] := by simpa using h1.symm
  subst h1
  dsimp only [List.length_nil, List.map_nil]
  repeat' first | refine kz ?_ | refine Ao ?_ | refine kf ?_ | refine kg ?_ ?_ | exact k0 | refine Ab ?_ | refine m1 ?_ ?_
 ·have mh : st2.length + 1 ≤ 100000 := by simpa using lv
  have hlen : (st2 ++ [l]).length = st2.length + 1 := by simp
  have he : ((st2 ++ [l]).map Lev.d)[(((st2 ++ [l]).length : Int) - 1).toNat]? = some l.d := by
    rw [hlen, show (((st2.length + 1 : Nat) : Int) - 1).toNat = st2.length by omega, Ag']; exact IM _ _ (by simp)
  have nQ : ∀ l ∈ st2, l.opened.length ≤ 100000 := fun l hl => kc l (by simp [hl])
  have lr := kc l (by simp)
  rw [gl, gg, dR, closeE] at hinv
  rw [if_neg (by simp)] at hinv
  cases jz : closeLev l.opened s1 r1 with
  | none =>
    rw [jz] at hinv; cases hinv
  | some q =>
    obtain ⟨s2, r2⟩ := q
    rw [jz] at hinv
    have pL := Et jz mM
    repeat' first | (exfalso; rw [oA] at hb; cases hb; done) | refine EO (m' := st2.length) ?_ (iZ := by omega) | refine kz ?_ | refine AF he ?_ | refine Ao ?_ | refine EW ?_ | refine AO Ad ?_ ?_ | exact k0 | refine Ab ?_ | refine m1 ?_ ?_
    refine AK (X := Nat × List (Bs × Int) × List (Bs × Int) × Nat) ([4, 7, 8] ++ List.range' 52 36) (fun x => closeLev (l.opened.drop x.1) x.2.1 x.2.2.1 = some (s2, r2) ∧ x.1 ≤ l.opened.length ∧ x.2.2.1.length ≤ 4096) (fun x lz => (52, (iC x.1)) :: lz) (fun x => [.box 0 [.arr 1 k1 st2.length, .mp 2 0, .arr 3 x.2.2.2 x.2.2.1.length], .arr k1 232 2 ((st2 ++ [l]).map Lev.d), .mapb 0 9 2 (x.2.1.map Lh), .arr x.2.2.2 200 2 (x.2.2.1.map Hv)]) (fun x => l.opened.length - x.1) ((0, s1, r1, k3)) ?_ ?_ ?_ ?_
    repeat' first | exact k0 | refine kw ?_ | refine kv ?_ ?_ | omega
    ·exact ⟨by simpa using jz, by simp, mM⟩
    rintro ⟨i, s3, r3, k4⟩ c4 ⟨jb, jG, mV⟩
    dsimp only at jb jG mV ⊢
    by_cases i7 : i < l.opened.length
    ·obtain ⟨cc, hv⟩ := gx i7
     rw [AB hv, closeLev] at jb
     rcases Cd cc s3 with ⟨i0, v, g1, g2, _, g4, _⟩ | ⟨g1, g2, _, g4, _⟩
     ·rw [g4] at jb
      by_cases hz : v = 0
      ·have hn : B7 cc s3 r3 = r3 := by rw [B7, g2, if_pos hz]
       rw [hn, if_neg (by omega)] at jb
       repeat' first | refine kz ?_ | refine AF hv ?_ | refine Ao ?_ | refine CZ (BA g1) ⟨_, rfl⟩ (AS _) ?_ | refine Cx (BA g1) ⟨_, rfl⟩ (AS _) ?_ | refine kf ?_ | refine kg ?_ ?_ | exact k0 | refine Ab ?_ | refine m1 ?_ ?_
       rw [E7]
       generalize s3.eraseIdx i0 = s4 at jb ⊢
       apply Af ((i + 1, s4, r3, k4)) <;> (try dsimp only) <;> try repeat' first | exact k0 | refine kw ?_ | refine kv ?_ ?_ | omega
       exact ⟨jb, by omega, mV⟩
      ·have hn : B7 cc s3 r3 = r3 ++ [(cc, v)] := by rw [B7, g2, if_neg hz]
       rw [hn] at jb
       have rP : (r3 ++ [(cc, v)]).length = r3.length + 1 := by simp
       have qo : r3.length + [[Dq cc, Dat.lit (Value.int .i64 v)]].length = (r3 ++ [(cc, v)]).length := by simp
       have oH : r3.map Hv ++ [[Dq cc, Dat.lit (Value.int .i64 v)]] = (r3 ++ [(cc, v)]).map Hv := by rw [Ag']; rfl
       have kD : ¬ 4096 < (r3 ++ [(cc, v)]).length := fun q => by rw [if_pos q] at jb; cases jb
       rw [if_neg kD] at jb
       repeat' first | refine kz ?_ | refine AF hv ?_ | refine Ao ?_ | refine CZ (BA g1) ⟨_, rfl⟩ (AS _) ?_ | refine Cx (BA g1) ⟨_, rfl⟩ (AS _) ?_ | refine kf ?_ | refine kg ?_ ?_ | exact k0 | refine Ab ?_ | refine m1 ?_ ?_
       rw [E7, oH, qo]
       generalize s3.eraseIdx i0 = s4 at jb ⊢
       generalize r3 ++ [(cc, v)] = r4 at jb rP kD ⊢
       apply Af ((i + 1, s4, r4, c4 + 1)) <;> (try dsimp only) <;> try repeat' first | exact k0 | refine kw ?_ | refine kv ?_ ?_ | omega
       exact ⟨jb, by omega, by omega⟩
     ·rw [g4] at jb
      have hn : B7 cc s3 r3 = r3 := by rw [B7, g2, if_pos rfl]
      rw [hn, if_neg (by omega)] at jb
      repeat' first | refine kz ?_ | refine AF hv ?_ | refine Ao ?_ | refine G4 (Er g1) ⟨_, rfl⟩ (AS _) ?_ | refine F6 (Er g1) ⟨_, rfl⟩ (AS _) ?_ | refine kf ?_ | refine kg ?_ ?_ | exact k0 | refine Ab ?_ | refine m1 ?_ ?_
      apply Af ((i + 1, s3, r3, k4)) <;> (try dsimp only) <;> try repeat' first | exact k0 | refine kw ?_ | refine kv ?_ ?_ | omega
      exact ⟨jb, by omega, mV⟩
    ·have k8 : i = l.opened.length := by omega
     subst k8
     rw [aX, closeLev] at jb
     simp only [Option.some.injEq, HK] at jb
     obtain ⟨rfl, rfl⟩ := jb
     repeat' first | refine kz ?_ | refine Ao ?_ | refine kf ?_ | refine kg ?_ ?_ | exact k0 | refine Ab ?_ | refine m1 ?_ ?_
     apply Af ((st2, s3, r3, [l.d], k1, k4)) <;> (try dsimp only) <;> try repeat' first | exact k0 | refine kw ?_ | refine kv ?_ ?_ | omega
     ·rw [Ag']; rfl
     ·exact ⟨hinv, by omega, nQ, mV⟩
theorem WU (code : Bs) (hc : code ≠ []) (st : List Lev) (s r : List (Bs × Int)) (h : closeE code st.reverse s r = none) (kp : st.length ≤ 100000) (kS : ∀ l ∈ st, l.opened.length ≤ 100000) (hr : r.length ≤ 4096) :
  HC 195 [.c (.bp 0 0 0), .c (.d (Dq code))] (jm st s r) (.c (.d (.lit (.bool false)))) [.dead, .dead, .dead, .dead] := by
 have oA : ((⟨(code : Bs).toArray⟩ : ByteArray).toList == ({ data := #[] } : ByteArray).toList) = false := by rw [F4]; simp [hc]
 refine Au hT Tryz.func195 Tryz.ntmps195 [.tmp 4] fun B => ?_
 repeat' first | refine kz ?_ | refine Ao ?_ | refine Al rfl rfl (fun hb => ?_) (fun hb => ?_) | refine kg ?_ ?_ | exact k0 | refine Ab ?_ | refine m1 ?_ ?_ | refine AJ ?_
 refine AK (X := List Lev × List (Bs × Int) × List (Bs × Int) × List (List Dat) × Nat × Nat) ([4, 5] ++ List.range' 7 81) (fun x => closeE code x.1.reverse x.2.1 x.2.2.1 = none ∧ x.1.length ≤ 100000 ∧ (∀ l ∈ x.1, l.opened.length ≤ 100000) ∧ x.2.2.1.length ≤ 4096) (fun x lz => lz) (fun x => [.box 0 [.arr 1 x.2.2.2.2.1 x.1.length, .mp 2 0, .arr 3 x.2.2.2.2.2 x.2.2.1.length], .arr x.2.2.2.2.1 232 2 (x.1.map Lev.d ++ x.2.2.2.1), .mapb 0 9 2 (x.2.1.map Lh), .arr x.2.2.2.2.2 200 2 (x.2.2.1.map Hv)]) (fun x => x.1.length) ((st, s, r, [], 0, 0)) ?_ ?_ ?_ ?_
 repeat' first | exact k0 | refine kw ?_ | refine kv ?_ ?_ | omega
 ·simp
 ·exact ⟨h, kp, kS, hr⟩
 rintro ⟨st1, s1, r1, tl, k1, k3⟩ c ⟨hinv, lv, kc, mM⟩
 dsimp only at hinv lv kc mM ⊢
 refine Tb 1 st1.length ?_ (show (st1.map Lev.d ++ tl).take st1.length = st1.map Lev.d by rw [gb (by simp)]; exact JF (by simp))
 rcases E8 st1 with rfl | ⟨st2, l, rfl⟩
 ·simp only [List.reverse_nil, closeE] at hinv
  cases hinv
 ·have mh : st2.length + 1 ≤ 100000 := by simpa using lv
  have hlen : (st2 ++ [l]).length = st2.length + 1 := by simp
  have he : ((st2 ++ [l]).map Lev.d)[(((st2 ++ [l]).length : Int) - 1).toNat]? = some l.d := by
   rw [hlen, show (((st2.length + 1 : Nat) : Int) - 1).toNat = st2.length by omega, Ag']; exact IM _ _ (by simp)
  have nQ : ∀ l ∈ st2, l.opened.length ≤ 100000 := fun l hl => kc l (by simp [hl])
  have lr := kc l (by simp)
  rw [gl, gg, dR, closeE] at hinv
  have hp := OW ⟨code.toArray⟩ ⟨l.code.toArray⟩
  rw [JN] at hp
  by_cases lD : l.code.isPrefixOf code = true
  ·rw [if_pos ⟨hc, lD⟩] at hinv
   cases hinv
  ·rw [if_neg (fun q => lD q.2)] at hinv
   have lD : l.code.isPrefixOf code = false := dZ.2 lD
   rw [lD] at hp
   generalize jz : closeLev l.opened s1 r1 = q at hinv
   repeat' first | (exfalso; rw [oA] at hb; cases hb; done) | refine EO (m' := st2.length) ?_ (iZ := by omega) | refine kz ?_ | refine AF he ?_ | refine Ao ?_ | refine Aa (hp) ?_ | refine Al rfl rfl (fun hb => ?_) (fun hb => ?_) | refine AO Ad ?_ ?_ | exact k0 | refine Ab ?_ | refine m1 ?_ ?_ | refine AJ ?_
   refine AK (X := Nat × List (Bs × Int) × List (Bs × Int) × Nat) ([4, 7, 8] ++ List.range' 52 36) (fun x => closeLev (l.opened.drop x.1) x.2.1 x.2.2.1 = q ∧ x.1 ≤ l.opened.length ∧ x.2.2.1.length ≤ 4096) (fun x lz => (52, (iC x.1)) :: lz) (fun x => [.box 0 [.arr 1 k1 st2.length, .mp 2 0, .arr 3 x.2.2.2 x.2.2.1.length], .arr k1 232 2 ((st2 ++ [l]).map Lev.d), .mapb 0 9 2 (x.2.1.map Lh), .arr x.2.2.2 200 2 (x.2.2.1.map Hv)]) (fun x => l.opened.length - x.1) ((0, s1, r1, k3)) ?_ ?_ ?_ ?_
   repeat' first | exact k0 | refine kw ?_ | refine kv ?_ ?_ | omega
   ·exact ⟨by simpa using jz, by simp, mM⟩
   rintro ⟨i, s3, r3, k4⟩ c4 ⟨jb, jG, mV⟩
   dsimp only at jb jG mV ⊢
   by_cases i7 : i < l.opened.length
   ·obtain ⟨cc, hv⟩ := gx i7
    rw [AB hv, closeLev] at jb
    rcases Cd cc s3 with ⟨i0, v, g1, g2, _, g4, _⟩ | ⟨g1, g2, _, g4, _⟩
    ·rw [g4] at jb
     by_cases hz : v = 0
     ·have hn : B7 cc s3 r3 = r3 := by rw [B7, g2, if_pos hz]
      rw [hn, if_neg (by omega)] at jb
      repeat' first | refine kz ?_ | refine AF hv ?_ | refine Ao ?_ | refine CZ (BA g1) ⟨_, rfl⟩ (AS _) ?_ | refine Cx (BA g1) ⟨_, rfl⟩ (AS _) ?_ | refine Al rfl rfl (fun hb => ?_) (fun hb => ?_) | refine kg ?_ ?_ | exact k0 | refine Ab ?_ | refine m1 ?_ ?_ | refine AJ ?_
      rw [E7]
      generalize s3.eraseIdx i0 = s4 at jb ⊢
      apply Af ((i + 1, s4, r3, k4)) <;> (try dsimp only) <;> try repeat' first | exact k0 | refine kw ?_ | refine kv ?_ ?_ | omega
      exact ⟨jb, by omega, mV⟩
     ·have hn : B7 cc s3 r3 = r3 ++ [(cc, v)] := by rw [B7, g2, if_neg hz]
      rw [hn] at jb
      have rP : (r3 ++ [(cc, v)]).length = r3.length + 1 := by simp
      have qo : r3.length + [[Dq cc, Dat.lit (Value.int .i64 v)]].length = (r3 ++ [(cc, v)]).length := by simp
      have oH : r3.map Hv ++ [[Dq cc, Dat.lit (Value.int .i64 v)]] = (r3 ++ [(cc, v)]).map Hv := by rw [Ag']; rfl
      by_cases kD : 4096 < (r3 ++ [(cc, v)]).length
      ·repeat' first | refine kz ?_ | refine AF hv ?_ | refine Ao ?_ | refine CZ (BA g1) ⟨_, rfl⟩ (AS _) ?_ | refine Cx (BA g1) ⟨_, rfl⟩ (AS _) ?_ | refine Al rfl rfl (fun hb => ?_) (fun hb => ?_) | refine kg ?_ ?_ | exact k0 | refine Ab ?_ | refine m1 ?_ ?_ | refine AJ ?_
      rw [if_neg kD] at jb
      repeat' first | refine kz ?_ | refine AF hv ?_ | refine Ao ?_ | refine CZ (BA g1) ⟨_, rfl⟩ (AS _) ?_ | refine Cx (BA g1) ⟨_, rfl⟩ (AS _) ?_ | refine Al rfl rfl (fun hb => ?_) (fun hb => ?_) | refine kg ?_ ?_ | exact k0 | refine Ab ?_ | refine m1 ?_ ?_ | refine AJ ?_
      rw [E7, oH, qo]
      generalize s3.eraseIdx i0 = s4 at jb ⊢
      generalize r3 ++ [(cc, v)] = r4 at jb rP kD ⊢
      apply Af ((i + 1, s4, r4, c4 + 1)) <;> (try dsimp only) <;> try repeat' first | exact k0 | refine kw ?_ | refine kv ?_ ?_ | omega
      exact ⟨jb, by omega, by omega⟩
    ·rw [g4] at jb
     have hn : B7 cc s3 r3 = r3 := by rw [B7, g2, if_pos rfl]
     rw [hn, if_neg (by omega)] at jb
     repeat' first | refine kz ?_ | refine AF hv ?_ | refine Ao ?_ | refine G4 (Er g1) ⟨_, rfl⟩ (AS _) ?_ | refine F6 (Er g1) ⟨_, rfl⟩ (AS _) ?_ | refine Al rfl rfl (fun hb => ?_) (fun hb => ?_) | refine kg ?_ ?_ | exact k0 | refine Ab ?_ | refine m1 ?_ ?_ | refine AJ ?_
     apply Af ((i + 1, s3, r3, k4)) <;> (try dsimp only) <;> try repeat' first | exact k0 | refine kw ?_ | refine kv ?_ ?_ | omega
     exact ⟨jb, by omega, mV⟩
   ·have k8 : i = l.opened.length := by omega
    subst k8
    rw [aX, closeLev] at jb
    subst jb
    dsimp only at hinv
    repeat' first | refine kz ?_ | refine Ao ?_ | refine Al rfl rfl (fun hb => ?_) (fun hb => ?_) | refine kg ?_ ?_ | exact k0 | refine Ab ?_ | refine m1 ?_ ?_ | refine AJ ?_
    apply Af ((st2, s3, r3, [l.d], k1, k4)) <;> (try dsimp only) <;> try repeat' first | exact k0 | refine kw ?_ | refine kv ?_ ?_ | omega
    ·rw [Ag']; rfl
    ·exact ⟨hinv, by omega, nQ, mV⟩
end Go.Proofs.YtmpgmjlanngkfaaGreat
end
