/-
  Algebra: the joiner's sums as a bag.
-/
import Derived.Test.YtmpgmjlanngkfaaGreatExn
import Derived.Test.YtmpgmjlanngkfaaGreatExo
import Derived.Test.YtmpgmjlanngkfaaGreatMpd
import Derived.Test.YtmpgmjlanngkfaaGreatAlc
import Derived.Test.YtmpgmjlanngkfaaGreatMpc
import Derived.Test.YtmpgmjlanngkfaaGreatPos
import Derived.Test.YtmpgmjlanngkfaaGreatNrm
section
namespace Go.Proofs.YtmpgmjlanngkfaaGreat
open Go.Abs Go.RowKit
set_option linter.unusedSimpArgs false
set_option maxRecDepth 100000
variable {A w : Nat}
theorem Rc {f : Entry → Entry} {l : List Entry} {n : Nat} (h : ∀ e ∈ l, (f e).count.natAbs = n * e.count.natAbs) : A9 (l.map f) = n * A9 l := by
 induction l with
 | nil => rfl
 | cons e l ih =>
   rw [List.map_cons, A9, A9, h e (by simp), ih fun x hx => h x (by simp [hx]), Nat.mul_add]
def LW (e : List Trm) (r : List Val) : Bool := decide (e.length = 0) || H0 e r
theorem Tg (e : List Trm) (g : List Val → Int) (l : List Entry) : wS g (l.filter (keepE e)) = wS (fun r => if LW e r then g r else 0) l := by
 induction l with
 | nil => rfl
 | cons x l ih =>
   rw [WQ, wS, ← ih]
   have hk : keepE e x = LW e x.row := rfl
   rw [hk]
   cases LW e x.row <;> simp [wS]
theorem VM {a : List Entry} (ha : Tiny A w a) (e : List Trm) : Tiny A w (BE a e) ∧ ∀ g, wS g (BE a e) = wS (fun r => if LW e r then g r else 0) a := by
 have h : BE a e = a.filter (keepE e) := by rw [BE, ha.v, if_pos rfl]
 rw [h]
 exact ⟨⟨KD _ ha.v, fun x hx => ha.w x (Ms.1 hx).1, LF (FQ _ _) ha.s⟩, fun g => Tg e g a⟩
theorem Th {items : List (List Trm)} (hc : items.length ≤ 8) (e : Entry) : AD (Fl items e).row = true := by
 simp only [AD, Fl, Bi, decide_eq_true_eq, BQ, CN]
 refine ⟨by omega, fun v hv => ?_⟩
 obtain ⟨c, _, rfl⟩ := List.mem_map.1 hv
 exact F1 c e.row
theorem VN (g : List Val → Int) (items : List (List Trm)) (l : List Entry) : wS g (l.map (Fl items)) = wS (fun s => g (items.map fun t => Gc t s)) l := by
 induction l with
 | nil => rfl
 | cons x l ih => rw [List.map_cons, wS, wS, ih]; rfl
theorem ad {b : List Entry} (hb : Tiny A w b) (items : List (List Trm)) (hc : items.length ≤ 8) (hn : A ≤ 4096) : ∃ r, FI b items = (r, 0) ∧ Tiny A items.length r ∧ ∀ g, wS g r = wS (fun s => g (items.map fun t => Gc t s)) b := by
 have hr : ∀ e ∈ b.map (Fl items), AD e.row = true := fun e he => by
  obtain ⟨x, hx, rfl⟩ := List.mem_map.1 he
  exact Th hc x
 have hs : A9 (b.map (Fl items)) ≤ A := by
  rw [Rc (n := 1) fun e _ => by rw [Hw]; rfl, Hw]; exact hb.s
 obtain ⟨t1, t2⟩ := Ht (w := items.length) hr (fun e he => by obtain ⟨x, _, rfl⟩ := List.mem_map.1 he; simp [Fl]) hs hn
 refine ⟨_, ?_, t1, fun g => by rw [Kh _ _ fun e he => A8 (hr e he), VN]⟩
 have hl := (AF t1.v).1
 have hall : (b.map (Fl items)).all AU = true := CN.2 fun e he => by
  have h1 := hr e he
  obtain ⟨x, hx, rfl⟩ := List.mem_map.1 he
  have h2 := ((AF hb.v).2 x hx).2.1
  have h3 : Av x.count = true := by simp only [Av, Bi, decide_eq_true_eq]; exact h2
  rw [AU, h1]; exact h3
 rw [FI, hb.v, decide_eq_true hc, Bool.and_self, if_pos rfl, A4, if_pos hall, AS, if_neg (by omega), if_pos]
 rw [CN]
 intro e he
 have := t2 e he
 simp only [Av, Bi, decide_eq_true_eq]; omega
theorem FB (w : Nat) : Tiny 0 w [] := ⟨rfl, fun e he => (by cases he), Nat.le_refl 0⟩
theorem Ti {a : List Entry} (ha : Tiny A w a) (hn : A ≤ 4096) : Ba 1 a [] = (a, 0) := by
 obtain ⟨s, h1, h2, h3⟩ := Ks ha (FB w) (by omega)
 rw [h1, Hv h2.v ha.v fun g => by rw [h3]; show wS g a + 0 = _; omega]
end Go.Proofs.YtmpgmjlanngkfaaGreat
end
section
namespace Go.Proofs.YtmpgmjlanngkfaaGreat
open Go.Abs Go.RowKit
attribute [local irreducible] ARun Au MCall PCall HCall Ak SF CF CFs Af Ag Ar fin AP VLe
set_option linter.unusedSimpArgs false
set_option maxRecDepth 100000
set_option maxHeartbeats 4000000
abbrev Bs := List UInt8
structure Lev where
 code : Bs
 opened : List Bs
def Lev.d (l : Lev) : List Dat := [CL l.code, .sl (l.opened.map fun c => [CL c])]
def F5 (x : Bs × Int) : List Dat := [CL x.1, .lit (.int .i64 x.2)]
def JR (x : Bs × Int) : Value × Dat := (.string ⟨x.1.toArray⟩, .lit (.int .i64 x.2))
def JT (c : Bs) : List (Bs × Int) → Int
 | [] => 0
 | e :: l => if e.1 = c then e.2 else JT c l
def Pl (c : Bs) : List (Bs × Int) → Bool
 | [] => false
 | e :: l => if e.1 = c then true else Pl c l
def Pm (c : Bs) (v : Int) : List (Bs × Int) → List (Bs × Int)
 | [] => [(c, v)]
 | e :: l => if e.1 = c then (c, v) :: l else e :: Pm c v l
def N2 (c : Bs) : List (Bs × Int) → List (Bs × Int)
 | [] => []
 | e :: l => if e.1 = c then l else e :: N2 c l
theorem JU {a b : Bs} (h : Value.string ⟨a.toArray⟩ = Value.string ⟨b.toArray⟩) : a = b := by
 injection h with h; injection h with h
 simpa using congrArg Array.toList h
theorem AK (l : List (Bs × Int)) : ∀ e ∈ l.map JR, Iz e.1 := fun e he => by
 obtain ⟨x, _, rfl⟩ := List.mem_map.1 he
 exact ⟨_, rfl⟩
theorem BL (c : Bs) : ∀ l : List (Bs × Int), (∃ i v, l[i]? = some (c, v) ∧ JT c l = v ∧ Pl c l = true ∧ N2 c l = l.eraseIdx i ∧ ∀ w, Pm c w l = l.set i (c, w)) ∨
   ((∀ e ∈ l, e.1 ≠ c) ∧ JT c l = 0 ∧ Pl c l = false ∧ N2 c l = l ∧ ∀ w, Pm c w l = l ++ [(c, w)])
 | [] => .inr ⟨by simp, rfl, rfl, rfl, fun _ => rfl⟩
 | e :: l => by
   by_cases h : e.1 = c
   · exact .inl ⟨0, e.2, by rw [← h]; rfl, by simp [JT, h], by simp [Pl, h], by simp [N2, h], fun w => by simp [Pm, h]⟩
   · rcases BL c l with ⟨i, v, h1, h2, h3, h4, h5⟩ | ⟨h1, h2, h3, h4, h5⟩
     ·exact .inl ⟨i + 1, v, by simpa using h1, by simp [JT, h, h2], by simp [Pl, h, h3], by simp [N2, h, h4], fun w => by simp [Pm, h, h5]⟩
     ·refine .inr ⟨fun x hx => ?_, by simp [JT, h, h2], by simp [Pl, h, h3], by simp [N2, h, h4], fun w => by simp [Pm, h, h5]⟩
      rcases Fb.1 hx with rfl | hx
      ·exact h
      ·exact h1 x hx
theorem Be {l : List (Bs × Int)} {i : Nat} {c : Bs} {v : Int} (h : l[i]? = some (c, v)) : (l.map JR)[i]? = some (.string ⟨c.toArray⟩, .lit (.int .i64 v)) := by rw [B2, h]; rfl
theorem Dy {l : List (Bs × Int)} {c : Bs} (h : ∀ e ∈ l, e.1 ≠ c) : ∀ e ∈ l.map JR, e.1 ≠ Value.string ⟨c.toArray⟩ := fun e he q => by
 obtain ⟨x, hx, rfl⟩ := List.mem_map.1 he
 exact h x hx (JU q)
theorem Wh (l : List (Bs × Int)) (i : Nat) (c : Bs) (v : Int) : (l.map JR).set i (.string ⟨c.toArray⟩, .lit (.int .i64 v)) = (l.set i (c, v)).map JR := by rw [U7]; rfl
theorem Ec (l : List (Bs × Int)) (i : Nat) : (l.map JR).eraseIdx i = (l.eraseIdx i).map JR := by
 induction l generalizing i with
 | nil => rfl
 | cons e l ih => cases i with
   | zero => rfl
   | succ i => simp [ih]
theorem Uj (l : List (Bs × Int)) (c : Bs) (v : Int) : l.map JR ++ [(.string ⟨c.toArray⟩, .lit (.int .i64 v))] = (l ++ [(c, v)]).map JR := by rw [Ah']; rfl
def BI (c : Bs) (s r : List (Bs × Int)) : List (Bs × Int) := if JT c s = 0 then r else r ++ [(c, JT c s)]
def closeLev : List Bs → List (Bs × Int) → List (Bs × Int) → Option (List (Bs × Int) × List (Bs × Int))
 | [], s, r => some (s, r)
 | c :: cs, s, r => if 4096 < (BI c s r).length then none else closeLev cs (N2 c s) (BI c s r)
def closeE (code : Bs) : List Lev → List (Bs × Int) → List (Bs × Int) → Option (List Lev × List (Bs × Int) × List (Bs × Int))
 | [], s, r => some ([], s, r)
 | l :: st, s, r =>
   if code ≠ [] ∧ l.code.isPrefixOf code = true then some (l :: st, s, r)
   else match closeLev l.opened s r with
    | none => none
    | some (s', r') => closeE code st s' r'
theorem Dz : ∀ {cs : List Bs} {s r s' r' : List (Bs × Int)}, closeLev cs s r = some (s', r') → r.length ≤ 4096 → r'.length ≤ 4096
 | [], s, r, s', r', h, hr => by simp [closeLev] at h; rw [← h.2]; exact hr
 | c :: cs, s, r, s', r', h, hr => by
   rw [closeLev] at h
   split at h
   ·cases h
   ·exact Dz h (by omega)
def jm (st : List Lev) (s r : List (Bs × Int)) : List Blk := [.box 0 [.arr 1 0 st.length, .mp 2 0, .arr 3 0 r.length], .arr 0 232 2 (st.map Lev.d), .mapb 0 9 2 (s.map JR), .arr 0 200 2 (r.map F5)]
def bY (st : List Lev) (s r : List (Bs × Int)) : List Blk := [.box 0 [.arr 1 1 st.length, .mp 2 0, .arr 3 1 r.length], .arr 1 232 2 (st.map Lev.d), .mapb 0 9 2 (s.map JR), .arr 1 200 2 (r.map F5)]
theorem E2 (a : Bs) : ((⟨a.toArray⟩ : ByteArray).toList == ({ data := #[] } : ByteArray).toList) = decide (a = []) := by
 rw [ByteArray.toList_eq, ByteArray.toList_eq]
 cases a <;> simp
theorem Ed {α : Type} (l : List α) : l = [] ∨ ∃ a b, l = a ++ [b] := by
 rcases List.eq_nil_or_concat l with h | ⟨a, b, h⟩
 ·exact .inl h
 ·exact .inr ⟨a, b, by rw [h, List.concat_eq_append]⟩
theorem He {α : Type} (l : List α) (x : α) {n : Nat} (h : n = l.length) : (l ++ [x])[n]? = some x := by subst h; simp
def BK (e : Entry) : Bs × Int := (Al e.row, e.count)
def YM (e : Entry) : List Dat := [CL (Al e.row), .lit (.int .i64 e.count)]
theorem Qt (rs : List Entry) : (rs.map BK).map F5 = rs.map YM := by rw [Ve]; rfl
theorem Ry (a b : Entry) : PC 233 [.agg a.d, .agg b.d] (.v (.one (.lit (.int .i64 (Dn a b))))) := by
 refine Ac hT Tryz.func233 Tryz.ntmps233 [.tmp 4] fun B => ?_
 repeat' first | refine kz ?_ | refine Aa (Bf _ _) ?_ | refine kf ?_ | fail
 all_goals rfl
theorem Pj (st : List Lev) (s : List (Bs × Int)) (rs : List Entry) (hrl : rs.length ≤ 4096) (hok : ∀ e ∈ rs, AD e.row = true) (hco : rs.all (fun e => Av e.count) = false) :
  HC 196 [.c (.bp 0 0 0)] (jm st s (rs.map BK)) (.tup [.c .emp, .c (.d (.lit (.int .i64 9)))]) [.dead, .dead, .dead, .dead] := by
 refine AI hT Tryz.func196 Tryz.ntmps196 [.tmp 2, .tmp 3] fun B => ?_
 repeat' first | refine kz ?_ | refine kf ?_ | refine Aq rfl rfl (fun hb => ?_) (fun hb => ?_) | refine kg ?_ ?_ | exact k0 | refine Ab ?_ | refine m1 ?_ ?_ | refine AB ?_
 refine Cr 4 56 2 ?_
 refine A0 (X := Nat × Nat) ([2, 3, 4, 6, 7, 8] ++ List.range' 14 29) (fun x => x.1 ≤ rs.length ∧ (rs.take x.1).all (fun e => Av e.count) = true) (fun x lz => (4, .c (.arr 4 x.2 (rs.take x.1).length)) :: (14, (iC x.1)) :: lz) (fun x => [.box 0 [.arr 1 0 st.length, .mp 2 0, .arr 3 0 (rs.map BK).length], .arr 0 232 2 (st.map Lev.d), .mapb 0 9 2 (s.map JR), .arr 0 200 2 (rs.map YM), .arr x.2 56 2 ((rs.take x.1).map Entry.d)]) (fun x => rs.length - x.1) ((0, 1)) ?_ ?_ ?_ ?_
 repeat' first | exact k0 | refine kw ?_ | refine kv ?_ ?_ | omega
 ·exact Qt rs
 ·exact ⟨by simp, by simp⟩
 rintro ⟨i, k⟩ c ⟨hi, hinv⟩
 dsimp only at hi hinv ⊢
 by_cases hlt : i < rs.length
 ·have hv : rs[i]? = some rs[i] := Bh hlt
  have hro := hok _ (Fp hlt)
  generalize rs[i] = e at hv hro
  have hv2 : (rs.map YM)[i]? = some (YM e) := by rw [B2, hv]; rfl
  have hml : (rs.map BK).length = rs.length := by simp
  have htk : rs.take (i + 1) = rs.take i ++ [e] := by rw [IU, hv]; rfl
  have htl : (rs.take i).length = i := by simp; omega
  have hdec := FA _ hro
  by_cases hc : Av e.count = true
  ·have hcb : -262144 ≤ e.count ∧ e.count ≤ 262144 := by simpa [Av] using hc
   repeat' first | refine kz ?_ | refine AX hv2 ?_ | refine Aw ?_ | refine Aa (hdec) ?_ | refine kf ?_ | refine Aq rfl rfl (fun hb => ?_) (fun hb => ?_) | refine kg ?_ ?_ | exact k0 | refine Ab ?_ | refine m1 ?_ ?_ | refine AB ?_
   apply Ad ((i + 1, _)) <;> (try dsimp only) <;> try repeat' first | exact k0 | refine w1 ?_ | refine Ab ?_ | refine m1 ?_ ?_ | refine AB ?_ | omega
   ·rw [htk, Ah']; rfl
   ·exact ⟨by omega, Dg (fun e : Entry => Av e.count) hv hinv hc⟩
  ·have hcb : e.count < -262144 ∨ 262144 < e.count := by simp [Av] at hc; omega
   repeat' first | refine kz ?_ | refine AX hv2 ?_ | refine Aw ?_ | refine Aa (hdec) ?_ | refine kf ?_ | refine Aq rfl rfl (fun hb => ?_) (fun hb => ?_) | refine kg ?_ ?_ | exact k0 | refine Ab ?_ | refine m1 ?_ ?_ | refine AB ?_
 ·rw [Ao (by omega)] at hinv
  rw [hinv] at hco
  cases hco
theorem Pk (st : List Lev) (s : List (Bs × Int)) (rs : List Entry) (hrl : rs.length ≤ 4096) (hok : ∀ e ∈ rs, AD e.row = true) (hco : ∀ e ∈ rs, Av e.count = true) :
  HC 196 [.c (.bp 0 0 0)] (jm st s (rs.map BK)) (.tup [.c (.arr 4 1 rs.length), .c (.d (.lit (.int .i64 0)))]) [.dead, .dead, .dead, .dead, .arr 1 56 2 ((sortF Dn rs).map Entry.d)] := by
 have hS := JZ Entry.d (fun _ => rfl) Dn entCmp_ok.swo 233 rs (by omega) (fun x _ y _ => Ry x y)
 refine AI hT Tryz.func196 Tryz.ntmps196 [.tmp 2, .tmp 3] fun B => ?_
 repeat' first | refine kz ?_ | refine kf ?_ | refine kg ?_ ?_ | exact k0 | refine Ab ?_ | refine m1 ?_ ?_ | refine AB ?_
 refine Cr 4 56 2 ?_
 refine A0 (X := Nat × Nat) ([2, 3, 4, 6, 7, 8] ++ List.range' 14 29) (fun x => x.1 ≤ rs.length) (fun x lz => (4, .c (.arr 4 x.2 (rs.take x.1).length)) :: (14, (iC x.1)) :: lz) (fun x => [.box 0 [.arr 1 0 st.length, .mp 2 0, .arr 3 0 (rs.map BK).length], .arr 0 232 2 (st.map Lev.d), .mapb 0 9 2 (s.map JR), .arr 0 200 2 (rs.map YM), .arr x.2 56 2 ((rs.take x.1).map Entry.d)]) (fun x => rs.length - x.1) ((0, 1)) ?_ ?_ ?_ ?_
 repeat' first | exact k0 | refine kw ?_ | refine kv ?_ ?_ | omega
 ·exact Qt rs
 rintro ⟨i, k⟩ c hi
 dsimp only at hi ⊢
 by_cases hlt : i < rs.length
 ·have hv : rs[i]? = some rs[i] := Bh hlt
  have hro := hok _ (Fp hlt)
  have hc := hco _ (Fp hlt)
  generalize rs[i] = e at hv hro hc
  have hv2 : (rs.map YM)[i]? = some (YM e) := by rw [B2, hv]; rfl
  have hml : (rs.map BK).length = rs.length := by simp
  have htk : rs.take (i + 1) = rs.take i ++ [e] := by rw [IU, hv]; rfl
  have htl : (rs.take i).length = i := by simp; omega
  have hdec := FA _ hro
  have hcb : -262144 ≤ e.count ∧ e.count ≤ 262144 := by simpa [Av] using hc
  repeat' first | refine kz ?_ | refine AX hv2 ?_ | refine Aw ?_ | refine Aa (hdec) ?_ | refine kf ?_ | refine kg ?_ ?_ | exact k0 | refine Ab ?_ | refine m1 ?_ ?_ | refine AB ?_
  apply Ad ((i + 1, _)) <;> (try dsimp only) <;> try repeat' first | exact k0 | refine w1 ?_ | refine Ab ?_ | refine m1 ?_ ?_ | refine AB ?_ | omega
  ·rw [htk, Ah']; rfl
 ·rw [Ao (show rs.length ≤ i by omega)]
  have hml : (rs.map BK).length = rs.length := by simp
  repeat' first | refine kz ?_ | refine Ah [4] (hS) ?_ | refine kf ?_ | refine kg ?_ ?_ | exact k0 | refine Ab ?_ | refine m1 ?_ ?_ | refine AB ?_
end Go.Proofs.YtmpgmjlanngkfaaGreat
end
