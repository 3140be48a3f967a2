/-
  Expressions: the document's operators, put together.
-/
import Derived.Test.YtmpgmjlanngkfaaGreatExi
section
namespace Go.Proofs.YtmpgmjlanngkfaaGreat
open Go.Abs Go.RowKit
attribute [local irreducible] ARun At MCall PCall HCall Am SF CF CFs Ah Aj Ar fin AW VLe
set_option linter.unusedSimpArgs false
set_option maxRecDepth 100000
set_option maxHeartbeats 4000000
def Tp (op a b : Int) : Val := if op = 4 then Val.ofInt (a + b) else if op = 5 then Val.ofInt (a - b) else if op = 6 then Val.ofInt (a * b) else GB a b
theorem LX (op a b : Int) (hop : op = 4 ∨ op = 5 ∨ op = 6 ∨ op = 7) (ha : -4294967296 ≤ a ∧ a ≤ 4294967296) (hb : -4294967296 ≤ b ∧ b ≤ 4294967296) : PCall Tryz.prog 280 [.one (.lit (.int .i64 op)), .one (.lit (.int .i64 a)), .one (.lit (.int .i64 b))] (.v (.agg (Tp op a b).d)) := by
 have h1 := LW a b ha hb
 have h2 := Kj a b ha
 unfold Tp
 rcases hop with rfl | rfl | rfl | rfl
 ·refine Ac hT Tryz.func280 Tryz.ntmps280 [.cell 6 73] fun B => ?_
  repeat' (first | refine kz ?_ | refine Aa (Ba _) ?_ | refine kf ?_ | exact k0 | refine kg ?_ ?_ | fail)
  all_goals rfl
 ·refine Ac hT Tryz.func280 Tryz.ntmps280 [.cell 6 73] fun B => ?_
  repeat' (first | refine kz ?_ | refine Aa (Ba _) ?_ | refine kf ?_ | exact k0 | refine kg ?_ ?_ | fail)
  all_goals rfl
 ·refine Ac hT Tryz.func280 Tryz.ntmps280 [.cell 6 73] fun B => ?_
  repeat' (first | refine kz ?_ | refine Aa (h1) ?_ | refine kf ?_ | exact k0 | refine kg ?_ ?_ | fail)
  all_goals rfl
 ·refine Ac hT Tryz.func280 Tryz.ntmps280 [.cell 6 73] fun B => ?_
  repeat' (first | refine kz ?_ | refine Aa (h2) ?_ | refine kf ?_ | exact k0 | refine kg ?_ ?_ | fail)
  all_goals rfl
theorem O5 {a : Val} (ha : a.valid = true) (k : a.kind = 1) : -4294967296 ≤ a.int ∧ a.int ≤ 4294967296 := by
 rcases BB ha with h | h | h
 ·omega
 ·exact ⟨h.2.1, h.2.2.1⟩
 ·omega
theorem Tq {a : Val} (ha : a.valid = true) (k : a.kind = 2) : a.text.size ≤ 32 := by
 rcases BB ha with h | h | h
 ·omega
 ·omega
 ·exact h.2.1
theorem Gm (op : Int) (hop : op = 4 ∨ op = 5 ∨ op = 6 ∨ op = 7) (a b : Val) (va : a.valid = true) (vb : b.valid = true) : PCall Tryz.prog 268 [.one (.lit (.int .i64 op)), .one (AU [a, b])] (.v (.agg (GX op a b).d)) := by
 by_cases ka : a.kind = 1
 ·by_cases kb : b.kind = 1
  ·have h1 := LX op a.int b.int hop (O5 va ka) (O5 vb kb)
   rw [show GX op a b = Tp op a.int b.int by rw [GX, if_neg (by omega), if_neg (by omega), if_neg (by omega)]; rfl]
   refine Ac hT Tryz.func268 Tryz.ntmps268 [.cell 4 73] fun B => ?_
   repeat' (first | refine kz ?_ | refine Au rfl (fun hb => ?_) (fun hb => ?_) | refine ki ?_ | refine Aa (h1) ?_ | refine kf ?_ | exact k0 | refine kg ?_ ?_ | fail)
   all_goals rfl
  ·rw [show GX op a b = Val.null from if_pos (.inr kb)]
   refine Ac hT Tryz.func268 Tryz.ntmps268 [.cell 4 73] fun B => ?_
   repeat' (first | refine kz ?_ | refine Au rfl (fun hb => ?_) (fun hb => ?_) | refine ki ?_ | refine kf ?_ | exact k0 | refine kg ?_ ?_ | fail)
   all_goals rfl
 ·rw [show GX op a b = Val.null from if_pos (.inl ka)]
  refine Ac hT Tryz.func268 Tryz.ntmps268 [.cell 4 73] fun B => ?_
  repeat' (first | refine kz ?_ | refine Au rfl (fun hb => ?_) (fun hb => ?_) | refine ki ?_ | refine kf ?_ | exact k0 | refine kg ?_ ?_ | fail)
  all_goals rfl
theorem Q8 (a : Val) (va : a.valid = true) : PCall Tryz.prog 268 [.one (.lit (.int .i64 3)), .one (AU [a])] (.v (.agg (GX 3 a a).d)) := by
 by_cases ka : a.kind = 1
 ·have := O5 va ka
  rw [show GX 3 a a = Val.ofInt (-a.int) by rw [GX, if_neg (by omega), if_pos rfl]]
  refine Ac hT Tryz.func268 Tryz.ntmps268 [.cell 4 73] fun B => ?_
  repeat' (first | refine kz ?_ | refine ki ?_ | refine Aa (Ba _) ?_ | refine kf ?_ | exact k0 | refine kg ?_ ?_ | fail)
  all_goals rfl
 ·rw [show GX 3 a a = Val.null from if_pos (.inl ka)]
  refine Ac hT Tryz.func268 Tryz.ntmps268 [.cell 4 73] fun B => ?_
  repeat' (first | refine kz ?_ | refine ki ?_ | refine kf ?_ | exact k0 | refine kg ?_ ?_ | fail)
  all_goals rfl
theorem O6 (a : Val) : PCall Tryz.prog 268 [.one (.lit (.int .i64 13)), .one (AU [a])] (.v (.agg (GX 13 a a).d)) := by
 by_cases ka : a.kind = 1
 ·rw [show GX 13 a a = Br (a.int == 0) by rw [GX, if_neg (by omega), if_neg (by omega), if_pos rfl, I5]]
  refine Ac hT Tryz.func268 Tryz.ntmps268 [.cell 4 73] fun B => ?_
  repeat' (first | refine kz ?_ | refine ki ?_ | refine Aa (Do _) ?_ | refine kf ?_ | exact k0 | refine kg ?_ ?_ | fail)
  all_goals rfl
 ·rw [show GX 13 a a = Val.null from if_pos (.inl ka)]
  refine Ac hT Tryz.func268 Tryz.ntmps268 [.cell 4 73] fun B => ?_
  repeat' (first | refine kz ?_ | refine ki ?_ | refine kf ?_ | exact k0 | refine kg ?_ ?_ | fail)
  all_goals rfl
theorem Q9 (a b : Val) (va : a.valid = true) (vb : b.valid = true) : PCall Tryz.prog 268 [.one (.lit (.int .i64 8)), .one (AU [a, b])] (.v (.agg (B5 8 a b).d)) := by
 by_cases ka : a.kind = 2
 ·by_cases kb : b.kind = 2
  ·have la := Tq va ka
   have lb := Tq vb kb
   rw [show B5 8 a b = Val.ofText (a.text ++ b.text) by rw [B5, if_neg (by omega), if_neg (by omega), if_pos ⟨rfl, kb⟩]]
   refine Ac hT Tryz.func268 Tryz.ntmps268 [.cell 4 73] fun B => ?_
   repeat' (first | refine kz ?_ | refine ki ?_ | refine Aa (Gu _) ?_ | refine kf ?_ | exact k0 | refine kg ?_ ?_ | fail)
   all_goals rfl
  ·rw [show B5 8 a b = Val.null by rw [B5, if_neg (by omega), if_neg (by omega), if_neg (fun q => kb q.2), if_neg (fun q => by omega)]]
   refine Ac hT Tryz.func268 Tryz.ntmps268 [.cell 4 73] fun B => ?_
   repeat' (first | refine kz ?_ | refine ki ?_ | refine kf ?_ | exact k0 | refine kg ?_ ?_ | fail)
   all_goals rfl
 ·rw [show B5 8 a b = Val.null from if_pos ka]
  refine Ac hT Tryz.func268 Tryz.ntmps268 [.cell 4 73] fun B => ?_
  repeat' (first | refine kz ?_ | refine ki ?_ | refine kf ?_ | exact k0 | refine kg ?_ ?_ | fail)
  all_goals rfl
theorem Ra (a b : Val) : PCall Tryz.prog 268 [.one (.lit (.int .i64 9)), .one (AU [a])] (.v (.agg (B5 9 a b).d)) := by
 by_cases ka : a.kind = 2
 ·rw [show B5 9 a b = Val.ofInt a.text.size by rw [B5, if_neg (by omega), if_pos rfl]]
  refine Ac hT Tryz.func268 Tryz.ntmps268 [.cell 4 73] fun B => ?_
  repeat' (first | refine kz ?_ | refine ki ?_ | refine Aa (Ba _) ?_ | refine kf ?_ | exact k0 | refine kg ?_ ?_ | fail)
  all_goals rfl
 ·rw [show B5 9 a b = Val.null from if_pos ka]
  refine Ac hT Tryz.func268 Tryz.ntmps268 [.cell 4 73] fun B => ?_
  repeat' (first | refine kz ?_ | refine ki ?_ | refine kf ?_ | exact k0 | refine kg ?_ ?_ | fail)
  all_goals rfl
theorem O7 (a b : Val) : PCall Tryz.prog 268 [.one (.lit (.int .i64 10)), .one (AU [a, b])] (.v (.agg (B5 10 a b).d)) := by
 by_cases ka : a.kind = 2
 ·by_cases kb : b.kind = 1 ∧ 0 ≤ b.int
  ·obtain ⟨k1, k2⟩ := kb
   rw [show B5 10 a b = Val.ofText (a.text.extract 0 (min b.int a.text.size).toNat) by rw [B5, if_neg (by omega), if_neg (by omega), if_neg (fun q => by omega), if_pos ⟨rfl, k1, k2⟩]]
   have hm : (min b.int a.text.size).toNat ≤ a.text.size := by omega
   rw [show min b.int (a.text.size : Int) = (if (a.text.size : Int) < b.int then (a.text.size : Int) else b.int) by split <;> omega] at hm ⊢
   refine Ac hT Tryz.func268 Tryz.ntmps268 [.cell 4 73] fun B => ?_
   repeat' (first | refine kz ?_ | refine ki ?_ | refine Aa (Gu _) ?_ | refine kf ?_ | refine Ai rfl rfl (fun hb => ?_) (fun hb => ?_) | exact k0 | refine kg ?_ ?_ | fail)
   all_goals rfl
  ·rw [show B5 10 a b = Val.null by rw [B5, if_neg (by omega), if_neg (by omega), if_neg (fun q => by omega), if_neg (fun q => kb q.2)]]
   refine Ac hT Tryz.func268 Tryz.ntmps268 [.cell 4 73] fun B => ?_
   repeat' (first | refine kz ?_ | refine ki ?_ | refine kf ?_ | refine Ai rfl rfl (fun hb => ?_) (fun hb => ?_) | exact k0 | refine kg ?_ ?_ | fail)
   all_goals first | rfl | omega
 ·rw [show B5 10 a b = Val.null from if_pos ka]
  refine Ac hT Tryz.func268 Tryz.ntmps268 [.cell 4 73] fun B => ?_
  repeat' (first | refine kz ?_ | refine ki ?_ | refine kf ?_ | refine Ai rfl rfl (fun hb => ?_) (fun hb => ?_) | exact k0 | refine kg ?_ ?_ | fail)
  all_goals rfl
theorem O8 (a b : Val) (ka : a.kind ≠ 0) : PCall Tryz.prog 268 [.one (.lit (.int .i64 11)), .one (AU [a, b])] (.v (.agg (EM 11 a b).d)) := by
 by_cases k : a.kind = b.kind
 ·rw [show EM 11 a b = Br (a.same b) by rw [EM, if_neg (by omega), if_pos rfl], ← Nz]
  refine Ac hT Tryz.func268 Tryz.ntmps268 [.cell 4 73] fun B => ?_
  repeat' (first | refine kz ?_ | refine ki ?_ | refine Aa (Do _) ?_ | refine kf ?_ | exact k0 | refine kg ?_ ?_ | fail)
  all_goals rfl
 ·rw [show EM 11 a b = Val.null from if_pos (.inr k)]
  refine Ac hT Tryz.func268 Tryz.ntmps268 [.cell 4 73] fun B => ?_
  repeat' (first | refine kz ?_ | refine ki ?_ | refine kf ?_ | exact k0 | refine kg ?_ ?_ | fail)
  all_goals rfl
theorem O9 (a b : Val) (ka : a.kind ≠ 0) : PCall Tryz.prog 268 [.one (.lit (.int .i64 12)), .one (AU [a, b])] (.v (.agg (EM 12 a b).d)) := by
 have h1 := Hn a b
 by_cases k : a.kind = b.kind
 ·rw [show EM 12 a b = Br (decide (a.cmp b < 0)) by rw [EM, if_neg (by omega), if_neg (by omega)]]
  refine Ac hT Tryz.func268 Tryz.ntmps268 [.cell 4 73] fun B => ?_
  repeat' (first | refine kz ?_ | refine ki ?_ | refine Aa (h1) ?_ | refine Aa (Do _) ?_ | refine kf ?_ | exact k0 | refine kg ?_ ?_ | fail)
  all_goals rfl
 ·rw [show EM 12 a b = Val.null from if_pos (.inr k)]
  refine Ac hT Tryz.func268 Tryz.ntmps268 [.cell 4 73] fun B => ?_
  repeat' (first | refine kz ?_ | refine ki ?_ | refine kf ?_ | exact k0 | refine kg ?_ ?_ | fail)
  all_goals rfl
theorem Fb {v : Val} (h : v.valid = true) : v.same Val.null = decide (v.kind = 0) := by
 rw [Bool.eq_iff_iff, F4, decide_eq_true_eq]
 constructor
 ·intro e; rw [e]; rfl
 ·intro e
  rcases BB h with q | q | q
  ·exact q.2
  ·omega
  ·omega
theorem Bi (op : Int) (hop : 3 ≤ op ∧ op ≤ 13) (vs : List Val) (R : Val) (hs : (∀ v ∈ vs, v.kind ≠ 0) → PCall Tryz.prog 268 [.one (.lit (.int .i64 op)), .one (AU vs)] (.v (.agg R.d)))
  (hn : (∃ v ∈ vs, v.kind = 0) → R = Val.null) (hv : ∀ v ∈ vs, v.valid = true) : PCall Tryz.prog 250 [.one (.lit (.int .i64 op)), .one (AU vs)] (.v (.agg R.d)) := by
 refine Ac hT Tryz.func250 Tryz.ntmps250 [.cell 4 73] fun B => ?_
 refine fsq 1 rfl fun hlr => ?_
 simp only [List.length_map, maxLen] at hlr
 repeat' (first | refine kz ?_ | refine ki ?_ | refine kf ?_ | exact k0 | refine kg ?_ ?_ | fail)
 refine AO (X := Nat) [6, 56, 57, 58, 59, 60, 61, 62, 63, 64, 65, 66, 67, 68] (fun x => x ≤ vs.length ∧ ∀ (i : Nat) v, i < x → vs[i]? = some v → v.kind ≠ 0) (fun x lz => (6, (.c (.d (.lit (.int .i64 x))))) :: lz) (fun x => [.box 1 (Val.null.d.map .d), .box 2 (Val.null.d.map .d)]) (fun x => vs.length - x) (0) ?_ ?_ ?_ ?_
 repeat' (first | exact k0 | refine kw ?_ | omega)
 ·exact ⟨by simp, fun i v h => absurd h (Nat.not_lt_zero _)⟩
 rintro i c ⟨hi, hinv⟩
 by_cases hlt : i < vs.length
 ·have hx : vs[i]? = some vs[i] := List.getElem?_eq_getElem hlt
  generalize vs[i] = v at hx
  have vv := hv v (List.mem_of_getElem? hx)
  have hsn := Fb vv
  rw [← Nz] at hsn
  by_cases k : v.kind = 0
  · rw [hn ⟨v, List.mem_of_getElem? hx, k⟩]
    rw [decide_eq_true k] at hsn
    clear hs hn hinv
    repeat' (first | refine kz ?_ | refine kx hx ?_ | refine ki ?_ | refine kf ?_ | exact k0 | refine kg ?_ ?_ | fail)
    all_goals first | rfl | (exfalso; simp_all; done)
  · rw [decide_eq_false k] at hsn
    have hin : ∀ (j : Nat) u, j < i + 1 → vs[j]? = some u → u.kind ≠ 0 := fun j u hj hu => by
      by_cases e : j = i
      ·subst e; rw [hx] at hu; cases hu; exact k
      ·exact hinv j u (by omega) hu
    clear hs hn hinv
    repeat' (first | refine kz ?_ | refine kx hx ?_ | refine ki ?_ | refine kf ?_ | exact k0 | refine kg ?_ ?_ | fail)
    all_goals first | (exfalso; simp_all; done) | skip
    (apply Ae (i + 1); all_goals (try dsimp only); all_goals (try (repeat' (first | exact k0 | refine kw ?_ | omega))))
    all_goals exact ⟨by omega, hin⟩
 ·have h1 := hs fun v hv' => by
    obtain ⟨j, hj, rfl⟩ := List.mem_iff_getElem.1 hv'
    exact hinv j _ (by omega) (List.getElem?_eq_getElem hj)
  clear hs hn hinv
  repeat' (first | refine kz ?_ | refine ki ?_ | refine Aa (h1) ?_ | refine kf ?_ | exact k0 | refine kg ?_ ?_ | fail)
  all_goals rfl
end Go.Proofs.YtmpgmjlanngkfaaGreat
end
