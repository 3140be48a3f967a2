/-
  Algebra: columns of rows, keys of joins, beginnings of strings.
-/
import Derived.Test.YtmpgmjlanngkfaaGreatNorm
import Derived.Test.YtmpgmjlanngkfaaGreatSrt
import Derived.Test.YtmpgmjlanngkfaaGreatExa
import Derived.Test.YtmpgmjlanngkfaaGreatEqs
section
namespace Go.Proofs.YtmpgmjlanngkfaaGreat
open Go.Abs Go.RowKit
set_option linter.unusedSimpArgs false
theorem FT {a b : Int} (h : IX a = IX b) : a % 256 = b % 256 := by
 have h1 := Ia a
 have h2 := Ia b
 rw [h] at h1
 have := h1.trans h2.symm
 simpa [IntKind.wrap, IntKind.bits, IntKind.signed] using this
theorem I4 (n : Int) (k : Nat) (z : Int) (hk : k ≤ 64) (hz : (2 : Int) ^ k = z) : Cq .i64 n k = n / z := by
 rw [VH hk, hz]
 exact Int.fdiv_eq_ediv_of_nonneg n (by rw [← hz]; exact Int.le_of_lt (Int.pow_pos (by decide)))
theorem Tb (n : Int) : Cq .i64 n 32 = n / 4294967296 := I4 n 32 _ (by decide) rfl
theorem Tc (n : Int) : Cq .i64 n 24 = n / 16777216 := I4 n 24 _ (by decide) rfl
theorem Td (n : Int) : Cq .i64 n 16 = n / 65536 := I4 n 16 _ (by decide) rfl
theorem Xz (n : Int) : Cq .i64 n 8 = n / 256 := I4 n 8 _ (by decide) rfl
theorem OX {a b : Int} (ha : 0 ≤ a) (ha' : a ≤ 8589934592) (hb : 0 ≤ b) (hb' : b ≤ 8589934592) {x y : List UInt8} (h : Bm a ++ x = Bm b ++ y) : a = b ∧ x = y := by
 simp only [Bm, List.cons_append, List.nil_append, List.cons.injEq, true_and] at h
 obtain ⟨h1, h2, h3, h4, h5, h6⟩ := h
 have q1 := FT h1
 have q2 := FT h2
 have q3 := FT h3
 have q4 := FT h4
 have q5 := FT h5
 rw [Tb, Tb] at q1
 rw [Tc, Tc] at q2
 rw [Td, Td] at q3
 rw [Xz, Xz] at q4
 exact ⟨by omega, h6⟩
theorem LR : ∀ {l m x y : List UInt8}, Cv l ++ 0 :: 0 :: x = Cv m ++ 0 :: 0 :: y → l = m ∧ x = y
 | [], [], x, y, h => by simp [Cv] at h; exact ⟨rfl, h⟩
 | [], b :: m, x, y, h => by
   have : Cv (b :: m) = D3 b ++ Cv m := by simp [Cv]
   rw [this] at h
   unfold D3 at h
   split at h
   ·simp [Cv] at h
   ·rename_i hb
    simp [Cv] at h
    exact absurd h.1.symm hb
 | a :: l, [], x, y, h => by
   have : Cv (a :: l) = D3 a ++ Cv l := by simp [Cv]
   rw [this] at h
   unfold D3 at h
   split at h
   ·simp [Cv] at h
   ·rename_i hb
    simp [Cv] at h
    exact absurd h.1 hb
 | a :: l, b :: m, x, y, h => by
   have e1 : Cv (a :: l) = D3 a ++ Cv l := by simp [Cv]
   have e2 : Cv (b :: m) = D3 b ++ Cv m := by simp [Cv]
   rw [e1, e2] at h
   by_cases ha : a = 0
   ·by_cases hb : b = 0
    ·subst ha; subst hb
     simp only [D3, if_true, List.cons_append, List.nil_append, List.cons.injEq, true_and] at h
     obtain ⟨q1, q2⟩ := LR h
     exact ⟨by rw [q1], q2⟩
    ·subst ha
     simp only [D3, if_true, if_neg hb, List.cons_append, List.nil_append, List.cons.injEq] at h
     exact absurd h.1.symm hb
   ·by_cases hb : b = 0
    ·subst hb
     simp only [D3, if_true, if_neg ha, List.cons_append, List.nil_append, List.cons.injEq] at h
     exact absurd h.1 ha
    ·simp only [D3, if_neg ha, if_neg hb, List.cons_append, List.nil_append, List.cons.injEq] at h
     obtain ⟨q1, q2⟩ := LR h.2
     exact ⟨by rw [h.1, q1], q2⟩
theorem BB {v : Val} (h : v.valid = true) : (v.kind = 0 ∧ v = Val.null) ∨ (v.kind = 1 ∧ -4294967296 ≤ v.int ∧ v.int ≤ 4294967296 ∧ v = ⟨1, v.int, ⟨#[]⟩⟩) ∨ (v.kind = 2 ∧ v.text.size ≤ 32 ∧ v = ⟨2, 0, v.text⟩) := by
 have hnil : ∀ b : ByteArray, b.toList = [] → b = ⟨#[]⟩ := fun b hb => Gt (by rw [hb, ByteArray.toList_eq])
 unfold Val.valid at h
 cases v with | mk k n t =>
 simp only at h ⊢
 split at h
 ·rename_i hk
  simp at h
  exact .inl ⟨hk, by rw [Val.null, hk, h.1, hnil t h.2]⟩
 ·split at h
  ·rename_i hk
   simp at h
   exact .inr (.inl ⟨hk, h.1.1, h.1.2, by rw [hk, hnil t h.2]⟩)
  ·split at h
   ·rename_i hk
    simp at h
    exact .inr (.inr ⟨hk, h.2, by rw [hk, h.1]⟩)
   ·cases h
theorem JH {v u : Val} (hv : v.valid = true) (hu : u.valid = true) {x y : List UInt8} (h : AJ v ++ x = AJ u ++ y) : v = u ∧ x = y := by
 rcases BB hv with ⟨kv, ev⟩ | ⟨kv, v1, v2, ev⟩ | ⟨kv, _, ev⟩ <;> rcases BB hu with ⟨ku, eu⟩ | ⟨ku, u1, u2, eu⟩ | ⟨ku, _, eu⟩ <;> simp [AJ, kv, ku, Bm] at h
 ·exact ⟨by rw [ev, eu], h⟩
 ·have h' : Bm (v.int + 4294967296) ++ x = Bm (u.int + 4294967296) ++ y := by simp [Bm, h]
  obtain ⟨q1, q2⟩ := OX (by omega) (by omega) (by omega) (by omega) h'
  exact ⟨by rw [ev, eu, show v.int = u.int by omega], q2⟩
 ·obtain ⟨q1, q2⟩ := LR (by simpa using h)
  refine ⟨?_, q2⟩
  rw [ev, eu, Gt (a := v.text) (b := u.text) (by rw [ByteArray.toList_eq, ByteArray.toList_eq]; exact q1)]
theorem Gh (v : Val) : AJ v ≠ [] := by
 unfold AJ
 split
 ·simp [Bm]
 ·split <;> simp
theorem E8 : ∀ {r s : List Val}, Ao r = Ao s → r.map Val.clean = s.map Val.clean
 | [], [], _ => rfl
 | [], b :: s, h => by
   have : Ao (b :: s) = AJ b.clean ++ Ao s := by simp [Ao]
   rw [this] at h
   have hl := congrArg List.length h
   have hne : 0 < (AJ b.clean).length := List.length_pos_iff.2 (Gh b.clean)
   rw [List.length_append, show (Ao []).length = 0 from rfl] at hl
   omega
 | a :: r, [], h => by
   have : Ao (a :: r) = AJ a.clean ++ Ao r := by simp [Ao]
   rw [this] at h
   have hl := congrArg List.length h
   have hne : 0 < (AJ a.clean).length := List.length_pos_iff.2 (Gh a.clean)
   rw [List.length_append, show (Ao []).length = 0 from rfl] at hl
   omega
 | a :: r, b :: s, h => by
   have e1 : Ao (a :: r) = AJ a.clean ++ Ao r := by simp [Ao]
   have e2 : Ao (b :: s) = AJ b.clean ++ Ao s := by simp [Ao]
   rw [e1, e2] at h
   obtain ⟨q1, q2⟩ := JH (AR a) (AR b) h
   rw [List.map_cons, List.map_cons, q1, E8 q2]
theorem DJ (r : List Val) : Ao (r.map Val.clean) = Ao r := by
 have : ∀ v : Val, v.clean.clean = v.clean := fun v => by rw [Val.clean, if_pos (AR v)]
 simp [Ao, List.flatMap_map, this]
theorem BY {r s : List Val} : Ao r = Ao s ↔ Ak r s = 0 := by
 rw [rowCmp_ok.zero]
 constructor
 ·exact E8
 ·intro h
  rw [← DJ r, ← DJ s, h]
end Go.Proofs.YtmpgmjlanngkfaaGreat
end
section
namespace Go.Proofs.YtmpgmjlanngkfaaGreat
open Go.Abs Go.RowKit
set_option linter.unusedSimpArgs false
set_option maxRecDepth 100000
theorem I8 {mem : List Blk} {r k m z : Nat} {ety : TypeId} {es x : List (List Dat)} (hm : mem[r]? = some (.arr k ety z es)) (hl : m ≤ es.length) (hx : es.take m = x) : SFs mem [.c (.arr r k m)] [.one (.sl x)] :=
 ⟨OW hm hl (by rw [hx]), trivial⟩
def eR (a b : Entry) : Prop := Ak a.row b.row < 0
theorem X9 (a : Entry) : ¬ eR a a := by unfold eR; rw [rowCmp_ok.refl]; omega
theorem WD (a b c : Entry) (h1 : eR a b) (h2 : eR b c) : eR a c := rowCmp_ok.trans _ _ _ h1 h2
def A8 : List Entry → List Val → Int
 | [], _ => 0
 | e :: l, r => (if Ak e.row r = 0 then e.count else 0) + A8 l r
theorem CQ (a b : List Entry) (r : List Val) : A8 (a ++ b) r = A8 a r + A8 b r := by
 induction a with
 | nil => simp [A8]
 | cons e a ih => simp only [List.cons_append, A8, ih]; omega
theorem Lk {a b : List Entry} (h : a.Perm b) (r : List Val) : A8 a r = A8 b r := by
 induction h with
 | nil => rfl
 | cons x _ ih => simp only [A8, ih]
 | swap x y l => simp only [A8]; omega
 | trans _ _ ih1 ih2 => exact ih1.trans ih2
theorem Is {l : List Entry} {r : List Val} (h : ∀ e ∈ l, Ak e.row r ≠ 0) : A8 l r = 0 := by
 induction l with
 | nil => rfl
 | cons e l ih => rw [A8, if_neg (h e (by simp)), ih (fun x hx => h x (by simp [hx]))]; rfl
def apart (l : List Entry) : Prop := l.Pairwise fun a b => Ak a.row b.row ≠ 0
theorem DS {r s : List Val} (h : Ak r s = 0) : Ak s r = 0 := (rowCmp_ok.zero _ _).2 ((rowCmp_ok.zero _ _).1 h).symm
theorem Fo {r s t : List Val} (h : Ak r s = 0) (h2 : Ak s t = 0) : Ak r t = 0 := (rowCmp_ok.zero _ _).2 (((rowCmp_ok.zero _ _).1 h).trans ((rowCmp_ok.zero _ _).1 h2))
theorem Ll {r s : List Val} (h : Ak r s = 0) (t : List Val) : (Ak r t = 0) ↔ (Ak s t = 0) :=
 ⟨fun q => Fo (DS h) q, fun q => Fo h q⟩
theorem DA {l : List Entry} (h : l.Pairwise eR) : apart l := h.imp fun {a b} q => by unfold eR at q; omega
theorem HM {l : List Entry} (h : apart l) {e : Entry} (he : e ∈ l) {r : List Val} (hr : Ak e.row r = 0) : A8 l r = e.count := by
 induction l with
 | nil => cases he
 | cons x l ih =>
   obtain ⟨h1, h2⟩ := List.pairwise_cons.1 h
   rcases List.mem_cons.1 he with rfl | he
   ·rw [A8, if_pos hr, Is (fun y hy q => h1 y hy (Fo hr (DS q)))]; omega
   ·rw [A8, if_neg (fun q => h1 e he (Fo q (DS hr))), ih h2 he]; omega
theorem I9 {l : List Entry} {r : List Val} (h : A8 l r ≠ 0) : ∃ e ∈ l, Ak e.row r = 0 := by
 apply Classical.byContradiction
 intro hn
 exact h (Is fun e he q => hn ⟨e, he, q⟩)
def AI (r : List Val) : Prop := r.map Val.clean = r
theorem F7 {r s : List Val} (hr : AI r) (hs : AI s) (h : Ak r s = 0) : r = s := by
 have := (rowCmp_ok.zero _ _).1 h
 rw [hr, hs] at this; exact this
theorem BD {r : List Val} (h : AQ r = true) : AI r := by
 simp only [AQ, Bool.and_eq_true, List.all_eq_true] at h
 unfold AI
 conv => rhs; rw [← List.map_id r]
 apply List.map_congr_left
 intro v hv
 rw [Val.clean, if_pos (h.2 v hv)]; rfl
structure Sorted (l : List Entry) : Prop where
 up : l.Pairwise eR
 nz : ∀ e ∈ l, e.count ≠ 0
 cl : ∀ e ∈ l, AI e.row
theorem Sorted.unique {s t : List Entry} (hs : Sorted s) (ht : Sorted t) (h : ∀ r, A8 s r = A8 t r) : s = t := by
 have key : ∀ {s t : List Entry}, Sorted s → Sorted t → (∀ r, A8 s r = A8 t r) → ∀ e, e ∈ s → e ∈ t := by
  intro s t hs ht h e he
  have h1 := HM (DA hs.up) he (rowCmp_ok.refl e.row)
  have h2 : A8 t e.row ≠ 0 := by rw [← h, h1]; exact hs.nz e he
  obtain ⟨x, hx, hr⟩ := I9 h2
  have h3 := HM (DA ht.up) hx hr
  have hrow := F7 (ht.cl x hx) (hs.cl e he) hr
  have : x = e := by
   cases x; cases e
   simp only at hrow h3 h1
   rw [hrow] at *
   rw [← h] at h3
   rw [← h3, h1]
  rw [← this]; exact hx
 exact EB X9 WD hs.up ht.up fun e => ⟨key hs ht h e, key ht hs (fun r => (h r).symm) e⟩
theorem Om (a b : List Entry) (r : List Val) : A8 (mergeE a b) r = A8 a r + A8 b r := by
 induction a, b using mergeE.induct with
 | case1 b => simp [mergeE, A8]
 | case2 a h => rw [mergeE]; simp [A8]; exact h
 | case3 x a y b h ih => rw [mergeE, if_pos h]; simp only [A8] at ih ⊢; rw [ih]; omega
 | case4 x a y b h1 h2 ih => rw [mergeE, if_neg h1, if_pos h2]; simp only [A8] at ih ⊢; rw [ih]; omega
 | case5 x a y b h1 h2 ih =>
   rw [mergeE, if_neg h1, if_neg h2, CQ, ih]
   have h0 : Ak x.row y.row = 0 := by omega
   have hi := Ll h0 r
   simp only [A8]
   split
   ·rename_i hz
    simp only [A8]
    by_cases hq : Ak y.row r = 0
    ·rw [if_pos (hi.2 hq), if_pos hq]; omega
    ·rw [if_neg (fun q => hq (hi.1 q)), if_neg hq]; omega
   ·simp only [A8]
    by_cases hq : Ak y.row r = 0
    ·rw [if_pos (hi.2 hq), if_pos hq]; omega
    ·rw [if_neg (fun q => hq (hi.1 q)), if_neg hq]; omega
theorem Fp (a b : List Entry) (e : Entry) : e ∈ mergeE a b → ∃ x, (x ∈ a ∨ x ∈ b) ∧ x.row = e.row := by
 induction a, b using mergeE.induct with
 | case1 b => intro h; rw [mergeE] at h; exact ⟨e, .inr h, rfl⟩
 | case2 a h => intro h'; rw [mergeE] at h'; exact ⟨e, .inl h', rfl⟩; exact h
 | case3 x a y b h ih =>
   intro h'
   rw [mergeE, if_pos h] at h'
   rcases List.mem_cons.1 h' with rfl | h'
   ·exact ⟨e, .inl (by simp), rfl⟩
   ·obtain ⟨z, hz, q⟩ := ih h'
    exact ⟨z, hz.imp (fun u => by simp [u]) id, q⟩
 | case4 x a y b h1 h2 ih =>
   intro h'
   rw [mergeE, if_neg h1, if_pos h2] at h'
   rcases List.mem_cons.1 h' with rfl | h'
   ·exact ⟨e, .inr (by simp), rfl⟩
   ·obtain ⟨z, hz, q⟩ := ih h'
    exact ⟨z, hz.imp id (fun u => by simp [u]), q⟩
 | case5 x a y b h1 h2 ih =>
   intro h'
   rw [mergeE, if_neg h1, if_neg h2] at h'
   rcases List.mem_append.1 h' with h' | h'
   ·split at h'
    ·cases h'
    ·obtain rfl := List.mem_singleton.1 h'
     exact ⟨x, .inl (by simp), rfl⟩
   ·obtain ⟨z, hz, q⟩ := ih h'
    exact ⟨z, hz.imp (fun u => by simp [u]) (fun u => by simp [u]), q⟩
theorem Et {e : Entry} {l : List Entry} (h : Sorted (e :: l)) : Sorted l := ⟨(List.pairwise_cons.1 h.up).2, fun x hx => h.nz x (by simp [hx]), fun x hx => h.cl x (by simp [hx])⟩
theorem Kn (a b : List Entry) : Sorted a → Sorted b → Sorted (mergeE a b) := by
 induction a, b using mergeE.induct with
 | case1 b => intro _ hb; rw [mergeE]; exact hb
 | case2 a h => intro ha _; rw [mergeE]; exact ha; exact h
 | case3 x a y b h ih =>
   intro ha hb
   have q := ih (Et ha) hb
   rw [mergeE, if_pos h]
   refine ⟨List.pairwise_cons.2 ⟨fun z hz => ?_, q.up⟩, fun z hz => ?_, fun z hz => ?_⟩
   ·obtain ⟨u, hu, hr⟩ := Fp _ _ z hz
    show Ak x.row z.row < 0
    rw [← hr]
    rcases hu with hu | hu
    ·exact (List.pairwise_cons.1 ha.up).1 u hu
    ·rcases List.mem_cons.1 hu with rfl | hu
     ·exact h
     ·exact rowCmp_ok.trans _ _ _ h ((List.pairwise_cons.1 hb.up).1 u hu)
   ·rcases List.mem_cons.1 hz with rfl | hz
    ·exact ha.nz z (by simp)
    ·exact q.nz z hz
   ·rcases List.mem_cons.1 hz with rfl | hz
    ·exact ha.cl z (by simp)
    ·exact q.cl z hz
 | case4 x a y b h1 h2 ih =>
   intro ha hb
   have h : Ak y.row x.row < 0 := (rowCmp_ok.anti _ _).2 h2
   have q := ih ha (Et hb)
   rw [mergeE, if_neg h1, if_pos h2]
   refine ⟨List.pairwise_cons.2 ⟨fun z hz => ?_, q.up⟩, fun z hz => ?_, fun z hz => ?_⟩
   ·obtain ⟨u, hu, hr⟩ := Fp _ _ z hz
    show Ak y.row z.row < 0
    rw [← hr]
    rcases hu with hu | hu
    ·rcases List.mem_cons.1 hu with rfl | hu
     ·exact h
     ·exact rowCmp_ok.trans _ _ _ h ((List.pairwise_cons.1 ha.up).1 u hu)
    ·exact (List.pairwise_cons.1 hb.up).1 u hu
   ·rcases List.mem_cons.1 hz with rfl | hz
    ·exact hb.nz z (by simp)
    ·exact q.nz z hz
   ·rcases List.mem_cons.1 hz with rfl | hz
    ·exact hb.cl z (by simp)
    ·exact q.cl z hz
 | case5 x a y b h1 h2 ih =>
   intro ha hb
   have h0 : Ak x.row y.row = 0 := by omega
   have q := ih (Et ha) (Et hb)
   rw [mergeE, if_neg h1, if_neg h2]
   split
   ·exact q
   ·rename_i hz
    refine ⟨List.pairwise_cons.2 ⟨fun z hz => ?_, q.up⟩, fun z hz' => ?_, fun z hz' => ?_⟩
    ·obtain ⟨u, hu, hr⟩ := Fp _ _ z hz
     show Ak x.row z.row < 0
     rw [← hr]
     rcases hu with hu | hu
     ·exact (List.pairwise_cons.1 ha.up).1 u hu
     ·exact rowCmp_ok.left ((rowCmp_ok.zero _ _).1 (DS h0)) ((List.pairwise_cons.1 hb.up).1 u hu)
    ·rcases List.mem_cons.1 hz' with rfl | hz'
     ·exact hz
     ·exact q.nz z hz'
    ·rcases List.mem_cons.1 hz' with rfl | hz'
     ·exact ha.cl x (by simp)
     ·exact q.cl z hz'
theorem IQ (l : List Entry) (r : List Val) : A8 (l.filter (fun e => decide (e.count ≠ 0))) r = A8 l r := by
 induction l with
 | nil => rfl
 | cons e l ih =>
   rw [List.filter_cons]
   split
   ·simp only [A8, ih]
   ·rename_i h
    have : e.count = 0 := by simpa using h
    simp only [A8, ih, this]; split <;> omega
theorem CJ (l : List Entry) : (∀ e ∈ l, AI e.row) → Sorted (sortE l) ∧ ∀ r, A8 (sortE l) r = A8 l r := by
 induction l using sortE.induct with
 | case1 l h =>
   intro hc
   rw [sortE, dif_pos h]
   refine ⟨⟨?_, fun e he => by simpa using (List.mem_filter.1 he).2, fun e he => hc e (List.mem_filter.1 he).1⟩, IQ l⟩
   match l, h with
   | [], _ => exact .nil
   | [e], _ => exact List.Pairwise.sublist List.filter_sublist (List.pairwise_singleton _ _)
 | case2 l h ih1 ih2 =>
   intro hc
   obtain ⟨a1, a2⟩ := ih1 (fun e he => hc e (List.mem_of_mem_take he))
   obtain ⟨b1, b2⟩ := ih2 (fun e he => hc e (List.mem_of_mem_drop he))
   rw [sortE, dif_neg h]
   refine ⟨Kn _ _ a1 b1, fun r => ?_⟩
   rw [Om, a2, b2, ← CQ, List.take_append_drop]
def DB (a b : Entry) : Int := Ak a.row b.row
theorem entCmp_ok : CmpOk DB (fun e => e.row.map Val.clean) := rowCmp_ok.comp Entry.row
theorem On {l : List Entry} (ha : apart l) (hn : ∀ e ∈ l, e.count ≠ 0) (hc : ∀ e ∈ l, AI e.row) : Sorted (sortF DB l) := by
 have hp := BM entCmp_ok.swo l
 have hs := Fm entCmp_ok.swo l
 refine ⟨?_, fun e he => hn e (hp.mem_iff.1 he), fun e he => hc e (hp.mem_iff.1 he)⟩
 have ha' : apart (sortF DB l) := (hp.symm.pairwise ha (fun {a b} h q => h (DS q)))
 refine (hs.and ha').imp ?_
 rintro a b ⟨h1, h2⟩
 unfold DB at h1
 have := rowCmp_ok.anti a.row b.row
 show Ak a.row b.row < 0
 omega
theorem Ka {l b : List Entry} (hl : ∀ e ∈ l, AI e.row) (ha : apart b) (hn : ∀ e ∈ b, e.count ≠ 0) (hc : ∀ e ∈ b, AI e.row) (h : ∀ r, A8 b r = A8 l r) : sortF DB b = sortE l := by
 obtain ⟨s1, s2⟩ := CJ l hl
 refine (On ha hn hc).unique s1 fun r => ?_
 rw [s2, ← h, Lk (BM entCmp_ok.swo b)]
end Go.Proofs.YtmpgmjlanngkfaaGreat
end
section
namespace Go.Proofs.YtmpgmjlanngkfaaGreat
open Go.Abs Go.RowKit
attribute [local irreducible] ARun At MCall PCall HCall Am SF CF CFs Ah Aj Ar fin AW VLe
set_option linter.unusedSimpArgs false
set_option maxRecDepth 100000
set_option maxHeartbeats 4000000
def EH (row : List Val) (col : Int) : Val := if col < 0 then Val.null else match row[col.toNat]? with | some v => v | none => Val.null
theorem Sv {row : List Val} {col : Int} (h : col < 0) : EH row col = Val.null := by simp [EH, h]
theorem LC {row : List Val} {col : Int} (h : (row.length : Int) ≤ col) : EH row col = Val.null := by
 unfold EH
 split
 ·rfl
 ·rw [List.getElem?_eq_none (by omega)]
theorem LD {row : List Val} {k : Nat} {v : Val} (h : row[k]? = some v) : EH row k = v := by
 unfold EH
 rw [if_neg (by omega), Int.toNat_natCast, h]
theorem MA (row : List Val) (col : Int) : PCall Tryz.prog 231 [.one (AU row), .one (.lit (.int .i64 col))] (.v (.agg (EH row col).d)) := by
 by_cases h0 : col < 0
 ·rw [Sv h0]
  refine Ac hT Tryz.func231 Tryz.ntmps231 [.cell 4 73] fun B => ?_
  repeat' (first | refine kz ?_ | refine ki ?_ | refine kf ?_ | exact k0 | refine kg ?_ ?_ | fail)
  all_goals rfl
 ·by_cases h1 : col < row.length
  ·obtain ⟨k, rfl⟩ := Int.eq_ofNat_of_zero_le (Int.not_lt.1 h0)
   have hv : row[k]? = some row[k] := List.getElem?_eq_getElem (by omega)
   generalize row[k] = v at hv
   rw [LD hv]
   refine Ac hT Tryz.func231 Tryz.ntmps231 [.cell 4 73] fun B => ?_
   repeat' (first | refine kz ?_ | refine kx hv ?_ | refine ki ?_ | refine kf ?_ | exact k0 | refine kg ?_ ?_ | fail)
   all_goals rfl
  ·rw [LC (by omega)]
   refine Ac hT Tryz.func231 Tryz.ntmps231 [.cell 4 73] fun B => ?_
   repeat' (first | refine kz ?_ | refine ki ?_ | refine kf ?_ | exact k0 | refine kg ?_ ?_ | fail)
   all_goals rfl
theorem MB (row : List Val) (col : Int) : PCall Tryz.prog 226 [.one (AU row), .one (.lit (.int .i64 col))] (.v (.agg (EH row col).d)) := by
 by_cases h0 : col < 0
 ·rw [Sv h0]
  refine Ac hT Tryz.func226 Tryz.ntmps226 [.cell 4 73] fun B => ?_
  repeat' (first | refine kz ?_ | refine ki ?_ | refine kf ?_ | exact k0 | refine kg ?_ ?_ | fail)
  all_goals rfl
 ·by_cases h1 : col < row.length
  ·obtain ⟨k, rfl⟩ := Int.eq_ofNat_of_zero_le (Int.not_lt.1 h0)
   have hv : row[k]? = some row[k] := List.getElem?_eq_getElem (by omega)
   generalize row[k] = v at hv
   rw [LD hv]
   refine Ac hT Tryz.func226 Tryz.ntmps226 [.cell 4 73] fun B => ?_
   repeat' (first | refine kz ?_ | refine kx hv ?_ | refine ki ?_ | refine kf ?_ | exact k0 | refine kg ?_ ?_ | fail)
   all_goals rfl
  ·rw [LC (by omega)]
   refine Ac hT Tryz.func226 Tryz.ntmps226 [.cell 4 73] fun B => ?_
   repeat' (first | refine kz ?_ | refine ki ?_ | refine kf ?_ | exact k0 | refine kg ?_ ?_ | fail)
   all_goals rfl
def Jr (a b : ByteArray) : Bool := decide (b.size ≤ a.size) && ((a.extract 0 b.size).toList == b.toList)
theorem QH (a b : ByteArray) : PCall Tryz.prog 251 [.one (.lit (.string a)), .one (.lit (.string b))] (.v (.one (.lit (.bool (Jr a b))))) := by
 refine Ac hT Tryz.func251 Tryz.ntmps251 [.tmp 4] fun B => ?_
 repeat' (first | refine kz ?_ | refine Ai rfl rfl (fun hb => ?_) (fun hb => ?_) | refine kf ?_ | fail)
 all_goals (refine congrArg Dat.lit (congrArg Value.bool ?_); simp only [Jr])
 ·rw [decide_eq_true (by omega)]; simp
 ·rw [decide_eq_false (by omega)]; rfl
theorem MC (a b : ByteArray) : PCall Tryz.prog 232 [.one (.lit (.string a)), .one (.lit (.string b))] (.v (.one (.lit (.bool (Jr a b))))) := by
 refine Ac hT Tryz.func232 Tryz.ntmps232 [.tmp 4] fun B => ?_
 repeat' (first | refine kz ?_ | refine Aa (QH _ _) ?_ | refine kf ?_ | fail)
 all_goals rfl
def CY (l : List UInt8) : Dat := .lit (.string ⟨l.toArray⟩)
theorem EI (L : List UInt8) : (⟨L.toArray⟩ : ByteArray).size = L.length := by simp [ByteArray.size]
theorem IB (a b : List UInt8) : Jr ⟨a.toArray⟩ ⟨b.toArray⟩ = b.isPrefixOf a := by
 unfold Jr
 have h1 : ((⟨a.toArray⟩ : ByteArray).extract 0 (⟨b.toArray⟩ : ByteArray).size).toList = a.take b.length := by
  rw [ByteArray.toList_eq, ByteArray.data_extract, EI]
  simp [List.extract_toArray, List.extract_eq_take_drop]
 have h2 : (⟨b.toArray⟩ : ByteArray).toList = b := by rw [ByteArray.toList_eq]
 rw [h1, h2, EI, EI, Bool.eq_iff_iff]
 simp only [Bool.and_eq_true, decide_eq_true_eq, beq_iff_eq, List.isPrefixOf_iff_prefix]
 constructor
 ·rintro ⟨_, h⟩
  have := List.take_prefix b.length a
  rwa [h] at this
 ·intro h
  exact ⟨h.length_le, (List.prefix_iff_eq_take.1 h).symm⟩
def RX (on : List (Int × Int)) : Dat := .sl (on.map fun p => [.lit (.int .i64 p.1), .lit (.int .i64 p.2)])
def BP (row : List Val) : List Int → Option (List Val)
 | [] => some []
 | c :: cs => if (EH row c).kind = 0 then none else (BP row cs).map ((EH row c) :: ·)
theorem HW (row : List Val) : ∀ (cs : List Int) (c : Int), BP row (cs ++ [c]) = (BP row cs).bind fun l => if (EH row c).kind = 0 then none else some (l ++ [EH row c])
 | [], c => by simp [BP]
 | d :: cs, c => by
   rw [List.cons_append, BP, BP, HW row cs c]
   split
   ·rfl
   ·cases BP row cs with
    | none => rfl
    | some l => simp; split <;> rfl
theorem Js (row : List Val) : ∀ (cs : List Int) (l : List Val), BP row cs = some l → l.length = cs.length
 | [], l, h => by simp [BP] at h; subst h; rfl
 | c :: cs, l, h => by
   rw [BP] at h
   split at h
   ·cases h
   ·cases hq : BP row cs with
    | none => rw [hq] at h; cases h
    | some m => rw [hq] at h; simp at h; subst h; simp [Js row cs m hq]
theorem KA {row : List Val} {cs : List Int} {i : Nat} (h : BP row (cs.take i) = none) : BP row cs = none := by
 induction cs generalizing i with
 | nil => simp [BP] at h
 | cons c cs ih =>
   cases i with
   | zero => simp [BP] at h
   | succ i =>
     rw [List.take_succ_cons, BP] at h
     rw [BP]
     split
     ·rfl
     ·rename_i hk
      rw [if_neg hk] at h
      cases hq : BP row (cs.take i) with
      | none => rw [ih hq]; rfl
      | some m => rw [hq] at h; cases h
def UX (o : Option (List Val)) : PRes := match o with
 | some l => .tup [.one (CY (Ao l)), .one (.lit (.bool true))]
 | none => .tup [.one (CY []), .one (.lit (.bool false))]
theorem Sw (row : List Val) (on : List (Int × Int)) (hon : on.length ≤ 10000) : PCall Tryz.prog 193 [.one (AU row), .one (RX on), .one (.lit (.int .i64 0))] (UX (BP row (on.map Prod.fst))) := by
 refine Ac hT Tryz.func193 Tryz.ntmps193 [.tmp 6, .tmp 7] fun B => ?_
 repeat' (first | refine kz ?_ | refine ki ?_ | refine kg ?_ ?_ | refine kf ?_ | fail)
 refine AO (X := Nat × List Val) [6, 7, 9, 10, 16, 17, 18, 19, 20, 21, 22, 23, 24, 25, 26, 27, 28, 29, 30, 31, 32, 33, 34, 35] (fun x => x.1 ≤ on.length ∧ BP row ((on.map Prod.fst).take x.1) = some x.2) (fun x lz => (16, (.c (.d (.lit (.int .i64 x.1))))) :: lz) (fun x => [.arr 1 73 3 (x.2.map Val.d ++ List.replicate (on.length - x.1) Val.null.d)]) (fun x => on.length - x.1) ((0, [])) ?_ ?_ ?_ ?_
 repeat' (first | exact k0 | refine kw ?_ | refine kv ?_ ?_ | omega)
 ·exact ⟨by simp, by simp [BP]⟩
 rintro ⟨i, l⟩ c ⟨hi, hinv⟩
 dsimp only at hi hinv ⊢
 have hll := Js _ _ _ hinv
 have hll : l.length = i := by rw [hll]; simp; omega
 by_cases hlt : i < on.length
 ·have hv : on[i]? = some on[i] := List.getElem?_eq_getElem hlt
  generalize on[i] = p at hv
  have htk : (on.map Prod.fst).take (i + 1) = (on.map Prod.fst).take i ++ [p.1] := by rw [List.take_add_one, List.getElem?_map, hv]; rfl
  have hsn := HW row ((on.map Prod.fst).take i) p.1
  rw [← htk, hinv] at hsn
  simp only [Option.bind_some] at hsn
  have hrep : List.replicate (on.length - i) Val.null.d = Val.null.d :: List.replicate (on.length - (i + 1)) Val.null.d := by rw [show on.length - i = (on.length - (i + 1)) + 1 by omega, List.replicate_succ]
  have he : (l.map Val.d ++ List.replicate (on.length - i) Val.null.d)[i]? = some Val.null.d := by rw [hrep, List.getElem?_append_right (by simp; omega)]; simp [hll]
  have hset : (l.map Val.d ++ List.replicate (on.length - i) Val.null.d).set i (EH row p.1).d = (l ++ [EH row p.1]).map Val.d ++ List.replicate (on.length - (i + 1)) Val.null.d := by
   rw [hrep, List.set_append_right _ _ (by simp; omega)]; simp [hll]
  have hcell := MA row p.1
  generalize hq : EH row p.1 = u at hset hsn hcell
  have he2 : ((l.map Val.d ++ List.replicate (on.length - i) Val.null.d).set i u.d)[i]? = some u.d := List.getElem?_set_self (by simp; omega)
  by_cases hk : u.kind = 0
  ·rw [if_pos hk] at hsn
   rw [KA hsn]
   repeat' (first | refine kz ?_ | refine kx hv ?_ | refine kx he ?_ | refine kx he2 ?_ | refine ki ?_ | refine Aa (hcell) ?_ | refine kg ?_ ?_ | refine kf ?_ | fail)
   all_goals rfl
  ·rw [if_neg hk] at hsn
   repeat' (first | refine kz ?_ | refine kx hv ?_ | refine kx he ?_ | refine kx he2 ?_ | refine ki ?_ | refine Aa (hcell) ?_ | refine kg ?_ ?_ | refine kf ?_ | fail)
   (apply Ae ((i + 1, l ++ [u])); all_goals (try dsimp only); all_goals (try (repeat' (first | exact k0 | refine kw ?_ | refine kv ?_ ?_ | omega))))
   · exact hset
   · exact ⟨by omega, hsn⟩
 ·have hie : i = on.length := by omega
  subst hie
  rw [List.take_of_length_le (by simp)] at hinv
  have hen := Cl l (by omega)
  have hsf : ∀ mem : List Blk, mem[0]? = some (.arr 1 73 3 (l.map Val.d ++ List.replicate (on.length - on.length) Val.null.d)) → SFs mem [.c (.arr 0 1 on.length)] [.one (AU l)] := fun mem hm => I8 hm (by simp; omega) (by simp [← hll]; exact List.take_of_length_le (by simp))
  rw [hinv]
  repeat' (first | refine kz ?_ | refine ki ?_ | refine En hen (hsf _ rfl) ?_ | refine kg ?_ ?_ | refine kf ?_ | fail)
  all_goals rfl
theorem Sx (row : List Val) (on : List (Int × Int)) (hon : on.length ≤ 10000) : PCall Tryz.prog 193 [.one (AU row), .one (RX on), .one (.lit (.int .i64 1))] (UX (BP row (on.map Prod.snd))) := by
 refine Ac hT Tryz.func193 Tryz.ntmps193 [.tmp 6, .tmp 7] fun B => ?_
 repeat' (first | refine kz ?_ | refine ki ?_ | refine kg ?_ ?_ | refine kf ?_ | fail)
 refine AO (X := Nat × List Val) [6, 7, 9, 10, 16, 17, 18, 19, 20, 21, 22, 23, 24, 25, 26, 27, 28, 29, 30, 31, 32, 33, 34, 35] (fun x => x.1 ≤ on.length ∧ BP row ((on.map Prod.snd).take x.1) = some x.2) (fun x lz => (16, (.c (.d (.lit (.int .i64 x.1))))) :: lz) (fun x => [.arr 1 73 3 (x.2.map Val.d ++ List.replicate (on.length - x.1) Val.null.d)]) (fun x => on.length - x.1) ((0, [])) ?_ ?_ ?_ ?_
 repeat' (first | exact k0 | refine kw ?_ | refine kv ?_ ?_ | omega)
 ·exact ⟨by simp, by simp [BP]⟩
 rintro ⟨i, l⟩ c ⟨hi, hinv⟩
 dsimp only at hi hinv ⊢
 have hll := Js _ _ _ hinv
 have hll : l.length = i := by rw [hll]; simp; omega
 by_cases hlt : i < on.length
 ·have hv : on[i]? = some on[i] := List.getElem?_eq_getElem hlt
  generalize on[i] = p at hv
  have htk : (on.map Prod.snd).take (i + 1) = (on.map Prod.snd).take i ++ [p.2] := by rw [List.take_add_one, List.getElem?_map, hv]; rfl
  have hsn := HW row ((on.map Prod.snd).take i) p.2
  rw [← htk, hinv] at hsn
  simp only [Option.bind_some] at hsn
  have hrep : List.replicate (on.length - i) Val.null.d = Val.null.d :: List.replicate (on.length - (i + 1)) Val.null.d := by rw [show on.length - i = (on.length - (i + 1)) + 1 by omega, List.replicate_succ]
  have he : (l.map Val.d ++ List.replicate (on.length - i) Val.null.d)[i]? = some Val.null.d := by rw [hrep, List.getElem?_append_right (by simp; omega)]; simp [hll]
  have hset : (l.map Val.d ++ List.replicate (on.length - i) Val.null.d).set i (EH row p.2).d = (l ++ [EH row p.2]).map Val.d ++ List.replicate (on.length - (i + 1)) Val.null.d := by
   rw [hrep, List.set_append_right _ _ (by simp; omega)]; simp [hll]
  have hcell := MA row p.2
  generalize hq : EH row p.2 = u at hset hsn hcell
  have he2 : ((l.map Val.d ++ List.replicate (on.length - i) Val.null.d).set i u.d)[i]? = some u.d := List.getElem?_set_self (by simp; omega)
  by_cases hk : u.kind = 0
  ·rw [if_pos hk] at hsn
   rw [KA hsn]
   repeat' (first | refine kz ?_ | refine kx hv ?_ | refine kx he ?_ | refine kx he2 ?_ | refine ki ?_ | refine Aa (hcell) ?_ | refine kg ?_ ?_ | refine kf ?_ | fail)
   all_goals rfl
  ·rw [if_neg hk] at hsn
   repeat' (first | refine kz ?_ | refine kx hv ?_ | refine kx he ?_ | refine kx he2 ?_ | refine ki ?_ | refine Aa (hcell) ?_ | refine kg ?_ ?_ | refine kf ?_ | fail)
   (apply Ae ((i + 1, l ++ [u])); all_goals (try dsimp only); all_goals (try (repeat' (first | exact k0 | refine kw ?_ | refine kv ?_ ?_ | omega))))
   · exact hset
   · exact ⟨by omega, hsn⟩
 ·have hie : i = on.length := by omega
  subst hie
  rw [List.take_of_length_le (by simp)] at hinv
  have hen := Cl l (by omega)
  have hsf : ∀ mem : List Blk, mem[0]? = some (.arr 1 73 3 (l.map Val.d ++ List.replicate (on.length - on.length) Val.null.d)) → SFs mem [.c (.arr 0 1 on.length)] [.one (AU l)] := fun mem hm => I8 hm (by simp; omega) (by simp [← hll]; exact List.take_of_length_le (by simp))
  rw [hinv]
  repeat' (first | refine kz ?_ | refine ki ?_ | refine En hen (hsf _ rfl) ?_ | refine kg ?_ ?_ | refine kf ?_ | fail)
  all_goals rfl
end Go.Proofs.YtmpgmjlanngkfaaGreat
end
