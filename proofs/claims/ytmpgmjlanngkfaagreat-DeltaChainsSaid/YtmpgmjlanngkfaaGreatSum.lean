/-
  Sums of entries, in plain terms: what sorting and merging make of a list is the one sorted list with the same sums.
-/
import Derived.Test.YtmpgmjlanngkfaaGreatOrd
import Derived.Test.YtmpgmjlanngkfaaGreatNorm
import Derived.Test.YtmpgmjlanngkfaaGreatSrt
section
namespace Go.Proofs.YtmpgmjlanngkfaaGreat
open Go.Abs Go.RowKit
set_option linter.unusedSimpArgs false
theorem FE {a b : Int} (h : IN a = IN b) : a % 256 = b % 256 := by
 have h1 := HU a
 have h2 := HU b
 rw [h] at h1
 have := h1.trans h2.symm
 simpa [IntKind.wrap, IntKind.bits, IntKind.signed] using this
theorem I0 (n : Int) (k : Nat) (z : Int) (hk : k ≤ 64) (hz : (2 : Int) ^ k = z) : Cm .i64 n k = n / z := by
 rw [Wu hk, hz]
 exact Int.fdiv_eq_ediv_of_nonneg n (by rw [← hz]; exact Int.le_of_lt (Int.pow_pos (by decide)))
theorem TN (n : Int) : Cm .i64 n 32 = n / 4294967296 := I0 n 32 _ (by decide) rfl
theorem TO (n : Int) : Cm .i64 n 24 = n / 16777216 := I0 n 24 _ (by decide) rfl
theorem TP (n : Int) : Cm .i64 n 16 = n / 65536 := I0 n 16 _ (by decide) rfl
theorem YB (n : Int) : Cm .i64 n 8 = n / 256 := I0 n 8 _ (by decide) rfl
theorem O6 {a b : Int} (ha : 0 ≤ a) (ha' : a ≤ 8589934592) (hb : 0 ≤ b) (hb' : b ≤ 8589934592) {x y : List UInt8} (h : Bj a ++ x = Bj b ++ y) : a = b ∧ x = y := by
 simp only [Bj, List.cons_append, List.nil_append, U4, true_and] at h
 obtain ⟨h1, h2, h3, h4, h5, h6⟩ := h
 have q1 := FE h1
 have q2 := FE h2
 have q3 := FE h3
 have q4 := FE h4
 have q5 := FE h5
 rw [TN, TN] at q1
 rw [TO, TO] at q2
 rw [TP, TP] at q3
 rw [YB, YB] at q4
 exact ⟨by omega, h6⟩
theorem L8 : ∀ {l m x y : List UInt8}, Cq l ++ 0 :: 0 :: x = Cq m ++ 0 :: 0 :: y → l = m ∧ x = y
 | [], [], x, y, h => by simp [Cq] at h; exact ⟨rfl, h⟩
 | [], b :: m, x, y, h => by
   have : Cq (b :: m) = DQ b ++ Cq m := by simp [Cq]
   rw [this] at h
   unfold DQ at h
   split at h
   ·simp [Cq] at h
   ·rename_i hb
    simp [Cq] at h
    exact absurd h.1.symm hb
 | a :: l, [], x, y, h => by
   have : Cq (a :: l) = DQ a ++ Cq l := by simp [Cq]
   rw [this] at h
   unfold DQ at h
   split at h
   ·simp [Cq] at h
   ·rename_i hb
    simp [Cq] at h
    exact absurd h.1 hb
 | a :: l, b :: m, x, y, h => by
   have e1 : Cq (a :: l) = DQ a ++ Cq l := by simp [Cq]
   have e2 : Cq (b :: m) = DQ b ++ Cq m := by simp [Cq]
   rw [e1, e2] at h
   by_cases ha : a = 0
   ·by_cases hb : b = 0
    ·subst ha; subst hb
     simp only [DQ, if_true, List.cons_append, List.nil_append, U4, true_and] at h
     obtain ⟨q1, q2⟩ := L8 h
     exact ⟨by rw [q1], q2⟩
    ·subst ha
     simp only [DQ, if_true, if_neg hb, List.cons_append, List.nil_append, U4] at h
     exact absurd h.1.symm hb
   ·by_cases hb : b = 0
    ·subst hb
     simp only [DQ, if_true, if_neg ha, List.cons_append, List.nil_append, U4] at h
     exact absurd h.1 ha
    ·simp only [DQ, if_neg ha, if_neg hb, List.cons_append, List.nil_append, U4] at h
     obtain ⟨q1, q2⟩ := L8 h.2
     exact ⟨by rw [h.1, q1], q2⟩
theorem Ch {v : Val} (h : v.valid = true) : (v.kind = 0 ∧ v = Val.null) ∨ (v.kind = 1 ∧ -4294967296 ≤ v.int ∧ v.int ≤ 4294967296 ∧ v = ⟨1, v.int, ⟨#[]⟩⟩) ∨ (v.kind = 2 ∧ v.text.size ≤ 32 ∧ v = ⟨2, 0, v.text⟩) := by
 have hnil : ∀ b : ByteArray, b.toList = [] → b = ⟨#[]⟩ := fun b hb => F7 (by rw [hb, ByteArray.toList_eq])
 unfold Val.valid at h
 cases v with | mk k n t =>
 simp only at h ⊢
 split at h
 ·rename_i hk
  simp at h
  exact .inl ⟨hk, by rw [Val.null, hk, h.1, hnil t h.2]⟩
 ·split at h
  ·rename_i hk
   simp at h
   exact .inr (.inl ⟨hk, h.1.1, h.1.2, by rw [hk, hnil t h.2]⟩)
  ·split at h
   ·rename_i hk
    simp at h
    exact .inr (.inr ⟨hk, h.2, by rw [hk, h.1]⟩)
   ·cases h
theorem JI {v u : Val} (hv : v.valid = true) (hu : u.valid = true) {x y : List UInt8} (h : AL v ++ x = AL u ++ y) : v = u ∧ x = y := by
 rcases Ch hv with ⟨kv, ev⟩ | ⟨kv, v1, v2, ev⟩ | ⟨kv, _, ev⟩ <;> rcases Ch hu with ⟨ku, eu⟩ | ⟨ku, u1, u2, eu⟩ | ⟨ku, _, eu⟩ <;> simp [AL, kv, ku, Bj] at h
 ·exact ⟨by rw [ev, eu], h⟩
 ·have h' : Bj (v.int + 4294967296) ++ x = Bj (u.int + 4294967296) ++ y := by simp [Bj, h]
  obtain ⟨q1, q2⟩ := O6 (by omega) (by omega) (by omega) (by omega) h'
  exact ⟨by rw [ev, eu, show v.int = u.int by omega], q2⟩
 ·obtain ⟨q1, q2⟩ := L8 (by simpa using h)
  refine ⟨?_, q2⟩
  rw [ev, eu, F7 (a := v.text) (b := u.text) (by rw [ByteArray.toList_eq, ByteArray.toList_eq]; exact q1)]
theorem FY (v : Val) : AL v ≠ [] := by
 unfold AL
 split
 ·simp [Bj]
 ·split <;> simp
theorem EZ : ∀ {r s : List Val}, Al r = Al s → r.map Val.clean = s.map Val.clean
 | [], [], _ => rfl
 | [], b :: s, h => by
   have : Al (b :: s) = AL b.clean ++ Al s := by simp [Al]
   rw [this] at h
   have hl := congrArg List.length h
   have hne : 0 < (AL b.clean).length := Zw.2 (FY b.clean)
   rw [CP, show (Al []).length = 0 from rfl] at hl
   omega
 | a :: r, [], h => by
   have : Al (a :: r) = AL a.clean ++ Al r := by simp [Al]
   rw [this] at h
   have hl := congrArg List.length h
   have hne : 0 < (AL a.clean).length := Zw.2 (FY a.clean)
   rw [CP, show (Al []).length = 0 from rfl] at hl
   omega
 | a :: r, b :: s, h => by
   have e1 : Al (a :: r) = AL a.clean ++ Al r := by simp [Al]
   have e2 : Al (b :: s) = AL b.clean ++ Al s := by simp [Al]
   rw [e1, e2] at h
   obtain ⟨q1, q2⟩ := JI (AR a) (AR b) h
   rw [List.map_cons, List.map_cons, q1, EZ q2]
theorem Dv (r : List Val) : Al (r.map Val.clean) = Al r := by
 have : ∀ v : Val, v.clean.clean = v.clean := fun v => by rw [Val.clean, if_pos (AR v)]
 simp [Al, List.flatMap_map, this]
theorem BU {r s : List Val} : Al r = Al s ↔ Ai r s = 0 := by
 rw [rowCmp_ok.zero]
 constructor
 ·exact EZ
 ·intro h
  rw [← Dv r, ← Dv s, h]
end Go.Proofs.YtmpgmjlanngkfaaGreat
end
section
namespace Go.Proofs.YtmpgmjlanngkfaaGreat
open Go.Abs Go.RowKit
attribute [local irreducible] ARun Au MCall PCall HCall Ak SF CF CFs Af Ag Ar fin AP VLe
set_option linter.unusedSimpArgs false
set_option maxRecDepth 100000
set_option maxHeartbeats 4000000
def dt (l : List Int) : Dat := .sl (l.map fun n => [.lit (.int .i64 n)])
theorem Yl (g : FuncId) (p : Entry → Bool) (hg : ∀ e : Entry, PC g [.agg e.d] (.v (.one (.lit (.bool (p e)))))) (b : List Entry) :
   ∃ k : Int, (0 ≤ k ↔ b.any p = true) ∧ PC 230 [.one (Am b), .one (.lit (.func (.func g) #[] #[]))] (.v (.one (.lit (.int .i64 k)))) := by
 have key : ∀ K : Int, (∀ i e, b[i]? = some e → p e = true → (b.take i).all (fun e => !p e) = true → K = i) → (b.all (fun e => !p e) = true → K = -1) →
    PC 230 [.one (Am b), .one (.lit (.func (.func g) #[] #[]))] (.v (.one (.lit (.int .i64 K)))) := by
   intro K hK1 hK2
   refine Ac hT Tryz.func230 Tryz.ntmps230 [.tmp 4] fun B => ?_
   refine JD 0 rfl fun hlr => ?_
   simp only [BQ, maxLen] at hlr
   repeat' first | refine kz ?_ | refine Aw ?_ | refine kf ?_ | fail
   refine A0 (X := Nat) ([4, 5] ++ List.range' 8 11) (fun x => x ≤ b.length ∧ (b.take x).all (fun e => !p e) = true) (fun x lz => (8, (iC x)) :: lz) (fun x => []) (fun x => b.length - x) (0) ?_ ?_ ?_ ?_
   repeat' first | exact k0 | refine kw ?_ | omega
   ·exact ⟨by simp, by simp⟩
   rintro i c ⟨hi, hinv⟩
   by_cases hlt : i < b.length
   ·obtain ⟨e, hv⟩ := gx hlt
    have htk : ∀ f : Entry → Bool, (b.take (i + 1)).all f = ((b.take i).all f && f e) := fun f => by rw [IU, hv, List.all_append]; simp
    have hge := hg e
    have hk1 := hK1 i e hv
    cases hp : p e
    ·rw [hp] at hge
     repeat' first | refine kz ?_ | refine AX hv ?_ | refine Aw ?_ | refine Aa (hge) ?_ | refine kf ?_ | fail
     apply Ad (i + 1) <;> (try dsimp only) <;> try repeat' first | exact k0 | refine kw ?_ | omega
     exact ⟨by omega, by rw [htk, hinv, hp]; rfl⟩
    ·rw [hp] at hge
     rw [hk1 hp hinv]
     repeat' first | refine kz ?_ | refine AX hv ?_ | refine Aw ?_ | refine Aa (hge) ?_ | refine kf ?_ | fail
     all_goals rfl
   ·have hie : i = b.length := by omega
    subst hie
    rw [PK] at hinv
    rw [hK2 hinv]
    repeat' first | refine kz ?_ | refine Aw ?_ | refine kf ?_ | fail
    all_goals rfl
 cases hf : b.findIdx? p with
 | none =>
   refine ⟨-1, ?_, key (-1) (fun i e he hp _ => ?_) (fun _ => rfl)⟩
   ·have : b.any p = false := by
     rw [List.any_eq_false]
     intro x hx
     have := List.findIdx?_eq_none_iff.1 hf x hx
     simpa using this
    rw [this]; simp
   ·have := List.findIdx?_eq_none_iff.1 hf e (Cl he)
    rw [hp] at this; cases this
 | some j =>
   obtain ⟨hj, hpj, hlt⟩ := List.findIdx?_eq_some_iff_getElem.1 hf
   refine ⟨j, ?_, key j (fun i e he hp hall => ?_) (fun hall => ?_)⟩
   ·have : b.any p = true := List.any_eq_true.2 ⟨_, Fp hj, hpj⟩
    rw [this]; simp
   ·obtain ⟨hil, hie⟩ := bD.1 he
    rcases Nat.lt_trichotomy i j with h | h | h
    ·exact absurd (by rw [hie]; exact hp) (hlt i h)
    ·rw [h]
    ·have hm : b[j] ∈ b.take i := by
      rw [List.mem_take_iff_getElem]
      exact ⟨j, by omega, rfl⟩
     have := CN.1 hall _ hm
     rw [hpj] at this; cases this
   ·have := CN.1 hall _ (Fp hj)
    rw [hpj] at this; cases this
theorem Nb (g : FuncId) (p : Entry → Bool) (hg : ∀ e : Entry, PC g [.agg e.d] (.v (.one (.lit (.bool (p e)))))) (b : List Entry) :
  PC 191 [.one (Am b), .one (.lit (.func (.func g) #[] #[]))] (.v (.one (.lit (.bool (b.any p))))) := by
 obtain ⟨k, hk, hc⟩ := Yl g p hg b
 refine Ac hT Tryz.func191 Tryz.ntmps191 [.tmp 4] fun B => ?_
 repeat' first | refine kz ?_ | refine Aa (hc) ?_ | refine kf ?_ | fail
 refine congrArg Dat.lit (congrArg Value.bool ?_)
 rw [U3, decide_eq_true_eq]
 exact hk
end Go.Proofs.YtmpgmjlanngkfaaGreat
end
section
namespace Go.Proofs.YtmpgmjlanngkfaaGreat
open Go.Abs Go.RowKit
set_option linter.unusedSimpArgs false
set_option maxRecDepth 100000
variable {l : List Entry} {r s : List Val}
theorem I2 {mem : List Blk} {r k m z : Nat} {ety : TypeId} {es x : List (List Dat)} (hm : mem[r]? = some (.arr k ety z es)) (hl : m ≤ es.length) (hx : es.take m = x) : SFs mem [.c (.arr r k m)] [.one (.sl x)] :=
 ⟨L1 hm hl (by rw [hx]), trivial⟩
def eR (a b : Entry) : Prop := Ai a.row b.row < 0
theorem YZ (a : Entry) : ¬ eR a a := by unfold eR; rw [rowCmp_ok.refl]; omega
theorem Xp (a b c : Entry) (h1 : eR a b) (h2 : eR b c) : eR a c := rowCmp_ok.trans _ _ _ h1 h2
def A1 : List Entry → List Val → Int
 | [], _ => 0
 | e :: l, r => (if Ai e.row r = 0 then e.count else 0) + A1 l r
theorem CB (a b : List Entry) (r : List Val) : A1 (a ++ b) r = A1 a r + A1 b r := by
 induction a with
 | nil => simp [A1]
 | cons e a ih => simp only [List.cons_append, A1, ih]; omega
theorem Lt {a b : List Entry} (h : a.Perm b) (r : List Val) : A1 a r = A1 b r := by
 induction h with
 | nil => rfl
 | cons x _ ih => simp only [A1, ih]
 | swap x y l => simp only [A1]; omega
 | trans _ _ ih1 ih2 => exact ih1.trans ih2
theorem Ig (h : ∀ e ∈ l, Ai e.row r ≠ 0) : A1 l r = 0 := by
 induction l with
 | nil => rfl
 | cons e l ih => rw [A1, if_neg (h e (by simp)), ih (fun x hx => h x (by simp [hx]))]; rfl
def apart (l : List Entry) : Prop := l.Pairwise fun a b => Ai a.row b.row ≠ 0
theorem DE (h : Ai r s = 0) : Ai s r = 0 := (rowCmp_ok.zero _ _).2 ((rowCmp_ok.zero _ _).1 h).symm
theorem Fa {t : List Val} (h : Ai r s = 0) (h2 : Ai s t = 0) : Ai r t = 0 := (rowCmp_ok.zero _ _).2 (((rowCmp_ok.zero _ _).1 h).trans ((rowCmp_ok.zero _ _).1 h2))
theorem Lu (h : Ai r s = 0) (t : List Val) : (Ai r t = 0) ↔ (Ai s t = 0) :=
 ⟨fun q => Fa (DE h) q, fun q => Fa h q⟩
theorem BB (h : l.Pairwise eR) : apart l := h.imp fun {a b} q => by unfold eR at q; omega
theorem DZ (h : apart l) {e : Entry} (he : e ∈ l) (hr : Ai e.row r = 0) : A1 l r = e.count := by
 induction l with
 | nil => cases he
 | cons x l ih =>
   obtain ⟨h1, h2⟩ := Mr.1 h
   rcases Fb.1 he with rfl | he
   ·rw [A1, if_pos hr, Ig (fun y hy q => h1 y hy (Fa hr (DE q)))]; omega
   ·rw [A1, if_neg (fun q => h1 e he (Fa q (DE hr))), ih h2 he]; omega
theorem I3 (h : A1 l r ≠ 0) : ∃ e ∈ l, Ai e.row r = 0 := by
 apply WM
 intro hn
 exact h (Ig fun e he q => hn ⟨e, he, q⟩)
def AG (r : List Val) : Prop := r.map Val.clean = r
theorem EK (hr : AG r) (hs : AG s) (h : Ai r s = 0) : r = s := by
 have := (rowCmp_ok.zero _ _).1 h
 rw [hr, hs] at this; exact this
theorem A8 (h : AD r = true) : AG r := by
 simp only [AD, Bi, CN] at h
 unfold AG
 conv => rhs; rw [← List.map_id r]
 apply bM
 intro v hv
 rw [Val.clean, if_pos (h.2 v hv)]; rfl
structure Sorted (l : List Entry) : Prop where
 up : l.Pairwise eR
 nz : ∀ e ∈ l, e.count ≠ 0
 cl : ∀ e ∈ l, AG e.row
theorem Sorted.unique {s t : List Entry} (hs : Sorted s) (ht : Sorted t) (h : ∀ r, A1 s r = A1 t r) : s = t := by
 have key : ∀ {s t : List Entry}, Sorted s → Sorted t → (∀ r, A1 s r = A1 t r) → ∀ e, e ∈ s → e ∈ t := by
  intro s t hs ht h e he
  have h1 := DZ (BB hs.up) he (rowCmp_ok.refl e.row)
  have h2 : A1 t e.row ≠ 0 := by rw [← h, h1]; exact hs.nz e he
  obtain ⟨x, hx, hr⟩ := I3 h2
  have h3 := DZ (BB ht.up) hx hr
  have hrow := EK (ht.cl x hx) (hs.cl e he) hr
  have : x = e := by
   cases x; cases e
   simp only at hrow h3 h1
   rw [hrow] at *
   rw [← h] at h3
   rw [← h3, h1]
  rw [← this]; exact hx
 exact Er YZ Xp hs.up ht.up fun e => ⟨key hs ht h e, key ht hs (fun r => (h r).symm) e⟩
theorem ID (a b : List Entry) (r : List Val) : A1 (mergeE a b) r = A1 a r + A1 b r := by
 induction a, b using mergeE.induct with
 | case1 b => simp [mergeE, A1]
 | case2 a h => rw [mergeE]; simp [A1]; exact h
 | case3 x a y b h ih => rw [mergeE, if_pos h]; simp only [A1] at ih ⊢; rw [ih]; omega
 | case4 x a y b h1 h2 ih => rw [mergeE, if_neg h1, if_pos h2]; simp only [A1] at ih ⊢; rw [ih]; omega
 | case5 x a y b h1 h2 ih =>
   rw [mergeE, if_neg h1, if_neg h2, CB, ih]
   have h0 : Ai x.row y.row = 0 := by omega
   have hi := Lu h0 r
   simp only [A1]
   split
   ·rename_i hz
    simp only [A1]
    by_cases hq : Ai y.row r = 0
    ·rw [if_pos (hi.2 hq), if_pos hq]; omega
    ·rw [if_neg (fun q => hq (hi.1 q)), if_neg hq]; omega
   ·simp only [A1]
    by_cases hq : Ai y.row r = 0
    ·rw [if_pos (hi.2 hq), if_pos hq]; omega
    ·rw [if_neg (fun q => hq (hi.1 q)), if_neg hq]; omega
theorem C2 (a b : List Entry) (e : Entry) : e ∈ mergeE a b → ∃ x, (x ∈ a ∨ x ∈ b) ∧ x.row = e.row := by
 induction a, b using mergeE.induct with
 | case1 b => intro h; rw [mergeE] at h; exact ⟨e, .inr h, rfl⟩
 | case2 a h => intro h'; rw [mergeE] at h'; exact ⟨e, .inl h', rfl⟩; exact h
 | case3 x a y b h ih =>
   intro h'
   rw [mergeE, if_pos h] at h'
   rcases Fb.1 h' with rfl | h'
   ·exact ⟨e, .inl (by simp), rfl⟩
   ·obtain ⟨z, hz, q⟩ := ih h'
    exact ⟨z, hz.imp (fun u => by simp [u]) id, q⟩
 | case4 x a y b h1 h2 ih =>
   intro h'
   rw [mergeE, if_neg h1, if_pos h2] at h'
   rcases Fb.1 h' with rfl | h'
   ·exact ⟨e, .inr (by simp), rfl⟩
   ·obtain ⟨z, hz, q⟩ := ih h'
    exact ⟨z, hz.imp id (fun u => by simp [u]), q⟩
 | case5 x a y b h1 h2 ih =>
   intro h'
   rw [mergeE, if_neg h1, if_neg h2] at h'
   rcases Ej.1 h' with h' | h'
   ·split at h'
    ·cases h'
    ·obtain rfl := IT.1 h'
     exact ⟨x, .inl (by simp), rfl⟩
   ·obtain ⟨z, hz, q⟩ := ih h'
    exact ⟨z, hz.imp (fun u => by simp [u]) (fun u => by simp [u]), q⟩
theorem Eg {e : Entry} (h : Sorted (e :: l)) : Sorted l := ⟨(Mr.1 h.up).2, fun x hx => h.nz x (by simp [hx]), fun x hx => h.cl x (by simp [hx])⟩
theorem Gh (a b : List Entry) : Sorted a → Sorted b → Sorted (mergeE a b) := by
 induction a, b using mergeE.induct with
 | case1 b => intro _ hb; rw [mergeE]; exact hb
 | case2 a h => intro ha _; rw [mergeE]; exact ha; exact h
 | case3 x a y b h ih =>
   intro ha hb
   have q := ih (Eg ha) hb
   rw [mergeE, if_pos h]
   refine ⟨Mr.2 ⟨fun z hz => ?_, q.up⟩, fun z hz => ?_, fun z hz => ?_⟩
   ·obtain ⟨u, hu, hr⟩ := C2 _ _ z hz
    show Ai x.row z.row < 0
    rw [← hr]
    rcases hu with hu | hu
    ·exact (Mr.1 ha.up).1 u hu
    ·rcases Fb.1 hu with rfl | hu
     ·exact h
     ·exact rowCmp_ok.trans _ _ _ h ((Mr.1 hb.up).1 u hu)
   ·rcases Fb.1 hz with rfl | hz
    ·exact ha.nz z (by simp)
    ·exact q.nz z hz
   ·rcases Fb.1 hz with rfl | hz
    ·exact ha.cl z (by simp)
    ·exact q.cl z hz
 | case4 x a y b h1 h2 ih =>
   intro ha hb
   have h : Ai y.row x.row < 0 := (rowCmp_ok.anti _ _).2 h2
   have q := ih ha (Eg hb)
   rw [mergeE, if_neg h1, if_pos h2]
   refine ⟨Mr.2 ⟨fun z hz => ?_, q.up⟩, fun z hz => ?_, fun z hz => ?_⟩
   ·obtain ⟨u, hu, hr⟩ := C2 _ _ z hz
    show Ai y.row z.row < 0
    rw [← hr]
    rcases hu with hu | hu
    ·rcases Fb.1 hu with rfl | hu
     ·exact h
     ·exact rowCmp_ok.trans _ _ _ h ((Mr.1 ha.up).1 u hu)
    ·exact (Mr.1 hb.up).1 u hu
   ·rcases Fb.1 hz with rfl | hz
    ·exact hb.nz z (by simp)
    ·exact q.nz z hz
   ·rcases Fb.1 hz with rfl | hz
    ·exact hb.cl z (by simp)
    ·exact q.cl z hz
 | case5 x a y b h1 h2 ih =>
   intro ha hb
   have h0 : Ai x.row y.row = 0 := by omega
   have q := ih (Eg ha) (Eg hb)
   rw [mergeE, if_neg h1, if_neg h2]
   split
   ·exact q
   ·rename_i hz
    refine ⟨Mr.2 ⟨fun z hz => ?_, q.up⟩, fun z hz' => ?_, fun z hz' => ?_⟩
    ·obtain ⟨u, hu, hr⟩ := C2 _ _ z hz
     show Ai x.row z.row < 0
     rw [← hr]
     rcases hu with hu | hu
     ·exact (Mr.1 ha.up).1 u hu
     ·exact rowCmp_ok.left ((rowCmp_ok.zero _ _).1 (DE h0)) ((Mr.1 hb.up).1 u hu)
    ·rcases Fb.1 hz' with rfl | hz'
     ·exact hz
     ·exact q.nz z hz'
    ·rcases Fb.1 hz' with rfl | hz'
     ·exact ha.cl x (by simp)
     ·exact q.cl z hz'
theorem IE (l : List Entry) (r : List Val) : A1 (l.filter (fun e => decide (e.count ≠ 0))) r = A1 l r := by
 induction l with
 | nil => rfl
 | cons e l ih =>
   rw [WQ]
   split
   ·simp only [A1, ih]
   ·rename_i h
    have : e.count = 0 := by simpa using h
    simp only [A1, ih, this]; split <;> omega
theorem BX (l : List Entry) : (∀ e ∈ l, AG e.row) → Sorted (sortE l) ∧ ∀ r, A1 (sortE l) r = A1 l r := by
 induction l using sortE.induct with
 | case1 l h =>
   intro hc
   rw [sortE, dif_pos h]
   refine ⟨⟨?_, fun e he => by simpa using (Ms.1 he).2, fun e he => hc e (Ms.1 he).1⟩, IE l⟩
   match l, h with
   | [], _ => exact .nil
   | [e], _ => exact List.Pairwise.sublist List.filter_sublist (List.pairwise_singleton _ _)
 | case2 l h ih1 ih2 =>
   intro hc
   obtain ⟨a1, a2⟩ := ih1 (fun e he => hc e (IS he))
   obtain ⟨b1, b2⟩ := ih2 (fun e he => hc e (U1 he))
   rw [sortE, dif_neg h]
   refine ⟨Gh _ _ a1 b1, fun r => ?_⟩
   rw [ID, a2, b2, ← CB, XM]
def Dn (a b : Entry) : Int := Ai a.row b.row
theorem entCmp_ok : CmpOk Dn (fun e => e.row.map Val.clean) := rowCmp_ok.comp Entry.row
theorem Oz (ha : apart l) (hn : ∀ e ∈ l, e.count ≠ 0) (hc : ∀ e ∈ l, AG e.row) : Sorted (sortF Dn l) := by
 have hp := BG entCmp_ok.swo l
 have hs := Hr entCmp_ok.swo l
 refine ⟨?_, fun e he => hn e (hp.mem_iff.1 he), fun e he => hc e (hp.mem_iff.1 he)⟩
 have ha' : apart (sortF Dn l) := (hp.symm.pairwise ha (fun {a b} h q => h (DE q)))
 refine (hs.and ha').imp ?_
 rintro a b ⟨h1, h2⟩
 unfold Dn at h1
 have := rowCmp_ok.anti a.row b.row
 show Ai a.row b.row < 0
 omega
theorem J9 {b : List Entry} (hl : ∀ e ∈ l, AG e.row) (ha : apart b) (hn : ∀ e ∈ b, e.count ≠ 0) (hc : ∀ e ∈ b, AG e.row) (h : ∀ r, A1 b r = A1 l r) : sortF Dn b = sortE l := by
 obtain ⟨s1, s2⟩ := BX l hl
 refine (Oz ha hn hc).unique s1 fun r => ?_
 rw [s2, ← h, Lt (BG entCmp_ok.swo b)]
end Go.Proofs.YtmpgmjlanngkfaaGreat
end
