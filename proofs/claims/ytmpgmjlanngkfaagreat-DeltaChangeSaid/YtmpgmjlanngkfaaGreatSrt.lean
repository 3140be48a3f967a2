/-
  slices.SortFunc as a call with one of the caller's arrays: the library's contract, seen by our walk.
-/
import Derived.Test.YtmpgmjlanngkfaaGreatTypes
import Derived.Shelf.SlSortCmp.WholeK
import Derived.Shelf.SlSortCmp.Whole1
import Derived.Shelf.SlSortCmp.NoneTotal
section
namespace Go.Abs
open Go.RowKit
variable {i n : Nat}
theorem Zl {W w' : World} (h : Bel W.heap.size W w') : ∃ q os, w' = Go.Sort.grow (W.drewN q) os := by
 refine ⟨w'.drawn - W.drawn, w'.heap.extract W.heap.size w'.heap.size, ?_⟩
 have hs := h.size
 have hh : W.heap ++ w'.heap.extract W.heap.size w'.heap.size = w'.heap := by
  apply Array.ext
  ·simp; omega
  ·intro i h1 h2
   rw [Array.getElem_append]
   split
   ·rename_i hi
    have := h.block i hi
    rw [LZ hi, LZ h2] at this
    simpa using this.symm
   ·rename_i hi
    simp only [Array.getElem_extract]
    congr 1
    omega
 have hd := h.drawn
 have e1 := h.b.os
 have e2 := h.b.tape
 have e3 := h.b.output
 cases w' with | mk a b c d e =>
 cases W with | mk a' b' c' d' e' =>
 simp only at hh hd e1 e2 e3 hs
 simp only [Go.Sort.grow, World.drewN, hh, e1, e2, e3]
 congr 1
 omega
theorem Dm (w : World) (blk off : Nat) (F : Array Value) (k : Nat) (h : k ≠ blk) : (Go.Sort.putRow id w blk off F).heap[k]? = w.heap[k]? := by
 simp only [Go.Sort.putRow, Go.Sort.mapBlock, gj]
 rw [if_neg (Ne.symm h)]
theorem JA (w : World) (blk off : Nat) (F c : Array Value) (t : TypeId) (h : w.heap[blk]? = some (.cells c t (0, 0))) : (Go.Sort.putRow id w blk off F).heap[blk]? = some (.cells (Go.Sort.putCells id off F c) t (0, 0)) := by
 simp only [Go.Sort.putRow, Go.Sort.mapBlock, gj, h]
 rfl
section
variable {F0 : Nat → Prop} {w0 w : World} {E : Env} {mem : List Blk} {ck : Nat}
theorem WOk.sorted {r k z : Nat} {t : TypeId} {es ji : List (List Dat)} (h : WOk F0 w0 E w mem ck) (hm : mem[r]? = some (.arr k t z es)) (jB : E.cap r ≠ 0) (F : Array Value) (hF : F.size = ji.length * z) (hlen : ji.length = es.length) (hz : ∀ e, e ∈ ji → e.length = z)
  (j4 : ∀ (i j : Nat) e v x, ji[i]? = some e → e[j]? = some x → F[i * z + j]? = some v → DRep E.F w v x) (mR : ∀ v ∈ F, v.oneCell' = true) (m : Nat) (os : Array Obj) :
  WOk F0 w0 E (Go.Sort.grow (Go.Sort.putRow id (Go.Sort.ahead w m) (E.blk r) 0 F) os) (mem.set r (.arr k t z ji)) ck ∧ EnvLe E w E (Go.Sort.grow (Go.Sort.putRow id (Go.Sort.ahead w m) (E.blk r) 0 F) os) := by
 have ho := h.mem.ok r _ hm
 have i7 := ho.lt (show Blk.has E r _ from jB)
 obtain ⟨o1, o2, o3, o4, o5, o6⟩ := ho
 rcases o6 with o6 | ⟨p1, p2, c, p3, p4, p0, p5⟩
 ·exact absurd o6 jB
 have jO : Bel w0.heap.size w (Go.Sort.putRow id (Go.Sort.ahead w m) (E.blk r) 0 F) := by
  refine ⟨⟨rfl, rfl, rfl, by simp, fun j hj => ?_⟩, ?_⟩
  · rw [Dm _ _ _ _ j (by omega)]; rfl
  · simp
 have hp := h.poke r _ (.arr k t z ji) hm jB (fun q => q) jO (fun i hi => by rw [Dm _ _ _ _ i hi]; rfl) (fun hle => by
  refine ⟨o1, o2, hz, by rw [hlen]; exact o4, o5, .inr ⟨p1, p2, _, JA (Go.Sort.ahead w m) (E.blk r) 0 F c t p3, by simpa [Go.Sort.putCells] using p4, fun v hv => ?_, fun i j e v x q1 q2 q3 => ?_⟩⟩
  · rw [Array.mem_iff_getElem?] at hv
    obtain ⟨q, hq⟩ := hv
    simp only [Go.Sort.putCells, Array.getElem?_mapIdx, Nat.zero_le, Nat.zero_add, true_and, Nat.sub_zero] at hq
    cases hc : c[q]? with
    | none => rw [hc] at hq; cases hq
    | some u =>
      rw [hc] at hq
      simp only [Option.map_some, Option.some.injEq] at hq
      split at hq
      ·rename_i hqF
       rw [getElem!_pos F q hqF] at hq
       subst hq
       exact mR _ (dG _)
      ·subst hq
       exact p0 _ (Array.mem_of_getElem? hc)
  · have hi := lt_of_getElem? q1
    have hj := lt_of_getElem? q2
    rw [hz e (Cb q1)] at hj
    have hb : i * z + j < F.size := by
      rw [hF]
      have := HJ z (show i + 1 ≤ ji.length from hi)
      rw [Gg, Kf] at this
      omega
    simp only [Go.Sort.putCells, Array.getElem?_mapIdx, Nat.zero_le, Nat.zero_add, true_and, Nat.sub_zero] at q3
    cases hc : c[i * z + j]? with
    | none => rw [hc] at q3; cases q3
    | some u =>
      rw [hc] at q3
      simp only [Option.map_some, Option.some.injEq] at q3
      rw [if_pos hb, getElem!_pos F _ hb] at q3
      refine (j4 i j e v x q1 q2 ?_).le hle
      rw [LZ hb]
      exact congrArg some q3)
 have oE : Bel (Go.Sort.putRow id (Go.Sort.ahead w m) (E.blk r) 0 F).heap.size (Go.Sort.putRow id (Go.Sort.ahead w m) (E.blk r) 0 F) (Go.Sort.grow (Go.Sort.putRow id (Go.Sort.ahead w m) (E.blk r) 0 F) os) :=
  ⟨⟨rfl, rfl, rfl, by simp [Go.Sort.grow], fun j hj => by simp only [Go.Sort.grow]; rw [Array.getElem?_append_left hj]⟩, Nat.le_refl _⟩
 have ke := hp.1.later oE (fun _ => False) (fun _ q => q.elim)
 have hE : ({ E with F := fun k => E.F k ∨ False } : Env) = E := by simp
 rw [hE] at ke
 exact ⟨ke.1, hp.2.trans ke.2⟩
end
def BZ (n i : Nat) : Nat := if i < n then i else 0
noncomputable def sortIx {β : Type} (cf : β → β → Int) (l : List β) (d : β) : Array Nat := Go.Sort.pdq (Go.Proofs.ltOf fun i j : Nat => cf (l.getD (BZ l.length i) d) (l.getD (BZ l.length j) d)) (Array.range l.length) 0 l.length (Go.Lib.bitLen l.length) true true
noncomputable def sortF {β : Type} (cf : β → β → Int) (l : List β) : List β :=
 match l with
 | [] => []
 | x :: l' => (sortIx cf (x :: l') x).toList.map fun i => (x :: l').getD (BZ (x :: l').length i) x
theorem Fb (h : 0 < n) : BZ n i < n := by unfold BZ; split <;> omega
theorem On (h : i < n) : BZ n i = i := by unfold BZ; rw [if_pos h]
open Go.Sort (SWO) in
open Go.Proofs (ltOf) in
theorem LH {β : Type} {cf : β → β → Int} (hO : SWO (ltOf cf)) (l : List β) (d : β) : SWO (ltOf fun i j : Nat => cf (l.getD (BZ l.length i) d) (l.getD (BZ l.length j) d)) :=
 ⟨fun _ => hO.irrefl _, fun _ _ _ => hO.trans _ _ _, fun _ _ _ => hO.ntrans _ _ _⟩
open Go.Sort (SWO) in
open Go.Proofs (ltOf) in
theorem D5 {β : Type} {cf : β → β → Int} (hO : SWO (ltOf cf)) (l : List β) (d : β) : (sortIx cf l d).size = l.length ∧ (sortIx cf l d).toList.Perm (List.range l.length) ∧
  ∀ i j, i < j → j < l.length → ltOf cf (l.getD (BZ l.length ((sortIx cf l d)[j]!)) d) (l.getD (BZ l.length ((sortIx cf l d)[i]!)) d) = false := by
 have h := Go.Sort.pdq_sorts (ltOf fun i j : Nat => cf (l.getD (BZ l.length i) d) (l.getD (BZ l.length j) d)) (LH hO l d) (Array.range l.length) 0 l.length (Go.Lib.bitLen l.length) true true (Nat.zero_le _) (by simp) (.inl rfl)
 obtain ⟨⟨h1, h2, h3⟩, h4⟩ := h
 have hs : (sortIx cf l d).size = l.length := by rw [sortIx, h1]; simp
 refine ⟨hs, ?_, fun i j jY hj => h4 i j (Nat.zero_le _) jY hj⟩
 have e1 : ((sortIx cf l d).extract 0 l.length) = sortIx cf l d := by rw [← hs]; simp
 have e2 : ((Array.range l.length).extract 0 l.length) = Array.range l.length := by
  have : (Array.range l.length).size = l.length := by simp
  rw [← this]; simp
 rw [e2] at h3
 unfold sortIx at e1
 rw [e1] at h3
 simpa [sortIx] using h3
open Go.Sort (SWO) in
open Go.Proofs (ltOf) in
theorem Br {β : Type} {cf : β → β → Int} (hO : SWO (ltOf cf)) (l : List β) : (sortF cf l).Perm l := by
 cases l with
 | nil => exact .nil
 | cons x l =>
   obtain ⟨h1, h2, _⟩ := D5 hO (x :: l) x
   unfold sortF
   refine (h2.map _).trans (.of_eq ?_)
   apply Sa
   intro i
   rw [BU]
   by_cases hi : i < (x :: l).length
   ·rw [Bo hi]
    simp only [List.getElem?_range hi, Option.map_some, On hi, QW, Bo hi, U4]
   ·rw [XL (by simpa using hi), XL (by simpa using hi)]; rfl
open Go.Sort (SWO) in
open Go.Proofs (ltOf) in
theorem Ez {β : Type} {cf : β → β → Int} (hO : SWO (ltOf cf)) (l : List β) : (sortF cf l).Pairwise fun x y => ¬ cf y x < 0 := by
 cases l with
 | nil => exact .nil
 | cons x l =>
   obtain ⟨h1, _, h3⟩ := D5 hO (x :: l) x
   rw [XQ]
   intro i j hi hj jY
   have hl : (sortF cf (x :: l)).length = (x :: l).length := (Br hO (x :: l)).length_eq
   have hs : (sortIx cf (x :: l) x).toList.length = (x :: l).length := by simpa using h1
   have := h3 i j jY (by omega)
   have nX : i < (sortIx cf (x :: l) x).size := by rw [h1]; omega
   have uD : j < (sortIx cf (x :: l) x).size := by rw [h1]; omega
   rw [getElem!_pos _ i nX, getElem!_pos _ j uD] at this
   simpa [sortF, ltOf] using this
section
variable {P : Program} {F0 : Nat → Prop} {w0 w : World} {E : Env} {t : TypeId} {z : Nat} {es : List (List Dat)} {ck : Nat}
theorem Nf {g : Nat} {vx vy : Value} {px py : PV} {r : Int} {F : Nat → Prop} (hp : PCall P g [px, py] (.v (.one (.lit (.int .i64 r))))) {blk m : Nat} {A : Array Value} {os : Array Obj} (hF : ∀ k, F k → k < w.heap.size ∧ k ≠ blk)
  (hx : PVRep F w vx px) (hy : PVRep F w vy py) :
  Calls P g #[vx, vy] (Go.Sort.grow (Go.Sort.putRow id (Go.Sort.ahead w m) blk 0 A) os) fun e w' => e = .returned (.int .i64 r) ∧ ∃ q uA, w' = Go.Sort.grow ((Go.Sort.grow (Go.Sort.putRow id (Go.Sort.ahead w m) blk 0 A) os).drewN q) uA := by
 have j3 : (Go.Sort.putRow id (Go.Sort.ahead w m) blk 0 A).heap.size = w.heap.size := by simp
 have hW : ∀ k, F k → (Go.Sort.grow (Go.Sort.putRow id (Go.Sort.ahead w m) blk 0 A) os).heap[k]? = w.heap[k]? := by
  intro k hk
  obtain ⟨h1, h2⟩ := hF k hk
  simp only [Go.Sort.grow]
  rw [Array.getElem?_append_left (by rw [j3]; exact h1), Dm _ _ _ _ k h2]
  rfl
 have y3 : ∀ {v : Value} {p : PV}, PVRep F w v p → SRep (It F) (Go.Sort.grow (Go.Sort.putRow id (Go.Sort.ahead w m) blk 0 A) os) v p.s := by
  intro v p h
  have : PVRep F (Go.Sort.grow (Go.Sort.putRow id (Go.Sort.ahead w m) blk 0 A) os) v p := by
    cases p with
    | one x => exact DRep.mono (fun _ q => q) hW h
    | agg xs =>
      obtain ⟨vs, h1, h2, h3⟩ := h
      exact ⟨vs, h1, h2, fun i u x hu hx => (h3 i u x hu hx).mono (fun _ q => q) hW⟩
  exact PVRep.srep (E := It F) this
 refine Calls.mono (hp.2 F _ [vx, vy] (fun k hk => ?_) rfl (fun i v x mr rN => ?_)) fun e w' he => ?_
 ·simp only [Go.Sort.grow, Array.size_append]
  have := (hF k hk).1
  omega
 ·match i with
  | 0 => simp at mr rN; subst mr; subst rN; exact y3 hx
  | 1 => simp at mr rN; subst mr; subst rN; exact y3 hy
  | i + 2 => simp at mr
 ·obtain ⟨v, rfl, hb, hr⟩ := he
  have : v = .int .i64 r := hr.lit_inv
  subst this
  exact ⟨rfl, Zl hb⟩
variable {β : Type} {enc : β → List Dat} {cf : β → β → Int} {l : List β} {x0 : β} {c : Array Value}
def IX (c : Array Value) (z n i : Nat) : List Value := (List.range z).map fun j => c.getD (BZ n i * z + j) (.int .i64 0)
theorem QI {z j : Nat} (hj : j < z) : (IX c z n i)[j]? = some (c.getD (BZ n i * z + j) (.int .i64 0)) := by
 simp [IX, hj]
open Go.Sort (SWO) in
open Go.Proofs (ltOf) in
theorem Ng (hO : SWO (ltOf cf)) (hl : l ≠ []) (jj : l = x0 :: l.tail) {mem : List Blk} {r k : Nat} (hw : WOk F0 w0 E w mem ck) (hm : mem[r]? = some (.arr k t z (l.map enc))) (jB : E.cap r ≠ 0) (hk : ∀ x, (enc x).length = z)
  (hb : w.heap[E.blk r]? = some (.cells c t (0, 0))) (m : Nat) (os : Array Obj) (A : Array Value) (hA : A.size = l.length * z) (y4 : ∀ i j, i < l.length → j < z → A[i * z + j]? = some (c.getD (BZ l.length ((sortIx cf l x0)[i]!) * z + j) (.int .i64 0))) :
  WOk F0 w0 E (Go.Sort.grow (Go.Sort.putRow id (Go.Sort.ahead w m) (E.blk r) 0 A) os) (mem.set r (.arr k t z ((sortF cf l).map enc))) ck ∧ EnvLe E w E (Go.Sort.grow (Go.Sort.putRow id (Go.Sort.ahead w m) (E.blk r) 0 A) os) := by
 have ho := hw.mem.ok r _ hm
 obtain ⟨o1, o2, o3, o4, o5, o6⟩ := ho
 rcases o6 with o6 | ⟨p1, p2, c', p3, p4, p0, p5⟩
 ·exact absurd o6 jB
 obtain rfl : c' = c := by rw [hb] at p3; cases p3; rfl
 have hn : 0 < l.length := by cases l with | nil => exact absurd rfl hl | cons => simp
 have hlen := (Br hO l).length_eq
 obtain ⟨s1, s2, _⟩ := D5 hO l x0
 have j8 : ∀ i j, i < l.length → j < z → i * z + j < c'.size := by
  intro i j hi hj
  rw [p4]
  simp only [BR] at o4
  have := HJ z (show i + 1 ≤ E.cap r by omega)
  rw [Gg, Kf] at this
  omega
 have oF : sortF cf l = (sortIx cf l x0).toList.map fun i => l.getD (BZ l.length i) x0 := by
  rw [jj]; rfl
 refine hw.sorted hm jB A (by simp [hlen, hA]) (by simp [hlen]) (fun e he => by obtain ⟨x, _, rfl⟩ := List.mem_map.1 he; exact hk x) (fun i j e v x q1 q2 q3 => ?_) (fun v hv => ?_) m os
 ·have hi := lt_of_getElem? q1
  simp only [BR, hlen] at hi
  rw [oF] at q1
  simp only [BU, LV, LZ (show i < (sortIx cf l x0).size by omega), Option.map_some, Option.some.injEq] at q1
  subst q1
  have hj := lt_of_getElem? q2
  rw [hk] at hj
  rw [y4 i j hi hj, getElem!_pos _ i (show i < (sortIx cf l x0).size by omega)] at q3
  simp only [Option.some.injEq] at q3
  have hc := Fb (n := l.length) (i := (sortIx cf l x0)[i]'(by omega)) hn
  generalize BZ l.length ((sortIx cf l x0)[i]'(by omega)) = q at hc q2 q3
  refine p5 q j (enc (l.getD q x0)) v x ?_ q2 ?_
  · rw [BU, Bo hc, QW, Bo hc]; rfl
  · rw [← q3, Zy, LZ (j8 q j hc hj)]; rfl
 ·rw [Array.mem_iff_getElem?] at hv
  obtain ⟨q, hq⟩ := hv
  have y5 : q < A.size := (Ox.1 hq).1
  rw [hA] at y5
  have hz : 0 < z := o2
  have hd : q / z < l.length := dS (by rw [OB]; exact y5)
  have oj := ZI q hz
  have := y4 (q / z) (q % z) hd oj
  rw [OB, eg, hq] at this
  simp only [Option.some.injEq] at this
  rw [this]
  have hc := Fb (n := l.length) (i := (sortIx cf l x0)[q / z]!) hn
  rw [Zy, LZ (j8 _ _ hc oj)]
  exact p0 _ (dG _)
end
section
open Go.Sort (SWO HoldsK Holds flatK putRowK putRow grow ahead)
open Go.Proofs (ltOf CmpLays CmpLays1 sortWorldK sortWorld SlLaysF0.n6 SlLaysF.n6)
variable {P : Program} {ρ : Go.Shelf.Ren} {β : Type}
theorem Gl {g : FuncId} (hg : FnOk P g) : ∀ args w, (callFunc g args).run P w = .ok (.enter g args) w := fun args _ => FR hg args
theorem QJ {z : Nat} {c : Array Value} {S : Array Nat} {j : Nat} (hi : i < S.size) (hj : j < z) : (flatK (IX c z n) z S)[i * z + j]? = some (c.getD (BZ n (S[i]!) * z + j) (.int .i64 0)) := by
 have hb : i * z + j < S.size * z := by
  have := HJ z (show i + 1 ≤ S.size from hi)
  rw [Gg, Kf] at this
  omega
 have hz : 0 < z := by omega
 have e1 : (i * z + j) / z = i := by rw [OB, Nat.mul_add_div hz, Nat.div_eq_of_lt hj]; rfl
 have e2 : (i * z + j) % z = j := by rw [OB, Nat.mul_add_mod, dH hj]
 have hq := Go.Sort.get_flatK (IX c z n) z S (i * z + j) hb
 rw [e1, e2] at hq
 rw [LZ (by simpa using hb)]
 rw [getElem!_pos _ _ (by simpa using hb)] at hq
 rw [hq]
 have := QI (c := c) (n := n) (i := S[i]!) hj
 rw [List.getElem!_eq_getElem?_getD, this]
 rfl
theorem Oo (L : SlLaysF0.n6 P ρ) (hf : FnOk P (ρ.f 6)) (t : TypeId) (z : Nat) (hz : 0 < z) (aE : ∀ w, (isAgg (ρ.t 24)).run P w = .ok true w) (zE : ∀ w, (Go.sizeOf (ρ.t 24)).run P w = .ok z w) (enc : β → List Dat) (hk : ∀ x, (enc x).length = z) (cf : β → β → Int) (hO : SWO (ltOf cf)) (g : Nat) (l : List β) (hl : l.length < 4611686018427387904)
   (lB : ∀ x ∈ l, ∀ y ∈ l, PCall P g [.agg (enc x), .agg (enc y)] (.v (.one (.lit (.int .i64 (cf x y)))))) :
   HCall P (ρ.f 6) [.c (.arr 0 0 l.length), .c (.d (.lit (.func (.func g) #[] #[])))] [.arr 0 t z (l.map enc)] (.tup []) [.arr 0 t z ((sortF cf l).map enc)] := by
 refine ⟨rfl, hf, fun F0 w0 => ⟨hf, fun E w vs hw kM hv => ?_⟩⟩
 match vs, kM with
 | [v0, v1], _ =>
 have r0 := hv 0 v0 _ rfl rfl
 have r1 := (hv 1 v1 _ rfl rfl).lit_inv
 subst r1
 have ho := hw.mem.ok 0 _ rfl
 have rZ := ho.1
 have arr := r0.arr_inv rZ
 cases lN : l with
 | nil =>
   subst lN
   obtain ⟨a, cap, rfl⟩ : ∃ a cap, v0 = .slice a 0 cap := by
     rcases arr with ⟨_, _, a, rfl⟩ | ⟨_, rfl⟩
     ·exact ⟨_, _, rfl⟩
     ·exact ⟨_, _, rfl⟩
   refine Calls.mono (Go.Proofs.AnyF.slices_SortFunc_none L a cap (.func (.func g) #[] #[]) w) fun e w' he => ?_
   obtain ⟨rfl, rfl⟩ := he
   exact ⟨_, E, .tup [], _, 0, rfl, EnvLe.refl _ _, hw, .tup [] [] rfl (by simp), ⟨fun s x hx wE => by simpa [Gj, Blk.up, CK, Ch, Blk.vers, sortF] using hx, rfl, fun i hi => by cases i with | zero => rfl | succ i => simp at hi⟩⟩
 | cons x0 l' =>
   have jj : l = x0 :: l.tail := by rw [lN]; rfl
   have j2 : l ≠ [] := by rw [lN]; simp
   rw [← lN]
   clear lN
   have hn : 0 < l.length := by rw [jj]; simp
   rcases arr with ⟨_, h0, _⟩ | ⟨lD, rfl⟩
   · omega
   obtain ⟨o1, o2, o3, o4, o5, o6⟩ := ho
   rcases o6 with o6 | ⟨p1, p2, c, p3, p4, p0, p5⟩
   · omega
   simp only [BR] at o4
   have j8 : ∀ i j, i < l.length → j < z → i * z + j < c.size := by
     intro i j hi hj
     rw [p4]
     have := HJ z (show i + 1 ≤ E.cap 0 by omega)
     rw [Gg, Kf] at this
     omega
   have hblk : E.blk 0 < w.heap.size := (Ox.1 p3).1
   have j4 : ∀ i, PVRep E.F w (.agg (IX c z l.length i).toArray) (.agg (enc (l.getD (BZ l.length i) x0))) := by
     intro i
     have hc := Fb (n := l.length) (i := i) hn
     refine ⟨IX c z l.length i, rfl, by simp [IX, hk], fun j u x hu hx => ?_⟩
     have hj := lt_of_getElem? hx
     rw [hk] at hj
     rw [QI hj] at hu
     simp only [Option.some.injEq] at hu
     refine p5 (BZ l.length i) j _ u x ?_ hx ?_
     ·rw [BU, Bo hc, QW, Bo hc]; rfl
     ·rw [← hu, Zy, LZ (j8 _ j hc hj)]; rfl
   have jt : ∀ i, l.getD (BZ l.length i) x0 ∈ l := fun i => by
     have hc := Fb (n := l.length) (i := i) hn
     rw [QW, Bo hc]
     exact Fo hc
   have nV : HoldsK (IX c z l.length) z w (E.blk 0) 0 (Array.range l.length) := by
     intro q hq
     have pH : q < l.length * z := by simpa using hq
     have hd : q / z < l.length := dS (by rw [OB]; exact pH)
     have hm := ZI q hz
     have := QJ (c := c) (n := l.length) (S := Array.range l.length) (i := q / z) (j := q % z) (by simpa using hd) hm
     rw [OB, eg] at this
     have hr : (Array.range l.length)[q / z]! = q / z := by rw [getElem!_pos _ _ (by simpa using hd)]; simp
     rw [hr, On hd] at this
     rw [Nat.zero_add, getElem!_pos _ q (by simpa using pH)]
     rw [LZ (by simpa using pH)] at this
     simp only [Option.some.injEq] at this
     constructor
     ·rw [Bx p3, this]
      have hdm : q / z * z + q % z = q := by rw [OB]; exact eg q z
      have i7 : q < c.size := by have := j8 (q / z) (q % z) hd hm; omega
      rw [hdm, Zy, LZ i7]; rfl
     ·simp [World.frozen?, p3]
   have mB : ∀ k, E.F k → k < w.heap.size ∧ k ≠ E.blk 0 := fun k hk => ⟨(hw.F k hk).1, fun q => p2 (.inl (q ▸ hk))⟩
   have s0 : CmpLays P g #[] (IX c z l.length) z (fun i j : Nat => cf (l.getD (BZ l.length i) x0) (l.getD (BZ l.length j) x0)) (E.blk 0) 0 (Array.range l.length).size w := by
     intro m os dk _ x y
     have := Nf (w := w) (blk := E.blk 0) (m := m) (A := flatK (IX c z l.length) z dk) (os := os) (lB _ (jt x) _ (jt y)) mB (j4 x) (j4 y)
     exact this
   have mR : ∀ x, ∀ v ∈ IX c z l.length x, v.oneCell' = true := by
     intro x v hv
     obtain ⟨j, hj, rfl⟩ := List.mem_map.1 hv
     have hj : j < z := by simpa using hj
     have hc := Fb (n := l.length) (i := x) hn
     rw [Zy, LZ (j8 _ j hc hj)]
     exact p0 _ (dG _)
   have hg : FnOk P g := (lB x0 (by rw [jj]; simp) x0 (by rw [jj]; simp)).1
   have pE := Go.Proofs.AnyQ.slices_SortFunc_eq L z aE zE (IX c z l.length) (fun x => by simp [IX]) mR _ (LH hO l x0) g #[] (E.blk 0) 0 (E.cap 0) (Array.range l.length) w (Gl hg) s0 nV hblk (by simpa using hl)
   simp only [Array.size_range] at pE
   refine Calls.mono pE fun e w' he => ?_
   obtain ⟨rfl, m, os, rfl⟩ := he
   obtain ⟨s1, _, _⟩ := D5 hO l x0
   have hp := Ng (x0 := x0) (enc := enc) hO j2 jj hw rfl (by omega) hk p3 m os (flatK (IX c z l.length) z (sortIx cf l x0)) (by simp [s1]) (fun i j hi hj => QJ (by omega) hj)
   refine ⟨_, E, .tup [], _, 0, rfl, hp.2, hp.1, .tup [] [] rfl (by simp), ⟨fun s x hx wE => ?_, rfl, fun i hi => by cases i with | zero => rfl | succ i => simp at hi⟩⟩
   simpa [Gj, Blk.up, CK, Ch, Blk.vers] using hx
theorem LI {α : Type} [Inhabited α] (enc : α → Value) (w : World) (blk off : Nat) (d : Array α) : putRow enc w blk off d = putRow id w blk off (d.map enc) := by
 unfold Go.Sort.putRow
 refine Go.Sort.mapBlock_congr w blk _ _ fun c e fr _ => ?_
 unfold Go.Sort.putCells
 apply Array.ext
 ·simp
 ·intro i h1 h2
  simp only [Array.getElem_mapIdx, Array.size_map]
  split
  ·rename_i h
   rw [getElem!_pos d _ (by omega), getElem!_pos (d.map enc) _ (by simp; omega)]
   simp
  ·rfl
def LJ (c : Array Value) (n i : Nat) : Value := c.getD (BZ n i) (.int .i64 0)
theorem Zm (L : SlLaysF.n6 P ρ) (hf : FnOk P (ρ.f 6)) (t : TypeId) (enc : β → Dat) (cf : β → β → Int) (hO : SWO (ltOf cf)) (g : Nat) (l : List β) (hl : l.length < 4611686018427387904)
   (lB : ∀ x ∈ l, ∀ y ∈ l, PCall P g [.one (enc x), .one (enc y)] (.v (.one (.lit (.int .i64 (cf x y)))))) :
   HCall P (ρ.f 6) [.c (.arr 0 0 l.length), .c (.d (.lit (.func (.func g) #[] #[])))] [.arr 0 t 1 (l.map fun x => [enc x])] (.tup []) [.arr 0 t 1 ((sortF cf l).map fun x => [enc x])] := by
 refine ⟨rfl, hf, fun F0 w0 => ⟨hf, fun E w vs hw kM hv => ?_⟩⟩
 match vs, kM with
 | [v0, v1], _ =>
 have r0 := hv 0 v0 _ rfl rfl
 have r1 := (hv 1 v1 _ rfl rfl).lit_inv
 subst r1
 have ho := hw.mem.ok 0 _ rfl
 have rZ := ho.1
 have arr := r0.arr_inv rZ
 cases lN : l with
 | nil =>
   subst lN
   obtain ⟨a, cap, rfl⟩ : ∃ a cap, v0 = .slice a 0 cap := by
     rcases arr with ⟨_, _, a, rfl⟩ | ⟨_, rfl⟩
     ·exact ⟨_, _, rfl⟩
     ·exact ⟨_, _, rfl⟩
   refine Calls.mono (Go.Proofs.AnyF.slices_SortFunc_none { L with } a cap (.func (.func g) #[] #[]) w) fun e w' he => ?_
   obtain ⟨rfl, rfl⟩ := he
   exact ⟨_, E, .tup [], _, 0, rfl, EnvLe.refl _ _, hw, .tup [] [] rfl (by simp), ⟨fun s x hx wE => by simpa [Gj, Blk.up, CK, Ch, Blk.vers, sortF] using hx, rfl, fun i hi => by cases i with | zero => rfl | succ i => simp at hi⟩⟩
 | cons x0 l' =>
   have jj : l = x0 :: l.tail := by rw [lN]; rfl
   have j2 : l ≠ [] := by rw [lN]; simp
   rw [← lN]
   clear lN
   have hn : 0 < l.length := by rw [jj]; simp
   rcases arr with ⟨_, h0, _⟩ | ⟨lD, rfl⟩
   · omega
   obtain ⟨o1, o2, o3, o4, o5, o6⟩ := ho
   rcases o6 with o6 | ⟨p1, p2, c, p3, p4, p0, p5⟩
   · omega
   simp only [BR] at o4
   have j8 : ∀ i, i < l.length → i < c.size := by
     intro i hi
     rw [p4]; omega
   have hblk : E.blk 0 < w.heap.size := (Ox.1 p3).1
   have j4 : ∀ i, PVRep E.F w (LJ c l.length i) (.one (enc (l.getD (BZ l.length i) x0))) := by
     intro i
     have hc := Fb (n := l.length) (i := i) hn
     refine p5 (BZ l.length i) 0 [enc (l.getD (BZ l.length i) x0)] (LJ c l.length i) _ ?_ rfl ?_
     ·rw [BU, Bo hc, QW, Bo hc]; rfl
     ·rw [Nat.mul_one, Nat.add_zero, LJ, Zy, LZ (j8 _ hc)]; rfl
   have jt : ∀ i, l.getD (BZ l.length i) x0 ∈ l := fun i => by
     have hc := Fb (n := l.length) (i := i) hn
     rw [QW, Bo hc]
     exact Fo hc
   have nV : Holds (LJ c l.length) w (E.blk 0) 0 (Array.range l.length) := by
     intro q hq
     have pH : q < l.length := by simpa using hq
     rw [getElem!_pos _ q hq, Nat.zero_add]
     constructor
     ·rw [Bx p3, LJ]
      simp only [Array.getElem_range, On pH]
      rw [Zy, LZ (j8 q pH)]; rfl
     ·simp [World.frozen?, p3]
   have mB : ∀ k, E.F k → k < w.heap.size ∧ k ≠ E.blk 0 := fun k hk => ⟨(hw.F k hk).1, fun q => p2 (.inl (q ▸ hk))⟩
   have s0 : CmpLays1 P g #[] (LJ c l.length) (fun i j : Nat => cf (l.getD (BZ l.length i) x0) (l.getD (BZ l.length j) x0)) (E.blk 0) 0 (Array.range l.length).size w := by
     intro m os dk _ x y
     have := Nf (w := w) (blk := E.blk 0) (m := m) (A := dk.map (LJ c l.length)) (os := os) (lB _ (jt x) _ (jt y)) mB (j4 x) (j4 y)
     rw [← LI] at this
     exact this
   have mR : ∀ x, (LJ c l.length x).oneCell' = true := fun x => by
     have hc := Fb (n := l.length) (i := x) hn
     rw [LJ, Zy, LZ (j8 _ hc)]
     exact p0 _ (dG _)
   have hg : FnOk P g := (lB x0 (by rw [jj]; simp) x0 (by rw [jj]; simp)).1
   have pE := Go.Proofs.Any.slices_SortFunc_eq L (LJ c l.length) mR _ (LH hO l x0) g #[] (E.blk 0) 0 (E.cap 0) (Array.range l.length) w (Gl hg) s0 nV hblk (by simpa using hl)
   simp only [Array.size_range] at pE
   refine Calls.mono pE fun e w' he => ?_
   obtain ⟨rfl, m, os, rfl⟩ := he
   obtain ⟨s1, _, _⟩ := D5 hO l x0
   have hp := Ng (z := 1) (x0 := x0) (enc := fun x => [enc x]) hO j2 jj hw rfl (by omega) (fun _ => rfl) p3 m os ((sortIx cf l x0).map (LJ c l.length)) (by simp [s1]) (fun i j hi hj => by
     have wF : j = 0 := by omega
     subst wF
     rw [Nat.mul_one, Nat.mul_one, Nat.add_zero, Nat.add_zero, Array.getElem?_map, LZ (by omega), getElem!_pos _ i (by omega)]
     rfl)
   rw [← LI] at hp
   refine ⟨_, E, .tup [], _, 0, rfl, hp.2, hp.1, .tup [] [] rfl (by simp), ⟨fun s x hx wE => ?_, rfl, fun i hi => by cases i with | zero => rfl | succ i => simp at hi⟩⟩
   simpa [Gj, Blk.up, CK, Ch, Blk.vers] using hx
end
end Go.Abs
end
