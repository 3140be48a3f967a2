/-
  The plain types of the program: values, rows, entries, numbers (for laws about tapes).
-/
import Derived.Test.YtojfhaoleedmkaaGreatMpd
import Derived.Shelf.SlSortCmp.WholeK
import Derived.Shelf.SlSortCmp.Whole1
import Derived.Shelf.SlSortCmp.NoneTotal
import Derived.Test.YtojfhaoleedmkaaGreatTypes
import Derived.Recover
import Derived.Test.YtojfhaoleedmkaaGreatEnc
import Derived.Test.YtojfhaoleedmkaaGreatLast
section
namespace Go.Abs
open Go.RowKit
theorem grow_of {W w' : World} (h : Bel W.heap.size W w') : ∃ q os, w' = Go.Sort.grow (W.drewN q) os := by
  refine ⟨w'.drawn - W.drawn, w'.heap.extract W.heap.size w'.heap.size, ?_⟩
  have hs := h.size
  have hh : W.heap ++ w'.heap.extract W.heap.size w'.heap.size = w'.heap := by
    apply Array.ext
    · simp; omega
    · intro i h1 h2
      rw [Array.getElem_append]
      split
      · rename_i hi
        have := h.block i hi
        rw [Array.getElem?_eq_getElem hi, Array.getElem?_eq_getElem h2] at this
        simpa using this.symm
      · rename_i hi
        simp only [Array.getElem_extract]
        congr 1
        omega
  have hd := h.drawn
  have e1 := h.b.os
  have e2 := h.b.tape
  have e3 := h.b.output
  cases w' with | mk a b c d e =>
  cases W with | mk a' b' c' d' e' =>
  simp only at hh hd e1 e2 e3 hs
  simp only [Go.Sort.grow, World.drewN, hh, e1, e2, e3]
  congr 1
  omega
theorem heap_putRow_other (w : World) (blk off : Nat) (F : Array Value) (k : Nat) (h : k ≠ blk) : (Go.Sort.putRow id w blk off F).heap[k]? = w.heap[k]? := by
  simp only [Go.Sort.putRow, Go.Sort.mapBlock, Array.getElem?_modify]
  rw [if_neg (Ne.symm h)]
theorem heap_putRow_same (w : World) (blk off : Nat) (F c : Array Value) (t : TypeId) (h : w.heap[blk]? = some (.cells c t (0, 0))) : (Go.Sort.putRow id w blk off F).heap[blk]? = some (.cells (Go.Sort.putCells id off F c) t (0, 0)) := by
  simp only [Go.Sort.putRow, Go.Sort.mapBlock, Array.getElem?_modify, h]
  rfl
section
variable {F0 : Nat → Prop} {w0 w : World} {E : Env} {mem : List Blk} {ck : Nat}
theorem WOk.sorted {r k z : Nat} {t : TypeId} {es es' : List (List Dat)} (h : WOk F0 w0 E w mem ck) (hm : mem[r]? = some (.arr k t z es)) (hcap : E.cap r ≠ 0) (F : Array Value) (hF : F.size = es'.length * z) (hlen : es'.length = es.length) (hz : ∀ e, e ∈ es' → e.length = z)
    (hrep : ∀ (i j : Nat) e v x, es'[i]? = some e → e[j]? = some x → F[i * z + j]? = some v → DRep E.F w v x) (hone : ∀ v ∈ F, v.oneCell' = true) (m : Nat) (os : Array Obj) :
    WOk F0 w0 E (Go.Sort.grow (Go.Sort.putRow id (Go.Sort.ahead w m) (E.blk r) 0 F) os) (mem.set r (.arr k t z es')) ck ∧ EnvLe E w E (Go.Sort.grow (Go.Sort.putRow id (Go.Sort.ahead w m) (E.blk r) 0 F) os) := by
  have ho := h.mem.ok r _ hm
  have hlt := ho.lt (show Blk.has E r _ from hcap)
  obtain ⟨o1, o2, o3, o4, o5, o6⟩ := ho
  rcases o6 with o6 | ⟨p1, p2, c, p3, p4, p0, p5⟩
  · exact absurd o6 hcap
  have hbel : Bel w0.heap.size w (Go.Sort.putRow id (Go.Sort.ahead w m) (E.blk r) 0 F) := by
    refine ⟨⟨rfl, rfl, rfl, by simp, fun j hj => ?_⟩, ?_⟩
    · rw [heap_putRow_other _ _ _ _ j (by omega)]; rfl
    · simp
  have hp := h.poke r _ (.arr k t z es') hm hcap (fun q => q) hbel (fun i hi => by rw [heap_putRow_other _ _ _ _ i hi]; rfl) (fun hle => by
    refine ⟨o1, o2, hz, by rw [hlen]; exact o4, o5, .inr ⟨p1, p2, _, heap_putRow_same (Go.Sort.ahead w m) (E.blk r) 0 F c t p3, by simpa [Go.Sort.putCells] using p4, fun v hv => ?_, fun i j e v x q1 q2 q3 => ?_⟩⟩
    · rw [Array.mem_iff_getElem?] at hv
      obtain ⟨q, hq⟩ := hv
      simp only [Go.Sort.putCells, Array.getElem?_mapIdx, Nat.zero_le, Nat.zero_add, true_and, Nat.sub_zero] at hq
      cases hc : c[q]? with
      | none => rw [hc] at hq; cases hq
      | some u =>
        rw [hc] at hq
        simp only [Option.map_some, Option.some.injEq] at hq
        split at hq
        · rename_i hqF
          rw [getElem!_pos F q hqF] at hq
          subst hq
          exact hone _ (Array.getElem_mem _)
        · subst hq
          exact p0 _ (Array.mem_of_getElem? hc)
    · have hi := lt_of_getElem? q1
      have hj := lt_of_getElem? q2
      rw [hz e (List.mem_of_getElem? q1)] at hj
      have hb : i * z + j < F.size := by
        rw [hF]
        have := Nat.mul_le_mul_right z (show i + 1 ≤ es'.length from hi)
        rw [Nat.add_mul, Nat.one_mul] at this
        omega
      simp only [Go.Sort.putCells, Array.getElem?_mapIdx, Nat.zero_le, Nat.zero_add, true_and, Nat.sub_zero] at q3
      cases hc : c[i * z + j]? with
      | none => rw [hc] at q3; cases q3
      | some u =>
        rw [hc] at q3
        simp only [Option.map_some, Option.some.injEq] at q3
        rw [if_pos hb, getElem!_pos F _ hb] at q3
        refine (hrep i j e v x q1 q2 ?_).le hle
        rw [Array.getElem?_eq_getElem hb]
        exact congrArg some q3)
  have hgr : Bel (Go.Sort.putRow id (Go.Sort.ahead w m) (E.blk r) 0 F).heap.size (Go.Sort.putRow id (Go.Sort.ahead w m) (E.blk r) 0 F) (Go.Sort.grow (Go.Sort.putRow id (Go.Sort.ahead w m) (E.blk r) 0 F) os) :=
    ⟨⟨rfl, rfl, rfl, by simp [Go.Sort.grow], fun j hj => by simp only [Go.Sort.grow]; rw [Array.getElem?_append_left hj]⟩, Nat.le_refl _⟩
  have hlat := hp.1.later hgr (fun _ => False) (fun _ q => q.elim)
  have hE : ({ E with F := fun k => E.F k ∨ False } : Env) = E := by simp
  rw [hE] at hlat
  exact ⟨hlat.1, hp.2.trans hlat.2⟩
end
def clipI (n i : Nat) : Nat := if i < n then i else 0
noncomputable def sortIx {β : Type} (cf : β → β → Int) (l : List β) (d : β) : Array Nat := Go.Sort.pdq (Go.Proofs.ltOf fun i j : Nat => cf (l.getD (clipI l.length i) d) (l.getD (clipI l.length j) d)) (Array.range l.length) 0 l.length (Go.Lib.bitLen l.length) true true
noncomputable def sortF {β : Type} (cf : β → β → Int) (l : List β) : List β :=
  match l with
  | [] => []
  | x :: l' => (sortIx cf (x :: l') x).toList.map fun i => (x :: l').getD (clipI (x :: l').length i) x
theorem clip_lt {n i : Nat} (h : 0 < n) : clipI n i < n := by unfold clipI; split <;> omega
theorem clip_id {n i : Nat} (h : i < n) : clipI n i = i := by unfold clipI; rw [if_pos h]
open Go.Sort (SWO) in
open Go.Proofs (ltOf) in
theorem swo_clip {β : Type} {cf : β → β → Int} (hO : SWO (ltOf cf)) (l : List β) (d : β) : SWO (ltOf fun i j : Nat => cf (l.getD (clipI l.length i) d) (l.getD (clipI l.length j) d)) :=
  ⟨fun _ => hO.irrefl _, fun _ _ _ => hO.trans _ _ _, fun _ _ _ => hO.ntrans _ _ _⟩
open Go.Sort (SWO) in
open Go.Proofs (ltOf) in
theorem sortIx_says {β : Type} {cf : β → β → Int} (hO : SWO (ltOf cf)) (l : List β) (d : β) : (sortIx cf l d).size = l.length ∧ (sortIx cf l d).toList.Perm (List.range l.length) ∧
    ∀ i j, i < j → j < l.length → ltOf cf (l.getD (clipI l.length ((sortIx cf l d)[j]!)) d) (l.getD (clipI l.length ((sortIx cf l d)[i]!)) d) = false := by
  have h := Go.Sort.pdq_sorts (ltOf fun i j : Nat => cf (l.getD (clipI l.length i) d) (l.getD (clipI l.length j) d)) (swo_clip hO l d) (Array.range l.length) 0 l.length (Go.Lib.bitLen l.length) true true (Nat.zero_le _) (by simp) (.inl rfl)
  obtain ⟨⟨h1, h2, h3⟩, h4⟩ := h
  have hs : (sortIx cf l d).size = l.length := by rw [sortIx, h1]; simp
  refine ⟨hs, ?_, fun i j hij hj => h4 i j (Nat.zero_le _) hij hj⟩
  have e1 : ((sortIx cf l d).extract 0 l.length) = sortIx cf l d := by rw [← hs]; simp
  have e2 : ((Array.range l.length).extract 0 l.length) = Array.range l.length := by
    have : (Array.range l.length).size = l.length := by simp
    rw [← this]; simp
  rw [e2] at h3
  unfold sortIx at e1
  rw [e1] at h3
  simpa [sortIx] using h3
open Go.Sort (SWO) in
open Go.Proofs (ltOf) in
theorem sortF_perm {β : Type} {cf : β → β → Int} (hO : SWO (ltOf cf)) (l : List β) : (sortF cf l).Perm l := by
  cases l with
  | nil => exact .nil
  | cons x l =>
    obtain ⟨h1, h2, _⟩ := sortIx_says hO (x :: l) x
    unfold sortF
    refine (h2.map _).trans (.of_eq ?_)
    apply List.ext_getElem?
    intro i
    rw [List.getElem?_map]
    by_cases hi : i < (x :: l).length
    · rw [List.getElem?_eq_getElem hi]
      simp only [List.getElem?_range hi, Option.map_some, clip_id hi, List.getD_eq_getElem?_getD, List.getElem?_eq_getElem hi, Option.getD_some]
    · rw [List.getElem?_eq_none (by simpa using hi), List.getElem?_eq_none (by simpa using hi)]; rfl
open Go.Sort (SWO) in
open Go.Proofs (ltOf) in
theorem sortF_sorted {β : Type} {cf : β → β → Int} (hO : SWO (ltOf cf)) (l : List β) : (sortF cf l).Pairwise fun x y => ¬ cf y x < 0 := by
  cases l with
  | nil => exact .nil
  | cons x l =>
    obtain ⟨h1, _, h3⟩ := sortIx_says hO (x :: l) x
    rw [List.pairwise_iff_getElem]
    intro i j hi hj hij
    have hl : (sortF cf (x :: l)).length = (x :: l).length := (sortF_perm hO (x :: l)).length_eq
    have hs : (sortIx cf (x :: l) x).toList.length = (x :: l).length := by simpa using h1
    have := h3 i j hij (by omega)
    have hi' : i < (sortIx cf (x :: l) x).size := by rw [h1]; omega
    have hj' : j < (sortIx cf (x :: l) x).size := by rw [h1]; omega
    rw [getElem!_pos _ i hi', getElem!_pos _ j hj'] at this
    simpa [sortF, ltOf] using this
section
variable {P : Program} {F0 : Nat → Prop} {w0 w : World} {E : Env} {t : TypeId} {z : Nat} {es : List (List Dat)} {ck : Nat}
theorem cmp_grows {g : Nat} {vx vy : Value} {px py : PV} {r : Int} {F : Nat → Prop} (hp : PCall P g [px, py] (.v (.one (.lit (.int .i64 r))))) {blk m : Nat} {A : Array Value} {os : Array Obj} (hF : ∀ k, F k → k < w.heap.size ∧ k ≠ blk)
    (hx : PVRep F w vx px) (hy : PVRep F w vy py) :
    Calls P g #[vx, vy] (Go.Sort.grow (Go.Sort.putRow id (Go.Sort.ahead w m) blk 0 A) os) fun e w' => e = .returned (.int .i64 r) ∧ ∃ q os', w' = Go.Sort.grow ((Go.Sort.grow (Go.Sort.putRow id (Go.Sort.ahead w m) blk 0 A) os).drewN q) os' := by
  have hsz : (Go.Sort.putRow id (Go.Sort.ahead w m) blk 0 A).heap.size = w.heap.size := by simp
  have hW : ∀ k, F k → (Go.Sort.grow (Go.Sort.putRow id (Go.Sort.ahead w m) blk 0 A) os).heap[k]? = w.heap[k]? := by
    intro k hk
    obtain ⟨h1, h2⟩ := hF k hk
    simp only [Go.Sort.grow]
    rw [Array.getElem?_append_left (by rw [hsz]; exact h1), heap_putRow_other _ _ _ _ k h2]
    rfl
  have hpv : ∀ {v : Value} {p : PV}, PVRep F w v p → SRep (env0 F) (Go.Sort.grow (Go.Sort.putRow id (Go.Sort.ahead w m) blk 0 A) os) v p.s := by
    intro v p h
    have : PVRep F (Go.Sort.grow (Go.Sort.putRow id (Go.Sort.ahead w m) blk 0 A) os) v p := by
      cases p with
      | one x => exact DRep.mono (fun _ q => q) hW h
      | agg xs =>
        obtain ⟨vs, h1, h2, h3⟩ := h
        exact ⟨vs, h1, h2, fun i u x hu hx => (h3 i u x hu hx).mono (fun _ q => q) hW⟩
    exact PVRep.srep (E := env0 F) this
  refine Calls.mono (hp.2 F _ [vx, vy] (fun k hk => ?_) rfl (fun i v x hvi hxi => ?_)) fun e w' he => ?_
  · simp only [Go.Sort.grow, Array.size_append]
    have := (hF k hk).1
    omega
  · match i with
    | 0 => simp at hvi hxi; subst hvi; subst hxi; exact hpv hx
    | 1 => simp at hvi hxi; subst hvi; subst hxi; exact hpv hy
    | i + 2 => simp at hvi
  · obtain ⟨v, rfl, hb, hr⟩ := he
    have : v = .int .i64 r := hr.lit_inv
    subst this
    exact ⟨rfl, grow_of hb⟩
variable {β : Type} {enc : β → List Dat} {cf : β → β → Int} {l : List β} {x0 : β} {c : Array Value}
def encM (c : Array Value) (z n i : Nat) : List Value := (List.range z).map fun j => c.getD (clipI n i * z + j) (.int .i64 0)
theorem encM_get {z n i j : Nat} (hj : j < z) : (encM c z n i)[j]? = some (c.getD (clipI n i * z + j) (.int .i64 0)) := by
  simp [encM, hj]
open Go.Sort (SWO) in
open Go.Proofs (ltOf) in
theorem sort_post (hO : SWO (ltOf cf)) (hl : l ≠ []) (hx0 : l = x0 :: l.tail) {mem : List Blk} {r k : Nat} (hw : WOk F0 w0 E w mem ck) (hm : mem[r]? = some (.arr k t z (l.map enc))) (hcap : E.cap r ≠ 0) (hk : ∀ x, (enc x).length = z)
    (hb : w.heap[E.blk r]? = some (.cells c t (0, 0))) (m : Nat) (os : Array Obj) (A : Array Value) (hA : A.size = l.length * z) (hAg : ∀ i j, i < l.length → j < z → A[i * z + j]? = some (c.getD (clipI l.length ((sortIx cf l x0)[i]!) * z + j) (.int .i64 0))) :
    WOk F0 w0 E (Go.Sort.grow (Go.Sort.putRow id (Go.Sort.ahead w m) (E.blk r) 0 A) os) (mem.set r (.arr k t z ((sortF cf l).map enc))) ck ∧ EnvLe E w E (Go.Sort.grow (Go.Sort.putRow id (Go.Sort.ahead w m) (E.blk r) 0 A) os) := by
  have ho := hw.mem.ok r _ hm
  obtain ⟨o1, o2, o3, o4, o5, o6⟩ := ho
  rcases o6 with o6 | ⟨p1, p2, c', p3, p4, p0, p5⟩
  · exact absurd o6 hcap
  obtain rfl : c' = c := by rw [hb] at p3; cases p3; rfl
  have hn : 0 < l.length := by cases l with | nil => exact absurd rfl hl | cons => simp
  have hlen := (sortF_perm hO l).length_eq
  obtain ⟨s1, s2, _⟩ := sortIx_says hO l x0
  have hfit : ∀ i j, i < l.length → j < z → i * z + j < c'.size := by
    intro i j hi hj
    rw [p4]
    simp only [List.length_map] at o4
    have := Nat.mul_le_mul_right z (show i + 1 ≤ E.cap r by omega)
    rw [Nat.add_mul, Nat.one_mul] at this
    omega
  have hsf : sortF cf l = (sortIx cf l x0).toList.map fun i => l.getD (clipI l.length i) x0 := by
    rw [hx0]; rfl
  refine hw.sorted hm hcap A (by simp [hlen, hA]) (by simp [hlen]) (fun e he => by obtain ⟨x, _, rfl⟩ := List.mem_map.1 he; exact hk x) (fun i j e v x q1 q2 q3 => ?_) (fun v hv => ?_) m os
  · have hi := lt_of_getElem? q1
    simp only [List.length_map, hlen] at hi
    rw [hsf] at q1
    simp only [List.getElem?_map, Array.getElem?_toList, Array.getElem?_eq_getElem (show i < (sortIx cf l x0).size by omega), Option.map_some, Option.some.injEq] at q1
    subst q1
    have hj := lt_of_getElem? q2
    rw [hk] at hj
    rw [hAg i j hi hj, getElem!_pos _ i (show i < (sortIx cf l x0).size by omega)] at q3
    simp only [Option.some.injEq] at q3
    have hc := clip_lt (n := l.length) (i := (sortIx cf l x0)[i]'(by omega)) hn
    generalize clipI l.length ((sortIx cf l x0)[i]'(by omega)) = q at hc q2 q3
    refine p5 q j (enc (l.getD q x0)) v x ?_ q2 ?_
    · rw [List.getElem?_map, List.getElem?_eq_getElem hc, List.getD_eq_getElem?_getD, List.getElem?_eq_getElem hc]; rfl
    · rw [← q3, Array.getD_eq_getD_getElem?, Array.getElem?_eq_getElem (hfit q j hc hj)]; rfl
  · rw [Array.mem_iff_getElem?] at hv
    obtain ⟨q, hq⟩ := hv
    have hqs : q < A.size := (Array.getElem?_eq_some_iff.1 hq).1
    rw [hA] at hqs
    have hz : 0 < z := o2
    have hd : q / z < l.length := Nat.div_lt_of_lt_mul (by rw [Nat.mul_comm]; exact hqs)
    have hmod := Nat.mod_lt q hz
    have := hAg (q / z) (q % z) hd hmod
    rw [Nat.mul_comm, Nat.div_add_mod, hq] at this
    simp only [Option.some.injEq] at this
    rw [this]
    have hc := clip_lt (n := l.length) (i := (sortIx cf l x0)[q / z]!) hn
    rw [Array.getD_eq_getD_getElem?, Array.getElem?_eq_getElem (hfit _ _ hc hmod)]
    exact p0 _ (Array.getElem_mem _)
end
section
open Go.Sort (SWO HoldsK Holds flatK putRowK putRow grow ahead)
open Go.Proofs (ltOf CmpLays CmpLays1 sortWorldK sortWorld SlLaysF0.n6 SlLaysF.n6)
variable {P : Program} {ρ : Go.Shelf.Ren} {β : Type}
theorem callFunc_enters {g : FuncId} (hg : FnOk P g) : ∀ args w, (callFunc g args).run P w = .ok (.enter g args) w := fun args _ => callFunc_run hg args
theorem flat_get {z n : Nat} {c : Array Value} {S : Array Nat} {i j : Nat} (hi : i < S.size) (hj : j < z) : (flatK (encM c z n) z S)[i * z + j]? = some (c.getD (clipI n (S[i]!) * z + j) (.int .i64 0)) := by
  have hb : i * z + j < S.size * z := by
    have := Nat.mul_le_mul_right z (show i + 1 ≤ S.size from hi)
    rw [Nat.add_mul, Nat.one_mul] at this
    omega
  have hz : 0 < z := by omega
  have e1 : (i * z + j) / z = i := by rw [Nat.mul_comm, Nat.mul_add_div hz, Nat.div_eq_of_lt hj]; rfl
  have e2 : (i * z + j) % z = j := by rw [Nat.mul_comm, Nat.mul_add_mod, Nat.mod_eq_of_lt hj]
  have hq := Go.Sort.get_flatK (encM c z n) z S (i * z + j) hb
  rw [e1, e2] at hq
  rw [Array.getElem?_eq_getElem (by simpa using hb)]
  rw [getElem!_pos _ _ (by simpa using hb)] at hq
  rw [hq]
  have := encM_get (c := c) (n := n) (i := S[i]!) hj
  rw [List.getElem!_eq_getElem?_getD, this]
  rfl
theorem sortK_h (L : SlLaysF0.n6 P ρ) (hf : FnOk P (ρ.f 6)) (t : TypeId) (z : Nat) (hz : 0 < z) (aE : ∀ w, (isAgg (ρ.t 24)).run P w = .ok true w) (zE : ∀ w, (Go.sizeOf (ρ.t 24)).run P w = .ok z w) (enc : β → List Dat) (hk : ∀ x, (enc x).length = z) (cf : β → β → Int) (hO : SWO (ltOf cf)) (g : Nat) (l : List β) (hl : l.length < 4611686018427387904)
    (hcmp : ∀ x ∈ l, ∀ y ∈ l, PCall P g [.agg (enc x), .agg (enc y)] (.v (.one (.lit (.int .i64 (cf x y)))))) :
    HCall P (ρ.f 6) [.c (.arr 0 0 l.length), .c (.d (.lit (.func (.func g) #[] #[])))] [.arr 0 t z (l.map enc)] (.tup []) [.arr 0 t z ((sortF cf l).map enc)] := by
  refine ⟨rfl, hf, fun F0 w0 => ⟨hf, fun E w vs hw hvl hv => ?_⟩⟩
  match vs, hvl with
  | [v0, v1], _ =>
  have r0 := hv 0 v0 _ rfl rfl
  have r1 := (hv 1 v1 _ rfl rfl).lit_inv
  subst r1
  have ho := hw.mem.ok 0 _ rfl
  have hver := ho.1
  have arr := r0.arr_inv hver
  cases hlc : l with
  | nil =>
    subst hlc
    obtain ⟨a, cap, rfl⟩ : ∃ a cap, v0 = .slice a 0 cap := by
      rcases arr with ⟨_, _, a, rfl⟩ | ⟨_, rfl⟩
      · exact ⟨_, _, rfl⟩
      · exact ⟨_, _, rfl⟩
    refine Calls.mono (Go.Proofs.AnyF.slices_SortFunc_none L a cap (.func (.func g) #[] #[]) w) fun e w' he => ?_
    obtain ⟨rfl, rfl⟩ := he
    exact ⟨_, E, .tup [], _, 0, rfl, EnvLe.refl _ _, hw, .tup [] [] rfl (by simp), ⟨fun s x hx hlv => by simpa [upL, Blk.up, actV, verOf, Blk.vers, sortF] using hx, rfl, fun i hi => by cases i with | zero => rfl | succ i => simp at hi⟩⟩
  | cons x0 l' =>
    have hx0 : l = x0 :: l.tail := by rw [hlc]; rfl
    have hne : l ≠ [] := by rw [hlc]; simp
    rw [← hlc]
    clear hlc
    have hn : 0 < l.length := by rw [hx0]; simp
    rcases arr with ⟨_, h0, _⟩ | ⟨hcp, rfl⟩
    · omega
    obtain ⟨o1, o2, o3, o4, o5, o6⟩ := ho
    rcases o6 with o6 | ⟨p1, p2, c, p3, p4, p0, p5⟩
    · omega
    simp only [List.length_map] at o4
    have hfit : ∀ i j, i < l.length → j < z → i * z + j < c.size := by
      intro i j hi hj
      rw [p4]
      have := Nat.mul_le_mul_right z (show i + 1 ≤ E.cap 0 by omega)
      rw [Nat.add_mul, Nat.one_mul] at this
      omega
    have hblk : E.blk 0 < w.heap.size := (Array.getElem?_eq_some_iff.1 p3).1
    have hrep : ∀ i, PVRep E.F w (.agg (encM c z l.length i).toArray) (.agg (enc (l.getD (clipI l.length i) x0))) := by
      intro i
      have hc := clip_lt (n := l.length) (i := i) hn
      refine ⟨encM c z l.length i, rfl, by simp [encM, hk], fun j u x hu hx => ?_⟩
      have hj := lt_of_getElem? hx
      rw [hk] at hj
      rw [encM_get hj] at hu
      simp only [Option.some.injEq] at hu
      refine p5 (clipI l.length i) j _ u x ?_ hx ?_
      · rw [List.getElem?_map, List.getElem?_eq_getElem hc, List.getD_eq_getElem?_getD, List.getElem?_eq_getElem hc]; rfl
      · rw [← hu, Array.getD_eq_getD_getElem?, Array.getElem?_eq_getElem (hfit _ j hc hj)]; rfl
    have hmem : ∀ i, l.getD (clipI l.length i) x0 ∈ l := fun i => by
      have hc := clip_lt (n := l.length) (i := i) hn
      rw [List.getD_eq_getElem?_getD, List.getElem?_eq_getElem hc]
      exact List.getElem_mem hc
    have hHolds : HoldsK (encM c z l.length) z w (E.blk 0) 0 (Array.range l.length) := by
      intro q hq
      have hq' : q < l.length * z := by simpa using hq
      have hd : q / z < l.length := Nat.div_lt_of_lt_mul (by rw [Nat.mul_comm]; exact hq')
      have hm := Nat.mod_lt q hz
      have := flat_get (c := c) (n := l.length) (S := Array.range l.length) (i := q / z) (j := q % z) (by simpa using hd) hm
      rw [Nat.mul_comm, Nat.div_add_mod] at this
      have hr : (Array.range l.length)[q / z]! = q / z := by rw [getElem!_pos _ _ (by simpa using hd)]; simp
      rw [hr, clip_id hd] at this
      rw [Nat.zero_add, getElem!_pos _ q (by simpa using hq')]
      rw [Array.getElem?_eq_getElem (by simpa using hq')] at this
      simp only [Option.some.injEq] at this
      constructor
      · rw [cell_of_block p3, this]
        have hdm : q / z * z + q % z = q := by rw [Nat.mul_comm]; exact Nat.div_add_mod q z
        have hlt : q < c.size := by have := hfit (q / z) (q % z) hd hm; omega
        rw [hdm, Array.getD_eq_getD_getElem?, Array.getElem?_eq_getElem hlt]; rfl
      · simp [World.frozen?, p3]
    have hFb : ∀ k, E.F k → k < w.heap.size ∧ k ≠ E.blk 0 := fun k hk => ⟨(hw.F k hk).1, fun q => p2 (.inl (q ▸ hk))⟩
    have hCmp : CmpLays P g #[] (encM c z l.length) z (fun i j : Nat => cf (l.getD (clipI l.length i) x0) (l.getD (clipI l.length j) x0)) (E.blk 0) 0 (Array.range l.length).size w := by
      intro m os dk _ x y
      have := cmp_grows (w := w) (blk := E.blk 0) (m := m) (A := flatK (encM c z l.length) z dk) (os := os) (hcmp _ (hmem x) _ (hmem y)) hFb (hrep x) (hrep y)
      exact this
    have hone : ∀ x, ∀ v ∈ encM c z l.length x, v.oneCell' = true := by
      intro x v hv
      obtain ⟨j, hj, rfl⟩ := List.mem_map.1 hv
      have hj : j < z := by simpa using hj
      have hc := clip_lt (n := l.length) (i := x) hn
      rw [Array.getD_eq_getD_getElem?, Array.getElem?_eq_getElem (hfit _ j hc hj)]
      exact p0 _ (Array.getElem_mem _)
    have hg : FnOk P g := (hcmp x0 (by rw [hx0]; simp) x0 (by rw [hx0]; simp)).1
    have hcon := Go.Proofs.AnyQ.slices_SortFunc_eq L z aE zE (encM c z l.length) (fun x => by simp [encM]) hone _ (swo_clip hO l x0) g #[] (E.blk 0) 0 (E.cap 0) (Array.range l.length) w (callFunc_enters hg) hCmp hHolds hblk (by simpa using hl)
    simp only [Array.size_range] at hcon
    refine Calls.mono hcon fun e w' he => ?_
    obtain ⟨rfl, m, os, rfl⟩ := he
    obtain ⟨s1, _, _⟩ := sortIx_says hO l x0
    have hp := sort_post (x0 := x0) (enc := enc) hO hne hx0 hw rfl (by omega) hk p3 m os (flatK (encM c z l.length) z (sortIx cf l x0)) (by simp [s1]) (fun i j hi hj => flat_get (by omega) hj)
    refine ⟨_, E, .tup [], _, 0, rfl, hp.2, hp.1, .tup [] [] rfl (by simp), ⟨fun s x hx hlv => ?_, rfl, fun i hi => by cases i with | zero => rfl | succ i => simp at hi⟩⟩
    simpa [upL, Blk.up, actV, verOf, Blk.vers] using hx
def enc1 (c : Array Value) (n i : Nat) : Value := c.getD (clipI n i) (.int .i64 0)
end
end Go.Abs
end
section
section
section
namespace Go.Proofs.YtojfhaoleedmkaaGreat
open Go.Abs Go.RowKit
set_option linter.unusedSimpArgs false
set_option maxRecDepth 100000
theorem bagValid1_d : DeferOk Tryz.prog 110 0 := by
  refine ⟨⟨_, Tryz.func110, by kernel_rfl, by kernel_rfl⟩, fun vs w hl => ?_⟩
  match vs, hl with
  | [], _ =>
    refine callsD_of_wpS Tryz.func110 rfl fun c₀ cs hu => ?_
    apply wpS_region
    simp [wpOpsS, go_sem, recoverD, hu, Tryz.ntmps110, Exit.thenS]
    cases c₀
    simp_all [bodyPostS, results, Tryz.results110]
end Go.Proofs.YtojfhaoleedmkaaGreat
end
section
namespace Go.Proofs.YtojfhaoleedmkaaGreat
open Go.Abs Go.RowKit
attribute [local irreducible] ARun kont MCall PCall HCall resVal SF CF CFs defersOk slotsIn memIn fin finM VLe
set_option linter.unusedSimpArgs false
set_option maxRecDepth 100000
structure Entry where
  row : List Val
  count : Int
def Entry.d (e : Entry) : List Dat := [rowD e.row, .lit (.int .i64 e.count)]
def bagD (l : List Entry) : Dat := .sl (l.map Entry.d)
def countOK (n : Int) : Bool := decide (-262144 ≤ n) && decide (n ≤ 262144)
def Entry.ok (e : Entry) : Bool := rowOK e.row && countOK e.count && decide (e.count ≠ 0)
def goodFrom : Option Entry → List Entry → Bool
  | _, [] => true
  | p, e :: l => e.ok && (match p with | none => true | some q => decide (rowCmp q.row e.row < 0)) && goodFrom (some e) l
def bagValid (l : List Entry) : Bool := decide (l.length ≤ 4096) && goodFrom none l
def prevOf (l : List Entry) (i : Nat) : Option Entry := if i = 0 then none else l[i - 1]?
theorem countOK_c (n : Int) : PCall Tryz.prog 86 [.one (.lit (.int .i64 n))] (.v (.one (.lit (.bool (countOK n))))) := by
  refine pcallN hT Tryz.func86 Tryz.ntmps86 [.tmp 2] fun B => ?_
  repeat' (first | refine ks ?_ | refine ko ?_ | refine s_split rfl rfl (fun hb => ?_) (fun hb => ?_) | refine f_ret1 def_nil ?_ | refine t_tmp ?_)
  all_goals (refine congrArg Dat.lit (congrArg Value.bool ?_); simp_all [countOK]; try omega)
theorem inRange_c (n : Int) : PCall Tryz.prog 143 [.one (.lit (.int .i64 n))] (.v (.one (.lit (.bool (countOK n))))) := by
  refine pcallN hT Tryz.func143 Tryz.ntmps143 [.tmp 2] fun B => ?_
  repeat' (first | refine ks ?_ | refine ko ?_ | refine s_split rfl rfl (fun hb => ?_) (fun hb => ?_) | refine f_ret1 def_nil ?_ | refine t_tmp ?_)
  all_goals (refine congrArg Dat.lit (congrArg Value.bool ?_); simp_all [countOK]; try omega)
theorem validEntry_c (e : Entry) : PCall Tryz.prog 101 [.agg e.d] (.v (.one (.lit (.bool (countOK e.count && rowOK e.row))))) := by
  refine pcallN hT Tryz.func101 Tryz.ntmps101 [.tmp 2] fun B => ?_
  repeat' (first | refine ks ?_ | refine ko ?_ | refine s_call (inRange_c _) ?_ | refine s_call (validRow_c _) ?_ | refine s_split rfl rfl (fun hb => ?_) (fun hb => ?_) | refine f_ret1 def_nil ?_ | refine t_tmp ?_)
  all_goals (refine congrArg Dat.lit (congrArg Value.bool ?_); simp_all)
theorem good_step {l : List Entry} {i : Nat} {e : Entry} (h : l[i]? = some e) : goodFrom (prevOf l i) (l.drop i) = (e.ok && (match prevOf l i with | none => true | some q => decide (rowCmp q.row e.row < 0)) && goodFrom (prevOf l (i + 1)) (l.drop (i + 1))) := by
  rw [drop_cons h, goodFrom.eq_def]
  have : prevOf l (i + 1) = some e := by simp [prevOf, h]
  rw [this]
set_option maxHeartbeats 1000000 in
theorem bagValid_c (l : List Entry) : PCall Tryz.prog 61 [.one (bagD l)] (.v (.one (.lit (.bool (bagValid l))))) := by
  refine pcallN hT Tryz.func61 Tryz.ntmps61 [.tmp 2] fun B => ?_
  repeat' (first | refine ks ?_ | refine ko ?_ | refine s_if rfl (fun hb => ?_) (fun hb => ?_) | refine s_indexD ?_ (hel := (by first | exact rfl)) | refine s_kT ?_ | refine s_split rfl rfl (fun hb => ?_) (fun hb => ?_) | refine f_ret1 (by repeat (first | exact def_nil | refine def_cons bagValid1_d ?_)) ?_ | refine t_tmp ?_)
  · refine congrArg Dat.lit (congrArg Value.bool ?_)
    simp [bagValid]
    intros; omega
  · have hl : l.length ≤ 4096 := by omega
    refine s_lp (X := Nat) [2, 3, 4, 10, 11, 12, 13, 14, 15, 16, 17, 18, 19, 20, 21, 22, 23, 24, 25, 26, 27, 28, 29, 30, 31, 32, 33, 34, 35, 36, 37] (fun x => x ≤ l.length ∧ goodFrom none l = goodFrom (prevOf l x) (l.drop x)) (fun x lz => (10, (.c (.d (.lit (.int .i64 x))))) :: lz) (fun x => []) (fun x => l.length - x) (0) ?_ ?_ ?_ ?_
    repeat' (first | exact slots_nil | refine kw ?_ | exact memIn_nil | omega)
    · exact ⟨by simp, by simp [prevOf]⟩
    rintro i c ⟨hi, hinv⟩
    by_cases hlt : i < l.length
    · have hv : l[i]? = some l[i] := List.getElem?_eq_getElem hlt
      generalize l[i] = e at hv
      rw [good_step hv] at hinv
      rcases i with _ | j
      · have hp : prevOf l 0 = none := rfl
        rw [hp] at hinv
        repeat' (first | refine ks ?_ | refine ko ?_ | refine s_if rfl (fun hb => ?_) (fun hb => ?_) | refine s_indexD ?_ (hel := (by first | exact idx_map hv (by omega) | exact hv | exact rfl)) | refine s_call (validEntry_c _) ?_ | refine s_call (compareRows_c _ _) ?_ | refine s_kT ?_ | refine s_split rfl rfl (fun hb => ?_) (fun hb => ?_) | refine f_ret1 (by repeat (first | exact def_nil | refine def_cons bagValid1_d ?_)) ?_ | refine t_tmp ?_)
        all_goals first
          | (refine congrArg Dat.lit (congrArg Value.bool ?_); simp only [bagValid, hinv, Entry.ok]; cases h1 : rowOK e.row <;> cases h2 : countOK e.count <;> simp_all <;> done)
          | (refine congrArg Dat.lit (congrArg Value.bool ?_); simp only [bagValid, hinv]; simp; intros; omega)
          | ((apply s_round (1); all_goals (try dsimp only); all_goals (try (repeat' (first | exact slots_nil | refine kw ?_ | exact memIn_nil | omega)))); (try exact ⟨by omega, by rw [hinv]; simp_all [Entry.ok]⟩))
      · have hu : l[j]? = some l[j] := List.getElem?_eq_getElem (by omega)
        generalize l[j] = p at hu
        have hp : prevOf l (j + 1) = some p := by simp [prevOf, hu]
        rw [hp] at hinv
        repeat' (first | refine ks ?_ | refine ko ?_ | refine s_if rfl (fun hb => ?_) (fun hb => ?_) | refine s_indexD ?_ (hel := (by first | exact idx_map hv (by omega) | exact idx_map hu (by omega) | exact hv | exact hu | exact rfl)) | refine s_call (validEntry_c _) ?_ | refine s_call (compareRows_c _ _) ?_ | refine s_kT ?_ | refine s_split rfl rfl (fun hb => ?_) (fun hb => ?_) | refine f_ret1 (by repeat (first | exact def_nil | refine def_cons bagValid1_d ?_)) ?_ | refine t_tmp ?_)
        all_goals first
          | (refine congrArg Dat.lit (congrArg Value.bool ?_); simp only [bagValid, hinv, Entry.ok]; cases h1 : rowOK e.row <;> cases h2 : countOK e.count <;> simp_all <;> done)
          | (refine congrArg Dat.lit (congrArg Value.bool ?_); simp only [bagValid, hinv]; simp; intros; omega)
          | ((apply s_round (j + 1 + 1); all_goals (try dsimp only); all_goals (try (repeat' (first | exact slots_nil | refine kw ?_ | exact memIn_nil | omega)))); (try exact ⟨by omega, by rw [hinv]; simp_all [Entry.ok]⟩))
    · repeat' (first | refine ks ?_ | refine ko ?_ | refine s_if rfl (fun hb => ?_) (fun hb => ?_) | refine s_indexD ?_ (hel := (by first | exact rfl)) | refine s_kT ?_ | refine s_split rfl rfl (fun hb => ?_) (fun hb => ?_) | refine f_ret1 (by repeat (first | exact def_nil | refine def_cons bagValid1_d ?_)) ?_ | refine t_tmp ?_)
      refine congrArg Dat.lit (congrArg Value.bool ?_)
      rw [List.drop_eq_nil_of_le (by omega)] at hinv
      simp [bagValid, hinv, hl, goodFrom]
set_option maxHeartbeats 1000000 in
theorem refBagValid_c (l : List Entry) : PCall Tryz.prog 64 [.one (bagD l)] (.v (.one (.lit (.bool (bagValid l))))) := by
  refine pcallN hT Tryz.func64 Tryz.ntmps64 [.tmp 2] fun B => ?_
  repeat' (first | refine ks ?_ | refine ko ?_ | refine s_if rfl (fun hb => ?_) (fun hb => ?_) | refine s_indexD ?_ (hel := (by first | exact rfl)) | refine s_kT ?_ | refine s_split rfl rfl (fun hb => ?_) (fun hb => ?_) | refine f_ret1 def_nil ?_ | refine t_tmp ?_)
  · refine congrArg Dat.lit (congrArg Value.bool ?_)
    simp [bagValid]
    intros; omega
  · have hl : l.length ≤ 4096 := by omega
    refine s_lp (X := Nat) [2, 3, 7, 8, 9, 10, 11, 12, 13, 14, 15, 16, 17, 18, 19, 20, 21, 22, 23, 24, 25, 26, 27, 28, 29, 30, 31, 32, 33, 34, 35, 36, 37, 38, 39, 40, 41, 42, 43, 44, 45, 46, 47, 48, 49, 50, 51, 52, 53, 54, 55] (fun x => x ≤ l.length ∧ goodFrom none l = goodFrom (prevOf l x) (l.drop x)) (fun x lz => (3, (.c (.d (.lit (.int .i64 x))))) :: lz) (fun x => []) (fun x => l.length - x) (0) ?_ ?_ ?_ ?_
    repeat' (first | exact slots_nil | refine kw ?_ | exact memIn_nil | omega)
    · exact ⟨by simp, by simp [prevOf]⟩
    rintro i c ⟨hi, hinv⟩
    by_cases hlt : i < l.length
    · have hv : l[i]? = some l[i] := List.getElem?_eq_getElem hlt
      generalize l[i] = e at hv
      rw [good_step hv] at hinv
      rcases i with _ | j
      · have hp : prevOf l 0 = none := rfl
        rw [hp] at hinv
        repeat' (first | refine ks ?_ | refine ko ?_ | refine s_if rfl (fun hb => ?_) (fun hb => ?_) | refine s_indexD ?_ (hel := (by first | exact idx_map hv (by omega) | exact hv | exact rfl)) | refine s_call (refValidRow_c _) ?_ | refine s_call (countOK_c _) ?_ | refine s_call (refCompareRows_c _ _) ?_ | refine s_kT ?_ | refine s_split rfl rfl (fun hb => ?_) (fun hb => ?_) | refine f_ret1 def_nil ?_ | refine t_tmp ?_)
        all_goals first
          | (refine congrArg Dat.lit (congrArg Value.bool ?_); simp only [bagValid, hinv, Entry.ok]; cases h1 : rowOK e.row <;> cases h2 : countOK e.count <;> simp_all <;> done)
          | (refine congrArg Dat.lit (congrArg Value.bool ?_); simp only [bagValid, hinv]; simp; intros; omega)
          | ((apply s_round (1); all_goals (try dsimp only); all_goals (try (repeat' (first | exact slots_nil | refine kw ?_ | exact memIn_nil | omega)))); (try exact ⟨by omega, by rw [hinv]; simp_all [Entry.ok]⟩))
      · have hu : l[j]? = some l[j] := List.getElem?_eq_getElem (by omega)
        generalize l[j] = p at hu
        have hp : prevOf l (j + 1) = some p := by simp [prevOf, hu]
        rw [hp] at hinv
        repeat' (first | refine ks ?_ | refine ko ?_ | refine s_if rfl (fun hb => ?_) (fun hb => ?_) | refine s_indexD ?_ (hel := (by first | exact idx_map hv (by omega) | exact idx_map hu (by omega) | exact hv | exact hu | exact rfl)) | refine s_call (refValidRow_c _) ?_ | refine s_call (countOK_c _) ?_ | refine s_call (refCompareRows_c _ _) ?_ | refine s_kT ?_ | refine s_split rfl rfl (fun hb => ?_) (fun hb => ?_) | refine f_ret1 def_nil ?_ | refine t_tmp ?_)
        all_goals first
          | (refine congrArg Dat.lit (congrArg Value.bool ?_); simp only [bagValid, hinv, Entry.ok]; cases h1 : rowOK e.row <;> cases h2 : countOK e.count <;> simp_all <;> done)
          | (refine congrArg Dat.lit (congrArg Value.bool ?_); simp only [bagValid, hinv]; simp; intros; omega)
          | ((apply s_round (j + 1 + 1); all_goals (try dsimp only); all_goals (try (repeat' (first | exact slots_nil | refine kw ?_ | exact memIn_nil | omega)))); (try exact ⟨by omega, by rw [hinv]; simp_all [Entry.ok]⟩))
    · repeat' (first | refine ks ?_ | refine ko ?_ | refine s_if rfl (fun hb => ?_) (fun hb => ?_) | refine s_indexD ?_ (hel := (by first | exact rfl)) | refine s_kT ?_ | refine s_split rfl rfl (fun hb => ?_) (fun hb => ?_) | refine f_ret1 def_nil ?_ | refine t_tmp ?_)
      refine congrArg Dat.lit (congrArg Value.bool ?_)
      rw [List.drop_eq_nil_of_le (by omega)] at hinv
      simp [bagValid, hinv, hl, goodFrom]
end Go.Proofs.YtojfhaoleedmkaaGreat
end
end
section
section
namespace Go.Proofs.YtojfhaoleedmkaaGreat
open Go.Abs Go.RowKit
section
variable {P : Program} {T : TypeId → Option TI} {B : Base} {n : Nat} {sl : List (Nat × SVal)} {mem mem1 m1 : List Blk} {ck : Nat} {df : List (FuncId × List Cell)} {r1 r : SVal}
theorem fh_cellG {a t rr k o : Nat} {i : TI} {cs cs1 : List Cell} (hd : defersOk P df) (h : memIn mem m1) (ha : AM (.agg cs1) r) (hk : keptL mem mem1 0 := by repeat' (first | exact trivial | refine And.intro rfl ?_ | refine And.intro trivial ?_)) (hl : Abs.look sl a = .c (.bp rr k o) := by exact rfl) (hmm : mem[rr]? = some (.box k cs) := by exact rfl) (ht : T t = some i := by exact rfl) (hag : i.desc.agg = true := by exact rfl) (hs : decide (o + i.size ≤ cs.length) = true := by exact rfl) (hcs : (cs.drop o).take i.size = cs1 := by repeat' (first | exact nfNil rfl | apply nfCons rfl)) (hr : r1.up id (actV mem) = r := by exact rfl) (hm : upL id (actV mem) mem1 0 = m1 := by repeat' (first | exact nfNil rfl | apply nfCons rfl)) : kont P B (finM P T [.cell a t] (fun r m _ => HR m mem1 r r1)) [] .ret ⟨n, sl, mem, ck, df⟩ := by
  subst hcs
  refine ⟨hd, ?_⟩
  simp only [resM, resVal, St.get, hl, aLoad, ht, hag, hmm]
  refine ⟨.inl trivial, trivial, by simpa using hs, ?_⟩
  exact hr_mk hm hr h ha hk
end
attribute [local irreducible] ARun kont MCall PCall HCall resVal SF CF CFs defersOk slotsIn memIn fin finM VLe
set_option linter.unusedSimpArgs false
set_option maxRecDepth 100000
set_option maxHeartbeats 4000000
def iD (n : Int) : List Dat := [.lit (.int .i64 n)]
def numD (l : List Int) : Dat := .sl (l.map iD)
structure Tape where
  l : List Int
  at_ : Nat
structure Tape.ok (t : Tape) : Prop where
  len : t.l.length ≤ 17592186044416
  pos : t.at_ ≤ 4 * t.l.length
def Tape.raw (t : Tape) : Int :=
  let x := t.l.getD (t.at_ % t.l.length) 0
  if 0 < t.at_ / t.l.length then xorInt .i64 (shrInt .i64 x ((t.at_ / t.l.length : Nat) : Int)) ((t.at_ / t.l.length : Nat) : Int) else x
def Tape.stop (t : Tape) (n : Int) : Prop := n < 2 ∨ t.l.length = 0 ∨ 4 * t.l.length ≤ t.at_
instance (t : Tape) (n : Int) : Decidable (t.stop n) := by unfold Tape.stop; infer_instance
def Tape.nx (t : Tape) (n : Int) : Int := if t.stop n then 0 else ((t.raw).tmod n + n).tmod n
def Tape.go (t : Tape) (n : Int) : Tape := if t.stop n then t else ⟨t.l, t.at_ + 1⟩
theorem Tape.nx_bd (t : Tape) (n : Int) : 0 ≤ t.nx n ∧ (t.nx n < n ∨ t.nx n = 0) := by
  unfold Tape.nx
  split
  · exact ⟨by omega, .inr rfl⟩
  · rename_i h
    have hn : 2 ≤ n := by unfold Tape.stop at h; omega
    have h1 : -n < (t.raw).tmod n := Int.lt_tmod_of_pos _ (by omega)
    have h2 : 0 ≤ (t.raw).tmod n + n := by omega
    rw [Int.tmod_eq_emod_of_nonneg h2]
    exact ⟨Int.emod_nonneg _ (by omega), .inl (Int.emod_lt_of_pos _ (by omega))⟩
theorem Tape.ok.go {t : Tape} (h : t.ok) (n : Int) : (t.go n).ok := by
  unfold Tape.go
  split
  · exact h
  · rename_i hs
    unfold Tape.stop at hs
    exact ⟨h.len, by have := h.pos; simp only; omega⟩
theorem u64w (z : Int) : IntKind.u64.wrap z = z % 18446744073709551616 := by
  simp only [IntKind.wrap, IntKind.signed, IntKind.bits]
  simp
theorem u64w_nn (z : Int) : 0 ≤ IntKind.u64.wrap z := by rw [u64w]; omega
theorem u64w_id {z : Int} (h1 : 0 ≤ z) (h2 : z < 18446744073709551616) : IntKind.u64.wrap z = z := by rw [u64w]; omega
theorem next_h (t : Tape) (n : Int) (ht : t.ok) (hn : n ≤ 1099511627776) (hn' : -1099511627776 ≤ n) : HCall Tryz.prog 42 [.c (.bp 0 0 0), .c (.d (.lit (.int .i64 n)))] [(.box 0 [.d (numD (t).l), .d (.lit (.int .i64 (t).at_))])] (.c (.d (.lit (.int .i64 (t.nx n))))) [(.box 0 [.d (numD (t.go n).l), .d (.lit (.int .i64 (t.go n).at_))])] := by
  obtain ⟨l, at_⟩ := t
  obtain ⟨hl, hat⟩ := ht
  dsimp only at hl hat
  by_cases h1 : n < 2
  · have e : (Tape.mk l at_).stop n := .inl h1
    have e1 : (Tape.mk l at_).nx n = 0 := if_pos e
    have e2 : (Tape.mk l at_).go n = ⟨l, at_⟩ := if_pos e
    rw [e1, e2]
    change HCall _ _ _ [.box 0 [.d (numD l), .d (.lit (.int .i64 at_))]] _ [.box 0 [.d (numD l), .d (.lit (.int .i64 at_))]]
    refine hcallN hT Tryz.func42 Tryz.ntmps42 [.tmp 4] fun B => ?_
    repeat' (first | refine ks ?_ | refine ko ?_ | refine s_if rfl (fun hb => ?_) (fun hb => ?_) | refine s_indexD ?_ (hel := (by first | exact rfl)) | refine s_kT ?_ | refine s_kF ?_ | refine fh_ret1 def_nil ?_ ?_ | exact memIn_nil | refine memIn_same ?_ | exact am_same | refine am_d rfl ?_)
  by_cases h2 : l.length = 0
  · have e : (Tape.mk l at_).stop n := .inr (.inl h2)
    have e1 : (Tape.mk l at_).nx n = 0 := if_pos e
    have e2 : (Tape.mk l at_).go n = ⟨l, at_⟩ := if_pos e
    rw [e1, e2]
    change HCall _ _ _ [.box 0 [.d (numD l), .d (.lit (.int .i64 at_))]] _ [.box 0 [.d (numD l), .d (.lit (.int .i64 at_))]]
    refine hcallN hT Tryz.func42 Tryz.ntmps42 [.tmp 4] fun B => ?_
    repeat' (first | refine ks ?_ | refine ko ?_ | refine s_if rfl (fun hb => ?_) (fun hb => ?_) | refine s_indexD ?_ (hel := (by first | exact rfl)) | refine s_kT ?_ | refine s_kF ?_ | refine fh_ret1 def_nil ?_ ?_ | exact memIn_nil | refine memIn_same ?_ | exact am_same | refine am_d rfl ?_)
  by_cases h3 : 4 * l.length ≤ at_
  · have e : (Tape.mk l at_).stop n := .inr (.inr h3)
    have e1 : (Tape.mk l at_).nx n = 0 := if_pos e
    have e2 : (Tape.mk l at_).go n = ⟨l, at_⟩ := if_pos e
    rw [e1, e2]
    change HCall _ _ _ [.box 0 [.d (numD l), .d (.lit (.int .i64 at_))]] _ [.box 0 [.d (numD l), .d (.lit (.int .i64 at_))]]
    refine hcallN hT Tryz.func42 Tryz.ntmps42 [.tmp 4] fun B => ?_
    repeat' (first | refine ks ?_ | refine ko ?_ | refine s_if rfl (fun hb => ?_) (fun hb => ?_) | refine s_indexD ?_ (hel := (by first | exact rfl)) | refine s_kT ?_ | refine s_kF ?_ | refine fh_ret1 def_nil ?_ ?_ | exact memIn_nil | refine memIn_same ?_ | exact am_same | refine am_d rfl ?_)
  have e : ¬ (Tape.mk l at_).stop n := by rintro (q | q | q); exact h1 q; exact h2 q; exact h3 q
  have e1 : (Tape.mk l at_).nx n = (((Tape.mk l at_).raw).tmod n + n).tmod n := if_neg e
  have e2 : (Tape.mk l at_).go n = ⟨l, at_ + 1⟩ := if_neg e
  rw [e1, e2]
  have ht1 : (at_ : Int).tmod l.length = ((at_ % l.length : Nat) : Int) := by rw [Int.tmod_eq_emod_of_nonneg (by omega)]; rfl
  have ht2 : (at_ : Int).tdiv l.length = ((at_ / l.length : Nat) : Int) := by rw [Int.tdiv_eq_ediv_of_nonneg (by omega)]; rfl
  have hml : at_ % l.length < l.length := Nat.mod_lt _ (by omega)
  have hdl : at_ / l.length ≤ 4 := by
    have : at_ / l.length < 5 := Nat.div_lt_of_lt_mul (by omega)
    omega
  have hv : l[at_ % l.length]? = some l[at_ % l.length] := List.getElem?_eq_getElem hml
  have hraw : (Tape.mk l at_).raw = if 0 < at_ / l.length then xorInt .i64 (shrInt .i64 l[at_ % l.length] ((at_ / l.length : Nat) : Int)) ((at_ / l.length : Nat) : Int) else l[at_ % l.length] := by
    unfold Tape.raw
    simp only [List.getD_eq_getElem?_getD, hv, Option.getD_some]
  rw [hraw]
  generalize l[at_ % l.length] = x at hv
  change HCall _ _ _ [.box 0 [.d (numD l), .d (.lit (.int .i64 at_))]] _ [.box 0 [.d (numD l), .d (.lit (.int .i64 (at_ + 1 : Nat)))]]
  refine hcallN hT Tryz.func42 Tryz.ntmps42 [.tmp 4] fun B => ?_
  have hmn : ∀ y : Int, IntKind.i64.wrap (y.tmod n + n) = y.tmod n + n := fun y => by
    have q1 : -n < y.tmod n := Int.lt_tmod_of_pos _ (by omega)
    have q2 : y.tmod n < n := Int.tmod_lt_of_pos _ (by omega)
    exact wrap_i64 (by omega) (by omega)
  repeat' (first | refine ks ?_ | refine ko ?_ | refine s_if rfl (fun hb => ?_) (fun hb => ?_) | refine s_indexD ?_ (hel := (by first | exact idx_map hv (by omega) | exact hv | exact rfl)) | refine s_shr ?_ (hb := u64w_nn _) | refine s_kT ?_ | refine s_kF ?_ | refine fh_ret1 def_nil ?_ ?_ | exact memIn_nil | refine memIn_same ?_ | exact am_same | refine am_d rfl ?_)
  · rw [hmn, u64w_id (by omega) (by omega), if_pos (by omega)]
  · rw [hmn, if_neg (by omega)]
def Val.ofText (s : ByteArray) : Val := (Val.mk 2 0 s).clean
theorem refText_c (s : ByteArray) : PCall Tryz.prog 127 [.one (.lit (.string s))] (.v (.agg (Val.ofText s).d)) := by
  have h := refClean_c ⟨2, 0, s⟩
  refine pcallN hT Tryz.func127 Tryz.ntmps127 [.cell 2 53] fun B => ?_
  repeat' (first | refine ks ?_ | refine ko ?_ | refine s_call (h) ?_ | refine f_ret1 def_nil ?_ | refine t_cellG ?_ | exact cfs_nil | refine cfs_cons ?_ ?_ | refine cf_d ?_)
  all_goals rfl
theorem new_h (l : List Int) (hl : l.length ≤ 17592186044416) : HCall Tryz.prog 11 [.c (.d (numD l))] [] (.c (.bp 1 1 0)) [.dead, .box 1 [.d (numD l), .d (.lit (.int .i64 (0 : Nat)))]] := by
  have hf : List.take l.length (l.map iD) = l.map iD := take_ge (by simp)
  refine hcallN hT Tryz.func11 Tryz.ntmps11 [.tmp 2] fun B => ?_
  repeat' (first | refine r_freeze 5 rfl rfl (by simp) hf rfl ?_ | refine ks ?_ | refine ko ?_ | refine fh_ret1 def_nil ?_ ?_ | exact memIn_nil | refine memIn_same ?_ | exact am_same)
def shortVals : List Val := [Val.null, Val.ofInt 1, Val.ofInt 2, Val.ofInt 3, Val.ofText ⟨#[97]⟩, Val.ofText ⟨#[98]⟩]
def Tape.short (t : Tape) : Val := shortVals.getD (t.nx 6).toNat Val.null
theorem short_h (t : Tape) (ht : t.ok) : HCall Tryz.prog 84 [.c (.bp 0 0 0)] [(.box 0 [.d (numD (t).l), .d (.lit (.int .i64 (t).at_))])] (.agg (t.short.d.map .d)) [(.box 0 [.d (numD (t.go 6).l), .d (.lit (.int .i64 (t.go 6).at_))])] := by
  have hn := next_h t 6 ht (by omega) (by omega)
  obtain ⟨b1, b2⟩ := t.nx_bd 6
  have hv : shortVals[(t.nx 6).toNat]? = some t.short := by
    unfold Tape.short
    rw [List.getD_eq_getElem?_getD, List.getElem?_eq_getElem (by simp [shortVals]; omega)]; rfl
  have hv1 : (shortVals.map Val.d)[(t.nx 6).toNat]? = some t.short.d := by rw [List.getElem?_map, hv]; rfl
  have i1 := refInt_c 1
  have i2 := refInt_c 2
  have i3 := refInt_c 3
  generalize t.nx 6 = z at hn b1 b2 hv hv1
  generalize t.go 6 = t' at hn
  refine hcallN hT Tryz.func84 Tryz.ntmps84 [.cell 2 53] fun B => ?_
  repeat' (first | refine ks ?_ | refine ko ?_ | refine s_indexD ?_ (hel := (by first | exact idx_map hv1 (by omega) | exact hv1 | exact rfl)) | refine s_call (i1) ?_ | refine s_call (i2) ?_ | refine s_call (i3) ?_ | refine s_call (refText_c _) ?_ | refine s_callH [0] (hn) ?_ | refine fh_cellG def_nil ?_ ?_ | exact memIn_nil | refine memIn_same ?_ | exact am_same)
end Go.Proofs.YtojfhaoleedmkaaGreat
end
section
section
namespace Go.Abs
open Go.RowKit
section
variable {P : Program} {T : TypeId → Option TI} {t : TypeId} {i : TI} {xs : List Dat}
theorem bytes_of (hT : TypesOk P T) (ht : T t = some i) : P.bytesOf t = i.bytes := by
  obtain ⟨f, z, h1, _, h3, _⟩ := (hT t i ht).info
  simp [Program.bytesOf, h1, h3]
def inI (z : Int) : Prop := -9223372036854775808 ≤ z ∧ z ≤ 9223372036854775807
theorem ty_int (hT : TypesOk P T) (ht : T t = some i) (hi : i.desc = .int .i64) (h : TyD P t xs) : ∃ z, xs = [.lit (.int .i64 z)] ∧ inI z := by
  have hu := (hT t i ht).desc
  rw [hi] at hu
  obtain ⟨n, h⟩ := h
  cases n with
  | zero => exact h.elim
  | succ n =>
    simp only [tyD, show P.underlying t = some (.int .i64) from hu] at h
    obtain ⟨z, h1, h2⟩ := h
    refine ⟨z, h1, ?_⟩
    simpa [Lit.wf, IntKind.min, IntKind.max, IntKind.signed, IntKind.bits, inI] using h2
theorem ty_str (hT : TypesOk P T) (ht : T t = some i) (hi : i.desc = .str) (h : TyD P t xs) : ∃ s : ByteArray, xs = [.lit (.string s)] ∧ s.size ≤ reachBytes := by
  have hu := (hT t i ht).desc
  rw [hi] at hu
  obtain ⟨n, h⟩ := h
  cases n with
  | zero => exact h.elim
  | succ n => simpa only [tyD, show P.underlying t = some .string from hu] using h
theorem ty_slice (hT : TypesOk P T) {e : TypeId} {ei : TI} (ht : T t = some i) (hi : i.desc = .slice e) (he : T e = some ei) (h : TyD P t xs) : ∃ es, xs = [.sl es] ∧ es.length * ei.bytes ≤ reachBytes ∧ ∀ el ∈ es, TyD P e el := by
  have hu := (hT t i ht).desc
  rw [hi] at hu
  obtain ⟨n, h⟩ := h
  cases n with
  | zero => exact h.elim
  | succ n =>
    simp only [tyD, show P.underlying t = some (.slice e) from hu] at h
    obtain ⟨es, h1, h2, h3⟩ := h
    rw [bytes_of hT he] at h2
    exact ⟨es, h1, h2, fun el hel => ⟨n, h3 el hel⟩⟩
theorem ty_struct (hT : TypesOk P T) {fs : List (Nat × TypeId)} (ht : T t = some i) (hi : i.desc = .struct fs) (h : TyD P t xs) : pieces (TyD P) P.cellsOf (fs.map (·.2)) xs := by
  have hu := (hT t i ht).desc
  rw [hi] at hu
  obtain ⟨fields, hu, hf⟩ := hu
  obtain ⟨n, h⟩ := h
  cases n with
  | zero => exact h.elim
  | succ n =>
    simp only [tyD, hu] at h
    have e : fs.map (·.2) = fields.toList.map (·.type) := by rw [← hf]; simp
    rw [e]
    exact pieces_mono (fun t a q => ⟨n, q⟩) _ _ h
theorem list_lift {α : Type} {f : α → List Dat} {Q : α → Prop} : ∀ (es : List (List Dat)), (∀ el ∈ es, ∃ a, el = f a ∧ Q a) → ∃ l : List α, es = l.map f ∧ ∀ a ∈ l, Q a
  | [], _ => ⟨[], rfl, by simp⟩
  | e :: es, h => by
    obtain ⟨a, rfl, ha⟩ := h e (by simp)
    obtain ⟨l, rfl, hl⟩ := list_lift es (fun el hel => h el (by simp [hel]))
    exact ⟨a :: l, rfl, fun b hb => by rcases List.mem_cons.1 hb with rfl | hb; exact ha; exact hl b hb⟩
end
end Go.Abs
end
section
namespace Go.Proofs.YtojfhaoleedmkaaGreat
open Go.Abs Go.RowKit
def Val.wf (v : Val) : Prop := inI v.kind ∧ inI v.int ∧ v.text.size ≤ reachBytes
theorem ty_val {xs : List Dat} (h : TyD Tryz.prog 53 xs) : ∃ v : Val, xs = v.d ∧ v.wf := by
  obtain ⟨a, b, rfl, _, h1, a', b', rfl, _, h2, a'', b'', rfl, _, h3, rfl⟩ := ty_struct hT rfl rfl h
  obtain ⟨z1, rfl, w1⟩ := ty_int hT rfl rfl h1
  obtain ⟨z2, rfl, w2⟩ := ty_int hT rfl rfl h2
  obtain ⟨s, rfl, w3⟩ := ty_str hT rfl rfl h3
  exact ⟨⟨z1, z2, s⟩, rfl, w1, w2, w3⟩
theorem ty_row {xs : List Dat} (h : TyD Tryz.prog 47 xs) : ∃ r : List Val, xs = [rowD r] ∧ r.length * 32 ≤ reachBytes ∧ ∀ v ∈ r, v.wf := by
  obtain ⟨es, rfl, h1, h2⟩ := ty_slice hT rfl rfl rfl h
  obtain ⟨l, rfl, hl⟩ := list_lift (f := Val.d) (Q := Val.wf) es (fun el hel => ty_val (h2 el hel))
  exact ⟨l, rfl, by rw [List.length_map] at h1; exact h1, hl⟩
theorem ty_entry {xs : List Dat} (h : TyD Tryz.prog 49 xs) : ∃ e : Entry, xs = e.d ∧ inI e.count := by
  obtain ⟨a, b, rfl, _, h1, a', b', rfl, _, h2, rfl⟩ := ty_struct hT rfl rfl h
  obtain ⟨r, rfl, _⟩ := ty_row h1
  obtain ⟨z2, rfl, w2⟩ := ty_int hT rfl rfl h2
  exact ⟨⟨r, z2⟩, rfl, w2⟩
theorem ty_bag {xs : List Dat} (h : TyD Tryz.prog 25 xs) : ∃ r : List Entry, xs = [bagD r] ∧ r.length * 32 ≤ reachBytes ∧ ∀ e ∈ r, inI e.count := by
  obtain ⟨es, rfl, h1, h2⟩ := ty_slice hT rfl rfl rfl h
  obtain ⟨l, rfl, hl⟩ := list_lift (f := Entry.d) (Q := fun e => inI e.count) es (fun el hel => ty_entry (h2 el hel))
  exact ⟨l, rfl, by rw [List.length_map] at h1; exact h1, hl⟩
theorem ty_nums {xs : List Dat} (h : TyD Tryz.prog 22 xs) : ∃ r : List Int, xs = [numD r] ∧ r.length ≤ 17592186044416 := by
  obtain ⟨es, rfl, h1, h2⟩ := ty_slice hT rfl rfl rfl h
  obtain ⟨l, rfl, hl⟩ := list_lift (f := iD) (Q := inI) es (fun el hel => ty_int hT rfl rfl (h2 el hel))
  refine ⟨l, rfl, ?_⟩
  rw [List.length_map] at h1
  have h2 : l.length * 8 ≤ 140737488351232 := h1
  omega
end Go.Proofs.YtojfhaoleedmkaaGreat
end
end
end
end
