/-
  From the reading of a law's arguments to data as trees, and from a contract to what a law's row asks.
-/
import Derived.Test.YtmpgmjlanngkfaaGreatEnB
import Derived.ProofKit
import Derived.OpenShut
import Derived.SizedLaws
import Derived.Carry
import Derived.ChangeArms
import Derived.ChangeCalls
section
namespace Go.Abs
open Go.ChangeShapes Go.WideShapes Go.ChangeAt Go.RowKit
variable {base : Nat}
def Iv (P : Program) : List Field → Nat → Nat → Bool
 | [], off, Fh => off == Fh
 | f :: fs, off, Fh => (f.offset == off) && Iv P fs (off + P.cellsOf f.type) Fh
def H8 (P : Program) (S : List TypeId) (t : TypeId) : Bool :=
 match P.underlying t with
 | some .bool => P.cellsOf t == 1
 | some (.int _) => P.cellsOf t == 1
 | some .string => P.cellsOf t == 1
 | some (.slice e) => (P.cellsOf t == 1) && S.contains e && Nat.blt 0 (P.cellsOf e)
 | some (.struct fs) => (fs.toList.all fun f => S.contains f.type) && Iv P fs.toList 0 (P.cellsOf t)
 | some (.array n e) => S.contains e && (P.cellsOf t == n * P.cellsOf e)
 | _ => false
def J0 (Q : TypeId → List Dat → Prop) (sz : TypeId → Nat) : List TypeId → List Dat → Prop
 | [], xs => xs = []
 | t :: ts, xs => ∃ a b, xs = a ++ b ∧ a.length = sz t ∧ Q t a ∧ J0 Q sz ts b
def Lm (P : Program) : Nat → TypeId → List Dat → Prop
 | 0, _, _ => False
 | n + 1, t, xs => (match P.underlying t with
   | some .bool => ∃ b, xs = [.lit (.bool b)]
   | some (.int k) => ∃ z, xs = [.lit (.int k z)] ∧ (Lit.int k z).wf = true
   | some .string => ∃ s : ByteArray, xs = [.lit (.string s)] ∧ s.size ≤ reachBytes
   | some (.slice e) => ∃ es, xs = [.sl es] ∧ es.length * P.bytesOf e ≤ reachBytes ∧ ∀ el ∈ es, Lm P n e el
   | some (.struct fs) => J0 (Lm P n) P.cellsOf (fs.toList.map (·.type)) xs
   | some (.array m e) => J0 (Lm P n) P.cellsOf (List.replicate m e) xs
   | _ => False)
def ZI (P : Program) (t : TypeId) (xs : List Dat) : Prop := ∃ n, Lm P n t xs
section
variable {H : Type} {enc : TypeId × Value → H} {P : Program} {w : World} {sp : Nat → Bool} {hd : Bool} {S : List TypeId}
def Reps (w : World) (cs : List Value) (xs : List Dat) : Prop := xs.length = cs.length ∧ ∀ (j : Nat) v y, cs[j]? = some v → xs[j]? = some y → DRep (fun b => b < w.heap.size) w v y
theorem Reps.append {a b : List Value} {x y : List Dat} (h : Reps w a x) (k : Reps w b y) : Reps w (a ++ b) (x ++ y) := by
 refine ⟨by simp [h.1, k.1], fun j v z hv hz => ?_⟩
 by_cases hj : j < a.length
 ·rw [Ku hj] at hv
  rw [Ku (by rw [h.1]; exact hj)] at hz
  exact h.2 j v z hv hz
 ·rw [LB (by omega)] at hv
  rw [LB (by rw [h.1]; omega), h.1] at hz
  exact k.2 _ v z hv hz
theorem Xl {Q : TypeId → List Dat → Prop} {cs : List Value} {Fh : Nat} (hl : cs.length = Fh) : ∀ (fs : List Field) (off : Nat), Iv P fs off Fh = true → off ≤ Fh → (∀ f ∈ fs, ∃ xs, Reps w ((cs.drop f.offset).take (P.cellsOf f.type)) xs ∧ Q f.type xs) →
   ∃ xs, Reps w (cs.drop off) xs ∧ J0 Q P.cellsOf (fs.map (·.type)) xs
 | [], off, ht, hle, _ => by
   simp only [Iv, beq_iff_eq] at ht
   subst ht
   exact ⟨[], ⟨by simp [hl], fun j v y hv hy => by simp at hy⟩, rfl⟩
 | f :: fs, off, ht, hle, h => by
   simp only [Iv, Bi, beq_iff_eq] at ht
   obtain ⟨rfl, ht⟩ := ht
   have hle2 : f.offset + P.cellsOf f.type ≤ Fh := by
    have : ∀ (fs : List Field) (off : Nat), Iv P fs off Fh = true → off ≤ Fh := by
     intro fs
     induction fs with
     | nil => intro off h; simp only [Iv, beq_iff_eq] at h; omega
     | cons g gs ih => intro off h; simp only [Iv, Bi, beq_iff_eq] at h; have := ih _ h.2; omega
    exact this fs _ ht
   obtain ⟨a, ha, hq⟩ := h f (by simp)
   obtain ⟨b, hb, hp⟩ := Xl hl fs (f.offset + P.cellsOf f.type) ht hle2 (fun g hg => h g (by simp [hg]))
   refine ⟨a ++ b, ?_, a, b, rfl, ?_, hq, hp⟩
   ·have : cs.drop f.offset = (cs.drop f.offset).take (P.cellsOf f.type) ++ cs.drop (f.offset + P.cellsOf f.type) := by
     rw [← U5]; exact (XM _ _).symm
    rw [this]
    exact ha.append hb
   ·rw [ha.1]; simp; omega
theorem Ut {Q : TypeId → List Dat → Prop} {cs : List Value} {e : TypeId} {m : Nat} (hl : cs.length = m * P.cellsOf e) (h : ∀ i, i < m → ∃ xs, Reps w ((cs.drop (i * P.cellsOf e)).take (P.cellsOf e)) xs ∧ Q e xs) :
   ∀ k i, k + i = m → ∃ xs, Reps w (cs.drop (i * P.cellsOf e)) xs ∧ J0 Q P.cellsOf (List.replicate k e) xs
 | 0, i, hk => by
   refine ⟨[], ⟨?_, fun j v y hv hy => by simp at hy⟩, rfl⟩
   have : i = m := by omega
   subst this
   simp [hl]
 | k + 1, i, hk => by
   obtain ⟨a, ha, hq⟩ := h i (by omega)
   obtain ⟨b, hb, hp⟩ := Ut hl h k (i + 1) (by omega)
   refine ⟨a ++ b, ?_, a, b, rfl, ?_, hq, hp⟩
   ·have : cs.drop (i * P.cellsOf e) = (cs.drop (i * P.cellsOf e)).take (P.cellsOf e) ++ cs.drop ((i + 1) * P.cellsOf e) := by
     rw [EO, Hw, ← U5]; exact (XM _ _).symm
    rw [this]
    exact ha.append hb
   ·rw [ha.1]
    have : (i + 1) * P.cellsOf e ≤ m * P.cellsOf e := Gb _ (by omega)
    rw [EO, Hw] at this
    simp; omega
theorem DX : ∀ {e : TypeId} {l : List (DataW H)} {d : DataW H}, d ∈ l → ∀ x ∈ d.weights P e, x ∈ DataW.weightsAll P e l
 | e, y :: l, d, hm, x, hx => by
   simp only [DataW.weightsAll, Ej]
   rcases Fb.1 hm with rfl | hm
   ·exact .inl hx
   ·exact .inr (DX hm x hx)
theorem Fg : ∀ {ts : List TypeId} {l : List (DataW H)} {i : Nat} {t : TypeId} {d : DataW H}, ts[i]? = some t → l[i]? = some d → ∀ x ∈ d.weights P t, x ∈ DataW.weightsEach P ts l
 | [], l, i, t, d, ht, _, x, _ => by simp at ht
 | _ :: _, [], i, t, d, _, hd, x, _ => by simp at hd
 | t' :: ts, d' :: l, 0, t, d, ht, hd, x, hx => by
   simp at ht hd
   subst ht; subst hd
   simp only [DataW.weightsEach, Ej]
   exact .inl hx
 | t' :: ts, d' :: l, i + 1, t, d, ht, hd, x, hx => by
   simp only [DataW.weightsEach, Ej]
   exact .inr (Fg (by simpa using ht) (by simpa using hd) x hx)
theorem H9 {a : Addr} {k : Nat} {cs : List Value} (h : w.cells? base a k = some cs) : cs.length = k ∧ ∀ j, j < k → w.cell? (a.add j) = cs[j]? := by
 unfold World.cells? at h
 split at h
 ·exact ⟨by simpa using mapM_some_length h, fun j hj => mapM_some_get h j j (by simp [hj])⟩
 ·cases h
theorem Uu (hS : ∀ t ∈ S, H8 P S t = true) : ∀ (n : Nat) (t : TypeId) (cs : List Value) (x : DataW H × List MemPlace), t ∈ S → DataW.trod enc P w 0 sp hd n t cs = some x → (∀ k ∈ x.1.weights P t, k ≤ reachBytes) →
   ∃ xs, Reps w cs xs ∧ Lm P n t xs := by
 intro n
 induction n with
 | zero => intro t cs x _ h; simp [DataW.trod] at h
 | succ n ih =>
   intro t cs x ht h hwt
   have hp := hS t ht
   unfold H8 at hp
   split at hp
   ·rename_i hu
    obtain ⟨b, rfl, rfl⟩ := DataW.trod_bool hu h
    refine ⟨[.lit (.bool b)], ⟨rfl, fun j v y hv hy => ?_⟩, by simp only [Lm, hu]; exact ⟨b, rfl⟩⟩
    match j with
    | 0 => simp at hv hy; subst hv; subst hy; exact .lit _ rfl
    | j + 1 => simp at hv
   ·rename_i k hu
    obtain ⟨z, rfl, rfl, hz⟩ := DataW.trod_int hu h
    refine ⟨[.lit (.int k z)], ⟨rfl, fun j v y hv hy => ?_⟩, by simp only [Lm, hu]; exact ⟨z, rfl, hz⟩⟩
    match j with
    | 0 => simp at hv hy; subst hv; subst hy; exact .lit _ rfl
    | j + 1 => simp at hv
   ·rename_i hu
    obtain ⟨s, rfl, rfl, _⟩ := DataW.trod_string hu h
    have hs : s.size ≤ reachBytes := hwt _ (by simp [DataW.weights])
    refine ⟨[.lit (.string s)], ⟨rfl, fun j v y hv hy => ?_⟩, by simp only [Lm, hu]; exact ⟨s, rfl, hs⟩⟩
    match j with
    | 0 => simp at hv hy; subst hv; subst hy; exact .lit _ rfl
    | j + 1 => simp at hv
   ·rename_i e hu
    simp only [Bi, beq_iff_eq] at hp
    obtain ⟨⟨_, hpe⟩, hpz⟩ := hp
    have hpe : e ∈ S := by simpa using hpe
    have hpz : 0 < P.cellsOf e := by simp only [Nat.blt, LG] at hpz; omega
    rcases DataW.trod_slice hu h with ⟨rfl, rfl⟩ | ⟨a, len, cap, elems, rest, n', hn, rfl, rfl, _, hlc, hcm, hlen, hel, _, _⟩
    · refine ⟨[.sl []], ⟨rfl, fun j v y hv hy => ?_⟩, by simp only [Lm, hu]; exact ⟨[], rfl, by simp, by simp⟩⟩
      match j with
      | 0 => simp at hv hy; subst hv; subst hy; exact .emp _ _
      | j + 1 => simp at hv
    · obtain rfl : n' = n := by omega
      simp only [DataW.weights, hu] at hwt
      have hby : len * P.bytesOf e ≤ reachBytes := by
        have := hwt _ (List.mem_cons_self ..)
        refine LF (Gb _ ?_) this
        simp; omega
      have hcell : ∀ i, i < len → ∃ cs' xs', w.cells? 0 (a.add (i * P.cellsOf e)) (P.cellsOf e) = some cs' ∧ Reps w cs' xs' ∧ Lm P n' e xs' := by
        intro i hi
        have hq := hel i hi
        rw [Bh (by omega)] at hq
        obtain ⟨cs', h1, h2⟩ := Option.bind_eq_some_iff.1 hq
        obtain ⟨xs', h3, h4⟩ := ih e cs' _ hpe h2 (fun k hk => hwt k (ZP _ (XO _ (DX (Zx (Fp _)) k hk))))
        exact ⟨cs', xs', h1, h3, h4⟩
      cases hl0 : len with
      | zero =>
        refine ⟨[.sl []], ⟨rfl, fun j v y hv hy => ?_⟩, by simp only [Lm, hu]; exact ⟨[], rfl, by simp, by simp⟩⟩
        match j with
        | 0 => simp at hv hy; subst hv; subst hy; exact .emp _ _
        | j + 1 => simp at hv
      | succ len' =>
        have hcs : ∃ F : Nat → List Value, ∀ i, i < len → ∃ xs', w.cells? 0 (a.add (i * P.cellsOf e)) (P.cellsOf e) = some (F i) ∧ Reps w (F i) xs' ∧ Lm P n' e xs' := by
          refine ⟨fun i => ((w.cells? 0 (a.add (i * P.cellsOf e)) (P.cellsOf e)).getD []), fun i hi => ?_⟩
          obtain ⟨cs', xs', h1, h2, h3⟩ := hcell i hi
          exact ⟨xs', by simp only [h1, Sg], by simp only [h1, Sg]; exact h2, h3⟩
        obtain ⟨F, hF⟩ := hcs
        have hG : ∃ G : Nat → List Dat, ∀ i, i < len → w.cells? 0 (a.add (i * P.cellsOf e)) (P.cellsOf e) = some (F i) ∧ Reps w (F i) (G i) ∧ Lm P n' e (G i) := by
          classical
          refine ⟨fun i => if hi : i < len then Classical.choose (hF i hi) else [], fun i hi => ?_⟩
          simp only [hi, dite_true]
          exact Classical.choose_spec (hF i hi)
        obtain ⟨G, hG⟩ := hG
        obtain ⟨b, off, spot⟩ := a
        have h00 := hG 0 (by omega)
        obtain ⟨g1, g2⟩ := H9 h00.1
        have hc0 := g2 0 hpz
        have hspot : spot = none := by
          have : (F 0)[0]? = some ((F 0)[0]'(by omega)) := Bh _
          rw [this] at hc0
          simpa [Addr.add] using World.cell?_spot hc0
        subst hspot
        have hadd : ∀ k, (⟨b, off, none⟩ : Addr).add k = ⟨b, off + k, none⟩ := by
          intro k; unfold Addr.add; split
          · rename_i hk; subst hk; rfl
          · rfl
        have hadd2 : ∀ k j, ((⟨b, off, none⟩ : Addr).add k).add j = ⟨b, off + k + j, none⟩ := by
          intro k j; rw [hadd]; unfold Addr.add; split
          · rename_i hk; subst hk; rfl
          · rfl
        have hb : b < w.heap.size := by
          have : (F 0)[0]? = some ((F 0)[0]'(by omega)) := Bh _
          rw [this, hadd2] at hc0
          unfold World.cell? at hc0
          split at hc0
          · rename_i hq
            exact (Mv.1 hq).1
          · cases hc0
        have hlen' : ((List.range len).map G).length = len := by simp
        have hd' := DRep.sl (F := fun b => b < w.heap.size) (w := w) ((List.range len).map G) b off cap (P.cellsOf e) (fun i j => ((F i)[j]?).getD undef) hb (by rw [hlen']; omega) hcm
          (fun el hel' => by
            obtain ⟨i, hi, rfl⟩ := List.mem_map.1 hel'
            have := hG i (by simpa using hi)
            rw [this.2.1.1, (H9 this.1).1])
          (fun i j hi hj => by
            rw [hlen'] at hi
            obtain ⟨q1, q2⟩ := H9 (hG i hi).1
            have := q2 j hj
            rw [hadd2] at this
            rw [this, Bh (by omega)]
            simp)
          (fun i j el y q1 q2 => by
            have hi := lt_of_getElem? q1
            rw [hlen'] at hi
            rw [B2, List.getElem?_range hi] at q1
            simp at q1
            subst q1
            have hr := (hG i hi).2.1
            have hj := lt_of_getElem? q2
            rw [hr.1] at hj
            exact hr.2 j _ y (by rw [Bh hj]; simp) q2)
        rw [hlen'] at hd'
        refine ⟨[.sl ((List.range len).map G)], ⟨rfl, fun j v y hv hy => ?_⟩, ?_⟩
        · match j with
          | 0 => simp only [List.getElem?_cons_zero, Option.some.injEq] at hv hy; subst hv; subst hy; rw [← hl0]; exact hd'
          | j + 1 => simp at hv
        · simp only [Lm, hu]
          refine ⟨_, rfl, by rw [hlen']; exact hby, fun el hel' => ?_⟩
          obtain ⟨i, hi, rfl⟩ := List.mem_map.1 hel'
          exact (hG i (by simpa using hi)).2.2
   ·rename_i fs hu
    simp only [Bi] at hp
    obtain ⟨hpf, hpt⟩ := hp
    obtain ⟨xs, n', hn, rfl, hl, hxl, hxf⟩ := DataW.trod_struct hu h
    obtain rfl : n' = n := by omega
    simp only [DataW.weights, hu] at hwt
    obtain ⟨ys, h1, h2⟩ := Xl (Q := Lm P n') hl fs.toList 0 hpt (Nat.zero_le _) (fun f hf => by
      obtain ⟨i, hi, rfl⟩ := ZQ.1 hf
      have hfi : fs[i]? = some fs.toList[i] := by rw [← I9]; exact Bh hi
      have hq := hxf i _ hfi
      have hix : i < xs.length := by rw [hxl]; simpa using hi
      rw [Bh hix] at hq
      refine ih _ _ _ (by have := CN.1 hpf _ hf; simpa using this) hq (fun k hk => hwt k ?_)
      exact Fg (i := i) (t := fs.toList[i].type) (d := xs[i].1) (by rw [B2, Bh hi]; rfl) (by rw [B2, Bh hix]; rfl) k hk)
    exact ⟨ys, by simpa using h1, by simp only [Lm, hu]; exact h2⟩
   ·rename_i m e hu
    simp only [Bi, beq_iff_eq] at hp
    obtain ⟨hpe, hpz⟩ := hp
    unfold DataW.trod at h
    rw [hu] at h
    simp only at h
    split at h
    · rename_i hl
      simp only [ZM] at h
      obtain ⟨xs, h1, rfl⟩ := h
      simp only [DataW.weights, hu] at hwt
      have hxl := mapM_some_length h1
      simp only [bR] at hxl
      obtain ⟨ys, q1, q2⟩ := Ut (P := P) (w := w) (Q := Lm P n) (cs := cs) (e := e) (m := m) (by rw [hl, hpz]) (fun i hi => by
        have hq := mapM_some_get h1 i i (by simp [hi])
        have hix : i < xs.length := by omega
        rw [Bh hix] at hq
        exact ih e _ _ (by simpa using hpe) hq (fun k hk => hwt k (DX (Zx (Fp hix)) k hk))) m 0 (by omega)
      exact ⟨ys, by simpa using q1, by simp only [Lm, hu]; exact q2⟩
    · cases h
   ·cases hp
def Uv (P : Program) (t : TypeId) : Bool :=
 match P.underlying t with
 | some (.struct _) => true
 | some (.array _ _) => true
 | _ => false
def cP (P : Program) (t : TypeId) : PV → Prop
 | .one x => Uv P t = false ∧ ZI P t [x]
 | .agg xs => Uv P t = true ∧ ZI P t xs
def Uw (P : Program) : List TypeId → List PV → Prop
 | [], [] => True
 | t :: ts, p :: ps => cP P t p ∧ Uw P ts ps
 | _, _ => False
theorem Wq (hS : ∀ t ∈ S, H8 P S t = true) {t : TypeId} (ht : t ∈ S) {v : Value} {d : DataW H} {ps : List MemPlace} (hval : Value.okWide P w .any base t v) (h : DataW.Trod enc P w 0 sp hd t v d ps) (hwt : ∀ k ∈ d.weights P t, k ≤ reachBytes) :
   ∃ p : PV, cP P t p ∧ SRep (Gp fun b => b < w.heap.size) w v p.s := by
 obtain ⟨n, hn⟩ := h
 obtain ⟨xs, hr, hty⟩ := Uu hS n t _ _ ht hn hwt
 cases hagg : Uv P t with
 | true =>
   have : ∃ cs, v = .agg cs := by
     unfold Uv at hagg
     unfold Value.okWide at hval
     split at hagg
     · rename_i hu; rw [hu] at hval; obtain ⟨cs, rfl, _⟩ := hval; exact ⟨cs, rfl⟩
     · rename_i hu; rw [hu] at hval; obtain ⟨cs, rfl, _⟩ := hval; exact ⟨cs, rfl⟩
     · cases hagg
   obtain ⟨cs, rfl⟩ := this
   simp only [Value.cells] at hr
   refine ⟨.agg xs, ⟨hagg, n, hty⟩, ?_⟩
   have := SRep.agg (E := Gp fun b => b < w.heap.size) (w := w) (xs.map Cell.d) cs.toList (by simp [hr.1]) (fun i u y hu hy => by
     rw [B2] at hy
     cases hx : xs[i]? with
     | none => rw [hx] at hy; cases hy
     | some z => rw [hx] at hy; simp at hy; subst hy; exact .d (hr.2 i u z hu hx))
   simpa [PV.s] using this
 | false =>
   have hv : v.cells = #[v] := by
     have hp := hS t ht
     unfold H8 at hp
     unfold Uv at hagg
     split at hp
     · rename_i hu; obtain ⟨b, rfl⟩ := okWide_bool hu hval; rfl
     · rename_i hu; obtain ⟨b, rfl⟩ := okWide_int hu hval; rfl
     · rename_i hu; obtain ⟨b, rfl⟩ := okWide_string hu hval; rfl
     · rename_i hu; obtain ⟨a, b, c, rfl⟩ := okWide_slice hu hval; rfl
     · rename_i hu; rw [hu] at hagg; cases hagg
     · rename_i hu; rw [hu] at hagg; cases hagg
     · cases hp
   rw [hv] at hr
   match xs, hr with
   | [x], hr => exact ⟨.one x, ⟨hagg, n, hty⟩, .c (.d (hr.2 0 v x rfl rfl))⟩
   | [], hr => have := hr.1; simp at this
   | _ :: _ :: _, hr => have := hr.1; simp at this
theorem Ob (hS : ∀ t ∈ S, H8 P S t = true) {base : Nat} : ∀ (ts : List TypeId) (vs : List Value) (ds : List (DataW H)) (ps : List MemPlace), (∀ t ∈ ts, t ∈ S) → (∀ (j : Nat) t v, ts[j]? = some t → vs[j]? = some v → Value.okWide P w .any base t v) →
   DataW.TrodAll enc P w 0 sp hd ts vs ds ps → (∀ k ∈ DataW.weightsEach P ts ds, k ≤ reachBytes) → ∃ qs : List PV, Uw P ts qs ∧ vs.length = qs.length ∧ ∀ (i : Nat) v x, vs[i]? = some v → qs[i]? = some x → SRep (Gp fun b => b < w.heap.size) w v x.s
 | [], vs, ds, ps, _, _, h, _ => by
   obtain ⟨rfl, rfl, rfl⟩ := trodAll_nil h
   exact ⟨[], trivial, rfl, by simp⟩
 | t :: ts, vs, ds, ps, ht, hval, h, hwt => by
   obtain ⟨v, vs', d, ds', p, q, rfl, rfl, rfl, h1, h2⟩ := trodAll_cons h
   simp only [DataW.weightsEach, Ej] at hwt
   obtain ⟨pv, hp1, hp2⟩ := Wq hS (ht t (by simp)) (hval 0 t v rfl rfl) h1 (fun k hk => hwt k (.inl hk))
   obtain ⟨qs, q1, q2, q3⟩ := Ob hS ts vs' ds' q (fun t h => ht t (by simp [h])) (fun j t v a b => hval (j + 1) t v (by simpa using a) (by simpa using b)) h2 (fun k hk => hwt k (.inr hk))
   refine ⟨pv :: qs, ⟨hp1, q1⟩, by simp [q2], fun i u x hu hx => ?_⟩
   match i with
   | 0 => simp at hu hx; subst hu; subst hx; exact hp2
   | i + 1 => exact q3 i u x (by simpa using hu) (by simpa using hx)
theorem J1 (hl : laidOutB P = true) {W' : World} (hb : Below w.heap.size w W') : ∀ (ts : List TypeId) (vs : List Value) (ds : List (DataW H)) (ps : List MemPlace), (∀ t ∈ ts, P.readableRec t = true ∧ t < P.types.size) → (∀ x ∈ ps, x.block < w.heap.size) →
   DataW.TrodAll enc P w 0 (fun _ => true) true ts vs ds ps → DataW.TrodAll enc P W' 0 (fun b => decide (b < w.heap.size)) true ts vs ds ps
 | [], vs, ds, ps, _, _, h => by
   obtain ⟨rfl, rfl, rfl⟩ := trodAll_nil h
   exact rfl
 | t :: ts, vs, ds, ps, ht, hlt, h => by
   obtain ⟨v, vs', d, ds', p, q, rfl, rfl, rfl, h1, h2⟩ := trodAll_cons h
   exact ⟨p, q, Below.trod hl (ht t (by simp)).1 (ht t (by simp)).2 h1 hb (fun x hx => hlt x (by simp [hx])), J1 hl hb ts vs' ds' q (fun t h => ht t (by simp [h])) (fun x hx => hlt x (by simp [hx])) h2, rfl⟩
theorem Ln {f : FuncId} {fn : Func} {s : ChangeSpec} {tb : TypeId} {apart fresh handsOn : Bool} {args : Array Value} {ds gs : List (DataW H)} {before : List MemPlace}
  (hl : laidOutB P = true) (hS : S.all (H8 P S) = true) (hpar : fn.params.toList.all (fun t => S.contains t && P.readableRec t && decide (t < P.types.size)) = true) (hrt : fn.resultTypes = #[tb]) (htb : P.underlying tb = some .bool)
  (hvars : s.vars = []) (hfn : ∀ ds : List (DataW H), ds.length = fn.params.size → (s.fn H ds).results = [.lit (.bool true)] ∧ (s.fn H ds).args = ds ∧ (s.fn H ds).vars = [])
  (hcall : ∀ ps, Uw P fn.params.toList ps → PCall P f ps (.v (.one (.lit (.bool true)))))
  (hval : ∀ (j : Nat) t v, fn.params[j]? = some t → args[j]? = some v → Value.okWide P w .any base t v)
  (hW : DataW.Whole enc P fn.params.toList s.vars apart w args.toList ds gs before)
  (hsz : (DataW.weightsEach P (fn.params.toList ++ s.plain.varTypes P) (ds ++ gs)).all (· ≤ reachBytes) = true) :
  Calls P f args w fun e W' => ∃ v, e = .returned v ∧ s.post enc P fn apart fresh handsOn false w args v W' := by
 have hW' := hW
 have hlt := hW.lt
 obtain ⟨p, q, hA, hV, rfl, hfz, hnd⟩ := hW
 rw [hvars] at hV
 obtain ⟨rfl, rfl⟩ := trodVars_none hV
 have hlen := Go.trodAll_length hA
 have hpt : ∀ t ∈ fn.params.toList, t ∈ S ∧ P.readableRec t = true ∧ t < P.types.size := by
  intro t ht
  have := CN.1 hpar t ht
  simp only [Bi, decide_eq_true_eq] at this
  exact ⟨by simpa using this.1.1, this.1.2, this.2⟩
 have hwt : ∀ k ∈ DataW.weightsEach P fn.params.toList ds, k ≤ reachBytes := by
  intro k hk
  have hmem : k ∈ DataW.weightsEach P (fn.params.toList ++ s.plain.varTypes P) (ds ++ []) := by
    have key : ∀ (ts us : List TypeId) (ds : List (DataW H)), k ∈ DataW.weightsEach P ts ds → k ∈ DataW.weightsEach P (ts ++ us) ds := by
     intro ts
     induction ts with
     | nil => intro us ds h; cases ds <;> simp [DataW.weightsEach] at h
     | cons t ts ih =>
       intro us ds h
       cases ds with
       | nil => simp [DataW.weightsEach] at h
       | cons d ds =>
         simp only [DataW.weightsEach, Ej, List.cons_append] at h ⊢
         exact h.imp id (ih us ds)
    rw [List.append_nil]
    exact key _ _ _ hk
  have := CN.1 hsz k hmem
  simpa using this
 obtain ⟨qs, h1, h2, h3⟩ := Ob (fun t ht => CN.1 hS t ht) fn.params.toList args.toList ds p (fun t ht => (hpt t ht).1) (fun j t v a b => hval j t v (by simpa using a) (by simpa using b)) hA hwt
 have hc := (hcall qs h1).2 (fun b => b < w.heap.size) w args.toList (fun _ h => h) h2 h3
 simp only [Array.toArray_toList] at hc
 refine Calls.mono hc fun e W' he => ?_
 obtain ⟨v, rfl, hb, hr⟩ := he
 have hv : v = .bool true := hr.lit_inv
 subst hv
 obtain ⟨f1, f2, f3⟩ := hfn (ds ++ []) (by simp only [List.append_nil]; have := hlen.2; simpa using this)
 refine ⟨_, rfl, ds, [], p ++ [], [], p, [], hW', ?_, ?_, ?_, hb.b.frame _, fun h => by cases h⟩
 ·rw [f1, hrt]
  exact trodAll_mk1 (shut_bool htb true)
 ·rw [f2]
  simp only [List.append_nil]
  exact J1 hl hb.b _ _ _ _ (fun t ht => (hpt t ht).2) (fun x hx => hlt x (by simp [hx])) hA
 ·rw [f3, hvars]
  exact rfl
end
end Go.Abs
end
