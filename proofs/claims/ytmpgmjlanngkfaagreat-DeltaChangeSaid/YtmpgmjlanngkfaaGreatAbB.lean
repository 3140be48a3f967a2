/-
  More operations over the abstract view: addresses, slices, appends, literals, arithmetic.
-/
import Derived.Test.YtmpgmjlanngkfaaGreatAbA
section
namespace Go.Abs
open Go.RowKit
variable {V : SVal → Prop} {e t ty : TypeId} {ei i : TI} {i6 len n : Nat} {hi lo : Option Operand} {l : Int} {u v : Value} {x y : SVal} {ys : List (List Dat)} {ρ : Operand → Value} {σ : St}
section
variable {P : Program} {T : TypeId → Option TI} {F0 : Nat → Prop} {w0 w : World} {E : Env} {mem : List Blk} {clock : Nat}
theorem FP (h : WOk F0 w0 E w mem clock) {r k : Nat} (hl : C1 mem r k) : E.ver r = k := by
 unfold C1 at hl
 split at hl
 ·rename_i k' cs hm; subst hl; exact (h.mem.ok r _ hm).1
 ·rename_i k' a b c hm; subst hl; exact (h.mem.ok r _ hm).1
 ·exact hl.elim
theorem Vd (hT : AL P T) (h : WOk F0 w0 E w σ.mem σ.clock) {s : TypeId} {f : Nat} (hx : SRep E w u x) (hl : FM T σ s f x V) :
  ∃ v y, (Instr.fieldAt s u f).run P w = .ok v w ∧ SRep E w v y ∧ V y := by
 unfold FM at hl
 split at hl
 ·rename_i _ _ _ fs _ hs
  obtain ⟨fields, hu, mC⟩ := (hT s _ hs).desc
  split at hl
  ·rename_i off ft hf
   split at hl
   ·rename_i j hj
    obtain ⟨hz, hl⟩ := hl
    have j3 := (hT ft j hj).sizeOf (w := w)
    have kY : ∃ fl, fields[f]? = some fl ∧ fl.offset = off ∧ fl.type = ft := by
     rw [← mC, BU] at hf
     cases hq : fields.toList[f]? with
     | none => rw [hq] at hf; cases hf
     | some fl =>
       rw [hq] at hf
       simp at hf
       exact ⟨fl, by simpa using hq, hf.1, hf.2⟩
    obtain ⟨fl, kY, rfl, rfl⟩ := kY
    have j7 : ∀ b o, (Instr.fieldAt s (.pointer (some ⟨b, o, none⟩)) f).run P w = .ok (.pointer (some ⟨b, o + fl.offset, none⟩)) w := by
     intro b o
     simp [Instr.fieldAt, run_underlying hu, kY, Instr.sureAddr, fieldPlace, j3, hz, Addr.add_lit]
    split at hl
    ·rename_i r k o
     have hv := FP h hl.1
     have qY : u = .pointer (some ⟨E.blk r, o, none⟩) := by cases hx with | c hx => cases hx with | bp _ _ _ _ _ _ hh => exact hh hv
     subst qY
     exact ⟨_, _, j7 _ _, .c (.bp r k _ _ rfl (by omega) (fun _ => rfl)), hl.2⟩
    ·rename_i e o
     cases hx with | c hx => cases hx with | fp _ _ b off us hF hc hd =>
     refine ⟨_, _, j7 _ _, .c ?_, hl⟩
     rw [ZG]
     exact .fp e (o + fl.offset) b off us hF hc hd
    ·rename_i r k i6 n o
     have hv := FP h hl.1
     have qY : u = .pointer (some ⟨E.blk r, n * i6 + o, none⟩) := by cases hx with | c hx => cases hx with | ap _ _ _ _ _ _ _ _ hh => exact hh hv
     subst qY
     exact ⟨_, _, j7 _ _, .c (.ap r k i6 n _ _ rfl (by omega) (fun _ => by rw [ZG])), hl.2⟩
    ·exact hl.elim
   ·exact hl.elim
  ·exact hl.elim
 ·exact hl.elim
theorem DRep.sl_inv {F : Nat → Prop} {es : List (List Dat)} (h : DRep F w v (.sl es)) :
   (es = [] ∧ ∃ a cap, v = .slice a 0 cap) ∨ ∃ (b off cap size : Nat) (u : Nat → Nat → Value), v = .slice (some ⟨b, off, none⟩) es.length cap ∧ F b ∧ es.length ≤ cap ∧ cap ≤ maxLen ∧ (∀ e, e ∈ es → e.length = size) ∧
     (∀ (i j : Nat), i < es.length → j < size → w.cell? ⟨b, off + i * size + j, none⟩ = some (u i j)) ∧ (∀ (i j : Nat) e x, es[i]? = some e → e[j]? = some x → DRep F w (u i j) x) := by
 cases h with
 | emp a cap => exact .inl ⟨rfl, a, cap, rfl⟩
 | sl _ b off cap size u hF jB jC j3 hc hd => exact .inr ⟨b, off, cap, size, u, rfl, hF, jB, jC, j3, hc, hd⟩
theorem Ve (hT : AL P T) (h : WOk F0 w0 E w σ.mem σ.clock) {q : Value} {i : SVal} (hx : SRep E w u x) (hi : SRep E w q i) (hl : Ff T σ t x i V) :
  ∃ v y, (Instr.indexAt t u q).run P w = .ok v w ∧ SRep E w v y ∧ V y := by
 unfold Ff at hl
 split at hl
 ·rename_i ki n
  have hq := hi.lit_inv
  subst hq
  obtain ⟨h0, hl⟩ := hl
  split at hl
  ·rename_i _ _ _ e _ ht
   have hu : P.underlying t = some (.slice e) := (hT t _ ht).desc
   split at hl
   ·rename_i ei jg
    have j3 := (hT e ei jg).sizeOf (w := w)
    split at hl
    ·rename_i es
     obtain ⟨el, he, jo, hV⟩ := Kt hl
     have hn := lt_of_getElem? he
     cases hx with | c hx => cases hx with | d hx =>
     rcases hx.sl_inv with ⟨rfl, _⟩ | ⟨b, off, cap, size, us, rfl, hF, jB, jC, kO, hc, hd⟩
     ·simp at hn
     have qz : size = ei.size := by rw [← jo]; exact (kO el (Cb he)).symm
     subst qz
     have i7 : n < (es.length : Int) := by omega
     refine ⟨.pointer (some ⟨b, off + n.toNat * ei.size, none⟩), _, ?_, .c ?_, hV⟩
     ·simp [Instr.indexAt, asIntOf, run_underlying hu, h0, i7, j3, Addr.add_lit]
     ·exact .fp el 0 b (off + n.toNat * ei.size) (fun j => us n.toNat j) hF (fun j hj => hc n.toNat j hn (by omega)) (fun j x hx => hd n.toNat j el x he hx)
    ·rename_i r k m
     obtain ⟨i7, hl⟩ := hl
     split at hl
     ·rename_i k' iX i6 es hm
      obtain ⟨rfl, rfl, ny, hV⟩ := hl
      obtain ⟨h1, jD, kO, jB, jC, h6⟩ := h.mem.ok r _ hm
      have nW : E.cap r ≠ 0 := by omega
      have qY : u = .slice (some ⟨E.blk r, 0, none⟩) m (E.cap r) := by
       cases hx with | c hx => cases hx with | arr _ _ _ _ _ _ hh =>
       rcases hh h1 with hh | hh
       ·exact absurd hh.1 nW
       ·exact hh.2
      subst qY
      refine ⟨.pointer (some ⟨E.blk r, n.toNat * ei.size, none⟩), _, ?_, .c (.ap r k' ei.size n.toNat 0 _ rfl (by omega) (fun _ => rfl)), hV⟩
      simp [Instr.indexAt, asIntOf, run_underlying hu, h0, i7, j3, Addr.add_lit]
     ·exact hl.elim
    ·exact hl.elim
   ·exact hl.elim
  ·rename_i _ _ _ m e _ ht
   have hu : P.underlying t = some (.array m e) := (hT t _ ht).desc
   obtain ⟨i7, hl⟩ := hl
   split at hl
   ·rename_i ei jg
    have j3 := (hT e ei jg).sizeOf (w := w)
    have j7 : ∀ b o, (Instr.indexAt t (.pointer (some ⟨b, o, none⟩)) (.int ki n)).run P w = .ok (.pointer (some ⟨b, o + n.toNat * ei.size, none⟩)) w := by
     intro b o
     simp [Instr.indexAt, asIntOf, run_underlying hu, Instr.sureAddr, h0, i7, j3, Addr.add_lit]
    split at hl
    ·rename_i r k o
     have hv := FP h hl.1
     have qY : u = .pointer (some ⟨E.blk r, o, none⟩) := by cases hx with | c hx => cases hx with | bp _ _ _ _ _ _ hh => exact hh hv
     subst qY
     exact ⟨_, _, j7 _ _, .c (.bp r k _ _ rfl (by omega) (fun _ => rfl)), hl.2⟩
    ·rename_i el o
     cases hx with | c hx => cases hx with | fp _ _ b off us hF hc hd =>
     refine ⟨_, _, j7 _ _, .c ?_, hl⟩
     rw [ZG]
     exact .fp el (o + n.toNat * ei.size) b off us hF hc hd
    ·exact hl.elim
   ·exact hl.elim
  ·exact hl.elim
 ·exact hl.elim
theorem ba (hT : AL P T) (h : WOk F0 w0 E w σ.mem σ.clock) (hx : SRep E w u x) (hl : Nq T σ t x V) :
  ∃ v y, (Builtin.len_ #[t] ty #[u]).run P w = .ok v w ∧ SRep E w v y ∧ V y := by
 unfold Nq at hl
 split at hl
 ·rename_i e _ es ht
  have hu : P.underlying t = some (.slice e) := (hT t _ ht).desc
  cases hx with | c hx => cases hx with | d hx =>
  rcases hx.sl_inv with ⟨rfl, a, cap, rfl⟩ | ⟨b, off, cap, size, us, rfl, _⟩
  ·exact ⟨_, _, by simp [Builtin.len_, run_underlying hu]; rfl, .c (.d (.lit _ rfl)), hl⟩
  ·exact ⟨_, _, by simp [Builtin.len_, run_underlying hu]; rfl, .c (.d (.lit _ rfl)), hl⟩
 ·rename_i e _ ht
  have hu : P.underlying t = some (.slice e) := (hT t _ ht).desc
  cases hx with | c hx => cases hx with | emp a =>
  exact ⟨_, _, by simp [Builtin.len_, run_underlying hu]; rfl, .c (.d (.lit _ rfl)), hl⟩
 ·rename_i e _ r k n ht
  have hu : P.underlying t = some (.slice e) := (hT t _ ht).desc
  have hv := FP h hl.1
  cases hx with | c hx => cases hx with | arr _ _ _ _ _ _ hh =>
  rcases hh hv with ⟨_, rfl, a, rfl⟩ | ⟨_, rfl⟩
  ·exact ⟨_, _, by simp [Builtin.len_, run_underlying hu]; rfl, .c (.d (.lit _ rfl)), hl.2⟩
  ·exact ⟨_, _, by simp [Builtin.len_, run_underlying hu]; rfl, .c (.d (.lit _ rfl)), hl.2⟩
 ·rename_i s ht
  have hu : P.underlying t = some .string := (hT t _ ht).desc
  have := hx.lit_inv
  subst this
  exact ⟨_, _, by simp [Builtin.len_, run_underlying hu]; rfl, .c (.d (.lit _ rfl)), hl⟩
 ·rename_i n e _ ht
  have hu : P.underlying t = some (.array n e) := (hT t _ ht).desc
  exact ⟨_, _, by simp [Builtin.len_, run_underlying hu]; rfl, .c (.d (.lit _ rfl)), hl⟩
 ·exact hl.elim
end
section
variable {P : Program} {T : TypeId → Option TI} {F0 : Nat → Prop} {w0 w : World} {E : Env} {mem : List Blk} {clock : Nat}
theorem Nt {d : Nat} (hρ : ∀ x, SRep E w (ρ x) (σ.ev x)) (h : Oz d (lo.map σ.ev) = some l) :
   (lo = none ∧ l = d) ∨ ∃ x k, lo = some x ∧ ρ x = .int k l := by
 cases lo with
 | none => simp [Oz] at h; exact .inl ⟨rfl, h.symm⟩
 | some x =>
   simp only [Option.map_some] at h
   unfold Oz at h
   split at h
   · rename_i q; cases q
   · rename_i n he
     simp only [Option.some.injEq] at h he
     subst h
     have := hρ x
     rw [he] at this
     exact .inr ⟨x, _, rfl, this.lit_inv⟩
   · cases h
theorem Kv {isSlice : Bool} {cap : Nat} (hρ : ∀ x, SRep E w (ρ x) (σ.ev x)) {h : Int}
  (hl : Oz 0 (lo.map σ.ev) = some l) (hh : Oz len (hi.map σ.ev) = some h) (h0 : 0 ≤ l) (h1 : l ≤ h) (h2 : h ≤ (cap : Int)) :
  (Instr.sliceBounds isSlice len cap (lo.map ρ) (hi.map ρ) none).run P w = .ok (l.toNat, h.toNat, cap) w := by
 rcases Nt hρ hh with ⟨rfl, rfl⟩ | ⟨x, k, rfl, hx⟩
 ·rcases Nt hρ hl with ⟨rfl, rfl⟩ | ⟨y, k', rfl, hy⟩
  · simp [Instr.sliceBounds]
  · have : (0 : Int) ≤ l ∧ l ≤ (len : Int) := ⟨h0, h1⟩
    simp [Instr.sliceBounds, Instr.sliceBound, hy, asIntOf, this]
 ·have hc : (0 : Int) ≤ h ∧ h ≤ (cap : Int) := ⟨by omega, h2⟩
  rcases Nt hρ hl with ⟨rfl, rfl⟩ | ⟨y, k', rfl, hy⟩
  · simp [Instr.sliceBounds, Instr.sliceBound, hx, asIntOf, hc]
  · have : (0 : Int) ≤ l ∧ l ≤ (h.toNat : Int) := ⟨h0, by omega⟩
    simp only [Int.ofNat_toNat] at this
    have hm : max h 0 = h := by omega
    rw [hm] at this
    simp [Instr.sliceBounds, Instr.sliceBound, hx, hy, asIntOf, hc, this, hm]
theorem CT (hT : AL P T) (hu : P.underlying t = some (.slice e)) (he : T e = some ei) (hρ : ∀ x, SRep E w (ρ x) (σ.ev x))
  {h : Int} {cap : Nat} (a : Option Addr) (hl : Oz 0 (lo.map σ.ev) = some l) (hh : Oz len (hi.map σ.ev) = some h) (h0 : 0 ≤ l) (h1 : l ≤ h) (h2 : h ≤ (cap : Int)) :
  (Instr.sliceAt t (.slice a len cap) (lo.map ρ) (hi.map ρ) none).run P w =
    .ok (.slice (if cap = l.toNat then a else a.map (·.add (l.toNat * ei.size))) (h.toNat - l.toNat) (cap - l.toNat)) w := by
 have hr := Kv (P := P) (isSlice := true) (cap := cap) hρ hl hh h0 h1 h2
 have j3 := (hT e ei he).sizeOf (w := w)
 simp [Instr.sliceAt, Instr.slice, run_underlying hu, hr, j3]
theorem Vf (hT : AL P T) (h : WOk F0 w0 E w σ.mem σ.clock) (hx : SRep E w u x) (hρ : ∀ x, SRep E w (ρ x) (σ.ev x))
  (hl : HT T σ t x (lo.map σ.ev) (hi.map σ.ev) V) :
  ∃ v y, (Instr.sliceAt t u (lo.map ρ) (hi.map ρ) none).run P w = .ok v w ∧ SRep E w v y ∧ V y := by
 unfold HT at hl
 split at hl
 ·rename_i s ht
  have hu : P.underlying t = some .string := (hT t _ ht).desc
  have := hx.lit_inv
  subst this
  split at hl
  ·rename_i l h' lS lC
   obtain ⟨h0, h1, h2, hV⟩ := hl
   have hr := Kv (P := P) (isSlice := false) (cap := s.size) hρ lS lC h0 h1 h2
   exact ⟨_, _, by simp [Instr.sliceAt, Instr.slice, run_underlying hu, hr], .c (.d (.lit _ rfl)), hV⟩
  ·exact hl.elim
 ·rename_i e _ es ht
  have hu : P.underlying t = some (.slice e) := (hT t _ ht).desc
  split at hl
  ·rename_i ei l h' he lS lC
   obtain ⟨sV, h0, h1, h2, hV⟩ := hl
   cases hx with | c hx => cases hx with | d hx =>
   rcases hx.sl_inv with ⟨rfl, a, cap, rfl⟩ | ⟨b, off, cap, size, us, rfl, hF, jB, jC, kO, hc, hd⟩
   ·have e1 : h' = 0 := by simp at h2; omega
    subst e1
    have e2 : l = 0 := by omega
    subst e2
    have hr := CT (cap := cap) hT hu he hρ a lS lC h0 h1 (by omega)
    exact ⟨_, _, hr, .c (.d (by simpa using .emp _ _)), hV⟩
   ·have hr := CT hT hu he hρ (some ⟨b, off, none⟩) lS lC h0 h1 (cap := cap) (by omega)
    by_cases yd : l = h'
    ·subst yd
     have jP : (es.take l.toNat).drop l.toNat = [] := R9 (by simp; omega)
     rw [jP] at hV
     refine ⟨_, _, hr, .c (.d ?_), hV⟩
     rw [Ts]
     exact .emp _ _
    ·have j6 : es ≠ [] := fun q => by subst q; simp at h2; omega
     obtain ⟨e0, jt⟩ := List.exists_mem_of_ne_nil es j6
     have qA : size = ei.size := by rw [← kO e0 jt]; exact sV e0 jt
     subst qA
     have j2 : ¬ cap = l.toNat := by omega
     have hlen : ((es.take h'.toNat).drop l.toNat).length = h'.toNat - l.toNat := by simp; omega
     rw [if_neg j2, Option.map_some, Addr.add_lit, ← hlen] at hr
     refine ⟨_, _, hr, .c (.d (.sl _ b (off + l.toNat * ei.size) _ ei.size (fun i j => us (l.toNat + i) j) hF ?_ (by omega) ?_ ?_ ?_)), hV⟩
     ·omega
     ·intro e he
      exact kO e (I0 (Tn he))
     ·intro i j hi hj
      rw [hlen] at hi
      have := hc (l.toNat + i) j (by omega) hj
      rw [Gg] at this
      rw [← this]
      congr 2
      omega
     ·intro i j e x q1 q2
      rw [ZA, Mc] at q1
      split at q1
      ·exact hd (l.toNat + i) j e x q1 q2
      ·cases q1
  ·exact hl.elim
 ·rename_i e _ ht
  have hu : P.underlying t = some (.slice e) := (hT t _ ht).desc
  split at hl
  ·rename_i ei l h' he lS lC
   obtain ⟨rfl, rfl, hV⟩ := hl
   cases hx with | c hx => cases hx with | emp a =>
   have hr := CT hT hu he hρ a lS lC (by omega) (by omega) (cap := 0) (by omega)
   exact ⟨_, _, hr, .c (.emp _), hV⟩
  ·exact hl.elim
 ·rename_i e _ r k m ht
  have hu : P.underlying t = some (.slice e) := (hT t _ ht).desc
  split at hl
  ·rename_i ei l h' k' iX i6 es he lS lC hm
   obtain ⟨rfl, ny, rfl, h0, h1, hV⟩ := hl
   obtain ⟨hv, _, _, jB, _⟩ := h.mem.ok r _ hm
   cases hx with | c hx => cases hx with | arr _ _ _ _ _ _ hh =>
   rcases hh hv with ⟨nW, rfl, a, rfl⟩ | ⟨lD, rfl⟩
   ·have e1 : h' = 0 := by simp at h1; omega
    subst e1
    have hr := CT hT hu he hρ a lS lC (by omega) (by omega) (cap := 0) (by omega)
    exact ⟨_, _, hr, .c (.arr r k' 0 _ rfl (by omega) (fun _ => .inl ⟨nW, rfl, _, rfl⟩)), hV⟩
   ·have hr := CT hT hu he hρ (some ⟨E.blk r, 0, none⟩) lS lC (by omega) h0 (cap := E.cap r) (by omega)
    have j2 : ¬ E.cap r = Int.toNat 0 := by simp; omega
    rw [if_neg j2, Option.map_some, Addr.add_lit] at hr
    simp only [Int.toNat_zero, Nat.zero_mul, Nat.add_zero, Nat.sub_zero] at hr
    exact ⟨_, _, hr, .c (.arr r k' h'.toNat _ rfl (by omega) (fun _ => .inr ⟨lD, rfl⟩)), hV⟩
  ·exact hl.elim
 ·exact hl.elim
end
section
variable {P : Program} {T : TypeId → Option TI} {F0 : Nat → Prop} {w0 w : World} {E : Env} {mem : List Blk} {clock : Nat}
def Flat (D : Value → Dat → Prop) (i6 : Nat) (es : List (List Dat)) (c : List Value) : Prop :=
 ∀ (i j : Nat) e v x, es[i]? = some e → e[j]? = some x → c[i * i6 + j]? = some v → D v x
theorem Flat.join {D : Value → Dat → Prop} {A B : List (List Dat)} {jZ news rest : List Value} (lr : jZ.length = A.length * i6) (hA : ∀ e, e ∈ A → e.length = i6) (hB : ∀ e, e ∈ B → e.length = i6)
  (qB : news.length = B.length * i6) (h1 : Flat D i6 A jZ) (h2 : Flat D i6 B news) : Flat D i6 (A ++ B) (jZ ++ news ++ rest) := by
 intro i j e v x q1 q2 q3
 rw [aU] at q1
 split at q1
 ·rename_i hi
  have hj : j < i6 := by have := lt_of_getElem? q2; rw [hA e (Cb q1)] at this; exact this
  have i7 : i * i6 + j < jZ.length := by
    rw [lr]
    have : (i + 1) * i6 ≤ A.length * i6 := HJ _ hi
    rw [Gg, Kf] at this
    omega
  rw [Hc, Np i7] at q3
  exact h1 i j e v x q1 q2 q3
 ·rename_i hi
  have nX := lt_of_getElem? q1
  have hj : j < i6 := by have := lt_of_getElem? q2; rw [hB e (Cb q1)] at this; exact this
  have mD : i * i6 = A.length * i6 + (i - A.length) * i6 := by rw [← Gg]; congr 1; omega
  have i7 : (i - A.length) * i6 + j < news.length := by
    rw [qB]
    have : (i - A.length + 1) * i6 ≤ B.length * i6 := HJ _ nX
    rw [Gg, Kf] at this
    omega
  rw [Hc, Oy (by omega), Np (by omega)] at q3
  rw [show i * i6 + j - jZ.length = (i - A.length) * i6 + j by omega] at q3
  exact h2 (i - A.length) j e v x q1 q2 q3
theorem DRep.flat {F : Nat → Prop} (h : DRep F w v (.sl ys)) (hy : ∀ e, e ∈ ys → e.length = i6) (j2 : ys ≠ []) :
  ∃ b off cap news, v = .slice (some ⟨b, off, none⟩) ys.length cap ∧ news.length = ys.length * i6 ∧ (∀ (q : Nat) u, news[q]? = some u → w.cell? ((⟨b, off, none⟩ : Addr).add q) = some u) ∧
   (∀ u ∈ news, u.oneCell' = true) ∧ Flat (DRep F w) i6 ys news := by
 rcases h.sl_inv with ⟨rfl, _⟩ | ⟨b, off, cap, size, us, rfl, hF, jB, jC, j3, hc, hd⟩
 ·exact absurd rfl j2
 obtain ⟨e0, jt⟩ := List.exists_mem_of_ne_nil ys j2
 have qA : size = i6 := by rw [← j3 e0 jt]; exact hy e0 jt
 subst qA
 have key : ∀ q, q < ys.length * size → w.cell? ⟨b, off + q, none⟩ = some (us (q / size) (q % size)) := by
  intro q hq
  have hs : 0 < size := by
   rcases ZB size with h0 | h0
   · subst h0; simp at hq
   · exact h0
  have h1 : q / size < ys.length := dS (by rw [OB]; exact hq)
  have h2 := hc (q / size) (q % size) h1 (ZI _ hs)
  rw [ZG, OB, eg] at h2
  exact h2
 have tY : ∀ (i j : Nat) e x, ys[i]? = some e → e[j]? = some x → DRep F w (us i j) x := hd
 refine ⟨b, off, cap, (List.range (ys.length * size)).map (fun q => us (q / size) (q % size)), rfl, by simp, fun q u hu => ?_, fun u hu => ?_, fun i j e v x q1 q2 q3 => ?_⟩
 ·rw [Addr.add_lit]
  rw [BU] at hu
  by_cases hq : q < ys.length * size
  ·simp [hq] at hu
   rw [key q hq, hu]
  ·simp [hq] at hu
 ·obtain ⟨q, hq⟩ := L0.1 hu
  have i7 := lt_of_getElem? hq
  simp only [BR, List.length_range] at i7
  rw [BU] at hq
  simp [i7] at hq
  subst hq
  have hs : 0 < size := by
   rcases ZB size with h0 | h0
   · subst h0; simp at i7
   · exact h0
  have h1 : q / size < ys.length := dS (by rw [OB]; exact i7)
  have h2 : q % size < ys[q / size].length := by rw [j3 _ (Fo h1)]; exact ZI _ hs
  exact (tY (q / size) (q % size) _ _ (Bo h1) (Bo h2)).one
 ·have hj : j < size := by have := lt_of_getElem? q2; rw [j3 e (Cb q1)] at this; exact this
  have hi := lt_of_getElem? q1
  have i7 : i * size + j < ys.length * size := by
   have : (i + 1) * size ≤ ys.length * size := HJ _ hi
   rw [Gg, Kf] at this
   omega
  rw [BU] at q3
  simp [i7] at q3
  have e1 : (i * size + j) / size = i := by rw [OB, Nat.mul_add_div (by omega), Nat.div_eq_of_lt hj, Nat.add_zero]
  rw [e1, dH hj] at q3
  subst q3
  exact tY i j e x q1 q2
theorem Kg (hy : SRep E w v y) (hs : Gh y = some ys) : DRep E.F w v (.sl ys) := by
 unfold Gh at hs
 split at hs
 ·cases hy with | c hy => cases hy with | d hy => simp at hs; subst hs; exact hy
 ·cases hy with | c hy => cases hy with | emp a => simp at hs; subst hs; exact .emp _ _
 ·cases hs
theorem Ci {i : TypeInfo} (ht : P.underlying t = some (.slice e)) (hi : P.info? e = some i) (a b : Option Addr) (n cap c : Nat) (h : n ≤ cap) :
   (Builtin.append_ #[t, t] ty #[.slice a n cap, .slice b 0 c]).run P w = .ok (.slice a n cap) w := by
 have hf : (Builtin.firstCells i.size 0 (.slice b 0 c)).run P w = .ok #[] w := by
   cases b with
   | none => simp [Builtin.firstCells]
   | some b => simp [Builtin.firstCells, loadCells, loadCellsFrom]
 cases a with
 | none => simp [Builtin.append_, run_underlying ht, sizeOf, typeInfo, hi, Builtin.lenOf, h, hf]
 | some a => simp [Builtin.append_, run_underlying ht, sizeOf, typeInfo, hi, Builtin.lenOf, h, hf, storeCells]
theorem Df {n0 : Nat} (w : World) (o : Obj) (h : n0 ≤ w.heap.size) : Bel n0 w (w.drew.alloc o) := ((Bel.refl n0 w).drew).alloc h o
theorem Fg {zs : Array Value} (h : v ∈ Builtin.zeroCells zs n) : v ∈ zs := by
 unfold Builtin.zeroCells at h
 rw [Array.mem_map] at h
 obtain ⟨i, hi, rfl⟩ := h
 have hi : i < n * zs.size := by simpa using hi
 have jD : 0 < zs.size := by rcases ZB zs.size with h0 | h0; rw [h0] at hi; simp at hi; exact h0
 have i7 := ZI i jD
 rw [getElem!_pos zs _ i7]
 exact dG i7
theorem HL {zs : Array Value} (jD : 0 < zs.size) (h : v ∈ madeCells zs n) : v ∈ zs := by
 unfold madeCells at h
 rw [Array.mem_map] at h
 obtain ⟨i, hi, rfl⟩ := h
 have i7 := ZI i jD
 rw [getElem!_pos zs _ i7]
 exact dG i7
theorem DS {mN : Nat} {z : Value} {old : Nat} {cells : List Value} (hz : z.cells.size = i6) (hl : cells.length = mN * i6) (jC : mN ≤ maxLen) (lj : ∀ v ∈ z.cells, v.oneCell' = true) (lh : ∀ v ∈ cells, v.oneCell' = true) :
  ∃ jw, jw = grownCap w mN old e ∧ mN ≤ jw ∧ jw ≤ maxLen ∧
   ∃ c : Array Value, (w.drew.alloc (.cells (cells.toArray ++ Builtin.zeroCells z.cells (jw - mN)) e)).heap[w.heap.size]? = some (.cells c e (0, 0)) ∧ c.size = jw * i6 ∧ (∀ v ∈ c, v.oneCell' = true) ∧
    c.toList = cells ++ (Builtin.zeroCells z.cells (jw - mN)).toList := by
 have mD := grownCap_ge w mN old e
 have qC := grownCap_le_maxLen w mN old e jC
 refine ⟨_, rfl, mD, qC, _, XN w.drew _, ?_, fun v hv => ?_, by simp⟩
 ·simp only [Array.size_append, XT, size_zeroCells, hz, hl, ← Gg]
  congr 1
  omega
 ·rcases Array.mem_append.1 hv with hv | hv
  ·exact lh v (by simpa using hv)
  ·exact lj v (Fg hv)
theorem Ej (hT : AL P T) (h : WOk F0 w0 E w mem clock) (ht : T t = some i) (hi : i.desc = .slice e) (jg : T e = some ei) (mE : ei.zero.length = ei.size) (mO : ∀ el ∈ ys, el.length = ei.size) (hm : ys.length ≤ maxLen) (hb : ys.length * ei.bytes ≤ 140737488355328) (j4 : DRep E.F w v (.sl ys)) (a : Option Addr) :
  ∃ v' w' cap, (Builtin.append_ #[t, t] ty #[.slice a 0 0, v]).run P w = .ok v' w' ∧ ys.length ≤ cap ∧ cap ≤ maxLen ∧ Bel w0.heap.size w w' ∧ (∀ i, i < w.heap.size → w'.heap[i]? = w.heap[i]?) ∧
   ((cap = 0 ∧ ∃ b, v' = .slice b 0 0) ∨ (0 < cap ∧ v' = .slice (some ⟨w.heap.size, 0, none⟩) ys.length cap)) ∧
   (cap = 0 ∨ ∃ c, w'.heap[w.heap.size]? = some (.cells c e (0, 0)) ∧ c.size = cap * ei.size ∧ (∀ v ∈ c, v.oneCell' = true) ∧ ∀ (i j : Nat) e v x, ys[i]? = some e → e[j]? = some x → c[i * ei.size + j]? = some v → DRep E.F w v x) := by
 have hu : P.underlying t = some (.slice e) := by have := (hT t i ht).desc; rw [hi] at this; exact this
 obtain ⟨fi, z, k6, kr, jb, kG, kq⟩ := (hT e ei jg).info
 have hz : z.cells.size = ei.size := by rw [kq]; simpa using mE
 have lj : ∀ v ∈ z.cells, v.oneCell' = true := fun v hv => (hT e ei jg).ones v (by rw [kq] at hv; simpa using hv)
 by_cases j2 : ys = []
 ·subst j2
  rcases j4.sl_inv with ⟨_, b, c, rfl⟩ | ⟨b, off, cap, size, us, rfl, _⟩
  ·exact ⟨_, w, 0, Ci hu k6 a b 0 0 c (Nat.le_refl _), Nat.le_refl _, by simp [maxLen], Bel.refl _ _, fun _ _ => rfl, .inl ⟨rfl, a, rfl⟩, .inl rfl⟩
  ·exact ⟨_, w, 0, Ci hu k6 a _ 0 0 cap (Nat.le_refl _), Nat.le_refl _, by simp [maxLen], Bel.refl _ _, fun _ _ => rfl, .inl ⟨rfl, a, rfl⟩, .inl rfl⟩
 ·obtain ⟨b, off, cap, news, rfl, lL, mf, kQ, lE⟩ := j4.flat mO j2
  have wM : 0 < ys.length := by rcases ZB ys.length with h0 | h0; exact absurd (XP h0) j2; exact h0
  have pU : ((0 + ys.length : Nat) : Int) ≤ 9223372036854775807 := by simp only [maxLen] at hm; omega
  obtain ⟨jw, hg, mD, nc, c, lh, me, mq, mo⟩ := DS (w := w) (e := e) (old := 0) hz lL hm lj kQ
  have hr : (Builtin.append_ #[t, t] ty #[.slice a 0 0, .slice (some ⟨b, off, none⟩) ys.length cap]).run P w =
     .ok (.slice (some ⟨w.heap.size, 0, none⟩) ys.length jw) (w.drew.alloc (.cells (news.toArray ++ Builtin.zeroCells z.cells (jw - ys.length)) e)) := by
   cases a with
   | none =>
     have := run_append_nil (P := P) w t ty e fi z hu k6 kG ⟨b, off, none⟩ ys.length cap news (by rw [kr]; exact lL) mf wM (by omega) (by rw [jb]; omega)
     rw [hg]; exact this
   | some a =>
     have := run_append_grow (P := P) w t ty e fi z hu k6 kG a 0 0 [] (by simp) (by simp) ⟨b, off, none⟩ ys.length cap news (by rw [kr]; exact lL) mf (by omega) pU
      (by rw [jb]; exact growslice_fits (by omega) (by simpa using hb))
     simp only [Nat.zero_add, gm] at this
     rw [hg]; exact this
  refine ⟨_, _, jw, hr, mD, nc, Df w _ h.le0, fun i hi => by rw [Bel.heap_alloc w.drew _ i hi]; rfl, .inr ⟨by omega, rfl⟩, .inr ⟨c, lh, me, mq, fun i j e' v' x' q1 q2 q3 => ?_⟩⟩
  have hj := Flat.join (A := []) (rest := (Builtin.zeroCells z.cells (jw - ys.length)).toList) (jZ := []) (by simp) (by simp) mO lL (fun _ _ _ _ _ q => by simp at q) lE
  simp only [List.nil_append] at hj
  exact hj i j e' v' x' q1 q2 (by rw [← mo]; simpa using q3)
theorem Kw (hT : AL P T) {mem : List Blk} {clock iY : Nat} (h : WOk F0 w0 E w mem clock) {e' : TypeId} {r k' kn : Nat} {es : List (List Dat)} (ht : T t = some i) (hi : i.desc = .slice e') (jg : T e' = some ei) (mE : ei.zero.length = ei.size) (mO : ∀ el ∈ ys, el.length = ei.size) (j4 : DRep E.F w v (.sl ys)) (qZ : mem[r]? = some (.arr k' e' ei.size es)) (hs : CRep E w u (.arr r k' n)) (hn : n ≤ es.length) (hm : n + ys.length ≤ maxLen) (hb : (n + ys.length) * ei.bytes ≤ 140737488355328) (hv : E.ver r < kn) (hc : clock ≤ iY) (hk : kn ≤ iY) :
  ∃ v' w' E', (Builtin.append_ #[t, t] ty #[u, v]).run P w = .ok v' w' ∧ EnvLe E w E' w' ∧ WOk F0 w0 E' w' (mem.set r (.arr kn e' ei.size (es.take n ++ ys))) iY ∧ CRep E' w' v' (.arr r kn (n + ys.length)) := by
 have hu : P.underlying t = some (.slice e') := by have := (hT t i ht).desc; rw [hi] at this; exact this
 obtain ⟨fi, z, k6, kr, jb, kG, kq⟩ := (hT e' ei jg).info
 have hz : z.cells.size = ei.size := by rw [kq]; simpa using mE
 have lj : ∀ v ∈ z.cells, v.oneCell' = true := fun v hv => (hT e' ei jg).ones v (by rw [kq] at hv; simpa using hv)
 have ho := h.mem.ok r _ qZ
 obtain ⟨o1, o2, o3, o4, o5, o6⟩ := ho
 cases hs with | arr _ _ _ _ _ _ hh =>
 rcases hh o1 with ⟨nW, r5, a, rfl⟩ | ⟨lD, rfl⟩
 ·subst r5
  simp only [Nat.zero_add, List.take_zero, List.nil_append] at hm hb ⊢
  obtain ⟨v', w', cap, hr, h1, h2, h3, h4, h5, h6⟩ := Ej hT h ht hi jg mE mO hm hb j4 a
  have hg := h.growArr r k' kn hv hc hk e' ei.size es qZ w.heap.size cap ys mO h1 h2 (.inl rfl) h3 (fun i hi _ => h4 i hi) h6
  refine ⟨v', w', _, hr, hg.2, hg.1, .arr r kn ys.length v' ?_ (by simp [Env.upd]) (fun _ => ?_)⟩
  ·rcases h5 with ⟨_, b, rfl⟩ | ⟨_, rfl⟩ <;> rfl
  ·rcases h5 with ⟨h5, b, rfl⟩ | ⟨h5, rfl⟩
   ·exact .inl ⟨by simp [Env.upd, h5], by omega, b, rfl⟩
   ·exact .inr ⟨by simp [Env.upd]; exact h5, by simp [Env.upd]⟩
 ·rcases o6 with o6 | ⟨p1, p2, c, p3, p4, p0, p5⟩
  ·omega
  have mf : n * ei.size ≤ c.size := by rw [p4]; exact HJ _ (by omega)
  have nD : (es.take n).length = n := by simp; omega
  have hA : ∀ el, el ∈ es.take n → el.length = ei.size := fun el jo => o3 el (I0 jo)
  have wN : ∀ el, el ∈ es.take n ++ ys → el.length = ei.size := fun el jo => by
   rcases EY.1 jo with q | q
   ·exact hA el q
   ·exact mO el q
  have kY : Flat (DRep E.F w) ei.size (es.take n) (c.toList.take (n * ei.size)) := by
   intro i j e v x q1 q2 q3
   rw [Mc] at q1
   split at q1
   ·rw [Mc] at q3
    split at q3
    ·exact p5 i j e v x q1 q2 (by simpa using q3)
    ·cases q3
   ·cases q1
  by_cases j2 : ys = []
  ·subst j2
   simp only [List.length_nil, Nat.add_zero, List.append_nil] at hm hb ⊢
   have hr : (Builtin.append_ #[t, t] ty #[.slice (some ⟨E.blk r, 0, none⟩) n (E.cap r), v]).run P w = .ok (.slice (some ⟨E.blk r, 0, none⟩) n (E.cap r)) w := by
    rcases j4.sl_inv with ⟨_, b, cc, rfl⟩ | ⟨b, off, cap, size, us, rfl, _⟩
    ·exact Ci hu k6 _ b n _ cc (by omega)
    ·exact Ci hu k6 _ _ n _ cap (by omega)
   have hg := h.growArr (w' := w) r k' kn hv hc hk e' ei.size es qZ (E.blk r) (E.cap r) (es.take n) hA (by omega) o5 (.inr ⟨rfl, by omega⟩) (Bel.refl _ _) (fun _ _ _ => rfl) (.inr ⟨c, p3, p4, p0, fun i j e v x q1 q2 q3 => by
    rw [Mc] at q1
    split at q1
    ·exact p5 i j e v x q1 q2 q3
    ·cases q1⟩)
   exact ⟨_, w, _, hr, hg.2, hg.1, .arr r kn n _ rfl (by simp [Env.upd]) (fun _ => .inr ⟨by simp [Env.upd]; exact lD, by simp [Env.upd]⟩)⟩
  ·obtain ⟨b, off, cap, news, rfl, lL, r6, kQ, lE⟩ := j4.flat mO j2
   have wM : 0 < ys.length := by rcases ZB ys.length with h0 | h0; exact absurd (XP h0) j2; exact h0
   have lr : (c.toList.take (n * ei.size)).length = n * ei.size := by simp; omega
   by_cases nf : n + ys.length ≤ E.cap r
   ·have j8 : n * ei.size + news.length ≤ c.size := by rw [lL, p4, ← Gg]; exact HJ _ nf
    have hr := run_append_room (P := P) w t ty e' fi hu k6 (E.blk r) n (E.cap r) c p3 ⟨b, off, none⟩ ys.length cap news (by rw [kr]; exact lL) r6 kQ nf (by rw [kr]; exact j8)
    rw [kr] at hr
    have hg := h.growArr (w' := w.setRow (E.blk r) (c.toList.take (n * ei.size) ++ news ++ c.toList.drop (n * ei.size + news.length)).toArray) r k' kn hv hc hk e' ei.size es qZ (E.blk r) (E.cap r) (es.take n ++ ys) wN (by simp; omega) o5 (.inr ⟨rfl, by omega⟩) (CO w _ _ p1) (fun i hi j2 => setRow_other w _ i _ j2)
     (.inr ⟨_, setRow_heap w _ c _ e' _ p3, by
       have := By (l := c.toList) (m := news) (o := n * ei.size) (by simpa using j8)
       simp only [XT, this, U2, p4], fun v hv => DR p0 kQ (by simpa using hv), fun i j e v x q1 q2 q3 => by
       exact Flat.join (by rw [lr, nD]) hA mO lL kY lE i j e v x q1 q2 (by simpa using q3)⟩)
    exact ⟨_, _, _, hr, hg.2, hg.1, .arr r kn (n + ys.length) _ rfl (by simp [Env.upd]) (fun _ => .inr ⟨by simp [Env.upd]; exact lD, by simp [Env.upd]⟩)⟩
   ·have pU : ((n + ys.length : Nat) : Int) ≤ 9223372036854775807 := by simp only [maxLen] at hm; omega
    have ky : (c.toList.take (n * ei.size) ++ news).length = (n + ys.length) * ei.size := by rw [CR, lr, lL, Gg]
    obtain ⟨jw, hg, mD, nc, c', lh, me, mq, mo⟩ := DS (w := w) (e := e') (old := E.cap r) hz ky hm lj (fun v hv => by
     rcases EY.1 hv with hv | hv
     · exact p0 v (by simpa using I0 hv)
     · exact kQ v hv)
    have hr := run_append_grow (P := P) w t ty e' fi z hu k6 kG ⟨E.blk r, 0, none⟩ n (E.cap r) (c.toList.take (n * ei.size)) (by rw [kr]; exact lr) (fun j v hv => by
       rw [Addr.add_lit, Bx p3]
       rw [Mc] at hv
       split at hv
       ·simpa using hv
       ·cases hv) ⟨b, off, none⟩ ys.length cap news (by rw [kr]; exact lL) r6 (by omega) pU (by rw [jb]; exact growslice_fits (by omega) hb)
    have oT : (c.toList.take (n * ei.size)).toArray ++ news.toArray = (c.toList.take (n * ei.size) ++ news).toArray := by simp
    rw [oT, ← hg] at hr
    have oE := h.growArr (w' := w.drew.alloc (.cells ((c.toList.take (n * ei.size) ++ news).toArray ++ Builtin.zeroCells z.cells (jw - (n + ys.length))) e')) r k' kn hv hc hk e' ei.size es qZ w.heap.size jw (es.take n ++ ys) wN (by simp; omega) nc (.inl rfl) (Df w _ h.le0)
     (fun i hi _ => by rw [Bel.heap_alloc w.drew _ i hi]; rfl)
     (.inr ⟨c', lh, me, mq, fun i j e v x q1 q2 q3 => by
       exact Flat.join (by rw [lr, nD]) hA mO lL kY lE i j e v x q1 q2 (by rw [← mo]; simpa using q3)⟩)
    exact ⟨_, _, E.upd r w.heap.size jw kn, hr, oE.2, oE.1, .arr r kn (n + ys.length) _ rfl (by simp [Env.upd]) (fun _ => .inr ⟨by simp [Env.upd]; omega, by simp [Env.upd]⟩)⟩
theorem Mf (hT : AL P T) (h : WOk F0 w0 E w σ.mem σ.clock) {s : SVal} (hs : SRep E w u s) (hy : SRep E w v y) {dst : Option Tmp} {K : St → Prop} (hl : EZ T σ t s y dst K) :
  ∃ v' w' E' f' iY x, (Builtin.append_ #[t, t] ty #[u, v]).run P w = .ok v' w' ∧ EnvLe E w E' w' ∧ WOk F0 w0 E' w' f' iY ∧ SRep E' w' v' x ∧ K ({ σ with mem := f', clock := iY }.putO dst x) := by
 unfold EZ at hl
 split at hl
 ·rename_i e _ ht
  have hu : P.underlying t = some (.slice e) := (hT t _ ht).desc
  split at hl
  ·rename_i ei ys jg oP
   obtain ⟨jD, mE, mO, hl⟩ := hl
   obtain ⟨fi, z, k6, kr, jb, kG, kq⟩ := (hT e ei jg).info
   have hz : z.cells.size = ei.size := by rw [kq]; simpa using mE
   have lj : ∀ v ∈ z.cells, v.oneCell' = true := fun v hv => (hT e ei jg).ones v (by rw [kq] at hv; simpa using hv)
   have j4 := Kg hy oP
   split at hl
   ·obtain ⟨hm, hb, hK⟩ := hl
    cases hs with | c hs => cases hs with | emp a =>
    obtain ⟨v', w', cap, hr, h1, h2, h3, h4, h5, h6⟩ := Ej hT h (ty := ty) ht rfl jg mE mO hm hb j4 a
    have hn := h.newArr e ei.size cap ys jD mO h1 h2 h3 h4 h6
    refine ⟨v', w', _, _, _, _, hr, hn.2, hn.1, .c (.arr σ.mem.length (σ.clock + 1) ys.length v' ?_ (by simp [Env.upd]) (fun _ => ?_)), hK⟩
    ·rcases h5 with ⟨_, b, rfl⟩ | ⟨_, rfl⟩ <;> rfl
    ·rcases h5 with ⟨h5, b, rfl⟩ | ⟨h5, rfl⟩
     ·exact .inl ⟨by simp [Env.upd, h5], by omega, b, rfl⟩
     ·exact .inr ⟨by simp [Env.upd]; exact h5, by simp [Env.upd]⟩
   ·rename_i r k n
    split at hl
    ·rename_i k' e' i6 es qZ
     obtain ⟨rfl, rfl, rfl, hn, hm, hb, hK⟩ := hl
     cases hs with | c hs =>
     obtain ⟨v', w', E', q1, q2, q3, q4⟩ := Kw hT (ty := ty) h (t := t) ht rfl jg mE mO j4 qZ hs hn hm hb (kn := σ.clock + 1) (iY := σ.clock + 1) (by have := h.mem.clock r; omega) (by omega) (Nat.le_refl _)
     exact ⟨v', w', E', _, _, _, q1, q2, q3, .c q4, hK⟩
    ·exact hl.elim
   ·exact hl.elim
  ·exact hl.elim
 ·exact hl.elim
end
section
variable {P : Program} {T : TypeId → Option TI} {F0 : Nat → Prop} {w0 w : World} {E : Env} {mem : List Blk} {clock : Nat}
theorem OJ (h : v.oneCell' = true) : CRep E w v (B0 v) := by
 unfold B0
 split
 ·exact .emp _
 ·exact .d (.lit v h)
theorem EH {P : Program} (h : TOk P t i) : ∀ (j : Nat) v x, i.zero.toArray[j]? = some v → (i.zero.map B0)[j]? = some x → CRep E w v x := by
 intro j v x hv hx
 rw [BU] at hx
 have jE : i.zero[j]? = some v := by simpa using hv
 rw [jE] at hx
 simp at hx
 subst hx
 exact OJ (h.ones v (Cb jE))
theorem X0 (hT : AL P T) (h : WOk F0 w0 E w σ.mem σ.clock) {l c : SVal} (hl : SRep E w u l) (hc : SRep E w v c) {dst : Option Tmp} {K : St → Prop} (hk : OE T σ t l c dst K) :
  ∃ v' w' E' f' iY x, (Instr.makeSlice t u v).run P w = .ok v' w' ∧ EnvLe E w E' w' ∧ WOk F0 w0 E' w' f' iY ∧ SRep E' w' v' x ∧ K ({ σ with mem := f', clock := iY }.putO dst x) := by
 unfold OE at hk
 split at hk
 ·rename_i e _ kn n km m ht
  have hu : P.underlying t = some (.slice e) := (hT t _ ht).desc
  have e1 := hl.lit_inv
  have e2 := hc.lit_inv
  subst e1; subst e2
  split at hk
  ·rename_i ei jg
   split at hk
   ·rename_i z hz
    obtain ⟨jD, mE, h0, lV, pU, hb, hK⟩ := hk
    obtain ⟨fi, zv, k6, kr, jb, kG, kq⟩ := (hT e ei jg).info
    have hr := run_make (P := P) w t e fi zv hu k6 kG kn km n m h0 lV (by rw [jb]; exact hb) pU
    rw [kr] at hr
    have ng := EF hz
    have pV : zv.cells.size = ei.size := by rw [kq]; simpa using mE
    have hn := h.newArr (w' := w.alloc (.cells (madeCells zv.cells (m.toNat * ei.size)) e)) e ei.size m.toNat (List.replicate n.toNat z) jD (fun e he => by rw [List.eq_of_mem_replicate he, ng]; simpa using mE) (by simp; omega) (by simp [maxLen]; omega)
     ((Bel.refl _ w).alloc h.le0 _) (fun i hi => Bel.heap_alloc w _ i hi) (.inr ⟨_, XN w _, by simp [size_madeCells], fun v hv => (hT e ei jg).ones v (by have := HL (by omega) hv; rw [kq] at this; simpa using this), fun i j e v x q1 q2 q3 => by
       have hi := lt_of_getElem? q1
       simp only [J6] at hi
       rw [gd, if_pos hi] at q1
       simp only [Option.some.injEq] at q1
       subst q1
       have hj := lt_of_getElem? q2
       rw [ng] at hj
       simp only [BR, mE] at hj
       have i7 : i * ei.size + j < m.toNat * ei.size := by
        have : (i + 1) * ei.size ≤ m.toNat * ei.size := HJ _ (by omega)
        rw [Gg, Kf] at this
        omega
       have oj : (i * ei.size + j) % ei.size = j := by rw [OB, Nat.mul_add_mod, dH hj]
       have jI : (madeCells zv.cells (m.toNat * ei.size))[i * ei.size + j]? = zv.cells[j]? := by
        unfold madeCells
        rw [Array.getElem?_map]
        have sW : j < zv.cells.size := by rw [pV]; exact hj
        simp only [Array.getElem?_range, i7, if_true, Option.map_some, pV, oj]
        rw [getElem!_pos zv.cells j sW, LZ sW]
       rw [jI, kq] at q3
       exact EG (E := E) (v := v) hz (fun y hy => EH (hT e ei jg) j v y q3 hy) q2⟩)
    refine ⟨_, _, E.upd σ.mem.length w.heap.size m.toNat (σ.clock + 1), _, _, _, hr, hn.2, hn.1, .c (.arr σ.mem.length (σ.clock + 1) n.toNat _ rfl (by simp [Env.upd]) (fun _ => ?_)), hK⟩
    rcases ZB m.toNat with mg | mg
    ·have r5 : n.toNat = 0 := by omega
     exact .inl ⟨by simp [Env.upd, mg], r5, some ⟨w.heap.size, 0, none⟩, by rw [r5, mg]⟩
    ·exact .inr ⟨by simp [Env.upd]; omega, by simp [Env.upd]⟩
   ·exact hk.elim
  ·exact hk.elim
 ·exact hk.elim
theorem Mg (off : Nat) : ∀ (l : List Value) (k : Nat) (cs : Array Value), off + k + l.length ≤ cs.size →
   ((l.zipIdx k).foldl (fun (cs : Array Value) (p : Value × Nat) => cs.setIfInBounds (off + p.2) p.1) cs).size = cs.size ∧
   ∀ q, ((l.zipIdx k).foldl (fun (cs : Array Value) (p : Value × Nat) => cs.setIfInBounds (off + p.2) p.1) cs)[q]? = if off + k ≤ q ∧ q < off + k + l.length then l[q - (off + k)]? else cs[q]?
 | [], k, cs, _ => by simp; intros; omega
 | v :: l, k, cs, h => by
   simp only [List.length_cons] at h
   have ih := Mg off l (k + 1) (cs.setIfInBounds (off + k) v) (by simp; omega)
   simp only [List.zipIdx_cons, XU]
   refine ⟨by rw [ih.1]; simp, fun q => ?_⟩
   rw [ih.2 q]
   simp only [List.length_cons]
   by_cases h1 : q = off + k
   · subst h1
     rw [if_neg (by omega), if_pos (by omega)]
     have : off + k < cs.size := by omega
     simp [this]
   · by_cases h2 : off + (k + 1) ≤ q ∧ q < off + (k + 1) + l.length
     ·rw [if_pos h2, if_pos (by omega)]
      rw [show q - (off + k) = q - (off + (k + 1)) + 1 by omega, List.getElem?_cons_succ]
     ·rw [if_neg h2, if_neg (by omega)]
      rw [R7 (by omega)]
theorem I2 (AA : Nat → Option (Nat × Nat)) (cells : Array Value) (i off size : Nat) (v : Value) (rest : List (Nat × Value)) (hp : AA i = some (off, size)) (hv : v.cells.size = size) (j8 : off + size ≤ cells.size) :
  ∃ j1 : Array Value, Instr.fill AA cells ((i, v) :: rest) = Instr.fill AA j1 rest ∧ j1.size = cells.size ∧ j1.toList = cells.toList.take off ++ v.cells.toList ++ cells.toList.drop (off + size) := by
 have hf := Mg off v.cells.toList 0 cells (by simp; omega)
 simp only [Nat.add_zero, U2] at hf
 refine ⟨(v.cells.toList.zipIdx 0).foldl (fun (cs : Array Value) (p : Value × Nat) => cs.setIfInBounds (off + p.2) p.1) cells, ?_, hf.1, ?_⟩
 ·rw [Instr.fill]
  simp only [hp]
  rw [if_neg (by simp; omega)]
  congr 1
  rw [← Array.foldl_toList, Array.toList_zipIdx]
 ·apply Sa
  intro q
  have e := getElem?_splice (l := cells.toList) (m := v.cells.toList) (o := off) (j := q) (by simp; omega)
  rw [U2, hv] at e
  rw [e, LV, hf.2 q]
  by_cases h1 : q < off
  ·rw [if_neg (by omega), if_pos h1, LV]
  ·rw [if_neg h1]
   by_cases h2 : q < off + size
   ·rw [if_pos h2, if_pos (by omega)]
   ·rw [if_neg h2, if_neg (by omega), LV]
theorem HU (hT : AL P T) {σ : St} {ρ : Operand → Value} (hρ : ∀ x, SRep E w (ρ x) (σ.ev x)) (fs : List (Nat × TypeId)) (AA : Nat → Option (Nat × Nat))
   (oU : ∀ i off ft j, fs[i]? = some (off, ft) → T ft = some j → AA i = some (off, j.size)) :
   ∀ (parts : List (Nat × Operand)) (cs jq : List Cell) (cells : Array Value), JI T σ fs parts cs = some jq → cells.size = cs.length →
     (∀ (j : Nat) v x, cells[j]? = some v → cs[j]? = some x → CRep E w v x) →
     ∃ j1, Instr.fill AA cells (parts.map fun p => (p.1, ρ p.2)) = some j1 ∧ j1.size = jq.length ∧ ∀ (j : Nat) v x, j1[j]? = some v → jq[j]? = some x → CRep E w v x
 | [], cs, jq, cells, h, hl, hc => by
   simp only [JI, Option.some.injEq] at h
   subst h
   exact ⟨cells, by simp [Instr.fill], hl, hc⟩
 | (i, x) :: rest, cs, jq, cells, h, hl, hc => by
   simp only [JI] at h
   split at h
   · rename_i off ft ns hf ye
     split at h
     · rename_i j hj
       split at h
       ·rename_i sX
        obtain ⟨hn, j8⟩ := sX
        obtain ⟨lh, _, mo⟩ := (hρ x).cellsOf ye
        obtain ⟨jA, lu, om, pG⟩ := I2 AA cells i off j.size (ρ x) (rest.map fun p => (p.1, ρ p.2)) (oU i off ft j hf hj) (by omega) (by omega)
        have e2 := By (l := cs) (m := ns) (o := off) j8
        obtain ⟨j1, q1, q2, q3⟩ := HU hT hρ fs AA oU rest _ jq jA h (by rw [om, e2, hl]) (fun q v y hv hy => by
         have jE : jA.toList[q]? = some v := by simpa using hv
         rw [pG] at jE
         have e1 := getElem?_splice (l := cells.toList) (m := (ρ x).cells.toList) (o := off) (j := q) (by simp; omega)
         have e3 := getElem?_splice (l := cs) (m := ns) (o := off) (j := q) j8
         have kM : (ρ x).cells.toList.length = j.size := by simp; omega
         rw [kM] at e1
         rw [hn] at e3
         rw [e1] at jE
         rw [hn, e3] at hy
         by_cases a1 : q < off
         ·rw [if_pos a1] at jE hy
          exact hc q v y (by simpa using jE) hy
         ·rw [if_neg a1] at jE hy
          by_cases a2 : q < off + j.size
          ·rw [if_pos a2] at jE hy
           exact mo (q - off) v y (by simpa using jE) hy
          ·rw [if_neg a2] at jE hy
           exact hc q v y (by simpa using jE) hy)
        exact ⟨j1, by rw [List.map_cons, lu]; exact q1, q2, q3⟩
       ·cases h
     · cases h
   · cases h
theorem JJ (hT : AL P T) : ∀ (l : List Field), (∀ f ∈ l, ∃ j, T f.type = some j) →
   (l.mapM (fun f => do pure (f.offset, ← sizeOf f.type) : Field → Sem (Nat × Nat))).run P w = .ok (l.map fun f => (f.offset, ((T f.type).map (·.size)).getD 0)) w
 | [], _ => by simp
 | f :: l, h => by
   obtain ⟨j, hj⟩ := h f (by simp)
   have ih := JJ hT l (fun f hf => h f (by simp [hf]))
   have hs := (hT f.type j hj).sizeOf (w := w)
   simp only [ej, Sem.run_bind, hs, Result.andThen_ok, Sem.run_pure, ih, hj, List.map_cons, Option.map_some, U4]
theorem Vg (hT : AL P T) (hρ : ∀ x, SRep E w (ρ x) (σ.ev x)) {parts : Array (Nat × Operand)} 
  (hl : Ku T σ t parts.toList V) :
  ∃ v y, (Instr.build t (parts.map fun (i, x) => (i, ρ x))).run P w = .ok v w ∧ SRep E w v y ∧ V y := by
 unfold Ku at hl
 split at hl
 ·rename_i _ _ zero fs _ ht
  obtain ⟨j9, hl⟩ := hl
  split at hl
  · rename_i cs jF
    have r7 := hT t _ ht
    obtain ⟨fields, hu, mC⟩ := r7.desc
    obtain ⟨fi, z, k6, kr, jb, kG, kq⟩ := r7.info
    have sY : ∀ f ∈ fields.toList, ∃ j, T f.type = some j := fun f hf => gw.1 (Eg.1 j9 (f.offset, f.type) (by rw [← mC]; exact List.mem_map.2 ⟨f, hf, rfl⟩))
    have mF := JJ (w := w) hT fields.toList sY
    have uP : (fields.mapM (fun f => do pure (f.offset, ← sizeOf f.type) : Field → Sem (Nat × Nat))).run P w = .ok (fields.toList.map fun f => (f.offset, ((T f.type).map (·.size)).getD 0)).toArray w := by
     rw [dO]
     simp only [Sem.run_map, mF, Result.andThen_ok]
    obtain ⟨j1, q1, q2, q3⟩ := HU hT hρ fs (fun i => (fields.toList.map fun f => (f.offset, ((T f.type).map (·.size)).getD 0)).toArray[i]?) (fun i off ft j hf hj => by
      rw [← mC, BU] at hf
      cases hq : fields.toList[i]? with
      | none => rw [hq] at hf; cases hf
      | some fl =>
        rw [hq] at hf
        simp at hf
        obtain ⟨rfl, rfl⟩ := hf
        have pH : fields[i]? = some fl := by simpa using hq
        simp [pH, hj]) parts.toList _ cs zero.toArray jF (by simp) (EH r7)
    refine ⟨.agg j1, .agg cs, ?_, ?_, hl⟩
    ·have lM : (parts.map fun (i, x) => (i, ρ x)).toList = parts.toList.map fun p => (p.1, ρ p.2) := by simp
     simp only [Instr.build, zeroValue, typeInfo, Sem.run_bind, run_program, Result.andThen_ok, k6, Sem.run_pure, kG, run_underlying hu, uP, kq, lM]
     rw [q1]
     rfl
    ·have := SRep.agg (E := E) (w := w) cs j1.toList (by simpa using q2) (fun i v x hv hx => q3 i v x (by simpa using hv) hx)
     simpa using this
  · exact hl.elim
 ·exact hl.elim
end
section
variable {P : Program} {T : TypeId → Option TI} {F0 : Nat → Prop} {w0 w : World} {E : Env} {mem : List Blk} {clock : Nat}
theorem HV {σ : St} {ρ : Operand → Value} (hρ : ∀ x, SRep E w (ρ x) (σ.ev x)) (size : Nat) :
   ∀ (parts : List (Nat × Operand)) (k : Nat) (es : List (List Dat)) (cells : Array Value), Ei σ size parts k = some es → (k + parts.length) * size ≤ cells.size →
     ∃ j1, Instr.fill (fun i => some (i * size, size)) cells (parts.map fun p => (p.1, ρ p.2)) = some j1 ∧ j1.size = cells.size ∧ es.length = parts.length ∧ (∀ e, e ∈ es → e.length = size) ∧
      (∀ q, q < k * size → j1[q]? = cells[q]?) ∧ (∀ (i j : Nat) e v x, es[i]? = some e → e[j]? = some x → j1[(k + i) * size + j]? = some v → DRep E.F w v x)
 | [], k, es, cells, h, hl => by
   simp only [Ei, Option.some.injEq] at h
   subst h
   exact ⟨cells, by simp [Instr.fill], rfl, rfl, by simp, fun _ _ => rfl, fun _ _ _ _ _ q => by simp at q⟩
 | (i, x) :: rest, k, es, cells, h, hl => by
   simp only [Ei] at h
   split at h
   · rename_i pW
     subst pW
     split at h
     ·rename_i cs jF
      split at h
      · rename_i ds r nw hr
        split at h
        ·rename_i j3
         simp only [Option.some.injEq] at h
         subst h
         simp only [List.length_cons] at hl
         have yf : (i + 1 + rest.length) * size ≤ cells.size := by rw [show i + 1 + rest.length = i + (rest.length + 1) by omega]; exact hl
         have j8 : i * size + size ≤ cells.size := by
          have : (i + 1) * size ≤ (i + 1 + rest.length) * size := HJ _ (by omega)
          rw [Gg, Kf] at this
          omega
         obtain ⟨lh, _, mo⟩ := (hρ x).cellsOf jF
         have lR := EF nw
         obtain ⟨jA, lu, om, pG⟩ := I2 (fun i => some (i * size, size)) cells i (i * size) size (ρ x) (rest.map fun p => (p.1, ρ p.2)) rfl (by omega) j8
         obtain ⟨j1, q1, q2, q3, q4, q5, q6⟩ := HV hρ size rest (i + 1) r jA hr (by rw [om]; exact yf)
         have kM : (ρ x).cells.toList.length = size := by simp; omega
         have jI : ∀ q, jA[q]? = if q < i * size then cells[q]? else if q < i * size + size then (ρ x).cells[q - i * size]? else cells[q]? := by
          intro q
          have e1 := getElem?_splice (l := cells.toList) (m := (ρ x).cells.toList) (o := i * size) (j := q) (by rw [kM]; simpa using j8)
          rw [kM] at e1
          rw [← LV, pG, e1]
          simp
         refine ⟨j1, by rw [List.map_cons, lu]; exact q1, by rw [q2, om], by simp [q3], fun e he => ?_, fun q hq => ?_, fun i' j e v y a1 a2 a3 => ?_⟩
         ·simp only [FL] at he
          rcases he with rfl | he
          · exact j3
          · exact q4 e he
         ·rw [q5 q (by rw [Gg]; omega), jI q, if_pos hq]
         ·cases i' with
          | zero =>
            simp only [List.getElem?_cons_zero, Option.some.injEq] at a1
            subst a1
            have hj : j < size := by have := lt_of_getElem? a2; omega
            simp only [Nat.add_zero] at a3
            rw [q5 _ (by rw [Gg]; omega), jI, if_neg (by omega), if_pos (by omega), show i * size + j - i * size = j by omega] at a3
            exact EG (E := E) (v := v) nw (fun z hz => mo j v z a3 hz) a2
          | succ i' =>
            rw [show i + (i' + 1) = i + 1 + i' by omega] at a3
            exact q6 i' j e v y (by simpa using a1) a2 a3
        ·cases h
      · cases h
     ·cases h
   · cases h
theorem HM (hT : AL P T) (h : WOk F0 w0 E w σ.mem σ.clock) (hρ : ∀ x, SRep E w (ρ x) (σ.ev x)) {parts : Array (Nat × Operand)} 
  (hl : CE T σ t len parts.toList V) :
  ∃ v w' E' y, (Instr.buildSlice t len (parts.map fun (i, x) => (i, ρ x))).run P w = .ok v w' ∧ EnvLe E w E' w' ∧ WOk F0 w0 E' w' σ.mem σ.clock ∧ SRep E' w' v y ∧ V y := by
 unfold CE at hl
 split at hl
 ·rename_i e _ ht
  have hu : P.underlying t = some (.slice e) := (hT t _ ht).desc
  split at hl
  · rename_i ei jg
    have j3 := (hT e ei jg).sizeOf (w := w)
    have lM : (parts.map fun (i, x) => (i, ρ x)).toList = parts.toList.map fun p => (p.1, ρ p.2) := by simp
    split at hl
    ·obtain ⟨hp, hV⟩ := hl
     have ke := h.later (w' := w.alloc (.cells #[] e)) ((Bel.refl _ w).alloc (Nat.le_refl _) _) (fun _ => False) (fun _ q => q.elim)
     refine ⟨.slice (some ⟨w.heap.size, 0, none⟩) 0 0, _, _, _, ?_, ke.2, ke.1, .c (.emp _), hV⟩
     simp only [Instr.buildSlice, Sem.run_bind, run_underlying hu, Result.andThen_ok, j3, Nat.zero_mul, lM, hp]
     simp [Instr.fill, newRow, Array.range_zero']
    ·rename_i n
     obtain ⟨jD, mE, yg, mF, hl⟩ := hl
     split at hl
     ·rename_i es j6
      obtain ⟨fi, z, k6, kr, jb, kG, kq⟩ := (hT e ei jg).info
      obtain ⟨j1, q1, q2, q3, q4, q5, q6⟩ := HV hρ ei.size parts.toList 0 es ((Array.range ((n + 1) * ei.size)).map (z.cells[· % z.cells.size]!)) j6 (by simp [mF])
      have s8 : (n + 1) * ei.size ≠ 0 := by
       have : 0 < (n + 1) * ei.size := Nat.mul_pos (by omega) jD
       omega
      have ke := h.later (w' := w.alloc (.cells j1 e)) ((Bel.refl _ w).alloc (Nat.le_refl _) _) (fun k => k = w.heap.size) (fun k q => by subst q; simp)
      refine ⟨.slice (some ⟨w.heap.size, 0, none⟩) es.length (n + 1), _, _, _, ?_, ke.2, ke.1, .c (.d (.sl es w.heap.size 0 (n + 1) ei.size (fun i j => j1.getD (i * ei.size + j) undef) (.inr rfl) (by omega) ?_ q4 ?_ ?_)), hl⟩
      ·simp only [Instr.buildSlice, Sem.run_bind, run_underlying hu, Result.andThen_ok, j3, lM]
       rw [if_neg (show ¬ (n + 1) * ei.size > 2 ^ 24 by omega)]
       simp only [Sem.run_pure, Result.andThen_ok, if_neg s8, Sem.run_bind, zeroValue, typeInfo, run_program, k6, kG]
       rw [q1]
       simp only [Sem.run_bind, newRow, run_newObj, Result.andThen_ok, Sem.run_pure, World.alloc_eq]
       rw [q3, mF]
      ·simp only [maxLen]
       have h1 : n + 1 ≤ (n + 1) * ei.size := Nat.le_mul_of_pos_right _ jD
       omega
      ·intro i j hi hj
       have i7 : i * ei.size + j < j1.size := by
        rw [q2]
        simp only [Array.size_map, Array.size_range]
        have : (i + 1) * ei.size ≤ (n + 1) * ei.size := HJ _ (by omega)
        rw [Gg, Kf] at this
        omega
       simp only [Nat.zero_add]
       rw [World.cell?_alloc_new]
       simp [i7]
      ·intro i j el x a1 a2
       have hj : j < ei.size := by have := lt_of_getElem? a2; rw [q4 el (Cb a1)] at this; exact this
       have hi := lt_of_getElem? a1
       have i7 : i * ei.size + j < j1.size := by
        rw [q2]
        simp only [Array.size_map, Array.size_range]
        have : (i + 1) * ei.size ≤ (n + 1) * ei.size := HJ _ (by omega)
        rw [Gg, Kf] at this
        omega
       have := q6 i j el (j1.getD (i * ei.size + j) undef) x a1 a2 (by simp [i7])
       exact this.le ke.2
     ·exact hl.elim
  · exact hl.elim
 ·exact hl.elim
theorem FQ : ∀ {xs : List Cell} {us vs : List Value}, D8 xs = some us → vs.length = xs.length → (∀ (i : Nat) v x, vs[i]? = some v → xs[i]? = some x → CRep E w v x) → vs = us
 | [], us, vs, h, hl, _ => by
   simp only [D8, Option.some.injEq] at h
   subst h
   exact XP hl
 | c :: xs, us, vs, h, hl, hd => by
   unfold D8 at h
   split at h
   ·rename_i hq; cases hq
   ·rename_i v cs hq
    injection hq with e1 e2
    subst e1; subst e2
    split at h
    ·rename_i ws yh
     simp only [Option.some.injEq] at h
     subst h
     match vs, hl with
     | u :: vs, hl =>
       have h0 := hd 0 u _ rfl rfl
       have hu : u = v := by cases h0 with | d h0 => cases h0; rfl
       subst hu
       have uQ := FQ (vs := vs) yh (by simpa using hl) (fun i v x hv hx => hd (i + 1) v x (by simpa using hv) (by simpa using hx))
       rw [uQ]
    ·cases h
   ·cases h
theorem Gx (hu : P.underlying t = some .bool) (a b : Bool) : (Op.equal t (.bool a) (.bool b)).run P w = .ok (a == b) w := by
 have h : ∀ d, (Op.equalIn (d + 1) t (.bool a) (.bool b)).run P w = .ok (a == b) w := fun d => by simp [Op.equalIn, run_underlying hu]
 exact h 9999
theorem X1 (k : IntKind) (a b : Int) : (Op.intBits .and k a b).run P w = .ok (.int k (Nr k a b)) w := rfl
theorem bc (hT : AL P T) {op : BinOp} (xo yo : Operand) (hx : SRep E w u x) (hy : SRep E w v y) (hl : OF T op t x y V) :
  ∃ r s, (do eqGuard op t xo yo u v; binOp op t u v : Sem Value).run P w = .ok r w ∧ SRep E w r s ∧ V s := by
 unfold OF at hl
 split at hl
 ·rename_i k a k' b
  have e1 := hx.lit_inv
  have e2 := hy.lit_inv
  subst e1; subst e2
  obtain ⟨rfl, hl⟩ := hl
  have hg : (eqGuard op t xo yo (.int k a) (.int k b)).run P w = .ok () w := by cases op <;> simp [eqGuard]
  by_cases kS : op = .and
  ·subst kS
   simp only [Q5] at hl
   refine ⟨.int k (Nr k a b), _, ?_, .c (.d (.lit _ rfl)), hl⟩
   simp only [Sem.run_bind, hg, Result.andThen_ok, binOp, ne_eq, not_true_eq_false, if_false]
   exact X1 k a b
  cases op <;> simp only [Q5] at hl <;> first
   | exact absurd rfl kS
   | exact hl.elim
   | exact ⟨_, _, by simp [hg, binOp, Op.intArith, Op.intCmp], .c (.d (.lit _ rfl)), hl⟩
   | exact ⟨_, _, by simp [hg, binOp, Op.intDiv, hl.1], .c (.d (.lit _ rfl)), hl.2⟩
 ·rename_i a b
  have e1 := hx.lit_inv
  have e2 := hy.lit_inv
  subst e1; subst e2
  have hg : (eqGuard op t xo yo (.string a) (.string b)).run P w = .ok () w := by cases op <;> simp [eqGuard]
  cases op <;> simp only [a8] at hl <;> first
   | exact hl.elim
   | exact ⟨_, _, by simp [hg, binOp, Op.stringOp], .c (.d (.lit _ rfl)), hl⟩
   | (have hm : ¬ (((a.size + b.size : Nat) : Int) > IntKind.i64.max) := by
       have := hl.1
       simp only [maxLen] at this
       simp [IntKind.max, IntKind.bits]
       omega
      exact ⟨_, _, by simp only [Sem.run_bind, hg, Result.andThen_ok, binOp, Op.stringOp, if_neg hm, Sem.run_pure], .c (.d (.lit _ rfl)), hl.2⟩)
 ·rename_i a b
  have e1 := hx.lit_inv
  have e2 := hy.lit_inv
  subst e1; subst e2
  split at hl
  ·rename_i ht
   have hu : P.underlying t = some .bool := (hT t _ ht).desc
   have hg : (eqGuard op t xo yo (.bool a) (.bool b)).run P w = .ok () w := by cases op <;> simp [eqGuard]
   split at hl
   · exact ⟨_, _, by simp only [Sem.run_bind, hg, Result.andThen_ok, binOp, Gx hu, Sem.run_pure], .c (.d (.lit _ rfl)), hl⟩
   · exact ⟨_, _, by simp only [Sem.run_bind, hg, Result.andThen_ok, binOp, Gx hu, Sem.run_pure], .c (.d (.lit _ rfl)), hl⟩
   · exact hl.elim
  ·exact hl.elim
 ·rename_i xs ys
  split at hl
  ·rename_i i us vs ht s9 nF
   obtain ⟨heq, h1, h2, hl⟩ := hl
   cases hx with | agg _ yi lv yj =>
   cases hy with | agg _ pX mh tZ =>
   have e1 := FQ s9 lv yj
   have e2 := FQ nF mh tZ
   subst e1; subst e2
   have hq := (hT t i ht).eqv heq w xo yo yi pX h1 h2
   split at hl
   · exact ⟨_, _, hq.1, .c (.d (.lit _ rfl)), hl⟩
   · exact ⟨_, _, hq.2, .c (.d (.lit _ rfl)), hl⟩
   · exact hl.elim
  ·exact hl.elim
 ·exact hl.elim
theorem ew {op : UnOp} (hx : SRep E w u x) (hl : dL op x V) : ∃ r s, (Op.unary op u).run P w = .ok r w ∧ SRep E w r s ∧ V s := by
 unfold dL at hl
 split at hl
 ·have e1 := hx.lit_inv
  subst e1
  exact ⟨_, _, by simp [Op.unary], .c (.d (.lit _ rfl)), hl⟩
 ·have e1 := hx.lit_inv
  subst e1
  exact ⟨_, _, by simp only [Op.unary, Op.intArith, Sem.run_pure], .c (.d (.lit _ rfl)), hl⟩
 ·exact hl.elim
theorem TOk.under (h : TOk P t i) : ∃ d, P.underlying t = some d := by
 have hd := h.desc
 cases hi : i.desc <;> rw [hi] at hd <;> simp only [Vc] at hd
 ·exact ⟨_, hd⟩
 ·exact ⟨_, hd⟩
 ·exact ⟨_, hd⟩
 ·obtain ⟨fs, hd, _⟩ := hd; exact ⟨_, hd⟩
 ·exact ⟨_, hd⟩
 ·exact ⟨_, hd⟩
 ·obtain ⟨d, hd, _⟩ := hd; exact ⟨_, hd⟩
theorem X2 (hT : AL P T) {s : TypeId} (hx : SRep E w u x) (hl : OG T s t x V) : ∃ r y, (convert s t u).run P w = .ok r w ∧ SRep E w r y ∧ V y := by
 unfold OG at hl
 split at hl
 ·rename_i k _ _ _ hs ht
  have hu : P.underlying t = some (.int k) := (hT t _ ht).desc
  obtain ⟨d, hd⟩ := (hT s _ hs).under
  have e1 := hx.lit_inv
  subst e1
  refine ⟨_, _, ?_, .c (.d (.lit _ rfl)), hl⟩
  simp only [convert, Sem.run_bind, run_underlying hd, Result.andThen_ok, run_underlying hu, Conv.intToInt, Sem.run_pure]
 ·exact hl.elim
theorem Kx {σ : St} {ρ : Operand → Value} (hρ : ∀ x, SRep E w (ρ x) (σ.ev x)) : ∀ {xs : List Operand} {cs : List Cell}, Gv σ xs = some cs →
   xs.length = cs.length ∧ ∀ (i : Nat) v c, (xs.map ρ)[i]? = some v → cs[i]? = some c → CRep E w v c
 | [], cs, h => by
   simp only [Gv, Option.some.injEq] at h
   subst h
   exact ⟨rfl, by simp⟩
 | x :: xs, cs, h => by
   simp only [Gv] at h
   split at h
   ·rename_i c r hc hr
    simp only [Option.some.injEq] at h
    subst h
    obtain ⟨h1, h2⟩ := Kx hρ hr
    refine ⟨by simp [h1], fun i v d hv hd => ?_⟩
    cases i with
    | zero =>
      simp at hv hd
      subst hv; subst hd
      have := hρ x
      rw [hc] at this
      generalize ρ x = vx at this
      cases this with | c q => exact q
    | succ i => exact h2 i v d (by simpa using hv) (by simpa using hd)
   ·cases h
theorem X3 (hρ : ∀ x, SRep E w (ρ x) (σ.ev x)) {fn : Fn} {first captured : Array Operand} (hl : OH σ fn first.toList captured.toList V) :
  ∃ r y, (Instr.makeFunc fn (first.map ρ) (captured.map ρ)).run P w = .ok r w ∧ SRep E w r y ∧ V y := by
 unfold OH at hl
 split at hl
 ·rename_i f h1 h2
  have e1 : first = #[] := by simpa using h1
  have e2 : captured = #[] := by simpa using h2
  subst e1; subst e2
  exact ⟨_, _, by simp [Instr.makeFunc], .c (.d (.lit _ rfl)), hl⟩
 ·rename_i f h1 _
  have e1 : first = #[] := by simpa using h1
  subst e1
  split at hl
  ·rename_i cs jF
   obtain ⟨q1, q2⟩ := Kx hρ jF
   have hm : captured.map ρ = (captured.toList.map ρ).toArray := by apply Q3; simp
   have j7 : (Instr.makeFunc (.func f) ((#[] : Array Operand).map ρ) (captured.map ρ)).run P w = .ok (.func (.func f) #[] (captured.toList.map ρ).toArray) w := by
    rw [hm]; simp only [Array.map_empty, Instr.makeFunc, Sem.run_pure]
   split at hl
   ·rename_i ds nw
    have lR := EF nw
    refine ⟨_, _, j7, .c (.d (.clo f ds (captured.toList.map ρ) (by simp; simp at q1; omega) (fun i v x hv hx => ?_))), hl⟩
    exact EG nw (fun y hy => q2 i v y hv hy) hx
   ·exact ⟨_, _, j7, .c (.clo f cs (captured.toList.map ρ) (by simpa using q1) q2), hl⟩
  ·exact hl.elim
 ·exact hl.elim
theorem Ky (hx : SRep E w u x) {g : FuncId} {js : List Cell} (h : Cr x = some (g, js)) :
  ∃ vs : List Value, u = .func (.func g) #[] vs.toArray ∧ vs.length = js.length ∧ ∀ (i : Nat) v c, vs[i]? = some v → js[i]? = some c → CRep E w v c := by
 unfold Cr at h
 split at h
 ·rename_i f first cs
  have e1 := hx.lit_inv
  subst e1
  split at h
  · rename_i hq
    simp at h
    obtain ⟨rfl, rfl⟩ := h
    obtain ⟨h1, h2⟩ := hq
    have e1 : first = #[] := by simpa using h1
    have e2 : cs = #[] := by simpa using h2
    subst e1; subst e2
    exact ⟨[], rfl, rfl, by simp⟩
  · cases h
 ·rename_i f ds
  simp at h
  obtain ⟨rfl, rfl⟩ := h
  cases hx with | c hx => cases hx with | d hx => cases hx with | clo _ _ vs hl hd =>
  refine ⟨vs, rfl, by simpa using hl, fun i v c hv hc => ?_⟩
  rw [BU] at hc
  cases hq : ds[i]? with
  | none => rw [hq] at hc; cases hc
  | some y =>
    rw [hq] at hc
    simp at hc
    subst hc
    exact .d (hd i v y hv hq)
 ·simp at h
  obtain ⟨rfl, rfl⟩ := h
  cases hx with | c hx => cases hx with | clo _ _ vs hl hd => exact ⟨vs, rfl, hl, hd⟩
 ·cases h
end
end Go.Abs
end
