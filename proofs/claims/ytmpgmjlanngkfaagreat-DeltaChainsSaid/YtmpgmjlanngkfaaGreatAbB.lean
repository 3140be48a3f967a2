/-
  More operations over the abstract view: addresses, slices, appends, literals, arithmetic.
-/
import Derived.Test.YtmpgmjlanngkfaaGreatAbA
section
namespace Go.Abs
open Go.RowKit
variable {V : SVal → Prop} {e t ty : TypeId} {ei i : TI} {esz len n : Nat} {hi lo : Option Operand} {l : Int} {u v : Value} {x y : SVal} {ys : List (List Dat)} {ρ : Operand → Value} {σ : St}
section
variable {P : Program} {T : TypeId → Option TI} {F0 : Nat → Prop} {w0 w : World} {E : Env} {mem : List Blk} {clock : Nat}
theorem ES (h : WOk F0 w0 E w mem clock) {r k : Nat} (hl : CR mem r k) : E.ver r = k := by
 unfold CR at hl
 split at hl
 ·rename_i k' cs hm; subst hl; exact (h.mem.ok r _ hm).1
 ·rename_i k' a b c hm; subst hl; exact (h.mem.ok r _ hm).1
 ·exact hl.elim
theorem Sp (hT : AE P T) (h : WOk F0 w0 E w σ.mem σ.clock) {s : TypeId} {f : Nat} (hx : SRep E w u x) (hl : Fq T σ s f x V) :
  ∃ v y, (Instr.fieldAt s u f).run P w = .ok v w ∧ SRep E w v y ∧ V y := by
 unfold Fq at hl
 split at hl
 ·rename_i _ _ _ fs _ hs
  obtain ⟨fields, hu, hfs⟩ := (hT s _ hs).desc
  split at hl
  ·rename_i off ft hf
   split at hl
   ·rename_i j hj
    obtain ⟨hz, hl⟩ := hl
    have hsz := (hT ft j hj).sizeOf (w := w)
    have hfl : ∃ fl, fields[f]? = some fl ∧ fl.offset = off ∧ fl.type = ft := by
     rw [← hfs, B2] at hf
     cases hq : fields.toList[f]? with
     | none => rw [hq] at hf; cases hf
     | some fl =>
       rw [hq] at hf
       simp at hf
       exact ⟨fl, by simpa using hq, hf.1, hf.2⟩
    obtain ⟨fl, hfl, rfl, rfl⟩ := hfl
    have hrun : ∀ b o, (Instr.fieldAt s (.pointer (some ⟨b, o, none⟩)) f).run P w = .ok (.pointer (some ⟨b, o + fl.offset, none⟩)) w := by
     intro b o
     simp [Instr.fieldAt, run_underlying hu, hfl, Instr.sureAddr, fieldPlace, hsz, hz, Addr.add_lit]
    split at hl
    ·rename_i r k o
     have hv := ES h hl.1
     have hu' : u = .pointer (some ⟨E.blk r, o, none⟩) := by cases hx with | c hx => cases hx with | bp _ _ _ _ _ _ hh => exact hh hv
     subst hu'
     exact ⟨_, _, hrun _ _, .c (.bp r k _ _ rfl (by omega) (fun _ => rfl)), hl.2⟩
    ·rename_i e o
     cases hx with | c hx => cases hx with | fp _ _ b off us hF hc hd =>
     refine ⟨_, _, hrun _ _, .c ?_, hl⟩
     rw [XU]
     exact .fp e (o + fl.offset) b off us hF hc hd
    ·rename_i r k esz n o
     have hv := ES h hl.1
     have hu' : u = .pointer (some ⟨E.blk r, n * esz + o, none⟩) := by cases hx with | c hx => cases hx with | ap _ _ _ _ _ _ _ _ hh => exact hh hv
     subst hu'
     exact ⟨_, _, hrun _ _, .c (.ap r k esz n _ _ rfl (by omega) (fun _ => by rw [XU])), hl.2⟩
    ·exact hl.elim
   ·exact hl.elim
  ·exact hl.elim
 ·exact hl.elim
theorem DRep.sl_inv {F : Nat → Prop} {es : List (List Dat)} (h : DRep F w v (.sl es)) :
   (es = [] ∧ ∃ a cap, v = .slice a 0 cap) ∨ ∃ (b off cap size : Nat) (u : Nat → Nat → Value), v = .slice (some ⟨b, off, none⟩) es.length cap ∧ F b ∧ es.length ≤ cap ∧ cap ≤ maxLen ∧ (∀ e, e ∈ es → e.length = size) ∧
     (∀ (i j : Nat), i < es.length → j < size → w.cell? ⟨b, off + i * size + j, none⟩ = some (u i j)) ∧ (∀ (i j : Nat) e x, es[i]? = some e → e[j]? = some x → DRep F w (u i j) x) := by
 cases h with
 | emp a cap => exact .inl ⟨rfl, a, cap, rfl⟩
 | sl _ b off cap size u hF hcap hmax hsz hc hd => exact .inr ⟨b, off, cap, size, u, rfl, hF, hcap, hmax, hsz, hc, hd⟩
theorem Sq (hT : AE P T) (h : WOk F0 w0 E w σ.mem σ.clock) {q : Value} {i : SVal} (hx : SRep E w u x) (hi : SRep E w q i) (hl : Fs T σ t x i V) :
  ∃ v y, (Instr.indexAt t u q).run P w = .ok v w ∧ SRep E w v y ∧ V y := by
 unfold Fs at hl
 split at hl
 ·rename_i ki n
  have hq := hi.lit_inv
  subst hq
  obtain ⟨h0, hl⟩ := hl
  split at hl
  ·rename_i _ _ _ e _ ht
   have hu : P.underlying t = some (.slice e) := (hT t _ ht).desc
   split at hl
   ·rename_i ei hei
    have hsz := (hT e ei hei).sizeOf (w := w)
    split at hl
    ·rename_i es
     obtain ⟨el, he, hel, hV⟩ := Jb hl
     have hn := lt_of_getElem? he
     cases hx with | c hx => cases hx with | d hx =>
     rcases hx.sl_inv with ⟨rfl, _⟩ | ⟨b, off, cap, size, us, rfl, hF, hcap, hmax, hsz', hc, hd⟩
     ·simp at hn
     have hse : size = ei.size := by rw [← hel]; exact (hsz' el (Cl he)).symm
     subst hse
     have hlt : n < (es.length : Int) := by omega
     refine ⟨.pointer (some ⟨b, off + n.toNat * ei.size, none⟩), _, ?_, .c ?_, hV⟩
     ·simp [Instr.indexAt, asIntOf, run_underlying hu, h0, hlt, hsz, Addr.add_lit]
     ·exact .fp el 0 b (off + n.toNat * ei.size) (fun j => us n.toNat j) hF (fun j hj => hc n.toNat j hn (by omega)) (fun j x hx => hd n.toNat j el x he hx)
    ·rename_i r k m
     obtain ⟨hlt, hl⟩ := hl
     split at hl
     ·rename_i k' ety esz es hm
      obtain ⟨rfl, rfl, hme, hV⟩ := hl
      obtain ⟨h1, hpos, hsz', hcap, hmax, h6⟩ := h.mem.ok r _ hm
      have hcz : E.cap r ≠ 0 := by omega
      have hu' : u = .slice (some ⟨E.blk r, 0, none⟩) m (E.cap r) := by
       cases hx with | c hx => cases hx with | arr _ _ _ _ _ _ hh =>
       rcases hh h1 with hh | hh
       ·exact absurd hh.1 hcz
       ·exact hh.2
      subst hu'
      refine ⟨.pointer (some ⟨E.blk r, n.toNat * ei.size, none⟩), _, ?_, .c (.ap r k' ei.size n.toNat 0 _ rfl (by omega) (fun _ => rfl)), hV⟩
      simp [Instr.indexAt, asIntOf, run_underlying hu, h0, hlt, hsz, Addr.add_lit]
     ·exact hl.elim
    ·exact hl.elim
   ·exact hl.elim
  ·rename_i _ _ _ m e _ ht
   have hu : P.underlying t = some (.array m e) := (hT t _ ht).desc
   obtain ⟨hlt, hl⟩ := hl
   split at hl
   ·rename_i ei hei
    have hsz := (hT e ei hei).sizeOf (w := w)
    have hrun : ∀ b o, (Instr.indexAt t (.pointer (some ⟨b, o, none⟩)) (.int ki n)).run P w = .ok (.pointer (some ⟨b, o + n.toNat * ei.size, none⟩)) w := by
     intro b o
     simp [Instr.indexAt, asIntOf, run_underlying hu, Instr.sureAddr, h0, hlt, hsz, Addr.add_lit]
    split at hl
    ·rename_i r k o
     have hv := ES h hl.1
     have hu' : u = .pointer (some ⟨E.blk r, o, none⟩) := by cases hx with | c hx => cases hx with | bp _ _ _ _ _ _ hh => exact hh hv
     subst hu'
     exact ⟨_, _, hrun _ _, .c (.bp r k _ _ rfl (by omega) (fun _ => rfl)), hl.2⟩
    ·rename_i el o
     cases hx with | c hx => cases hx with | fp _ _ b off us hF hc hd =>
     refine ⟨_, _, hrun _ _, .c ?_, hl⟩
     rw [XU]
     exact .fp el (o + n.toNat * ei.size) b off us hF hc hd
    ·exact hl.elim
   ·exact hl.elim
  ·exact hl.elim
 ·exact hl.elim
theorem XX (hT : AE P T) (h : WOk F0 w0 E w σ.mem σ.clock) (hx : SRep E w u x) (hl : Mz T σ t x V) :
  ∃ v y, (Builtin.len_ #[t] ty #[u]).run P w = .ok v w ∧ SRep E w v y ∧ V y := by
 unfold Mz at hl
 split at hl
 ·rename_i e _ es ht
  have hu : P.underlying t = some (.slice e) := (hT t _ ht).desc
  cases hx with | c hx => cases hx with | d hx =>
  rcases hx.sl_inv with ⟨rfl, a, cap, rfl⟩ | ⟨b, off, cap, size, us, rfl, _⟩
  ·exact ⟨_, _, by simp [Builtin.len_, run_underlying hu]; rfl, .c (.d (.lit _ rfl)), hl⟩
  ·exact ⟨_, _, by simp [Builtin.len_, run_underlying hu]; rfl, .c (.d (.lit _ rfl)), hl⟩
 ·rename_i e _ ht
  have hu : P.underlying t = some (.slice e) := (hT t _ ht).desc
  cases hx with | c hx => cases hx with | emp a =>
  exact ⟨_, _, by simp [Builtin.len_, run_underlying hu]; rfl, .c (.d (.lit _ rfl)), hl⟩
 ·rename_i e _ r k n ht
  have hu : P.underlying t = some (.slice e) := (hT t _ ht).desc
  have hv := ES h hl.1
  cases hx with | c hx => cases hx with | arr _ _ _ _ _ _ hh =>
  rcases hh hv with ⟨_, rfl, a, rfl⟩ | ⟨_, rfl⟩
  ·exact ⟨_, _, by simp [Builtin.len_, run_underlying hu]; rfl, .c (.d (.lit _ rfl)), hl.2⟩
  ·exact ⟨_, _, by simp [Builtin.len_, run_underlying hu]; rfl, .c (.d (.lit _ rfl)), hl.2⟩
 ·rename_i s ht
  have hu : P.underlying t = some .string := (hT t _ ht).desc
  have := hx.lit_inv
  subst this
  exact ⟨_, _, by simp [Builtin.len_, run_underlying hu]; rfl, .c (.d (.lit _ rfl)), hl⟩
 ·rename_i n e _ ht
  have hu : P.underlying t = some (.array n e) := (hT t _ ht).desc
  exact ⟨_, _, by simp [Builtin.len_, run_underlying hu]; rfl, .c (.d (.lit _ rfl)), hl⟩
 ·exact hl.elim
end
section
variable {P : Program} {T : TypeId → Option TI} {F0 : Nat → Prop} {w0 w : World} {E : Env} {mem : List Blk} {clock : Nat}
theorem LI {d : Nat} (hρ : ∀ x, SRep E w (ρ x) (σ.ev x)) (h : Mt d (lo.map σ.ev) = some l) :
   (lo = none ∧ l = d) ∨ ∃ x k, lo = some x ∧ ρ x = .int k l := by
 cases lo with
 | none => simp [Mt] at h; exact .inl ⟨rfl, h.symm⟩
 | some x =>
   simp only [Option.map_some] at h
   unfold Mt at h
   split at h
   · rename_i q; cases q
   · rename_i n he
     simp only [Option.some.injEq] at h he
     subst h
     have := hρ x
     rw [he] at this
     exact .inr ⟨x, _, rfl, this.lit_inv⟩
   · cases h
theorem Jd {isSlice : Bool} {cap : Nat} (hρ : ∀ x, SRep E w (ρ x) (σ.ev x)) {h : Int}
  (hl : Mt 0 (lo.map σ.ev) = some l) (hh : Mt len (hi.map σ.ev) = some h) (h0 : 0 ≤ l) (h1 : l ≤ h) (h2 : h ≤ (cap : Int)) :
  (Instr.sliceBounds isSlice len cap (lo.map ρ) (hi.map ρ) none).run P w = .ok (l.toNat, h.toNat, cap) w := by
 rcases LI hρ hh with ⟨rfl, rfl⟩ | ⟨x, k, rfl, hx⟩
 ·rcases LI hρ hl with ⟨rfl, rfl⟩ | ⟨y, k', rfl, hy⟩
  · simp [Instr.sliceBounds]
  · have : (0 : Int) ≤ l ∧ l ≤ (len : Int) := ⟨h0, h1⟩
    simp [Instr.sliceBounds, Instr.sliceBound, hy, asIntOf, this]
 ·have hc : (0 : Int) ≤ h ∧ h ≤ (cap : Int) := ⟨by omega, h2⟩
  rcases LI hρ hl with ⟨rfl, rfl⟩ | ⟨y, k', rfl, hy⟩
  · simp [Instr.sliceBounds, Instr.sliceBound, hx, asIntOf, hc]
  · have : (0 : Int) ≤ l ∧ l ≤ (h.toNat : Int) := ⟨h0, by omega⟩
    simp only [Int.ofNat_toNat] at this
    have hm : max h 0 = h := by omega
    rw [hm] at this
    simp [Instr.sliceBounds, Instr.sliceBound, hx, hy, asIntOf, hc, this, hm]
theorem Co (hT : AE P T) (hu : P.underlying t = some (.slice e)) (he : T e = some ei) (hρ : ∀ x, SRep E w (ρ x) (σ.ev x))
  {h : Int} {cap : Nat} (a : Option Addr) (hl : Mt 0 (lo.map σ.ev) = some l) (hh : Mt len (hi.map σ.ev) = some h) (h0 : 0 ≤ l) (h1 : l ≤ h) (h2 : h ≤ (cap : Int)) :
  (Instr.sliceAt t (.slice a len cap) (lo.map ρ) (hi.map ρ) none).run P w =
    .ok (.slice (if cap = l.toNat then a else a.map (·.add (l.toNat * ei.size))) (h.toNat - l.toNat) (cap - l.toNat)) w := by
 have hr := Jd (P := P) (isSlice := true) (cap := cap) hρ hl hh h0 h1 h2
 have hsz := (hT e ei he).sizeOf (w := w)
 simp [Instr.sliceAt, Instr.slice, run_underlying hu, hr, hsz]
theorem Sr (hT : AE P T) (h : WOk F0 w0 E w σ.mem σ.clock) (hx : SRep E w u x) (hρ : ∀ x, SRep E w (ρ x) (σ.ev x))
  (hl : Gl T σ t x (lo.map σ.ev) (hi.map σ.ev) V) :
  ∃ v y, (Instr.sliceAt t u (lo.map ρ) (hi.map ρ) none).run P w = .ok v w ∧ SRep E w v y ∧ V y := by
 unfold Gl at hl
 split at hl
 ·rename_i s ht
  have hu : P.underlying t = some .string := (hT t _ ht).desc
  have := hx.lit_inv
  subst this
  split at hl
  ·rename_i l h' hb1 hb2
   obtain ⟨h0, h1, h2, hV⟩ := hl
   have hr := Jd (P := P) (isSlice := false) (cap := s.size) hρ hb1 hb2 h0 h1 h2
   exact ⟨_, _, by simp [Instr.sliceAt, Instr.slice, run_underlying hu, hr], .c (.d (.lit _ rfl)), hV⟩
  ·exact hl.elim
 ·rename_i e _ es ht
  have hu : P.underlying t = some (.slice e) := (hT t _ ht).desc
  split at hl
  ·rename_i ei l h' he hb1 hb2
   obtain ⟨hsz0, h0, h1, h2, hV⟩ := hl
   cases hx with | c hx => cases hx with | d hx =>
   rcases hx.sl_inv with ⟨rfl, a, cap, rfl⟩ | ⟨b, off, cap, size, us, rfl, hF, hcap, hmax, hsz', hc, hd⟩
   ·have e1 : h' = 0 := by simp at h2; omega
    subst e1
    have e2 : l = 0 := by omega
    subst e2
    have hr := Co (cap := cap) hT hu he hρ a hb1 hb2 h0 h1 (by omega)
    exact ⟨_, _, hr, .c (.d (by simpa using .emp _ _)), hV⟩
   ·have hr := Co hT hu he hρ (some ⟨b, off, none⟩) hb1 hb2 h0 h1 (cap := cap) (by omega)
    by_cases hlh : l = h'
    ·subst hlh
     have hnil : (es.take l.toNat).drop l.toNat = [] := Sd (by simp; omega)
     rw [hnil] at hV
     refine ⟨_, _, hr, .c (.d ?_), hV⟩
     rw [U6]
     exact .emp _ _
    ·have hes : es ≠ [] := fun q => by subst q; simp at h2; omega
     obtain ⟨e0, hmem⟩ := List.exists_mem_of_ne_nil es hes
     have hss : size = ei.size := by rw [← hsz' e0 hmem]; exact hsz0 e0 hmem
     subst hss
     have hne : ¬ cap = l.toNat := by omega
     have hlen : ((es.take h'.toNat).drop l.toNat).length = h'.toNat - l.toNat := by simp; omega
     rw [if_neg hne, Option.map_some, Addr.add_lit, ← hlen] at hr
     refine ⟨_, _, hr, .c (.d (.sl _ b (off + l.toNat * ei.size) _ ei.size (fun i j => us (l.toNat + i) j) hF ?_ (by omega) ?_ ?_ ?_)), hV⟩
     ·omega
     ·intro e he
      exact hsz' e (IS (U1 he))
     ·intro i j hi hj
      rw [hlen] at hi
      have := hc (l.toNat + i) j (by omega) hj
      rw [EO] at this
      rw [← this]
      congr 2
      omega
     ·intro i j e x q1 q2
      rw [Zz, LD] at q1
      split at q1
      ·exact hd (l.toNat + i) j e x q1 q2
      ·cases q1
  ·exact hl.elim
 ·rename_i e _ ht
  have hu : P.underlying t = some (.slice e) := (hT t _ ht).desc
  split at hl
  ·rename_i ei l h' he hb1 hb2
   obtain ⟨rfl, rfl, hV⟩ := hl
   cases hx with | c hx => cases hx with | emp a =>
   have hr := Co hT hu he hρ a hb1 hb2 (by omega) (by omega) (cap := 0) (by omega)
   exact ⟨_, _, hr, .c (.emp _), hV⟩
  ·exact hl.elim
 ·rename_i e _ r k m ht
  have hu : P.underlying t = some (.slice e) := (hT t _ ht).desc
  split at hl
  ·rename_i ei l h' k' ety esz es he hb1 hb2 hm
   obtain ⟨rfl, hme, rfl, h0, h1, hV⟩ := hl
   obtain ⟨hv, _, _, hcap, _⟩ := h.mem.ok r _ hm
   cases hx with | c hx => cases hx with | arr _ _ _ _ _ _ hh =>
   rcases hh hv with ⟨hcz, rfl, a, rfl⟩ | ⟨hcp, rfl⟩
   ·have e1 : h' = 0 := by simp at h1; omega
    subst e1
    have hr := Co hT hu he hρ a hb1 hb2 (by omega) (by omega) (cap := 0) (by omega)
    exact ⟨_, _, hr, .c (.arr r k' 0 _ rfl (by omega) (fun _ => .inl ⟨hcz, rfl, _, rfl⟩)), hV⟩
   ·have hr := Co hT hu he hρ (some ⟨E.blk r, 0, none⟩) hb1 hb2 (by omega) h0 (cap := E.cap r) (by omega)
    have hne : ¬ E.cap r = Int.toNat 0 := by simp; omega
    rw [if_neg hne, Option.map_some, Addr.add_lit] at hr
    simp only [Int.toNat_zero, Nat.zero_mul, Nat.add_zero, Nat.sub_zero] at hr
    exact ⟨_, _, hr, .c (.arr r k' h'.toNat _ rfl (by omega) (fun _ => .inr ⟨hcp, rfl⟩)), hV⟩
  ·exact hl.elim
 ·exact hl.elim
end
section
variable {P : Program} {T : TypeId → Option TI} {F0 : Nat → Prop} {w0 w : World} {E : Env} {mem : List Blk} {clock : Nat}
def Flat (D : Value → Dat → Prop) (esz : Nat) (es : List (List Dat)) (c : List Value) : Prop :=
 ∀ (i j : Nat) e v x, es[i]? = some e → e[j]? = some x → c[i * esz + j]? = some v → D v x
theorem Flat.join {D : Value → Dat → Prop} {A B : List (List Dat)} {olds news rest : List Value} (hlo : olds.length = A.length * esz) (hA : ∀ e, e ∈ A → e.length = esz) (hB : ∀ e, e ∈ B → e.length = esz)
  (hln : news.length = B.length * esz) (h1 : Flat D esz A olds) (h2 : Flat D esz B news) : Flat D esz (A ++ B) (olds ++ news ++ rest) := by
 intro i j e v x q1 q2 q3
 rw [XN] at q1
 split at q1
 ·rename_i hi
  have hj : j < esz := by have := lt_of_getElem? q2; rw [hA e (Cl q1)] at this; exact this
  have hlt : i * esz + j < olds.length := by
    rw [hlo]
    have : (i + 1) * esz ≤ A.length * esz := Gb _ hi
    rw [EO, Hw] at this
    omega
  rw [GR, Ku hlt] at q3
  exact h1 i j e v x q1 q2 q3
 ·rename_i hi
  have hi' := lt_of_getElem? q1
  have hj : j < esz := by have := lt_of_getElem? q2; rw [hB e (Cl q1)] at this; exact this
  have hge : i * esz = A.length * esz + (i - A.length) * esz := by rw [← EO]; congr 1; omega
  have hlt : (i - A.length) * esz + j < news.length := by
    rw [hln]
    have : (i - A.length + 1) * esz ≤ B.length * esz := Gb _ hi'
    rw [EO, Hw] at this
    omega
  rw [GR, LB (by omega), Ku (by omega)] at q3
  rw [show i * esz + j - olds.length = (i - A.length) * esz + j by omega] at q3
  exact h2 (i - A.length) j e v x q1 q2 q3
theorem DRep.flat {F : Nat → Prop} (h : DRep F w v (.sl ys)) (hy : ∀ e, e ∈ ys → e.length = esz) (hne : ys ≠ []) :
  ∃ b off cap news, v = .slice (some ⟨b, off, none⟩) ys.length cap ∧ news.length = ys.length * esz ∧ (∀ (q : Nat) u, news[q]? = some u → w.cell? ((⟨b, off, none⟩ : Addr).add q) = some u) ∧
   (∀ u ∈ news, u.oneCell' = true) ∧ Flat (DRep F w) esz ys news := by
 rcases h.sl_inv with ⟨rfl, _⟩ | ⟨b, off, cap, size, us, rfl, hF, hcap, hmax, hsz, hc, hd⟩
 ·exact absurd rfl hne
 obtain ⟨e0, hmem⟩ := List.exists_mem_of_ne_nil ys hne
 have hss : size = esz := by rw [← hsz e0 hmem]; exact hy e0 hmem
 subst hss
 have key : ∀ q, q < ys.length * size → w.cell? ⟨b, off + q, none⟩ = some (us (q / size) (q % size)) := by
  intro q hq
  have hs : 0 < size := by
   rcases WN size with h0 | h0
   · subst h0; simp at hq
   · exact h0
  have h1 : q / size < ys.length := ZO (by rw [OL]; exact hq)
  have h2 := hc (q / size) (q % size) h1 (WU _ hs)
  rw [XU, OL, ZW] at h2
  exact h2
 have hdd : ∀ (i j : Nat) e x, ys[i]? = some e → e[j]? = some x → DRep F w (us i j) x := hd
 refine ⟨b, off, cap, (List.range (ys.length * size)).map (fun q => us (q / size) (q % size)), rfl, by simp, fun q u hu => ?_, fun u hu => ?_, fun i j e v x q1 q2 q3 => ?_⟩
 ·rw [Addr.add_lit]
  rw [B2] at hu
  by_cases hq : q < ys.length * size
  ·simp [hq] at hu
   rw [key q hq, hu]
  ·simp [hq] at hu
 ·obtain ⟨q, hq⟩ := LC.1 hu
  have hlt := lt_of_getElem? hq
  simp only [BQ, bR] at hlt
  rw [B2] at hq
  simp [hlt] at hq
  subst hq
  have hs : 0 < size := by
   rcases WN size with h0 | h0
   · subst h0; simp at hlt
   · exact h0
  have h1 : q / size < ys.length := ZO (by rw [OL]; exact hlt)
  have h2 : q % size < ys[q / size].length := by rw [hsz _ (Fp h1)]; exact WU _ hs
  exact (hdd (q / size) (q % size) _ _ (Bh h1) (Bh h2)).one
 ·have hj : j < size := by have := lt_of_getElem? q2; rw [hsz e (Cl q1)] at this; exact this
  have hi := lt_of_getElem? q1
  have hlt : i * size + j < ys.length * size := by
   have : (i + 1) * size ≤ ys.length * size := Gb _ hi
   rw [EO, Hw] at this
   omega
  rw [B2] at q3
  simp [hlt] at q3
  have e1 : (i * size + j) / size = i := by rw [OL, Nat.mul_add_div (by omega), Nat.div_eq_of_lt hj, Nat.add_zero]
  rw [e1, ZA hj] at q3
  subst q3
  exact hdd i j e x q1 q2
theorem LJ (hy : SRep E w v y) (hs : Ft y = some ys) : DRep E.F w v (.sl ys) := by
 unfold Ft at hs
 split at hs
 ·cases hy with | c hy => cases hy with | d hy => simp at hs; subst hs; exact hy
 ·cases hy with | c hy => cases hy with | emp a => simp at hs; subst hs; exact .emp _ _
 ·cases hs
theorem BR {i : TypeInfo} (ht : P.underlying t = some (.slice e)) (hi : P.info? e = some i) (a b : Option Addr) (n cap c : Nat) (h : n ≤ cap) :
   (Builtin.append_ #[t, t] ty #[.slice a n cap, .slice b 0 c]).run P w = .ok (.slice a n cap) w := by
 have hf : (Builtin.firstCells i.size 0 (.slice b 0 c)).run P w = .ok #[] w := by
   cases b with
   | none => simp [Builtin.firstCells]
   | some b => simp [Builtin.firstCells, loadCells, loadCellsFrom]
 cases a with
 | none => simp [Builtin.append_, run_underlying ht, sizeOf, typeInfo, hi, Builtin.lenOf, h, hf]
 | some a => simp [Builtin.append_, run_underlying ht, sizeOf, typeInfo, hi, Builtin.lenOf, h, hf, storeCells]
theorem CD {n0 : Nat} (w : World) (o : Obj) (h : n0 ≤ w.heap.size) : Bel n0 w (w.drew.alloc o) := ((Bel.refl n0 w).drew).alloc h o
theorem Ek {zs : Array Value} (h : v ∈ Builtin.zeroCells zs n) : v ∈ zs := by
 unfold Builtin.zeroCells at h
 rw [Array.mem_map] at h
 obtain ⟨i, hi, rfl⟩ := h
 have hi : i < n * zs.size := by simpa using hi
 have hpos : 0 < zs.size := by rcases WN zs.size with h0 | h0; rw [h0] at hi; simp at hi; exact h0
 have hlt := WU i hpos
 rw [getElem!_pos zs _ hlt]
 exact ZT hlt
theorem Gf {zs : Array Value} (hpos : 0 < zs.size) (h : v ∈ madeCells zs n) : v ∈ zs := by
 unfold madeCells at h
 rw [Array.mem_map] at h
 obtain ⟨i, hi, rfl⟩ := h
 have hlt := WU i hpos
 rw [getElem!_pos zs _ hlt]
 exact ZT hlt
theorem C9 {need : Nat} {z : Value} {old : Nat} {cells : List Value} (hz : z.cells.size = esz) (hl : cells.length = need * esz) (hmax : need ≤ maxLen) (hz1 : ∀ v ∈ z.cells, v.oneCell' = true) (hc1 : ∀ v ∈ cells, v.oneCell' = true) :
  ∃ gcap, gcap = grownCap w need old e ∧ need ≤ gcap ∧ gcap ≤ maxLen ∧
   ∃ c : Array Value, (w.drew.alloc (.cells (cells.toArray ++ Builtin.zeroCells z.cells (gcap - need)) e)).heap[w.heap.size]? = some (.cells c e (0, 0)) ∧ c.size = gcap * esz ∧ (∀ v ∈ c, v.oneCell' = true) ∧
    c.toList = cells ++ (Builtin.zeroCells z.cells (gcap - need)).toList := by
 have hge := grownCap_ge w need old e
 have hcm := grownCap_le_maxLen w need old e hmax
 refine ⟨_, rfl, hge, hcm, _, U2 w.drew _, ?_, fun v hv => ?_, by simp⟩
 ·simp only [Array.size_append, Vb, size_zeroCells, hz, hl, ← EO]
  congr 1
  omega
 ·rcases Array.mem_append.1 hv with hv | hv
  ·exact hc1 v (by simpa using hv)
  ·exact hz1 v (Ek hv)
theorem ET (hT : AE P T) (h : WOk F0 w0 E w mem clock) (ht : T t = some i) (hi : i.desc = .slice e) (hei : T e = some ei) (hzl : ei.zero.length = ei.size) (hyl : ∀ el ∈ ys, el.length = ei.size) (hm : ys.length ≤ maxLen) (hb : ys.length * ei.bytes ≤ 140737488355328) (hrep : DRep E.F w v (.sl ys)) (a : Option Addr) :
  ∃ v' w' cap, (Builtin.append_ #[t, t] ty #[.slice a 0 0, v]).run P w = .ok v' w' ∧ ys.length ≤ cap ∧ cap ≤ maxLen ∧ Bel w0.heap.size w w' ∧ (∀ i, i < w.heap.size → w'.heap[i]? = w.heap[i]?) ∧
   ((cap = 0 ∧ ∃ b, v' = .slice b 0 0) ∨ (0 < cap ∧ v' = .slice (some ⟨w.heap.size, 0, none⟩) ys.length cap)) ∧
   (cap = 0 ∨ ∃ c, w'.heap[w.heap.size]? = some (.cells c e (0, 0)) ∧ c.size = cap * ei.size ∧ (∀ v ∈ c, v.oneCell' = true) ∧ ∀ (i j : Nat) e v x, ys[i]? = some e → e[j]? = some x → c[i * ei.size + j]? = some v → DRep E.F w v x) := by
 have hu : P.underlying t = some (.slice e) := by have := (hT t i ht).desc; rw [hi] at this; exact this
 obtain ⟨fi, z, hi1, hi2, hi3, hi4, hi5⟩ := (hT e ei hei).info
 have hz : z.cells.size = ei.size := by rw [hi5]; simpa using hzl
 have hz1 : ∀ v ∈ z.cells, v.oneCell' = true := fun v hv => (hT e ei hei).ones v (by rw [hi5] at hv; simpa using hv)
 by_cases hne : ys = []
 ·subst hne
  rcases hrep.sl_inv with ⟨_, b, c, rfl⟩ | ⟨b, off, cap, size, us, rfl, _⟩
  ·exact ⟨_, w, 0, BR hu hi1 a b 0 0 c (Nat.le_refl _), Nat.le_refl _, by simp [maxLen], Bel.refl _ _, fun _ _ => rfl, .inl ⟨rfl, a, rfl⟩, .inl rfl⟩
  ·exact ⟨_, w, 0, BR hu hi1 a _ 0 0 cap (Nat.le_refl _), Nat.le_refl _, by simp [maxLen], Bel.refl _ _, fun _ _ => rfl, .inl ⟨rfl, a, rfl⟩, .inl rfl⟩
 ·obtain ⟨b, off, cap, news, rfl, hnl, hnc, hn1, hflat⟩ := hrep.flat hyl hne
  have hlp : 0 < ys.length := by rcases WN ys.length with h0 | h0; exact absurd (WK h0) hne; exact h0
  have h63 : ((0 + ys.length : Nat) : Int) ≤ 9223372036854775807 := by simp only [maxLen] at hm; omega
  obtain ⟨gcap, hg, hge, hgm, c, hc1, hc2, hc0, hc3⟩ := C9 (w := w) (e := e) (old := 0) hz hnl hm hz1 hn1
  have hr : (Builtin.append_ #[t, t] ty #[.slice a 0 0, .slice (some ⟨b, off, none⟩) ys.length cap]).run P w =
     .ok (.slice (some ⟨w.heap.size, 0, none⟩) ys.length gcap) (w.drew.alloc (.cells (news.toArray ++ Builtin.zeroCells z.cells (gcap - ys.length)) e)) := by
   cases a with
   | none =>
     have := run_append_nil (P := P) w t ty e fi z hu hi1 hi4 ⟨b, off, none⟩ ys.length cap news (by rw [hi2]; exact hnl) hnc hlp (by omega) (by rw [hi3]; omega)
     rw [hg]; exact this
   | some a =>
     have := run_append_grow (P := P) w t ty e fi z hu hi1 hi4 a 0 0 [] (by simp) (by simp) ⟨b, off, none⟩ ys.length cap news (by rw [hi2]; exact hnl) hnc (by omega) h63
      (by rw [hi3]; exact growslice_fits (by omega) (by simpa using hb))
     simp only [Nat.zero_add, bP] at this
     rw [hg]; exact this
  refine ⟨_, _, gcap, hr, hge, hgm, CD w _ h.le0, fun i hi => by rw [Bel.heap_alloc w.drew _ i hi]; rfl, .inr ⟨by omega, rfl⟩, .inr ⟨c, hc1, hc2, hc0, fun i j e' v' x' q1 q2 q3 => ?_⟩⟩
  have hj := Flat.join (A := []) (rest := (Builtin.zeroCells z.cells (gcap - ys.length)).toList) (olds := []) (by simp) (by simp) hyl hnl (fun _ _ _ _ _ q => by simp at q) hflat
  simp only [List.nil_append] at hj
  exact hj i j e' v' x' q1 q2 (by rw [← hc3]; simpa using q3)
theorem Je (hT : AE P T) {mem : List Blk} {clock clock' : Nat} (h : WOk F0 w0 E w mem clock) {e' : TypeId} {r k' kn : Nat} {es : List (List Dat)} (ht : T t = some i) (hi : i.desc = .slice e') (hei : T e' = some ei) (hzl : ei.zero.length = ei.size) (hyl : ∀ el ∈ ys, el.length = ei.size) (hrep : DRep E.F w v (.sl ys)) (hmr : mem[r]? = some (.arr k' e' ei.size es)) (hs : CRep E w u (.arr r k' n)) (hn : n ≤ es.length) (hm : n + ys.length ≤ maxLen) (hb : (n + ys.length) * ei.bytes ≤ 140737488355328) (hv : E.ver r < kn) (hc : clock ≤ clock') (hk : kn ≤ clock') :
  ∃ v' w' E', (Builtin.append_ #[t, t] ty #[u, v]).run P w = .ok v' w' ∧ EnvLe E w E' w' ∧ WOk F0 w0 E' w' (mem.set r (.arr kn e' ei.size (es.take n ++ ys))) clock' ∧ CRep E' w' v' (.arr r kn (n + ys.length)) := by
 have hu : P.underlying t = some (.slice e') := by have := (hT t i ht).desc; rw [hi] at this; exact this
 obtain ⟨fi, z, hi1, hi2, hi3, hi4, hi5⟩ := (hT e' ei hei).info
 have hz : z.cells.size = ei.size := by rw [hi5]; simpa using hzl
 have hz1 : ∀ v ∈ z.cells, v.oneCell' = true := fun v hv => (hT e' ei hei).ones v (by rw [hi5] at hv; simpa using hv)
 have ho := h.mem.ok r _ hmr
 obtain ⟨o1, o2, o3, o4, o5, o6⟩ := ho
 cases hs with | arr _ _ _ _ _ _ hh =>
 rcases hh o1 with ⟨hcz, hn0, a, rfl⟩ | ⟨hcp, rfl⟩
 ·subst hn0
  simp only [Nat.zero_add, List.take_zero, List.nil_append] at hm hb ⊢
  obtain ⟨v', w', cap, hr, h1, h2, h3, h4, h5, h6⟩ := ET hT h ht hi hei hzl hyl hm hb hrep a
  have hg := h.growArr r k' kn hv hc hk e' ei.size es hmr w.heap.size cap ys hyl h1 h2 (.inl rfl) h3 (fun i hi _ => h4 i hi) h6
  refine ⟨v', w', _, hr, hg.2, hg.1, .arr r kn ys.length v' ?_ (by simp [Env.upd]) (fun _ => ?_)⟩
  ·rcases h5 with ⟨_, b, rfl⟩ | ⟨_, rfl⟩ <;> rfl
  ·rcases h5 with ⟨h5, b, rfl⟩ | ⟨h5, rfl⟩
   ·exact .inl ⟨by simp [Env.upd, h5], by omega, b, rfl⟩
   ·exact .inr ⟨by simp [Env.upd]; exact h5, by simp [Env.upd]⟩
 ·rcases o6 with o6 | ⟨p1, p2, c, p3, p4, p0, p5⟩
  ·omega
  have hnc : n * ei.size ≤ c.size := by rw [p4]; exact Gb _ (by omega)
  have hAl : (es.take n).length = n := by simp; omega
  have hA : ∀ el, el ∈ es.take n → el.length = ei.size := fun el hel => o3 el (IS hel)
  have hAB : ∀ el, el ∈ es.take n ++ ys → el.length = ei.size := fun el hel => by
   rcases Ej.1 hel with q | q
   ·exact hA el q
   ·exact hyl el q
  have hfl : Flat (DRep E.F w) ei.size (es.take n) (c.toList.take (n * ei.size)) := by
   intro i j e v x q1 q2 q3
   rw [LD] at q1
   split at q1
   ·rw [LD] at q3
    split at q3
    ·exact p5 i j e v x q1 q2 (by simpa using q3)
    ·cases q3
   ·cases q1
  by_cases hne : ys = []
  ·subst hne
   simp only [List.length_nil, Nat.add_zero, List.append_nil] at hm hb ⊢
   have hr : (Builtin.append_ #[t, t] ty #[.slice (some ⟨E.blk r, 0, none⟩) n (E.cap r), v]).run P w = .ok (.slice (some ⟨E.blk r, 0, none⟩) n (E.cap r)) w := by
    rcases hrep.sl_inv with ⟨_, b, cc, rfl⟩ | ⟨b, off, cap, size, us, rfl, _⟩
    ·exact BR hu hi1 _ b n _ cc (by omega)
    ·exact BR hu hi1 _ _ n _ cap (by omega)
   have hg := h.growArr (w' := w) r k' kn hv hc hk e' ei.size es hmr (E.blk r) (E.cap r) (es.take n) hA (by omega) o5 (.inr ⟨rfl, by omega⟩) (Bel.refl _ _) (fun _ _ _ => rfl) (.inr ⟨c, p3, p4, p0, fun i j e v x q1 q2 q3 => by
    rw [LD] at q1
    split at q1
    ·exact p5 i j e v x q1 q2 q3
    ·cases q1⟩)
   exact ⟨_, w, _, hr, hg.2, hg.1, .arr r kn n _ rfl (by simp [Env.upd]) (fun _ => .inr ⟨by simp [Env.upd]; exact hcp, by simp [Env.upd]⟩)⟩
  ·obtain ⟨b, off, cap, news, rfl, hnl, hnc', hn1, hflat⟩ := hrep.flat hyl hne
   have hlp : 0 < ys.length := by rcases WN ys.length with h0 | h0; exact absurd (WK h0) hne; exact h0
   have hlo : (c.toList.take (n * ei.size)).length = n * ei.size := by simp; omega
   by_cases hroom : n + ys.length ≤ E.cap r
   ·have hfit : n * ei.size + news.length ≤ c.size := by rw [hnl, p4, ← EO]; exact Gb _ hroom
    have hr := run_append_room (P := P) w t ty e' fi hu hi1 (E.blk r) n (E.cap r) c p3 ⟨b, off, none⟩ ys.length cap news (by rw [hi2]; exact hnl) hnc' hn1 hroom (by rw [hi2]; exact hfit)
    rw [hi2] at hr
    have hg := h.growArr (w' := w.setRow (E.blk r) (c.toList.take (n * ei.size) ++ news ++ c.toList.drop (n * ei.size + news.length)).toArray) r k' kn hv hc hk e' ei.size es hmr (E.blk r) (E.cap r) (es.take n ++ ys) hAB (by simp; omega) o5 (.inr ⟨rfl, by omega⟩) (Ck w _ _ p1) (fun i hi hne => setRow_other w _ i _ hne)
     (.inr ⟨_, setRow_heap w _ c _ e' _ p3, by
       have := Bd (l := c.toList) (m := news) (o := n * ei.size) (by simpa using hfit)
       simp only [Vb, this, Se, p4], fun v hv => C8 p0 hn1 (by simpa using hv), fun i j e v x q1 q2 q3 => by
       exact Flat.join (by rw [hlo, hAl]) hA hyl hnl hfl hflat i j e v x q1 q2 (by simpa using q3)⟩)
    exact ⟨_, _, _, hr, hg.2, hg.1, .arr r kn (n + ys.length) _ rfl (by simp [Env.upd]) (fun _ => .inr ⟨by simp [Env.upd]; exact hcp, by simp [Env.upd]⟩)⟩
   ·have h63 : ((n + ys.length : Nat) : Int) ≤ 9223372036854775807 := by simp only [maxLen] at hm; omega
    have hjl : (c.toList.take (n * ei.size) ++ news).length = (n + ys.length) * ei.size := by rw [CP, hlo, hnl, EO]
    obtain ⟨gcap, hg, hge, hgm, c', hc1, hc2, hc0, hc3⟩ := C9 (w := w) (e := e') (old := E.cap r) hz hjl hm hz1 (fun v hv => by
     rcases Ej.1 hv with hv | hv
     · exact p0 v (by simpa using IS hv)
     · exact hn1 v hv)
    have hr := run_append_grow (P := P) w t ty e' fi z hu hi1 hi4 ⟨E.blk r, 0, none⟩ n (E.cap r) (c.toList.take (n * ei.size)) (by rw [hi2]; exact hlo) (fun j v hv => by
       rw [Addr.add_lit, Br p3]
       rw [LD] at hv
       split at hv
       ·simpa using hv
       ·cases hv) ⟨b, off, none⟩ ys.length cap news (by rw [hi2]; exact hnl) hnc' (by omega) h63 (by rw [hi3]; exact growslice_fits (by omega) hb)
    have happ : (c.toList.take (n * ei.size)).toArray ++ news.toArray = (c.toList.take (n * ei.size) ++ news).toArray := by simp
    rw [happ, ← hg] at hr
    have hgr := h.growArr (w' := w.drew.alloc (.cells ((c.toList.take (n * ei.size) ++ news).toArray ++ Builtin.zeroCells z.cells (gcap - (n + ys.length))) e')) r k' kn hv hc hk e' ei.size es hmr w.heap.size gcap (es.take n ++ ys) hAB (by simp; omega) hgm (.inl rfl) (CD w _ h.le0)
     (fun i hi _ => by rw [Bel.heap_alloc w.drew _ i hi]; rfl)
     (.inr ⟨c', hc1, hc2, hc0, fun i j e v x q1 q2 q3 => by
       exact Flat.join (by rw [hlo, hAl]) hA hyl hnl hfl hflat i j e v x q1 q2 (by rw [← hc3]; simpa using q3)⟩)
    exact ⟨_, _, E.upd r w.heap.size gcap kn, hr, hgr.2, hgr.1, .arr r kn (n + ys.length) _ rfl (by simp [Env.upd]) (fun _ => .inr ⟨by simp [Env.upd]; omega, by simp [Env.upd]⟩)⟩
theorem KF (hT : AE P T) (h : WOk F0 w0 E w σ.mem σ.clock) {s : SVal} (hs : SRep E w u s) (hy : SRep E w v y) {dst : Option Tmp} {K : St → Prop} (hl : D1 T σ t s y dst K) :
  ∃ v' w' E' mem' clock' x, (Builtin.append_ #[t, t] ty #[u, v]).run P w = .ok v' w' ∧ EnvLe E w E' w' ∧ WOk F0 w0 E' w' mem' clock' ∧ SRep E' w' v' x ∧ K ({ σ with mem := mem', clock := clock' }.putO dst x) := by
 unfold D1 at hl
 split at hl
 ·rename_i e _ ht
  have hu : P.underlying t = some (.slice e) := (hT t _ ht).desc
  split at hl
  ·rename_i ei ys hei hys
   obtain ⟨hpos, hzl, hyl, hl⟩ := hl
   obtain ⟨fi, z, hi1, hi2, hi3, hi4, hi5⟩ := (hT e ei hei).info
   have hz : z.cells.size = ei.size := by rw [hi5]; simpa using hzl
   have hz1 : ∀ v ∈ z.cells, v.oneCell' = true := fun v hv => (hT e ei hei).ones v (by rw [hi5] at hv; simpa using hv)
   have hrep := LJ hy hys
   split at hl
   ·obtain ⟨hm, hb, hK⟩ := hl
    cases hs with | c hs => cases hs with | emp a =>
    obtain ⟨v', w', cap, hr, h1, h2, h3, h4, h5, h6⟩ := ET hT h (ty := ty) ht rfl hei hzl hyl hm hb hrep a
    have hn := h.newArr e ei.size cap ys hpos hyl h1 h2 h3 h4 h6
    refine ⟨v', w', _, _, _, _, hr, hn.2, hn.1, .c (.arr σ.mem.length (σ.clock + 1) ys.length v' ?_ (by simp [Env.upd]) (fun _ => ?_)), hK⟩
    ·rcases h5 with ⟨_, b, rfl⟩ | ⟨_, rfl⟩ <;> rfl
    ·rcases h5 with ⟨h5, b, rfl⟩ | ⟨h5, rfl⟩
     ·exact .inl ⟨by simp [Env.upd, h5], by omega, b, rfl⟩
     ·exact .inr ⟨by simp [Env.upd]; exact h5, by simp [Env.upd]⟩
   ·rename_i r k n
    split at hl
    ·rename_i k' e' esz es hmr
     obtain ⟨rfl, rfl, rfl, hn, hm, hb, hK⟩ := hl
     cases hs with | c hs =>
     obtain ⟨v', w', E', q1, q2, q3, q4⟩ := Je hT (ty := ty) h (t := t) ht rfl hei hzl hyl hrep hmr hs hn hm hb (kn := σ.clock + 1) (clock' := σ.clock + 1) (by have := h.mem.clock r; omega) (by omega) (Nat.le_refl _)
     exact ⟨v', w', E', _, _, _, q1, q2, q3, .c q4, hK⟩
    ·exact hl.elim
   ·exact hl.elim
  ·exact hl.elim
 ·exact hl.elim
end
section
variable {P : Program} {T : TypeId → Option TI} {F0 : Nat → Prop} {w0 w : World} {E : Env} {mem : List Blk} {clock : Nat}
theorem MF (h : v.oneCell' = true) : CRep E w v (By v) := by
 unfold By
 split
 ·exact .emp _
 ·exact .d (.lit v h)
theorem DL {P : Program} (h : TOk P t i) : ∀ (j : Nat) v x, i.zero.toArray[j]? = some v → (i.zero.map By)[j]? = some x → CRep E w v x := by
 intro j v x hv hx
 rw [B2] at hx
 have hv' : i.zero[j]? = some v := by simpa using hv
 rw [hv'] at hx
 simp at hx
 subst hx
 exact MF (h.ones v (Cl hv'))
theorem Vh (hT : AE P T) (h : WOk F0 w0 E w σ.mem σ.clock) {l c : SVal} (hl : SRep E w u l) (hc : SRep E w v c) {dst : Option Tmp} {K : St → Prop} (hk : MA T σ t l c dst K) :
  ∃ v' w' E' mem' clock' x, (Instr.makeSlice t u v).run P w = .ok v' w' ∧ EnvLe E w E' w' ∧ WOk F0 w0 E' w' mem' clock' ∧ SRep E' w' v' x ∧ K ({ σ with mem := mem', clock := clock' }.putO dst x) := by
 unfold MA at hk
 split at hk
 ·rename_i e _ kn n km m ht
  have hu : P.underlying t = some (.slice e) := (hT t _ ht).desc
  have e1 := hl.lit_inv
  have e2 := hc.lit_inv
  subst e1; subst e2
  split at hk
  ·rename_i ei hei
   split at hk
   ·rename_i z hz
    obtain ⟨hpos, hzl, h0, hnm, h63, hb, hK⟩ := hk
    obtain ⟨fi, zv, hi1, hi2, hi3, hi4, hi5⟩ := (hT e ei hei).info
    have hr := run_make (P := P) w t e fi zv hu hi1 hi4 kn km n m h0 hnm (by rw [hi3]; exact hb) h63
    rw [hi2] at hr
    have hzlen := DJ hz
    have hzs : zv.cells.size = ei.size := by rw [hi5]; simpa using hzl
    have hn := h.newArr (w' := w.alloc (.cells (madeCells zv.cells (m.toNat * ei.size)) e)) e ei.size m.toNat (List.replicate n.toNat z) hpos (fun e he => by rw [List.eq_of_mem_replicate he, hzlen]; simpa using hzl) (by simp; omega) (by simp [maxLen]; omega)
     ((Bel.refl _ w).alloc h.le0 _) (fun i hi => Bel.heap_alloc w _ i hi) (.inr ⟨_, U2 w _, by simp [size_madeCells], fun v hv => (hT e ei hei).ones v (by have := Gf (by omega) hv; rw [hi5] at this; simpa using this), fun i j e v x q1 q2 q3 => by
       have hi := lt_of_getElem? q1
       simp only [I8] at hi
       rw [List.getElem?_replicate, if_pos hi] at q1
       simp only [Option.some.injEq] at q1
       subst q1
       have hj := lt_of_getElem? q2
       rw [hzlen] at hj
       simp only [BQ, hzl] at hj
       have hlt : i * ei.size + j < m.toNat * ei.size := by
        have : (i + 1) * ei.size ≤ m.toNat * ei.size := Gb _ (by omega)
        rw [EO, Hw] at this
        omega
       have hmod : (i * ei.size + j) % ei.size = j := by rw [OL, Nat.mul_add_mod, ZA hj]
       have hget : (madeCells zv.cells (m.toNat * ei.size))[i * ei.size + j]? = zv.cells[j]? := by
        unfold madeCells
        rw [Array.getElem?_map]
        have hjs : j < zv.cells.size := by rw [hzs]; exact hj
        simp only [Array.getElem?_range, hlt, if_true, Option.map_some, hzs, hmod]
        rw [getElem!_pos zv.cells j hjs, Mw hjs]
       rw [hget, hi5] at q3
       exact DK (E := E) (v := v) hz (fun y hy => DL (hT e ei hei) j v y q3 hy) q2⟩)
    refine ⟨_, _, E.upd σ.mem.length w.heap.size m.toNat (σ.clock + 1), _, _, _, hr, hn.2, hn.1, .c (.arr σ.mem.length (σ.clock + 1) n.toNat _ rfl (by simp [Env.upd]) (fun _ => ?_)), hK⟩
    rcases WN m.toNat with hm0 | hm0
    ·have hn0 : n.toNat = 0 := by omega
     exact .inl ⟨by simp [Env.upd, hm0], hn0, some ⟨w.heap.size, 0, none⟩, by rw [hn0, hm0]⟩
    ·exact .inr ⟨by simp [Env.upd]; omega, by simp [Env.upd]⟩
   ·exact hk.elim
  ·exact hk.elim
 ·exact hk.elim
theorem KG (off : Nat) : ∀ (l : List Value) (k : Nat) (cs : Array Value), off + k + l.length ≤ cs.size →
   ((l.zipIdx k).foldl (fun (cs : Array Value) (p : Value × Nat) => cs.setIfInBounds (off + p.2) p.1) cs).size = cs.size ∧
   ∀ q, ((l.zipIdx k).foldl (fun (cs : Array Value) (p : Value × Nat) => cs.setIfInBounds (off + p.2) p.1) cs)[q]? = if off + k ≤ q ∧ q < off + k + l.length then l[q - (off + k)]? else cs[q]?
 | [], k, cs, _ => by simp; intros; omega
 | v :: l, k, cs, h => by
   simp only [List.length_cons] at h
   have ih := KG off l (k + 1) (cs.setIfInBounds (off + k) v) (by simp; omega)
   simp only [List.zipIdx_cons, WR]
   refine ⟨by rw [ih.1]; simp, fun q => ?_⟩
   rw [ih.2 q]
   simp only [List.length_cons]
   by_cases h1 : q = off + k
   · subst h1
     rw [if_neg (by omega), if_pos (by omega)]
     have : off + k < cs.size := by omega
     simp [this]
   · by_cases h2 : off + (k + 1) ≤ q ∧ q < off + (k + 1) + l.length
     ·rw [if_pos h2, if_pos (by omega)]
      rw [show q - (off + k) = q - (off + (k + 1)) + 1 by omega, List.getElem?_cons_succ]
     ·rw [if_neg h2, if_neg (by omega)]
      rw [PH (by omega)]
theorem Hz (Ax : Nat → Option (Nat × Nat)) (cells : Array Value) (i off size : Nat) (v : Value) (rest : List (Nat × Value)) (hp : Ax i = some (off, size)) (hv : v.cells.size = size) (hfit : off + size ≤ cells.size) :
  ∃ cells' : Array Value, Instr.fill Ax cells ((i, v) :: rest) = Instr.fill Ax cells' rest ∧ cells'.size = cells.size ∧ cells'.toList = cells.toList.take off ++ v.cells.toList ++ cells.toList.drop (off + size) := by
 have hf := KG off v.cells.toList 0 cells (by simp; omega)
 simp only [Nat.add_zero, Se] at hf
 refine ⟨(v.cells.toList.zipIdx 0).foldl (fun (cs : Array Value) (p : Value × Nat) => cs.setIfInBounds (off + p.2) p.1) cells, ?_, hf.1, ?_⟩
 ·rw [Instr.fill]
  simp only [hp]
  rw [if_neg (by simp; omega)]
  congr 1
  rw [← Array.foldl_toList, Array.toList_zipIdx]
 ·apply PJ
  intro q
  have e := getElem?_splice (l := cells.toList) (m := v.cells.toList) (o := off) (j := q) (by simp; omega)
  rw [Se, hv] at e
  rw [e, I9, hf.2 q]
  by_cases h1 : q < off
  ·rw [if_neg (by omega), if_pos h1, I9]
  ·rw [if_neg h1]
   by_cases h2 : q < off + size
   ·rw [if_pos h2, if_pos (by omega)]
   ·rw [if_neg h2, if_neg (by omega), I9]
theorem Gm (hT : AE P T) {σ : St} {ρ : Operand → Value} (hρ : ∀ x, SRep E w (ρ x) (σ.ev x)) (fs : List (Nat × TypeId)) (Ax : Nat → Option (Nat × Nat))
   (hplace : ∀ i off ft j, fs[i]? = some (off, ft) → T ft = some j → Ax i = some (off, j.size)) :
   ∀ (parts : List (Nat × Operand)) (cs cs' : List Cell) (cells : Array Value), Il T σ fs parts cs = some cs' → cells.size = cs.length →
     (∀ (j : Nat) v x, cells[j]? = some v → cs[j]? = some x → CRep E w v x) →
     ∃ cells', Instr.fill Ax cells (parts.map fun p => (p.1, ρ p.2)) = some cells' ∧ cells'.size = cs'.length ∧ ∀ (j : Nat) v x, cells'[j]? = some v → cs'[j]? = some x → CRep E w v x
 | [], cs, cs', cells, h, hl, hc => by
   simp only [Il, Option.some.injEq] at h
   subst h
   exact ⟨cells, by simp [Instr.fill], hl, hc⟩
 | (i, x) :: rest, cs, cs', cells, h, hl, hc => by
   simp only [Il] at h
   split at h
   · rename_i off ft ns hf hns
     split at h
     · rename_i j hj
       split at h
       ·rename_i hcond
        obtain ⟨hn, hfit⟩ := hcond
        obtain ⟨hc1, _, hc3⟩ := (hρ x).cellsOf hns
        obtain ⟨cells1, hs1, hs2, hs3⟩ := Hz Ax cells i off j.size (ρ x) (rest.map fun p => (p.1, ρ p.2)) (hplace i off ft j hf hj) (by omega) (by omega)
        have e2 := Bd (l := cs) (m := ns) (o := off) hfit
        obtain ⟨cells', q1, q2, q3⟩ := Gm hT hρ fs Ax hplace rest _ cs' cells1 h (by rw [hs2, e2, hl]) (fun q v y hv hy => by
         have hv' : cells1.toList[q]? = some v := by simpa using hv
         rw [hs3] at hv'
         have e1 := getElem?_splice (l := cells.toList) (m := (ρ x).cells.toList) (o := off) (j := q) (by simp; omega)
         have e3 := getElem?_splice (l := cs) (m := ns) (o := off) (j := q) hfit
         have hvl : (ρ x).cells.toList.length = j.size := by simp; omega
         rw [hvl] at e1
         rw [hn] at e3
         rw [e1] at hv'
         rw [hn, e3] at hy
         by_cases a1 : q < off
         ·rw [if_pos a1] at hv' hy
          exact hc q v y (by simpa using hv') hy
         ·rw [if_neg a1] at hv' hy
          by_cases a2 : q < off + j.size
          ·rw [if_pos a2] at hv' hy
           exact hc3 (q - off) v y (by simpa using hv') hy
          ·rw [if_neg a2] at hv' hy
           exact hc q v y (by simpa using hv') hy)
        exact ⟨cells', by rw [List.map_cons, hs1]; exact q1, q2, q3⟩
       ·cases h
     · cases h
   · cases h
theorem Im (hT : AE P T) : ∀ (l : List Field), (∀ f ∈ l, ∃ j, T f.type = some j) →
   (l.mapM (fun f => do pure (f.offset, ← sizeOf f.type) : Field → Sem (Nat × Nat))).run P w = .ok (l.map fun f => (f.offset, ((T f.type).map (·.size)).getD 0)) w
 | [], _ => by simp
 | f :: l, h => by
   obtain ⟨j, hj⟩ := h f (by simp)
   have ih := Im hT l (fun f hf => h f (by simp [hf]))
   have hs := (hT f.type j hj).sizeOf (w := w)
   simp only [ZX, Sem.run_bind, hs, Result.andThen_ok, Sem.run_pure, ih, hj, List.map_cons, Option.map_some, Sg]
theorem Ss (hT : AE P T) (hρ : ∀ x, SRep E w (ρ x) (σ.ev x)) {parts : Array (Nat × Operand)} 
  (hl : Jc T σ t parts.toList V) :
  ∃ v y, (Instr.build t (parts.map fun (i, x) => (i, ρ x))).run P w = .ok v w ∧ SRep E w v y ∧ V y := by
 unfold Jc at hl
 split at hl
 ·rename_i _ _ zero fs _ ht
  obtain ⟨hall, hl⟩ := hl
  split at hl
  · rename_i cs hcs
    have htt := hT t _ ht
    obtain ⟨fields, hu, hfs⟩ := htt.desc
    obtain ⟨fi, z, hi1, hi2, hi3, hi4, hi5⟩ := htt.info
    have hfall : ∀ f ∈ fields.toList, ∃ j, T f.type = some j := fun f hf => b7.1 (CN.1 hall (f.offset, f.type) (by rw [← hfs]; exact List.mem_map.2 ⟨f, hf, rfl⟩))
    have hpl := Im (w := w) hT fields.toList hfall
    have hplA : (fields.mapM (fun f => do pure (f.offset, ← sizeOf f.type) : Field → Sem (Nat × Nat))).run P w = .ok (fields.toList.map fun f => (f.offset, ((T f.type).map (·.size)).getD 0)).toArray w := by
     rw [ZK]
     simp only [Sem.run_map, hpl, Result.andThen_ok]
    obtain ⟨cells', q1, q2, q3⟩ := Gm hT hρ fs (fun i => (fields.toList.map fun f => (f.offset, ((T f.type).map (·.size)).getD 0)).toArray[i]?) (fun i off ft j hf hj => by
      rw [← hfs, B2] at hf
      cases hq : fields.toList[i]? with
      | none => rw [hq] at hf; cases hf
      | some fl =>
        rw [hq] at hf
        simp at hf
        obtain ⟨rfl, rfl⟩ := hf
        have hq' : fields[i]? = some fl := by simpa using hq
        simp [hq', hj]) parts.toList _ cs zero.toArray hcs (by simp) (DL htt)
    refine ⟨.agg cells', .agg cs, ?_, ?_, hl⟩
    ·have hmap : (parts.map fun (i, x) => (i, ρ x)).toList = parts.toList.map fun p => (p.1, ρ p.2) := by simp
     simp only [Instr.build, zeroValue, typeInfo, Sem.run_bind, run_program, Result.andThen_ok, hi1, Sem.run_pure, hi4, run_underlying hu, hplA, hi5, hmap]
     rw [q1]
     rfl
    ·have := SRep.agg (E := E) (w := w) cs cells'.toList (by simpa using q2) (fun i v x hv hx => q3 i v x (by simpa using hv) hx)
     simpa using this
  · exact hl.elim
 ·exact hl.elim
end
section
variable {P : Program} {T : TypeId → Option TI} {F0 : Nat → Prop} {w0 w : World} {E : Env} {mem : List Blk} {clock : Nat}
theorem Gn {σ : St} {ρ : Operand → Value} (hρ : ∀ x, SRep E w (ρ x) (σ.ev x)) (size : Nat) :
   ∀ (parts : List (Nat × Operand)) (k : Nat) (es : List (List Dat)) (cells : Array Value), Dr σ size parts k = some es → (k + parts.length) * size ≤ cells.size →
     ∃ cells', Instr.fill (fun i => some (i * size, size)) cells (parts.map fun p => (p.1, ρ p.2)) = some cells' ∧ cells'.size = cells.size ∧ es.length = parts.length ∧ (∀ e, e ∈ es → e.length = size) ∧
      (∀ q, q < k * size → cells'[q]? = cells[q]?) ∧ (∀ (i j : Nat) e v x, es[i]? = some e → e[j]? = some x → cells'[(k + i) * size + j]? = some v → DRep E.F w v x)
 | [], k, es, cells, h, hl => by
   simp only [Dr, Option.some.injEq] at h
   subst h
   exact ⟨cells, by simp [Instr.fill], rfl, rfl, by simp, fun _ _ => rfl, fun _ _ _ _ _ q => by simp at q⟩
 | (i, x) :: rest, k, es, cells, h, hl => by
   simp only [Dr] at h
   split at h
   · rename_i hik
     subst hik
     split at h
     ·rename_i cs hcs
      split at h
      · rename_i ds r hds hr
        split at h
        ·rename_i hsz
         simp only [Option.some.injEq] at h
         subst h
         simp only [List.length_cons] at hl
         have hl' : (i + 1 + rest.length) * size ≤ cells.size := by rw [show i + 1 + rest.length = i + (rest.length + 1) by omega]; exact hl
         have hfit : i * size + size ≤ cells.size := by
          have : (i + 1) * size ≤ (i + 1 + rest.length) * size := Gb _ (by omega)
          rw [EO, Hw] at this
          omega
         obtain ⟨hc1, _, hc3⟩ := (hρ x).cellsOf hcs
         have hdl := DJ hds
         obtain ⟨cells1, hs1, hs2, hs3⟩ := Hz (fun i => some (i * size, size)) cells i (i * size) size (ρ x) (rest.map fun p => (p.1, ρ p.2)) rfl (by omega) hfit
         obtain ⟨cells', q1, q2, q3, q4, q5, q6⟩ := Gn hρ size rest (i + 1) r cells1 hr (by rw [hs2]; exact hl')
         have hvl : (ρ x).cells.toList.length = size := by simp; omega
         have hget : ∀ q, cells1[q]? = if q < i * size then cells[q]? else if q < i * size + size then (ρ x).cells[q - i * size]? else cells[q]? := by
          intro q
          have e1 := getElem?_splice (l := cells.toList) (m := (ρ x).cells.toList) (o := i * size) (j := q) (by rw [hvl]; simpa using hfit)
          rw [hvl] at e1
          rw [← I9, hs3, e1]
          simp
         refine ⟨cells', by rw [List.map_cons, hs1]; exact q1, by rw [q2, hs2], by simp [q3], fun e he => ?_, fun q hq => ?_, fun i' j e v y a1 a2 a3 => ?_⟩
         ·simp only [Fb] at he
          rcases he with rfl | he
          · exact hsz
          · exact q4 e he
         ·rw [q5 q (by rw [EO]; omega), hget q, if_pos hq]
         ·cases i' with
          | zero =>
            simp only [List.getElem?_cons_zero, Option.some.injEq] at a1
            subst a1
            have hj : j < size := by have := lt_of_getElem? a2; omega
            simp only [Nat.add_zero] at a3
            rw [q5 _ (by rw [EO]; omega), hget, if_neg (by omega), if_pos (by omega), show i * size + j - i * size = j by omega] at a3
            exact DK (E := E) (v := v) hds (fun z hz => hc3 j v z a3 hz) a2
          | succ i' =>
            rw [show i + (i' + 1) = i + 1 + i' by omega] at a3
            exact q6 i' j e v y (by simpa using a1) a2 a3
        ·cases h
      · cases h
     ·cases h
   · cases h
theorem Gg (hT : AE P T) (h : WOk F0 w0 E w σ.mem σ.clock) (hρ : ∀ x, SRep E w (ρ x) (σ.ev x)) {parts : Array (Nat × Operand)} 
  (hl : Cc T σ t len parts.toList V) :
  ∃ v w' E' y, (Instr.buildSlice t len (parts.map fun (i, x) => (i, ρ x))).run P w = .ok v w' ∧ EnvLe E w E' w' ∧ WOk F0 w0 E' w' σ.mem σ.clock ∧ SRep E' w' v y ∧ V y := by
 unfold Cc at hl
 split at hl
 ·rename_i e _ ht
  have hu : P.underlying t = some (.slice e) := (hT t _ ht).desc
  split at hl
  · rename_i ei hei
    have hsz := (hT e ei hei).sizeOf (w := w)
    have hmap : (parts.map fun (i, x) => (i, ρ x)).toList = parts.toList.map fun p => (p.1, ρ p.2) := by simp
    split at hl
    ·obtain ⟨hp, hV⟩ := hl
     have hlat := h.later (w' := w.alloc (.cells #[] e)) ((Bel.refl _ w).alloc (Nat.le_refl _) _) (fun _ => False) (fun _ q => q.elim)
     refine ⟨.slice (some ⟨w.heap.size, 0, none⟩) 0 0, _, _, _, ?_, hlat.2, hlat.1, .c (.emp _), hV⟩
     simp only [Instr.buildSlice, Sem.run_bind, run_underlying hu, Result.andThen_ok, hsz, Nat.zero_mul, hmap, hp]
     simp [Instr.fill, newRow, Array.range_zero']
    ·rename_i n
     obtain ⟨hpos, hzl, hlim, hpl, hl⟩ := hl
     split at hl
     ·rename_i es hes
      obtain ⟨fi, z, hi1, hi2, hi3, hi4, hi5⟩ := (hT e ei hei).info
      obtain ⟨cells', q1, q2, q3, q4, q5, q6⟩ := Gn hρ ei.size parts.toList 0 es ((Array.range ((n + 1) * ei.size)).map (z.cells[· % z.cells.size]!)) hes (by simp [hpl])
      have hnz : (n + 1) * ei.size ≠ 0 := by
       have : 0 < (n + 1) * ei.size := Nat.mul_pos (by omega) hpos
       omega
      have hlat := h.later (w' := w.alloc (.cells cells' e)) ((Bel.refl _ w).alloc (Nat.le_refl _) _) (fun k => k = w.heap.size) (fun k q => by subst q; simp)
      refine ⟨.slice (some ⟨w.heap.size, 0, none⟩) es.length (n + 1), _, _, _, ?_, hlat.2, hlat.1, .c (.d (.sl es w.heap.size 0 (n + 1) ei.size (fun i j => cells'.getD (i * ei.size + j) undef) (.inr rfl) (by omega) ?_ q4 ?_ ?_)), hl⟩
      ·simp only [Instr.buildSlice, Sem.run_bind, run_underlying hu, Result.andThen_ok, hsz, hmap]
       rw [if_neg (show ¬ (n + 1) * ei.size > 2 ^ 24 by omega)]
       simp only [Sem.run_pure, Result.andThen_ok, if_neg hnz, Sem.run_bind, zeroValue, typeInfo, run_program, hi1, hi4]
       rw [q1]
       simp only [Sem.run_bind, newRow, run_newObj, Result.andThen_ok, Sem.run_pure, World.alloc_eq]
       rw [q3, hpl]
      ·simp only [maxLen]
       have h1 : n + 1 ≤ (n + 1) * ei.size := Nat.le_mul_of_pos_right _ hpos
       omega
      ·intro i j hi hj
       have hlt : i * ei.size + j < cells'.size := by
        rw [q2]
        simp only [Array.size_map, Array.size_range]
        have : (i + 1) * ei.size ≤ (n + 1) * ei.size := Gb _ (by omega)
        rw [EO, Hw] at this
        omega
       simp only [Nat.zero_add]
       rw [World.cell?_alloc_new]
       simp [hlt]
      ·intro i j el x a1 a2
       have hj : j < ei.size := by have := lt_of_getElem? a2; rw [q4 el (Cl a1)] at this; exact this
       have hi := lt_of_getElem? a1
       have hlt : i * ei.size + j < cells'.size := by
        rw [q2]
        simp only [Array.size_map, Array.size_range]
        have : (i + 1) * ei.size ≤ (n + 1) * ei.size := Gb _ (by omega)
        rw [EO, Hw] at this
        omega
       have := q6 i j el (cells'.getD (i * ei.size + j) undef) x a1 a2 (by simp [hlt])
       exact this.le hlat.2
     ·exact hl.elim
  · exact hl.elim
 ·exact hl.elim
theorem EU : ∀ {xs : List Cell} {us vs : List Value}, Dk xs = some us → vs.length = xs.length → (∀ (i : Nat) v x, vs[i]? = some v → xs[i]? = some x → CRep E w v x) → vs = us
 | [], us, vs, h, hl, _ => by
   simp only [Dk, Option.some.injEq] at h
   subst h
   exact WK hl
 | c :: xs, us, vs, h, hl, hd => by
   unfold Dk at h
   split at h
   ·rename_i hq; cases hq
   ·rename_i v cs hq
    injection hq with e1 e2
    subst e1; subst e2
    split at h
    ·rename_i ws hws
     simp only [Option.some.injEq] at h
     subst h
     match vs, hl with
     | u :: vs, hl =>
       have h0 := hd 0 u _ rfl rfl
       have hu : u = v := by cases h0 with | d h0 => cases h0; rfl
       subst hu
       have hrec := EU (vs := vs) hws (by simpa using hl) (fun i v x hv hx => hd (i + 1) v x (by simpa using hv) (by simpa using hx))
       rw [hrec]
    ·cases h
   ·cases h
theorem Fw (hu : P.underlying t = some .bool) (a b : Bool) : (Op.equal t (.bool a) (.bool b)).run P w = .ok (a == b) w := by
 have h : ∀ d, (Op.equalIn (d + 1) t (.bool a) (.bool b)).run P w = .ok (a == b) w := fun d => by simp [Op.equalIn, run_underlying hu]
 exact h 9999
theorem Vi (k : IntKind) (a b : Int) : (Op.intBits .and k a b).run P w = .ok (.int k (LH k a b)) w := rfl
theorem XY (hT : AE P T) {op : BinOp} (xo yo : Operand) (hx : SRep E w u x) (hy : SRep E w v y) (hl : MB T op t x y V) :
  ∃ r s, (do eqGuard op t xo yo u v; binOp op t u v : Sem Value).run P w = .ok r w ∧ SRep E w r s ∧ V s := by
 unfold MB at hl
 split at hl
 ·rename_i k a k' b
  have e1 := hx.lit_inv
  have e2 := hy.lit_inv
  subst e1; subst e2
  obtain ⟨rfl, hl⟩ := hl
  have hg : (eqGuard op t xo yo (.int k a) (.int k b)).run P w = .ok () w := by cases op <;> simp [eqGuard]
  by_cases hop : op = .and
  ·subst hop
   simp only [OP] at hl
   refine ⟨.int k (LH k a b), _, ?_, .c (.d (.lit _ rfl)), hl⟩
   simp only [Sem.run_bind, hg, Result.andThen_ok, binOp, ne_eq, not_true_eq_false, if_false]
   exact Vi k a b
  cases op <;> simp only [OP] at hl <;> first
   | exact absurd rfl hop
   | exact hl.elim
   | exact ⟨_, _, by simp [hg, binOp, Op.intArith, Op.intCmp], .c (.d (.lit _ rfl)), hl⟩
   | exact ⟨_, _, by simp [hg, binOp, Op.intDiv, hl.1], .c (.d (.lit _ rfl)), hl.2⟩
 ·rename_i a b
  have e1 := hx.lit_inv
  have e2 := hy.lit_inv
  subst e1; subst e2
  have hg : (eqGuard op t xo yo (.string a) (.string b)).run P w = .ok () w := by cases op <;> simp [eqGuard]
  cases op <;> simp only [XW] at hl <;> first
   | exact hl.elim
   | exact ⟨_, _, by simp [hg, binOp, Op.stringOp], .c (.d (.lit _ rfl)), hl⟩
   | (have hm : ¬ (((a.size + b.size : Nat) : Int) > IntKind.i64.max) := by
       have := hl.1
       simp only [maxLen] at this
       simp [IntKind.max, IntKind.bits]
       omega
      exact ⟨_, _, by simp only [Sem.run_bind, hg, Result.andThen_ok, binOp, Op.stringOp, if_neg hm, Sem.run_pure], .c (.d (.lit _ rfl)), hl.2⟩)
 ·rename_i a b
  have e1 := hx.lit_inv
  have e2 := hy.lit_inv
  subst e1; subst e2
  split at hl
  ·rename_i ht
   have hu : P.underlying t = some .bool := (hT t _ ht).desc
   have hg : (eqGuard op t xo yo (.bool a) (.bool b)).run P w = .ok () w := by cases op <;> simp [eqGuard]
   split at hl
   · exact ⟨_, _, by simp only [Sem.run_bind, hg, Result.andThen_ok, binOp, Fw hu, Sem.run_pure], .c (.d (.lit _ rfl)), hl⟩
   · exact ⟨_, _, by simp only [Sem.run_bind, hg, Result.andThen_ok, binOp, Fw hu, Sem.run_pure], .c (.d (.lit _ rfl)), hl⟩
   · exact hl.elim
  ·exact hl.elim
 ·rename_i xs ys
  split at hl
  ·rename_i i us vs ht hus hvs
   obtain ⟨heq, h1, h2, hl⟩ := hl
   cases hx with | agg _ us' hl1 hd1 =>
   cases hy with | agg _ vs' hl2 hd2 =>
   have e1 := EU hus hl1 hd1
   have e2 := EU hvs hl2 hd2
   subst e1; subst e2
   have hq := (hT t i ht).eqv heq w xo yo us' vs' h1 h2
   split at hl
   · exact ⟨_, _, hq.1, .c (.d (.lit _ rfl)), hl⟩
   · exact ⟨_, _, hq.2, .c (.d (.lit _ rfl)), hl⟩
   · exact hl.elim
  ·exact hl.elim
 ·exact hl.elim
theorem ZY {op : UnOp} (hx : SRep E w u x) (hl : ZF op x V) : ∃ r s, (Op.unary op u).run P w = .ok r w ∧ SRep E w r s ∧ V s := by
 unfold ZF at hl
 split at hl
 ·have e1 := hx.lit_inv
  subst e1
  exact ⟨_, _, by simp [Op.unary], .c (.d (.lit _ rfl)), hl⟩
 ·have e1 := hx.lit_inv
  subst e1
  exact ⟨_, _, by simp only [Op.unary, Op.intArith, Sem.run_pure], .c (.d (.lit _ rfl)), hl⟩
 ·exact hl.elim
theorem TOk.under (h : TOk P t i) : ∃ d, P.underlying t = some d := by
 have hd := h.desc
 cases hi : i.desc <;> rw [hi] at hd <;> simp only [Sn] at hd
 ·exact ⟨_, hd⟩
 ·exact ⟨_, hd⟩
 ·exact ⟨_, hd⟩
 ·obtain ⟨fs, hd, _⟩ := hd; exact ⟨_, hd⟩
 ·exact ⟨_, hd⟩
 ·exact ⟨_, hd⟩
 ·obtain ⟨d, hd, _⟩ := hd; exact ⟨_, hd⟩
theorem Vj (hT : AE P T) {s : TypeId} (hx : SRep E w u x) (hl : MC T s t x V) : ∃ r y, (convert s t u).run P w = .ok r w ∧ SRep E w r y ∧ V y := by
 unfold MC at hl
 split at hl
 ·rename_i k _ _ _ hs ht
  have hu : P.underlying t = some (.int k) := (hT t _ ht).desc
  obtain ⟨d, hd⟩ := (hT s _ hs).under
  have e1 := hx.lit_inv
  subst e1
  refine ⟨_, _, ?_, .c (.d (.lit _ rfl)), hl⟩
  simp only [convert, Sem.run_bind, run_underlying hd, Result.andThen_ok, run_underlying hu, Conv.intToInt, Sem.run_pure]
 ·exact hl.elim
theorem Jf {σ : St} {ρ : Operand → Value} (hρ : ∀ x, SRep E w (ρ x) (σ.ev x)) : ∀ {xs : List Operand} {cs : List Cell}, Fu σ xs = some cs →
   xs.length = cs.length ∧ ∀ (i : Nat) v c, (xs.map ρ)[i]? = some v → cs[i]? = some c → CRep E w v c
 | [], cs, h => by
   simp only [Fu, Option.some.injEq] at h
   subst h
   exact ⟨rfl, by simp⟩
 | x :: xs, cs, h => by
   simp only [Fu] at h
   split at h
   ·rename_i c r hc hr
    simp only [Option.some.injEq] at h
    subst h
    obtain ⟨h1, h2⟩ := Jf hρ hr
    refine ⟨by simp [h1], fun i v d hv hd => ?_⟩
    cases i with
    | zero =>
      simp at hv hd
      subst hv; subst hd
      have := hρ x
      rw [hc] at this
      generalize ρ x = vx at this
      cases this with | c q => exact q
    | succ i => exact h2 i v d (by simpa using hv) (by simpa using hd)
   ·cases h
theorem Vk (hρ : ∀ x, SRep E w (ρ x) (σ.ev x)) {fn : Fn} {first captured : Array Operand} (hl : MD σ fn first.toList captured.toList V) :
  ∃ r y, (Instr.makeFunc fn (first.map ρ) (captured.map ρ)).run P w = .ok r w ∧ SRep E w r y ∧ V y := by
 unfold MD at hl
 split at hl
 ·rename_i f h1 h2
  have e1 : first = #[] := by simpa using h1
  have e2 : captured = #[] := by simpa using h2
  subst e1; subst e2
  exact ⟨_, _, by simp [Instr.makeFunc], .c (.d (.lit _ rfl)), hl⟩
 ·rename_i f h1 _
  have e1 : first = #[] := by simpa using h1
  subst e1
  split at hl
  ·rename_i cs hcs
   obtain ⟨q1, q2⟩ := Jf hρ hcs
   have hm : captured.map ρ = (captured.toList.map ρ).toArray := by apply OO; simp
   have hrun : (Instr.makeFunc (.func f) ((#[] : Array Operand).map ρ) (captured.map ρ)).run P w = .ok (.func (.func f) #[] (captured.toList.map ρ).toArray) w := by
    rw [hm]; simp only [Array.map_empty, Instr.makeFunc, Sem.run_pure]
   split at hl
   ·rename_i ds hds
    have hdl := DJ hds
    refine ⟨_, _, hrun, .c (.d (.clo f ds (captured.toList.map ρ) (by simp; simp at q1; omega) (fun i v x hv hx => ?_))), hl⟩
    exact DK hds (fun y hy => q2 i v y hv hy) hx
   ·exact ⟨_, _, hrun, .c (.clo f cs (captured.toList.map ρ) (by simpa using q1) q2), hl⟩
  ·exact hl.elim
 ·exact hl.elim
theorem Jg (hx : SRep E w u x) {g : FuncId} {caps : List Cell} (h : Cd x = some (g, caps)) :
  ∃ vs : List Value, u = .func (.func g) #[] vs.toArray ∧ vs.length = caps.length ∧ ∀ (i : Nat) v c, vs[i]? = some v → caps[i]? = some c → CRep E w v c := by
 unfold Cd at h
 split at h
 ·rename_i f first cs
  have e1 := hx.lit_inv
  subst e1
  split at h
  · rename_i hq
    simp at h
    obtain ⟨rfl, rfl⟩ := h
    obtain ⟨h1, h2⟩ := hq
    have e1 : first = #[] := by simpa using h1
    have e2 : cs = #[] := by simpa using h2
    subst e1; subst e2
    exact ⟨[], rfl, rfl, by simp⟩
  · cases h
 ·rename_i f ds
  simp at h
  obtain ⟨rfl, rfl⟩ := h
  cases hx with | c hx => cases hx with | d hx => cases hx with | clo _ _ vs hl hd =>
  refine ⟨vs, rfl, by simpa using hl, fun i v c hv hc => ?_⟩
  rw [B2] at hc
  cases hq : ds[i]? with
  | none => rw [hq] at hc; cases hc
  | some y =>
    rw [hq] at hc
    simp at hc
    subst hc
    exact .d (hd i v y hv hq)
 ·simp at h
  obtain ⟨rfl, rfl⟩ := h
  cases hx with | c hx => cases hx with | clo _ _ vs hl hd => exact ⟨vs, rfl, hl, hd⟩
 ·cases h
end
end Go.Abs
end
