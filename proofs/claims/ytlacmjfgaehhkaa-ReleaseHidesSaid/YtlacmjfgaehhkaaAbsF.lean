/-
  Slice expressions, appends, makes and literals over the abstract view.
-/
import Derived.Test.YtlacmjfgaehhkaaAbsE
namespace Go.Abs
open Go.RowKit

section
variable {P : Program} {T : TypeId → Option TI} {F0 : Nat → Prop} {w0 w : World} {E : Env} {mem : List Blk} {clock : Nat}

theorem bnd_inv {d : Nat} {σ : St} {ρ : Operand → Value} (hρ : ∀ x, SRep E w (ρ x) (σ.ev x)) {lo : Option Operand} {l : Int} (h : bnd d (lo.map σ.ev) = some l) :
    (lo = none ∧ l = d) ∨ ∃ x k, lo = some x ∧ ρ x = .int k l := by
  cases lo with
  | none => simp [bnd] at h; exact .inl ⟨rfl, h.symm⟩
  | some x =>
    simp only [Option.map_some] at h
    unfold bnd at h
    split at h
    · rename_i q; cases q
    · rename_i n he
      simp only [Option.some.injEq] at h he
      subst h
      have := hρ x
      rw [he] at this
      exact .inr ⟨x, _, rfl, this.lit_inv⟩
    · cases h

theorem run_bounds {isSlice : Bool} {len cap : Nat} {σ : St} {ρ : Operand → Value} (hρ : ∀ x, SRep E w (ρ x) (σ.ev x)) {lo hi : Option Operand} {l h : Int}
    (hl : bnd 0 (lo.map σ.ev) = some l) (hh : bnd len (hi.map σ.ev) = some h) (h0 : 0 ≤ l) (h1 : l ≤ h) (h2 : h ≤ (cap : Int)) :
    (Instr.sliceBounds isSlice len cap (lo.map ρ) (hi.map ρ) none).run P w = .ok (l.toNat, h.toNat, cap) w := by
  rcases bnd_inv hρ hh with ⟨rfl, rfl⟩ | ⟨x, k, rfl, hx⟩
  · rcases bnd_inv hρ hl with ⟨rfl, rfl⟩ | ⟨y, k', rfl, hy⟩
    · simp [Instr.sliceBounds]
    · have : (0 : Int) ≤ l ∧ l ≤ (len : Int) := ⟨h0, h1⟩
      simp [Instr.sliceBounds, Instr.sliceBound, hy, asIntOf, this]
  · have hc : (0 : Int) ≤ h ∧ h ≤ (cap : Int) := ⟨by omega, h2⟩
    rcases bnd_inv hρ hl with ⟨rfl, rfl⟩ | ⟨y, k', rfl, hy⟩
    · simp [Instr.sliceBounds, Instr.sliceBound, hx, asIntOf, hc]
    · have : (0 : Int) ≤ l ∧ l ≤ (h.toNat : Int) := ⟨h0, by omega⟩
      simp only [Int.ofNat_toNat] at this
      have hm : max h 0 = h := by omega
      rw [hm] at this
      simp [Instr.sliceBounds, Instr.sliceBound, hx, hy, asIntOf, hc, this, hm]

theorem run_slice_val (hT : TypesOk P T) {t e : TypeId} {ei : TI} (hu : P.underlying t = some (.slice e)) (he : T e = some ei) {σ : St} {ρ : Operand → Value} (hρ : ∀ x, SRep E w (ρ x) (σ.ev x))
    {lo hi : Option Operand} {l h : Int} {len cap : Nat} (a : Option Addr) (hl : bnd 0 (lo.map σ.ev) = some l) (hh : bnd len (hi.map σ.ev) = some h) (h0 : 0 ≤ l) (h1 : l ≤ h) (h2 : h ≤ (cap : Int)) :
    (Instr.sliceAt t (.slice a len cap) (lo.map ρ) (hi.map ρ) none).run P w =
      .ok (.slice (if cap = l.toNat then a else a.map (·.add (l.toNat * ei.size))) (h.toNat - l.toNat) (cap - l.toNat)) w := by
  have hr := run_bounds (P := P) (isSlice := true) (cap := cap) hρ hl hh h0 h1 h2
  have hsz := (hT e ei he).sizeOf (w := w)
  simp [Instr.sliceAt, Instr.slice, run_underlying hu, hr, hsz]

theorem slice_ok (hT : TypesOk P T) {σ : St} (h : WOk F0 w0 E w σ.mem σ.clock) {t : TypeId} {u : Value} {x : SVal} (hx : SRep E w u x) {ρ : Operand → Value} (hρ : ∀ x, SRep E w (ρ x) (σ.ev x))
    {lo hi : Option Operand} {V : SVal → Prop} (hl : aSlice T σ t x (lo.map σ.ev) (hi.map σ.ev) V) :
    ∃ v y, (Instr.sliceAt t u (lo.map ρ) (hi.map ρ) none).run P w = .ok v w ∧ SRep E w v y ∧ V y := by
  unfold aSlice at hl
  split at hl
  · rename_i s ht
    have hu : P.underlying t = some .string := (hT t _ ht).desc
    have := hx.lit_inv
    subst this
    split at hl
    · rename_i l h' hb1 hb2
      obtain ⟨h0, h1, h2, hV⟩ := hl
      have hr := run_bounds (P := P) (isSlice := false) (cap := s.size) hρ hb1 hb2 h0 h1 h2
      exact ⟨_, _, by simp [Instr.sliceAt, Instr.slice, run_underlying hu, hr], .c (.d (.lit _ rfl)), hV⟩
    · exact hl.elim
  · rename_i e _ es ht
    have hu : P.underlying t = some (.slice e) := (hT t _ ht).desc
    split at hl
    · rename_i ei l h' he hb1 hb2
      obtain ⟨hsz0, h0, h1, h2, hV⟩ := hl
      cases hx with | c hx => cases hx with | d hx =>
      rcases hx.sl_inv with ⟨rfl, a, cap, rfl⟩ | ⟨b, off, cap, size, us, rfl, hF, hcap, hmax, hsz', hc, hd⟩
      · have e1 : h' = 0 := by simp at h2; omega
        subst e1
        have e2 : l = 0 := by omega
        subst e2
        have hr := run_slice_val (cap := cap) hT hu he hρ a hb1 hb2 h0 h1 (by omega)
        exact ⟨_, _, hr, .c (.d (by simpa using .emp _ _)), hV⟩
      · have hr := run_slice_val hT hu he hρ (some ⟨b, off, none⟩) hb1 hb2 h0 h1 (cap := cap) (by omega)
        by_cases hlh : l = h'
        · subst hlh
          have hnil : (es.take l.toNat).drop l.toNat = [] := List.drop_eq_nil_of_le (by simp; omega)
          rw [hnil] at hV
          refine ⟨_, _, hr, .c (.d ?_), hV⟩
          rw [Nat.sub_self]
          exact .emp _ _
        · have hes : es ≠ [] := fun q => by subst q; simp at h2; omega
          obtain ⟨e0, hmem⟩ := List.exists_mem_of_ne_nil es hes
          have hss : size = ei.size := by rw [← hsz' e0 hmem]; exact hsz0 e0 hmem
          subst hss
          have hne : ¬ cap = l.toNat := by omega
          have hlen : ((es.take h'.toNat).drop l.toNat).length = h'.toNat - l.toNat := by simp; omega
          rw [if_neg hne, Option.map_some, Addr.add_lit, ← hlen] at hr
          refine ⟨_, _, hr, .c (.d (.sl _ b (off + l.toNat * ei.size) _ ei.size (fun i j => us (l.toNat + i) j) hF ?_ (by omega) ?_ ?_ ?_)), hV⟩
          · omega
          · intro e he
            exact hsz' e (List.mem_of_mem_take (List.mem_of_mem_drop he))
          · intro i j hi hj
            rw [hlen] at hi
            have := hc (l.toNat + i) j (by omega) hj
            rw [Nat.add_mul] at this
            rw [← this]
            congr 2
            omega
          · intro i j e x q1 q2
            rw [List.getElem?_drop, List.getElem?_take] at q1
            split at q1
            · exact hd (l.toNat + i) j e x q1 q2
            · cases q1
    · exact hl.elim
  · rename_i e _ ht
    have hu : P.underlying t = some (.slice e) := (hT t _ ht).desc
    split at hl
    · rename_i ei l h' he hb1 hb2
      obtain ⟨rfl, rfl, hV⟩ := hl
      cases hx with | c hx => cases hx with | emp a =>
      have hr := run_slice_val hT hu he hρ a hb1 hb2 (by omega) (by omega) (cap := 0) (by omega)
      exact ⟨_, _, hr, .c (.emp _), hV⟩
    · exact hl.elim
  · rename_i e _ r k m ht
    have hu : P.underlying t = some (.slice e) := (hT t _ ht).desc
    split at hl
    · rename_i ei l h' k' ety esz es he hb1 hb2 hm
      obtain ⟨rfl, hme, rfl, h0, h1, hV⟩ := hl
      obtain ⟨hv, _, _, hcap, _⟩ := h.mem.ok r _ hm
      cases hx with | c hx => cases hx with | arr _ _ _ _ _ _ hh =>
      rcases hh hv with ⟨hcz, rfl, a, rfl⟩ | ⟨hcp, rfl⟩
      · have e1 : h' = 0 := by simp at h1; omega
        subst e1
        have hr := run_slice_val hT hu he hρ a hb1 hb2 (by omega) (by omega) (cap := 0) (by omega)
        exact ⟨_, _, hr, .c (.arr r k' 0 _ rfl (by omega) (fun _ => .inl ⟨hcz, rfl, _, rfl⟩)), hV⟩
      · have hr := run_slice_val hT hu he hρ (some ⟨E.blk r, 0, none⟩) hb1 hb2 (by omega) h0 (cap := E.cap r) (by omega)
        have hne : ¬ E.cap r = Int.toNat 0 := by simp; omega
        rw [if_neg hne, Option.map_some, Addr.add_lit] at hr
        simp only [Int.toNat_zero, Nat.zero_mul, Nat.add_zero, Nat.sub_zero] at hr
        exact ⟨_, _, hr, .c (.arr r k' h'.toNat _ rfl (by omega) (fun _ => .inr ⟨hcp, rfl⟩)), hV⟩
    · exact hl.elim
  · exact hl.elim
end
end Go.Abs
