/-
  More operations over the abstract view: addresses, slices, appends, literals, arithmetic.
-/
import Derived.Test.YtlacmjfgaehhkaaAbsD
namespace Go.Abs
open Go.RowKit

section
variable {P : Program} {T : TypeId → Option TI} {F0 : Nat → Prop} {w0 w : World} {E : Env} {mem : List Blk} {clock : Nat}

theorem liveAt_ver (h : WOk F0 w0 E w mem clock) {r k : Nat} (hl : liveAt mem r k) : E.ver r = k := by
  unfold liveAt at hl
  split at hl
  · rename_i k' cs hm; subst hl; exact (h.mem.ok r _ hm).1
  · rename_i k' a b c hm; subst hl; exact (h.mem.ok r _ hm).1
  · exact hl.elim

theorem field_ok (hT : TypesOk P T) {σ : St} (h : WOk F0 w0 E w σ.mem σ.clock) {s : TypeId} {f : Nat} {u : Value} {x : SVal} (hx : SRep E w u x) {V : SVal → Prop} (hl : aField T σ s f x V) :
    ∃ v y, (Instr.fieldAt s u f).run P w = .ok v w ∧ SRep E w v y ∧ V y := by
  unfold aField at hl
  split at hl
  · rename_i _ _ _ fs _ hs
    obtain ⟨fields, hu, hfs⟩ := (hT s _ hs).desc
    split at hl
    · rename_i off ft hf
      split at hl
      · rename_i j hj
        obtain ⟨hz, hl⟩ := hl
        have hsz := (hT ft j hj).sizeOf (w := w)
        have hfl : ∃ fl, fields[f]? = some fl ∧ fl.offset = off ∧ fl.type = ft := by
          rw [← hfs, List.getElem?_map] at hf
          cases hq : fields.toList[f]? with
          | none => rw [hq] at hf; cases hf
          | some fl =>
            rw [hq] at hf
            simp at hf
            exact ⟨fl, by simpa using hq, hf.1, hf.2⟩
        obtain ⟨fl, hfl, rfl, rfl⟩ := hfl
        have hrun : ∀ b o, (Instr.fieldAt s (.pointer (some ⟨b, o, none⟩)) f).run P w = .ok (.pointer (some ⟨b, o + fl.offset, none⟩)) w := by
          intro b o
          simp [Instr.fieldAt, run_underlying hu, hfl, Instr.sureAddr, fieldPlace, hsz, hz, Addr.add_lit]
        split at hl
        · rename_i r k o
          have hv := liveAt_ver h hl.1
          have hu' : u = .pointer (some ⟨E.blk r, o, none⟩) := by cases hx with | c hx => cases hx with | bp _ _ _ _ _ _ hh => exact hh hv
          subst hu'
          exact ⟨_, _, hrun _ _, .c (.bp r k _ _ rfl (by omega) (fun _ => rfl)), hl.2⟩
        · rename_i e o
          cases hx with | c hx => cases hx with | fp _ _ b off us hF hc hd =>
          refine ⟨_, _, hrun _ _, .c ?_, hl⟩
          rw [Nat.add_assoc]
          exact .fp e (o + fl.offset) b off us hF hc hd
        · rename_i r k esz n o
          have hv := liveAt_ver h hl.1
          have hu' : u = .pointer (some ⟨E.blk r, n * esz + o, none⟩) := by cases hx with | c hx => cases hx with | ap _ _ _ _ _ _ _ _ hh => exact hh hv
          subst hu'
          exact ⟨_, _, hrun _ _, .c (.ap r k esz n _ _ rfl (by omega) (fun _ => by rw [Nat.add_assoc])), hl.2⟩
        · exact hl.elim
      · exact hl.elim
    · exact hl.elim
  · exact hl.elim

theorem DRep.sl_inv {F : Nat → Prop} {v : Value} {es : List (List Dat)} (h : DRep F w v (.sl es)) :
    (es = [] ∧ ∃ a cap, v = .slice a 0 cap) ∨ ∃ (b off cap size : Nat) (u : Nat → Nat → Value), v = .slice (some ⟨b, off, none⟩) es.length cap ∧ F b ∧ es.length ≤ cap ∧ cap ≤ maxLen ∧ (∀ e, e ∈ es → e.length = size) ∧
      (∀ (i j : Nat), i < es.length → j < size → w.cell? ⟨b, off + i * size + j, none⟩ = some (u i j)) ∧ (∀ (i j : Nat) e x, es[i]? = some e → e[j]? = some x → DRep F w (u i j) x) := by
  cases h with
  | emp a cap => exact .inl ⟨rfl, a, cap, rfl⟩
  | sl _ b off cap size u hF hcap hmax hsz hc hd => exact .inr ⟨b, off, cap, size, u, rfl, hF, hcap, hmax, hsz, hc, hd⟩

theorem index_ok (hT : TypesOk P T) {σ : St} (h : WOk F0 w0 E w σ.mem σ.clock) {t : TypeId} {u q : Value} {x i : SVal} (hx : SRep E w u x) (hi : SRep E w q i) {V : SVal → Prop} (hl : aIndex T σ t x i V) :
    ∃ v y, (Instr.indexAt t u q).run P w = .ok v w ∧ SRep E w v y ∧ V y := by
  unfold aIndex at hl
  split at hl
  · rename_i ki n
    have hq := hi.lit_inv
    subst hq
    obtain ⟨h0, hl⟩ := hl
    split at hl
    · rename_i _ _ _ e _ ht
      have hu : P.underlying t = some (.slice e) := (hT t _ ht).desc
      split at hl
      · rename_i ei hei
        have hsz := (hT e ei hei).sizeOf (w := w)
        split at hl
        · rename_i es
          obtain ⟨el, he, hel, hV⟩ := there_of hl
          have hn := lt_of_getElem? he
          cases hx with | c hx => cases hx with | d hx =>
          rcases hx.sl_inv with ⟨rfl, _⟩ | ⟨b, off, cap, size, us, rfl, hF, hcap, hmax, hsz', hc, hd⟩
          · simp at hn
          have hse : size = ei.size := by rw [← hel]; exact (hsz' el (List.mem_of_getElem? he)).symm
          subst hse
          have hlt : n < (es.length : Int) := by omega
          refine ⟨.pointer (some ⟨b, off + n.toNat * ei.size, none⟩), _, ?_, .c ?_, hV⟩
          · simp [Instr.indexAt, asIntOf, run_underlying hu, h0, hlt, hsz, Addr.add_lit]
          · exact .fp el 0 b (off + n.toNat * ei.size) (fun j => us n.toNat j) hF (fun j hj => hc n.toNat j hn (by omega)) (fun j x hx => hd n.toNat j el x he hx)
        · rename_i r k m
          obtain ⟨hlt, hl⟩ := hl
          split at hl
          · rename_i k' ety esz es hm
            obtain ⟨rfl, rfl, hme, hV⟩ := hl
            obtain ⟨h1, hpos, hsz', hcap, hmax, h6⟩ := h.mem.ok r _ hm
            have hcz : E.cap r ≠ 0 := by omega
            have hu' : u = .slice (some ⟨E.blk r, 0, none⟩) m (E.cap r) := by
              cases hx with | c hx => cases hx with | arr _ _ _ _ _ _ hh =>
              rcases hh h1 with hh | hh
              · exact absurd hh.1 hcz
              · exact hh.2
            subst hu'
            refine ⟨.pointer (some ⟨E.blk r, n.toNat * ei.size, none⟩), _, ?_, .c (.ap r k' ei.size n.toNat 0 _ rfl (by omega) (fun _ => rfl)), hV⟩
            simp [Instr.indexAt, asIntOf, run_underlying hu, h0, hlt, hsz, Addr.add_lit]
          · exact hl.elim
        · exact hl.elim
      · exact hl.elim
    · rename_i _ _ _ m e _ ht
      have hu : P.underlying t = some (.array m e) := (hT t _ ht).desc
      obtain ⟨hlt, hl⟩ := hl
      split at hl
      · rename_i ei hei
        have hsz := (hT e ei hei).sizeOf (w := w)
        have hrun : ∀ b o, (Instr.indexAt t (.pointer (some ⟨b, o, none⟩)) (.int ki n)).run P w = .ok (.pointer (some ⟨b, o + n.toNat * ei.size, none⟩)) w := by
          intro b o
          simp [Instr.indexAt, asIntOf, run_underlying hu, Instr.sureAddr, h0, hlt, hsz, Addr.add_lit]
        split at hl
        · rename_i r k o
          have hv := liveAt_ver h hl.1
          have hu' : u = .pointer (some ⟨E.blk r, o, none⟩) := by cases hx with | c hx => cases hx with | bp _ _ _ _ _ _ hh => exact hh hv
          subst hu'
          exact ⟨_, _, hrun _ _, .c (.bp r k _ _ rfl (by omega) (fun _ => rfl)), hl.2⟩
        · rename_i el o
          cases hx with | c hx => cases hx with | fp _ _ b off us hF hc hd =>
          refine ⟨_, _, hrun _ _, .c ?_, hl⟩
          rw [Nat.add_assoc]
          exact .fp el (o + n.toNat * ei.size) b off us hF hc hd
        · exact hl.elim
      · exact hl.elim
    · exact hl.elim
  · exact hl.elim

theorem len_ok (hT : TypesOk P T) {σ : St} (h : WOk F0 w0 E w σ.mem σ.clock) {t ty : TypeId} {u : Value} {x : SVal} (hx : SRep E w u x) {V : SVal → Prop} (hl : aLen T σ t x V) :
    ∃ v y, (Builtin.len_ #[t] ty #[u]).run P w = .ok v w ∧ SRep E w v y ∧ V y := by
  unfold aLen at hl
  split at hl
  · rename_i e _ es ht
    have hu : P.underlying t = some (.slice e) := (hT t _ ht).desc
    cases hx with | c hx => cases hx with | d hx =>
    rcases hx.sl_inv with ⟨rfl, a, cap, rfl⟩ | ⟨b, off, cap, size, us, rfl, _⟩
    · exact ⟨_, _, by simp [Builtin.len_, run_underlying hu]; rfl, .c (.d (.lit _ rfl)), hl⟩
    · exact ⟨_, _, by simp [Builtin.len_, run_underlying hu]; rfl, .c (.d (.lit _ rfl)), hl⟩
  · rename_i e _ ht
    have hu : P.underlying t = some (.slice e) := (hT t _ ht).desc
    cases hx with | c hx => cases hx with | emp a =>
    exact ⟨_, _, by simp [Builtin.len_, run_underlying hu]; rfl, .c (.d (.lit _ rfl)), hl⟩
  · rename_i e _ r k n ht
    have hu : P.underlying t = some (.slice e) := (hT t _ ht).desc
    have hv := liveAt_ver h hl.1
    cases hx with | c hx => cases hx with | arr _ _ _ _ _ _ hh =>
    rcases hh hv with ⟨_, rfl, a, rfl⟩ | ⟨_, rfl⟩
    · exact ⟨_, _, by simp [Builtin.len_, run_underlying hu]; rfl, .c (.d (.lit _ rfl)), hl.2⟩
    · exact ⟨_, _, by simp [Builtin.len_, run_underlying hu]; rfl, .c (.d (.lit _ rfl)), hl.2⟩
  · rename_i s ht
    have hu : P.underlying t = some .string := (hT t _ ht).desc
    have := hx.lit_inv
    subst this
    exact ⟨_, _, by simp [Builtin.len_, run_underlying hu]; rfl, .c (.d (.lit _ rfl)), hl⟩
  · rename_i n e _ ht
    have hu : P.underlying t = some (.array n e) := (hT t _ ht).desc
    exact ⟨_, _, by simp [Builtin.len_, run_underlying hu]; rfl, .c (.d (.lit _ rfl)), hl⟩
  · exact hl.elim
end
end Go.Abs
