/-
  Appends, makes and literals over the abstract view.
-/
import Derived.Test.YtlacmjfgaehhkaaAbsF
namespace Go.Abs
open Go.RowKit

section
variable {P : Program} {T : TypeId → Option TI} {F0 : Nat → Prop} {w0 w : World} {E : Env} {mem : List Blk} {clock : Nat}

/-- The flat cells of a list of elements. -/
def Flat (D : Value → Dat → Prop) (esz : Nat) (es : List (List Dat)) (c : List Value) : Prop :=
  ∀ (i j : Nat) e v x, es[i]? = some e → e[j]? = some x → c[i * esz + j]? = some v → D v x

theorem Flat.join {D : Value → Dat → Prop} {esz : Nat} {A B : List (List Dat)} {olds news rest : List Value} (hlo : olds.length = A.length * esz) (hA : ∀ e, e ∈ A → e.length = esz) (hB : ∀ e, e ∈ B → e.length = esz)
    (hln : news.length = B.length * esz) (h1 : Flat D esz A olds) (h2 : Flat D esz B news) : Flat D esz (A ++ B) (olds ++ news ++ rest) := by
  intro i j e v x q1 q2 q3
  rw [List.getElem?_append] at q1
  split at q1
  · rename_i hi
    have hj : j < esz := by have := lt_of_getElem? q2; rw [hA e (List.mem_of_getElem? q1)] at this; exact this
    have hlt : i * esz + j < olds.length := by
      rw [hlo]
      have : (i + 1) * esz ≤ A.length * esz := Nat.mul_le_mul_right _ hi
      rw [Nat.add_mul, Nat.one_mul] at this
      omega
    rw [List.append_assoc, List.getElem?_append_left hlt] at q3
    exact h1 i j e v x q1 q2 q3
  · rename_i hi
    have hi' := lt_of_getElem? q1
    have hj : j < esz := by have := lt_of_getElem? q2; rw [hB e (List.mem_of_getElem? q1)] at this; exact this
    have hge : i * esz = A.length * esz + (i - A.length) * esz := by rw [← Nat.add_mul]; congr 1; omega
    have hlt : (i - A.length) * esz + j < news.length := by
      rw [hln]
      have : (i - A.length + 1) * esz ≤ B.length * esz := Nat.mul_le_mul_right _ hi'
      rw [Nat.add_mul, Nat.one_mul] at this
      omega
    rw [List.append_assoc, List.getElem?_append_right (by omega), List.getElem?_append_left (by omega)] at q3
    rw [show i * esz + j - olds.length = (i - A.length) * esz + j by omega] at q3
    exact h2 (i - A.length) j e v x q1 q2 q3

/-- The cells of a slice that is data, one after the other. -/
theorem DRep.flat {F : Nat → Prop} {v : Value} {ys : List (List Dat)} (h : DRep F w v (.sl ys)) {esz : Nat} (hy : ∀ e, e ∈ ys → e.length = esz) (hne : ys ≠ []) :
    ∃ b off cap news, v = .slice (some ⟨b, off, none⟩) ys.length cap ∧ news.length = ys.length * esz ∧ (∀ (q : Nat) u, news[q]? = some u → w.cell? ((⟨b, off, none⟩ : Addr).add q) = some u) ∧
      (∀ u ∈ news, u.oneCell' = true) ∧ Flat (DRep F w) esz ys news := by
  rcases h.sl_inv with ⟨rfl, _⟩ | ⟨b, off, cap, size, us, rfl, hF, hcap, hmax, hsz, hc, hd⟩
  · exact absurd rfl hne
  obtain ⟨e0, hmem⟩ := List.exists_mem_of_ne_nil ys hne
  have hss : size = esz := by rw [← hsz e0 hmem]; exact hy e0 hmem
  subst hss
  have key : ∀ q, q < ys.length * size → w.cell? ⟨b, off + q, none⟩ = some (us (q / size) (q % size)) := by
    intro q hq
    have hs : 0 < size := by
      rcases Nat.eq_zero_or_pos size with h0 | h0
      · subst h0; simp at hq
      · exact h0
    have h1 : q / size < ys.length := Nat.div_lt_of_lt_mul (by rw [Nat.mul_comm]; exact hq)
    have h2 := hc (q / size) (q % size) h1 (Nat.mod_lt _ hs)
    rw [Nat.add_assoc, Nat.mul_comm, Nat.div_add_mod] at h2
    exact h2
  have hdd : ∀ (i j : Nat) e x, ys[i]? = some e → e[j]? = some x → DRep F w (us i j) x := hd
  refine ⟨b, off, cap, (List.range (ys.length * size)).map (fun q => us (q / size) (q % size)), rfl, by simp, fun q u hu => ?_, fun u hu => ?_, fun i j e v x q1 q2 q3 => ?_⟩
  · rw [Addr.add_lit]
    rw [List.getElem?_map] at hu
    by_cases hq : q < ys.length * size
    · simp [hq] at hu
      rw [key q hq, hu]
    · simp [hq] at hu
  · obtain ⟨q, hq⟩ := List.mem_iff_getElem?.1 hu
    have hlt := lt_of_getElem? hq
    simp only [List.length_map, List.length_range] at hlt
    rw [List.getElem?_map] at hq
    simp [hlt] at hq
    subst hq
    have hs : 0 < size := by
      rcases Nat.eq_zero_or_pos size with h0 | h0
      · subst h0; simp at hlt
      · exact h0
    have h1 : q / size < ys.length := Nat.div_lt_of_lt_mul (by rw [Nat.mul_comm]; exact hlt)
    have h2 : q % size < ys[q / size].length := by rw [hsz _ (List.getElem_mem h1)]; exact Nat.mod_lt _ hs
    exact (hdd (q / size) (q % size) _ _ (List.getElem?_eq_getElem h1) (List.getElem?_eq_getElem h2)).one
  · have hj : j < size := by have := lt_of_getElem? q2; rw [hsz e (List.mem_of_getElem? q1)] at this; exact this
    have hi := lt_of_getElem? q1
    have hlt : i * size + j < ys.length * size := by
      have : (i + 1) * size ≤ ys.length * size := Nat.mul_le_mul_right _ hi
      rw [Nat.add_mul, Nat.one_mul] at this
      omega
    rw [List.getElem?_map] at q3
    simp [hlt] at q3
    have e1 : (i * size + j) / size = i := by rw [Nat.mul_comm, Nat.mul_add_div (by omega), Nat.div_eq_of_lt hj, Nat.add_zero]
    rw [e1, Nat.mod_eq_of_lt hj] at q3
    subst q3
    exact hdd i j e x q1 q2

theorem src_rep {y : SVal} {v : Value} {ys : List (List Dat)} (hy : SRep E w v y) (hs : srcOf y = some ys) : DRep E.F w v (.sl ys) := by
  unfold srcOf at hs
  split at hs
  · cases hy with | c hy => cases hy with | d hy => simp at hs; subst hs; exact hy
  · cases hy with | c hy => cases hy with | emp a => simp at hs; subst hs; exact .emp _ _
  · cases hs

/-- What an append of nothing does. -/
theorem run_append_nothing {t ty e : TypeId} {i : TypeInfo} (ht : P.underlying t = some (.slice e)) (hi : P.info? e = some i) (a b : Option Addr) (n cap c : Nat) (h : n ≤ cap) :
    (Builtin.append_ #[t, t] ty #[.slice a n cap, .slice b 0 c]).run P w = .ok (.slice a n cap) w := by
  have hf : (Builtin.firstCells i.size 0 (.slice b 0 c)).run P w = .ok #[] w := by
    cases b with
    | none => simp [Builtin.firstCells]
    | some b => simp [Builtin.firstCells, loadCells, loadCellsFrom]
  cases a with
  | none => simp [Builtin.append_, run_underlying ht, sizeOf, typeInfo, hi, Builtin.lenOf, h, hf]
  | some a => simp [Builtin.append_, run_underlying ht, sizeOf, typeInfo, hi, Builtin.lenOf, h, hf, storeCells]

theorem below_growth {n0 : Nat} (w : World) (o : Obj) (h : n0 ≤ w.heap.size) : Below n0 w (w.drew.alloc o) := ((Below.refl n0 w).drew).alloc h o

/-- An append that must make a new array: the new block. -/
theorem grown_block {esz need : Nat} {z : Value} {e : TypeId} {old : Nat} {cells : List Value} (hz : z.cells.size = esz) (hl : cells.length = need * esz) (hmax : need ≤ maxLen) :
    ∃ gcap, gcap = grownCap w need old e ∧ need ≤ gcap ∧ gcap ≤ maxLen ∧
      ∃ c : Array Value, (w.drew.alloc (.cells (cells.toArray ++ Builtin.zeroCells z.cells (gcap - need)) e)).heap[w.heap.size]? = some (.cells c e (0, 0)) ∧ c.size = gcap * esz ∧
        c.toList = cells ++ (Builtin.zeroCells z.cells (gcap - need)).toList := by
  have hge := grownCap_ge w need old e
  have hcm := grownCap_le_maxLen w need old e hmax
  refine ⟨_, rfl, hge, hcm, _, Go.heap_alloc_new w.drew _, ?_, by simp⟩
  simp only [Array.size_append, List.size_toArray, size_zeroCells, hz, hl, ← Nat.add_mul]
  congr 1
  omega

theorem append_ok (hT : TypesOk P T) {σ : St} (h : WOk F0 w0 E w σ.mem σ.clock) {t ty : TypeId} {u v : Value} {s y : SVal} (hs : SRep E w u s) (hy : SRep E w v y) {dst : Option Tmp} {K : St → Prop} (hl : aAppend T σ t s y dst K) :
    ∃ v' w' E' mem' clock' x, (Builtin.append_ #[t, t] ty #[u, v]).run P w = .ok v' w' ∧ EnvLe E w E' w' ∧ WOk F0 w0 E' w' mem' clock' ∧ SRep E' w' v' x ∧ K ({ σ with mem := mem', clock := clock' }.putO dst x) := by
  unfold aAppend at hl
  split at hl
  · rename_i e _ ht
    have hu : P.underlying t = some (.slice e) := (hT t _ ht).desc
    split at hl
    · rename_i ei ys hei hys
      obtain ⟨hpos, hzl, hyl, hl⟩ := hl
      obtain ⟨fi, z, hi1, hi2, hi3, hi4, hi5⟩ := (hT e ei hei).info
      have hz : z.cells.size = ei.size := by rw [hi5]; simpa using hzl
      have hrep := src_rep hy hys
      -- the array that is made anew out of a slice without room
      have fresh : ∀ (a : Option Addr), ys.length ≤ maxLen → ys.length * ei.bytes ≤ 140737488355328 →
          ∃ v' w' cap, (Builtin.append_ #[t, t] ty #[.slice a 0 0, v]).run P w = .ok v' w' ∧ ys.length ≤ cap ∧ cap ≤ maxLen ∧ Below w0.heap.size w w' ∧ (∀ i, i < w.heap.size → w'.heap[i]? = w.heap[i]?) ∧
            ((cap = 0 ∧ ∃ b, v' = .slice b 0 0) ∨ (0 < cap ∧ v' = .slice (some ⟨w.heap.size, 0, none⟩) ys.length cap)) ∧
            (cap = 0 ∨ ∃ c, w'.heap[w.heap.size]? = some (.cells c e (0, 0)) ∧ c.size = cap * ei.size ∧ ∀ (i j : Nat) e v x, ys[i]? = some e → e[j]? = some x → c[i * ei.size + j]? = some v → DRep E.F w v x) := by
        intro a hm hb
        by_cases hne : ys = []
        · subst hne
          rcases hrep.sl_inv with ⟨_, b, c, rfl⟩ | ⟨b, off, cap, size, us, rfl, _⟩
          · exact ⟨_, w, 0, run_append_nothing hu hi1 a b 0 0 c (Nat.le_refl _), Nat.le_refl _, by simp [maxLen], Below.refl _ _, fun _ _ => rfl, .inl ⟨rfl, a, rfl⟩, .inl rfl⟩
          · exact ⟨_, w, 0, run_append_nothing hu hi1 a _ 0 0 cap (Nat.le_refl _), Nat.le_refl _, by simp [maxLen], Below.refl _ _, fun _ _ => rfl, .inl ⟨rfl, a, rfl⟩, .inl rfl⟩
        · obtain ⟨b, off, cap, news, rfl, hnl, hnc, hn1, hflat⟩ := hrep.flat hyl hne
          have hlp : 0 < ys.length := by rcases Nat.eq_zero_or_pos ys.length with h0 | h0; exact absurd (List.eq_nil_of_length_eq_zero h0) hne; exact h0
          have h63 : ((0 + ys.length : Nat) : Int) ≤ 9223372036854775807 := by simp only [maxLen] at hm; omega
          obtain ⟨gcap, hg, hge, hgm, c, hc1, hc2, hc3⟩ := grown_block (w := w) (e := e) (old := 0) hz hnl hm
          have hr : (Builtin.append_ #[t, t] ty #[.slice a 0 0, .slice (some ⟨b, off, none⟩) ys.length cap]).run P w =
              .ok (.slice (some ⟨w.heap.size, 0, none⟩) ys.length gcap) (w.drew.alloc (.cells (news.toArray ++ Builtin.zeroCells z.cells (gcap - ys.length)) e)) := by
            cases a with
            | none =>
              have := run_append_nil (P := P) w t ty e fi z hu hi1 hi4 ⟨b, off, none⟩ ys.length cap news (by rw [hi2]; exact hnl) hnc hlp (by omega) (by rw [hi3]; omega)
              rw [hg]; exact this
            | some a =>
              have := run_append_grow (P := P) w t ty e fi z hu hi1 hi4 a 0 0 [] (by simp) (by simp) ⟨b, off, none⟩ ys.length cap news (by rw [hi2]; exact hnl) hnc (by omega) h63
                (by rw [hi3]; exact growslice_fits (by omega) (by simpa using hb))
              simp only [Nat.zero_add, Array.empty_append] at this
              rw [hg]; exact this
          refine ⟨_, _, gcap, hr, hge, hgm, below_growth w _ h.le0, fun i hi => by rw [Below.heap_alloc w.drew _ i hi]; rfl, .inr ⟨by omega, rfl⟩, .inr ⟨c, hc1, hc2, fun i j e' v' x' q1 q2 q3 => ?_⟩⟩
          have hj := Flat.join (A := []) (rest := (Builtin.zeroCells z.cells (gcap - ys.length)).toList) (olds := []) (by simp) (by simp) hyl hnl (fun _ _ _ _ _ q => by simp at q) hflat
          simp only [List.nil_append] at hj
          exact hj i j e' v' x' q1 q2 (by rw [← hc3]; simpa using q3)
      split at hl
      · obtain ⟨hm, hb, hK⟩ := hl
        cases hs with | c hs => cases hs with | emp a =>
        obtain ⟨v', w', cap, hr, h1, h2, h3, h4, h5, h6⟩ := fresh a hm hb
        have hn := h.newArr e ei.size cap ys hpos hyl h1 h2 h3 h4 h6
        refine ⟨v', w', _, _, _, _, hr, hn.2, hn.1, .c (.arr σ.mem.length (σ.clock + 1) ys.length v' ?_ (by simp [Env.upd]) (fun _ => ?_)), hK⟩
        · rcases h5 with ⟨_, b, rfl⟩ | ⟨_, rfl⟩ <;> rfl
        · rcases h5 with ⟨h5, b, rfl⟩ | ⟨h5, rfl⟩
          · exact .inl ⟨by simp [Env.upd, h5], by omega, b, rfl⟩
          · exact .inr ⟨by simp [Env.upd]; exact h5, by simp [Env.upd]⟩
      · rename_i r k n
        split at hl
        · rename_i k' e' esz es hmr
          obtain ⟨rfl, rfl, rfl, hn, hm, hb, hK⟩ := hl
          have ho := h.mem.ok r _ hmr
          obtain ⟨o1, o2, o3, o4, o5, o6⟩ := ho
          cases hs with | c hs => cases hs with | arr _ _ _ _ _ _ hh =>
          rcases hh o1 with ⟨hcz, hn0, a, rfl⟩ | ⟨hcp, rfl⟩
          · subst hn0
            simp only [Nat.zero_add, List.take_zero, List.nil_append] at hm hb hK
            obtain ⟨v', w', cap, hr, h1, h2, h3, h4, h5, h6⟩ := fresh a hm hb
            have hg := h.growArr r k' e' ei.size es hmr w.heap.size cap ys hyl h1 h2 (.inl rfl) h3 (fun i hi _ => h4 i hi) h6
            refine ⟨v', w', _, _, _, _, hr, hg.2, hg.1, .c (.arr r (σ.clock + 1) ys.length v' ?_ (by simp [Env.upd]) (fun _ => ?_)), hK⟩
            · rcases h5 with ⟨_, b, rfl⟩ | ⟨_, rfl⟩ <;> rfl
            · rcases h5 with ⟨h5, b, rfl⟩ | ⟨h5, rfl⟩
              · exact .inl ⟨by simp [Env.upd, h5], by omega, b, rfl⟩
              · exact .inr ⟨by simp [Env.upd]; exact h5, by simp [Env.upd]⟩
          · rcases o6 with o6 | ⟨p1, p2, c, p3, p4, p5⟩
            · omega
            have hnc : n * ei.size ≤ c.size := by rw [p4]; exact Nat.mul_le_mul_right _ (by omega)
            have hAl : (es.take n).length = n := by simp; omega
            have hA : ∀ el, el ∈ es.take n → el.length = ei.size := fun el hel => o3 el (List.mem_of_mem_take hel)
            have hAB : ∀ el, el ∈ es.take n ++ ys → el.length = ei.size := fun el hel => by
              rcases List.mem_append.1 hel with q | q
              · exact hA el q
              · exact hyl el q
            have hfl : Flat (DRep E.F w) ei.size (es.take n) (c.toList.take (n * ei.size)) := by
              intro i j e v x q1 q2 q3
              rw [List.getElem?_take] at q1
              split at q1
              · rw [List.getElem?_take] at q3
                split at q3
                · exact p5 i j e v x q1 q2 (by simpa using q3)
                · cases q3
              · cases q1
            by_cases hne : ys = []
            · subst hne
              simp only [List.length_nil, Nat.add_zero, List.append_nil] at hm hb hK
              have hr : (Builtin.append_ #[t, t] ty #[.slice (some ⟨E.blk r, 0, none⟩) n (E.cap r), v]).run P w = .ok (.slice (some ⟨E.blk r, 0, none⟩) n (E.cap r)) w := by
                rcases hrep.sl_inv with ⟨_, b, cc, rfl⟩ | ⟨b, off, cap, size, us, rfl, _⟩
                · exact run_append_nothing hu hi1 _ b n _ cc (by omega)
                · exact run_append_nothing hu hi1 _ _ n _ cap (by omega)
              have hg := h.growArr (w' := w) r k' e' ei.size es hmr (E.blk r) (E.cap r) (es.take n) hA (by omega) o5 (.inr ⟨rfl, by omega⟩) (Below.refl _ _) (fun _ _ _ => rfl) (.inr ⟨c, p3, p4, fun i j e v x q1 q2 q3 => by
                rw [List.getElem?_take] at q1
                split at q1
                · exact p5 i j e v x q1 q2 q3
                · cases q1⟩)
              exact ⟨_, w, _, _, _, _, hr, hg.2, hg.1, .c (.arr r (σ.clock + 1) n _ rfl (by simp [Env.upd]) (fun _ => .inr ⟨by simp [Env.upd]; exact hcp, by simp [Env.upd]⟩)), hK⟩
            · obtain ⟨b, off, cap, news, rfl, hnl, hnc', hn1, hflat⟩ := hrep.flat hyl hne
              have hlp : 0 < ys.length := by rcases Nat.eq_zero_or_pos ys.length with h0 | h0; exact absurd (List.eq_nil_of_length_eq_zero h0) hne; exact h0
              have hlo : (c.toList.take (n * ei.size)).length = n * ei.size := by simp; omega
              by_cases hroom : n + ys.length ≤ E.cap r
              · have hfit : n * ei.size + news.length ≤ c.size := by rw [hnl, p4, ← Nat.add_mul]; exact Nat.mul_le_mul_right _ hroom
                have hr := run_append_room (P := P) w t ty e' fi hu hi1 (E.blk r) n (E.cap r) c p3 ⟨b, off, none⟩ ys.length cap news (by rw [hi2]; exact hnl) hnc' hn1 hroom (by rw [hi2]; exact hfit)
                rw [hi2] at hr
                have hg := h.growArr (w' := w.setRow (E.blk r) (c.toList.take (n * ei.size) ++ news ++ c.toList.drop (n * ei.size + news.length)).toArray) r k' e' ei.size es hmr (E.blk r) (E.cap r) (es.take n ++ ys) hAB (by simp; omega) o5 (.inr ⟨rfl, by omega⟩) (below_setRow w _ _ p1) (fun i hi hne => setRow_other w _ i _ hne)
                  (.inr ⟨_, setRow_heap w _ c _ e' _ p3, by
                    have := length_splice (l := c.toList) (m := news) (o := n * ei.size) (by simpa using hfit)
                    simp only [List.size_toArray, this, Array.length_toList, p4], fun i j e v x q1 q2 q3 => by
                    exact Flat.join (by rw [hlo, hAl]) hA hyl hnl hfl hflat i j e v x q1 q2 (by simpa using q3)⟩)
                exact ⟨_, _, _, _, _, _, hr, hg.2, hg.1, .c (.arr r (σ.clock + 1) (n + ys.length) _ rfl (by simp [Env.upd]) (fun _ => .inr ⟨by simp [Env.upd]; exact hcp, by simp [Env.upd]⟩)), hK⟩
              · have h63 : ((n + ys.length : Nat) : Int) ≤ 9223372036854775807 := by simp only [maxLen] at hm; omega
                have hjl : (c.toList.take (n * ei.size) ++ news).length = (n + ys.length) * ei.size := by rw [List.length_append, hlo, hnl, Nat.add_mul]
                obtain ⟨gcap, hg, hge, hgm, c', hc1, hc2, hc3⟩ := grown_block (w := w) (e := e') (old := E.cap r) hz hjl hm
                have hr := run_append_grow (P := P) w t ty e' fi z hu hi1 hi4 ⟨E.blk r, 0, none⟩ n (E.cap r) (c.toList.take (n * ei.size)) (by rw [hi2]; exact hlo) (fun j v hv => by
                    rw [Addr.add_lit, cell_of_block p3]
                    rw [List.getElem?_take] at hv
                    split at hv
                    · simpa using hv
                    · cases hv) ⟨b, off, none⟩ ys.length cap news (by rw [hi2]; exact hnl) hnc' (by omega) h63 (by rw [hi3]; exact growslice_fits (by omega) hb)
                have happ : (c.toList.take (n * ei.size)).toArray ++ news.toArray = (c.toList.take (n * ei.size) ++ news).toArray := by simp
                rw [happ, ← hg] at hr
                have hgr := h.growArr (w' := w.drew.alloc (.cells ((c.toList.take (n * ei.size) ++ news).toArray ++ Builtin.zeroCells z.cells (gcap - (n + ys.length))) e')) r k' e' ei.size es hmr w.heap.size gcap (es.take n ++ ys) hAB (by simp; omega) hgm (.inl rfl) (below_growth w _ h.le0)
                  (fun i hi _ => by rw [Below.heap_alloc w.drew _ i hi]; rfl)
                  (.inr ⟨c', hc1, hc2, fun i j e v x q1 q2 q3 => by
                    exact Flat.join (by rw [hlo, hAl]) hA hyl hnl hfl hflat i j e v x q1 q2 (by rw [← hc3]; simpa using q3)⟩)
                exact ⟨_, _, E.upd r w.heap.size gcap (σ.clock + 1), _, _, _, hr, hgr.2, hgr.1, .c (.arr r (σ.clock + 1) (n + ys.length) _ rfl (by simp [Env.upd]) (fun _ => .inr ⟨by simp [Env.upd]; omega, by simp [Env.upd]⟩)), hK⟩
        · exact hl.elim
      · exact hl.elim
    · exact hl.elim
  · exact hl.elim
end
end Go.Abs
