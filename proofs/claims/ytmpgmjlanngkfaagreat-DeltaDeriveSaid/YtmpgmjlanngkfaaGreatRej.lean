/-
  Algebra: the document's join.
-/
import Derived.Test.YtmpgmjlanngkfaaGreatMpc
import Derived.Test.YtmpgmjlanngkfaaGreatAlc
import Derived.Test.YtmpgmjlanngkfaaGreatMrg
section
namespace Go.Abs
open Go.RowKit
section
variable {P : Program} {T : TypeId → Option TI} {F0 : Nat → Prop} {w0 : World}
variable {dr : Bool} {ops rest : List Oper} {K : St → Prop} {n : Nat} {sl : List (Nat × SVal)} {mem : List Blk} {ck : Nat} {df : List (FuncId × List Cell)} {acc : List Nat}
variable {d : Tmp} {op : Op} {ty : TypeId} {pos : String} {aft : Array Edge} {g : Option (Nat × Bool)}
theorem ES {m : List Blk} : Ar m m := fun _ _ h _ => h
theorem NV : Ar [] [.dead] := fun s x h hl => by
 cases s with
 | zero => simp at h; subst h; exact hl.elim
 | succ s => simp at h
def Z6 (r k : Nat) (es : List (List Dat)) (c : Cell) (y : Dat) : Prop := (∃ m, c = .arr r k m ∧ m ≤ es.length ∧ y = .sl (es.take m)) ∨ c.dat = some y
def CFrs (r k : Nat) (es : List (List Dat)) : List Cell → List Dat → Prop
 | [], [] => True
 | c :: cs, y :: ys => Z6 r k es c y ∧ CFrs r k es cs ys
 | _, _ => False
theorem CFrs.get {r k : Nat} {es : List (List Dat)} : ∀ {cs : List Cell} {ys : List Dat}, CFrs r k es cs ys → cs.length = ys.length ∧ ∀ (i : Nat) c y, cs[i]? = some c → ys[i]? = some y → Z6 r k es c y
 | [], [], _ => ⟨rfl, by simp⟩
 | c :: cs, y :: ys, h => by
   obtain ⟨h1, h2⟩ := CFrs.get h.2
   refine ⟨by simp [h1], fun i c' y' hc hy => ?_⟩
   cases i with
   | zero => simp at hc hy; subst hc; subst hy; exact h.1
   | succ i => exact h2 i c' y' (by simpa using hc) (by simpa using hy)
 | [], _ :: _, h => h.elim
 | _ :: _, [], h => h.elim
theorem La [tc : TC P T] (r : Nat) {t e : TypeId} {x : Tmp} {i ei : TI} {k esz : Nat} {ety : TypeId} {es : List (List Dat)} {cs : List Cell} {ds : List Dat} {mem' : List Blk} (h : Reg P F0 w0 dr ops K rest ⟨n, (d, .c (.d (.sl [ds]))) :: sl, mem', ck, df⟩ (2 :: acc)) (hcs : CFrs r k es cs ds) (hm : mem[r]? = some (.arr k ety esz es) := by exact rfl) (hw : GW ops g sl := by first | exact trivial | exact rfl)
  (hx : AC sl (.tmp x) = .agg cs := by exact rfl) (ht : T t = some i := by exact rfl) (hi : i.desc = .slice e := by exact rfl) (hei : T e = some ei := by exact rfl) (hk : (Nat.blt 0 ei.size && (Nat.beq ei.zero.length ei.size && (Nat.ble ei.size 16777216 && Nat.beq cs.length ei.size))) = true := by exact rfl) (hm' : mem.set r .dead = mem' := by repeat' (first | exact AS rfl | apply AA rfl)) :
  Reg P F0 w0 dr ops K (⟨some d, .buildSlice t 1 #[(0, .tmp x)], ty, pos, aft, g⟩ :: rest) ⟨n, sl, mem, ck, df⟩ acc := by
 subst hm'
 refine RY (df' := []) hw (fun B σ E a w hF hw0 he hmm hck hr hB hd next Q hn => ?_) h
 subst hF; subst hw0
 simp only [Bool.and_eq_true, Nat.beq_eq, Nat.ble_eq, Nat.blt, Nat.succ_le_iff] at hk
 have hm2 : σ.mem[r]? = some (.arr k ety esz es) := by rw [hmm]; exact hm
 have hfz := hr.1.freeze r k ety esz es hm2
 have hxv : SRep E w (a.eval (.tmp x)) (.agg cs) := by
  have := hr.ev (.tmp x)
  rw [he (.tmp x) (by simp [Op.operands]), hx] at this
  exact this
 obtain ⟨hcl, hcg⟩ := hcs.get
 have hxd : SRep { E with F := fun i => E.F i ∨ (i = E.blk r ∧ E.cap r ≠ 0) } w (a.eval (.tmp x)) (.agg (ds.map .d)) := by
  generalize a.eval (.tmp x) = v at hxv
  cases hxv with | agg _ vs hl hv =>
  refine .agg _ vs (by rw [hl, hcl]; simp) fun i u y hu hy => ?_
  rw [List.getElem?_map] at hy
  cases hq : ds[i]? with
  | none => rw [hq] at hy; cases hy
  | some z =>
    rw [hq] at hy
    simp only [Option.map_some, Option.some.injEq] at hy
    subst hy
    have hlt : i < cs.length := by rw [hcl]; exact lt_of_getElem? hq
    have hci : cs[i]? = some cs[i] := List.getElem?_eq_getElem hlt
    have hrep := hv i u _ hu hci
    rcases hcg i _ z hci hq with ⟨m, h1, h2, rfl⟩ | h1
    ·rw [h1] at hrep
     exact .d (Ef hr.1 hm2 h2 hrep (fun b hb => .inl hb) fun hz => .inr ⟨rfl, hz⟩)
    ·exact .d ((hrep.dat h1).mono (fun _ hb => .inl hb) (fun _ _ => rfl))
 have hput : a.eval (.tmp x) = a.tmps.getD x undef := rfl
 have hρ : ∀ o, SRep { E with F := fun i => E.F i ∨ (i = E.blk r ∧ E.cap r ≠ 0) } w (a.eval o) (St.ev { σ with mem := σ.mem.set r .dead, slots := (x, .agg (ds.map .d)) :: σ.slots } o) := by
  intro o
  cases o with
  | tmp s =>
    simp only [St.ev, St.get, Bg]
    split
    ·rename_i q; subst q; exact hxd
    ·exact (hr.ev (.tmp s)).le hfz.2
  | const v => exact (hr.ev (.const v)).le hfz.2
  | global q => exact (hr.ev (.global q)).le hfz.2
  | func q => exact (hr.ev (.func q)).le hfz.2
 obtain ⟨a1, a2, a3, a4, a5⟩ := i
 simp only at hi
 subst hi
 obtain ⟨v, w', E', y, q1, q2, q3, q4, q5⟩ := GA (P := P) tc.ok (σ := { σ with mem := σ.mem.set r .dead, slots := (x, .agg (ds.map .d)) :: σ.slots }) hfz.1 (t := t) (len := 1) (ρ := a.eval) hρ (parts := #[(0, .tmp x)]) (V := fun y => y = .c (.d (.sl [ds]))) (by
  have hdd : DF (ds.map Cell.d) = some ds := by
    have : ∀ l : List Dat, DF (l.map Cell.d) = some l := fun l => by
     induction l with
     | nil => rfl
     | cons z l ih => simp [DF, ih, Cell.dat]
    exact this ds
  simp only [Ci, ht, hei, DG, St.ev, St.get, Bg, if_true, SVal.cells, hdd]
  refine ⟨hk.1, hk.2.1, by omega, rfl, ?_⟩
  rw [if_pos (by rw [← hcl]; exact hk.2.2.2)])
 subst q5
 unfold Oper.wp
 rw [show (execOp a.eval ⟨some d, .buildSlice t 1 #[(0, .tmp x)], ty, pos, aft, g⟩).run P w = .ok (.value v) w' by have q1' := q1; simp at q1'; simp [execOp, q1']]
 refine hn _ _ _ [] _ _ ⟨rfl, rfl, rfl, rfl⟩ ⟨E', ?_, hB.trans (hfz.2.trans q2)⟩
 rw [ET, ← hmm, ← hck]
 exact hr.putOE (hfz.2.trans q2) q3 hd q4
end
section
variable {P : Program} {T : TypeId → Option TI} {F0 : Nat → Prop} {w0 : World}
variable {dr : Bool} {ops rest : List Oper} {K : St → Prop} {n : Nat} {sl : List (Nat × SVal)} {mem : List Blk} {ck : Nat} {df : List (FuncId × List Cell)} {acc : List Nat}
variable {d : Tmp} {ty : TypeId} {pos : String} {aft : Array Edge} {g : Option (Nat × Bool)}
theorem NW [tc : TC P T] {t e : TypeId} {m : Nat} {parts : Array (Nat × Operand)} {i ei : TI} {cs cs' : List Cell} (h : Reg P F0 w0 dr ops K rest ⟨n, (d, .agg cs') :: sl, mem, ck, df⟩ (0 :: acc)) (hw : GW ops g sl := by first | exact trivial | exact rfl)
  (ht : T t = some i := by exact rfl) (hi : i.desc = .array m e := by exact rfl) (hei : T e = some ei := by exact rfl) (hf : MW T sl ((List.range m).map fun q => (q * ei.size, e)) parts.toList (i.zero.map BG) = some cs := by exact rfl) (hn : cs = cs' := by repeat' (first | exact AS rfl | apply AA rfl)) :
  Reg P F0 w0 dr ops K (⟨some d, .build t parts, ty, pos, aft, g⟩ :: rest) ⟨n, sl, mem, ck, df⟩ acc := by
 subst hn
 refine FG hw (fun mm cc => fun B σ E a w hF hw0 he hmm hck hr hB hd next Q hn => ?_) h
 subst hF; subst hw0
 have htt := tc.ok t _ ht
 obtain ⟨a1, a2, zero, a4, a5⟩ := i
 simp only at hi hf
 subst hi
 have hq := JB (τ := σ) parts.toList _ (fun p hp => he p.2 (by simp only [Op.operands]; simp; exact ⟨p.1, by simpa using hp⟩)) cs hf
 have hu : P.underlying t = some (.array m e) := htt.desc
 obtain ⟨fi, z, hi1, hi2, hi3, hi4, hi5⟩ := htt.info
 have hs := (tc.ok e ei hei).sizeOf (w := w)
 obtain ⟨cells', q1, q2, q3⟩ := GF tc.ok (ρ := a.eval) (fun x => hr.ev x) _ (fun q => some (q * ei.size, ei.size)) (fun q off ft j hf hj => by
  rw [List.getElem?_map] at hf
  cases hr : (List.range m)[q]? with
  | none => rw [hr] at hf; cases hf
  | some r =>
    rw [hr] at hf
    simp only [Option.map_some, Option.some.injEq, Prod.mk.injEq] at hf
    obtain ⟨rfl, rfl⟩ := hf
    have hqr : r = q := by
     have hlt : q < (List.range m).length := (List.getElem?_eq_some_iff.1 hr).1
     rw [List.getElem?_eq_getElem hlt, List.getElem_range] at hr
     simpa using hr.symm
    rw [hei] at hj
    simp only [Option.some.injEq] at hj
    subst hj
    rw [hqr]) parts.toList _ cs zero.toArray hq (by simp) (DV htt)
 have hv : SRep E w (.agg cells') (.agg cs) := by
  have := SRep.agg (E := E) (w := w) cs cells'.toList (by simpa using q2) (fun i v x hv hx => q3 i v x (by simpa using hv) hx)
  simpa using this
 have hrun : (Instr.build t (parts.map fun (i, x) => (i, a.eval x))).run P w = .ok (.agg cells') w := by
  have hmap : (parts.map fun (i, x) => (i, a.eval x)).toList = parts.toList.map fun p => (p.1, a.eval p.2) := by simp
  simp only [Instr.build, zeroValue, typeInfo, Sem.run_bind, run_program, Result.andThen_ok, hi1, Sem.run_pure, hi4, run_underlying hu, hs, hi5, hmap]
  rw [q1]
  rfl
 unfold Oper.wp
 rw [show (execOp a.eval ⟨some d, .build t parts, ty, pos, aft, g⟩).run P w = .ok (.value (.agg cells')) w by simp at hrun; simp [execOp, hrun]]
 refine hn _ _ _ [] _ _ ⟨rfl, rfl, rfl, rfl⟩ ⟨E, ?_, hB⟩
 rw [ET, ← hmm, ← hck]
 exact hr.putOE (EnvLe.refl E w) hr.1 hd hv
end
end Go.Abs
end
section
namespace Go.Proofs.YtmpgmjlanngkfaaGreat
open Go.Abs Go.RowKit
attribute [local irreducible] ARun At MCall PCall HCall Am SF CF CFs Ah Aj Ar fin AW VLe
set_option linter.unusedSimpArgs false
set_option maxRecDepth 100000
set_option maxHeartbeats 4000000
def sumR (l : List Entry) : List Entry :=
 if h : l.length < 2 then l
 else mergeE (sumR (l.take (l.length / 2))) (sumR (l.drop (l.length / 2)))
 termination_by l.length
 decreasing_by
  ·simp; omega
  ·simp; omega
theorem RD (l : List Entry) : (∀ e ∈ l, e.count ≠ 0) → sumR l = sortE l := by
 induction l using sumR.induct with
 | case1 l h =>
   intro hn
   rw [sumR, dif_pos h, sortE, dif_pos (by omega)]
   exact (List.filter_eq_self.2 fun e he => by simp [hn e he]).symm
 | case2 l h ih1 ih2 =>
   intro hn
   rw [sumR, dif_neg h, sortE, dif_neg (by omega), ih1 (fun e he => hn e (List.mem_of_mem_take he)), ih2 (fun e he => hn e (List.mem_of_mem_drop he))]
theorem HH (l : List Entry) : (sumR l).length ≤ l.length := by
 induction l using sumR.induct with
 | case1 l h => rw [sumR, dif_pos h]; exact Nat.le_refl _
 | case2 l h ih1 ih2 =>
   rw [sumR, dif_neg h]
   have := G5 (sumR (l.take (l.length / 2))) (sumR (l.drop (l.length / 2)))
   simp at ih1 ih2 ⊢
   omega
theorem IN (l : List Entry) : A6 68719476736 l → A6 (68719476736 * l.length) (sumR l) := by
 induction l using sumR.induct with
 | case1 l h =>
   intro hw
   rw [sumR, dif_pos h]
   intro e he
   have := hw e he
   have hl : 1 ≤ l.length := by cases l <;> simp at he ⊢
   omega
 | case2 l h ih1 ih2 =>
   intro hw
   rw [sumR, dif_neg h]
   have q1 := ih1 (fun e he => hw e (List.mem_of_mem_take he))
   have q2 := ih2 (fun e he => hw e (List.mem_of_mem_drop he))
   refine BC (EA (by omega) (by omega) _ _ q1 q2) ?_
   simp; omega
theorem Y1 (a : List Entry) : mergeE a [] = a := by cases a <;> simp [mergeE]
theorem XQ (b : List Entry) : mergeE [] b = b := by simp [mergeE]
theorem Y2 : ∀ (n : Nat) (l : List Entry), l.length ≤ n → l.length ≤ 16777216 → A6 68719476736 l → PCall Tryz.prog 185 [.one (Ap l)] (.v (.one (Ap (sumR l)))) := by
 intro n
 induction n with
 | zero =>
   intro l hl _ _
   have : l = [] := List.eq_nil_of_length_eq_zero (by omega)
   subst this
   refine Ac hT Tryz.func185 Tryz.ntmps185 [.tmp 2] fun B => ?_
   repeat' (first | refine kz ?_ | refine Au rfl (fun hb => ?_) (fun hb => ?_) | refine ki ?_ | refine kf ?_ | refine kg ?_ ?_ | fail)
   rw [sumR]; rfl
 | succ n ih =>
   intro l hl hbig hw
   by_cases h1 : l.length < 2
   ·rw [sumR, dif_pos h1]
    refine Ac hT Tryz.func185 Tryz.ntmps185 [.tmp 2] fun B => ?_
    repeat' (first | refine kz ?_ | refine Au rfl (fun hb => ?_) (fun hb => ?_) | refine ki ?_ | refine kf ?_ | refine kg ?_ ?_ | fail)
    all_goals rfl
   ·rw [sumR, dif_neg h1]
    have hlt : (l.take (l.length / 2)).length = l.length / 2 := by simp; omega
    have hld : (l.drop (l.length / 2)).length = l.length - l.length / 2 := by simp
    have c1 := ih (l.take (l.length / 2)) (by omega) (by omega) (fun e he => hw e (List.mem_of_mem_take he))
    have c2 := ih (l.drop (l.length / 2)) (by omega) (by omega) (fun e he => hw e (List.mem_of_mem_drop he))
    have w1 := IN (l.take (l.length / 2)) (fun e he => hw e (List.mem_of_mem_take he))
    have w2 := IN (l.drop (l.length / 2)) (fun e he => hw e (List.mem_of_mem_drop he))
    have l1 := HH (l.take (l.length / 2))
    have l2 := HH (l.drop (l.length / 2))
    generalize sumR (l.take (l.length / 2)) = a at *
    generalize sumR (l.drop (l.length / 2)) = b at *
    have wa : A6 1152921504606846976 a := BC w1 (by omega)
    have wb : A6 1152921504606846976 b := BC w2 (by omega)
    refine Ac hT Tryz.func185 Tryz.ntmps185 [.tmp 2] fun B => ?_
    repeat' (first | refine kz ?_ | refine Au rfl (fun hb => ?_) (fun hb => ?_) | refine ki ?_ | refine Aa (c1) ?_ | refine Aa (c2) ?_ | refine kf ?_ | refine kg ?_ ?_ | fail)
    clear ih c1 c2 w1 w2 hw
    refine BA 5 56 2 ?_
    refine AO (X := List Entry × List Entry × Nat × List Entry) [3, 4, 5, 6, 7, 24, 25, 26, 27, 28, 29, 30, 31, 32, 33, 34, 35, 36, 37, 38, 39, 40, 41, 42, 43, 44, 45, 46, 47, 48, 49, 50, 51, 52, 53, 54, 55, 56, 57, 58, 59, 60, 61, 62, 63, 64, 65, 66, 67, 68, 69, 70, 71, 72, 73, 74, 75, 76, 77, 78, 79, 80, 81, 82, 83, 84, 85, 86] (fun x => A6 1152921504606846976 x.1 ∧ A6 1152921504606846976 x.2.1 ∧ x.2.2.2.length + x.1.length + x.2.1.length ≤ 16777216 ∧ x.2.2.2 ++ mergeE x.1 x.2.1 = mergeE a b) (fun x lz => (3, .c (.d (Ap x.1))) :: (4, .c (.d (Ap x.2.1))) :: (5, .c (.arr 0 x.2.2.1 x.2.2.2.length)) :: lz) (fun x => [.arr x.2.2.1 56 2 (x.2.2.2.map Entry.d)]) (fun x => x.1.length + x.2.1.length) ((a, b, 1, [])) ?_ ?_ ?_ ?_
    repeat' (first | exact k0 | refine kw ?_ | omega)
    ·exact ⟨wa, wb, by simp; omega, rfl⟩
    rintro ⟨a', b', k, out⟩ c ⟨h3, h4, h5, hinv⟩
    dsimp only at h3 h4 h5 hinv ⊢
    by_cases hend : a'.length = 0 ∨ b'.length = 0
    ·have hM : out ++ a' ++ b' = mergeE a b := by
      rw [← hinv]
      rcases hend with h | h
      · obtain rfl := List.length_eq_zero_iff.1 h
        rw [XQ, List.append_nil]
      · obtain rfl := List.length_eq_zero_iff.1 h
        rw [Y1, List.append_nil]
     have hend : a'.length = 0 ∨ (0 < a'.length ∧ b'.length = 0) := by omega
     rw [← hM]
     rcases hend with hend | hend
     all_goals
      repeat' (first | refine kz ?_ | refine Au rfl (fun hb => ?_) (fun hb => ?_) | refine ki ?_ | refine kf ?_ | refine kg ?_ ?_ | fail)
      · simp; omega
      · simp only [List.length_append, List.length_map, List.map_append, Ap]
        rw [List.take_of_length_le (by simp; omega)]
    ·obtain ⟨x, a2, rfl⟩ : ∃ x a2, a' = x :: a2 := by
      cases a' with
      | nil => exact absurd (.inl rfl) hend
      | cons x a2 => exact ⟨x, a2, rfl⟩
     obtain ⟨y, b2, rfl⟩ : ∃ y b2, b' = y :: b2 := by
      cases b' with
      | nil => exact absurd (.inr rfl) hend
      | cons y b2 => exact ⟨y, b2, rfl⟩
     obtain ⟨hs1, hs2⟩ := h3 x (by simp)
     obtain ⟨hs3, hs4⟩ := h4 y (by simp)
     have h3' : A6 1152921504606846976 a2 := fun e he => h3 e (by simp [he])
     have h4' : A6 1152921504606846976 b2 := fun e he => h4 e (by simp [he])
     simp only [List.length_cons] at h5
     have hv : (x :: a2)[0]? = some x := rfl
     have hu : (y :: b2)[0]? = some y := rfl
     rw [mergeE] at hinv
     have ta : List.take (List.map Entry.d a2).length a2 = a2 := by simp
     have tb : List.take (List.map Entry.d b2).length b2 = b2 := by simp
     have da : Dat.sl (List.map Entry.d a2) = Ap a2 := rfl
     have db : Dat.sl (List.map Entry.d b2) = Ap b2 := rfl
     have o1 : ∀ z : Entry, out.length + [[AU z.row, Dat.lit (Value.int IntKind.i64 z.count)]].length = (out ++ [z]).length := fun z => by simp
     have o2 : ∀ z : Entry, out.map Entry.d ++ [[AU z.row, Dat.lit (Value.int IntKind.i64 z.count)]] = (out ++ [z]).map Entry.d := fun z => by rw [List.map_append]; rfl
     repeat' (first | refine kz ?_ | refine Au rfl (fun hb => ?_) (fun hb => ?_) | refine kx hv ?_ | refine kx hu ?_ | refine ki ?_ | refine Aa (Bb _ _) ?_ | refine kf ?_ | refine kg ?_ ?_ | fail)
     ·rw [if_pos hb] at hinv
      rw [ta, da, o1 x, o2 x]
      have hq : (out ++ [x]) ++ mergeE a2 (y :: b2) = mergeE a b := by rw [← hinv, List.append_assoc]; rfl
      have hql : (out ++ [x]).length = out.length + 1 := by simp
      generalize out ++ [x] = out2 at hq hql ⊢
      (apply Ae ((a2, y :: b2, _, out2)); all_goals (try dsimp only); all_goals (try (repeat' (first | exact k0 | refine w1 ?_ | refine Ab ?_ | omega))))
      · exact ⟨h3', h4, by simp only [List.length_cons]; omega, hq⟩
      · simp only [List.length_cons]; omega
     ·rw [if_neg (by omega), if_pos hb] at hinv
      rw [tb, db, o1 y, o2 y]
      have hq : (out ++ [y]) ++ mergeE (x :: a2) b2 = mergeE a b := by rw [← hinv, List.append_assoc]; rfl
      have hql : (out ++ [y]).length = out.length + 1 := by simp
      generalize out ++ [y] = out2 at hq hql ⊢
      (apply Ae ((x :: a2, b2, _, out2)); all_goals (try dsimp only); all_goals (try (repeat' (first | exact k0 | refine w1 ?_ | refine Ab ?_ | omega))))
      · exact ⟨h3, h4', by simp only [List.length_cons]; omega, hq⟩
      · simp only [List.length_cons]; omega
     ·rw [if_neg (by omega), if_neg (by omega), if_neg hb] at hinv
      rw [ta, da, tb, db, o1 ⟨x.row, x.count + y.count⟩, o2 ⟨x.row, x.count + y.count⟩]
      have hq : (out ++ [⟨x.row, x.count + y.count⟩]) ++ mergeE a2 b2 = mergeE a b := by rw [← hinv, List.append_assoc]
      have hql : (out ++ [(⟨x.row, x.count + y.count⟩ : Entry)]).length = out.length + 1 := by simp
      generalize out ++ [(⟨x.row, x.count + y.count⟩ : Entry)] = out2 at hq hql ⊢
      (apply Ae ((a2, b2, _, out2)); all_goals (try dsimp only); all_goals (try (repeat' (first | exact k0 | refine w1 ?_ | refine Ab ?_ | omega))))
      · exact ⟨h3', h4', by omega, hq⟩
      · simp only [List.length_cons]; omega
     ·rw [if_neg (by omega), if_neg (by omega), if_pos hb] at hinv
      rw [ta, da, tb, db]
      (apply Ae ((a2, b2, _, out)); all_goals (try dsimp only); all_goals (try (repeat' (first | exact k0 | refine w1 ?_ | refine Ab ?_ | omega))))
      · exact ⟨h3', h4', by omega, by rw [← hinv]; rfl⟩
      · simp only [List.length_cons]; omega
def CG (x y : List Val) (on : List (Int × Int)) : Bool := on.all fun p => decide ((EH x p.1).kind ≠ 0) && Cp (EH x p.1) (EH y p.2)
theorem VN (u y : List Val) (on : List (Int × Int)) : PCall Tryz.prog 184 [.one (AU u), .one (AU y), .one (RX on)] (.v (.one (.lit (.bool (CG u y on))))) := by
 refine Ac hT Tryz.func184 Tryz.ntmps184 [.tmp 6] fun B => ?_
 refine fsq 2 rfl fun hlr => ?_
 simp only [List.length_map, maxLen] at hlr
 repeat' (first | refine kz ?_ | refine Au rfl (fun hb => ?_) (fun hb => ?_) | refine ki ?_ | refine Ai rfl rfl (fun hb => ?_) (fun hb => ?_) | refine kf ?_ | fail)
 refine AO (X := Nat) [6, 7, 8, 9, 10, 11, 12, 13, 14, 15, 16, 17, 18, 19, 20, 21, 22, 23, 24, 25, 26, 27, 28, 29, 30, 31, 32, 33, 34, 35] (fun x => x ≤ on.length ∧ (on.take x).all (fun p => decide ((EH u p.1).kind ≠ 0) && Cp (EH u p.1) (EH y p.2)) = true) (fun x lz => (7, (.c (.d (.lit (.int .i64 x))))) :: lz) (fun x => []) (fun x => on.length - x) (0) ?_ ?_ ?_ ?_
 repeat' (first | exact k0 | refine kw ?_ | omega)
 ·exact ⟨by simp, by simp⟩
 rintro i c ⟨hi, hinv⟩
 by_cases hlt : i < on.length
 ·have hv : on[i]? = some on[i] := List.getElem?_eq_getElem hlt
  generalize on[i] = p at hv
  have htk : ∀ f : Int × Int → Bool, (on.take (i + 1)).all f = ((on.take i).all f && f p) := fun f => by rw [List.take_add_one, hv, List.all_append]; simp
  have hfl : (decide ((EH u p.1).kind ≠ 0) && Cp (EH u p.1) (EH y p.2)) = false → CG u y on = false := fun h => by
   unfold CG
   rw [Bool.eq_false_iff]
   intro hh
   have := List.all_eq_true.1 hh p (List.mem_of_getElem? hv)
   rw [h] at this; cases this
  have hc1 := MB u p.1
  have hc2 := MB y p.2
  generalize hvE : EH u p.1 = v at hc1 hfl
  generalize hwE : EH y p.2 = w at hc2 hfl
  have hls := Li v w
  repeat' (first | refine kz ?_ | refine Au rfl (fun hb => ?_) (fun hb => ?_) | refine kx hv ?_ | refine ki ?_ | refine Aa (hc1) ?_ | refine Aa (hc2) ?_ | refine Ai rfl rfl (fun hb => ?_) (fun hb => ?_) | refine kf ?_ | fail)
  ·rw [hfl (by simp [hb])]
  ·rw [hls] at hb
   rw [hfl (by simp [hb])]
  ·rename_i hk
   rw [hls] at hb
   (apply Ae (i + 1); all_goals (try dsimp only); all_goals (try (repeat' (first | exact k0 | refine kw ?_ | omega))))
   exact ⟨by omega, by rw [htk, hinv]; simp [hk, hb, hvE, hwE]⟩
 ·have hie : i = on.length := by omega
  subst hie
  rw [List.take_length] at hinv
  have hm : CG u y on = true := hinv
  rw [hm]
  repeat' (first | refine kz ?_ | refine Au rfl (fun hb => ?_) (fun hb => ?_) | refine ki ?_ | refine Ai rfl rfl (fun hb => ?_) (fun hb => ?_) | refine kf ?_ | fail)
  all_goals rfl
def Bx (b : List Entry) : Bool := b.all (fun e => decide (e.row.length ≤ 8)) && Al b
theorem N8 (b : List Entry) : PCall Tryz.prog 183 [.one (Ap b)] (.v (.one (.lit (.bool (Bx b))))) := by
 have hval := BL b
 refine Ac hT Tryz.func183 Tryz.ntmps183 [.tmp 2] fun B => ?_
 refine fsq 0 rfl fun hlr => ?_
 simp only [List.length_map, maxLen] at hlr
 repeat' (first | refine kz ?_ | refine Au rfl (fun hb => ?_) (fun hb => ?_) | refine ki ?_ | refine kf ?_ | fail)
 refine AO (X := Nat) [2, 3, 4, 5, 6, 7, 8, 9, 10, 11, 12, 13, 14, 15, 16] (fun x => x ≤ b.length ∧ (b.take x).all (fun e => decide (e.row.length ≤ 8)) = true) (fun x lz => (3, (.c (.d (.lit (.int .i64 x))))) :: lz) (fun x => []) (fun x => b.length - x) (0) ?_ ?_ ?_ ?_
 repeat' (first | exact k0 | refine kw ?_ | omega)
 ·exact ⟨by simp, by simp⟩
 rintro i c ⟨hi, hinv⟩
 by_cases hlt : i < b.length
 ·have hv : b[i]? = some b[i] := List.getElem?_eq_getElem hlt
  generalize b[i] = e at hv
  have htk : ∀ f : Entry → Bool, (b.take (i + 1)).all f = ((b.take i).all f && f e) := fun f => by rw [List.take_add_one, hv, List.all_append]; simp
  repeat' (first | refine kz ?_ | refine Au rfl (fun hb => ?_) (fun hb => ?_) | refine kx hv ?_ | refine ki ?_ | refine kf ?_ | fail)
  ·have hm : Bx b = false := by
     unfold Bx
     have : b.all (fun e => decide (e.row.length ≤ 8)) = false := by
      rw [Bool.eq_false_iff]
      intro hh
      have := List.all_eq_true.1 hh e (List.mem_of_getElem? hv)
      simp at this; omega
     rw [this]; rfl
   rw [hm]
  ·(apply Ae (i + 1); all_goals (try dsimp only); all_goals (try (repeat' (first | exact k0 | refine kw ?_ | omega))))
   exact ⟨by omega, by rw [htk, hinv]; simp; omega⟩
 ·have hie : i = b.length := by omega
  subst hie
  rw [List.take_length] at hinv
  have hm : Bx b = Al b := by unfold Bx; rw [hinv]; rfl
  rw [hm]
  repeat' (first | refine kz ?_ | refine Au rfl (fun hb => ?_) (fun hb => ?_) | refine ki ?_ | refine Aa (hval) ?_ | refine kf ?_ | fail)
  all_goals rfl
end Go.Proofs.YtmpgmjlanngkfaaGreat
end
