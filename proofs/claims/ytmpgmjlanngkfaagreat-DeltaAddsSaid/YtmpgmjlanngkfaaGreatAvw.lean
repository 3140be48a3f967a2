/-
  The tape's views over sources of three and two columns.
-/
import Derived.Test.YtmpgmjlanngkfaaGreatRek
import Derived.Test.YtmpgmjlanngkfaaGreatVew
import Derived.Test.YtmpgmjlanngkfaaGreatTkg
import Derived.Test.YtmpgmjlanngkfaaGreatArz
section
namespace Go.Abs
open Go.RowKit
section
variable {P : Program} {T : TypeId → Option TI} {F0 : Nat → Prop} {w0 : World}
variable {dr : Bool} {ops rest : List Oper} {K : St → Prop} {n : Nat} {sl : List (Nat × SVal)} {mem : List Blk} {ck : Nat} {df : List (FuncId × List Cell)} {acc : List Nat}
variable {d : Tmp} {ty : TypeId} {pos : String} {aft : Array Edge} {g : Option (Nat × Bool)}
theorem s_buildA [tc : TC P T] {t e : TypeId} {m : Nat} {parts : Array (Nat × Operand)} {i ei : TI} {cs cs' : List Cell} (h : Reg P F0 w0 dr ops K rest ⟨n, (d, .agg cs') :: sl, mem, ck, df⟩ (0 :: acc)) (hw : GW ops g sl := by first | exact trivial | exact rfl)
    (ht : T t = some i := by exact rfl) (hi : i.desc = .array m e := by exact rfl) (hei : T e = some ei := by exact rfl) (hf : fillS T sl ((List.range m).map fun q => (q * ei.size, e)) parts.toList (i.zero.map valCell) = some cs := by exact rfl) (hn : cs = cs' := by repeat' (first | exact nfNil rfl | apply nfCons rfl)) :
    Reg P F0 w0 dr ops K (⟨some d, .build t parts, ty, pos, aft, g⟩ :: rest) ⟨n, sl, mem, ck, df⟩ acc := by
  subst hn
  refine at0 hw (fun mm cc => fun B σ E a w hF hw0 he hmm hck hr hB hd next Q hn => ?_) h
  subst hF; subst hw0
  have htt := tc.ok t _ ht
  obtain ⟨a1, a2, zero, a4, a5⟩ := i
  simp only at hi hf
  subst hi
  have hq := fillS_eq (τ := σ) parts.toList _ (fun p hp => he p.2 (by simp only [Op.operands]; simp; exact ⟨p.1, by simpa using hp⟩)) cs hf
  have hu : P.underlying t = some (.array m e) := htt.desc
  obtain ⟨fi, z, hi1, hi2, hi3, hi4, hi5⟩ := htt.info
  have hs := (tc.ok e ei hei).sizeOf (w := w)
  obtain ⟨cells', q1, q2, q3⟩ := build_fill tc.ok (ρ := a.eval) (fun x => hr.ev x) _ (fun q => some (q * ei.size, ei.size)) (fun q off ft j hf hj => by
    rw [List.getElem?_map] at hf
    cases hr : (List.range m)[q]? with
    | none => rw [hr] at hf; cases hf
    | some r =>
      rw [hr] at hf
      simp only [Option.map_some, Option.some.injEq, Prod.mk.injEq] at hf
      obtain ⟨rfl, rfl⟩ := hf
      have hqr : r = q := by
        have hlt : q < (List.range m).length := (List.getElem?_eq_some_iff.1 hr).1
        rw [List.getElem?_eq_getElem hlt, List.getElem_range] at hr
        simpa using hr.symm
      rw [hei] at hj
      simp only [Option.some.injEq] at hj
      subst hj
      rw [hqr]) parts.toList _ cs zero.toArray hq (by simp) (zero_rep htt)
  have hv : SRep E w (.agg cells') (.agg cs) := by
    have := SRep.agg (E := E) (w := w) cs cells'.toList (by simpa using q2) (fun i v x hv hx => q3 i v x (by simpa using hv) hx)
    simpa using this
  have hrun : (Instr.build t (parts.map fun (i, x) => (i, a.eval x))).run P w = .ok (.agg cells') w := by
    have hmap : (parts.map fun (i, x) => (i, a.eval x)).toList = parts.toList.map fun p => (p.1, a.eval p.2) := by simp
    simp only [Instr.build, zeroValue, typeInfo, Sem.run_bind, run_program, Result.andThen_ok, hi1, Sem.run_pure, hi4, run_underlying hu, hs, hi5, hmap]
    rw [q1]
    rfl
  unfold Oper.wp
  rw [show (execOp a.eval ⟨some d, .build t parts, ty, pos, aft, g⟩).run P w = .ok (.value (.agg cells')) w by simp at hrun; simp [execOp, hrun]]
  refine hn _ _ _ [] _ _ ⟨rfl, rfl, rfl, rfl⟩ ⟨E, ?_, hB⟩
  rw [upd_putO, ← hmm, ← hck]
  exact hr.putOE (EnvLe.refl E w) hr.1 hd hv
end
end Go.Abs
end
section
namespace Go.Proofs.YtmpgmjlanngkfaaGreat
open Go.Abs Go.RowKit
attribute [local irreducible] ARun kont MCall PCall HCall resVal SF CF CFs defersOk slotsIn memIn fin finM VLe
set_option linter.unusedSimpArgs false
set_option maxRecDepth 100000
set_option maxHeartbeats 4000000
def jcF (J : List Entry → List Entry → List (Int × Int) → List Entry × Int) (on : List (Int × Int)) : List (List Entry × List Entry) → List Entry → List Entry × Int
  | [], s => (s, 0)
  | p :: P, s => if (J p.1 p.2 on).2 = 0 then (if (addE 1 s (J p.1 p.2 on).1).2 = 0 then jcF J on P (addE 1 s (J p.1 p.2 on).1).1 else ([], (addE 1 s (J p.1 p.2 on).1).2)) else ([], (J p.1 p.2 on).2)
def prsD (p : List Entry × List Entry) : List Dat := [bagD p.1, bagD p.2]
theorem joinChange_c (J : List Entry → List Entry → List (Int × Int) → List Entry × Int) (v : Vw) (l r dl dr : List Entry)
    (hJ : ∀ p ∈ ([(dl, r), (l, dr), (dl, dr)] : List (List Entry × List Entry)), PCall Tryz.prog 89 [.one (bagD p.1), .one (bagD p.2), .one (onD v.on)] (bagI (J p.1 p.2 v.on))) :
    PCall Tryz.prog 103 [.agg v.d, .one (bagD l), .one (bagD r), .one (bagD dl), .one (bagD dr)] (bagI (jcF J v.on [(dl, r), (l, dr), (dl, dr)] [])) := by
  have hP : ∃ P : List (List Entry × List Entry), P = [(dl, r), (l, dr), (dl, dr)] := ⟨_, rfl⟩
  obtain ⟨P, hP⟩ := hP
  rw [← hP] at hJ ⊢
  have hPl : P.length = 3 := by rw [hP]; rfl
  have hPd : ∀ (i : Nat) p, P[i]? = some p → ([[bagD dl, bagD r], [bagD l, bagD dr], [bagD dl, bagD dr]] : List (List Dat))[i]? = some [bagD p.1, bagD p.2] := fun i p h => by
    have : ([[bagD dl, bagD r], [bagD l, bagD dr], [bagD dl, bagD dr]] : List (List Dat)) = P.map prsD := by rw [hP]; rfl
    rw [this, List.getElem?_map, h]; rfl
  clear hP
  refine pcallN hT Tryz.func103 Tryz.ntmps103 [.tmp 10, .tmp 11] fun B => ?_
  repeat' (first | refine ks ?_ | refine ko ?_ | refine s_indexD ?_ (hel := (by first | exact rfl)) | refine s_buildA ?_ | refine kg ?_ ?_ | refine kf ?_ | fail)
  refine s_own 12 56 2 ?_
  refine s_freeze (r := 1) (m := 0) (es1 := ([] : List Entry).map Entry.d) 12 ?_
  refine s_lp (X := Nat × List Entry) [10, 11, 12, 14, 15, 16, 28, 29, 30, 31, 32, 33, 34, 35, 36, 37, 38, 39, 40, 41, 42, 43, 44, 45, 46, 47, 48, 49, 50, 51, 52, 53, 54] (fun x => x.1 ≤ 3 ∧ jcF J v.on (P.drop x.1) x.2 = jcF J v.on P []) (fun x lz => (28, (.c (.d (.lit (.int .i64 x.1))))) :: (12, .c (.d (bagD x.2))) :: lz) (fun x => [.box 1 (v.d.map .d), .dead]) (fun x => 3 - x.1) ((0, [])) ?_ ?_ ?_ ?_
  repeat' (first | exact slots_nil | refine kw ?_ | exact memIn_nil | omega)
  all_goals try (first | rfl | exact ⟨by omega, rfl⟩)
  rintro ⟨i, s⟩ c ⟨hi, hinv⟩
  dsimp only at hi hinv ⊢
  by_cases hlt : i < 3
  · have hv : P[i]? = some P[i] := List.getElem?_eq_getElem (by omega)
    have hj := hJ _ (List.getElem_mem (show i < P.length by omega))
    generalize P[i] = p at hv hj
    have hv1 := hPd i p hv
    obtain ⟨x1, y1⟩ := p
    dsimp only at hj hv1
    rw [drop_cons hv, jcF] at hinv
    dsimp only at hinv
    have ha := add_c s (J x1 y1 v.on).1
    generalize J x1 y1 v.on = q at hj ha hinv
    obtain ⟨q, e⟩ := q
    dsimp only [bagI] at hj ha hinv
    clear hJ hPd
    by_cases he : e = 0
    · subst he
      rw [if_pos rfl] at hinv
      generalize addE 1 s q = a at ha hinv
      obtain ⟨a, f⟩ := a
      dsimp only at ha hinv
      by_cases hf : f = 0
      · subst hf
        rw [if_pos rfl] at hinv
        repeat' (first | refine ks ?_ | refine ko ?_ | refine s_indexD ?_ (hel := (by first | exact idx_map hv1 (by omega) | exact hv1 | exact rfl)) | refine s_call (hj) ?_ | refine s_call (ha) ?_ | refine kg ?_ ?_ | refine kf ?_ | fail)
        (apply s_round ((i + 1, a)); all_goals (try dsimp only); all_goals (try (repeat' (first | exact slots_nil | refine kw ?_ | exact memIn_nil | omega))))
        all_goals exact ⟨by omega, hinv⟩
      · rw [if_neg hf] at hinv
        rw [← hinv]
        dsimp only [bagI]
        repeat' (first | refine ks ?_ | refine ko ?_ | refine s_indexD ?_ (hel := (by first | exact idx_map hv1 (by omega) | exact hv1 | exact rfl)) | refine s_call (hj) ?_ | refine s_call (ha) ?_ | refine kg ?_ ?_ | refine kf ?_ | fail)
        all_goals rfl
    · rw [if_neg he] at hinv
      rw [← hinv]
      dsimp only [bagI]
      repeat' (first | refine ks ?_ | refine ko ?_ | refine s_indexD ?_ (hel := (by first | exact idx_map hv1 (by omega) | exact hv1 | exact rfl)) | refine s_call (hj) ?_ | refine kg ?_ ?_ | refine kf ?_ | fail)
      all_goals rfl
  · rw [List.drop_eq_nil_of_le (by omega), jcF] at hinv
    rw [← hinv]
    dsimp only [bagI]
    clear hJ hPd
    repeat' (first | refine ks ?_ | refine ko ?_ | refine s_indexD ?_ (hel := (by first | exact rfl)) | refine kg ?_ ?_ | refine kf ?_ | fail)
    all_goals rfl
def prD (p : Int × Int) : List Dat := [.lit (.int .i64 p.1), .lit (.int .i64 p.2)]
structure Vw.ok (v : Vw) : Prop where
  kind : v.kind = 0 ∨ v.kind = 1 ∨ v.kind = 2
  items : v.items.length ≤ 3
  aggs : v.aggs.length ≤ 3
  fits : v.items.length + v.aggs.length ≤ 8
  func : ∀ x ∈ v.aggs, 0 ≤ x.func ∧ x.func ≤ 4
  onl : v.on.length ≤ 2
  cols : ∀ p ∈ v.on, 0 ≤ p.1 ∧ p.1 < 3 ∧ 0 ≤ p.2 ∧ p.2 < 2
  exprs : ∀ x ∈ v.items, x.expr.length ≤ 16
theorem am_aggE {cs cs' : List Cell} (h : CLes cs cs') : AM (.agg cs) (.agg cs') := h
theorem any_tail (n : Nat) (h1 : 1 ≤ n) (hn : n ≤ 1000) (k : Int) (hk : k = 0 ∨ k = 1) (t : Tape) (ht : t.ok) : ∃ (e : List Trm) (ks : List Itm) (d : Bool) (ag : List Agg) (t' : Tape), t'.ok ∧ (ks.length ≤ 3 ∧ ∀ x ∈ ks, x.expr.length ≤ 16) ∧ ag.length ≤ 3 ∧ (∀ x ∈ ag, 0 ≤ x.func ∧ x.func ≤ 4) ∧ ∃ (w : Nat) (t1 t2 : Tape),
    HCall Tryz.prog 30 [.c (.bp 0 0 0), .c (.d (.lit (.int .i64 2)))] [(.box 0 [.d (numD (t).l), .d (.lit (.int .i64 (t).at_))])] (.c (.d (.lit (.int .i64 w)))) [(.box 0 [.d (numD (t1).l), .d (.lit (.int .i64 (t1).at_))])] ∧
    ((w = 0 ∧ HCall Tryz.prog 31 [.c (.bp 0 0 0), (.c (.d (.lit (.int .i64 3)))), (.c (.d (.lit (.int .i64 (n : Int)))))] [(.box 0 [.d (numD (t1).l), .d (.lit (.int .i64 (t1).at_))])] (.c (.d (exprD e))) [(.box 0 [.d (numD (t2).l), .d (.lit (.int .i64 (t2).at_))])]) ∨ (w ≠ 0 ∧ e = [] ∧ t2 = t1)) ∧
    ((k = 0 ∧ ag = [] ∧ ∃ (z : Nat) (t3 : Tape), d = ((z : Int) == 0) ∧ HCall Tryz.prog 21 [.c (.bp 0 0 0), (.c (.d (.lit (.int .i64 3)))), (.c (.d (.lit (.int .i64 (n : Int)))))] [(.box 0 [.d (numD (t2).l), .d (.lit (.int .i64 (t2).at_))])] (.c (.d (itmD ks))) [(.box 0 [.d (numD (t3).l), .d (.lit (.int .i64 (t3).at_))])] ∧ HCall Tryz.prog 30 [.c (.bp 0 0 0), .c (.d (.lit (.int .i64 3)))] [(.box 0 [.d (numD (t3).l), .d (.lit (.int .i64 (t3).at_))])] (.c (.d (.lit (.int .i64 z)))) [(.box 0 [.d (numD (t').l), .d (.lit (.int .i64 (t').at_))])]) ∨
     (k = 1 ∧ d = false ∧ ∃ t3 : Tape, HCall Tryz.prog 21 [.c (.bp 0 0 0), (.c (.d (.lit (.int .i64 2)))), (.c (.d (.lit (.int .i64 (n : Int)))))] [(.box 0 [.d (numD (t2).l), .d (.lit (.int .i64 (t2).at_))])] (.c (.d (itmD ks))) [(.box 0 [.d (numD (t3).l), .d (.lit (.int .i64 (t3).at_))])] ∧ HCall Tryz.prog 23 [.c (.bp 0 0 0), (.c (.d (.lit (.int .i64 3)))), (.c (.d (.lit (.int .i64 (n : Int)))))] [(.box 0 [.d (numD (t3).l), .d (.lit (.int .i64 (t3).at_))])] (.c (.d (aggD ag))) [(.box 0 [.d (numD (t').l), .d (.lit (.int .i64 (t').at_))])])) := by
  obtain ⟨w, t1, ok1, hw, n1⟩ := nextE_h t 2 ht (by omega) (by omega)
  have he : ∃ (e : List Trm) (t2 : Tape), t2.ok ∧ ((w = 0 ∧ HCall Tryz.prog 31 [.c (.bp 0 0 0), (.c (.d (.lit (.int .i64 3)))), (.c (.d (.lit (.int .i64 (n : Int)))))] [(.box 0 [.d (numD (t1).l), .d (.lit (.int .i64 (t1).at_))])] (.c (.d (exprD e))) [(.box 0 [.d (numD (t2).l), .d (.lit (.int .i64 (t2).at_))])]) ∨ (w ≠ 0 ∧ e = [] ∧ t2 = t1)) := by
    by_cases h0 : w = 0
    · obtain ⟨e, t2, ok2, _, c2⟩ := expr_h n h1 hn 3 t1 ok1 (by omega)
      exact ⟨e, t2, ok2, .inl ⟨h0, c2⟩⟩
    · exact ⟨[], t1, ok1, .inr ⟨h0, rfl, rfl⟩⟩
  obtain ⟨e, t2, ok2, he⟩ := he
  rcases hk with rfl | rfl
  · obtain ⟨ks, t3, ok3, lk, lx, c3⟩ := keysB_h t2 3 n ok2 (by omega) h1 hn
    obtain ⟨z, t4, ok4, _, n4⟩ := nextE_h t3 3 ok3 (by omega) (by omega)
    exact ⟨e, ks, _, [], t4, ok4, ⟨lk, lx⟩, by simp, (fun x hx => by cases hx), w, t1, t2, n1, he, .inl ⟨rfl, rfl, z, t3, rfl, c3, n4⟩⟩
  · obtain ⟨ks, t3, ok3, lk, lx, c3⟩ := keysB_h t2 2 n ok2 (by omega) h1 hn
    obtain ⟨ag, t4, ok4, la, fa, c4⟩ := aggs_h t3 3 n ok3 (by omega) h1 hn
    exact ⟨e, ks, false, ag, t4, ok4, ⟨by omega, lx⟩, la, fa, w, t1, t2, n1, he, .inr ⟨rfl, rfl, t3, c3, c4⟩⟩
theorem any_on (t : Tape) (ht : t.ok) : ∀ m : Nat, ∃ (f : Nat → Int × Int) (ts : Nat → Tape), ts 0 = t ∧ (ts m).ok ∧ (∀ i, i < m → 0 ≤ (f i).1 ∧ (f i).1 < 3 ∧ 0 ≤ (f i).2 ∧ (f i).2 < 2) ∧ ∀ i, i < m → ∃ t2 : Tape,
    HCall Tryz.prog 30 [.c (.bp 0 0 0), .c (.d (.lit (.int .i64 3)))] [(.box 0 [.d (numD ((ts i)).l), .d (.lit (.int .i64 ((ts i)).at_))])] (.c (.d (.lit (.int .i64 (f i).1)))) [(.box 0 [.d (numD (t2).l), .d (.lit (.int .i64 (t2).at_))])] ∧ HCall Tryz.prog 30 [.c (.bp 0 0 0), .c (.d (.lit (.int .i64 2)))] [(.box 0 [.d (numD (t2).l), .d (.lit (.int .i64 (t2).at_))])] (.c (.d (.lit (.int .i64 (f i).2)))) [(.box 0 [.d (numD ((ts (i + 1))).l), .d (.lit (.int .i64 ((ts (i + 1))).at_))])] := by
  intro m
  induction m with
  | zero => exact ⟨fun _ => (0, 0), fun _ => t, rfl, ht, fun i hi => by omega, fun i hi => by omega⟩
  | succ m ih =>
    obtain ⟨f, ts, e0, okm, hb, hf⟩ := ih
    obtain ⟨p, t2, ok2, hp, n2⟩ := nextE_h (ts m) 3 okm (by omega) (by omega)
    obtain ⟨q, t3, ok3, hq, n3⟩ := nextE_h t2 2 ok2 (by omega) (by omega)
    refine ⟨fun i => if i = m then ((p : Int), (q : Int)) else f i, fun i => if i = m + 1 then t3 else ts i, by simp [e0], by simp [ok3], fun i hi => ?_, fun i hi => ?_⟩
    · by_cases him : i = m
      · subst him; simp only [if_true]; omega
      · simp only [him, if_false]; exact hb i (by omega)
    · by_cases him : i = m
      · subst him
        refine ⟨t2, ?_, ?_⟩
        · simp only [show ¬ i = i + 1 by omega, if_false, if_true]; exact n2
        · simp only [if_true]; exact n3
      · have := hf i (by omega)
        simp only [him, show ¬ i = m + 1 by omega, show ¬ i + 1 = m + 1 by omega, if_false]
        exact this
theorem anyView_h (t : Tape) (ht : t.ok) : ∃ (v : Vw) (t' : Tape), t'.ok ∧ v.ok ∧ HCall Tryz.prog 10 [.c (.bp 0 0 0), (.c (.d (.lit (.int .i64 3)))), (.c (.d (.lit (.int .i64 2))))] [(.box 0 [.d (numD (t).l), .d (.lit (.int .i64 (t).at_))])] (.agg (v.d.map .d)) [(.box 0 [.d (numD (t').l), .d (.lit (.int .i64 (t').at_))])] := by
  obtain ⟨z, t1, ok1, hz, n1⟩ := nextE_h t 6 ht (by omega) (by omega)
  obtain ⟨k, hk, hkl⟩ : ∃ k : Int, (k = 0 ∨ k = 1 ∨ k = 2) ∧ ([[.lit (.int .i64 0)], [.lit (.int .i64 0)], [.lit (.int .i64 0)], [.lit (.int .i64 1)], [.lit (.int .i64 1)], [.lit (.int .i64 2)]] : List (List Dat))[z]? = some [.lit (.int .i64 k)] := by
    match z, hz with
    | 0, _ => exact ⟨_, .inl rfl, rfl⟩
    | 1, _ => exact ⟨_, .inl rfl, rfl⟩
    | 2, _ => exact ⟨_, .inl rfl, rfl⟩
    | 3, _ => exact ⟨_, .inr (.inl rfl), rfl⟩
    | 4, _ => exact ⟨_, .inr (.inl rfl), rfl⟩
    | 5, _ => exact ⟨_, .inr (.inr rfl), rfl⟩
    | z + 6, h => omega
  by_cases h2 : k = 2
  · subst h2
    refine ⟨⟨⟨#[]⟩, 2, ⟨#[]⟩, ⟨#[114]⟩, [], [], [], false, []⟩, t1, ok1, ⟨.inr (.inr rfl), by simp, by simp, by simp, (fun x hx => by cases hx), by simp, (fun x hx => by cases hx), fun x hx => by cases hx⟩, ?_⟩
    refine hcallN hT Tryz.func10 Tryz.ntmps10 [.cell 6 30] fun B => ?_
    repeat' (first | refine Go.Abs.ks ?_ | refine ko ?_ | refine s_indexD ?_ (hel := (by first | exact idx_map hkl (by omega) | exact hkl | exact rfl)) | refine s_callH [0] (n1) ?_ | refine fh_cellG def_nil ?_ ?_ | (refine am_aggE ?_; (repeat' (first | exact trivial | refine And.intro (Or.inl rfl) ?_ | refine And.intro (Or.inr ⟨_, rfl, rfl⟩) ?_))) | exact memIn_nil | refine memIn_same ?_ | refine m1 ?_ ?_ | exact am_same)
    all_goals rfl
  have hk2 : k = 0 ∨ k = 1 := by omega
  obtain ⟨q, t2, ok2, hq, n2⟩ := nextE_h t1 2 ok1 (by omega) (by omega)
  by_cases hb : q = 0
  · obtain ⟨m, t3, ok3, hm, n3⟩ := nextE_h t2 3 ok2 (by omega) (by omega)
    obtain ⟨f, ts, e0, okm, hb2, hf⟩ := any_on t3 ok3 m
    rw [← e0] at n3
    obtain ⟨e, ks, d, ag, t', ok', ⟨lk, lx⟩, la, fa, w, t4, t5, n4, hw, hd⟩ := any_tail 5 (by omega) (by omega) k hk2 (ts m) okm
    refine ⟨⟨⟨#[]⟩, k, ⟨#[]⟩, ⟨#[114]⟩, (List.range m).map f, e, ks, d, ag⟩, t', ok', ⟨hk, lk, la, by dsimp only; omega, fa, by simp; omega, fun p hp => ?_, lx⟩, ?_⟩
    · obtain ⟨i, hi, rfl⟩ := List.mem_map.1 hp
      exact hb2 i (List.mem_range.1 hi)
    refine hcallN hT Tryz.func10 Tryz.ntmps10 [.cell 6 30] fun B => ?_
    repeat' (first | refine Go.Abs.ks ?_ | refine ko ?_ | refine s_indexD ?_ (hel := (by first | exact idx_map hkl (by omega) | exact hkl | exact rfl)) | refine s_callH [0] (n1) ?_ | refine s_callH [0] (n2) ?_ | refine s_callH [0] (n3) ?_ | exact memIn_nil | refine memIn_same ?_ | refine m1 ?_ ?_ | exact am_same)
    refine s_ownBox 2 4 66 2 ?_
    refine s_lp (X := Nat × Nat × Tape) [9, 31, 32, 33, 34, 35, 36, 37, 38, 39, 40, 41, 42, 43, 44, 45, 46] (fun x => x.1 ≤ m ∧ x.2.2 = ts x.1) (fun x lz => (9, (.c (.d (.lit (.int .i64 ((m - x.1 : Nat) : Int)))))) :: lz) (fun x => [(.box 0 [.d (numD (x.2.2).l), .d (.lit (.int .i64 (x.2.2).at_))]), .box 1 [.d (.lit (.string ⟨#[]⟩)), .d (.lit (.int .i64 0)), .d (.lit (.string ⟨#[]⟩)), .d (.lit (.string ⟨#[]⟩)), .emp, .emp, .emp, .d (.lit (.bool false)), .emp], .box 3 [.d (.lit (.string ⟨#[]⟩)), .d (.lit (.int .i64 k)), .d (.lit (.string ⟨#[]⟩)), .d (.lit (.string ⟨#[114]⟩)), .arr 3 x.2.1 x.1, .emp, .emp, .d (.lit (.bool false)), .emp], .arr x.2.1 66 2 (((List.range x.1).map f).map prD)]) (fun x => m - x.1) ((0, 6, ts 0)) ?_ ?_ ?_ ?_
    repeat' (first | exact slots_nil | refine kw ?_ | exact memIn_nil | refine kv ?_ ?_ | omega)
    all_goals try (first | rfl | exact ⟨Nat.zero_le _, rfl⟩)
    rintro ⟨i, v, T'⟩ c ⟨hi, hT'⟩
    dsimp only at hi hT' ⊢
    by_cases hlt : i < m
    · obtain ⟨t6, n6, n7⟩ := hf i hlt
      have hs : ((List.range i).map f).map prD ++ [[.lit (.int .i64 (f i).1), .lit (.int .i64 (f i).2)]] = ((List.range (i + 1)).map f).map prD := by rw [List.range_succ]; simp [prD]
      have hal : (((List.range i).map f).map prD).length = i := by simp
      rw [← hT'] at n6
      clear hf hb2 hd hw n4
      generalize (f i).1 = p1 at hs n6
      generalize (f i).2 = p2 at hs n7
      generalize ((List.range i).map f).map prD = A at hs hal ⊢
      generalize hZ : ((List.range (i + 1)).map f).map prD = Z at hs
      generalize hq2 : ts (i + 1) = T2 at n7
      refine k_ver 3 fun hr => ?_
      refine k_tick ?_
      repeat' (first | refine h_fieldB (dr := true) ?_ | refine h_loadB1 (dr := true) ?_ | refine s_callL (dr := true) 0 n6 ?_ | refine s_callL (dr := true) 0 n7 ?_ | refine h_storeB (dr := true) ?_ | (refine h_appA (dr := true) (ei := ti66) (k := v) (es := A) (ys := [[.lit (.int .i64 p1), .lit (.int .i64 p2)]]) (es' := Z) 3 (c + 1) (j := i) (m := i + 1) ?_ (by omega) (by omega) (by omega) rfl (by simp only [maxLen]; omega) (by simp only [ti66]; omega) (sized_cons rfl sized_nil) (by rw [take_ge (by omega)]; exact hs)) | refine Go.Abs.ks ?_ | refine ko ?_ | refine s_indexD ?_ (hel := (by first | exact rfl)) | refine s_buildA ?_ | exact memIn_nil | refine memIn_same ?_ | refine m1 ?_ ?_ | exact am_same)
      (apply s_round ((i + 1, c + 1, T2)); all_goals (try dsimp only); all_goals (try (repeat' (first | exact slots_nil | refine kw ?_ | exact memIn_nil | refine kv ?_ ?_ | omega))))
      all_goals first
        | exact ⟨by omega, hq2.symm⟩
        | exact hZ.symm
        | skip
    · obtain rfl : i = m := by omega
      have hal : (((List.range i).map f).map prD).length = i := by simp
      rw [hT']
      clear hf hb2
      refine s_freezeB 2 4 3 (es1 := ((List.range i).map f).map prD) ?_ rfl rfl rfl (by omega) (take_ge (by omega)) rfl
      rcases hw with ⟨rfl, c5⟩ | ⟨hw0, rfl, rfl⟩ <;> rcases hd with ⟨rfl, rfl, z3, t6, rfl, c6, c7⟩ | ⟨rfl, rfl, t6, c6, c7⟩
      all_goals
        (repeat' (first | refine Go.Abs.ks ?_ | refine ko ?_ | refine s_indexD ?_ (hel := (by first | exact rfl)) | refine s_callH [0] (n4) ?_ | refine s_callH [0] (c5) ?_ | refine s_callH [0] (c6) ?_ | refine s_callH [0] (c7) ?_ | refine fh_cellG def_nil ?_ ?_ | (refine am_aggE ?_; (repeat' (first | exact trivial | refine And.intro (Or.inl rfl) ?_ | refine And.intro (Or.inr ⟨_, rfl, rfl⟩) ?_))) | exact memIn_nil | refine memIn_same ?_ | refine m1 ?_ ?_ | exact am_same))
      all_goals rfl
  · obtain ⟨e, ks, d, ag, t', ok', ⟨lk, lx⟩, la, fa, w, t4, t5, n4, hw, hd⟩ := any_tail 3 (by omega) (by omega) k hk2 t2 ok2
    refine ⟨⟨⟨#[]⟩, k, ⟨#[]⟩, ⟨#[]⟩, [], e, ks, d, ag⟩, t', ok', ⟨hk, lk, la, by dsimp only; omega, fa, by simp, (fun p hp => by cases hp), lx⟩, ?_⟩
    rcases hw with ⟨rfl, c5⟩ | ⟨hw0, rfl, rfl⟩ <;> rcases hd with ⟨rfl, rfl, z3, t6, rfl, c6, c7⟩ | ⟨rfl, rfl, t6, c6, c7⟩
    all_goals
      (refine hcallN hT Tryz.func10 Tryz.ntmps10 [.cell 6 30] fun B => ?_
       repeat' (first | refine Go.Abs.ks ?_ | refine ko ?_ | refine s_indexD ?_ (hel := (by first | exact idx_map hkl (by omega) | exact hkl | exact rfl)) | refine s_callH [0] (n1) ?_ | refine s_callH [0] (n2) ?_ | refine s_callH [0] (n4) ?_ | refine s_callH [0] (c5) ?_ | refine s_callH [0] (c6) ?_ | refine s_callH [0] (c7) ?_ | refine fh_cellG def_nil ?_ ?_ | (refine am_aggE ?_; (repeat' (first | exact trivial | refine And.intro (Or.inl rfl) ?_ | refine And.intro (Or.inr ⟨_, rfl, rfl⟩) ?_))) | exact memIn_nil | refine memIn_same ?_ | refine m1 ?_ ?_ | exact am_same))
    all_goals rfl
end Go.Proofs.YtmpgmjlanngkfaaGreat
end
