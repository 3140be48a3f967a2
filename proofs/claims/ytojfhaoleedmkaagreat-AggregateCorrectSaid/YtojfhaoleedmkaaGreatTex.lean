/-
  The tape: expressions.
-/
import Derived.Test.YtojfhaoleedmkaaGreatExb
import Derived.Test.YtojfhaoleedmkaaGreatOpa
import Derived.Test.YtojfhaoleedmkaaGreatByt
import Derived.Test.YtojfhaoleedmkaaGreatSpb
section
namespace Go.Proofs.YtojfhaoleedmkaaGreat
open Go.Abs Go.RowKit
attribute [local irreducible] ARun kont MCall PCall HCall resVal SF CF CFs defersOk slotsIn memIn fin finM VLe
set_option linter.unusedSimpArgs false
set_option maxRecDepth 100000
set_option maxHeartbeats 4000000
def endR (e : List Trm) (pos n : Nat) : Int := match parse [] n (e.drop pos) with
  | none => -1
  | some (_, r) => ((e.length - r.length : Nat) : Int)
theorem end_c (e : List Trm) (hl : e.length ≤ 100000) : ∀ (n pos : Nat), n ≤ 1000 → pos ≤ e.length → PCall Tryz.prog 149 [.one (exprD e), .one (.lit (.int .i64 pos)), .one (.lit (.int .i64 n))] (.v (.one (.lit (.int .i64 (endR e pos n))))) := by
  intro n
  induction n with
  | zero =>
    intro pos _ hp
    have hm : endR e pos 0 = -1 := rfl
    rw [hm]
    refine pcallN hT Tryz.func149 Tryz.ntmps149 [.tmp 6] fun B => ?_
    repeat' (first | refine ks ?_ | refine ko ?_ | refine s_indexD ?_ (hel := (by first | exact rfl)) | refine s_kT ?_ | refine s_kF ?_ | refine s_split rfl rfl (fun hb => ?_) (fun hb => ?_) | refine f_ret1 def_nil ?_ | refine t_tmp ?_)
    all_goals rfl
  | succ n ih =>
    intro pos hn hp
    by_cases hlt : pos < e.length
    · have hv : e[pos]? = some e[pos] := List.getElem?_eq_getElem hlt
      generalize e[pos] = t at hv
      have hd : e.drop pos = t :: e.drop (pos + 1) := drop_cons hv
      have h1 := refFields_c t
      have h2 := refArity_c t.op
      cases ht : termOK t with
      | false =>
        have hm : endR e pos (n + 1) = -1 := by rw [endR, hd, parse_bad ht]
        rw [hm]
        clear ih hd hm
        by_cases h0 : aryE t.op < 0
        · refine pcallN hT Tryz.func149 Tryz.ntmps149 [.tmp 6] fun B => ?_
          repeat' (first | refine ks ?_ | refine ko ?_ | refine s_indexD ?_ (hel := (by first | exact idx_map hv (by omega) | exact hv | exact rfl)) | refine s_call (h1) ?_ | refine s_call (h2) ?_ | refine s_kT ?_ | refine s_kF ?_ | refine s_split rfl rfl (fun hb => ?_) (fun hb => ?_) | refine f_ret1 def_nil ?_ | refine t_tmp ?_)
          all_goals rfl
        · have hf : fieldsE t = false := by
            rw [termOK, decide_eq_true (by omega), Bool.true_and] at ht
            exact ht
          rw [hf] at h1
          clear ht
          refine pcallN hT Tryz.func149 Tryz.ntmps149 [.tmp 6] fun B => ?_
          repeat' (first | refine ks ?_ | refine ko ?_ | refine s_indexD ?_ (hel := (by first | exact idx_map hv (by omega) | exact hv | exact rfl)) | refine s_call (h1) ?_ | refine s_call (h2) ?_ | refine s_kT ?_ | refine s_kF ?_ | refine s_split rfl rfl (fun hb => ?_) (fun hb => ?_) | refine f_ret1 def_nil ?_ | refine t_tmp ?_)
          all_goals rfl
      | true =>
        have h0 : 0 ≤ aryE t.op ∧ fieldsE t = true := by
          simpa only [termOK, Bool.and_eq_true, decide_eq_true_eq] using ht
        rw [h0.2] at h1
        have h3 := (aryE_bd t.op).2
        obtain ⟨k, hk⟩ := Int.eq_ofNat_of_zero_le h0.1
        have hmk : ∀ {xs r}, seqP (parse [] n) k (e.drop (pos + 1)) = some (xs, r) → endR e pos (n + 1) = ((e.length - r.length : Nat) : Int) := fun {xs r} hs => by
          rw [endR, hd, parse_mk ht (by rw [hk]; exact hs)]
        have hno : seqP (parse [] n) k (e.drop (pos + 1)) = none → endR e pos (n + 1) = -1 := fun hs => by
          rw [endR, hd, parse_no (by rw [hk]; exact hs)]
        rw [hk] at h2
        clear hd ht h0
        refine pcallN hT Tryz.func149 Tryz.ntmps149 [.tmp 6] fun B => ?_
        repeat' (first | refine ks ?_ | refine ko ?_ | refine s_indexD ?_ (hel := (by first | exact idx_map hv (by omega) | exact hv | exact rfl)) | refine s_call (h1) ?_ | refine s_call (h2) ?_ | refine s_kT ?_ | refine s_kF ?_ | refine s_split rfl rfl (fun hb => ?_) (fun hb => ?_) | refine f_ret1 def_nil ?_ | refine t_tmp ?_)
        refine s_lp (X := Nat × Nat) [1, 6, 8, 42, 43, 44, 45, 46, 47, 48, 49, 50, 51, 52, 53] (fun x => x.1 ≤ k ∧ pos + 1 ≤ x.2 ∧ x.2 ≤ e.length ∧ ∃ xs, seqP (parse [] n) x.1 (e.drop (pos + 1)) = some (xs, e.drop x.2)) (fun x lz => (1, (.c (.d (.lit (.int .i64 x.2))))) :: (8, (.c (.d (.lit (.int .i64 x.1))))) :: lz) (fun x => []) (fun x => k - x.1) ((0, pos + 1)) ?_ ?_ ?_ ?_
        repeat' (first | exact slots_nil | refine kw ?_ | exact memIn_nil | omega)
        · dsimp only; exact ⟨by omega, by omega, by omega, [], rfl⟩
        rintro ⟨i, en⟩ c ⟨hi, he1, he2, xs, hs⟩
        dsimp only at hi he1 he2 hs ⊢
        by_cases hik : i < k
        · have hc := ih en (by omega) he2
          rw [show (n : Int) = ((n + 1 : Nat) : Int) - 1 by omega] at hc
          cases hq : parse [] n (e.drop en) with
          | none =>
            have hm : endR e en n = -1 := by rw [endR, hq]
            rw [hm] at hc
            rw [hno (seqP_fail hs hq k hik)]
            clear ih hmk hno
            repeat' (first | refine ks ?_ | refine ko ?_ | refine s_indexD ?_ (hel := (by first | exact idx_map hv (by omega) | exact hv | exact rfl)) | refine s_call (hc) ?_ | refine s_kT ?_ | refine s_kF ?_ | refine s_split rfl rfl (fun hb => ?_) (fun hb => ?_) | refine f_ret1 def_nil ?_ | refine t_tmp ?_)
            all_goals rfl
          | some q =>
            obtain ⟨y, r⟩ := q
            obtain ⟨j, hj1, hj2, hj3⟩ := parse_len hq
            rw [List.length_drop] at hj2
            rw [List.drop_drop] at hj3
            have hm : endR e en n = ((en + j : Nat) : Int) := by
              rw [endR, hq]
              simp only [hj3, List.length_drop]
              congr 1
              omega
            rw [hm] at hc
            rw [hj3] at hq
            have hs' := seqP_step hs hq
            clear ih hmk hno hm hq hs
            generalize xs ++ [y] = xs' at hs'
            repeat' (first | refine ks ?_ | refine ko ?_ | refine s_indexD ?_ (hel := (by first | exact idx_map hv (by omega) | exact hv | exact rfl)) | refine s_call (hc) ?_ | refine s_kT ?_ | refine s_kF ?_ | refine s_split rfl rfl (fun hb => ?_) (fun hb => ?_) | refine f_ret1 def_nil ?_ | refine t_tmp ?_)
            (apply s_round ((i + 1, en + j)); all_goals (try dsimp only); all_goals (try (repeat' (first | exact slots_nil | refine kw ?_ | exact memIn_nil | omega))))
            · exact ⟨by omega, by omega, by omega, xs', hs'⟩
        · obtain rfl : i = k := by omega
          rw [hmk hs, List.length_drop]
          clear ih hmk hno
          repeat' (first | refine ks ?_ | refine ko ?_ | refine s_indexD ?_ (hel := (by first | exact idx_map hv (by omega) | exact hv | exact rfl)) | refine s_kT ?_ | refine s_kF ?_ | refine s_split rfl rfl (fun hb => ?_) (fun hb => ?_) | refine f_ret1 def_nil ?_ | refine t_tmp ?_)
          all_goals (refine congrArg Dat.lit (congrArg (Value.int _) ?_); omega)
    · have hm : endR e pos (n + 1) = -1 := by rw [endR, List.drop_eq_nil_of_le (by omega)]; rfl
      rw [hm]
      clear ih
      refine pcallN hT Tryz.func149 Tryz.ntmps149 [.tmp 6] fun B => ?_
      repeat' (first | refine ks ?_ | refine ko ?_ | refine s_indexD ?_ (hel := (by first | exact rfl)) | refine s_kT ?_ | refine s_kF ?_ | refine s_split rfl rfl (fun hb => ?_) (fun hb => ?_) | refine f_ret1 def_nil ?_ | refine t_tmp ?_)
      all_goals rfl
theorem refExprValid_c (e : List Trm) : PCall Tryz.prog 116 [.one (exprD e)] (.v (.one (.lit (.bool (exprOK e))))) := by
  by_cases hl : e.length < 1 ∨ 64 < e.length
  · have h0 : exprOK e = false := by
      rcases hl with hl | hl
      · obtain rfl := List.length_eq_zero_iff.1 (show e.length = 0 by omega)
        rfl
      · rw [exprOK, decide_eq_false (by omega), Bool.false_and]
    rw [h0]
    rcases hl with hl | hl
    · refine pcallN hT Tryz.func116 Tryz.ntmps116 [.tmp 2] fun B => ?_
      repeat' (first | refine ks ?_ | refine ko ?_ | refine s_kT ?_ | refine s_kF ?_ | refine f_ret1 def_nil ?_ | refine t_tmp ?_)
      all_goals rfl
    · refine pcallN hT Tryz.func116 Tryz.ntmps116 [.tmp 2] fun B => ?_
      repeat' (first | refine ks ?_ | refine ko ?_ | refine s_kT ?_ | refine s_kF ?_ | refine f_ret1 def_nil ?_ | refine t_tmp ?_)
      all_goals rfl
  have hc : PCall Tryz.prog 149 [.one (exprD e), .one (.lit (.int .i64 0)), .one (.lit (.int .i64 16))] (.v (.one (.lit (.int .i64 (endR e 0 16))))) := end_c e (by omega) 16 0 (by omega) (by omega)
  rw [endR, List.drop_zero] at hc
  cases hq : parse [] 16 e with
  | none =>
    have h0 : exprOK e = false := by rw [exprOK, hq, Bool.and_false]
    rw [hq] at hc
    rw [h0]
    dsimp only at hc
    refine pcallN hT Tryz.func116 Tryz.ntmps116 [.tmp 2] fun B => ?_
    repeat' (first | refine ks ?_ | refine ko ?_ | refine s_call (hc) ?_ | refine s_kT ?_ | refine s_kF ?_ | refine f_ret1 def_nil ?_ | refine t_tmp ?_)
    all_goals (refine congrArg Dat.lit (congrArg Value.bool ?_); rw [Bool.eq_iff_iff]; simp; try omega)
  | some q =>
    obtain ⟨y, r⟩ := q
    obtain ⟨j, hj1, hj2, hj3⟩ := parse_len hq
    rw [hq] at hc
    dsimp only at hc
    have hrl : r.length ≤ e.length := by rw [hj3, List.length_drop]; omega
    have h0 : exprOK e = decide (r.length = 0) := by
      rw [exprOK, hq, decide_eq_true (by omega), Bool.true_and]
      cases r with
      | nil => rfl
      | cons a l => rfl
    rw [h0]
    clear h0 hj3 hq
    generalize r.length = rl at *
    refine pcallN hT Tryz.func116 Tryz.ntmps116 [.tmp 2] fun B => ?_
    repeat' (first | refine ks ?_ | refine ko ?_ | refine s_call (hc) ?_ | refine s_kT ?_ | refine s_kF ?_ | refine f_ret1 def_nil ?_ | refine t_tmp ?_)
    all_goals (refine congrArg Dat.lit (congrArg Value.bool ?_); rw [Bool.eq_iff_iff]; simp; omega)
end Go.Proofs.YtojfhaoleedmkaaGreat
end
section
section
section
namespace Go.Abs
open Go.RowKit
section
variable {P : Program} {T : TypeId → Option TI} {F0 : Nat → Prop} {w0 : World}
variable {dr : Bool} {ops rest : List Oper} {K : St → Prop} {n : Nat} {sl : List (Nat × SVal)} {mem : List Blk} {ck : Nat} {df : List (FuncId × List Cell)} {acc : List Nat}
variable {d : Tmp} {ty : TypeId} {pos : String} {aft : Array Edge} {g : Option (Nat × Bool)}
theorem s_bsliceO [tc : TC P T] {t e : TypeId} {len : Nat} {parts : Array (Nat × Operand)} {i ei : TI} {es es' : List (List Dat)} {r : Nat} {mem' : List Blk} (h : Reg P F0 w0 dr ops K rest ⟨n, (d, .c (.arr r (ck + 1) len)) :: sl, mem', ck + 1, df⟩ (2 :: acc)) (hw : GW ops g sl := by first | exact trivial | exact rfl) (ht : T t = some i := by exact rfl) (hi : i.desc = .slice e := by exact rfl) (hei : T e = some ei := by exact rfl)
    (hc : (Nat.blt 0 len && Nat.blt 0 ei.size && Nat.beq ei.zero.length ei.size && Nat.ble (len * ei.size) 16777216 && Nat.beq parts.size len) = true := by exact rfl) (hp : partsS sl ei.size parts.toList 0 = some es := by exact rfl) (hn : es = es' := by repeat' (first | exact nfNil rfl | apply nfCons rfl)) (hr : mem.length = r := by exact rfl) (hm' : mem ++ [.arr (ck + 1) e ei.size es'] = mem' := by repeat' (first | exact nfNil rfl | apply nfCons rfl)) :
    Reg P F0 w0 dr ops K (⟨some d, .buildSlice t len parts, ty, pos, aft, g⟩ :: rest) ⟨n, sl, mem, ck, df⟩ acc := by
  subst hm'; subst hn; subst hr
  refine at2 (df' := []) hw (fun B σ E a w hF hw0 he hmm hck hr hB hd next Q hnx => ?_) h
  subst hF; subst hw0; subst hmm; subst hck
  obtain ⟨a1, a2, a3, a4, a5⟩ := i
  simp only at hi
  subst hi
  have hu : P.underlying t = some (.slice e) := (tc.ok t _ ht).desc
  simp only [Bool.and_eq_true, Nat.beq_eq, Nat.ble_eq, Nat.blt, Nat.succ_le_iff] at hc
  obtain ⟨⟨⟨⟨h1, h2⟩, h3⟩, h4⟩, h5⟩ := hc
  have h5' : parts.toList.length = len := by simpa using h5
  have hq := partsS_eq (τ := σ) parts.toList _ (fun p hp => he p.2 (by simp only [Op.operands]; simp; exact ⟨p.1, by simpa using hp⟩)) es hp
  have hsz := (tc.ok e ei hei).sizeOf (w := w)
  obtain ⟨fi, z, hi1, hi2, hi3, hi4, hi5⟩ := (tc.ok e ei hei).info
  obtain ⟨cells', q1, q2, q3, q4, q5, q6⟩ := parts_fill (fun x => hr.ev x) ei.size parts.toList 0 es ((Array.range (len * ei.size)).map (z.cells[· % z.cells.size]!)) hq (by simp [h5'])
  have hcs : cells'.size = len * ei.size := by rw [q2]; simp
  have hrep : ∀ (i j : Nat) el v x, es[i]? = some el → el[j]? = some x → cells'[i * ei.size + j]? = some v → DRep E.F w v x := fun i j el v x b1 b2 b3 => q6 i j el v x b1 b2 (by simpa using b3)
  have hone : ∀ v ∈ cells', v.oneCell' = true := fun v hv => by
    obtain ⟨q, hq1, hq2⟩ := Array.getElem_of_mem hv
    have hqd := Nat.div_add_mod q ei.size
    have hlt : q % ei.size < ei.size := Nat.mod_lt _ h2
    have hdl : q / ei.size < len := by
      rw [Nat.div_lt_iff_lt_mul h2, ← hcs]; exact hq1
    have e1 : es[q / ei.size]? = some (es[q / ei.size]'(by omega)) := List.getElem?_eq_getElem _
    have l1 := q4 _ (List.mem_of_getElem? e1)
    have e2 : (es[q / ei.size]'(by omega))[q % ei.size]? = some ((es[q / ei.size]'(by omega))[q % ei.size]'(by omega)) := List.getElem?_eq_getElem _
    exact CRep.one (CRep.d (E := E) (hrep _ _ _ v _ e1 e2 (by rw [Nat.mul_comm, hqd, ← hq2]; simp [hq1])))
  have hnz : len * ei.size ≠ 0 := by
    have : 0 < len * ei.size := Nat.mul_pos h1 h2
    omega
  have hlm : len ≤ maxLen := by
    have : len ≤ len * ei.size := Nat.le_mul_of_pos_right _ h2
    simp only [maxLen]; omega
  have hnew := hr.1.newArr (w' := w.alloc (.cells cells' e)) e ei.size len es h2 q4 (by omega) hlm ((Bel.refl _ w).alloc hr.1.le0 _) (fun k hk => Bel.heap_alloc w _ k hk) (.inr ⟨cells', Go.heap_alloc_new w _, hcs, hone, hrep⟩)
  have hmap : (parts.map fun (i, x) => (i, a.eval x)).toList = parts.toList.map fun p => (p.1, a.eval p.2) := by simp
  have hrun : (Instr.buildSlice t len (parts.map fun (i, x) => (i, a.eval x))).run P w = .ok (.slice (some ⟨w.heap.size, 0, none⟩) len len) (w.alloc (.cells cells' e)) := by
    simp only [Instr.buildSlice, Sem.run_bind, run_underlying hu, Result.andThen_ok, hsz, hmap]
    rw [if_neg (show ¬ len * ei.size > 2 ^ 24 by omega)]
    simp only [Sem.run_pure, Result.andThen_ok, if_neg hnz, Sem.run_bind, zeroValue, typeInfo, run_program, hi1, hi4]
    rw [q1]
    simp only [Sem.run_bind, newRow, run_newObj, Result.andThen_ok, Sem.run_pure, World.alloc_eq]
  unfold Oper.wp
  rw [show (execOp a.eval ⟨some d, .buildSlice t len parts, ty, pos, aft, g⟩).run P w = .ok (.value (.slice (some ⟨w.heap.size, 0, none⟩) len len)) (w.alloc (.cells cells' e)) by simp at hrun; simp [execOp, hrun]]
  refine hnx _ _ _ [] _ _ ⟨rfl, rfl, rfl, rfl⟩ ⟨_, ?_, hB.trans hnew.2⟩
  rw [upd_putO]
  exact hr.putOE hnew.2 hnew.1 hd (.c (.arr _ _ _ _ rfl (by simp [Env.upd]) (fun _ => .inr (by simp [Env.upd]; exact h1))))
end
end Go.Abs
end
end
section
namespace Go.Proofs.YtojfhaoleedmkaaGreat
open Go.Abs Go.RowKit
attribute [local irreducible] ARun kont MCall PCall HCall resVal SF CF CFs defersOk slotsIn memIn fin finM VLe
set_option linter.unusedSimpArgs false
set_option maxRecDepth 100000
set_option maxHeartbeats 4000000
theorem nextE_h (t : Tape) (n : Nat) (ht : t.ok) (h1 : 1 ≤ n) (h2 : n ≤ 1000000) : ∃ (v : Nat) (t' : Tape), t'.ok ∧ v < n ∧ HCall Tryz.prog 42 [.c (.bp 0 0 0), .c (.d (.lit (.int .i64 n)))] [(.box 0 [.d (numD (t).l), .d (.lit (.int .i64 (t).at_))])] (.c (.d (.lit (.int .i64 v)))) [(.box 0 [.d (numD (t').l), .d (.lit (.int .i64 (t').at_))])] := by
  have h := next_h t n ht (by omega) (by omega)
  obtain ⟨b1, b2⟩ := t.nx_bd n
  have e : t.nx n = ((t.nx n).toNat : Int) := by omega
  rw [e] at h
  exact ⟨_, _, ht.go n, by omega, h⟩
def ColB (n : Nat) (x : Trm) : Prop := x.op = 2 → 0 ≤ x.col ∧ x.col < n
theorem leaf_h (t : Tape) (n : Nat) (ht : t.ok) (h1 : 1 ≤ n) (hn : n ≤ 1000) : ∃ (x : Trm) (t' : Tape), t'.ok ∧ ColB n x ∧ HCall Tryz.prog 89 [.c (.bp 0 0 0), (.c (.d (.lit (.int .i64 (n : Int)))))] [(.box 0 [.d (numD (t).l), .d (.lit (.int .i64 (t).at_))])] (.c (.d (exprD [x]))) [(.box 0 [.d (numD (t').l), .d (.lit (.int .i64 (t').at_))])] := by
  obtain ⟨v1, t1, ok1, l1, n1⟩ := nextE_h t 3 ht (by omega) (by omega)
  by_cases h0 : v1 = 0
  · subst h0
    obtain ⟨v2, t2, ok2, l2, n2⟩ := nextE_h t1 2 ok1 (by omega) (by omega)
    by_cases h3 : v2 = 0
    · subst h3
      have hc := text_h t2 ok2
      refine ⟨⟨1, t2.text, 0⟩, t2.go 10, ok2.go 10, fun h => absurd (show (1 : Int) = 2 from h) (by decide), ?_⟩
      generalize t2.go 10 = t3 at hc
      generalize t2.text = v at hc
      refine hcallN hT Tryz.func89 Tryz.ntmps89 [.tmp 4] fun B => ?_
      repeat' (first | refine ks ?_ | refine ko ?_ | refine s_callH [0] (n1) ?_ | refine s_callH [0] (n2) ?_ | refine s_callH [0] (hc) ?_ | refine fh_ret1 def_nil ?_ ?_ | exact memIn_nil | refine memIn_same ?_ | exact am_same)
    · have hc := int_h t2 ok2
      refine ⟨⟨1, t2.int, 0⟩, t2.go 12, ok2.go 12, fun h => absurd (show (1 : Int) = 2 from h) (by decide), ?_⟩
      generalize t2.go 12 = t3 at hc
      generalize t2.int = v at hc
      refine hcallN hT Tryz.func89 Tryz.ntmps89 [.tmp 4] fun B => ?_
      repeat' (first | refine ks ?_ | refine ko ?_ | refine s_callH [0] (n1) ?_ | refine s_callH [0] (n2) ?_ | refine s_callH [0] (hc) ?_ | refine fh_ret1 def_nil ?_ ?_ | exact memIn_nil | refine memIn_same ?_ | exact am_same)
  · obtain ⟨v2, t2, ok2, l2, n2⟩ := nextE_h t1 n ok1 h1 (by omega)
    refine ⟨⟨2, Val.null, v2⟩, t2, ok2, fun _ => ⟨Int.natCast_nonneg _, by show (v2 : Int) < n; omega⟩, ?_⟩
    refine hcallN hT Tryz.func89 Tryz.ntmps89 [.tmp 4] fun B => ?_
    repeat' (first | refine ks ?_ | refine ko ?_ | refine s_callH [0] (n1) ?_ | refine s_callH [0] (n2) ?_ | refine fh_ret1 def_nil ?_ ?_ | exact memIn_nil | refine memIn_same ?_ | exact am_same)
theorem exprC_h (n : Nat) (h1 : 1 ≤ n) (hn : n ≤ 1000) : ∀ (dp : Nat) (t : Tape), t.ok → dp ≤ 8 → ∃ (e : List Trm) (t' : Tape), t'.ok ∧ e.length ≤ 4 ^ dp ∧ (∀ x ∈ e, ColB n x) ∧ HCall Tryz.prog 44 [.c (.bp 0 0 0), (.c (.d (.lit (.int .i64 (dp : Int))))), (.c (.d (.lit (.int .i64 (n : Int)))))] [(.box 0 [.d (numD (t).l), .d (.lit (.int .i64 (t).at_))])] (.c (.d (exprD e))) [(.box 0 [.d (numD (t').l), .d (.lit (.int .i64 (t').at_))])] := by
  intro dp
  induction dp with
  | zero =>
    intro t ht _
    obtain ⟨x, t', ok', hx, hc⟩ := leaf_h t n ht h1 hn
    refine ⟨[x], t', ok', by simp, by simpa using hx, ?_⟩
    refine hcallN hT Tryz.func44 Tryz.ntmps44 [.tmp 6] fun B => ?_
    repeat' (first | refine ks ?_ | refine ko ?_ | refine s_callH [0] (hc) ?_ | refine s_kF ?_ | refine fh_ret1 def_nil ?_ ?_ | exact memIn_nil | refine memIn_same ?_ | refine m1 ?_ ?_ | exact am_same)
  | succ dp ih =>
    intro t ht hdp
    have hpow : 1 ≤ 4 ^ dp := Nat.pos_of_ne_zero (by simp)
    have hpow2 : 4 ^ dp ≤ 4 ^ 7 := Nat.pow_le_pow_right (by omega) (by omega)
    have hpow3 : 4 ^ (dp + 1) = 4 * 4 ^ dp := by rw [Nat.pow_succ, Nat.mul_comm]
    by_cases hd0 : dp = 0
    · subst hd0
      obtain ⟨x, t', ok', hx, hc⟩ := leaf_h t n ht h1 hn
      refine ⟨[x], t', ok', by simp, by simpa using hx, ?_⟩
      clear ih
      refine hcallN hT Tryz.func44 Tryz.ntmps44 [.tmp 6] fun B => ?_
      repeat' (first | refine ks ?_ | refine ko ?_ | refine s_callH [0] (hc) ?_ | refine s_kF ?_ | refine fh_ret1 def_nil ?_ ?_ | exact memIn_nil | refine memIn_same ?_ | refine m1 ?_ ?_ | exact am_same)
    obtain ⟨v1, t1, ok1, l1, n1⟩ := nextE_h t 4 ht (by omega) (by omega)
    by_cases h0 : v1 = 0
    · subst h0
      obtain ⟨x, t', ok', hx, hc⟩ := leaf_h t1 n ok1 h1 hn
      refine ⟨[x], t', ok', by simp; omega, by simpa using hx, ?_⟩
      clear ih
      refine hcallN hT Tryz.func44 Tryz.ntmps44 [.tmp 6] fun B => ?_
      repeat' (first | refine ks ?_ | refine ko ?_ | refine s_callH [0] (n1) ?_ | refine s_callH [0] (hc) ?_ | refine s_kF ?_ | refine fh_ret1 def_nil ?_ ?_ | exact memIn_nil | refine memIn_same ?_ | refine m1 ?_ ?_ | exact am_same)
    obtain ⟨v2, t2, ok2, l2, n2⟩ := nextE_h t1 16 ok1 (by omega) (by omega)
    have ha := refArity_c ((3 : Int) + v2)
    obtain ⟨k, hk⟩ := Int.eq_ofNat_of_zero_le (show 0 ≤ aryE ((3 : Int) + v2) by
      unfold aryE
      split
      · omega
      split
      · omega
      split
      · omega
      split <;> omega)
    have hk3 : k ≤ 3 := by have := (aryE_bd ((3 : Int) + v2)).2; omega
    rw [hk] at ha
    have hops : ∀ m : Nat, m ≤ 3 → ∃ (f : Nat → List Trm) (ts : Nat → Tape), ts 0 = t2 ∧ ∀ i, i < m → (ts i).ok ∧ (ts (i + 1)).ok ∧ ((f i).length ≤ 4 ^ dp ∧ ∀ x ∈ f i, ColB n x) ∧ HCall Tryz.prog 44 [.c (.bp 0 0 0), (.c (.d (.lit (.int .i64 (dp : Int))))), (.c (.d (.lit (.int .i64 (n : Int)))))] [(.box 0 [.d (numD ((ts i)).l), .d (.lit (.int .i64 ((ts i)).at_))])] (.c (.d (exprD (f i)))) [(.box 0 [.d (numD ((ts (i + 1))).l), .d (.lit (.int .i64 ((ts (i + 1))).at_))])] := by
      intro m
      induction m with
      | zero => intro _; exact ⟨fun _ => [], fun _ => t2, rfl, fun i hi => by omega⟩
      | succ m ihm =>
        intro hm
        obtain ⟨f, ts, e0, hf⟩ := ihm (by omega)
        have okm : (ts m).ok := by
          cases m with
          | zero => rw [e0]; exact ok2
          | succ m => exact (hf m (by omega)).2.1
        obtain ⟨e, t', ok', hle, hcb, hc⟩ := ih (ts m) okm (by omega)
        refine ⟨fun i => if i = m then e else f i, fun i => if i = m + 1 then t' else ts i, by simp [e0], fun i hi => ?_⟩
        by_cases him : i = m
        · subst him
          simp only [if_true, show ¬ i = i + 1 by omega, if_false]
          exact ⟨okm, ok', ⟨hle, hcb⟩, hc⟩
        · have := hf i (by omega)
          simp only [if_neg him, show ¬ i = m + 1 by omega, show ¬ i + 1 = m + 1 by omega, if_false]
          exact this
    obtain ⟨f, ts, e0, hf⟩ := hops 3 (by omega)
    clear hops ih
    have hcat : ∀ i, ∃ L : List Trm, L = ⟨(3 : Int) + v2, Val.null, 0⟩ :: ((List.range i).map f).flatten := fun i => ⟨_, rfl⟩
    obtain ⟨cat, hcat⟩ : ∃ cat : Nat → List Trm, ∀ i, cat i = ⟨(3 : Int) + v2, Val.null, 0⟩ :: ((List.range i).map f).flatten := ⟨fun i => _, fun i => rfl⟩
    have hc0 : cat 0 = [⟨(3 : Int) + v2, Val.null, 0⟩] := by rw [hcat]; rfl
    have hcs : ∀ i, cat (i + 1) = cat i ++ f i := fun i => by rw [hcat, hcat, List.range_succ]; simp
    have hcl : ∀ i, i ≤ 3 → (cat i).length ≤ 1 + i * 4 ^ dp := by
      intro i
      induction i with
      | zero => intro _; rw [hc0]; simp
      | succ i ihi =>
        intro hi
        have h1 := ihi (by omega)
        have h2 := (hf i (by omega)).2.2.1.1
        rw [hcs, List.length_append, Nat.add_mul, Nat.one_mul]; omega
    have hck : (cat k).length ≤ 4 ^ (dp + 1) := by
      have h1 := hcl k hk3
      have h2 : k * 4 ^ dp ≤ 3 * 4 ^ dp := Nat.mul_le_mul_right _ hk3
      omega
    have okk : (ts k).ok := by
      cases k with
      | zero => rw [e0]; exact ok2
      | succ k => exact (hf k (by omega)).2.1
    have hcb : ∀ i, i ≤ 3 → ∀ x ∈ cat i, ColB n x := by
      intro i
      induction i with
      | zero =>
        intro _ x hx
        rw [hc0] at hx
        obtain rfl := List.mem_singleton.1 hx
        intro h
        have h : (3 : Int) + v2 = 2 := h
        omega
      | succ i ihi =>
        intro hi x hx
        rw [hcs] at hx
        rcases List.mem_append.1 hx with hx | hx
        · exact ihi (by omega) x hx
        · exact (hf i (by omega)).2.2.1.2 x hx
    refine ⟨cat k, ts k, okk, hck, hcb k hk3, ?_⟩
    clear hcb
    have hfr : List.take (cat k).length ((cat k).map Trm.d) = (cat k).map Trm.d := take_ge (by simp)
    clear hcat
    rw [← e0] at n2
    refine hcallN hT Tryz.func44 Tryz.ntmps44 [.tmp 6] fun B => ?_
    repeat' (first | refine s_bsliceO (r := 1) ?_ | refine ks ?_ | refine ko ?_ | refine s_call (ha) ?_ | refine s_callH [0] (n1) ?_ | refine s_callH [0] (n2) ?_ | refine s_kF ?_ | refine fh_ret1 def_nil ?_ ?_ | exact memIn_nil | refine memIn_same ?_ | refine m1 ?_ ?_ | exact am_same)
    refine s_lp (X := Nat × Nat × Nat × List Trm × Tape) [8, 9, 28, 29, 30, 31, 32, 33, 34, 35, 36, 37, 38] (fun x => x.1 ≤ k ∧ x.2.2.1 = x.2.2.2.1.length ∧ x.2.2.2.1 = cat x.1 ∧ x.2.2.2.2 = ts x.1) (fun x lz => (8, .c (.arr 1 x.2.1 x.2.2.1)) :: (9, (.c (.d (.lit (.int .i64 ((k - x.1 : Nat) : Int)))))) :: lz) (fun x => [(.box 0 [.d (numD (x.2.2.2.2).l), .d (.lit (.int .i64 (x.2.2.2.2).at_))]), .arr x.2.1 114 5 (x.2.2.2.1.map Trm.d)]) (fun x => k - x.1) ((0, 3, 1, [⟨(3 : Int) + v2, Val.null, 0⟩], ts 0)) ?_ ?_ ?_ ?_
    repeat' (first | exact slots_nil | refine kw ?_ | exact memIn_nil | refine Go.Abs.kv ?_ ?_ | omega)
    · exact ⟨by simp, rfl, hc0.symm, rfl⟩
    rintro ⟨i, kv, len, L, T'⟩ c ⟨hi, hlen, hL, hT'⟩
    dsimp only at hi hlen hL hT' ⊢
    have hLl : L.length ≤ 100000 := by
      have h1 := hcl i (by omega)
      have h2 : i * 4 ^ dp ≤ 3 * 4 ^ dp := Nat.mul_le_mul_right _ (by omega)
      rw [hL]
      have h3 : (4 : Nat) ^ 7 = 16384 := by decide
      omega
    by_cases hlt : i < k
    · obtain ⟨_, _, ⟨hfl, _⟩, hcall⟩ := hf i (by omega)
      rw [← hT'] at hcall
      rw [show (dp : Int) = ((dp + 1 : Nat) : Int) - 1 by omega] at hcall
      have hfl2 : (f i).length ≤ 100000 := by
        have h3 : (4 : Nat) ^ 7 = 16384 := by decide
        omega
      have hnext := hcs i
      rw [← hL] at hnext
      have hts : ts (i + 1) = ts (i + 1) := rfl
      clear hf hcl hcs hL hck hc0 hT'
      generalize f i = fi at *
      generalize hq : ts (i + 1) = T2 at hcall
      repeat' (first | refine ks ?_ | refine ko ?_ | refine s_callH [0] (hcall) ?_ | refine s_kF ?_ | refine fh_ret1 def_nil ?_ ?_ | exact memIn_nil | refine memIn_same ?_ | refine m1 ?_ ?_ | exact am_same)
      (apply s_round ((i + 1, _, len + fi.length, L ++ fi, T2)); all_goals (try dsimp only); all_goals (try (repeat' (first | exact slots_nil | refine w1 ?_ | exact memIn_nil | refine memIn_same ?_ | refine m1 ?_ ?_ | omega))))
      all_goals first | (exact ⟨by omega, by simp; omega, hnext.symm, hq.symm⟩) | exact List.map_append.symm | skip
    · obtain rfl : i = k := by omega
      rw [← hL, ← hT']
      rw [← hL] at hfr
      rw [hlen]
      clear hf hcl hcs
      repeat' (first | refine s_freeze 8 ?_ (hes := hfr) | refine ks ?_ | refine ko ?_ | refine s_kF ?_ | refine fh_ret1 def_nil ?_ ?_ | exact memIn_nil | refine memIn_same ?_ | refine m1 ?_ ?_ | exact am_same)
      all_goals skip
theorem expr_h (n : Nat) (h1 : 1 ≤ n) (hn : n ≤ 1000) (dp : Nat) (t : Tape) (ht : t.ok) (hd : dp ≤ 8) : ∃ (e : List Trm) (t' : Tape), t'.ok ∧ e.length ≤ 4 ^ dp ∧ HCall Tryz.prog 44 [.c (.bp 0 0 0), (.c (.d (.lit (.int .i64 (dp : Int))))), (.c (.d (.lit (.int .i64 (n : Int)))))] [(.box 0 [.d (numD (t).l), .d (.lit (.int .i64 (t).at_))])] (.c (.d (exprD e))) [(.box 0 [.d (numD (t').l), .d (.lit (.int .i64 (t').at_))])] := by
  obtain ⟨e, t', h2, h3, _, h4⟩ := exprC_h n h1 hn dp t ht hd
  exact ⟨e, t', h2, h3, h4⟩
end Go.Proofs.YtojfhaoleedmkaaGreat
end
end
