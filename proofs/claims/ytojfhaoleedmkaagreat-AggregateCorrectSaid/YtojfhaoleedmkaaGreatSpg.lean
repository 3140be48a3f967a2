/-
  The tape: SpoilGroups.
-/
import Derived.Test.YtojfhaoleedmkaaGreatAry
import Derived.Test.YtojfhaoleedmkaaGreatTkg
import Derived.Test.YtojfhaoleedmkaaGreatRgw
import Derived.Test.YtojfhaoleedmkaaGreatSpb
namespace Go.Proofs.YtojfhaoleedmkaaGreat
open Go.Abs Go.RowKit
attribute [local irreducible] ARun kont MCall PCall HCall resVal SF CF CFs defersOk slotsIn memIn fin finM VLe
set_option linter.unusedSimpArgs false
set_option maxRecDepth 100000
set_option maxHeartbeats 4000000
theorem k_spoil {P : Program} {B : Base} {n : Nat} {sl : List (Nat × SVal)} {mem m1 m2 : List Blk} {ck k esz i : Nat} {df : List (FuncId × List Cell)} {Q : Ex → St → Prop} {ety : TypeId} {es : List (List Dat)} {c : Code} (h : ARun P B c ⟨n, sl, m2, ck + 1 + 1, df⟩ Q) (_ht : Go.Abs.look sl 7 = SVal.c (.ap 1 k esz i 0) := by exact rfl) (_h8 : Go.Abs.look sl 8 = Go.Abs.look [] 8 := by exact rfl) (hm : mem[1]? = some (.arr k ety esz es) := by exact rfl) (hs : Nat.blt 0 esz = true := by exact rfl) (hm1 : mem.set 1 (.arrx k ety esz (es.map (·.map .d))) = m1 := by exact rfl) (hm2 : m1 ++ [.hole (ck + 1)] ++ [.hole (ck + 1 + 1)] = m2 := by repeat' (first | exact nfNil rfl | apply nfCons rfl)) : ARun P B c ⟨n, sl, mem, ck, df⟩ Q := by
  subst hm2
  exact k_arx 1 (k_hole m1.length (mem' := m1 ++ [.hole (ck + 1)]) (k_hole (m1.length + 1) (mem' := m1 ++ [.hole (ck + 1)] ++ [.hole (ck + 1 + 1)]) h (by simp) rfl) rfl rfl) (by rw [Nat.blt_eq] at hs; exact hs) hm hm1
section
variable {P : Program} {T : TypeId → Option TI} {F0 : Nat → Prop} {w0 : World}
variable {dr : Bool} {ops rest : List Oper} {K : St → Prop} {n : Nat} {sl : List (Nat × SVal)} {mem : List Blk} {ck : Nat} {df : List (FuncId × List Cell)} {acc : List Nat}
variable {d : Tmp} {op : Op} {ty : TypeId} {pos : String} {aft : Array Edge} {g : Option (Nat × Bool)}
theorem h_lenA [tc : TC P T] {t e ety : TypeId} {x : Operand} {i : TI} {r k m esz : Nat} {es : List (List Dat)} (h : Reg P F0 w0 dr ops K rest ⟨n, (d, .c (.d (.lit (.int .i64 m)))) :: sl, mem, ck, df⟩ (kindL r true :: acc)) (hw : GW ops g sl := by first | exact trivial | exact rfl) (hx : evS sl x = .c (.arr r k m) := by exact rfl) (ht : T t = some i := by exact rfl) (hi : i.desc = .slice e := by exact rfl) (hm : mem[r]? = some (.arr k ety esz es) := by exact rfl) :
    Reg P F0 w0 dr ops K (⟨some d, .call ⟨.builtin .len, #[x], #[t]⟩, ty, pos, aft, g⟩ :: rest) ⟨n, sl, mem, ck, df⟩ acc :=
  at4r hw hm (fun mem ck hm => Does.of tc.ok fun τ he hmm hck Kk hK => by
    subst hmm; subst hck
    have ex := he x (by simp [Op.operands, Call.operands])
    rw [hx] at ex
    obtain ⟨a1, a2, a3, a4, a5⟩ := i
    simp only at hi
    subst hi
    simp only [astep, aCall, aLen, ht, ex, liveAt, hm]
    exact ⟨trivial, hK _ _ _ _ ⟨rfl, rfl, rfl, rfl⟩⟩) h
end
theorem spoil_hes {mem : List Blk} {g : List Sta} {i : Nat} {s' : Sta} {L : List (List Cell)} {X : List Cell} (hi : i < g.length) (h1 : L[i]? = some X) (h2 : ∀ j, j ≠ i → L[j]? = ((g.map Sta.d).map (·.map Cell.d))[j]?) (hX : ∀ (j : Nat) x, X[j]? = some x → ∃ y, s'.d[j]? = some y ∧ CFb mem 2 x y) :
    ∀ (a j : Nat) (e : List Cell) (x : Cell), L[a]? = some e → e[j]? = some x → ∃ e' y, ((g.set i s').map Sta.d)[a]? = some e' ∧ e'[j]? = some y ∧ CFb mem 2 x y := by
  intro a j e x ha hj
  by_cases hai : a = i
  · subst hai
    rw [h1] at ha
    simp only [Option.some.injEq] at ha
    subst ha
    obtain ⟨y, q1, q2⟩ := hX j x hj
    exact ⟨s'.d, y, by rw [List.getElem?_map, List.getElem?_set_self hi]; rfl, q1, q2⟩
  · rw [h2 a hai, List.getElem?_map, List.getElem?_map] at ha
    cases hg : g[a]? with
    | none => rw [hg] at ha; cases ha
    | some u =>
      rw [hg] at ha
      simp only [Option.map_some, Option.some.injEq] at ha
      subst ha
      rw [List.getElem?_map] at hj
      cases hu : u.d[j]? with
      | none => rw [hu] at hj; cases hj
      | some y =>
        rw [hu] at hj
        simp only [Option.map_some, Option.some.injEq] at hj
        subst hj
        exact ⟨u.d, y, by rw [List.getElem?_map, List.getElem?_set_ne (Ne.symm hai), hg]; rfl, hu, rfl⟩
theorem spoil_X {mem : List Blk} {key : List Val} {c0 : Cell} {m : Int} {sm so : List Int} {r2 k2 r3 k3 n2 n3 : Nat} {t2 t3 : TypeId} {z2 z3 : Nat} {es2 es3 : List (List Dat)} (h0 : CFb mem 2 c0 (rowD key)) (b2 : 2 ≤ r2) (b3 : 2 ≤ r3) (m2 : mem[r2]? = some (.arr k2 t2 z2 es2)) (m3 : mem[r3]? = some (.arr k3 t3 z3 es3)) (q2 : es2 = sm.map fun n => [Dat.lit (.int .i64 n)]) (q3 : es3 = so.map fun n => [Dat.lit (.int .i64 n)]) (e2 : n2 = sm.length) (e3 : n3 = so.length) :
    ∀ (j : Nat) x, ([c0, .d (.lit (.int .i64 m)), .arr r2 k2 n2, .arr r3 k3 n3] : List Cell)[j]? = some x → ∃ y, (Sta.mk key m sm so).d[j]? = some y ∧ CFb mem 2 x y := by
  subst e2; subst e3; subst q2; subst q3
  intro j x hj
  match j with
  | 0 => simp only [List.getElem?_cons_zero, Option.some.injEq] at hj; subst hj; exact ⟨_, rfl, h0⟩
  | 1 => simp only [List.getElem?_cons_zero, List.getElem?_cons_succ, Option.some.injEq] at hj; subst hj; exact ⟨_, rfl, rfl⟩
  | 2 => simp only [List.getElem?_cons_zero, List.getElem?_cons_succ, Option.some.injEq] at hj; subst hj; exact ⟨_, rfl, b2, _, _, _, m2, by simp, by rw [take_ge (by simp)]; rfl⟩
  | 3 => simp only [List.getElem?_cons_zero, List.getElem?_cons_succ, Option.some.injEq] at hj; subst hj; exact ⟨_, rfl, b3, _, _, _, m3, by simp, by rw [take_ge (by simp)]; rfl⟩
  | j + 4 => simp at hj
theorem is_r21 {P : Program} {B : Base} {os : Array Oper} {d : Bool} {σ : St} {Q : Ex → St → Prop} (h : ARun P B (.region 21 os d) σ Q) : ARun P B (.region 21 os d) σ Q := h
theorem spoilG_h (t : Tape) (g : List Sta) (ht : t.ok) (hg : g.length ≤ 1000) (hs : ∀ s ∈ g, s.sums.length ≤ 1000 ∧ s.some.length ≤ 1000) : ∃ (g' : List Sta) (t' : Tape), t'.ok ∧ HCall Tryz.prog 25 [.c (.bp 0 0 0), .c (.d (stsD g))] [(.box 0 [.d (numD (t).l), .d (.lit (.int .i64 (t).at_))])] (.c (.d (stsD g'))) [(.box 0 [.d (numD (t').l), .d (.lit (.int .i64 (t').at_))])] := by
  by_cases h0 : g.length = 0
  · refine ⟨[⟨[], 0, [], []⟩], t, ht, ?_⟩
    refine hcallN hT Tryz.func25 Tryz.ntmps25 [.tmp 4] fun B => ?_
    repeat' (first | refine ks ?_ | refine ko ?_ | refine s_indexD ?_ (hel := (by first | exact rfl)) | refine fh_ret1 def_nil ?_ ?_ | exact memIn_nil | refine memIn_same ?_ | exact am_same)
    all_goals rfl
  obtain ⟨i, t1, ok1, hil, hn1⟩ := nextE_h t g.length ht (by omega) (by omega)
  obtain ⟨z, t2, ok2, hz, hn2⟩ := nextE_h t1 9 ok1 (by omega) (by omega)
  obtain ⟨q, t3, ok3, hq, hn3⟩ := nextE_h t2 6 ok2 (by omega) (by omega)
  have hx : g[i]? = some g[i] := List.getElem?_eq_getElem hil
  obtain ⟨s1, s2⟩ := hs _ (List.getElem_mem hil)
  generalize g[i] = s at hx s1 s2
  have hgd : (g.map Sta.d).length = g.length := by simp
  have c0 : ((g.map Sta.d).map (·.map Cell.d))[i]? = some [.d (rowD s.key), .d (.lit (.int .i64 s.count)), .d (intsD s.sums), .d (intsD s.some)] := by rw [List.getElem?_map, List.getElem?_map, hx]; rfl
  have hcl : ((g.map Sta.d).map (·.map Cell.d)).length = g.length := by simp
  obtain ⟨n, hn⟩ : ∃ n : Int, ([[Dat.lit (.int .i64 0)], [.lit (.int .i64 (-1))], [.lit (.int .i64 1)], [.lit (.int .i64 5)], [.lit (.int .i64 4611686018427387904)], [.lit (.int .i64 4611686018427387905)], [.lit (.int .i64 (-4611686018427387904))], [.lit (.int .i64 1073741824)], [.lit (.int .i64 1073741825)]] : List (List Dat))[z]? = some [.lit (.int .i64 n)] := by
    match z, hz with
    | 0, _ => exact ⟨_, rfl⟩
    | 1, _ => exact ⟨_, rfl⟩
    | 2, _ => exact ⟨_, rfl⟩
    | 3, _ => exact ⟨_, rfl⟩
    | 4, _ => exact ⟨_, rfl⟩
    | 5, _ => exact ⟨_, rfl⟩
    | 6, _ => exact ⟨_, rfl⟩
    | 7, _ => exact ⟨_, rfl⟩
    | 8, _ => exact ⟨_, rfl⟩
    | z + 9, h => omega
  have hL : (s.sums.map fun n => [Dat.lit (.int .i64 n)]).length = s.sums.length := List.length_map ..
  have hM : (s.some.map fun n => [Dat.lit (.int .i64 n)]).length = s.some.length := List.length_map ..
  by_cases q0 : q = 0
  · refine ⟨g.set i ⟨s.key, n, s.sums, s.some⟩, t3, ok3, ?_⟩
    refine hcallN hT Tryz.func25 Tryz.ntmps25 [.tmp 4] fun B => ?_
    repeat' (first | refine k_spoil ?_ | ((with_reducible (refine is_retC ?_)); refine s_thawX 2 1 ((g.set i ⟨s.key, n, s.sums, s.some⟩).map Sta.d) ?_ rfl (by decide) (by simp) (fun e he => by obtain ⟨u, _, rfl⟩ := List.mem_map.1 he; rfl) (spoil_hes hil (X := [.d (rowD s.key), .d (.lit (.int .i64 n)), .arr 2 (0 + 1 + 1 + 1) s.sums.length, .arr 3 (0 + 1 + 1 + 1 + 1) s.some.length]) (by simp [hil]) (fun j hj => by simp only [List.getElem?_set_ne (Ne.symm hj)]) (spoil_X rfl (by decide) (by decide) rfl rfl rfl rfl rfl rfl)) rfl; refine s_freeze (r := 1) (m := g.length) (es1 := (g.set i ⟨s.key, n, s.sums, s.some⟩).map Sta.d) 4 ?_ (hl := by simp) (hes := take_ge (by simp))) | refine h_nilX ?_ | refine h_fieldX (r := 1) ?_ rfl | (refine h_loadX1 (r := 1) (z := i) ?_ rfl (by first | exact c0 | exact List.getElem?_set_self (by simp only [List.length_set, List.length_map]; omega))) | refine h_appE (dr := true) (ei := ti2) 2 ?_ ?_ ?_ ?_ | refine h_appE (dr := true) (ei := ti2) 3 ?_ ?_ ?_ ?_ | (refine h_storeX1 (r := 1) (z := i) ?_ rfl (by first | exact c0 | exact List.getElem?_set_self (by simp only [List.length_set, List.length_map]; omega)) ?_ rfl) | refine ks ?_ | refine ko ?_ | refine s_loadAA ?_ (he' := (by first | exact hn | exact rfl)) | refine s_indexD ?_ (hel := (by first | exact idx_map hn (by omega) | exact hn | exact rfl)) | refine s_callH [0] (hn1) ?_ | refine s_callH [0] (hn2) ?_ | refine s_callH [0] (hn3) ?_ | refine fh_ret1 def_nil ?_ ?_ | exact memIn_nil | refine memIn_same ?_ | exact am_same)
    all_goals first
      | exact sized_map (fun _ => rfl)
      | (simp only [List.length_set, List.length_cons, List.length_nil]; omega)
      | (simp only [maxLen, List.length_map]; omega)
      | (simp only [ti2, List.length_map]; omega)
  by_cases q1 : q = 1
  · by_cases hS : s.sums.length = 0
    · refine ⟨g.set i ⟨s.key, s.count, s.sums, s.some⟩, t3, ok3, ?_⟩
      refine hcallN hT Tryz.func25 Tryz.ntmps25 [.tmp 4] fun B => ?_
      repeat' (first | refine k_spoil ?_ | ((with_reducible (refine is_retC ?_)); refine s_thawX 2 1 ((g.set i ⟨s.key, s.count, s.sums, s.some⟩).map Sta.d) ?_ rfl (by decide) (by simp) (fun e he => by obtain ⟨u, _, rfl⟩ := List.mem_map.1 he; rfl) (spoil_hes hil (X := [.d (rowD s.key), .d (.lit (.int .i64 s.count)), .arr 2 (0 + 1 + 1 + 1) s.sums.length, .arr 3 (0 + 1 + 1 + 1 + 1) s.some.length]) (by simp [hil]) (fun j hj => by simp only [List.getElem?_set_ne (Ne.symm hj)]) (spoil_X rfl (by decide) (by decide) rfl rfl rfl rfl rfl rfl)) rfl; refine s_freeze (r := 1) (m := g.length) (es1 := (g.set i ⟨s.key, s.count, s.sums, s.some⟩).map Sta.d) 4 ?_ (hl := by simp) (hes := take_ge (by simp))) | refine h_nilX ?_ | refine h_fieldX (r := 1) ?_ rfl | (refine h_loadX1 (r := 1) (z := i) ?_ rfl (by first | exact c0 | exact List.getElem?_set_self (by simp only [List.length_set, List.length_map]; omega))) | refine h_appE (dr := true) (ei := ti2) 2 ?_ ?_ ?_ ?_ | refine h_appE (dr := true) (ei := ti2) 3 ?_ ?_ ?_ ?_ | (refine h_storeX1 (r := 1) (z := i) ?_ rfl (by first | exact c0 | exact List.getElem?_set_self (by simp only [List.length_set, List.length_map]; omega)) ?_ rfl) | refine ks ?_ | refine ko ?_ | refine s_loadAA ?_ (he' := (by first | exact hn | exact rfl)) | refine s_indexD ?_ (hel := (by first | exact idx_map hn (by omega) | exact hn | exact rfl)) | refine s_callH [0] (hn1) ?_ | refine s_callH [0] (hn2) ?_ | refine s_callH [0] (hn3) ?_ | refine fh_ret1 def_nil ?_ ?_ | exact memIn_nil | refine memIn_same ?_ | exact am_same)
      all_goals first
        | exact sized_map (fun _ => rfl)
        | (simp only [List.length_set, List.length_cons, List.length_nil]; omega)
        | (simp only [maxLen, List.length_map]; omega)
        | (simp only [ti2, List.length_map]; omega)
    · obtain ⟨w, t4, ok4, hw, hn4⟩ := nextE_h t3 s.sums.length ok3 (by omega) (by omega)
      rw [← hL] at hn4
      obtain ⟨v, hv⟩ : ∃ v, (s.sums.map fun n => [Dat.lit (.int .i64 n)])[w]? = some [Dat.lit (.int .i64 v)] := ⟨s.sums[w], by rw [List.getElem?_map, List.getElem?_eq_getElem hw]; rfl⟩
      refine ⟨g.set i ⟨s.key, s.count, s.sums.set w n, s.some⟩, t4, ok4, ?_⟩
      refine hcallN hT Tryz.func25 Tryz.ntmps25 [.tmp 4] fun B => ?_
      repeat' (first | refine k_spoil ?_ | ((with_reducible (refine is_retC ?_)); refine s_thawX 2 1 ((g.set i ⟨s.key, s.count, s.sums.set w n, s.some⟩).map Sta.d) ?_ rfl (by decide) (by simp) (fun e he => by obtain ⟨u, _, rfl⟩ := List.mem_map.1 he; rfl) (spoil_hes hil (X := [.d (rowD s.key), .d (.lit (.int .i64 s.count)), .arr 2 (0 + 1 + 1 + 1) s.sums.length, .arr 3 (0 + 1 + 1 + 1 + 1) s.some.length]) (by simp [hil]) (fun j hj => by simp only [List.getElem?_set_ne (Ne.symm hj)]) (spoil_X rfl (by decide) (by decide) rfl rfl (by rw [List.map_set]; rfl) rfl (by simp) rfl)) rfl; refine s_freeze (r := 1) (m := g.length) (es1 := (g.set i ⟨s.key, s.count, s.sums.set w n, s.some⟩).map Sta.d) 4 ?_ (hl := by simp) (hes := take_ge (by simp))) | refine s_callL 0 hn4 ?_ | refine h_lenA (r := 2) ?_ | refine h_indexA (r := 2) (es := (s.sums.map fun n => [Dat.lit (.int .i64 n)])) ?_ | refine h_storeA (r := 2) (es := (s.sums.map fun n => [Dat.lit (.int .i64 n)])) ?_ (hj := hv) | refine h_nilX ?_ | refine h_fieldX (r := 1) ?_ rfl | (refine h_loadX1 (r := 1) (z := i) ?_ rfl (by first | exact c0 | exact List.getElem?_set_self (by simp only [List.length_set, List.length_map]; omega))) | refine h_appE (dr := true) (ei := ti2) 2 ?_ ?_ ?_ ?_ | refine h_appE (dr := true) (ei := ti2) 3 ?_ ?_ ?_ ?_ | (refine h_storeX1 (r := 1) (z := i) ?_ rfl (by first | exact c0 | exact List.getElem?_set_self (by simp only [List.length_set, List.length_map]; omega)) ?_ rfl) | refine ks ?_ | refine ko ?_ | refine s_loadAA ?_ (he' := (by first | exact hn | exact rfl)) | refine s_indexD ?_ (hel := (by first | exact idx_map hn (by omega) | exact hn | exact rfl)) | refine s_callH [0] (hn1) ?_ | refine s_callH [0] (hn2) ?_ | refine s_callH [0] (hn3) ?_ | refine fh_ret1 def_nil ?_ ?_ | exact memIn_nil | refine memIn_same ?_ | exact am_same)
      all_goals first
        | exact sized_map (fun _ => rfl)
        | (simp only [List.length_set, List.length_cons, List.length_nil]; omega)
        | (simp only [maxLen, List.length_map]; omega)
        | (simp only [ti2, List.length_map]; omega)
  by_cases q2 : q = 2
  · by_cases hS : s.some.length = 0
    · refine ⟨g.set i ⟨s.key, s.count, s.sums, s.some⟩, t3, ok3, ?_⟩
      refine hcallN hT Tryz.func25 Tryz.ntmps25 [.tmp 4] fun B => ?_
      repeat' (first | refine k_spoil ?_ | ((with_reducible (refine is_retC ?_)); refine s_thawX 2 1 ((g.set i ⟨s.key, s.count, s.sums, s.some⟩).map Sta.d) ?_ rfl (by decide) (by simp) (fun e he => by obtain ⟨u, _, rfl⟩ := List.mem_map.1 he; rfl) (spoil_hes hil (X := [.d (rowD s.key), .d (.lit (.int .i64 s.count)), .arr 2 (0 + 1 + 1 + 1) s.sums.length, .arr 3 (0 + 1 + 1 + 1 + 1) s.some.length]) (by simp [hil]) (fun j hj => by simp only [List.getElem?_set_ne (Ne.symm hj)]) (spoil_X rfl (by decide) (by decide) rfl rfl rfl rfl rfl rfl)) rfl; refine s_freeze (r := 1) (m := g.length) (es1 := (g.set i ⟨s.key, s.count, s.sums, s.some⟩).map Sta.d) 4 ?_ (hl := by simp) (hes := take_ge (by simp))) | refine h_nilX ?_ | refine h_fieldX (r := 1) ?_ rfl | (refine h_loadX1 (r := 1) (z := i) ?_ rfl (by first | exact c0 | exact List.getElem?_set_self (by simp only [List.length_set, List.length_map]; omega))) | refine h_appE (dr := true) (ei := ti2) 2 ?_ ?_ ?_ ?_ | refine h_appE (dr := true) (ei := ti2) 3 ?_ ?_ ?_ ?_ | (refine h_storeX1 (r := 1) (z := i) ?_ rfl (by first | exact c0 | exact List.getElem?_set_self (by simp only [List.length_set, List.length_map]; omega)) ?_ rfl) | refine ks ?_ | refine ko ?_ | refine s_loadAA ?_ (he' := (by first | exact hn | exact rfl)) | refine s_indexD ?_ (hel := (by first | exact idx_map hn (by omega) | exact hn | exact rfl)) | refine s_callH [0] (hn1) ?_ | refine s_callH [0] (hn2) ?_ | refine s_callH [0] (hn3) ?_ | refine fh_ret1 def_nil ?_ ?_ | exact memIn_nil | refine memIn_same ?_ | exact am_same)
      all_goals first
        | exact sized_map (fun _ => rfl)
        | (simp only [List.length_set, List.length_cons, List.length_nil]; omega)
        | (simp only [maxLen, List.length_map]; omega)
        | (simp only [ti2, List.length_map]; omega)
    · obtain ⟨w, t4, ok4, hw, hn4⟩ := nextE_h t3 s.some.length ok3 (by omega) (by omega)
      rw [← hM] at hn4
      obtain ⟨v, hv⟩ : ∃ v, (s.some.map fun n => [Dat.lit (.int .i64 n)])[w]? = some [Dat.lit (.int .i64 v)] := ⟨s.some[w], by rw [List.getElem?_map, List.getElem?_eq_getElem hw]; rfl⟩
      refine ⟨g.set i ⟨s.key, s.count, s.sums, s.some.set w n⟩, t4, ok4, ?_⟩
      refine hcallN hT Tryz.func25 Tryz.ntmps25 [.tmp 4] fun B => ?_
      repeat' (first | refine k_spoil ?_ | ((with_reducible (refine is_retC ?_)); refine s_thawX 2 1 ((g.set i ⟨s.key, s.count, s.sums, s.some.set w n⟩).map Sta.d) ?_ rfl (by decide) (by simp) (fun e he => by obtain ⟨u, _, rfl⟩ := List.mem_map.1 he; rfl) (spoil_hes hil (X := [.d (rowD s.key), .d (.lit (.int .i64 s.count)), .arr 2 (0 + 1 + 1 + 1) s.sums.length, .arr 3 (0 + 1 + 1 + 1 + 1) s.some.length]) (by simp [hil]) (fun j hj => by simp only [List.getElem?_set_ne (Ne.symm hj)]) (spoil_X rfl (by decide) (by decide) rfl rfl rfl (by rw [List.map_set]; rfl) rfl (by simp))) rfl; refine s_freeze (r := 1) (m := g.length) (es1 := (g.set i ⟨s.key, s.count, s.sums, s.some.set w n⟩).map Sta.d) 4 ?_ (hl := by simp) (hes := take_ge (by simp))) | refine s_callL 0 hn4 ?_ | refine h_lenA (r := 3) ?_ | refine h_indexA (r := 3) (es := (s.some.map fun n => [Dat.lit (.int .i64 n)])) ?_ | refine h_storeA (r := 3) (es := (s.some.map fun n => [Dat.lit (.int .i64 n)])) ?_ (hj := hv) | refine h_nilX ?_ | refine h_fieldX (r := 1) ?_ rfl | (refine h_loadX1 (r := 1) (z := i) ?_ rfl (by first | exact c0 | exact List.getElem?_set_self (by simp only [List.length_set, List.length_map]; omega))) | refine h_appE (dr := true) (ei := ti2) 2 ?_ ?_ ?_ ?_ | refine h_appE (dr := true) (ei := ti2) 3 ?_ ?_ ?_ ?_ | (refine h_storeX1 (r := 1) (z := i) ?_ rfl (by first | exact c0 | exact List.getElem?_set_self (by simp only [List.length_set, List.length_map]; omega)) ?_ rfl) | refine ks ?_ | refine ko ?_ | refine s_loadAA ?_ (he' := (by first | exact hn | exact rfl)) | refine s_indexD ?_ (hel := (by first | exact idx_map hn (by omega) | exact hn | exact rfl)) | refine s_callH [0] (hn1) ?_ | refine s_callH [0] (hn2) ?_ | refine s_callH [0] (hn3) ?_ | refine fh_ret1 def_nil ?_ ?_ | exact memIn_nil | refine memIn_same ?_ | exact am_same)
      all_goals first
        | exact sized_map (fun _ => rfl)
        | (simp only [List.length_set, List.length_cons, List.length_nil]; omega)
        | (simp only [maxLen, List.length_map]; omega)
        | (simp only [ti2, List.length_map]; omega)
  by_cases q3 : q = 3
  · refine ⟨g.set i ⟨s.key, s.count, s.sums ++ [0], s.some⟩, t3, ok3, ?_⟩
    refine hcallN hT Tryz.func25 Tryz.ntmps25 [.tmp 4] fun B => ?_
    repeat' (first | refine k_spoil ?_ | ((with_reducible (refine is_retC ?_)); refine s_thawX 2 1 ((g.set i ⟨s.key, s.count, s.sums ++ [0], s.some⟩).map Sta.d) ?_ rfl (by decide) (by simp) (fun e he => by obtain ⟨u, _, rfl⟩ := List.mem_map.1 he; rfl) (spoil_hes hil (X := [.d (rowD s.key), .d (.lit (.int .i64 s.count)), .arr 2 (0 + 1 + 1 + 1 + 1 + 1 + 1 + 1) (s.sums.length + 1), .arr 3 (0 + 1 + 1 + 1 + 1) s.some.length]) (by simp [hil]) (fun j hj => by simp only [List.getElem?_set_ne (Ne.symm hj)]) (spoil_X rfl (by decide) (by decide) rfl rfl (by simp) rfl (by simp) rfl)) rfl; refine s_freeze (r := 1) (m := g.length) (es1 := (g.set i ⟨s.key, s.count, s.sums ++ [0], s.some⟩).map Sta.d) 4 ?_ (hl := by simp) (hes := take_ge (by simp))) | refine h_nilX ?_ | refine h_fieldX (r := 1) ?_ rfl | (refine h_loadX1 (r := 1) (z := i) ?_ rfl (by first | exact c0 | exact List.getElem?_set_self (by simp only [List.length_set, List.length_map]; omega))) | refine h_appE (dr := true) (ei := ti2) 2 ?_ ?_ ?_ ?_ | refine h_appE (dr := true) (ei := ti2) 3 ?_ ?_ ?_ ?_ | (refine h_storeX1 (r := 1) (z := i) ?_ rfl (by first | exact c0 | exact List.getElem?_set_self (by simp only [List.length_set, List.length_map]; omega)) ?_ rfl) | refine ks ?_ | refine ko ?_ | refine s_loadAA ?_ (he' := (by first | exact hn | exact rfl)) | refine s_indexD ?_ (hel := (by first | exact idx_map hn (by omega) | exact hn | exact rfl)) | refine s_callH [0] (hn1) ?_ | refine s_callH [0] (hn2) ?_ | refine s_callH [0] (hn3) ?_ | refine fh_ret1 def_nil ?_ ?_ | exact memIn_nil | refine memIn_same ?_ | exact am_same)
    all_goals first
      | exact sized_map (fun _ => rfl)
      | (simp only [List.length_set, List.length_cons, List.length_nil]; omega)
      | (simp only [maxLen, List.length_map]; omega)
      | (simp only [ti2, List.length_map]; omega)
  by_cases q4 : q = 4
  · have hi4 : ((g.set i ⟨s.key, s.count, s.sums, s.some⟩).map Sta.d)[i]? = some [rowD s.key, .lit (.int .i64 s.count), intsD s.sums, intsD s.some] := by
      rw [List.getElem?_map, List.getElem?_set_self hil]; rfl
    have hgl : ((g.set i ⟨s.key, s.count, s.sums, s.some⟩).map Sta.d).length = g.length := by rw [List.length_map, List.length_set]
    have e4 : stsD (g.set i ⟨s.key, s.count, s.sums, s.some⟩ ++ [⟨s.key, s.count, s.sums, s.some⟩]) = .sl ((g.set i ⟨s.key, s.count, s.sums, s.some⟩).map Sta.d ++ [[rowD s.key, .lit (.int .i64 s.count), intsD s.sums, intsD s.some]]) := by simp only [stsD, List.map_append, List.map_cons, List.map_nil]; rfl
    refine ⟨g.set i ⟨s.key, s.count, s.sums, s.some⟩ ++ [⟨s.key, s.count, s.sums, s.some⟩], t3, ok3, ?_⟩
    rw [e4]
    refine hcallN hT Tryz.func25 Tryz.ntmps25 [.tmp 4] fun B => ?_
    repeat' (first | ((with_reducible (refine is_r21 ?_)); refine s_thawX 2 1 ((g.set i ⟨s.key, s.count, s.sums, s.some⟩).map Sta.d) ?_ rfl (by decide) (by simp) (fun e he => by obtain ⟨u, _, rfl⟩ := List.mem_map.1 he; rfl) (spoil_hes hil (X := [.d (rowD s.key), .d (.lit (.int .i64 s.count)), .arr 2 (0 + 1 + 1 + 1) s.sums.length, .arr 3 (0 + 1 + 1 + 1 + 1) s.some.length]) (by simp [hil]) (fun j hj => by simp only [List.getElem?_set_ne (Ne.symm hj)]) (spoil_X rfl (by decide) (by decide) rfl rfl rfl rfl rfl rfl)) rfl) | refine s_appA ?_ (hes := app_all hgl rfl) | refine k_spoil ?_ | ((with_reducible (refine is_retC ?_)); refine s_freeze (r := 1) (m := g.length + 1) (es1 := ((g.set i ⟨s.key, s.count, s.sums, s.some⟩).map Sta.d ++ [[rowD s.key, .lit (.int .i64 s.count), intsD s.sums, intsD s.some]])) 4 ?_ (hl := by simp only [List.length_append, List.length_map, List.length_set, List.length_cons, List.length_nil]; omega) (hes := take_ge (by simp only [List.length_append, List.length_map, List.length_set, List.length_cons, List.length_nil]; omega))) | refine h_nilX ?_ | refine h_fieldX (r := 1) ?_ rfl | (refine h_loadX1 (r := 1) (z := i) ?_ rfl (by first | exact c0 | exact List.getElem?_set_self (by simp only [List.length_set, List.length_map]; omega))) | refine h_appE (dr := true) (ei := ti2) 2 ?_ ?_ ?_ ?_ | refine h_appE (dr := true) (ei := ti2) 3 ?_ ?_ ?_ ?_ | (refine h_storeX1 (r := 1) (z := i) ?_ rfl (by first | exact c0 | exact List.getElem?_set_self (by simp only [List.length_set, List.length_map]; omega)) ?_ rfl) | refine ks ?_ | refine ko ?_ | refine s_loadAA ?_ (he' := (by first | exact hn | exact hi4 | exact rfl)) | refine s_indexD ?_ (hel := (by first | exact idx_map hn (by omega) | exact idx_map hi4 (by omega) | exact hn | exact hi4 | exact rfl)) | refine s_callH [0] (hn1) ?_ | refine s_callH [0] (hn2) ?_ | refine s_callH [0] (hn3) ?_ | refine fh_ret1 def_nil ?_ ?_ | exact memIn_nil | refine memIn_same ?_ | exact am_same)
    all_goals first
      | exact sized_map (fun _ => rfl)
      | (simp only [List.length_set, List.length_cons, List.length_nil]; omega)
      | (simp only [maxLen, List.length_map]; omega)
      | (simp only [ti2, List.length_map]; omega)
  have q5 : q = 5 := by omega
  obtain ⟨ky, t4, ok4, hk, hr4⟩ := row_h t3 9 ok3 (by omega)
  · refine ⟨g.set i ⟨ky, s.count, s.sums, s.some⟩, t4, ok4, ?_⟩
    refine hcallN hT Tryz.func25 Tryz.ntmps25 [.tmp 4] fun B => ?_
    repeat' (first | refine k_spoil ?_ | ((with_reducible (refine is_retC ?_)); refine s_thawX 2 1 ((g.set i ⟨ky, s.count, s.sums, s.some⟩).map Sta.d) ?_ rfl (by decide) (by simp) (fun e he => by obtain ⟨u, _, rfl⟩ := List.mem_map.1 he; rfl) (spoil_hes hil (X := [.arr 4 (0 + 1 + 1 + 1 + 1 + 1 + 1 + 1) ky.length, .d (.lit (.int .i64 s.count)), .arr 2 (0 + 1 + 1 + 1) s.sums.length, .arr 3 (0 + 1 + 1 + 1 + 1) s.some.length]) (by simp [hil]) (fun j hj => by simp only [List.getElem?_set_ne (Ne.symm hj)]) (spoil_X ⟨by decide, _, _, _, rfl, by simp, by rw [take_ge (by simp)]; rfl⟩ (by decide) (by decide) rfl rfl rfl rfl rfl rfl)) rfl; refine s_freeze (r := 1) (m := g.length) (es1 := (g.set i ⟨ky, s.count, s.sums, s.some⟩).map Sta.d) 4 ?_ (hl := by simp) (hes := take_ge (by simp))) | refine h_nilX ?_ | refine h_fieldX (r := 1) ?_ rfl | (refine h_loadX1 (r := 1) (z := i) ?_ rfl (by first | exact c0 | exact List.getElem?_set_self (by simp only [List.length_set, List.length_map]; omega))) | refine h_appE (dr := true) (ei := ti2) 2 ?_ ?_ ?_ ?_ | refine h_appE (dr := true) (ei := ti2) 3 ?_ ?_ ?_ ?_ | (refine h_storeX1 (r := 1) (z := i) ?_ rfl (by first | exact c0 | exact List.getElem?_set_self (by simp only [List.length_set, List.length_map]; omega)) ?_ rfl) | refine ks ?_ | refine ko ?_ | refine s_loadAA ?_ (he' := (by first | exact hn | exact rfl)) | refine s_indexD ?_ (hel := (by first | exact idx_map hn (by omega) | exact hn | exact rfl)) | refine s_callH [0] (hn1) ?_ | refine s_callH [0] (hn2) ?_ | refine s_callH [0] (hn3) ?_ | refine s_callH [0] (hr4) ?_ | refine fh_ret1 def_nil ?_ ?_ | exact memIn_nil | refine memIn_same ?_ | exact am_same)
    all_goals first
      | exact sized_map (fun _ => rfl)
      | (simp only [List.length_set, List.length_cons, List.length_nil]; omega)
      | (simp only [maxLen, List.length_map]; omega)
      | (simp only [ti2, List.length_map]; omega)
end Go.Proofs.YtojfhaoleedmkaaGreat
