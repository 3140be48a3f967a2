/-
  Aggregates: valid states.
-/
import Derived.Test.YtojfhaoleedmkaaGreatAgn
namespace Go.Proofs.YtojfhaoleedmkaaGreat
open Go.Abs Go.RowKit
attribute [local irreducible] ARun kont MCall PCall HCall resVal SF CF CFs defersOk slotsIn memIn fin finM VLe
set_option linter.unusedSimpArgs false
set_option maxRecDepth 100000
set_option maxHeartbeats 4000000
def inW (n m : Int) : Bool := decide (-m ≤ n) && decide (n ≤ m)
theorem within_c (n m : Int) (hm : 0 ≤ m ∧ m ≤ 4611686018427387904) : PCall Tryz.prog 124 [.one (.lit (.int .i64 n)), .one (.lit (.int .i64 m))] (.v (.one (.lit (.bool (inW n m))))) := by
  have hw : IntKind.i64.wrap (-m) = -m := wrap_i64 (by omega) (by omega)
  refine pcallN hT Tryz.func124 Tryz.ntmps124 [.tmp 4] fun B => ?_
  repeat' (first | refine ks ?_ | refine ko ?_ | refine s_split rfl rfl (fun hb => ?_) (fun hb => ?_) | refine f_ret1 def_nil ?_ | refine t_tmp ?_)
  all_goals (refine congrArg Dat.lit (congrArg Value.bool ?_); simp_all [inW]; try omega)
def tri (ag : List Agg) (s : Sta) : List (Agg × Int × Int) := ag.zip (s.sums.zip s.some)
def triOk (t : Agg × Int × Int) : Bool := inW t.2.2 1073741824 && inW t.2.1 4611686018427387904 && (!decide (t.1.func = 0) || (decide (t.2.2 = 0) && decide (t.2.1 = 0)))
def numsOk (ag : List Agg) (s : Sta) : Bool := decide (s.sums.length = ag.length) && decide (s.some.length = ag.length) && inW s.count 1073741824 && !s.zero && (tri ag s).all triOk
theorem tri_len {ag : List Agg} {s : Sta} (h1 : s.sums.length = ag.length) (h2 : s.some.length = ag.length) : (tri ag s).length = ag.length := by
  unfold tri; rw [List.length_zip, List.length_zip]; omega
theorem tri_get {ag : List Agg} {s : Sta} {i : Nat} {x : Agg} {a b : Int} (hx : ag[i]? = some x) (ha : s.sums[i]? = some a) (hb : s.some[i]? = some b) : (tri ag s)[i]? = some (x, a, b) := by
  unfold tri
  rw [List.getElem?_zip_eq_some]
  exact ⟨hx, by rw [List.getElem?_zip_eq_some]; exact ⟨ha, hb⟩⟩
theorem validNumbers_c (s : Sta) (ag : List Agg) (hal : ag.length ≤ 10000) : PCall Tryz.prog 81 [.agg s.d, .one (aggD ag)] (.v (.one (.lit (.bool (numsOk ag s))))) := by
  have hw := within_c s.count 1073741824 (by omega)
  have hz := isZero_c s
  by_cases h1 : s.sums.length = ag.length
  · by_cases h2 : s.some.length = ag.length
    · cases h3 : inW s.count 1073741824 with
      | false =>
        rw [h3] at hw
        have e : numsOk ag s = false := by unfold numsOk; rw [h3]; simp
        rw [e]
        refine pcallN hT Tryz.func81 Tryz.ntmps81 [.tmp 4] fun B => ?_
        repeat' (first | refine ks ?_ | refine ko ?_ | refine s_indexD ?_ (hel := (by first | exact rfl)) | refine s_call (hw) ?_ | refine s_call (hz) ?_ | refine s_kT ?_ | refine s_kF ?_ | refine f_ret1 def_nil ?_ | refine t_tmp ?_)
        all_goals rfl
      | true =>
        rw [h3] at hw
        cases h4 : s.zero with
        | true =>
          rw [h4] at hz
          have e : numsOk ag s = false := by unfold numsOk; rw [h4]; simp
          rw [e]
          refine pcallN hT Tryz.func81 Tryz.ntmps81 [.tmp 4] fun B => ?_
          repeat' (first | refine ks ?_ | refine ko ?_ | refine s_indexD ?_ (hel := (by first | exact rfl)) | refine s_call (hw) ?_ | refine s_call (hz) ?_ | refine s_kT ?_ | refine s_kF ?_ | refine f_ret1 def_nil ?_ | refine t_tmp ?_)
          all_goals rfl
        | false =>
          rw [h4] at hz
          have e : numsOk ag s = (tri ag s).all triOk := by unfold numsOk; rw [h3, h4, decide_eq_true h1, decide_eq_true h2]; rfl
          rw [e]
          have htl := tri_len h1 h2
          refine pcallN hT Tryz.func81 Tryz.ntmps81 [.tmp 4] fun B => ?_
          repeat' (first | refine ks ?_ | refine ko ?_ | refine s_indexD ?_ (hel := (by first | exact rfl)) | refine s_call (hw) ?_ | refine s_call (hz) ?_ | refine s_kT ?_ | refine s_kF ?_ | refine f_ret1 def_nil ?_ | refine t_tmp ?_)
          refine s_lp (X := Nat) [4, 5, 6, 33, 34, 35, 36, 37, 38, 39, 40, 41, 42, 43, 44, 45, 46, 47, 48, 49, 50, 51, 52, 53, 54, 55, 56, 57, 58, 59, 60, 61, 62, 63, 64, 65, 66, 67, 68, 69, 70, 71, 72, 73] (fun x => x ≤ ag.length ∧ ((tri ag s).take x).all triOk = true) (fun x lz => (33, (.c (.d (.lit (.int .i64 x))))) :: lz) (fun x => [.box 1 (s.d.map .d)]) (fun x => ag.length - x) (0) ?_ ?_ ?_ ?_
          repeat' (first | exact slots_nil | refine kw ?_ | refine kv ?_ ?_ | exact memIn_nil | omega)
          · exact ⟨by simp, by simp⟩
          rintro i c ⟨hi, hinv⟩
          by_cases hlt : i < ag.length
          · have hv : ag[i]? = some ag[i] := List.getElem?_eq_getElem hlt
            have hu1 : s.sums[i]? = some (s.sums[i]'(by omega)) := List.getElem?_eq_getElem _
            have hu2 : s.some[i]? = some (s.some[i]'(by omega)) := List.getElem?_eq_getElem _
            generalize ag[i] = y at hv
            generalize s.sums[i]'(by omega) = a at hu1
            generalize s.some[i]'(by omega) = b at hu2
            have hv2 : (ag.map Agg.d)[i]? = some y.d := by rw [List.getElem?_map, hv]; rfl
            have ht := tri_get hv hu1 hu2
            have w1 := within_c b 1073741824 (by omega)
            have w2 := within_c a 4611686018427387904 (by omega)
            have hbad : triOk (y, a, b) = false → (tri ag s).all triOk = false := not_all triOk ht
            have hgood : triOk (y, a, b) = true → ((tri ag s).take (i + 1)).all triOk = true := take_all triOk ht hinv
            have htv : triOk (y, a, b) = (inW b 1073741824 && inW a 4611686018427387904 && (!decide (y.func = 0) || (decide (b = 0) && decide (a = 0)))) := rfl
            cases q1 : inW b 1073741824 with
            | false =>
              rw [q1] at w1
              rw [hbad (by rw [htv, q1]; rfl)]
              repeat' (first | refine ks ?_ | refine ko ?_ | refine s_indexD ?_ (hel := (by first | exact idx_map hv2 (by omega) | exact idx_map hu1 (by omega) | exact idx_map hu2 (by omega) | exact hv2 | exact hu1 | exact hu2 | exact rfl)) | refine s_call (w1) ?_ | refine s_call (w2) ?_ | refine s_kT ?_ | refine s_kF ?_ | refine f_ret1 def_nil ?_ | refine t_tmp ?_)
              all_goals rfl
            | true =>
              rw [q1] at w1
              cases q2 : inW a 4611686018427387904 with
              | false =>
                rw [q2] at w2
                rw [hbad (by rw [htv, q1, q2]; rfl)]
                repeat' (first | refine ks ?_ | refine ko ?_ | refine s_indexD ?_ (hel := (by first | exact idx_map hv2 (by omega) | exact idx_map hu1 (by omega) | exact idx_map hu2 (by omega) | exact hv2 | exact hu1 | exact hu2 | exact rfl)) | refine s_call (w1) ?_ | refine s_call (w2) ?_ | refine s_kT ?_ | refine s_kF ?_ | refine f_ret1 def_nil ?_ | refine t_tmp ?_)
                all_goals rfl
              | true =>
                rw [q2] at w2
                by_cases hf : y.func = 0
                · by_cases hb0 : b = 0
                  · subst hb0
                    by_cases ha0 : a = 0
                    · subst ha0
                      repeat' (first | refine ks ?_ | refine ko ?_ | refine s_indexD ?_ (hel := (by first | exact idx_map hv2 (by omega) | exact idx_map hu1 (by omega) | exact idx_map hu2 (by omega) | exact hv2 | exact hu1 | exact hu2 | exact rfl)) | refine s_call (w1) ?_ | refine s_call (w2) ?_ | refine s_kT ?_ | refine s_kF ?_ | refine f_ret1 def_nil ?_ | refine t_tmp ?_)
                      (apply s_round (i + 1); all_goals (try dsimp only); all_goals (try (repeat' (first | exact slots_nil | refine kw ?_ | refine kv ?_ ?_ | exact memIn_nil | omega))))
                      all_goals first
                        | rfl
                        | exact ⟨by omega, hgood (by rw [htv, q1, q2]; simp)⟩
                    · rw [hbad (by rw [htv, q1, q2]; simp [hf, ha0])]
                      repeat' (first | refine ks ?_ | refine ko ?_ | refine s_indexD ?_ (hel := (by first | exact idx_map hv2 (by omega) | exact idx_map hu1 (by omega) | exact idx_map hu2 (by omega) | exact hv2 | exact hu1 | exact hu2 | exact rfl)) | refine s_call (w1) ?_ | refine s_call (w2) ?_ | refine s_kT ?_ | refine s_kF ?_ | refine f_ret1 def_nil ?_ | refine t_tmp ?_)
                      all_goals rfl
                  · rw [hbad (by rw [htv, q1, q2]; simp [hf, hb0])]
                    repeat' (first | refine ks ?_ | refine ko ?_ | refine s_indexD ?_ (hel := (by first | exact idx_map hv2 (by omega) | exact idx_map hu1 (by omega) | exact idx_map hu2 (by omega) | exact hv2 | exact hu1 | exact hu2 | exact rfl)) | refine s_call (w1) ?_ | refine s_call (w2) ?_ | refine s_kT ?_ | refine s_kF ?_ | refine f_ret1 def_nil ?_ | refine t_tmp ?_)
                    all_goals rfl
                · repeat' (first | refine ks ?_ | refine ko ?_ | refine s_indexD ?_ (hel := (by first | exact idx_map hv2 (by omega) | exact idx_map hu1 (by omega) | exact idx_map hu2 (by omega) | exact hv2 | exact hu1 | exact hu2 | exact rfl)) | refine s_call (w1) ?_ | refine s_call (w2) ?_ | refine s_kT ?_ | refine s_kF ?_ | refine f_ret1 def_nil ?_ | refine t_tmp ?_)
                  (apply s_round (i + 1); all_goals (try dsimp only); all_goals (try (repeat' (first | exact slots_nil | refine kw ?_ | refine kv ?_ ?_ | exact memIn_nil | omega))))
                  all_goals first
                    | rfl
                    | exact ⟨by omega, hgood (by rw [htv, q1, q2]; simp [hf])⟩
          · rw [take_ge (show (tri ag s).length ≤ i by omega)] at hinv
            rw [hinv]
            repeat' (first | refine ks ?_ | refine ko ?_ | refine s_indexD ?_ (hel := (by first | exact rfl)) | refine s_kT ?_ | refine s_kF ?_ | refine f_ret1 def_nil ?_ | refine t_tmp ?_)
            all_goals rfl
    · have e : numsOk ag s = false := by unfold numsOk; rw [decide_eq_false h2]; simp
      rw [e]
      refine pcallN hT Tryz.func81 Tryz.ntmps81 [.tmp 4] fun B => ?_
      repeat' (first | refine ks ?_ | refine ko ?_ | refine s_indexD ?_ (hel := (by first | exact rfl)) | refine s_call (hw) ?_ | refine s_call (hz) ?_ | refine s_kT ?_ | refine s_kF ?_ | refine f_ret1 def_nil ?_ | refine t_tmp ?_)
      all_goals rfl
  · have e : numsOk ag s = false := by unfold numsOk; rw [decide_eq_false h1]; simp
    rw [e]
    refine pcallN hT Tryz.func81 Tryz.ntmps81 [.tmp 4] fun B => ?_
    repeat' (first | refine ks ?_ | refine ko ?_ | refine s_indexD ?_ (hel := (by first | exact rfl)) | refine s_call (hw) ?_ | refine s_call (hz) ?_ | refine s_kT ?_ | refine s_kF ?_ | refine f_ret1 def_nil ?_ | refine t_tmp ?_)
    all_goals rfl
def staOk (ag : List Agg) (s : Sta) : Bool := decide (s.key.length ≤ 8) && rowOK s.key && numsOk ag s
def goodS (ag : List Agg) : Option Sta → List Sta → Bool
  | _, [] => true
  | p, e :: l => staOk ag e && (match p with | none => true | some q => decide (rowCmp q.key e.key < 0)) && goodS ag (some e) l
def stsOk (ag : List Agg) (l : List Sta) : Bool := decide (l.length ≤ 4096) && goodS ag none l
def prevS (l : List Sta) (i : Nat) : Option Sta := if i = 0 then none else l[i - 1]?
theorem goodS_step {ag : List Agg} {l : List Sta} {i : Nat} {e : Sta} (h : l[i]? = some e) : goodS ag (prevS l i) (l.drop i) = (staOk ag e && (match prevS l i with | none => true | some q => decide (rowCmp q.key e.key < 0)) && goodS ag (prevS l (i + 1)) (l.drop (i + 1))) := by
  rw [drop_cons h, goodS.eq_def]
  have : prevS l (i + 1) = some e := by simp [prevS, h]
  rw [this]
theorem aggValid1_d : DeferOk Tryz.prog 79 0 := by
  refine ⟨⟨_, Tryz.func79, by kernel_rfl, by kernel_rfl⟩, fun vs w hl => ?_⟩
  match vs, hl with
  | [], _ =>
    refine callsD_of_wpS Tryz.func79 rfl fun c₀ cs hu => ?_
    apply wpS_region
    simp [wpOpsS, go_sem, recoverD, hu, Tryz.ntmps79, Exit.thenS]
    cases c₀
    simp_all [bodyPostS, results, Tryz.results79]
theorem aggValid_c (l : List Sta) (ag : List Agg) (hal : ag.length ≤ 10000) : PCall Tryz.prog 38 [.one (stsD l), .one (aggD ag)] (.v (.one (.lit (.bool (stsOk ag l))))) := by
  by_cases hl : l.length ≤ 4096
  · have e0 : stsOk ag l = goodS ag none l := by unfold stsOk; rw [decide_eq_true hl, Bool.true_and]
    rw [e0]
    refine pcallN hT Tryz.func38 Tryz.ntmps38 [.tmp 4] fun B => ?_
    repeat' (first | refine ks ?_ | refine ko ?_ | refine s_indexD ?_ (hel := (by first | exact rfl)) | refine s_kT ?_ | refine s_kF ?_ | refine f_ret1 (by repeat (first | exact def_nil | refine def_cons aggValid1_d ?_)) ?_ | refine t_tmp ?_)
    refine s_lp (X := Nat) [4, 5, 6, 12, 13, 14, 15, 16, 17, 18, 19, 20, 21, 22, 23, 24, 25, 26, 27, 28, 29, 30, 31, 32, 33, 34, 35, 36, 37, 38, 39, 40, 41, 42, 43, 44, 45, 46, 47] (fun x => x ≤ l.length ∧ goodS ag none l = goodS ag (prevS l x) (l.drop x)) (fun x lz => (12, (.c (.d (.lit (.int .i64 x))))) :: lz) (fun x => []) (fun x => l.length - x) (0) ?_ ?_ ?_ ?_
    repeat' (first | exact slots_nil | refine kw ?_ | exact memIn_nil | omega)
    · exact ⟨by simp, by simp [prevS]⟩
    rintro i c ⟨hi, hinv⟩
    by_cases hlt : i < l.length
    · have hv : l[i]? = some l[i] := List.getElem?_eq_getElem hlt
      generalize l[i] = e at hv
      have hv2 : (l.map Sta.d)[i]? = some e.d := by rw [List.getElem?_map, hv]; rfl
      rw [goodS_step hv] at hinv
      have hr := validRow_c e.key
      have hn := validNumbers_c e ag hal
      by_cases h1 : e.key.length ≤ 8
      · cases h2 : rowOK e.key with
        | false =>
          rw [h2] at hr
          rw [hinv, show staOk ag e = false by unfold staOk; rw [h2]; simp]
          repeat' (first | refine ks ?_ | refine ko ?_ | refine s_indexD ?_ (hel := (by first | exact idx_map hv2 (by omega) | exact hv2 | exact rfl)) | refine s_call (hr) ?_ | refine s_call (hn) ?_ | refine s_kT ?_ | refine s_kF ?_ | refine f_ret1 (by repeat (first | exact def_nil | refine def_cons aggValid1_d ?_)) ?_ | refine t_tmp ?_)
          all_goals rfl
        | true =>
          rw [h2] at hr
          cases h3 : numsOk ag e with
          | false =>
            rw [h3] at hn
            rw [hinv, show staOk ag e = false by unfold staOk; rw [h3]; simp]
            repeat' (first | refine ks ?_ | refine ko ?_ | refine s_indexD ?_ (hel := (by first | exact idx_map hv2 (by omega) | exact hv2 | exact rfl)) | refine s_call (hr) ?_ | refine s_call (hn) ?_ | refine s_kT ?_ | refine s_kF ?_ | refine f_ret1 (by repeat (first | exact def_nil | refine def_cons aggValid1_d ?_)) ?_ | refine t_tmp ?_)
            all_goals rfl
          | true =>
            rw [h3] at hn
            rw [show staOk ag e = true by unfold staOk; rw [h2, h3, decide_eq_true h1]; rfl, Bool.true_and] at hinv
            rcases i with _ | j
            · have hp : prevS l 0 = none := rfl
              rw [hp] at hinv
              repeat' (first | refine ks ?_ | refine ko ?_ | refine s_indexD ?_ (hel := (by first | exact idx_map hv2 (by omega) | exact hv2 | exact rfl)) | refine s_call (hr) ?_ | refine s_call (hn) ?_ | refine s_kT ?_ | refine s_kF ?_ | refine f_ret1 (by repeat (first | exact def_nil | refine def_cons aggValid1_d ?_)) ?_ | refine t_tmp ?_)
              (apply s_round (1); all_goals (try dsimp only); all_goals (try (repeat' (first | exact slots_nil | refine kw ?_ | exact memIn_nil | omega))))
              exact ⟨by omega, hinv⟩
            · have hu : l[j]? = some l[j] := List.getElem?_eq_getElem (by omega)
              generalize l[j] = p at hu
              have hu2 : (l.map Sta.d)[(((j + 1 : Nat) : Int) - 1).toNat]? = some p.d := by rw [show (((j + 1 : Nat) : Int) - 1).toNat = j by omega, List.getElem?_map, hu]; rfl
              have hp : prevS l (j + 1) = some p := by simp [prevS, hu]
              rw [hp] at hinv
              dsimp only at hinv
              have hcm := compareRows_c p.key e.key
              by_cases hc : rowCmp p.key e.key < 0
              · rw [decide_eq_true hc, Bool.true_and] at hinv
                repeat' (first | refine ks ?_ | refine ko ?_ | refine s_indexD ?_ (hel := (by first | exact idx_map hv2 (by omega) | exact idx_map hu2 (by omega) | exact hv2 | exact hu2 | exact rfl)) | refine s_call (hr) ?_ | refine s_call (hn) ?_ | refine s_call (hcm) ?_ | refine s_kT ?_ | refine s_kF ?_ | refine f_ret1 (by repeat (first | exact def_nil | refine def_cons aggValid1_d ?_)) ?_ | refine t_tmp ?_)
                (apply s_round (j + 1 + 1); all_goals (try dsimp only); all_goals (try (repeat' (first | exact slots_nil | refine kw ?_ | exact memIn_nil | omega))))
                exact ⟨by omega, hinv⟩
              · rw [decide_eq_false hc, Bool.false_and] at hinv
                rw [hinv]
                repeat' (first | refine ks ?_ | refine ko ?_ | refine s_indexD ?_ (hel := (by first | exact idx_map hv2 (by omega) | exact idx_map hu2 (by omega) | exact hv2 | exact hu2 | exact rfl)) | refine s_call (hr) ?_ | refine s_call (hn) ?_ | refine s_call (hcm) ?_ | refine s_kT ?_ | refine s_kF ?_ | refine f_ret1 (by repeat (first | exact def_nil | refine def_cons aggValid1_d ?_)) ?_ | refine t_tmp ?_)
                all_goals rfl
      · rw [hinv, show staOk ag e = false by unfold staOk; rw [decide_eq_false h1]; simp]
        repeat' (first | refine ks ?_ | refine ko ?_ | refine s_indexD ?_ (hel := (by first | exact idx_map hv2 (by omega) | exact hv2 | exact rfl)) | refine s_call (hr) ?_ | refine s_call (hn) ?_ | refine s_kT ?_ | refine s_kF ?_ | refine f_ret1 (by repeat (first | exact def_nil | refine def_cons aggValid1_d ?_)) ?_ | refine t_tmp ?_)
        all_goals rfl
    · rw [hinv, List.drop_eq_nil_of_le (by omega), goodS]
      repeat' (first | refine ks ?_ | refine ko ?_ | refine s_indexD ?_ (hel := (by first | exact rfl)) | refine s_kT ?_ | refine s_kF ?_ | refine f_ret1 (by repeat (first | exact def_nil | refine def_cons aggValid1_d ?_)) ?_ | refine t_tmp ?_)
      all_goals rfl
  · have e0 : stsOk ag l = false := by unfold stsOk; rw [decide_eq_false hl, Bool.false_and]
    rw [e0]
    refine pcallN hT Tryz.func38 Tryz.ntmps38 [.tmp 4] fun B => ?_
    repeat' (first | refine ks ?_ | refine ko ?_ | refine s_indexD ?_ (hel := (by first | exact rfl)) | refine s_kT ?_ | refine s_kF ?_ | refine f_ret1 (by repeat (first | exact def_nil | refine def_cons aggValid1_d ?_)) ?_ | refine t_tmp ?_)
    all_goals rfl
end Go.Proofs.YtojfhaoleedmkaaGreat
