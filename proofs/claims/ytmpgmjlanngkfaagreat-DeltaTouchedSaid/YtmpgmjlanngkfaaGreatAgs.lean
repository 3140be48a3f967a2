/-
  Aggregates: valid states.
-/
import Derived.Test.YtmpgmjlanngkfaaGreatAgm
section
namespace Go.Proofs.YtmpgmjlanngkfaaGreat
open Go.Abs Go.RowKit
attribute [local irreducible] ARun Aq MCall PCall HCall Am SF CF CFs Af Al Ap B5 AW VLe
set_option linter.unusedSimpArgs false
set_option maxRecDepth 100000
set_option maxHeartbeats 4000000
variable {ag : List Agg}
def O8 (n m : Int) : Bool := decide (-m ≤ n) && decide (n ≤ m)
theorem LR (n m : Int) : O8 n m = true ↔ -m ≤ n ∧ n ≤ m := by simp [O8]
theorem JJ (n m : Int) (hm : 0 ≤ m ∧ m ≤ 4611686018427387904) : PC 180 [.one (.lit (.int .i64 n)), .one (.lit (.int .i64 m))] (.v (.one (.lit (.bool (O8 n m))))) := by
 have hw : IntKind.i64.wrap (-m) = -m := BW (by omega) (by omega)
 refine Ad hT Tryz.func180 Tryz.ntmps180 [.tmp 4] fun B => ?_
 repeat' first | refine kz ?_ | refine Av rfl rfl (fun hb => ?_) (fun hb => ?_) | refine kf ?_ | fail
 all_goals (refine congrArg Dat.lit (congrArg Value.bool ?_); simp_all [O8]; try omega)
def Sp (ag : List Agg) (s : Sta) : List (Agg × Int × Int) := ag.zip (s.sums.zip s.some)
def FX (t : Agg × Int × Int) : Bool := O8 t.2.2 1073741824 && O8 t.2.1 4611686018427387904 && (!decide (t.1.func = 0) || (decide (t.2.2 = 0) && decide (t.2.1 = 0)))
def Cm (ag : List Agg) (s : Sta) : Bool := decide (s.sums.length = ag.length) && decide (s.some.length = ag.length) && O8 s.count 1073741824 && !s.zero && (Sp ag s).all FX
theorem UJ {s : Sta} (h1 : s.sums.length = ag.length) (h2 : s.some.length = ag.length) : (Sp ag s).length = ag.length := by
 unfold Sp; rw [List.length_zip, List.length_zip]; omega
theorem UK {s : Sta} {i : Nat} {x : Agg} {a b : Int} (hx : ag[i]? = some x) (ha : s.sums[i]? = some a) (hb : s.some[i]? = some b) : (Sp ag s)[i]? = some (x, a, b) := by
 unfold Sp
 rw [List.getElem?_zip_eq_some]
 exact ⟨hx, by rw [List.getElem?_zip_eq_some]; exact ⟨ha, hb⟩⟩
theorem JK (s : Sta) (ag : List Agg) (hal : ag.length ≤ 10000) : PC 123 [.agg s.d, .one (HW ag)] (.v (.one (.lit (.bool (Cm ag s))))) := by
 have hw := JJ s.count 1073741824 (by omega)
 have hz := Hr s
 by_cases h1 : s.sums.length = ag.length
 ·by_cases h2 : s.some.length = ag.length
  ·cases h3 : O8 s.count 1073741824 with
   | false =>
     rw [h3] at hw
     have e : Cm ag s = false := by unfold Cm; rw [h3]; simp
     rw [e]
     refine Ad hT Tryz.func123 Tryz.ntmps123 [.tmp 4] fun B => ?_
     repeat' first | refine kz ?_ | refine As ?_ | refine Aa (hw) ?_ | refine Aa (hz) ?_ | refine kf ?_ | fail
     all_goals rfl
   | true =>
     rw [h3] at hw
     cases h4 : s.zero with
     | true =>
       rw [h4] at hz
       have e : Cm ag s = false := by unfold Cm; rw [h4]; simp
       rw [e]
       refine Ad hT Tryz.func123 Tryz.ntmps123 [.tmp 4] fun B => ?_
       repeat' first | refine kz ?_ | refine As ?_ | refine Aa (hw) ?_ | refine Aa (hz) ?_ | refine kf ?_ | fail
       all_goals rfl
     | false =>
       rw [h4] at hz
       have e : Cm ag s = (Sp ag s).all FX := by unfold Cm; rw [h3, h4, decide_eq_true h1, decide_eq_true h2]; rfl
       rw [e]
       have htl := UJ h1 h2
       refine Ad hT Tryz.func123 Tryz.ntmps123 [.tmp 4] fun B => ?_
       repeat' first | refine kz ?_ | refine As ?_ | refine Aa (hw) ?_ | refine Aa (hz) ?_ | refine kf ?_ | fail
       refine AY (X := Nat) ([4, 5, 6] ++ List.range' 33 41) (fun x => x ≤ ag.length ∧ ((Sp ag s).take x).all FX = true) (fun x lz => (33, (iC x)) :: lz) (fun x => [.box 1 (s.d.map .d)]) (fun x => ag.length - x) (0) ?_ ?_ ?_ ?_
       repeat' first | exact k0 | refine kw ?_ | refine kv ?_ ?_ | omega
       ·exact ⟨by simp, by simp⟩
       rintro i c ⟨hi, hinv⟩
       by_cases hlt : i < ag.length
       ·have hv : ag[i]? = some ag[i] := Bi hlt
        have hu1 : s.sums[i]? = some (s.sums[i]'(by omega)) := Bi _
        have hu2 : s.some[i]? = some (s.some[i]'(by omega)) := Bi _
        generalize ag[i] = y at hv
        generalize s.sums[i]'(by omega) = a at hu1
        generalize s.some[i]'(by omega) = b at hu2
        have hv2 : (ag.map Agg.d)[i]? = some y.d := by rw [Ci, hv]; rfl
        have ht := UK hv hu1 hu2
        have w1 := JJ b 1073741824 (by omega)
        have w2 := JJ a 4611686018427387904 (by omega)
        have hbad : FX (y, a, b) = false → (Sp ag s).all FX = false := DC FX ht
        have hgood : FX (y, a, b) = true → ((Sp ag s).take (i + 1)).all FX = true := CY FX ht hinv
        have htv : FX (y, a, b) = (O8 b 1073741824 && O8 a 4611686018427387904 && (!decide (y.func = 0) || (decide (b = 0) && decide (a = 0)))) := rfl
        cases q1 : O8 b 1073741824 with
        | false =>
          rw [q1] at w1
          rw [hbad (by rw [htv, q1]; rfl)]
          repeat' first | refine kz ?_ | refine AT hv2 ?_ | refine AT hu1 ?_ | refine AT hu2 ?_ | refine As ?_ | refine Aa (w1) ?_ | refine Aa (w2) ?_ | refine kf ?_ | fail
          all_goals rfl
        | true =>
          rw [q1] at w1
          cases q2 : O8 a 4611686018427387904 with
          | false =>
            rw [q2] at w2
            rw [hbad (by rw [htv, q1, q2]; rfl)]
            repeat' first | refine kz ?_ | refine AT hv2 ?_ | refine AT hu1 ?_ | refine AT hu2 ?_ | refine As ?_ | refine Aa (w1) ?_ | refine Aa (w2) ?_ | refine kf ?_ | fail
            all_goals rfl
          | true =>
            rw [q2] at w2
            by_cases hf : y.func = 0
            ·by_cases hb0 : b = 0
             ·subst hb0
              by_cases ha0 : a = 0
              · subst ha0
                repeat' first | refine kz ?_ | refine AT hv2 ?_ | refine AT hu1 ?_ | refine AT hu2 ?_ | refine As ?_ | refine Aa (w1) ?_ | refine Aa (w2) ?_ | refine kf ?_ | fail
                apply Ae (i + 1) <;> (try dsimp only) <;> try repeat' first | exact k0 | refine kw ?_ | refine kv ?_ ?_ | omega
                all_goals first
                 | rfl
                 | exact ⟨by omega, hgood (by rw [htv, q1, q2]; simp)⟩
              · rw [hbad (by rw [htv, q1, q2]; simp [hf, ha0])]
                repeat' first | refine kz ?_ | refine AT hv2 ?_ | refine AT hu1 ?_ | refine AT hu2 ?_ | refine As ?_ | refine Aa (w1) ?_ | refine Aa (w2) ?_ | refine kf ?_ | fail
                all_goals rfl
             ·rw [hbad (by rw [htv, q1, q2]; simp [hf, hb0])]
              repeat' first | refine kz ?_ | refine AT hv2 ?_ | refine AT hu1 ?_ | refine AT hu2 ?_ | refine As ?_ | refine Aa (w1) ?_ | refine Aa (w2) ?_ | refine kf ?_ | fail
              all_goals rfl
            ·repeat' first | refine kz ?_ | refine AT hv2 ?_ | refine AT hu1 ?_ | refine AT hu2 ?_ | refine As ?_ | refine Aa (w1) ?_ | refine Aa (w2) ?_ | refine kf ?_ | fail
             apply Ae (i + 1) <;> (try dsimp only) <;> try repeat' first | exact k0 | refine kw ?_ | refine kv ?_ ?_ | omega
             all_goals first
              | rfl
              | exact ⟨by omega, hgood (by rw [htv, q1, q2]; simp [hf])⟩
       ·rw [Ag (show (Sp ag s).length ≤ i by omega)] at hinv
        rw [hinv]
        repeat' first | refine kz ?_ | refine As ?_ | refine kf ?_ | fail
        all_goals rfl
  ·have e : Cm ag s = false := by unfold Cm; rw [decide_eq_false h2]; simp
   rw [e]
   refine Ad hT Tryz.func123 Tryz.ntmps123 [.tmp 4] fun B => ?_
   repeat' first | refine kz ?_ | refine As ?_ | refine Aa (hw) ?_ | refine Aa (hz) ?_ | refine kf ?_ | fail
   all_goals rfl
 ·have e : Cm ag s = false := by unfold Cm; rw [decide_eq_false h1]; simp
  rw [e]
  refine Ad hT Tryz.func123 Tryz.ntmps123 [.tmp 4] fun B => ?_
  repeat' first | refine kz ?_ | refine As ?_ | refine Aa (hw) ?_ | refine Aa (hz) ?_ | refine kf ?_ | fail
  all_goals rfl
def Eh (ag : List Agg) (s : Sta) : Bool := decide (s.key.length ≤ 8) && A7 s.key && Cm ag s
def goodS (ag : List Agg) : Option Sta → List Sta → Bool
 | _, [] => true
 | p, e :: l => Eh ag e && (match p with | none => true | some q => decide (Ai q.key e.key < 0)) && goodS ag (some e) l
def Ei (ag : List Agg) (l : List Sta) : Bool := decide (l.length ≤ 4096) && goodS ag none l
def GV (l : List Sta) (i : Nat) : Option Sta := if i = 0 then none else l[i - 1]?
theorem O9 {l : List Sta} {i : Nat} {e : Sta} (h : l[i]? = some e) : goodS ag (GV l i) (l.drop i) = (Eh ag e && (match GV l i with | none => true | some q => decide (Ai q.key e.key < 0)) && goodS ag (GV l (i + 1)) (l.drop (i + 1))) := by
 rw [Az h, goodS.eq_def]
 have : GV l (i + 1) = some e := by simp [GV, h]
 rw [this]
theorem BV : DeferOk Tryz.prog 121 0 := by
 refine ⟨⟨_, Tryz.func121, by kernel_rfl, by kernel_rfl⟩, fun vs w hl => ?_⟩
 match vs, hl with
 | [], _ =>
   refine callsD_of_wpS Tryz.func121 rfl fun c₀ cs hu => ?_
   apply wpS_region
   simp [wpOpsS, go_sem, recoverD, hu, Tryz.ntmps121, Exit.thenS]
   cases c₀
   simp_all [bodyPostS, results, Tryz.results121]
theorem JL (l : List Sta) (ag : List Agg) (hal : ag.length ≤ 10000) : PC 68 [.one (I1 l), .one (HW ag)] (.v (.one (.lit (.bool (Ei ag l))))) := by
 by_cases hl : l.length ≤ 4096
 ·have e0 : Ei ag l = goodS ag none l := by unfold Ei; rw [decide_eq_true hl, Bool.true_and]
  rw [e0]
  refine Ad hT Tryz.func68 Tryz.ntmps68 [.tmp 4] fun B => ?_
  repeat' first | refine kz ?_ | refine As ?_ | refine kf ?_ | refine Ay (by repeat (first | exact Ac | refine Ah BV ?_)) ?_
  refine AY (X := Nat) ([4, 5, 6] ++ List.range' 12 36) (fun x => x ≤ l.length ∧ goodS ag none l = goodS ag (GV l x) (l.drop x)) (fun x lz => (12, (iC x)) :: lz) (fun x => []) (fun x => l.length - x) (0) ?_ ?_ ?_ ?_
  repeat' first | exact k0 | refine kw ?_ | omega
  ·exact ⟨by simp, by simp [GV]⟩
  rintro i c ⟨hi, hinv⟩
  by_cases hlt : i < l.length
  ·obtain ⟨e, hv⟩ := gx hlt
   have hv2 : (l.map Sta.d)[i]? = some e.d := by rw [Ci, hv]; rfl
   rw [O9 hv] at hinv
   have hr := Kh e.key
   have hn := JK e ag hal
   by_cases h1 : e.key.length ≤ 8
   ·cases h2 : A7 e.key with
    | false =>
      rw [h2] at hr
      rw [hinv, show Eh ag e = false by unfold Eh; rw [h2]; simp]
      repeat' first | refine kz ?_ | refine AT hv2 ?_ | refine As ?_ | refine Aa (hr) ?_ | refine Aa (hn) ?_ | refine kf ?_ | refine Ay (by repeat (first | exact Ac | refine Ah BV ?_)) ?_
      all_goals rfl
    | true =>
      rw [h2] at hr
      cases h3 : Cm ag e with
      | false =>
        rw [h3] at hn
        rw [hinv, show Eh ag e = false by unfold Eh; rw [h3]; simp]
        repeat' first | refine kz ?_ | refine AT hv2 ?_ | refine As ?_ | refine Aa (hr) ?_ | refine Aa (hn) ?_ | refine kf ?_ | refine Ay (by repeat (first | exact Ac | refine Ah BV ?_)) ?_
        all_goals rfl
      | true =>
        rw [h3] at hn
        rw [show Eh ag e = true by unfold Eh; rw [h2, h3, decide_eq_true h1]; rfl, Bool.true_and] at hinv
        rcases i with _ | j
        ·have hp : GV l 0 = none := rfl
         rw [hp] at hinv
         repeat' first | refine kz ?_ | refine AT hv2 ?_ | refine As ?_ | refine Aa (hr) ?_ | refine Aa (hn) ?_ | refine kf ?_ | refine Ay (by repeat (first | exact Ac | refine Ah BV ?_)) ?_
         apply Ae (1) <;> (try dsimp only) <;> try repeat' first | exact k0 | refine kw ?_ | omega
         exact ⟨by omega, hinv⟩
        ·obtain ⟨p, hu⟩ := gx (l := l) (i := j) (by omega)
         have hu2 : (l.map Sta.d)[(((j + 1 : Nat) : Int) - 1).toNat]? = some p.d := by rw [show (((j + 1 : Nat) : Int) - 1).toNat = j by omega, Ci, hu]; rfl
         have hp : GV l (j + 1) = some p := by simp [GV, hu]
         rw [hp] at hinv
         dsimp only at hinv
         have hcm := AN p.key e.key
         by_cases hc : Ai p.key e.key < 0
         ·rw [decide_eq_true hc, Bool.true_and] at hinv
          repeat' first | refine kz ?_ | refine AT hv2 ?_ | refine AT hu2 ?_ | refine As ?_ | refine Aa (hr) ?_ | refine Aa (hn) ?_ | refine Aa (hcm) ?_ | refine kf ?_ | refine Ay (by repeat (first | exact Ac | refine Ah BV ?_)) ?_
          apply Ae (j + 1 + 1) <;> (try dsimp only) <;> try repeat' first | exact k0 | refine kw ?_ | omega
          exact ⟨by omega, hinv⟩
         ·rw [decide_eq_false hc, Bool.false_and] at hinv
          rw [hinv]
          repeat' first | refine kz ?_ | refine AT hv2 ?_ | refine AT hu2 ?_ | refine As ?_ | refine Aa (hr) ?_ | refine Aa (hn) ?_ | refine Aa (hcm) ?_ | refine kf ?_ | refine Ay (by repeat (first | exact Ac | refine Ah BV ?_)) ?_
          all_goals rfl
   ·rw [hinv, show Eh ag e = false by unfold Eh; rw [decide_eq_false h1]; simp]
    repeat' first | refine kz ?_ | refine AT hv2 ?_ | refine As ?_ | refine Aa (hr) ?_ | refine Aa (hn) ?_ | refine kf ?_ | refine Ay (by repeat (first | exact Ac | refine Ah BV ?_)) ?_
    all_goals rfl
  ·rw [hinv, QF (by omega), goodS]
   repeat' first | refine kz ?_ | refine As ?_ | refine kf ?_ | refine Ay (by repeat (first | exact Ac | refine Ah BV ?_)) ?_
   all_goals rfl
 ·have e0 : Ei ag l = false := by unfold Ei; rw [decide_eq_false hl, Bool.false_and]
  rw [e0]
  refine Ad hT Tryz.func68 Tryz.ntmps68 [.tmp 4] fun B => ?_
  repeat' first | refine kz ?_ | refine As ?_ | refine kf ?_ | refine Ay (by repeat (first | exact Ac | refine Ah BV ?_)) ?_
  all_goals rfl
end Go.Proofs.YtmpgmjlanngkfaaGreat
end
