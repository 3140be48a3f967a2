/-
  Arguments of a law that are numbers, or slices of them, as trees.
-/
import Derived.Test.YtmpgmjlanngkfaaGreatDex
import Derived.Test.YtmpgmjlanngkfaaGreatEnB
import Derived.ProofKit
import Derived.OpenShut
import Derived.SizedLaws
import Derived.Carry
import Derived.ChangeArms
import Derived.ChangeCalls
section
namespace Go.Proofs.YtmpgmjlanngkfaaGreat
open Go.Abs Go.RowKit
attribute [local irreducible] ARun Av MCall PCall HCall Ap SF CF CFs Ag Ai As fin AY VLe
set_option linter.unusedSimpArgs false
set_option maxRecDepth 100000
set_option maxHeartbeats 4000000
def Kb (z : Int) : UInt8 := UInt8.ofNat (z.emod 256).toNat
theorem Jj (z : Int) : IntKind.u8.wrap z = ((Kb z).toNat : Nat) := by
 have h1 := Int.emod_nonneg z (show (256 : Int) ≠ 0 by decide)
 have h2 := Int.emod_lt_of_pos z (show (0 : Int) < 256 by decide)
 have e : (Kb z).toNat = (z.emod 256).toNat := by
  unfold Kb
  rw [UInt8.toNat_ofNat']
  have : (z.emod 256).toNat < 256 := by
   have : z.emod 256 = z % 256 := rfl
   omega
  omega
 rw [e]
 have : z.emod 256 = z % 256 := rfl
 simp [IntKind.wrap, IntKind.bits, IntKind.signed]
 omega
def BI (n : Int) : List UInt8 := [2, Kb (CQ .i64 n 32), Kb (CQ .i64 n 24), Kb (CQ .i64 n 16), Kb (CQ .i64 n 8), Kb n]
def EM (b : UInt8) : List UInt8 := if b = 0 then [0, 255] else [b]
def CV (l : List UInt8) : List UInt8 := l.flatMap EM
def AT (v : Val) : List UInt8 :=
 if v.kind = 1 then BI (v.int + 4294967296)
 else if v.kind = 2 then 3 :: (CV v.text.data.toList ++ [0, 0])
 else [1]
theorem Pv {l : List UInt8} {i : Nat} {b : UInt8} (h : l[i]? = some b) : CV (l.take (i + 1)) = CV (l.take i) ++ EM b := by
 rw [Gm, h, CV, CV, gk]
 simp
theorem NV (l : List UInt8) : (CV l).length ≤ 2 * l.length := by
 induction l with
 | nil => simp [CV]
 | cons b l ih =>
   have : CV (b :: l) = EM b ++ CV l := by simp [CV]
   rw [this, CR, List.length_cons]
   have : (EM b).length ≤ 2 := by unfold EM; split <;> simp
   omega
theorem K3 (v : Val) (h : v.valid = true) : (AT v).length ≤ 80 := by
 unfold AT
 split
 ·simp [BI]
 ·split
  ·rename_i h1 h2
   have hs : v.text.size ≤ 32 := by
    unfold Val.valid at h
    rw [if_neg (by omega), if_neg h1, if_pos h2] at h
    simp at h
    exact h.2
   have := NV v.text.data.toList
   have e : v.text.data.toList.length = v.text.size := by simp
   simp only [List.length_cons, CR, List.length_nil]
   omega
  ·simp
theorem L5 (out : List UInt8) (v : Val) (ho : out.length ≤ 1000000) (hv : v.valid = true) :
  HC 176 [.c (.arr 0 0 out.length), .agg (v.d.map .d)] [.arr 0 5 1 (out.map OA)] (.c (.arr 0 1 (out ++ AT v).length)) [.arr 1 5 1 ((out ++ AT v).map OA)] := by
 by_cases mZ : v.kind = 1
 ·have lS : -4294967296 ≤ v.int ∧ v.int ≤ 4294967296 := by
   unfold Val.valid at hv
   rw [if_neg (by omega), if_pos mZ] at hv
   simp at hv
   exact ⟨hv.1.1, hv.1.2⟩
  obtain ⟨lS, lC⟩ := lS
  have he : AT v = BI (v.int + 4294967296) := by rw [AT, if_pos mZ]
  refine Au hT Tryz.func176 Tryz.ntmps176 [.tmp 4] fun B => ?_
  repeat' first | refine kz ?_ | refine Az rfl (fun hb => ?_) (fun hb => ?_) | refine Ao ?_ | refine kg ?_ ?_ | exact k0 | refine m1 ?_ ?_ | refine DE ?_
  ·rw [he, Ag']
   simp only [Jj, BI, List.map_cons, List.map_nil, OA]
   rfl
  ·rw [he]; simp [BI]
 ·by_cases nO : v.kind = 2
  ·have hs : v.text.size ≤ 32 := by
    unfold Val.valid at hv
    rw [if_neg (by omega), if_neg mZ, if_pos nO] at hv
    simp at hv
    exact hv.2
   have he : AT v = 3 :: (CV v.text.data.toList ++ [0, 0]) := by rw [AT, if_neg mZ, if_pos nO]
   have hl : v.text.data.toList.length = v.text.size := by simp
   generalize hL : v.text.data.toList = l at he hl
   refine Au hT Tryz.func176 Tryz.ntmps176 [.tmp 4] fun B => ?_
   repeat' first | refine kz ?_ | refine Az rfl (fun hb => ?_) (fun hb => ?_) | refine Ao ?_ | refine kg ?_ ?_ | exact k0 | refine m1 ?_ ?_ | refine DE ?_
   rw [hL]
   refine AK (X := Nat × Nat) ([0, 7] ++ List.range' 41 14) (fun x => x.1 ≤ l.length) (fun x lz => (0, .c (.arr 0 x.2 (out ++ 3 :: CV (l.take x.1)).length)) :: (41, (iC x.1)) :: lz) (fun x => [.arr x.2 5 1 ((out ++ 3 :: CV (l.take x.1)).map OA)]) (fun x => l.length - x.1) ((0, 2)) ?_ ?_ ?_ ?_
   repeat' first | exact k0 | refine kw ?_ | refine kv ?_ ?_ | omega
   ·simp [CV]
   ·simp [CV]; rfl
   rintro ⟨i, k⟩ c hi
   dsimp only at hi ⊢
   have jo := NV (l.take i)
   have qk : (l.take i).length = i := by simp; omega
   by_cases i7 : i < l.length
   ·obtain ⟨b, hv⟩ := gx i7
    have jc := Pv hv
    repeat' first | refine kz ?_ | refine Az rfl (fun hb => ?_) (fun hb => ?_) | refine AF hv ?_ | refine Ao ?_ | refine kg ?_ ?_ | exact k0 | refine m1 ?_ ?_ | refine DE ?_
    ·have n9 : b = 0 := by apply UInt8.toNat_inj.1; simpa using hb
     subst n9
     apply Af ((i + 1, _)) <;> (try dsimp only) <;> try repeat' first | exact k0 | refine w1 ?_ | refine w5 ?_ ?_ | refine m1 ?_ ?_ | omega
     ·rw [jc]; simp [EM]; omega
     ·rw [jc]; simp [EM, OA]
    ·have n9 : ¬ b = 0 := by intro q; subst q; exact hb rfl
     apply Af ((i + 1, _)) <;> (try dsimp only) <;> try repeat' first | exact k0 | refine w1 ?_ | refine w5 ?_ ?_ | refine m1 ?_ ?_ | omega
     ·rw [jc]; simp [EM, n9]; omega
     ·rw [jc]; simp [EM, OA, n9]
   ·repeat' first | refine kz ?_ | refine Az rfl (fun hb => ?_) (fun hb => ?_) | refine Ao ?_ | refine kg ?_ ?_ | exact k0 | refine m1 ?_ ?_ | refine DE ?_
    ·rw [he, Ah (by omega)]; simp [OA]
    ·rw [he, Ah (by omega)]; simp; omega
  ·have he : AT v = [1] := by rw [AT, if_neg mZ, if_neg nO]
   refine Au hT Tryz.func176 Tryz.ntmps176 [.tmp 4] fun B => ?_
   repeat' first | refine kz ?_ | refine Az rfl (fun hb => ?_) (fun hb => ?_) | refine Ao ?_ | refine kg ?_ ?_ | exact k0 | refine m1 ?_ ?_ | refine DE ?_
   ·rw [he, Ag']; rfl
   ·rw [he]; simp
def Ar (r : List Val) : List UInt8 := r.flatMap fun v => AT v.clean
theorem FX (v : Val) : v.clean.valid = true := by
 unfold Val.clean
 split
 ·assumption
 ·simp [Val.null, Val.valid, ByteArray.toList_eq]
theorem Pw {r : List Val} {i : Nat} {v : Val} (h : r[i]? = some v) : Ar (r.take (i + 1)) = Ar (r.take i) ++ AT v.clean := by
 rw [Gm, h, Ar, Ar, gk]
 simp
theorem H5 (r : List Val) : (Ar r).length ≤ 80 * r.length := by
 induction r with
 | nil => simp [Ar]
 | cons v r ih =>
   have : Ar (v :: r) = AT v.clean ++ Ar r := by simp [Ar]
   rw [this, CR, List.length_cons]
   have := K3 v.clean (FX v)
   omega
theorem CJ (r : List Val) (hr : r.length ≤ 10000) : PC 114 [.one (A0 r)] (.v (.one (.lit (.string ⟨(Ar r).toArray⟩)))) := by
 refine Ac hT Tryz.func114 Tryz.ntmps114 [.tmp 2] fun B => ?_
 repeat' first | refine kz ?_ | refine Ao ?_ | refine kf ?_ | fail
 refine Bv 3 5 1 ?_
 refine AK (X := Nat × Nat) ([3, 5] ++ List.range' 8 9) (fun x => x.1 ≤ r.length) (fun x lz => (3, .c (.arr 0 x.2 (Ar (r.take x.1)).length)) :: (8, (iC x.1)) :: lz) (fun x => [.arr x.2 5 1 ((Ar (r.take x.1)).map OA)]) (fun x => r.length - x.1) ((0, 1)) ?_ ?_ ?_ ?_
 repeat' first | exact k0 | refine kw ?_ | refine kv ?_ ?_ | omega
 rintro ⟨i, k⟩ c hi
 dsimp only at hi ⊢
 have jo := H5 (r.take i)
 have qk : (r.take i).length = i := by simp; omega
 by_cases i7 : i < r.length
 ·obtain ⟨v, hv⟩ := gx i7
  have jc := Pw hv
  repeat' first | refine kz ?_ | refine AF hv ?_ | refine Ao ?_ | refine Aa (IZ _) ?_ | refine Ae [0] (L5 (Ar (r.take i)) v.clean (by omega) (FX v)) ?_ | refine kf ?_ | fail
  apply Af ((i + 1, _)) <;> (try dsimp only) <;> try repeat' first | exact k0 | refine w1 ?_ | refine w5 ?_ ?_ | refine Ab ?_ | refine m1 ?_ ?_ | omega
  all_goals rw [jc]
 ·repeat' first | refine kz ?_ | refine Ao ?_ | refine kf ?_ | fail
  all_goals (rw [Ah (by omega)])
end Go.Proofs.YtmpgmjlanngkfaaGreat
end
section
namespace Go.Abs
open Go.ChangeShapes Go.WideShapes Go.ChangeAt Go.RowKit
variable {base : Nat}
def Ig (P : Program) (S : List TypeId) (t : TypeId) : Bool :=
 match P.underlying t with
 | some (.int _) => P.cellsOf t == 1
 | some (.slice e) => (P.cellsOf t == 1) && S.contains e && Nat.blt 0 (P.cellsOf e)
 | _ => false
def U8 (P : Program) : Nat → TypeId → List Dat → Prop
 | 0, _, _ => False
 | n + 1, t, xs => (match P.underlying t with
   | some (.int k) => ∃ z, xs = [.lit (.int k z)] ∧ (Lit.int k z).wf = true
   | some (.slice e) => ∃ es, xs = [.sl es] ∧ es.length * P.bytesOf e ≤ reachBytes ∧ ∀ el ∈ es, U8 P n e el
   | _ => False)
def dN (P : Program) (t : TypeId) (xs : List Dat) : Prop := ∃ n, U8 P n t xs
section
variable {H : Type} {enc : TypeId × Value → H} {P : Program} {w : World} {sp : Nat → Bool} {hd : Bool} {S : List TypeId}
def Y2 (w : World) (cs : List Value) (xs : List Dat) : Prop := xs.length = cs.length ∧ ∀ (j : Nat) v y, cs[j]? = some v → xs[j]? = some y → DRep (fun b => b < w.heap.size) w v y
theorem G3 : ∀ {e : TypeId} {l : List (DataW H)} {d : DataW H}, d ∈ l → ∀ x ∈ d.weights P e, x ∈ DataW.weightsAll P e l
 | e, y :: l, d, hm, x, hx => by
   simp only [DataW.weightsAll, EY]
   rcases FL.1 hm with rfl | hm
   ·exact .inl hx
   ·exact .inr (G3 hm x hx)
theorem Jt {a : Addr} {k : Nat} {cs : List Value} (h : w.cells? base a k = some cs) : cs.length = k ∧ ∀ j, j < k → w.cell? (a.add j) = cs[j]? := by
 unfold World.cells? at h
 split at h
 ·exact ⟨by simpa using mapM_some_length h, fun j hj => mapM_some_get h j j (by simp [hj])⟩
 ·cases h
theorem W6 (hS : ∀ t ∈ S, Ig P S t = true) : ∀ (n : Nat) (t : TypeId) (cs : List Value) (x : DataW H × List MemPlace), t ∈ S → DataW.trod enc P w 0 sp hd n t cs = some x → (∀ k ∈ x.1.weights P t, k ≤ reachBytes) →
   ∃ xs, Y2 w cs xs ∧ U8 P n t xs := by
 intro n
 induction n with
 | zero => intro t cs x _ h; simp [DataW.trod] at h
 | succ n ih =>
   intro t cs x ht h pC
   have hp := hS t ht
   unfold Ig at hp
   split at hp
   ·rename_i k hu
    obtain ⟨z, rfl, rfl, hz⟩ := DataW.trod_int hu h
    refine ⟨[.lit (.int k z)], ⟨rfl, fun j v y hv hy => ?_⟩, by simp only [U8, hu]; exact ⟨z, rfl, hz⟩⟩
    match j with
    | 0 => simp at hv hy; subst hv; subst hy; exact .lit _ rfl
    | j + 1 => simp at hv
   ·rename_i e hu
    simp only [BM, beq_iff_eq] at hp
    obtain ⟨⟨_, nR⟩, wg⟩ := hp
    have nR : e ∈ S := by simpa using nR
    have wg : 0 < P.cellsOf e := by simp only [Nat.blt, Md] at wg; omega
    rcases DataW.trod_slice hu h with ⟨rfl, rfl⟩ | ⟨a, len, cap, elems, rest, n', hn, rfl, rfl, _, lN, qC, hlen, jo, _, _⟩
    · refine ⟨[.sl []], ⟨rfl, fun j v y hv hy => ?_⟩, by simp only [U8, hu]; exact ⟨[], rfl, by simp, by simp⟩⟩
      match j with
      | 0 => simp at hv hy; subst hv; subst hy; exact .emp _ _
      | j + 1 => simp at hv
    · obtain rfl : n' = n := by omega
      simp only [DataW.weights, hu] at pC
      have lp : len * P.bytesOf e ≤ reachBytes := by
        have := pC _ (List.mem_cons_self ..)
        refine LX (HJ _ ?_) this
        simp; omega
      have l8 : ∀ i, i < len → ∃ jq oC, w.cells? 0 (a.add (i * P.cellsOf e)) (P.cellsOf e) = some jq ∧ Y2 w jq oC ∧ U8 P n' e oC := by
        intro i hi
        have hq := jo i hi
        rw [Bo (by omega)] at hq
        obtain ⟨jq, h1, h2⟩ := Option.bind_eq_some_iff.1 hq
        obtain ⟨oC, h3, h4⟩ := ih e jq _ nR h2 (fun k hk => pC k (dT _ (XS _ (G3 (dW (Fo _)) k hk))))
        exact ⟨jq, oC, h1, h3, h4⟩
      cases oG : len with
      | zero =>
        refine ⟨[.sl []], ⟨rfl, fun j v y hv hy => ?_⟩, by simp only [U8, hu]; exact ⟨[], rfl, by simp, by simp⟩⟩
        match j with
        | 0 => simp at hv hy; subst hv; subst hy; exact .emp _ _
        | j + 1 => simp at hv
      | succ zx =>
        have jF : ∃ F : Nat → List Value, ∀ i, i < len → ∃ oC, w.cells? 0 (a.add (i * P.cellsOf e)) (P.cellsOf e) = some (F i) ∧ Y2 w (F i) oC ∧ U8 P n' e oC := by
          refine ⟨fun i => ((w.cells? 0 (a.add (i * P.cellsOf e)) (P.cellsOf e)).getD []), fun i hi => ?_⟩
          obtain ⟨jq, oC, h1, h2, h3⟩ := l8 i hi
          exact ⟨oC, by simp only [h1, U4], by simp only [h1, U4]; exact h2, h3⟩
        obtain ⟨F, hF⟩ := jF
        have hG : ∃ G : Nat → List Dat, ∀ i, i < len → w.cells? 0 (a.add (i * P.cellsOf e)) (P.cellsOf e) = some (F i) ∧ Y2 w (F i) (G i) ∧ U8 P n' e (G i) := by
          classical
          refine ⟨fun i => if hi : i < len then Classical.choose (hF i hi) else [], fun i hi => ?_⟩
          simp only [hi, dite_true]
          exact Classical.choose_spec (hF i hi)
        obtain ⟨G, hG⟩ := hG
        obtain ⟨b, off, spot⟩ := a
        have zy := hG 0 (by omega)
        obtain ⟨g1, g2⟩ := Jt zy.1
        have mq := g2 0 wg
        have tM : spot = none := by
          have : (F 0)[0]? = some ((F 0)[0]'(by omega)) := Bo _
          rw [this] at mq
          simpa [Addr.add] using World.cell?_spot mq
        subst tM
        have jS : ∀ k, (⟨b, off, none⟩ : Addr).add k = ⟨b, off + k, none⟩ := by
          intro k; unfold Addr.add; split
          · rename_i hk; subst hk; rfl
          · rfl
        have qQ : ∀ k j, ((⟨b, off, none⟩ : Addr).add k).add j = ⟨b, off + k + j, none⟩ := by
          intro k j; rw [jS]; unfold Addr.add; split
          · rename_i hk; subst hk; rfl
          · rfl
        have hb : b < w.heap.size := by
          have : (F 0)[0]? = some ((F 0)[0]'(by omega)) := Bo _
          rw [this, qQ] at mq
          unfold World.cell? at mq
          split at mq
          · rename_i hq
            exact (Ox.1 hq).1
          · cases mq
        have nu : ((List.range len).map G).length = len := by simp
        have mH := DRep.sl (F := fun b => b < w.heap.size) (w := w) ((List.range len).map G) b off cap (P.cellsOf e) (fun i j => ((F i)[j]?).getD undef) hb (by rw [nu]; omega) qC
          (fun el rU => by
            obtain ⟨i, hi, rfl⟩ := List.mem_map.1 rU
            have := hG i (by simpa using hi)
            rw [this.2.1.1, (Jt this.1).1])
          (fun i j hi hj => by
            rw [nu] at hi
            obtain ⟨q1, q2⟩ := Jt (hG i hi).1
            have := q2 j hj
            rw [qQ] at this
            rw [this, Bo (by omega)]
            simp)
          (fun i j el y q1 q2 => by
            have hi := lt_of_getElem? q1
            rw [nu] at hi
            rw [BU, List.getElem?_range hi] at q1
            simp at q1
            subst q1
            have hr := (hG i hi).2.1
            have hj := lt_of_getElem? q2
            rw [hr.1] at hj
            exact hr.2 j _ y (by rw [Bo hj]; simp) q2)
        rw [nu] at mH
        refine ⟨[.sl ((List.range len).map G)], ⟨rfl, fun j v y hv hy => ?_⟩, ?_⟩
        · match j with
          | 0 => simp only [List.getElem?_cons_zero, Option.some.injEq] at hv hy; subst hv; subst hy; rw [← oG]; exact mH
          | j + 1 => simp at hv
        · simp only [U8, hu]
          refine ⟨_, rfl, by rw [nu]; exact lp, fun el rU => ?_⟩
          obtain ⟨i, hi, rfl⟩ := List.mem_map.1 rU
          exact (hG i (by simpa using hi)).2.2
   ·cases hp
def Y3 (P : Program) (t : TypeId) : Bool :=
 match P.underlying t with
 | some (.struct _) => true
 | some (.array _ _) => true
 | _ => false
def ic (P : Program) (t : TypeId) : PV → Prop
 | .one x => Y3 P t = false ∧ dN P t [x]
 | .agg xs => Y3 P t = true ∧ dN P t xs
def Y4 (P : Program) : List TypeId → List PV → Prop
 | [], [] => True
 | t :: ts, p :: ps => ic P t p ∧ Y4 P ts ps
 | _, _ => False
theorem Y5 (hS : ∀ t ∈ S, Ig P S t = true) {t : TypeId} (ht : t ∈ S) {v : Value} {d : DataW H} {ps : List MemPlace} (jQ : Value.okWide P w .any base t v) (h : DataW.Trod enc P w 0 sp hd t v d ps) (pC : ∀ k ∈ d.weights P t, k ≤ reachBytes) :
   ∃ p : PV, ic P t p ∧ SRep (It fun b => b < w.heap.size) w v p.s := by
 obtain ⟨n, hn⟩ := h
 obtain ⟨xs, hr, zA⟩ := W6 hS n t _ _ ht hn pC
 have wh : Y3 P t = false := by
   have hp := hS t ht
   unfold Ig at hp
   unfold Y3
   split at hp
   ·rename_i hu; rw [hu]
   ·rename_i hu; rw [hu]
   ·cases hp
 have hv : v.cells = #[v] := by
   have hp := hS t ht
   unfold Ig at hp
   split at hp
   ·rename_i hu; obtain ⟨b, rfl⟩ := okWide_int hu jQ; rfl
   ·rename_i hu; obtain ⟨a, b, c, rfl⟩ := okWide_slice hu jQ; rfl
   ·cases hp
 rw [hv] at hr
 match xs, hr with
 | [x], hr => exact ⟨.one x, ⟨wh, n, zA⟩, .c (.d (hr.2 0 v x rfl rfl))⟩
 | [], hr => have := hr.1; simp at this
 | _ :: _ :: _, hr => have := hr.1; simp at this
theorem Qf (hS : ∀ t ∈ S, Ig P S t = true) {base : Nat} : ∀ (ts : List TypeId) (vs : List Value) (ds : List (DataW H)) (ps : List MemPlace), (∀ t ∈ ts, t ∈ S) → (∀ (j : Nat) t v, ts[j]? = some t → vs[j]? = some v → Value.okWide P w .any base t v) →
   DataW.TrodAll enc P w 0 sp hd ts vs ds ps → (∀ k ∈ DataW.weightsEach P ts ds, k ≤ reachBytes) → ∃ qs : List PV, Y4 P ts qs ∧ vs.length = qs.length ∧ ∀ (i : Nat) v x, vs[i]? = some v → qs[i]? = some x → SRep (It fun b => b < w.heap.size) w v x.s
 | [], vs, ds, ps, _, _, h, _ => by
   obtain ⟨rfl, rfl, rfl⟩ := trodAll_nil h
   exact ⟨[], trivial, rfl, by simp⟩
 | t :: ts, vs, ds, ps, ht, jQ, h, pC => by
   obtain ⟨v, pX, d, wm, p, q, rfl, rfl, rfl, h1, h2⟩ := trodAll_cons h
   simp only [DataW.weightsEach, EY] at pC
   obtain ⟨pv, zB, zC⟩ := Y5 hS (ht t (by simp)) (jQ 0 t v rfl rfl) h1 (fun k hk => pC k (.inl hk))
   obtain ⟨qs, q1, q2, q3⟩ := Qf hS ts pX wm q (fun t h => ht t (by simp [h])) (fun j t v a b => jQ (j + 1) t v (by simpa using a) (by simpa using b)) h2 (fun k hk => pC k (.inr hk))
   refine ⟨pv :: qs, ⟨zB, q1⟩, by simp [q2], fun i u x hu hx => ?_⟩
   match i with
   | 0 => simp at hu hx; subst hu; subst hx; exact zC
   | i + 1 => exact q3 i u x (by simpa using hu) (by simpa using hx)
theorem Lq (hl : laidOutB P = true) {W' : World} (hb : Below w.heap.size w W') : ∀ (ts : List TypeId) (vs : List Value) (ds : List (DataW H)) (ps : List MemPlace), (∀ t ∈ ts, P.readableRec t = true ∧ t < P.types.size) → (∀ x ∈ ps, x.block < w.heap.size) →
   DataW.TrodAll enc P w 0 (fun _ => true) true ts vs ds ps → DataW.TrodAll enc P W' 0 (fun b => decide (b < w.heap.size)) true ts vs ds ps
 | [], vs, ds, ps, _, _, h => by
   obtain ⟨rfl, rfl, rfl⟩ := trodAll_nil h
   exact rfl
 | t :: ts, vs, ds, ps, ht, i7, h => by
   obtain ⟨v, pX, d, wm, p, q, rfl, rfl, rfl, h1, h2⟩ := trodAll_cons h
   exact ⟨p, q, Below.trod hl (ht t (by simp)).1 (ht t (by simp)).2 h1 hb (fun x hx => i7 x (by simp [hx])), Lq hl hb ts pX wm q (fun t h => ht t (by simp [h])) (fun x hx => i7 x (by simp [hx])) h2, rfl⟩
theorem Uw {f : FuncId} {fn : Func} {s : ChangeSpec} {tb : TypeId} {apart fresh handsOn : Bool} {args : Array Value} {ds gs : List (DataW H)} {before : List MemPlace}
  (hl : laidOutB P = true) (hS : S.all (Ig P S) = true) (wo : fn.params.toList.all (fun t => S.contains t && P.readableRec t && decide (t < P.types.size)) = true) (zD : fn.resultTypes = #[tb]) (u9 : P.underlying tb = some .bool)
  (qR : s.vars = []) (mS : ∀ ds : List (DataW H), ds.length = fn.params.size → (s.fn H ds).results = [.lit (.bool true)] ∧ (s.fn H ds).args = ds ∧ (s.fn H ds).vars = [])
  (jd : ∀ ps, Y4 P fn.params.toList ps → PCall P f ps (.v (.one (.lit (.bool true)))))
  (jQ : ∀ (j : Nat) t v, fn.params[j]? = some t → args[j]? = some v → Value.okWide P w .any base t v)
  (hW : DataW.Whole enc P fn.params.toList s.vars apart w args.toList ds gs before)
  (j3 : (DataW.weightsEach P (fn.params.toList ++ s.plain.varTypes P) (ds ++ gs)).all (· ≤ reachBytes) = true) :
  Calls P f args w fun e W' => ∃ v, e = .returned v ∧ s.post enc P fn apart fresh handsOn false w args v W' := by
 have zF := hW
 have i7 := hW.lt
 obtain ⟨p, q, hA, hV, rfl, qS, mQ⟩ := hW
 rw [qR] at hV
 obtain ⟨rfl, rfl⟩ := trodVars_none hV
 have hlen := Go.trodAll_length hA
 have xN : ∀ t ∈ fn.params.toList, t ∈ S ∧ P.readableRec t = true ∧ t < P.types.size := by
  intro t ht
  have := Eg.1 wo t ht
  simp only [BM, decide_eq_true_eq] at this
  exact ⟨by simpa using this.1.1, this.1.2, this.2⟩
 have pC : ∀ k ∈ DataW.weightsEach P fn.params.toList ds, k ≤ reachBytes := by
  intro k hk
  have jt : k ∈ DataW.weightsEach P (fn.params.toList ++ s.plain.varTypes P) (ds ++ []) := by
    have key : ∀ (ts us : List TypeId) (ds : List (DataW H)), k ∈ DataW.weightsEach P ts ds → k ∈ DataW.weightsEach P (ts ++ us) ds := by
     intro ts
     induction ts with
     | nil => intro us ds h; cases ds <;> simp [DataW.weightsEach] at h
     | cons t ts ih =>
       intro us ds h
       cases ds with
       | nil => simp [DataW.weightsEach] at h
       | cons d ds =>
         simp only [DataW.weightsEach, EY, List.cons_append] at h ⊢
         exact h.imp id (ih us ds)
    rw [List.append_nil]
    exact key _ _ _ hk
  have := Eg.1 j3 k jt
  simpa using this
 obtain ⟨qs, h1, h2, h3⟩ := Qf (fun t ht => Eg.1 hS t ht) fn.params.toList args.toList ds p (fun t ht => (xN t ht).1) (fun j t v a b => jQ j t v (by simpa using a) (by simpa using b)) hA pC
 have hc := (jd qs h1).2 (fun b => b < w.heap.size) w args.toList (fun _ h => h) h2 h3
 simp only [Array.toArray_toList] at hc
 refine Calls.mono hc fun e W' he => ?_
 obtain ⟨v, rfl, hb, hr⟩ := he
 have hv : v = .bool true := hr.lit_inv
 subst hv
 obtain ⟨f1, f2, f3⟩ := mS (ds ++ []) (by simp only [List.append_nil]; have := hlen.2; simpa using this)
 refine ⟨_, rfl, ds, [], p ++ [], [], p, [], zF, ?_, ?_, ?_, hb.b.frame _, fun h => by cases h⟩
 ·rw [f1, zD]
  exact trodAll_mk1 (shut_bool u9 true)
 ·rw [f2]
  simp only [List.append_nil]
  exact Lq hl hb.b _ _ _ _ (fun t ht => (xN t ht).2) (fun x hx => i7 x (by simp [hx])) hA
 ·rw [f3, qR]
  exact rfl
end
end Go.Abs
end
