/-
  Algebra: Map.
-/
import Derived.Test.YtmpgmjlanngkfaaGreatTyB
import Derived.Test.YtmpgmjlanngkfaaGreatAlc
import Derived.Test.YtmpgmjlanngkfaaGreatRej
import Derived.Test.YtmpgmjlanngkfaaGreatNrm
import Derived.Test.YtmpgmjlanngkfaaGreatExn
import Derived.Test.YtmpgmjlanngkfaaGreatJor
import Derived.Test.YtmpgmjlanngkfaaGreatJoj
import Derived.Test.YtmpgmjlanngkfaaGreatExg
import Derived.Test.YtmpgmjlanngkfaaGreatExm
section
namespace Go.Proofs.YtmpgmjlanngkfaaGreat
open Go.Abs Go.RowKit
attribute [local irreducible] ARun At MCall PCall HCall Am SF CF CFs Ah Aj Ar fin AW VLe
set_option linter.unusedSimpArgs false
set_option maxRecDepth 100000
set_option maxHeartbeats 4000000
def av (l : List Int) : Dat := .sl (l.map fun n => [.lit (.int .i64 n)])
theorem Xj (g : FuncId) (p : Entry → Bool) (hg : ∀ e : Entry, PCall Tryz.prog g [.agg e.d] (.v (.one (.lit (.bool (p e)))))) (b : List Entry) :
   ∃ k : Int, (0 ≤ k ↔ b.any p = true) ∧ PCall Tryz.prog 230 [.one (Ap b), .one (.lit (.func (.func g) #[] #[]))] (.v (.one (.lit (.int .i64 k)))) := by
 have key : ∀ K : Int, (∀ i e, b[i]? = some e → p e = true → (b.take i).all (fun e => !p e) = true → K = i) → (b.all (fun e => !p e) = true → K = -1) →
    PCall Tryz.prog 230 [.one (Ap b), .one (.lit (.func (.func g) #[] #[]))] (.v (.one (.lit (.int .i64 K)))) := by
   intro K hK1 hK2
   refine Ac hT Tryz.func230 Tryz.ntmps230 [.tmp 4] fun B => ?_
   refine fsq 0 rfl fun hlr => ?_
   simp only [List.length_map, maxLen] at hlr
   repeat' (first | refine kz ?_ | refine ki ?_ | refine kf ?_ | fail)
   refine AO (X := Nat) [4, 5, 8, 9, 10, 11, 12, 13, 14, 15, 16, 17, 18] (fun x => x ≤ b.length ∧ (b.take x).all (fun e => !p e) = true) (fun x lz => (8, (.c (.d (.lit (.int .i64 x))))) :: lz) (fun x => []) (fun x => b.length - x) (0) ?_ ?_ ?_ ?_
   repeat' (first | exact k0 | refine kw ?_ | omega)
   ·exact ⟨by simp, by simp⟩
   rintro i c ⟨hi, hinv⟩
   by_cases hlt : i < b.length
   ·have hv : b[i]? = some b[i] := List.getElem?_eq_getElem hlt
    generalize b[i] = e at hv
    have htk : ∀ f : Entry → Bool, (b.take (i + 1)).all f = ((b.take i).all f && f e) := fun f => by rw [List.take_add_one, hv, List.all_append]; simp
    have hge := hg e
    have hk1 := hK1 i e hv
    cases hp : p e
    ·rw [hp] at hge
     repeat' (first | refine kz ?_ | refine kx hv ?_ | refine ki ?_ | refine Aa (hge) ?_ | refine kf ?_ | fail)
     (apply Ae (i + 1); all_goals (try dsimp only); all_goals (try (repeat' (first | exact k0 | refine kw ?_ | omega))))
     exact ⟨by omega, by rw [htk, hinv, hp]; rfl⟩
    ·rw [hp] at hge
     rw [hk1 hp hinv]
     repeat' (first | refine kz ?_ | refine kx hv ?_ | refine ki ?_ | refine Aa (hge) ?_ | refine kf ?_ | fail)
     all_goals rfl
   ·have hie : i = b.length := by omega
    subst hie
    rw [List.take_length] at hinv
    rw [hK2 hinv]
    repeat' (first | refine kz ?_ | refine ki ?_ | refine kf ?_ | fail)
    all_goals rfl
 cases hf : b.findIdx? p with
 | none =>
   refine ⟨-1, ?_, key (-1) (fun i e he hp _ => ?_) (fun _ => rfl)⟩
   ·have : b.any p = false := by
     rw [List.any_eq_false]
     intro x hx
     have := List.findIdx?_eq_none_iff.1 hf x hx
     simpa using this
    rw [this]; simp
   ·have := List.findIdx?_eq_none_iff.1 hf e (List.mem_of_getElem? he)
    rw [hp] at this; cases this
 | some j =>
   obtain ⟨hj, hpj, hlt⟩ := List.findIdx?_eq_some_iff_getElem.1 hf
   refine ⟨j, ?_, key j (fun i e he hp hall => ?_) (fun hall => ?_)⟩
   ·have : b.any p = true := List.any_eq_true.2 ⟨_, List.getElem_mem hj, hpj⟩
    rw [this]; simp
   ·obtain ⟨hil, hie⟩ := List.getElem?_eq_some_iff.1 he
    rcases Nat.lt_trichotomy i j with h | h | h
    ·exact absurd (by rw [hie]; exact hp) (hlt i h)
    ·rw [h]
    ·have hm : b[j] ∈ b.take i := by
       rw [List.mem_take_iff_getElem]
       exact ⟨j, by omega, rfl⟩
     have := List.all_eq_true.1 hall _ hm
     rw [hpj] at this; cases this
   ·have := List.all_eq_true.1 hall _ (List.getElem_mem hj)
    rw [hpj] at this; cases this
theorem MO (g : FuncId) (p : Entry → Bool) (hg : ∀ e : Entry, PCall Tryz.prog g [.agg e.d] (.v (.one (.lit (.bool (p e)))))) (b : List Entry) :
  PCall Tryz.prog 191 [.one (Ap b), .one (.lit (.func (.func g) #[] #[]))] (.v (.one (.lit (.bool (b.any p))))) := by
 obtain ⟨k, hk, hc⟩ := Xj g p hg b
 refine Ac hT Tryz.func191 Tryz.ntmps191 [.tmp 4] fun B => ?_
 repeat' (first | refine kz ?_ | refine Aa (hc) ?_ | refine kf ?_ | fail)
 refine congrArg Dat.lit (congrArg Value.bool ?_)
 rw [Bool.eq_iff_iff, decide_eq_true_eq]
 exact hk
def YZ (cols : List Int) (e : Entry) : Entry := ⟨cols.map (EH e.row), e.count⟩
def Z8 (b : List Entry) (cols : List Int) : List Entry × Int :=
 if Al b && (decide (cols.length ≤ 8) && cols.all fun n => decide (0 ≤ n)) then Bl (b.map (YZ cols)) else ([], 1)
def Bw (q : List Entry × Int) : PRes := .tup [.one (Ap q.1), .one (.lit (.int .i64 q.2))]
theorem MD (e : Entry) : PCall Tryz.prog 192 [.agg e.d] (.v (.one (.lit (.bool (decide (8 < (e.row.length : Int))))))) := by
 refine Ac hT Tryz.func192 Tryz.ntmps192 [.tmp 2] fun B => ?_
 repeat' (first | refine kz ?_ | refine kf ?_ | fail)
 all_goals rfl
theorem Jt (b : List Entry) : PCall Tryz.prog 142 [.one (Ap b)] (.v (.one (.lit (.bool (Bx b))))) := by
 have hc := MO 192 _ MD b
 have hv := BX b
 have hn : Bx b = (Al b && !(b.any fun e => decide (8 < (e.row.length : Int)))) := by
  unfold Bx
  rw [Bool.and_comm]
  congr 1
  rw [List.not_any_eq_all_not]
  congr 1
  funext e
  rw [Bool.eq_iff_iff]
  simp
  omega
 rw [hn]
 cases h : Al b <;> rw [h] at hv
 ·refine Ac hT Tryz.func142 Tryz.ntmps142 [.tmp 2] fun B => ?_
  repeat' (first | refine kz ?_ | refine Aa (hv) ?_ | refine Aa (hc) ?_ | refine kf ?_ | fail)
  all_goals rfl
 ·refine Ac hT Tryz.func142 Tryz.ntmps142 [.tmp 2] fun B => ?_
  repeat' (first | refine kz ?_ | refine Aa (hv) ?_ | refine Aa (hc) ?_ | refine kf ?_ | fail)
  all_goals rfl
theorem GN : DeferOk Tryz.prog 141 0 := by
 refine ⟨⟨_, Tryz.func141, by kernel_rfl, by kernel_rfl⟩, fun vs w hl => ?_⟩
 match vs, hl with
 | [], _ =>
   refine callsD_of_wpS Tryz.func141 rfl fun c₀ cs hu => ?_
   apply wpS_region
   simp [wpOpsS, go_sem, recoverD, hu, Tryz.ntmps141, Exit.thenS]
   cases c₀
   simp_all [bodyPostS, results, Tryz.results141]
theorem QI (a b : List Entry) (on : List (Int × Int)) (hon : on.length ≤ 10000) : PCall Tryz.prog 89 [.one (Ap a), .one (Ap b), .one (RX on)] (Y3 (Eb a b on)) := by
 have hna := Jt a
 have hnb := Jt b
 unfold Eb
 cases na : Bx a
 ·rw [na] at hna
  refine Ac hT Tryz.func89 Tryz.ntmps89 [.tmp 6, .tmp 7] fun B => ?_
  repeat' (first | refine kz ?_ | refine Aa (hna) ?_ | refine Ay (by repeat (first | exact Af | refine Aq GN ?_)) ?_ ?_ | refine kf ?_ | fail)
  all_goals rfl
 cases nb : Bx b
 ·rw [na] at hna
  rw [nb] at hnb
  refine Ac hT Tryz.func89 Tryz.ntmps89 [.tmp 6, .tmp 7] fun B => ?_
  repeat' (first | refine kz ?_ | refine Aa (hna) ?_ | refine Aa (hnb) ?_ | refine Ay (by repeat (first | exact Af | refine Aq GN ?_)) ?_ ?_ | refine kf ?_ | fail)
  all_goals rfl
 rw [na] at hna
 rw [nb] at hnb
 rw [Bool.and_self, if_pos rfl]
 obtain ⟨al, am⟩ := Df na
 obtain ⟨bl, bm⟩ := Df nb
 have hs := Ro on na nb
 have hj := XH a b on al bl hon (fun e he => ⟨(am e he).1, (am e he).2.1⟩) (fun e he => ⟨(bm e he).1, (bm e he).2.1⟩) ((CI (sumR (A7 a b on))).1, ((CI (sumR (A7 a b on))).2 : Int)) (by
  cases hf : NK a b on with
  | none => rw [hf] at hs; simp only at hs ⊢; rw [hs]; rfl
  | some r =>
    rw [hf] at hs
    obtain ⟨rs, h1, h2, h3⟩ := hs
    refine ⟨rs, h1, h2, ?_⟩
    rw [h3]
    split <;> rfl)
 simp only at hj
 generalize CI (sumR (A7 a b on)) = R at hj ⊢
 refine Ac hT Tryz.func89 Tryz.ntmps89 [.tmp 6, .tmp 7] fun B => ?_
 repeat' (first | refine kz ?_ | refine Aa (hna) ?_ | refine Aa (hnb) ?_ | refine Aa (hj) ?_ | refine Ay (by repeat (first | exact Af | refine Aq GN ?_)) ?_ ?_ | refine kf ?_ | fail)
 all_goals rfl
def FB (a b : List Entry) (on : List (Int × Int)) : List Entry × Int := ((Eb a b on).1, ((Eb a b on).2 : Int))
theorem Xd (a b : List Entry) (on : List (Int × Int)) (hon : on.length ≤ 10000) : PCall Tryz.prog 89 [.one (Ap a), .one (Ap b), .one (RX on)] (.tup [.one (Ap (FB a b on).1), .one (.lit (.int .i64 (FB a b on).2))]) := QI a b on hon
theorem Gp : DeferOk Tryz.prog 147 0 := by
 refine ⟨⟨_, Tryz.func147, by kernel_rfl, by kernel_rfl⟩, fun vs w hl => ?_⟩
 match vs, hl with
 | [], _ =>
   refine callsD_of_wpS Tryz.func147 rfl fun c₀ cs hu => ?_
   apply wpS_region
   simp [wpOpsS, go_sem, recoverD, hu, Tryz.ntmps147, Exit.thenS]
   cases c₀
   simp_all [bodyPostS, results, Tryz.results147]
def FE (items : List (List Trm)) (e : Entry) : Entry := ⟨items.map fun t => Ek t e.row, e.count⟩
def Da (b : List Entry) (items : List (List Trm)) : List Entry × Int :=
 if Al b && decide (items.length ≤ 8) then Bl (b.map (FE items)) else ([], 1)
theorem YV (b : List Entry) (items : List (List Trm)) : PCall Tryz.prog 91 [.one (Ap b), .one (Ey items)] (Bw (Da b items)) := by
 have hv := BX b
 by_cases hil : 8 < items.length
 ·rw [show Da b items = ([], 1) by rw [Da, decide_eq_false (by omega), Bool.and_false]; rfl]
  refine Ac hT Tryz.func91 Tryz.ntmps91 [.tmp 4, .tmp 5] fun B => ?_
  repeat' (first | refine kz ?_ | refine ki ?_ | refine kf ?_ | refine Ay (by repeat (first | exact Af | refine Aq Gp ?_)) ?_ ?_)
  all_goals rfl
 cases hb : Al b
 ·rw [show Da b items = ([], 1) by rw [Da, hb]; rfl]
  rw [hb] at hv
  refine Ac hT Tryz.func91 Tryz.ntmps91 [.tmp 4, .tmp 5] fun B => ?_
  repeat' (first | refine kz ?_ | refine ki ?_ | refine Aa (hv) ?_ | refine kf ?_ | refine Ay (by repeat (first | exact Af | refine Aq Gp ?_)) ?_ ?_)
  all_goals rfl
 rw [hb] at hv
 obtain ⟨bl, bm⟩ := AZ hb
 have hpe : Da b items = Bl (b.map (FE items)) := by rw [Da, hb, decide_eq_true (by omega)]; rfl
 rw [hpe]
 have hno := HG (b.map (FE items)) (by simp; omega)
 generalize hN : Bl (b.map (FE items)) = R at hno ⊢
 clear hN hpe
 unfold Ey
 refine Ac hT Tryz.func91 Tryz.ntmps91 [.tmp 4, .tmp 5] fun B => ?_
 repeat' (first | refine kz ?_ | refine ki ?_ | refine Aa (hv) ?_ | refine kf ?_ | refine Ay (by repeat (first | exact Af | refine Aq Gp ?_)) ?_ ?_)
 refine BA 6 56 2 ?_
 refine AO (X := Nat × Nat) [6, 8, 9, 10, 11, 22, 23, 24, 25, 26, 27, 28, 29, 30, 31, 32, 33, 34, 35, 36, 37, 38, 39, 40, 41, 42, 43, 44, 45, 46, 47, 48, 49, 50, 51] (fun x => x.1 ≤ b.length) (fun x lz => (6, .c (.arr 0 x.2 (b.take x.1).length)) :: (22, (.c (.d (.lit (.int .i64 x.1))))) :: lz) (fun x => [.arr x.2 56 2 (((b.take x.1).map (FE items)).map Entry.d)]) (fun x => b.length - x.1) ((0, 1)) ?_ ?_ ?_ ?_
 repeat' (first | exact k0 | refine kw ?_ | refine kv ?_ ?_ | omega)
 rintro ⟨i, k⟩ c0 hi
 dsimp only at hi ⊢
 by_cases hlt2 : i < b.length
 ·have hx : b[i]? = some b[i] := List.getElem?_eq_getElem hlt2
  generalize b[i] = e at hx
  have htk : b.take (i + 1) = b.take i ++ [e] := by rw [List.take_add_one, hx]; rfl
  have htl : (b.take i).length = i := by simp; omega
  repeat' (first | refine kz ?_ | refine kx hx ?_ | refine ki ?_ | refine kf ?_ | refine kg ?_ ?_ | fail)
  refine AO (X := Nat) [10, 11, 31, 32, 33, 34, 35, 36, 37, 38, 39, 40, 41, 42, 43] (fun x => x ≤ items.length) (fun x lz => (31, (.c (.d (.lit (.int .i64 x))))) :: lz) (fun x => [.arr k 56 2 (((b.take i).map (FE items)).map Entry.d), .box (c0 + 1) [.d (AU e.row), .d (.lit (.int .i64 e.count))], .arr (c0 + 1 + 1) 73 3 (((items.take x).map fun t => (Ek t e.row).d) ++ List.replicate (items.length - x) Val.null.d)]) (fun x => items.length - x) (0) ?_ ?_ ?_ ?_
  repeat' (first | exact k0 | refine kw ?_ | refine kv ?_ ?_ | omega)
  rintro j c hj
  by_cases hlt3 : j < items.length
  ·have hy : items[j]? = some items[j] := List.getElem?_eq_getElem hlt3
   generalize items[j] = t at hy
   have hy2 : (items.map fun s => [AK s])[j]? = some [AK t] := by rw [List.getElem?_map, hy]; rfl
   have htk2 : items.take (j + 1) = items.take j ++ [t] := by rw [List.take_add_one, hy]; rfl
   have hat := Hx t e.row
   have hrep : List.replicate (items.length - j) Val.null.d = Val.null.d :: List.replicate (items.length - (j + 1)) Val.null.d := by rw [show items.length - j = (items.length - (j + 1)) + 1 by omega, List.replicate_succ]
   have he : (((items.take j).map fun t => (Ek t e.row).d) ++ List.replicate (items.length - j) Val.null.d)[j]? = some Val.null.d := by rw [hrep, List.getElem?_append_right (by simp; omega)]; simp [Nat.min_eq_left hj]
   have hset : (((items.take j).map fun t => (Ek t e.row).d) ++ List.replicate (items.length - j) Val.null.d).set j (Ek t e.row).d = ((items.take (j + 1)).map fun t => (Ek t e.row).d) ++ List.replicate (items.length - (j + 1)) Val.null.d := by
     rw [hrep, List.set_append_right _ _ (by simp; omega), htk2]; simp [Nat.min_eq_left hj]
   repeat' (first | refine kz ?_ | refine kx hx ?_ | refine kx hy2 ?_ | refine kx he ?_ | refine ki ?_ | refine Aa (hat) ?_ | refine kf ?_ | refine kg ?_ ?_ | fail)
   (apply Ae (j + 1); all_goals (try dsimp only); all_goals (try (repeat' (first | exact k0 | refine kw ?_ | refine kv ?_ ?_ | omega))))
   exact hset
  ·have hje : j = items.length := by omega
   subst hje
   have hcf : CFrs 2 (c0 + 1 + 1) (((items.take items.length).map fun t => (Ek t e.row).d) ++ List.replicate (items.length - items.length) Val.null.d) [.arr 2 (c0 + 1 + 1) items.length, .d (.lit (.int .i64 e.count))] (FE items e).d := ⟨.inl ⟨_, rfl, by simp, by rw [List.take_of_length_le (by simp)]; simp [FE, AU, List.map_map, Function.comp_def]⟩, .inr rfl, trivial⟩
   repeat' (first | refine kz ?_ | refine kx hx ?_ | refine ki ?_ | refine La 2 ?_ hcf | refine kf ?_ | refine kg ?_ ?_ | fail)
   (apply Ae ((i + 1, _)); all_goals (try dsimp only); all_goals (try (repeat' (first | exact k0 | refine w1 ?_ | refine Ab ?_ | refine m1 ?_ ?_ | omega))))
   rw [htk]; simp
 ·have hie : i = b.length := by omega
  subst hie
  rw [List.take_length]
  repeat' (first | refine Aw 6 ?_ (hes := show List.take b.length ((b.map (FE items)).map Entry.d) = (b.map (FE items)).map Entry.d from List.take_of_length_le (by simp)) | refine kz ?_ | refine ki ?_ | refine Aa (hno) ?_ | refine LQ ?_ | refine Gw ?_ | refine Ay (by repeat (first | exact Af | refine Aq Gp ?_)) ?_ ?_ | refine Bo ?_ | refine BR ?_)
  all_goals rfl
theorem NF (items : List (List Trm)) (row : List Val) (hil : items.length ≤ 8) : PCall Tryz.prog 139 [.one (Ey items), .one (AU row)] (.v (.one (AU (items.map fun t => Ek t row)))) := by
 have hf : List.take items.length ((items.map fun t => Ek t row).map Val.d) = (items.map fun t => Ek t row).map Val.d := Ag (by simp)
 unfold Ey
 refine Ac hT Tryz.func139 Tryz.ntmps139 [.tmp 4] fun B => ?_
 repeat' (first | refine kz ?_ | refine ki ?_ | refine kf ?_ | fail)
 refine BA 5 73 3 ?_
 refine AO (X := Nat × Nat) [5, 6, 7, 8, 9, 10, 11, 12, 13, 14, 15, 16, 17, 18, 19, 20, 21] (fun x => x.1 ≤ items.length) (fun x lz => (5, .c (.arr 0 x.2 x.1)) :: (6, (.c (.d (.lit (.int .i64 x.1))))) :: lz) (fun x => [.arr x.2 73 3 (((items.take x.1).map fun t => Ek t row).map Val.d)]) (fun x => items.length - x.1) ((0, 1)) ?_ ?_ ?_ ?_
 repeat' (first | exact k0 | refine kw ?_ | refine kv ?_ ?_ | omega)
 rintro ⟨j, k⟩ c hj
 dsimp only at hj ⊢
 have hjl : (items.take j).length = j := by simp; omega
 by_cases hlt : j < items.length
 ·have hy : items[j]? = some items[j] := List.getElem?_eq_getElem hlt
  generalize items[j] = t at hy
  have hy2 : (items.map fun s => [AK s])[j]? = some [AK t] := by rw [List.getElem?_map, hy]; rfl
  have htk : items.take (j + 1) = items.take j ++ [t] := by rw [List.take_add_one, hy]; rfl
  have hat := Gn t row
  repeat' (first | refine kz ?_ | refine kx hy2 ?_ | refine ki ?_ | refine Aa (hat) ?_ | refine kf ?_ | fail)
  (apply Ae ((j + 1, _)); all_goals (try dsimp only); all_goals (try (repeat' (first | exact k0 | refine w1 ?_ | refine Ab ?_ | refine m1 ?_ ?_ | omega))))
  all_goals (rw [htk, List.map_append, List.map_append]; rfl)
 ·obtain rfl : j = items.length := by omega
  rw [List.take_length]
  repeat' (first | refine Aw 5 ?_ (hes := hf) | refine kz ?_ | refine ki ?_ | refine A4 Af ?_ | refine Bo ?_)
  all_goals rfl
theorem Tr (b : List Entry) (items : List (List Trm)) : PCall Tryz.prog 84 [.one (Ap b), .one (Ey items)] (Bw (Da b items)) := by
 have hv := BL b
 cases hb : Al b
 ·rw [show Da b items = ([], 1) by rw [Da, hb]; rfl]
  rw [hb] at hv
  refine Ac hT Tryz.func84 Tryz.ntmps84 [.tmp 4, .tmp 5] fun B => ?_
  repeat' (first | refine kz ?_ | refine ki ?_ | refine Aa (hv) ?_ | refine kg ?_ ?_ | refine kf ?_ | fail)
  all_goals rfl
 rw [hb] at hv
 by_cases hil : 8 < items.length
 ·rw [show Da b items = ([], 1) by rw [Da, decide_eq_false (by omega), Bool.and_false]; rfl]
  unfold Ey
  refine Ac hT Tryz.func84 Tryz.ntmps84 [.tmp 4, .tmp 5] fun B => ?_
  repeat' (first | refine kz ?_ | refine ki ?_ | refine Aa (hv) ?_ | refine kg ?_ ?_ | refine kf ?_ | fail)
  all_goals rfl
 obtain ⟨bl, bm⟩ := AZ hb
 have hpe : Da b items = Bl (b.map (FE items)) := by rw [Da, hb, decide_eq_true (by omega)]; rfl
 rw [hpe]
 have hno := Eq (b.map (FE items)) (by simp; omega)
 generalize hN : Bl (b.map (FE items)) = R at hno ⊢
 clear hN hpe
 have hil' : ((items.map fun s => [AK s]) : List (List Dat)).length = items.length := List.length_map _
 refine Ac hT Tryz.func84 Tryz.ntmps84 [.tmp 4, .tmp 5] fun B => ?_
 repeat' (first | refine kz ?_ | refine ki ?_ | refine Aa (hv) ?_ | refine kg ?_ ?_ | refine kf ?_ | fail)
 refine BA 6 56 2 ?_
 refine AO (X := Nat × Nat) [6, 7, 16, 17, 18, 19, 20, 21, 22, 23, 24, 25, 26, 27, 28, 29, 30, 31, 32, 33, 34, 35, 36, 37] (fun x => x.1 ≤ b.length) (fun x lz => (6, .c (.arr 0 x.2 (b.take x.1).length)) :: (7, (.c (.d (.lit (.int .i64 x.1))))) :: lz) (fun x => [.arr x.2 56 2 (((b.take x.1).map (FE items)).map Entry.d)]) (fun x => b.length - x.1) ((0, 1)) ?_ ?_ ?_ ?_
 repeat' (first | exact k0 | refine kw ?_ | refine kv ?_ ?_ | omega)
 rintro ⟨i, k⟩ c hi
 dsimp only at hi ⊢
 by_cases hlt2 : i < b.length
 ·have hx : b[i]? = some b[i] := List.getElem?_eq_getElem hlt2
  generalize b[i] = e at hx
  have htk : b.take (i + 1) = b.take i ++ [e] := by rw [List.take_add_one, hx]; rfl
  have htl : (b.take i).length = i := by simp; omega
  have hval := NF items e.row (by omega)
  repeat' (first | refine kz ?_ | refine kx hx ?_ | refine ki ?_ | refine Aa (hval) ?_ | refine kg ?_ ?_ | refine kf ?_ | fail)
  (apply Ae ((i + 1, _)); all_goals (try dsimp only); all_goals (try (repeat' (first | exact k0 | refine w1 ?_ | refine Ab ?_ | refine m1 ?_ ?_ | omega))))
  all_goals (rw [htk]; simp [FE, Entry.d])
 ·have hie : i = b.length := by omega
  subst hie
  rw [List.take_length]
  repeat' (first | refine Aw 6 ?_ (hes := show List.take b.length ((b.map (FE items)).map Entry.d) = (b.map (FE items)).map Entry.d from List.take_of_length_le (by simp)) | refine kz ?_ | refine ki ?_ | refine Aa (hno) ?_ | refine Ay Af ?_ ?_ | refine Bo ?_ | refine BR ?_)
  all_goals rfl
end Go.Proofs.YtmpgmjlanngkfaaGreat
end
