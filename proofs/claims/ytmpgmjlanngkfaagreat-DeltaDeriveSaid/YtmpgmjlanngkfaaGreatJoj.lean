/-
  Algebra: join.
-/
import Derived.Test.YtmpgmjlanngkfaaGreatJop
import Derived.Test.YtmpgmjlanngkfaaGreatRej
section
namespace Go.Proofs.YtmpgmjlanngkfaaGreat
open Go.Abs Go.RowKit
attribute [local irreducible] ARun At MCall PCall HCall Am SF CF CFs Ah Aj Ar fin AW VLe
set_option linter.unusedSimpArgs false
set_option maxRecDepth 100000
set_option maxHeartbeats 4000000
abbrev PL := List (Bs × Nat × List (Bs × Int))
def K1 (L : PL) : List (Value × Cell) := L.mapIdx fun i e => (.string ⟨e.1.toArray⟩, .arr (i + 2) e.2.1 e.2.2.length)
def OF (L : PL) : List Blk := L.map fun e => .arr e.2.1 200 2 (e.2.2.map Gr)
def Vu (L : PL) : List (Value × Dat) := L.map fun e => (.string ⟨e.1.toArray⟩, .sl (e.2.2.map Gr))
theorem Qi {L : PL} {i : Nat} {e : Bs × Nat × List (Bs × Int)} (h : L[i]? = some e) : (K1 L)[i]? = some (.string ⟨e.1.toArray⟩, .arr (i + 2) e.2.1 e.2.2.length) := by simp [K1, h]
theorem Qj {L : PL} {i : Nat} {e : Bs × Nat × List (Bs × Int)} (h : L[i]? = some e) : (OF L)[i]? = some (.arr e.2.1 200 2 (e.2.2.map Gr)) := by simp [OF, h]
theorem HB (L : PL) : ∀ e ∈ K1 L, IK e.1 := fun e he => by
 simp only [K1, List.mem_mapIdx] at he
 obtain ⟨i, hi, rfl⟩ := he
 exact ⟨_, rfl⟩
theorem Qk {L : PL} {c : Bs} (h : ∀ e ∈ L, e.1 ≠ c) : ∀ e ∈ K1 L, e.1 ≠ Value.string ⟨c.toArray⟩ := fun e he q => by
 simp only [K1, List.mem_mapIdx] at he
 obtain ⟨i, hi, rfl⟩ := he
 exact h _ (List.getElem_mem hi) (JR q)
theorem Vv {L : PL} {j k : Nat} {c : Bs} {A : List (Bs × Int)} {e : Bs × Nat × List (Bs × Int)} (hj : L[j]? = some e) : (K1 L).set j (.string ⟨c.toArray⟩, .arr (j + 2) k A.length) = K1 (L.set j (c, k, A)) := by
 apply List.ext_getElem?
 intro i
 by_cases hij : j = i
 ·subst hij
  rw [List.getElem?_set_self (by have := lt_of_getElem? hj; simpa [K1] using this), Qi (List.getElem?_set_self (lt_of_getElem? hj))]
 ·rw [List.getElem?_set_ne hij]
  simp [K1, List.getElem?_set_ne hij]
theorem Vx (L : PL) (j k : Nat) (c : Bs) (A : List (Bs × Int)) : (OF L).set j (.arr k 200 2 (A.map Gr)) = OF (L.set j (c, k, A)) := by simp [OF, List.map_set]
theorem TK (L : PL) (k : Nat) (c : Bs) (A : List (Bs × Int)) : K1 L ++ [(.string ⟨c.toArray⟩, .arr (L.length + 2) k A.length)] = K1 (L ++ [(c, k, A)]) := by simp [K1, List.mapIdx_append]
theorem TL (L : PL) (k : Nat) (c : Bs) (A : List (Bs × Int)) : OF L ++ [.arr k 200 2 (A.map Gr)] = OF (L ++ [(c, k, A)]) := by simp [OF]
theorem Vy (L : PL) : (OF L).length = L.length := by simp [OF]
structure POk (b : List Entry) (on2 : List Int) (L : PL) : Prop where
 here : ∀ e ∈ L, e.2.2 = CO b on2 e.1 ∧ e.2.2 ≠ []
 not : ∀ key, (∀ e ∈ L, e.1 ≠ key) → CO b on2 key = []
theorem POk.other {b : List Entry} {on2 : List Int} {L : PL} (h : POk b on2 L) {y : Entry} (hy : DN y.row on2 = none) : POk (b ++ [y]) on2 L :=
 ⟨fun e he => by rw [Cm, hy]; simpa using h.here e he, fun key hk => by rw [Cm, hy]; simpa using h.not key hk⟩
theorem POk.old {b : List Entry} {on2 : List Int} {L : PL} (h : POk b on2 L) {y : Entry} {key : Bs} (hy : DN y.row on2 = some key) {j k : Nat} {e : Bs × Nat × List (Bs × Int)} (hj : L[j]? = some e) (hk : e.1 = key) (hnd : (L.map Prod.fst).Nodup) (_ : True) : POk (b ++ [y]) on2 (L.set j (key, k, e.2.2 ++ [BQ y])) := by
 have hl := lt_of_getElem? hj
 refine ⟨fun x hx => ?_, fun key' hk' => ?_⟩
 ·obtain ⟨i, hi⟩ := List.mem_iff_getElem?.1 hx
  by_cases hij : j = i
  ·subst hij
   rw [List.getElem?_set_self hl] at hi
   simp only [Option.some.injEq] at hi
   subst hi
   rw [Cm, hy, if_pos rfl, ← hk, ← (h.here e (List.mem_of_getElem? hj)).1]
   exact ⟨rfl, by simp⟩
  ·rw [List.getElem?_set_ne hij] at hi
   have hne : ¬ some key = some x.1 := fun q => by
    simp only [Option.some.injEq] at q
    have h1 : (L.map Prod.fst)[j]? = some key := by rw [List.getElem?_map, hj, ← hk]; rfl
    have h2 : (L.map Prod.fst)[i]? = some key := by rw [List.getElem?_map, hi, q]; rfl
    rcases Nat.lt_or_gt_of_ne hij with q1 | q1
    ·exact List.pairwise_iff_getElem.1 hnd j i (lt_of_getElem? h1) (lt_of_getElem? h2) q1 (by rw [List.getElem?_eq_getElem (lt_of_getElem? h1)] at h1; rw [List.getElem?_eq_getElem (lt_of_getElem? h2)] at h2; rw [Option.some.inj h1, Option.some.inj h2])
    ·exact List.pairwise_iff_getElem.1 hnd i j (lt_of_getElem? h2) (lt_of_getElem? h1) q1 (by rw [List.getElem?_eq_getElem (lt_of_getElem? h1)] at h1; rw [List.getElem?_eq_getElem (lt_of_getElem? h2)] at h2; rw [Option.some.inj h1, Option.some.inj h2])
   rw [Cm, hy, if_neg hne, List.append_nil]
   exact h.here x (List.mem_of_getElem? hi)
 ·have hne : ¬ some key = some key' := fun q => by
   simp only [Option.some.injEq] at q
   exact hk' (key, k, e.2.2 ++ [BQ y]) (List.mem_of_getElem? (List.getElem?_set_self hl)) q
  rw [Cm, hy, if_neg hne, List.append_nil]
  refine h.not key' fun x hx q => ?_
  obtain ⟨i, hi⟩ := List.mem_iff_getElem?.1 hx
  by_cases hij : j = i
  ·subst hij
   rw [hj] at hi
   simp only [Option.some.injEq] at hi
   subst hi
   exact hne (by rw [← hk, q])
  ·exact hk' x (List.mem_of_getElem? (by rw [List.getElem?_set_ne hij]; exact hi)) q
theorem POk.new {b : List Entry} {on2 : List Int} {L : PL} (h : POk b on2 L) {y : Entry} {key : Bs} (hy : DN y.row on2 = some key) {k : Nat} (hn : ∀ e ∈ L, e.1 ≠ key) : POk (b ++ [y]) on2 (L ++ [(key, k, [BQ y])]) := by
 refine ⟨fun x hx => ?_, fun key' hk' => ?_⟩
 ·rcases List.mem_append.1 hx with hx | hx
  ·have hne : ¬ some key = some x.1 := fun q => by simp only [Option.some.injEq] at q; exact hn x hx q.symm
   rw [Cm, hy, if_neg hne, List.append_nil]
   exact h.here x hx
  ·obtain rfl := List.mem_singleton.1 hx
   rw [Cm, hy, if_pos rfl, h.not key hn]
   exact ⟨rfl, by simp⟩
 ·have hne : ¬ some key = some key' := fun q => by simp only [Option.some.injEq] at q; exact hk' (key, k, [BQ y]) (by simp) q
  rw [Cm, hy, if_neg hne, List.append_nil]
  exact h.not key' fun x hx => hk' x (by simp [hx])
theorem Rf {L : PL} {j : Nat} {e : Bs × Nat × List (Bs × Int)} {k : Nat} {A : List (Bs × Int)} (hj : L[j]? = some e) (h : (L.map Prod.fst).Nodup) : ((L.set j (e.1, k, A)).map Prod.fst).Nodup := by
 rw [List.map_set, Dl (by rw [List.getElem?_map, hj]; rfl)]; exact h
theorem Rg {L : PL} {key : Bs} {k : Nat} {A : List (Bs × Int)} (hn : ∀ e ∈ L, e.1 ≠ key) (h : (L.map Prod.fst).Nodup) : ((L ++ [(key, k, A)]).map Prod.fst).Nodup := by
 rw [List.map_append, List.nodup_append]
 refine ⟨h, by simp, fun x hx y hy q => ?_⟩
 obtain ⟨e, he, rfl⟩ := List.mem_map.1 hx
 simp only [List.map_cons, List.map_nil, List.mem_singleton] at hy
 exact hn e he (q.trans hy)
theorem TM (L : PL) (key : Bs) : (∃ (j : Nat) (e : Bs × Nat × List (Bs × Int)), L[j]? = some e ∧ e.1 = key) ∨ ∀ e ∈ L, e.1 ≠ key := by
 by_cases h : ∃ e ∈ L, e.1 = key
 ·obtain ⟨e, he, hk⟩ := h
  obtain ⟨j, hj⟩ := List.mem_iff_getElem?.1 he
  exact .inl ⟨j, e, hj, hk⟩
 ·exact .inr fun e he hk => h ⟨e, he, hk⟩
theorem K2 {row : List Val} {cs : List Int} {key : Bs} (h : DN row cs = some key) : UX (BP row cs) = .tup [.one (CY key), .one (.lit (.bool true))] := by
 unfold DN at h
 cases hq : BP row cs with
 | none => rw [hq] at h; cases h
 | some l => rw [hq] at h; simp only [Option.map_some, Option.some.injEq] at h; subst h; rfl
theorem K3 {row : List Val} {cs : List Int} (h : DN row cs = none) : UX (BP row cs) = .tup [.one (CY []), .one (.lit (.bool false))] := by
 unfold DN at h
 cases hq : BP row cs with
 | none => rfl
 | some l => rw [hq] at h; cases h
theorem JT (L : PL) : ∀ e ∈ Vu L, IK e.1 := fun e he => by
 obtain ⟨x, _, rfl⟩ := List.mem_map.1 he
 exact ⟨_, rfl⟩
theorem Vz {L : PL} {i : Nat} {e : Bs × Nat × List (Bs × Int)} (h : L[i]? = some e) : (Vu L)[i]? = some (.string ⟨e.1.toArray⟩, .sl (e.2.2.map Gr)) := by simp [Vu, h]
theorem VA {L : PL} {c : Bs} (h : ∀ e ∈ L, e.1 ≠ c) : ∀ e ∈ Vu L, e.1 ≠ Value.string ⟨c.toArray⟩ := fun e he q => by
 obtain ⟨x, hx, rfl⟩ := List.mem_map.1 he
 exact h x hx (JR q)
theorem K4 {r : List Val} (h : AQ r = true) : (Ao r).length ≤ 100000 := by
 have := GV r
 have := CP h
 omega
theorem XH (a b : List Entry) (on : List (Int × Int)) (hal : a.length ≤ 4096) (hbl : b.length ≤ 4096) (hon : on.length ≤ 10000) (ha : ∀ e ∈ a, AQ e.row = true ∧ (-262144 ≤ e.count ∧ e.count ≤ 262144)) (hb : ∀ e ∈ b, AQ e.row = true ∧ (-262144 ≤ e.count ∧ e.count ≤ 262144)) (R : List Entry × Int)
  (hR : match NK a b on with | none => R = ([], 8) | some r => ∃ rs : List Entry, r = rs.map BQ ∧ (∀ e ∈ rs, AQ e.row = true) ∧ R = if rs.all (fun e => Az e.count) then (sortF DB rs, 0) else ([], 9)) :
  PCall Tryz.prog 143 [.one (Ap a), .one (Ap b), .one (RX on)] (.tup [.one (Ap R.1), .one (.lit (.int .i64 R.2))]) := by
 refine Ac hT Tryz.func143 Tryz.ntmps143 [.tmp 6, .tmp 7] fun B => ?_
 repeat' (first | refine kz ?_ | refine ki ?_ | refine kg ?_ ?_ | refine kf ?_ | fail)
 refine T5 0 ?_
 refine AO (X := Nat × PL) [10, 11, 12, 21, 22, 23, 24, 25, 26, 27, 28, 29, 30, 31, 32, 33, 34, 35, 36, 37, 38, 39, 40, 41, 42, 43, 44, 45, 46] (fun x => x.1 ≤ b.length ∧ POk (b.take x.1) (on.map Prod.snd) x.2 ∧ (x.2.map Prod.fst).Nodup) (fun x lz => (21, (.c (.d (.lit (.int .i64 x.1))))) :: lz) (fun x => .mapc 1 9 198 (K1 x.2) :: .dead :: OF x.2) (fun x => b.length - x.1) ((0, [])) ?_ ?_ ?_ ?_
 repeat' (first | exact k0 | refine kw ?_ | omega)
 ·exact NV
 ·exact ⟨by simp, ⟨by simp, by simp [CO]⟩, by simp⟩
 rintro ⟨i, L⟩ c ⟨hi, hP, hN⟩
 dsimp only at hi hP hN ⊢
 by_cases hlt : i < b.length
 ·have hv : b[i]? = some b[i] := List.getElem?_eq_getElem hlt
  obtain ⟨hro, hco⟩ := hb _ (List.getElem_mem hlt)
  generalize b[i] = y at hv hro hco
  have htk : b.take (i + 1) = b.take i ++ [y] := by rw [List.take_add_one, hv]; rfl
  have hkc := Sx y.row on hon
  have hen := Cl y.row (by have := CP hro; omega)
  cases hk : DN y.row (on.map Prod.snd) with
  | none =>
    rw [K3 hk] at hkc
    have hP2 := hP.other hk
    repeat' (first | refine De 1 (mem' := _ :: _ :: _) ?_ (hm' := rfl) | refine D4 (mem' := _ :: _ :: _) ?_ (hm' := rfl) | refine kz ?_ | refine kx hv ?_ | refine ki ?_ | refine Aa (hkc) ?_ | refine Aa (hen) ?_ | refine Ay Af ?_ ?_ | refine Bo ?_ | refine BR ?_ | refine Ib rfl rfl ?_ ?_)
    (apply Ae ((i + 1, L)); all_goals (try dsimp only); all_goals (try (repeat' (first | exact k0 | refine kw ?_ | omega))))
    · exact ES
    · exact ⟨by omega, by rw [htk]; exact hP2, hN⟩
  | some key =>
    rw [K2 hk] at hkc
    have hLl : ∀ e ∈ L, e.2.2.length ≤ 4096 := fun e he => by rw [(hP.here e he).1]; have := Ii (b.take i) (on.map Prod.snd) e.1; simp at this; omega
    rcases TM L key with ⟨j, e, hj, he⟩ | hn
    · obtain ⟨c1, k1, A⟩ := e
      have hAl := hLl _ (List.mem_of_getElem? hj)
      dsimp only at he hAl
      subst he
      have hg1 := Qi hj
      have hg2 := Qj hj
      dsimp only at hg1 hg2
      have hP2 := fun k => hP.old (k := k) hk hj rfl hN trivial
      have hN2 := fun k => Rf (k := k) (A := A ++ [BQ y]) hj hN
      repeat' (first | refine De 1 (mem' := _ :: _ :: _) ?_ (hm' := rfl) | refine D4 (mem' := _ :: _ :: _) ?_ (hm' := rfl) | refine kz ?_ | refine kx hv ?_ | refine ki ?_ | refine Aa (hkc) ?_ | refine Aa (hen) ?_ | refine VG hg1 ⟨_, rfl⟩ (HB _) ?_ | refine LP (mem' := _ :: _ :: (OF L).set j _) ?_ (hm := hg2) (hm' := rfl) | refine Rw (mem' := _ :: _ :: _) hg1 ⟨_, rfl⟩ (HB _) ?_ (hm' := rfl) | refine Ay Af ?_ ?_ | refine Bo ?_ | refine BR ?_ | refine Ib rfl rfl ?_ ?_)
      have hE := Vv (k := c + 1 + 1) (c := c1) (A := A ++ [BQ y]) hj
      have hI := Vx L j (c + 1 + 1) c1 (A ++ [BQ y])
      rw [List.length_append] at hE
      rw [List.map_append] at hI
      have hE2 : (K1 L).set j (Value.string ⟨c1.toArray⟩, Cell.arr (j + 2) (c + 1 + 1) (A.length + [[Dat.lit (Value.string ⟨(Ao y.row).toArray⟩), Dat.lit (Value.int .i64 y.count)]].length)) = _ := hE
      have hI2 : (OF L).set j (Blk.arr (c + 1 + 1) 200 2 (A.map Gr ++ [[Dat.lit (Value.string ⟨(Ao y.row).toArray⟩), Dat.lit (Value.int .i64 y.count)]])) = _ := hI
      have hP3 := hP2 (c + 1 + 1)
      have hN3 := hN2 (c + 1 + 1)
      rw [← htk] at hP3
      dsimp only at hP3 hN3
      generalize L.set j (c1, c + 1 + 1, A ++ [BQ y]) = L2 at hE2 hI2 hP3 hN3
      rw [hE2, hI2]
      (apply Ae ((i + 1, L2)); all_goals (try dsimp only); all_goals (try (repeat' (first | exact k0 | refine kw ?_ | omega))))
      · exact ES
      · exact ⟨by omega, hP3, hN3⟩
    · have hP2 := fun k => hP.new (k := k) hk hn
      have hN2 := fun k => Rg (k := k) (A := [BQ y]) hn hN
      repeat' (first | refine De 1 (mem' := _ :: _ :: _) ?_ (hm' := rfl) | refine D4 (mem' := _ :: _ :: _) ?_ (hm' := rfl) | refine kz ?_ | refine kx hv ?_ | refine ki ?_ | refine Aa (hkc) ?_ | refine Aa (hen) ?_ | refine T3 (by kernel_rfl) (Qk hn) ⟨_, rfl⟩ (HB _) ?_ | refine LO (r := L.length + 2) (mem' := _ :: _ :: (OF L ++ [_])) ?_ (hr := by simp [Vy]) (hm' := rfl) | refine Rv (mem' := _ :: _ :: _) (Qk hn) ⟨_, rfl⟩ (HB _) ?_ (hm' := rfl) | refine Ay Af ?_ ?_ | refine Bo ?_ | refine BR ?_ | refine Ib rfl rfl ?_ ?_)
      have hE := TK L (c + 1 + 1) key [BQ y]
      have hI := TL L (c + 1 + 1) key [BQ y]
      have hE2 : K1 L ++ [(Value.string ⟨key.toArray⟩, Cell.arr (L.length + 2) (c + 1 + 1) 1)] = _ := hE
      have hI2 : OF L ++ [Blk.arr (c + 1 + 1) 200 2 [[Dat.lit (Value.string ⟨(Ao y.row).toArray⟩), Dat.lit (Value.int .i64 y.count)]]] = _ := hI
      have hP3 := hP2 (c + 1 + 1)
      have hN3 := hN2 (c + 1 + 1)
      rw [← htk] at hP3
      generalize L ++ [(key, c + 1 + 1, [BQ y])] = L2 at hE2 hI2 hP3 hN3
      rw [hE2, hI2]
      (apply Ae ((i + 1, L2)); all_goals (try dsimp only); all_goals (try (repeat' (first | exact k0 | refine kw ?_ | omega))))
      · exact ES
      · exact ⟨by omega, hP3, hN3⟩
 ·have hie : i = b.length := by omega
  subst hie
  rw [List.take_length] at hP
  have hth : ∀ (i : Nat) (kv : Value) (x : Cell), (K1 L)[i]? = some (kv, x) → ∃ y, (Vu L)[i]? = some (kv, y) ∧ YW (Blk.mapc 1 9 198 (K1 L) :: Blk.dead :: OF L) 2 x y := by
    intro i kv x hx
    simp only [K1, List.getElem?_mapIdx, Option.map_eq_some_iff] at hx
    obtain ⟨e, he, hx⟩ := hx
    simp only [Prod.mk.injEq] at hx
    obtain ⟨rfl, rfl⟩ := hx
    refine ⟨.sl (e.2.2.map Gr), by simp [Vu, he], by omega, 200, 2, e.2.2.map Gr, Qj he, by simp, by rw [List.take_of_length_le (by simp)]⟩
  refine XJ 2 0 (Vu L) ?_ rfl (by decide) (by simp [Vu, K1]) hth rfl
  repeat' (first | refine kz ?_ | refine ki ?_ | refine kg ?_ ?_ | refine kf ?_ | fail)
  refine T4 2 ?_
  refine Ht 3 0 232 2 ?_
  refine Ht 3 2 200 2 ?_
  refine AO (X := Nat × JS × Nat × Nat) [6, 7, 15, 16, 17, 52, 53, 54, 55, 56, 57, 58, 59, 60, 61, 62, 63, 64, 65, 66, 67, 68, 69, 70, 71, 72, 73, 74, 75, 76, 77, 78, 79, 80, 81, 82, 83, 84] (fun x => x.1 ≤ a.length ∧ F1 b on (a.take x.1) ([], [], []) = some x.2.1 ∧ JOk x.1 4096 x.2.1) (fun x lz => (52, (.c (.d (.lit (.int .i64 x.1))))) :: lz) (fun x => [.mapb 1 9 198 (Vu L), .dead, .mapb (c + 1) 9 2 (x.2.1.2.1.map JP), .box (c + 1 + 1) [.arr 4 x.2.2.1 x.2.1.1.length, .mp 2 (c + 1), .arr 5 x.2.2.2 x.2.1.2.2.length], .arr x.2.2.1 232 2 (x.2.1.1.map Lev.d), .arr x.2.2.2 200 2 (x.2.1.2.2.map Gr)]) (fun x => a.length - x.1) ((0, ([], [], []), c + 1 + 1 + 1, c + 1 + 1 + 1 + 1)) ?_ ?_ ?_ ?_
  repeat' (first | exact k0 | refine kw ?_ | omega)
  · exact ⟨by simp, by simp [F1], ⟨by simp, by simp, fun e he => by simp at he, by simp⟩⟩
  rintro ⟨i, ⟨st, s, r⟩, k4, k5⟩ c2 ⟨hi2, hrun, hJ⟩
  dsimp only at hi2 hrun hJ ⊢
  have hst2 : st.length ≤ i := hJ.st
  have hst1 : st.length ≤ 100000 := by omega
  have hop1 : ∀ l ∈ st, l.opened.length ≤ 100000 := fun l hl => by have := hJ.op l hl; omega
  have hr1 : r.length ≤ 4096 := hJ.rs
  by_cases hlt2 : i < a.length
  · have hv : a[i]? = some a[i] := List.getElem?_eq_getElem hlt2
    obtain ⟨hro, hco⟩ := ha _ (List.getElem_mem hlt2)
    generalize a[i] = u at hv hro hco
    have hkc := Sw u.row on hon
    have hen := Cl u.row (by have := CP hro; omega)
    obtain ⟨hs1, hs2⟩ := Rh hv hrun
    have hJ2 := fun q' (h : C2 b on (st, s, r) u = some q') => TN hJ hbl (fun y hy => (hb y hy).2) hco h
    cases hk : DN u.row (on.map Prod.fst) with
    | none =>
      rw [K3 hk] at hkc
      have hst : C2 b on (st, s, r) u = some (st, s, r) := by unfold C2; rw [hk]
      rw [hst] at hs1
      have hJ3 := hJ2 _ hst
      repeat' (first | refine kz ?_ | refine kx hv ?_ | refine ki ?_ | refine Aa (hkc) ?_ | refine Aa (hen) ?_ | refine kg ?_ ?_ | refine kf ?_ | fail)
      (apply Ae ((i + 1, (st, s, r), k4, k5)); all_goals (try dsimp only); all_goals (try (repeat' (first | exact k0 | refine kw ?_ | omega))))
      exact ⟨by omega, hs1, hJ3⟩
    | some key =>
      rw [K2 hk] at hkc
      rcases TM L key with ⟨j, e, hj, he⟩ | hn
      · obtain ⟨c1, k1, A⟩ := e
        dsimp only at he
        subst he
        obtain ⟨hA, hA0⟩ := hP.here _ (List.mem_of_getElem? hj)
        dsimp only at hA hA0
        have hg1 := Vz hj
        dsimp only at hg1
        have hAl : A.length ≤ 4096 := by rw [hA]; have := Ii b (on.map Prod.snd) c1; omega
        have hAp : 0 < A.length := by cases A with | nil => exact absurd rfl hA0 | cons _ _ => simp
        have hAm : ∀ z ∈ A, ∃ y ∈ b, z = BQ y := fun z hz => by
          rw [hA] at hz
          obtain ⟨y, hy, h1, _⟩ := Ih hz
          exact ⟨y, hy, h1⟩
        cases hc : closeE (Ao u.row) st.reverse s r with
        | none =>
          have hstp : C2 b on (st, s, r) u = none := by
            unfold C2
            rw [hk]
            dsimp only
            rw [← hA, if_neg hA0, hc]
          have hfin : NK a b on = none := by unfold NK; rw [hs2 hstp]
          rw [hfin] at hR
          dsimp only at hR
          subst hR
          have hadd := XE (BQ u) A st s r hc hst1 hop1 hr1
          repeat' (first | refine kz ?_ | refine kx hv ?_ | refine ki ?_ | refine Aa (hkc) ?_ | refine Aa (hen) ?_ | refine Ad [3, 4, 2, 5] (hadd) ?_ | refine Cx hg1 ⟨_, rfl⟩ (JT _) ?_ | refine kg ?_ ?_ | refine kf ?_ | fail)
          all_goals rfl
        | some q =>
          obtain ⟨stx, s', r'⟩ := q
          have hstp : C2 b on (st, s, r) u = some (stx.reverse ++ [⟨Ao u.row, (A.foldl (AT (BQ u)) ([], s')).1⟩], (A.foldl (AT (BQ u)) ([], s')).2, r') := by
            unfold C2
            rw [hk]
            dsimp only
            rw [← hA, if_neg hA0, hc]
          rw [hstp] at hs1
          have hJ3 := hJ2 _ hstp
          obtain ⟨h1, h2, h3, h4⟩ := Dc hc hr1
          simp only [List.length_reverse] at h1
          have hadd := XF (BQ u) A st s r stx.reverse s' r' (by rw [List.reverse_reverse]; exact hc) hst1 (by simp; omega) hop1 hr1 (by omega) (68719476736 * ((4096 * i : Nat) : Int)) (by omega) (fun e he => hJ.sm e (h3 e he)) (fun z hz => by
            obtain ⟨y, hy, rfl⟩ := hAm z hz
            exact NL hco (hb y hy).2) (by omega) (K4 hro) (fun z hz => by
            obtain ⟨y, hy, rfl⟩ := hAm z hz
            exact K4 (hb y hy).1)
          generalize A.foldl (AT (BQ u)) ([], s') = fo at hadd hs1 hJ3
          have hlr : (stx.reverse ++ [(⟨Ao u.row, fo.1⟩ : Lev)]).length = stx.length + 1 := by simp
          have hst4 : stx.length + 1 ≤ 100000 := by omega
          unfold BQ at hadd
          dsimp only at hadd
          generalize stx.reverse ++ [(⟨Ao u.row, fo.1⟩ : Lev)] = st4 at hadd hs1 hJ3 hlr
          repeat' (first | refine kz ?_ | refine kx hv ?_ | refine ki ?_ | refine Aa (hkc) ?_ | refine Aa (hen) ?_ | refine Ad [3, 4, 2, 5] (hadd) ?_ | refine Cx hg1 ⟨_, rfl⟩ (JT _) ?_ | refine kg ?_ ?_ | refine kf ?_ | fail)
          (apply Ae ((i + 1, (st4, fo.2, r'), _, _)); all_goals (try dsimp only); all_goals (try (repeat' (first | exact k0 | refine w1 ?_ | refine Ab ?_ | refine AB ?_ | omega))))
          exact ⟨by omega, hs1, hJ3⟩
      · have hA := hP.not key hn
        have hstp : C2 b on (st, s, r) u = some (st, s, r) := by
          unfold C2
          rw [hk]
          dsimp only
          rw [hA, if_pos rfl]
        rw [hstp] at hs1
        have hJ3 := hJ2 _ hstp
        repeat' (first | refine kz ?_ | refine kx hv ?_ | refine ki ?_ | refine Aa (hkc) ?_ | refine Aa (hen) ?_ | refine F3 (VA hn) ⟨_, rfl⟩ (JT _) ?_ | refine kg ?_ ?_ | refine kf ?_ | fail)
        (apply Ae ((i + 1, (st, s, r), k4, k5)); all_goals (try dsimp only); all_goals (try (repeat' (first | exact k0 | refine kw ?_ | omega))))
        exact ⟨by omega, hs1, hJ3⟩
  · have hie : i = a.length := by omega
    subst hie
    rw [List.take_length] at hrun
    unfold NK at hR
    rw [hrun] at hR
    dsimp only at hR
    cases hc : closeE [] st.reverse s r with
    | none =>
      rw [hc] at hR
      dsimp only at hR
      subst hR
      have hcl := K0 [] st s r hc hst1 hop1 hr1
      repeat' (first | refine kz ?_ | refine ki ?_ | refine Ad [3, 4, 2, 5] (hcl) ?_ | refine kg ?_ ?_ | refine kf ?_ | fail)
      all_goals rfl
    | some q =>
      obtain ⟨stx, s', r'⟩ := q
      rw [hc] at hR
      dsimp only at hR
      obtain ⟨h1, h2, h3, h4⟩ := Dc hc hr1
      have hcl := KZ [] st s r stx.reverse s' r' (by rw [List.reverse_reverse]; exact hc) hst1 hop1 hr1
      obtain ⟨rs, rfl, hrok, rfl⟩ := hR
      simp only [List.length_map] at h4
      cases hall : rs.all (fun e => Az e.count) with
      | false =>
        have hent := Pe stx.reverse s' rs h4 hrok hall
        simp only [Bool.false_eq_true, if_false]
        repeat' (first | refine kz ?_ | refine ki ?_ | refine Ad [3, 4, 2, 5] (hcl) ?_ | refine Ad [3, 4, 2, 5] (hent) ?_ | refine kg ?_ ?_ | refine kf ?_ | fail)
        all_goals rfl
      | true =>
        have hent := Pf stx.reverse s' rs h4 hrok (List.all_eq_true.1 hall)
        simp only [if_true]
        have hsl := (BM entCmp_ok.swo rs).length_eq
        repeat' (first | refine kz ?_ | refine ki ?_ | refine Ad [3, 4, 2, 5] (hcl) ?_ | refine Ad [3, 4, 2, 5] (hent) ?_ | refine kg ?_ ?_ | refine kf ?_ | fail)
        · simp [hsl]
        · rw [Ag (by simp [hsl])]; rfl
        · rfl
end Go.Proofs.YtmpgmjlanngkfaaGreat
end
