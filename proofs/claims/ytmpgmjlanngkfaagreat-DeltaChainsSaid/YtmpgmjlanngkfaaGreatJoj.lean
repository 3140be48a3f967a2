/-
  Algebra: join.
-/
import Derived.Test.YtmpgmjlanngkfaaGreatJoq
import Derived.Test.YtmpgmjlanngkfaaGreatMpd
section
namespace Go.Proofs.YtmpgmjlanngkfaaGreat
open Go.Abs Go.RowKit
attribute [local irreducible] ARun Au MCall PCall HCall Ak SF CF CFs Af Ag Ar fin AP VLe
set_option linter.unusedSimpArgs false
set_option maxRecDepth 100000
set_option maxHeartbeats 4000000
variable {A : List (Bs × Int)} {b : List Entry} {c key : Bs} {e : Bs × Nat × List (Bs × Int)} {i j k : Nat} {on2 : List Int} {y : Entry}
abbrev PL := List (Bs × Nat × List (Bs × Int))
def Lf (L : PL) : List (Value × Cell) := L.mapIdx fun i e => (.string ⟨e.1.toArray⟩, .arr (i + 2) e.2.1 e.2.2.length)
def ON (L : PL) : List Blk := L.map fun e => .arr e.2.1 200 2 (e.2.2.map F5)
def Wi (L : PL) : List (Value × Dat) := L.map fun e => (.string ⟨e.1.toArray⟩, .sl (e.2.2.map F5))
theorem Qu {L : PL} (h : L[i]? = some e) : (Lf L)[i]? = some (.string ⟨e.1.toArray⟩, .arr (i + 2) e.2.1 e.2.2.length) := by simp [Lf, h]
theorem Qv {L : PL} (h : L[i]? = some e) : (ON L)[i]? = some (.arr e.2.1 200 2 (e.2.2.map F5)) := by simp [ON, h]
theorem Hf (L : PL) : ∀ e ∈ Lf L, Iz e.1 := fun e he => by
 simp only [Lf, List.mem_mapIdx] at he
 obtain ⟨i, hi, rfl⟩ := he
 exact ⟨_, rfl⟩
theorem Qw {L : PL} (h : ∀ e ∈ L, e.1 ≠ c) : ∀ e ∈ Lf L, e.1 ≠ Value.string ⟨c.toArray⟩ := fun e he q => by
 simp only [Lf, List.mem_mapIdx] at he
 obtain ⟨i, hi, rfl⟩ := he
 exact h _ (Fp hi) (JU q)
theorem Wj {L : PL} (hj : L[j]? = some e) : (Lf L).set j (.string ⟨c.toArray⟩, .arr (j + 2) k A.length) = Lf (L.set j (c, k, A)) := by
 apply PJ
 intro i
 by_cases hij : j = i
 ·subst hij
  rw [I7 (by have := lt_of_getElem? hj; simpa [Lf] using this), Qu (I7 (lt_of_getElem? hj))]
 ·rw [Kt hij]
  simp [Lf, Kt hij]
theorem Wk (L : PL) (j k : Nat) (c : Bs) (A : List (Bs × Int)) : (ON L).set j (.arr k 200 2 (A.map F5)) = ON (L.set j (c, k, A)) := by simp [ON, U7]
theorem Uk (L : PL) (k : Nat) (c : Bs) (A : List (Bs × Int)) : Lf L ++ [(.string ⟨c.toArray⟩, .arr (L.length + 2) k A.length)] = Lf (L ++ [(c, k, A)]) := by simp [Lf, List.mapIdx_append]
theorem Ul (L : PL) (k : Nat) (c : Bs) (A : List (Bs × Int)) : ON L ++ [.arr k 200 2 (A.map F5)] = ON (L ++ [(c, k, A)]) := by simp [ON]
theorem Wl (L : PL) : (ON L).length = L.length := by simp [ON]
structure POk (b : List Entry) (on2 : List Int) (L : PL) : Prop where
 here : ∀ e ∈ L, e.2.2 = Cz b on2 e.1 ∧ e.2.2 ≠ []
 not : ∀ key, (∀ e ∈ L, e.1 ≠ key) → Cz b on2 key = []
theorem POk.other {L : PL} (h : POk b on2 L) (hy : DA y.row on2 = none) : POk (b ++ [y]) on2 L :=
 ⟨fun e he => by rw [Cj, hy]; simpa using h.here e he, fun key hk => by rw [Cj, hy]; simpa using h.not key hk⟩
theorem POk.old {L : PL} (h : POk b on2 L) (hy : DA y.row on2 = some key) (hj : L[j]? = some e) (hk : e.1 = key) (hnd : (L.map Prod.fst).Nodup) (_ : True) : POk (b ++ [y]) on2 (L.set j (key, k, e.2.2 ++ [BK y])) := by
 have hl := lt_of_getElem? hj
 refine ⟨fun x hx => ?_, fun key' hk' => ?_⟩
 ·obtain ⟨i, hi⟩ := LC.1 hx
  by_cases hij : j = i
  ·subst hij
   rw [I7 hl] at hi
   simp only [Option.some.injEq] at hi
   subst hi
   rw [Cj, hy, if_pos rfl, ← hk, ← (h.here e (Cl hj)).1]
   exact ⟨rfl, by simp⟩
  ·rw [Kt hij] at hi
   have hne : ¬ some key = some x.1 := fun q => by
    simp only [Option.some.injEq] at q
    have h1 : (L.map Prod.fst)[j]? = some key := by rw [B2, hj, ← hk]; rfl
    have h2 : (L.map Prod.fst)[i]? = some key := by rw [B2, hi, q]; rfl
    rcases Nat.lt_or_gt_of_ne hij with q1 | q1
    ·exact WL.1 hnd j i (lt_of_getElem? h1) (lt_of_getElem? h2) q1 (by rw [Bh (lt_of_getElem? h1)] at h1; rw [Bh (lt_of_getElem? h2)] at h2; rw [XS h1, XS h2])
    ·exact WL.1 hnd i j (lt_of_getElem? h2) (lt_of_getElem? h1) q1 (by rw [Bh (lt_of_getElem? h1)] at h1; rw [Bh (lt_of_getElem? h2)] at h2; rw [XS h1, XS h2])
   rw [Cj, hy, if_neg hne, List.append_nil]
   exact h.here x (Cl hi)
 ·have hne : ¬ some key = some key' := fun q => by
   simp only [Option.some.injEq] at q
   exact hk' (key, k, e.2.2 ++ [BK y]) (Cl (I7 hl)) q
  rw [Cj, hy, if_neg hne, List.append_nil]
  refine h.not key' fun x hx q => ?_
  obtain ⟨i, hi⟩ := LC.1 hx
  by_cases hij : j = i
  ·subst hij
   rw [hj] at hi
   simp only [Option.some.injEq] at hi
   subst hi
   exact hne (by rw [← hk, q])
  ·exact hk' x (Cl (by rw [Kt hij]; exact hi)) q
theorem POk.new {L : PL} (h : POk b on2 L) (hy : DA y.row on2 = some key) (hn : ∀ e ∈ L, e.1 ≠ key) : POk (b ++ [y]) on2 (L ++ [(key, k, [BK y])]) := by
 refine ⟨fun x hx => ?_, fun key' hk' => ?_⟩
 ·rcases Ej.1 hx with hx | hx
  ·have hne : ¬ some key = some x.1 := fun q => by simp only [Option.some.injEq] at q; exact hn x hx q.symm
   rw [Cj, hy, if_neg hne, List.append_nil]
   exact h.here x hx
  ·obtain rfl := IT.1 hx
   rw [Cj, hy, if_pos rfl, h.not key hn]
   exact ⟨rfl, by simp⟩
 ·have hne : ¬ some key = some key' := fun q => by simp only [Option.some.injEq] at q; exact hk' (key, k, [BK y]) (by simp) q
  rw [Cj, hy, if_neg hne, List.append_nil]
  exact h.not key' fun x hx => hk' x (by simp [hx])
theorem Rz {L : PL} (hj : L[j]? = some e) (h : (L.map Prod.fst).Nodup) : ((L.set j (e.1, k, A)).map Prod.fst).Nodup := by
 rw [U7, Db (by rw [B2, hj]; rfl)]; exact h
theorem RA {L : PL} (hn : ∀ e ∈ L, e.1 ≠ key) (h : (L.map Prod.fst).Nodup) : ((L ++ [(key, k, A)]).map Prod.fst).Nodup := by
 rw [Ah', WO]
 refine ⟨h, by simp, fun x hx y hy q => ?_⟩
 obtain ⟨e, he, rfl⟩ := List.mem_map.1 hx
 simp only [List.map_cons, List.map_nil, IT] at hy
 exact hn e he (q.trans hy)
theorem Um (L : PL) (key : Bs) : (∃ (j : Nat) (e : Bs × Nat × List (Bs × Int)), L[j]? = some e ∧ e.1 = key) ∨ ∀ e ∈ L, e.1 ≠ key := by
 by_cases h : ∃ e ∈ L, e.1 = key
 ·obtain ⟨e, he, hk⟩ := h
  obtain ⟨j, hj⟩ := LC.1 he
  exact .inl ⟨j, e, hj, hk⟩
 ·exact .inr fun e he hk => h ⟨e, he, hk⟩
theorem Lg {row : List Val} {cs : List Int} (h : DA row cs = some key) : VD (BJ row cs) = .tup [.one (CL key), .one (.lit (.bool true))] := by
 unfold DA at h
 cases hq : BJ row cs with
 | none => rw [hq] at h; cases h
 | some l => rw [hq] at h; simp only [Option.map_some, Option.some.injEq] at h; subst h; rfl
theorem Lh {row : List Val} {cs : List Int} (h : DA row cs = none) : VD (BJ row cs) = .tup [.one (CL []), .one (.lit (.bool false))] := by
 unfold DA at h
 cases hq : BJ row cs with
 | none => rfl
 | some l => rw [hq] at h; cases h
theorem JV (L : PL) : ∀ e ∈ Wi L, Iz e.1 := fun e he => by
 obtain ⟨x, _, rfl⟩ := List.mem_map.1 he
 exact ⟨_, rfl⟩
theorem Wm {L : PL} (h : L[i]? = some e) : (Wi L)[i]? = some (.string ⟨e.1.toArray⟩, .sl (e.2.2.map F5)) := by simp [Wi, h]
theorem Wn {L : PL} (h : ∀ e ∈ L, e.1 ≠ c) : ∀ e ∈ Wi L, e.1 ≠ Value.string ⟨c.toArray⟩ := fun e he q => by
 obtain ⟨x, hx, rfl⟩ := List.mem_map.1 he
 exact h x hx (JU q)
theorem Li {r : List Val} (h : AD r = true) : (Al r).length ≤ 100000 := by
 have := Gw r
 have := CA h
 omega
theorem YN (a b : List Entry) (on : List (Int × Int)) (hal : a.length ≤ 4096) (hbl : b.length ≤ 4096) (hon : on.length ≤ 10000) (ha : ∀ e ∈ a, AD e.row = true ∧ (-262144 ≤ e.count ∧ e.count ≤ 262144)) (hb : ∀ e ∈ b, AD e.row = true ∧ (-262144 ≤ e.count ∧ e.count ≤ 262144)) (R : List Entry × Int)
  (hR : match N3 a b on with | none => R = ([], 8) | some r => ∃ rs : List Entry, r = rs.map BK ∧ (∀ e ∈ rs, AD e.row = true) ∧ R = if rs.all (fun e => Av e.count) then (sortF Dn rs, 0) else ([], 9)) :
  PC 143 [.one (Am a), .one (Am b), .one (VC on)] (.tup [.one (Am R.1), .one (.lit (.int .i64 R.2))]) := by
 refine Ac hT Tryz.func143 Tryz.ntmps143 [.tmp 6, .tmp 7] fun B => ?_
 repeat' first | refine kz ?_ | refine Aw ?_ | refine kh ?_ ?_ | exact ⟨⟩ | fail
 refine UD 0 ?_
 refine A0 (X := Nat × PL) ([10, 11, 12] ++ List.range' 21 26) (fun x => x.1 ≤ b.length ∧ POk (b.take x.1) (on.map Prod.snd) x.2 ∧ (x.2.map Prod.fst).Nodup) (fun x lz => (21, (iC x.1)) :: lz) (fun x => .mapc 1 9 198 (Lf x.2) :: .dead :: ON x.2) (fun x => b.length - x.1) ((0, [])) ?_ ?_ ?_ ?_
 repeat' first | exact k0 | refine kw ?_ | omega
 ·exact Of
 ·exact ⟨by simp, ⟨by simp, by simp [Cz]⟩, by simp⟩
 rintro ⟨i, L⟩ c ⟨hi, hP, hN⟩
 dsimp only at hi hP hN ⊢
 by_cases hlt : i < b.length
 ·have hv : b[i]? = some b[i] := Bh hlt
  obtain ⟨hro, hco⟩ := hb _ (Fp hlt)
  generalize b[i] = y at hv hro hco
  have htk : b.take (i + 1) = b.take i ++ [y] := by rw [IU, hv]; rfl
  have hkc := S3 y.row on hon
  have hen := Cg y.row (by have := CA hro; omega)
  cases hk : DA y.row (on.map Prod.snd) with
  | none =>
    rw [Lh hk] at hkc
    have hP2 := hP.other hk
    repeat' first | refine C0 1 (mem' := _ :: _ :: _) ?_ (hm' := rfl) | refine DR (mem' := _ :: _ :: _) ?_ (hm' := rfl) | refine kz ?_ | refine AX hv ?_ | refine Aw ?_ | refine Aa (hkc) ?_ | refine Aa (hen) ?_ | refine AA Ae ?_ ?_ | refine B7 ?_ | refine Cv ?_ | refine Gx rfl rfl ?_ ?_
    apply Ad ((i + 1, L)) <;> (try dsimp only) <;> try repeat' first | exact k0 | refine kw ?_ | omega
    · exact EH
    · exact ⟨by omega, by rw [htk]; exact hP2, hN⟩
  | some key =>
    rw [Lg hk] at hkc
    have hLl : ∀ e ∈ L, e.2.2.length ≤ 4096 := fun e he => by rw [(hP.here e he).1]; have := H5 (b.take i) (on.map Prod.snd) e.1; simp at this; omega
    rcases Um L key with ⟨j, e, hj, he⟩ | hn
    · obtain ⟨c1, k1, A⟩ := e
      have hAl := hLl _ (Cl hj)
      dsimp only at he hAl
      subst he
      have hg1 := Qu hj
      have hg2 := Qv hj
      dsimp only at hg1 hg2
      have hP2 := fun k => hP.old (k := k) hk hj rfl hN trivial
      have hN2 := fun k => Rz (k := k) (A := A ++ [BK y]) hj hN
      repeat' first | refine C0 1 (mem' := _ :: _ :: _) ?_ (hm' := rfl) | refine DR (mem' := _ :: _ :: _) ?_ (hm' := rfl) | refine kz ?_ | refine AX hv ?_ | refine Aw ?_ | refine Aa (hkc) ?_ | refine Aa (hen) ?_ | refine Ws hg1 ⟨_, rfl⟩ (Hf _) ?_ | refine L7 (mem' := _ :: _ :: (ON L).set j _) ?_ (hm := hg2) (hm' := rfl) | refine RP (mem' := _ :: _ :: _) hg1 ⟨_, rfl⟩ (Hf _) ?_ (hm' := rfl) | refine AA Ae ?_ ?_ | refine B7 ?_ | refine Cv ?_ | refine Gx rfl rfl ?_ ?_
      have hE := Wj (k := c + 1 + 1) (c := c1) (A := A ++ [BK y]) hj
      have hI := Wk L j (c + 1 + 1) c1 (A ++ [BK y])
      rw [CP] at hE
      rw [Ah'] at hI
      have hE2 : (Lf L).set j (Value.string ⟨c1.toArray⟩, Cell.arr (j + 2) (c + 1 + 1) (A.length + [[Dat.lit (Value.string ⟨(Al y.row).toArray⟩), Dat.lit (Value.int .i64 y.count)]].length)) = _ := hE
      have hI2 : (ON L).set j (Blk.arr (c + 1 + 1) 200 2 (A.map F5 ++ [[Dat.lit (Value.string ⟨(Al y.row).toArray⟩), Dat.lit (Value.int .i64 y.count)]])) = _ := hI
      have hP3 := hP2 (c + 1 + 1)
      have hN3 := hN2 (c + 1 + 1)
      rw [← htk] at hP3
      dsimp only at hP3 hN3
      generalize L.set j (c1, c + 1 + 1, A ++ [BK y]) = L2 at hE2 hI2 hP3 hN3
      rw [hE2, hI2]
      apply Ad ((i + 1, L2)) <;> (try dsimp only) <;> try repeat' first | exact k0 | refine kw ?_ | omega
      · exact EH
      · exact ⟨by omega, hP3, hN3⟩
    · have hP2 := fun k => hP.new (k := k) hk hn
      have hN2 := fun k => RA (k := k) (A := [BK y]) hn hN
      repeat' first | refine C0 1 (mem' := _ :: _ :: _) ?_ (hm' := rfl) | refine DR (mem' := _ :: _ :: _) ?_ (hm' := rfl) | refine kz ?_ | refine AX hv ?_ | refine Aw ?_ | refine Aa (hkc) ?_ | refine Aa (hen) ?_ | refine UB (by kernel_rfl) (Qw hn) ⟨_, rfl⟩ (Hf _) ?_ | refine L6 (r := L.length + 2) (mem' := _ :: _ :: (ON L ++ [_])) ?_ (hr := by simp [Wl]) (hm' := rfl) | refine RO (mem' := _ :: _ :: _) (Qw hn) ⟨_, rfl⟩ (Hf _) ?_ (hm' := rfl) | refine AA Ae ?_ ?_ | refine B7 ?_ | refine Cv ?_ | refine Gx rfl rfl ?_ ?_
      have hE := Uk L (c + 1 + 1) key [BK y]
      have hI := Ul L (c + 1 + 1) key [BK y]
      have hE2 : Lf L ++ [(Value.string ⟨key.toArray⟩, Cell.arr (L.length + 2) (c + 1 + 1) 1)] = _ := hE
      have hI2 : ON L ++ [Blk.arr (c + 1 + 1) 200 2 [[Dat.lit (Value.string ⟨(Al y.row).toArray⟩), Dat.lit (Value.int .i64 y.count)]]] = _ := hI
      have hP3 := hP2 (c + 1 + 1)
      have hN3 := hN2 (c + 1 + 1)
      rw [← htk] at hP3
      generalize L ++ [(key, c + 1 + 1, [BK y])] = L2 at hE2 hI2 hP3 hN3
      rw [hE2, hI2]
      apply Ad ((i + 1, L2)) <;> (try dsimp only) <;> try repeat' first | exact k0 | refine kw ?_ | omega
      · exact EH
      · exact ⟨by omega, hP3, hN3⟩
 ·have hie : i = b.length := by omega
  subst hie
  rw [PK] at hP
  have hth : ∀ (i : Nat) (kv : Value) (x : Cell), (Lf L)[i]? = some (kv, x) → ∃ y, (Wi L)[i]? = some (kv, y) ∧ av (Blk.mapc 1 9 198 (Lf L) :: Blk.dead :: ON L) 2 x y := by
    intro i kv x hx
    simp only [Lf, Zv, ZM] at hx
    obtain ⟨e, he, hx⟩ := hx
    simp only [Gk] at hx
    obtain ⟨rfl, rfl⟩ := hx
    refine ⟨.sl (e.2.2.map F5), by simp [Wi, he], by omega, 200, 2, e.2.2.map F5, Qv he, by simp, by rw [Mq (by simp)]⟩
  refine YP 2 0 (Wi L) ?_ rfl (by decide) (by simp [Wi, Lf]) hth rfl
  repeat' first | refine kz ?_ | refine Aw ?_ | refine kh ?_ ?_ | exact ⟨⟩ | fail
  refine UC 2 ?_
  refine G8 3 0 232 2 ?_
  refine G8 3 2 200 2 ?_
  refine A0 (X := Nat × JS × Nat × Nat) ([6, 7, 15, 16, 17] ++ List.range' 52 33) (fun x => x.1 ≤ a.length ∧ FK b on (a.take x.1) ([], [], []) = some x.2.1 ∧ JOk x.1 4096 x.2.1) (fun x lz => (52, (iC x.1)) :: lz) (fun x => [.mapb 1 9 198 (Wi L), .dead, .mapb (c + 1) 9 2 (x.2.1.2.1.map JR), .box (c + 1 + 1) [.arr 4 x.2.2.1 x.2.1.1.length, .mp 2 (c + 1), .arr 5 x.2.2.2 x.2.1.2.2.length], .arr x.2.2.1 232 2 (x.2.1.1.map Lev.d), .arr x.2.2.2 200 2 (x.2.1.2.2.map F5)]) (fun x => a.length - x.1) ((0, ([], [], []), c + 1 + 1 + 1, c + 1 + 1 + 1 + 1)) ?_ ?_ ?_ ?_
  repeat' first | exact k0 | refine kw ?_ | omega
  · exact ⟨by simp, by simp [FK], ⟨by simp, by simp, fun e he => by simp at he, by simp⟩⟩
  rintro ⟨i, ⟨st, s, r⟩, k4, k5⟩ c2 ⟨hi2, hrun, hJ⟩
  dsimp only at hi2 hrun hJ ⊢
  have hst2 : st.length ≤ i := hJ.st
  have hst1 : st.length ≤ 100000 := by omega
  have hop1 : ∀ l ∈ st, l.opened.length ≤ 100000 := fun l hl => by have := hJ.op l hl; omega
  have hr1 : r.length ≤ 4096 := hJ.rs
  by_cases hlt2 : i < a.length
  · have hv : a[i]? = some a[i] := Bh hlt2
    obtain ⟨hro, hco⟩ := ha _ (Fp hlt2)
    generalize a[i] = u at hv hro hco
    have hkc := S2 u.row on hon
    have hen := Cg u.row (by have := CA hro; omega)
    obtain ⟨hs1, hs2⟩ := RB hv hrun
    have hJ2 := fun q' (h : CO b on (st, s, r) u = some q') => Un hJ hbl (fun y hy => (hb y hy).2) hco h
    cases hk : DA u.row (on.map Prod.fst) with
    | none =>
      rw [Lh hk] at hkc
      have hst : CO b on (st, s, r) u = some (st, s, r) := by unfold CO; rw [hk]
      rw [hst] at hs1
      have hJ3 := hJ2 _ hst
      repeat' first | refine kz ?_ | refine AX hv ?_ | refine Aw ?_ | refine Aa (hkc) ?_ | refine Aa (hen) ?_ | refine kh ?_ ?_ | exact ⟨⟩ | fail
      apply Ad ((i + 1, (st, s, r), k4, k5)) <;> (try dsimp only) <;> try repeat' first | exact k0 | refine kw ?_ | omega
      exact ⟨by omega, hs1, hJ3⟩
    | some key =>
      rw [Lg hk] at hkc
      rcases Um L key with ⟨j, e, hj, he⟩ | hn
      · obtain ⟨c1, k1, A⟩ := e
        dsimp only at he
        subst he
        obtain ⟨hA, hA0⟩ := hP.here _ (Cl hj)
        dsimp only at hA hA0
        have hg1 := Wm hj
        dsimp only at hg1
        have hAl : A.length ≤ 4096 := by rw [hA]; have := H5 b (on.map Prod.snd) c1; omega
        have hAp : 0 < A.length := by cases A with | nil => exact absurd rfl hA0 | cons _ _ => simp
        have hAm : ∀ z ∈ A, ∃ y ∈ b, z = BK y := fun z hz => by
          rw [hA] at hz
          obtain ⟨y, hy, h1, _⟩ := H4 hz
          exact ⟨y, hy, h1⟩
        cases hc : closeE (Al u.row) st.reverse s r with
        | none =>
          have hstp : CO b on (st, s, r) u = none := by
           unfold CO
           rw [hk]
           dsimp only
           rw [← hA, if_neg hA0, hc]
          have hfin : N3 a b on = none := by unfold N3; rw [hs2 hstp]
          rw [hfin] at hR
          dsimp only at hR
          subst hR
          have hadd := YK (BK u) A st s r hc hst1 hop1 hr1
          repeat' first | refine kz ?_ | refine AX hv ?_ | refine Aw ?_ | refine Aa (hkc) ?_ | refine Aa (hen) ?_ | refine Ah [3, 4, 2, 5] (hadd) ?_ | refine Cs hg1 ⟨_, rfl⟩ (JV _) ?_ | refine kh ?_ ?_ | exact ⟨⟩ | fail
          all_goals rfl
        | some q =>
          obtain ⟨stx, s', r'⟩ := q
          have hstp : CO b on (st, s, r) u = some (stx.reverse ++ [⟨Al u.row, (A.foldl (AV (BK u)) ([], s')).1⟩], (A.foldl (AV (BK u)) ([], s')).2, r') := by
           unfold CO
           rw [hk]
           dsimp only
           rw [← hA, if_neg hA0, hc]
          rw [hstp] at hs1
          have hJ3 := hJ2 _ hstp
          obtain ⟨h1, h2, h3, h4⟩ := CY hc hr1
          simp only [List.length_reverse] at h1
          have hadd := YL (BK u) A st s r stx.reverse s' r' (by rw [List.reverse_reverse]; exact hc) hst1 (by simp; omega) hop1 hr1 (by omega) (68719476736 * ((4096 * i : Nat) : Int)) (by omega) (fun e he => hJ.sm e (h3 e he)) (fun z hz => by
           obtain ⟨y, hy, rfl⟩ := hAm z hz
           exact N4 hco (hb y hy).2) (by omega) (Li hro) (fun z hz => by
           obtain ⟨y, hy, rfl⟩ := hAm z hz
           exact Li (hb y hy).1)
          generalize A.foldl (AV (BK u)) ([], s') = fo at hadd hs1 hJ3
          have hlr : (stx.reverse ++ [(⟨Al u.row, fo.1⟩ : Lev)]).length = stx.length + 1 := by simp
          have hst4 : stx.length + 1 ≤ 100000 := by omega
          unfold BK at hadd
          dsimp only at hadd
          generalize stx.reverse ++ [(⟨Al u.row, fo.1⟩ : Lev)] = st4 at hadd hs1 hJ3 hlr
          repeat' first | refine kz ?_ | refine AX hv ?_ | refine Aw ?_ | refine Aa (hkc) ?_ | refine Aa (hen) ?_ | refine Ah [3, 4, 2, 5] (hadd) ?_ | refine Cs hg1 ⟨_, rfl⟩ (JV _) ?_ | refine kh ?_ ?_ | exact ⟨⟩ | fail
          apply Ad ((i + 1, (st4, fo.2, r'), _, _)) <;> (try dsimp only) <;> try repeat' first | exact k0 | refine w1 ?_ | refine Ab ?_ | refine AB ?_ | omega
          exact ⟨by omega, hs1, hJ3⟩
      · have hA := hP.not key hn
        have hstp : CO b on (st, s, r) u = some (st, s, r) := by
          unfold CO
          rw [hk]
          dsimp only
          rw [hA, if_pos rfl]
        rw [hstp] at hs1
        have hJ3 := hJ2 _ hstp
        repeat' first | refine kz ?_ | refine AX hv ?_ | refine Aw ?_ | refine Aa (hkc) ?_ | refine Aa (hen) ?_ | refine FM (Wn hn) ⟨_, rfl⟩ (JV _) ?_ | refine kh ?_ ?_ | exact ⟨⟩ | fail
        apply Ad ((i + 1, (st, s, r), k4, k5)) <;> (try dsimp only) <;> try repeat' first | exact k0 | refine kw ?_ | omega
        exact ⟨by omega, hs1, hJ3⟩
  · have hie : i = a.length := by omega
    subst hie
    rw [PK] at hrun
    unfold N3 at hR
    rw [hrun] at hR
    dsimp only at hR
    cases hc : closeE [] st.reverse s r with
    | none =>
      rw [hc] at hR
      dsimp only at hR
      subst hR
      have hcl := Le [] st s r hc hst1 hop1 hr1
      repeat' first | refine kz ?_ | refine Aw ?_ | refine Ah [3, 4, 2, 5] (hcl) ?_ | refine kh ?_ ?_ | exact ⟨⟩ | fail
      all_goals rfl
    | some q =>
      obtain ⟨stx, s', r'⟩ := q
      rw [hc] at hR
      dsimp only at hR
      obtain ⟨h1, h2, h3, h4⟩ := CY hc hr1
      have hcl := Ld [] st s r stx.reverse s' r' (by rw [List.reverse_reverse]; exact hc) hst1 hop1 hr1
      obtain ⟨rs, rfl, hrok, rfl⟩ := hR
      simp only [BQ] at h4
      cases hall : rs.all (fun e => Av e.count) with
      | false =>
        have hent := Pj stx.reverse s' rs h4 hrok hall
        simp only [Bool.false_eq_true, if_false]
        repeat' first | refine kz ?_ | refine Aw ?_ | refine Ah [3, 4, 2, 5] (hcl) ?_ | refine Ah [3, 4, 2, 5] (hent) ?_ | refine kh ?_ ?_ | exact ⟨⟩ | fail
        all_goals rfl
      | true =>
        have hent := Pk stx.reverse s' rs h4 hrok (CN.1 hall)
        simp only [if_true]
        have hsl := (BG entCmp_ok.swo rs).length_eq
        repeat' first | refine kz ?_ | refine Aw ?_ | refine Ah [3, 4, 2, 5] (hcl) ?_ | refine Ah [3, 4, 2, 5] (hent) ?_ | refine kh ?_ ?_ | exact ⟨⟩ | fail
        · simp [hsl]
        · rw [Ao (by simp [hsl])]; rfl
        · rfl
end Go.Proofs.YtmpgmjlanngkfaaGreat
end
