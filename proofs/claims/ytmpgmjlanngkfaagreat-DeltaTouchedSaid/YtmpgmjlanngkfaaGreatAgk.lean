/-
  Aggregates: Exact, Group.
-/
import Derived.Test.YtmpgmjlanngkfaaGreatAgj
import Derived.Test.YtmpgmjlanngkfaaGreatNrm
import Derived.Test.YtmpgmjlanngkfaaGreatTny
section
namespace Go.Proofs.YtmpgmjlanngkfaaGreat
open Go.Abs Go.RowKit
attribute [local irreducible] ARun Aq MCall PCall HCall Am SF CF CFs Af Al Ap B5 AW VLe
set_option linter.unusedSimpArgs false
set_option maxRecDepth 100000
set_option maxHeartbeats 4000000
variable {x : Agg}
theorem Gq (b : List Entry) (kf : List Val → List Val) (hk : BG b kf) : (CU b kf).length ≤ b.length := by
 have hcl : ∀ e ∈ b.map fun e : Entry => (⟨kf e.row, 1⟩ : Entry), Au e.row := fun e he => by
  obtain ⟨x, hx, rfl⟩ := List.mem_map.1 he
  exact hk x hx
 obtain ⟨h1, hx⟩ := CE _ hcl
 have h2 := Kw h1.nz
 have h3 := Kv (b.map fun e : Entry => (⟨kf e.row, 1⟩ : Entry))
 have h4 : BE (b.map fun e : Entry => (⟨kf e.row, 1⟩ : Entry)) = b.length := by
  clear hcl h1 h2 h3 hk hx
  induction b with
  | nil => rfl
  | cons e b ih => rw [List.map_cons, BE, ih, List.length_cons]; simp; omega
 unfold CU
 rw [BT]; omega
theorem JA (b : List Entry) (kf : List Val → List Val) (hk : BG b kf) : (EY b kf).length ≤ b.length := by
 unfold EY; rw [BT]; exact Gq b kf hk
theorem JB {b : List Entry} {kf : List Val → List Val} (hk : BG b kf) {g : List Val × List Entry} (h : g ∈ EY b kf) : (∃ e ∈ b, kf e.row = g.1) ∧ g.2 = b.filter (I2 kf g.1) := by
 obtain ⟨k, hkm, rfl⟩ := List.mem_map.1 h
 exact ⟨((B2 hk).2.2 k).1 hkm, rfl⟩
theorem KV {v : Val} (h : v.valid = true) : -4294967296 ≤ v.int ∧ v.int ≤ 4294967296 := by
 unfold Val.valid at h
 split at h
 ·simp at h; omega
 ·split at h
  ·simp at h; omega
  ·split at h
   ·simp at h; omega
   ·cases h
theorem KW (x : Agg) (e : Entry) : (O3 x e).1.valid = true := by
 unfold O3
 dsimp only
 split
 ·exact F7
 ·exact E5 ..
theorem M0 {es : List Entry} (hl : es.length ≤ 4096) (hc : ∀ e ∈ es, -262144 ≤ e.count ∧ e.count ≤ 262144) : T4 (BU x es) := by
 refine ⟨by rw [HX]; exact hl, fun y hy => ?_⟩
 obtain ⟨e, he, rfl⟩ := List.mem_map.1 hy
 exact ⟨KV (KW x e), hc e he⟩
theorem Sa {es : List Entry} (hc : ∀ e ∈ es, 0 < e.count) : M5 (BU x es) := fun y hy => by
 obtain ⟨e, he, rfl⟩ := List.mem_map.1 hy
 exact hc e he
theorem P0 {l : List Entry} (h : AA l = true) : Aj l = true ∧ ∀ e ∈ l, 0 < e.count := by
 simp only [AA, BO] at h
 refine ⟨h.1, fun e he => ?_⟩
 have h1 := ((AG h.1).2 e he).2.2
 have h2 := Ec.1 h.2 e he
 simp at h2; omega
noncomputable def grpRow (ag : List Agg) (g : List Val × List Entry) : List Val := g.1 ++ ag.map fun x => foldE x.func (BU x g.2)
noncomputable def groupE (b : List Entry) (keys : List Itm) (ag : List Agg) : List Entry × Int :=
 if AA b = true ∧ keys.length + ag.length ≤ 8 then A9 ((EY b (Ax keys)).map fun g => ⟨grpRow ag g, 1⟩) else ([], 1)
theorem JC (g : List Val × List Entry) : grpRow [] g = g.1 := by simp [grpRow]
theorem M1 {ag : List Agg} {g : List Val × List Entry} {k : Nat} (h : ag[k]? = some x) : grpRow (ag.take (k + 1)) g = grpRow (ag.take k) g ++ [foldE x.func (BU x g.2)] := by
 unfold grpRow; rw [Ba h]; simp
theorem Fm (ag : List Agg) (g : List Val × List Entry) : (grpRow ag g).length = g.1.length + ag.length := by simp [grpRow]
def Yw (k v m : Nat) (key : List Val) : SVal := match k with
 | 0 => .c (.d (D0 key))
 | _ + 1 => .c (.arr 3 v m)
noncomputable def grM (k v : Nat) (ag : List Agg) (g : List Val × List Entry) : List Blk := match k with
 | 0 => []
 | k + 1 => [.arr v 73 3 ((grpRow (ag.take (k + 1)) g).map Val.d)]
theorem EE : DeferOk Tryz.prog 144 0 := by
 refine ⟨⟨_, Tryz.func144, by kernel_rfl, by kernel_rfl⟩, fun vs w hl => ?_⟩
 match vs, hl with
 | [], _ =>
   refine callsD_of_wpS Tryz.func144 rfl fun c₀ cs hu => ?_
   apply wpS_region
   simp [wpOpsS, go_sem, recoverD, hu, Tryz.ntmps144, Exit.thenS]
   cases c₀
   simp_all [bodyPostS, results, Tryz.results144]
theorem Uv (b : List Entry) (keys : List Itm) (ag : List Agg) (hkl : keys.length ≤ 10000) (hal : ag.length ≤ 10000) : PC 90 [.one (Ao b), .one (KC keys), .one (HW ag)] (.tup [.one (Ao (groupE b keys ag).1), .one (.lit (.int .i64 (groupE b keys ag).2))]) := by
 by_cases hc : AA b = true ∧ keys.length + ag.length ≤ 8
 ·have hK : BG b (Ax keys) := fun e _ => AR keys e.row
  obtain ⟨hb1, hb2⟩ := hc
  obtain ⟨hbv, hbp⟩ := P0 hb1
  obtain ⟨hbl, hbm⟩ := AG hbv
  have he : groupE b keys ag = A9 ((EY b (Ax keys)).map fun g => ⟨grpRow ag g, 1⟩) := if_pos ⟨hb1, hb2⟩
  rw [he]
  have hp := Ev b
  rw [hb1] at hp
  have hg := Nb b keys hbl (by omega)
  have hgl := JA b _ hK
  have hno := HG ((EY b (Ax keys)).map fun g => ⟨grpRow ag g, 1⟩) (by rw [BT]; omega)
  have hgm : ∀ g ∈ EY b (Ax keys), g.1.length = keys.length ∧ g.2.length ≤ 4096 ∧ (∀ e ∈ g.2, e ∈ b) := fun g hg => by
   obtain ⟨⟨e, _, h1⟩, h2⟩ := JB hK hg
   refine ⟨by rw [← h1, E0], ?_, fun e he => ?_⟩
   ·have := PN (I2 (Ax keys) g.1) b
    rw [h2]; omega
   ·rw [h2] at he; exact (KB.1 he).1
  clear he
  generalize EY b (Ax keys) = G at hg hgl hno hgm
  generalize A9 (G.map fun g => ⟨grpRow ag g, 1⟩) = R at hno
  refine Ad hT Tryz.func90 Tryz.ntmps90 [.tmp 6, .tmp 7] fun B => ?_
  repeat' first | refine kz ?_ | refine As ?_ | refine Aa (hp) ?_ | refine Aa (hg) ?_ | refine kf ?_ | refine Ar (by repeat (first | exact Ac | refine Ah EE ?_)) ?_ ?_
  refine CN 8 56 2 ?_
  refine AY (X := Nat × Nat) ([8, 10, 11, 13] ++ List.range' 29 28) (fun x => x.1 ≤ G.length) (fun x lz => (29, (iC x.1)) :: (8, .c (.arr 0 x.2 x.1)) :: lz) (fun x => [.arr x.2 56 2 (((G.take x.1).map fun g => (⟨grpRow ag g, 1⟩ : Entry)).map Entry.d)]) (fun x => G.length - x.1) ((0, 1)) ?_ ?_ ?_ ?_
  repeat' first | exact k0 | refine kw ?_ | refine kv ?_ ?_ | omega
  rintro ⟨i, v⟩ c0 hi
  dsimp only at hi ⊢
  by_cases hlt : i < G.length
  ·have hx : G[i]? = some G[i] := Bi hlt
   have hgi := hgm _ (Gl hlt)
   generalize G[i] = g at hx hgi
   have hx2 : (G.map OR)[i]? = some (OR g) := by rw [Ci, hx]; rfl
   obtain ⟨hg1, hg2, hg3⟩ := hgi
   have hsn : ((G.take i).map fun g => (⟨grpRow ag g, 1⟩ : Entry)).map Entry.d ++ [[BS (grpRow ag g), .lit (.int .i64 1)]] = ((G.take (i + 1)).map fun g => (⟨grpRow ag g, 1⟩ : Entry)).map Entry.d := by
    rw [Ba hx]; simp [Entry.d]
   have hAl : (((G.take i).map fun g => (⟨grpRow ag g, 1⟩ : Entry)).map Entry.d).length = i := by simp; omega
   generalize ((G.take i).map fun g => (⟨grpRow ag g, 1⟩ : Entry)).map Entry.d = A at hsn hAl ⊢
   repeat' first | refine kz ?_ | refine AT hx2 ?_ | refine As ?_ | refine kh ?_ ?_ | exact ⟨⟩ | fail
   refine AY (X := Nat × Nat) ([11, 13] ++ List.range' 37 14) (fun x => x.1 ≤ ag.length) (fun x lz => (37, (iC x.1)) :: (11, Yw x.1 x.2 (g.1.length + x.1) g.1) :: lz) (fun x => .arr v 56 2 A :: .box (c0 + 1) ((OR g).map .d) :: .dead :: grM x.1 x.2 ag g) (fun x => ag.length - x.1) ((0, 0)) ?_ ?_ ?_ ?_
   repeat' first | exact k0 | refine kw ?_ | refine kv ?_ ?_ | omega
   ·exact Tx
   rintro ⟨k, r⟩ c1 hk
   dsimp only at hk ⊢
   have hmx : (g.1.map Val.d).length = g.1.length := by simp
   by_cases hkl3 : k < ag.length
   ·obtain ⟨y, hy⟩ := gx hkl3
    have hy2 : (ag.map Agg.d)[k]? = some y.d := by rw [Ci, hy]; rfl
    have hvc := MZ g y hg2
    have hfc := WI y.func (BU y g.2) (M0 hg2 fun e he => (hbm e (hg3 e he)).2.1) (Sa fun e he => hbp e (hg3 e he))
    have hrs := congrArg (List.map Val.d) (M1 (g := g) hy)
    rw [As', List.map_singleton] at hrs
    have hrl : ((grpRow (ag.take k) g).map Val.d).length = g.1.length + k := by rw [BT, Fm, Hn]; omega
    cases k with
    | zero =>
      rw [List.take_zero, JC] at hrs
      dsimp only [Yw, grM]
      repeat' first | refine GD 2 (mem' := _ :: _ :: _ :: _) ?_ (hm' := rfl) | (refine UP (ei := RL) (r := 3) (m := g.1.length + 1) (es := g.1.map Val.d) (ys := [(foldE y.func (BU y g.2)).d]) ?_ (by exact Nat.zero_lt_one) (by rw [hmx]; rfl) (fun el hel => by obtain ⟨z, _, rfl⟩ := List.mem_map.1 hel; rfl) (fun el hel => by rw [OP] at hel; subst hel; rfl) (by simp only [maxLen]; omega) (by simp only [RL]; omega)) | refine kz ?_ | refine AT hy2 ?_ | refine As ?_ | refine Aa (hvc) ?_ | refine Aa (hfc) ?_ | refine DU ?_ | refine De ?_ | refine Ar Ac ?_ ?_ | refine BB ?_ | refine Cf ?_
      apply Ae ((1, c1 + 2)) <;> (try dsimp only) <;> try repeat' first | exact k0 | refine kw ?_ | refine kv ?_ ?_ | omega
      all_goals exact hrs.symm
    | succ k =>
      dsimp only [Yw, grM]
      generalize (grpRow (ag.take (k + 1)) g).map Val.d = Z at hrs hrl
      repeat' first | refine GD 2 (mem' := _ :: _ :: _ :: _) ?_ (hm' := rfl) | refine kz ?_ | refine AT hy2 ?_ | refine As ?_ | refine Aa (hvc) ?_ | refine Aa (hfc) ?_ | refine DU ?_ | refine De ?_ | refine Ar Ac ?_ ?_ | refine BB ?_ | refine Cf ?_
      apply Ae ((k + 2, c1 + 2)) <;> (try dsimp only) <;> try repeat' first | exact k0 | refine kw ?_ | refine kv ?_ ?_ | omega
      all_goals (rw [Ag (by omega)]; exact hrs.symm)
   ·have hke : k = ag.length := by omega
    cases k with
    | zero =>
      have hag : ag = [] := VJ hke.symm
      have hgr : grpRow ag g = g.1 := by rw [hag, JC]
      rw [hgr] at hsn
      dsimp only [Yw, grM]
      repeat' first | refine UN ?_ | refine kz ?_ | refine As ?_ | refine DU ?_ | refine De ?_ | refine Ar Ac ?_ ?_ | refine BB ?_ | refine Cf ?_
      apply Ae ((i + 1, _)) <;> (try dsimp only) <;> try repeat' first | exact k0 | refine w1 ?_ | refine Ab ?_ | refine m1 ?_ ?_ | refine El ?_ | omega
      all_goals (rw [Ag (by omega)]; exact hsn)
    | succ k =>
      dsimp only [Yw, grM]
      rw [hke, Ag (Nat.le_refl _)]
      have hrl : ((grpRow ag g).map Val.d).length = g.1.length + ag.length := by rw [BT, Fm]
      refine A8 (r := 3) (m := g.1.length + ag.length) (es := (grpRow ag g).map Val.d) 11 ?_ (hl := by omega) (hes := Ag (by omega))
      repeat' first | refine kz ?_ | refine As ?_ | refine kh ?_ ?_ | exact ⟨⟩ | fail
      apply Ae ((i + 1, _)) <;> (try dsimp only) <;> try repeat' first | exact k0 | refine w1 ?_ | refine Ab ?_ | refine m1 ?_ ?_ | refine El ?_ | omega
      all_goals (rw [Ag (by omega)]; exact hsn)
  ·obtain rfl : i = G.length := by omega
   rw [Ag (Nat.le_refl _)]
   refine A8 (r := 0) (m := G.length) (es := (G.map fun g => (⟨grpRow ag g, 1⟩ : Entry)).map Entry.d) 8 ?_ (hl := by simp) (hes := Ag (by simp))
   repeat' first | refine kz ?_ | refine As ?_ | refine Aa (hno) ?_ | refine kf ?_ | refine Ar (by repeat (first | exact Ac | refine Ah EE ?_)) ?_ ?_
   all_goals rfl
 ·have he : groupE b keys ag = ([], 1) := if_neg hc
  rw [he]
  have hp := Ev b
  by_cases hkl2 : keys.length + ag.length ≤ 8
  ·have hb : AA b = false := by
    cases h : AA b with
    | false => rfl
    | true => exact absurd ⟨h, hkl2⟩ hc
   rw [hb] at hp
   refine Ad hT Tryz.func90 Tryz.ntmps90 [.tmp 6, .tmp 7] fun B => ?_
   repeat' first | refine kz ?_ | refine As ?_ | refine Aa (hp) ?_ | refine kf ?_ | refine Ar (by repeat (first | exact Ac | refine Ah EE ?_)) ?_ ?_
   all_goals rfl
  ·refine Ad hT Tryz.func90 Tryz.ntmps90 [.tmp 6, .tmp 7] fun B => ?_
   repeat' first | refine kz ?_ | refine As ?_ | refine kf ?_ | refine Ar (by repeat (first | exact Ac | refine Ah EE ?_)) ?_ ?_
   all_goals rfl
end Go.Proofs.YtmpgmjlanngkfaaGreat
end
