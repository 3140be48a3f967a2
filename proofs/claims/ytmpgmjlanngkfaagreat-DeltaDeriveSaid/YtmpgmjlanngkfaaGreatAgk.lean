/-
  Aggregates: Exact, Group.
-/
import Derived.Test.YtmpgmjlanngkfaaGreatAgj
import Derived.Test.YtmpgmjlanngkfaaGreatNrm
import Derived.Test.YtmpgmjlanngkfaaGreatVew
section
namespace Go.Proofs.YtmpgmjlanngkfaaGreat
open Go.Abs Go.RowKit
attribute [local irreducible] ARun At MCall PCall HCall Am SF CF CFs Ah Aj Ar fin AW VLe
set_option linter.unusedSimpArgs false
set_option maxRecDepth 100000
set_option maxHeartbeats 4000000
theorem Ky (b : List Entry) (kf : List Val → List Val) (hk : DX b kf) : (DY b kf).length ≤ b.length := by
 have hcl : ∀ e ∈ b.map fun e : Entry => (⟨kf e.row, 1⟩ : Entry), AI e.row := fun e he => by
  obtain ⟨x, hx, rfl⟩ := List.mem_map.1 he
  exact hk x hx
 obtain ⟨h1, hx⟩ := CJ _ hcl
 have h2 := Ov h1.nz
 have h3 := Kf (b.map fun e : Entry => (⟨kf e.row, 1⟩ : Entry))
 have h4 : Cr (b.map fun e : Entry => (⟨kf e.row, 1⟩ : Entry)) = b.length := by
  clear hcl h1 h2 h3 hk hx
  induction b with
  | nil => rfl
  | cons e b ih => rw [List.map_cons, Cr, ih, List.length_cons]; simp; omega
 unfold DY
 rw [List.length_map]; omega
theorem Sj (b : List Entry) (kf : List Val → List Val) (hk : DX b kf) : (Hi b kf).length ≤ b.length := by
 unfold Hi; rw [List.length_map]; exact Ky b kf hk
theorem Sk {b : List Entry} {kf : List Val → List Val} (hk : DX b kf) {g : List Val × List Entry} (h : g ∈ Hi b kf) : (∃ e ∈ b, kf e.row = g.1) ∧ g.2 = b.filter (OP kf g.1) := by
 obtain ⟨k, hkm, rfl⟩ := List.mem_map.1 h
 exact ⟨((HV hk).2.2 k).1 hkm, rfl⟩
theorem Kz {v : Val} (h : v.valid = true) : -4294967296 ≤ v.int ∧ v.int ≤ 4294967296 := by
 unfold Val.valid at h
 split at h
 ·simp at h; omega
 ·split at h
  ·simp at h; omega
  ·split at h
   ·simp at h; omega
   ·cases h
theorem QE (x : Agg) (e : Entry) : (UK x e).1.valid = true := by
 unfold UK
 dsimp only
 split
 ·exact Hv
 ·exact Gk ..
theorem Sl {x : Agg} {es : List Entry} (hl : es.length ≤ 4096) (hc : ∀ e ∈ es, -262144 ≤ e.count ∧ e.count ≤ 262144) : Ls (Cj x es) := by
 refine ⟨by rw [HU]; exact hl, fun y hy => ?_⟩
 obtain ⟨e, he, rfl⟩ := List.mem_map.1 hy
 exact ⟨Kz (QE x e), hc e he⟩
theorem Sm {x : Agg} {es : List Entry} (hc : ∀ e ∈ es, 0 < e.count) : Dx (Cj x es) := fun y hy => by
 obtain ⟨e, he, rfl⟩ := List.mem_map.1 hy
 exact hc e he
theorem PJ {l : List Entry} (h : AG l = true) : Al l = true ∧ ∀ e ∈ l, 0 < e.count := by
 simp only [AG, Bool.and_eq_true] at h
 refine ⟨h.1, fun e he => ?_⟩
 have h1 := ((AZ h.1).2 e he).2.2
 have h2 := List.all_eq_true.1 h.2 e he
 simp at h2; omega
noncomputable def grpRow (ag : List Agg) (g : List Val × List Entry) : List Val := g.1 ++ ag.map fun x => foldE x.func (Cj x g.2)
noncomputable def groupE (b : List Entry) (keys : List Itm) (ag : List Agg) : List Entry × Int :=
 if AG b = true ∧ keys.length + ag.length ≤ 8 then Bl ((Hi b (A0 keys)).map fun g => ⟨grpRow ag g, 1⟩) else ([], 1)
theorem GK (g : List Val × List Entry) : grpRow [] g = g.1 := by simp [grpRow]
theorem Iz {ag : List Agg} {g : List Val × List Entry} {k : Nat} {x : Agg} (h : ag[k]? = some x) : grpRow (ag.take (k + 1)) g = grpRow (ag.take k) g ++ [foldE x.func (Cj x g.2)] := by
 unfold grpRow; rw [A9 h]; simp
theorem E2 (ag : List Agg) (g : List Val × List Entry) : (grpRow ag g).length = g.1.length + ag.length := by simp [grpRow]
def YF (k v m : Nat) (key : List Val) : SVal := match k with
 | 0 => .c (.d (EG key))
 | _ + 1 => .c (.arr 3 v m)
noncomputable def grM (k v : Nat) (ag : List Agg) (g : List Val × List Entry) : List Blk := match k with
 | 0 => []
 | k + 1 => [.arr v 73 3 ((grpRow (ag.take (k + 1)) g).map Val.d)]
theorem Eh : DeferOk Tryz.prog 144 0 := by
 refine ⟨⟨_, Tryz.func144, by kernel_rfl, by kernel_rfl⟩, fun vs w hl => ?_⟩
 match vs, hl with
 | [], _ =>
   refine callsD_of_wpS Tryz.func144 rfl fun c₀ cs hu => ?_
   apply wpS_region
   simp [wpOpsS, go_sem, recoverD, hu, Tryz.ntmps144, Exit.thenS]
   cases c₀
   simp_all [bodyPostS, results, Tryz.results144]
theorem UL (b : List Entry) (keys : List Itm) (ag : List Agg) (hkl : keys.length ≤ 10000) (hal : ag.length ≤ 10000) : PCall Tryz.prog 90 [.one (Ap b), .one (IU keys), .one (QD ag)] (.tup [.one (Ap (groupE b keys ag).1), .one (.lit (.int .i64 (groupE b keys ag).2))]) := by
 by_cases hc : AG b = true ∧ keys.length + ag.length ≤ 8
 ·have hK : DX b (A0 keys) := fun e _ => Cz keys e.row
  obtain ⟨hb1, hb2⟩ := hc
  obtain ⟨hbv, hbp⟩ := PJ hb1
  obtain ⟨hbl, hbm⟩ := AZ hbv
  have he : groupE b keys ag = Bl ((Hi b (A0 keys)).map fun g => ⟨grpRow ag g, 1⟩) := if_pos ⟨hb1, hb2⟩
  rw [he]
  have hp := Ea b
  rw [hb1] at hp
  have hg := Su b keys hbl (by omega)
  have hgl := Sj b _ hK
  have hno := HG ((Hi b (A0 keys)).map fun g => ⟨grpRow ag g, 1⟩) (by rw [List.length_map]; omega)
  have hgm : ∀ g ∈ Hi b (A0 keys), g.1.length = keys.length ∧ g.2.length ≤ 4096 ∧ (∀ e ∈ g.2, e ∈ b) := fun g hg => by
   obtain ⟨⟨e, _, h1⟩, h2⟩ := Sk hK hg
   refine ⟨by rw [← h1, D0], ?_, fun e he => ?_⟩
   ·have := List.length_filter_le (OP (A0 keys) g.1) b
    rw [h2]; omega
   ·rw [h2] at he; exact (List.mem_filter.1 he).1
  clear he
  generalize Hi b (A0 keys) = G at hg hgl hno hgm
  generalize Bl (G.map fun g => ⟨grpRow ag g, 1⟩) = R at hno
  refine Ac hT Tryz.func90 Tryz.ntmps90 [.tmp 6, .tmp 7] fun B => ?_
  repeat' (first | refine kz ?_ | refine ki ?_ | refine Aa (hp) ?_ | refine Aa (hg) ?_ | refine kf ?_ | refine Ay (by repeat (first | exact Af | refine Aq Eh ?_)) ?_ ?_)
  refine BA 8 56 2 ?_
  refine AO (X := Nat × Nat) [8, 10, 11, 13, 29, 30, 31, 32, 33, 34, 35, 36, 37, 38, 39, 40, 41, 42, 43, 44, 45, 46, 47, 48, 49, 50, 51, 52, 53, 54, 55, 56] (fun x => x.1 ≤ G.length) (fun x lz => (29, (.c (.d (.lit (.int .i64 x.1))))) :: (8, .c (.arr 0 x.2 x.1)) :: lz) (fun x => [.arr x.2 56 2 (((G.take x.1).map fun g => (⟨grpRow ag g, 1⟩ : Entry)).map Entry.d)]) (fun x => G.length - x.1) ((0, 1)) ?_ ?_ ?_ ?_
  repeat' (first | exact k0 | refine kw ?_ | refine kv ?_ ?_ | omega)
  rintro ⟨i, v⟩ c0 hi
  dsimp only at hi ⊢
  by_cases hlt : i < G.length
  ·have hx : G[i]? = some G[i] := List.getElem?_eq_getElem hlt
   have hgi := hgm _ (List.getElem_mem hlt)
   generalize G[i] = g at hx hgi
   have hx2 : (G.map RW)[i]? = some (RW g) := by rw [List.getElem?_map, hx]; rfl
   obtain ⟨hg1, hg2, hg3⟩ := hgi
   have hsn : ((G.take i).map fun g => (⟨grpRow ag g, 1⟩ : Entry)).map Entry.d ++ [[AU (grpRow ag g), .lit (.int .i64 1)]] = ((G.take (i + 1)).map fun g => (⟨grpRow ag g, 1⟩ : Entry)).map Entry.d := by
    rw [A9 hx]; simp [Entry.d]
   have hAl : (((G.take i).map fun g => (⟨grpRow ag g, 1⟩ : Entry)).map Entry.d).length = i := by simp; omega
   generalize ((G.take i).map fun g => (⟨grpRow ag g, 1⟩ : Entry)).map Entry.d = A at hsn hAl ⊢
   repeat' (first | refine kz ?_ | refine kx hx2 ?_ | refine ki ?_ | refine kf ?_ | refine kg ?_ ?_ | fail)
   refine AO (X := Nat × Nat) [11, 13, 37, 38, 39, 40, 41, 42, 43, 44, 45, 46, 47, 48, 49, 50] (fun x => x.1 ≤ ag.length) (fun x lz => (37, (.c (.d (.lit (.int .i64 x.1))))) :: (11, YF x.1 x.2 (g.1.length + x.1) g.1) :: lz) (fun x => .arr v 56 2 A :: .box (c0 + 1) ((RW g).map .d) :: .dead :: grM x.1 x.2 ag g) (fun x => ag.length - x.1) ((0, 0)) ?_ ?_ ?_ ?_
   repeat' (first | exact k0 | refine kw ?_ | refine kv ?_ ?_ | omega)
   ·exact NV
   rintro ⟨k, r⟩ c1 hk
   dsimp only at hk ⊢
   have hmx : (g.1.map Val.d).length = g.1.length := by simp
   by_cases hkl3 : k < ag.length
   ·have hy : ag[k]? = some ag[k] := List.getElem?_eq_getElem hkl3
    generalize ag[k] = y at hy
    have hy2 : (ag.map Agg.d)[k]? = some y.d := by rw [List.getElem?_map, hy]; rfl
    have hvc := Si g y hg2
    have hfc := W7 y.func (Cj y g.2) (Sl hg2 fun e he => (hbm e (hg3 e he)).2.1) (Sm fun e he => hbp e (hg3 e he))
    have hrs := congrArg (List.map Val.d) (Iz (g := g) hy)
    rw [List.map_append, List.map_singleton] at hrs
    have hrl : ((grpRow (ag.take k) g).map Val.d).length = g.1.length + k := by rw [List.length_map, E2, List.length_take]; omega
    cases k with
    | zero =>
      rw [List.take_zero, GK] at hrs
      dsimp only [YF, grM]
      repeat' (first | refine De 2 (mem' := _ :: _ :: _ :: _) ?_ (hm' := rfl) | (refine U5 (ei := RS) (r := 3) (m := g.1.length + 1) (es := g.1.map Val.d) (ys := [(foldE y.func (Cj y g.2)).d]) ?_ (by exact Nat.zero_lt_one) (by rw [hmx]; rfl) (fun el hel => by obtain ⟨z, _, rfl⟩ := List.mem_map.1 hel; rfl) (fun el hel => by rw [List.mem_singleton] at hel; subst hel; rfl) (by simp only [maxLen]; omega) (by simp only [RS]; omega)) | refine kz ?_ | refine kx hy2 ?_ | refine ki ?_ | refine Aa (hvc) ?_ | refine Aa (hfc) ?_ | refine LQ ?_ | refine Gw ?_ | refine Ay Af ?_ ?_ | refine Bo ?_ | refine BR ?_)
      (apply Ae ((1, c1 + 2)); all_goals (try dsimp only); all_goals (try (repeat' (first | exact k0 | refine kw ?_ | refine kv ?_ ?_ | omega))))
      all_goals exact hrs.symm
    | succ k =>
      dsimp only [YF, grM]
      generalize (grpRow (ag.take (k + 1)) g).map Val.d = Z at hrs hrl
      repeat' (first | refine De 2 (mem' := _ :: _ :: _ :: _) ?_ (hm' := rfl) | refine kz ?_ | refine kx hy2 ?_ | refine ki ?_ | refine Aa (hvc) ?_ | refine Aa (hfc) ?_ | refine LQ ?_ | refine Gw ?_ | refine Ay Af ?_ ?_ | refine Bo ?_ | refine BR ?_)
      (apply Ae ((k + 2, c1 + 2)); all_goals (try dsimp only); all_goals (try (repeat' (first | exact k0 | refine kw ?_ | refine kv ?_ ?_ | omega))))
      all_goals (rw [Ag (by omega)]; exact hrs.symm)
   ·have hke : k = ag.length := by omega
    cases k with
    | zero =>
      have hag : ag = [] := List.eq_nil_of_length_eq_zero hke.symm
      have hgr : grpRow ag g = g.1 := by rw [hag, GK]
      rw [hgr] at hsn
      dsimp only [YF, grM]
      repeat' (first | refine U3 ?_ | refine kz ?_ | refine ki ?_ | refine LQ ?_ | refine Gw ?_ | refine Ay Af ?_ ?_ | refine Bo ?_ | refine BR ?_)
      (apply Ae ((i + 1, _)); all_goals (try dsimp only); all_goals (try (repeat' (first | exact k0 | refine w1 ?_ | refine Ab ?_ | refine m1 ?_ ?_ | refine AB ?_ | omega))))
      all_goals (rw [Ag (by omega)]; exact hsn)
    | succ k =>
      dsimp only [YF, grM]
      rw [hke, Ag (Nat.le_refl _)]
      have hrl : ((grpRow ag g).map Val.d).length = g.1.length + ag.length := by rw [List.length_map, E2]
      refine Aw (r := 3) (m := g.1.length + ag.length) (es := (grpRow ag g).map Val.d) 11 ?_ (hl := by omega) (hes := Ag (by omega))
      repeat' (first | refine kz ?_ | refine ki ?_ | refine kf ?_ | refine kg ?_ ?_ | fail)
      (apply Ae ((i + 1, _)); all_goals (try dsimp only); all_goals (try (repeat' (first | exact k0 | refine w1 ?_ | refine Ab ?_ | refine m1 ?_ ?_ | refine AB ?_ | omega))))
      all_goals (rw [Ag (by omega)]; exact hsn)
  ·obtain rfl : i = G.length := by omega
   rw [Ag (Nat.le_refl _)]
   refine Aw (r := 0) (m := G.length) (es := (G.map fun g => (⟨grpRow ag g, 1⟩ : Entry)).map Entry.d) 8 ?_ (hl := by simp) (hes := Ag (by simp))
   repeat' (first | refine kz ?_ | refine ki ?_ | refine Aa (hno) ?_ | refine kf ?_ | refine Ay (by repeat (first | exact Af | refine Aq Eh ?_)) ?_ ?_)
   all_goals rfl
 ·have he : groupE b keys ag = ([], 1) := if_neg hc
  rw [he]
  have hp := Ea b
  by_cases hkl2 : keys.length + ag.length ≤ 8
  ·have hb : AG b = false := by
    cases h : AG b with
    | false => rfl
    | true => exact absurd ⟨h, hkl2⟩ hc
   rw [hb] at hp
   refine Ac hT Tryz.func90 Tryz.ntmps90 [.tmp 6, .tmp 7] fun B => ?_
   repeat' (first | refine kz ?_ | refine ki ?_ | refine Aa (hp) ?_ | refine kf ?_ | refine Ay (by repeat (first | exact Af | refine Aq Eh ?_)) ?_ ?_)
   all_goals rfl
  ·refine Ac hT Tryz.func90 Tryz.ntmps90 [.tmp 6, .tmp 7] fun B => ?_
   repeat' (first | refine kz ?_ | refine ki ?_ | refine kf ?_ | refine Ay (by repeat (first | exact Af | refine Aq Eh ?_)) ?_ ?_)
   all_goals rfl
end Go.Proofs.YtmpgmjlanngkfaaGreat
end
