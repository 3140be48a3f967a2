/-
  Aggregates: Exact, Group.
-/
import Derived.Test.YtmpgmjlanngkfaaGreatVew
import Derived.Test.YtmpgmjlanngkfaaGreatNrm
import Derived.Test.YtmpgmjlanngkfaaGreatAss
section
namespace Go.Proofs.YtmpgmjlanngkfaaGreat
open Go.Abs Go.RowKit
attribute [local irreducible] ARun kont MCall PCall HCall resVal SF CF CFs defersOk slotsIn memIn fin finM VLe
set_option linter.unusedSimpArgs false
set_option maxRecDepth 100000
set_option maxHeartbeats 4000000
theorem keysE_len (b : List Entry) (kf : List Val → List Val) (hk : CleanK b kf) : (keysE b kf).length ≤ b.length := by
  have hcl : ∀ e ∈ b.map fun e : Entry => (⟨kf e.row, 1⟩ : Entry), rowClean e.row := fun e he => by
    obtain ⟨x, hx, rfl⟩ := List.mem_map.1 he
    exact hk x hx
  obtain ⟨h1, hx⟩ := sortE_says _ hcl
  have h2 := absS_len h1.nz
  have h3 := absS_sortE (b.map fun e : Entry => (⟨kf e.row, 1⟩ : Entry))
  have h4 : absS (b.map fun e : Entry => (⟨kf e.row, 1⟩ : Entry)) = b.length := by
    clear hcl h1 h2 h3 hk hx
    induction b with
    | nil => rfl
    | cons e b ih => rw [List.map_cons, absS, ih, List.length_cons]; simp; omega
  unfold keysE
  rw [List.length_map]; omega
theorem grpE_len (b : List Entry) (kf : List Val → List Val) (hk : CleanK b kf) : (grpE b kf).length ≤ b.length := by
  unfold grpE; rw [List.length_map]; exact keysE_len b kf hk
theorem grpE_mem {b : List Entry} {kf : List Val → List Val} (hk : CleanK b kf) {g : List Val × List Entry} (h : g ∈ grpE b kf) : (∃ e ∈ b, kf e.row = g.1) ∧ g.2 = b.filter (atK kf g.1) := by
  obtain ⟨k, hkm, rfl⟩ := List.mem_map.1 h
  exact ⟨((keys_says hk).2.2 k).1 hkm, rfl⟩
theorem val_range {v : Val} (h : v.valid = true) : -4294967296 ≤ v.int ∧ v.int ≤ 4294967296 := by
  unfold Val.valid at h
  split at h
  · simp at h; omega
  · split at h
    · simp at h; omega
    · split at h
      · simp at h; omega
      · cases h
theorem vlE_valid (x : Agg) (e : Entry) : (vlE x e).1.valid = true := by
  unfold vlE
  dsimp only
  split
  · exact nullV
  · exact evE_valid ..
theorem vals_bnd {x : Agg} {es : List Entry} (hl : es.length ≤ 4096) (hc : ∀ e ∈ es, -262144 ≤ e.count ∧ e.count ≤ 262144) : Bnd (valsE x es) := by
  refine ⟨by rw [valsE_len]; exact hl, fun y hy => ?_⟩
  obtain ⟨e, he, rfl⟩ := List.mem_map.1 hy
  exact ⟨val_range (vlE_valid x e), hc e he⟩
theorem vals_pos {x : Agg} {es : List Entry} (hc : ∀ e ∈ es, 0 < e.count) : PosC (valsE x es) := fun y hy => by
  obtain ⟨e, he, rfl⟩ := List.mem_map.1 hy
  exact hc e he
theorem pos_mem {l : List Entry} (h : positiveE l = true) : bagValid l = true ∧ ∀ e ∈ l, 0 < e.count := by
  simp only [positiveE, Bool.and_eq_true] at h
  refine ⟨h.1, fun e he => ?_⟩
  have h1 := ((valid_mem h.1).2 e he).2.2
  have h2 := List.all_eq_true.1 h.2 e he
  simp at h2; omega
noncomputable def grpRow (ag : List Agg) (g : List Val × List Entry) : List Val := g.1 ++ ag.map fun x => foldE x.func (valsE x g.2)
noncomputable def groupE (b : List Entry) (keys : List Itm) (ag : List Agg) : List Entry × Int :=
  if positiveE b = true ∧ keys.length + ag.length ≤ 8 then normE ((grpE b (keyE keys)).map fun g => ⟨grpRow ag g, 1⟩) else ([], 1)
theorem grpRow_nil (g : List Val × List Entry) : grpRow [] g = g.1 := by simp [grpRow]
theorem grpRow_snoc {ag : List Agg} {g : List Val × List Entry} {k : Nat} {x : Agg} (h : ag[k]? = some x) : grpRow (ag.take (k + 1)) g = grpRow (ag.take k) g ++ [foldE x.func (valsE x g.2)] := by
  unfold grpRow; rw [take_snoc' h]; simp
theorem grpRow_len (ag : List Agg) (g : List Val × List Entry) : (grpRow ag g).length = g.1.length + ag.length := by simp [grpRow]
def grS (k v m : Nat) (key : List Val) : SVal := match k with
  | 0 => .c (.d (rowX key))
  | _ + 1 => .c (.arr 3 v m)
noncomputable def grM (k v : Nat) (ag : List Agg) (g : List Val × List Entry) : List Blk := match k with
  | 0 => []
  | k + 1 => [.arr v 73 3 ((grpRow (ag.take (k + 1)) g).map Val.d)]
theorem aggGroup1_d : DeferOk Tryz.prog 144 0 := by
  refine ⟨⟨_, Tryz.func144, by kernel_rfl, by kernel_rfl⟩, fun vs w hl => ?_⟩
  match vs, hl with
  | [], _ =>
    refine callsD_of_wpS Tryz.func144 rfl fun c₀ cs hu => ?_
    apply wpS_region
    simp [wpOpsS, go_sem, recoverD, hu, Tryz.ntmps144, Exit.thenS]
    cases c₀
    simp_all [bodyPostS, results, Tryz.results144]
theorem group_c (b : List Entry) (keys : List Itm) (ag : List Agg) (hkl : keys.length ≤ 10000) (hal : ag.length ≤ 10000) : PCall Tryz.prog 90 [.one (bagD b), .one (itmD keys), .one (aggD ag)] (.tup [.one (bagD (groupE b keys ag).1), .one (.lit (.int .i64 (groupE b keys ag).2))]) := by
  by_cases hc : positiveE b = true ∧ keys.length + ag.length ≤ 8
  · have hK : CleanK b (keyE keys) := fun e _ => keyE_clean keys e.row
    obtain ⟨hb1, hb2⟩ := hc
    obtain ⟨hbv, hbp⟩ := pos_mem hb1
    obtain ⟨hbl, hbm⟩ := valid_mem hbv
    have he : groupE b keys ag = normE ((grpE b (keyE keys)).map fun g => ⟨grpRow ag g, 1⟩) := if_pos ⟨hb1, hb2⟩
    rw [he]
    have hp := positive_c b
    rw [hb1] at hp
    have hg := groups_c b keys hbl (by omega)
    have hgl := grpE_len b _ hK
    have hno := normalizeB_c ((grpE b (keyE keys)).map fun g => ⟨grpRow ag g, 1⟩) (by rw [List.length_map]; omega)
    have hgm : ∀ g ∈ grpE b (keyE keys), g.1.length = keys.length ∧ g.2.length ≤ 4096 ∧ (∀ e ∈ g.2, e ∈ b) := fun g hg => by
      obtain ⟨⟨e, _, h1⟩, h2⟩ := grpE_mem hK hg
      refine ⟨by rw [← h1, keyE_len], ?_, fun e he => ?_⟩
      · have := List.length_filter_le (atK (keyE keys) g.1) b
        rw [h2]; omega
      · rw [h2] at he; exact (List.mem_filter.1 he).1
    clear he
    generalize grpE b (keyE keys) = G at hg hgl hno hgm
    generalize normE (G.map fun g => ⟨grpRow ag g, 1⟩) = R at hno
    refine pcallN hT Tryz.func90 Tryz.ntmps90 [.tmp 6, .tmp 7] fun B => ?_
    repeat' (first | refine ks ?_ | refine ko ?_ | refine s_indexD ?_ (hel := (by first | exact rfl)) | refine s_call (hp) ?_ | refine s_call (hg) ?_ | refine kf ?_ | refine f_ret2 (by repeat (first | exact def_nil | refine def_cons aggGroup1_d ?_)) ?_ ?_)
    refine s_own 8 56 2 ?_
    refine s_lp (X := Nat × Nat) [8, 10, 11, 13, 29, 30, 31, 32, 33, 34, 35, 36, 37, 38, 39, 40, 41, 42, 43, 44, 45, 46, 47, 48, 49, 50, 51, 52, 53, 54, 55, 56] (fun x => x.1 ≤ G.length) (fun x lz => (29, (.c (.d (.lit (.int .i64 x.1))))) :: (8, .c (.arr 0 x.2 x.1)) :: lz) (fun x => [.arr x.2 56 2 (((G.take x.1).map fun g => (⟨grpRow ag g, 1⟩ : Entry)).map Entry.d)]) (fun x => G.length - x.1) ((0, 1)) ?_ ?_ ?_ ?_
    repeat' (first | exact slots_nil | refine kw ?_ | exact memIn_nil | refine kv ?_ ?_ | omega)
    rintro ⟨i, v⟩ c0 hi
    dsimp only at hi ⊢
    by_cases hlt : i < G.length
    · have hx : G[i]? = some G[i] := List.getElem?_eq_getElem hlt
      have hgi := hgm _ (List.getElem_mem hlt)
      generalize G[i] = g at hx hgi
      have hx2 : (G.map grD)[i]? = some (grD g) := by rw [List.getElem?_map, hx]; rfl
      obtain ⟨hg1, hg2, hg3⟩ := hgi
      have hsn : ((G.take i).map fun g => (⟨grpRow ag g, 1⟩ : Entry)).map Entry.d ++ [[rowD (grpRow ag g), .lit (.int .i64 1)]] = ((G.take (i + 1)).map fun g => (⟨grpRow ag g, 1⟩ : Entry)).map Entry.d := by
        rw [take_snoc' hx]; simp [Entry.d]
      have hAl : (((G.take i).map fun g => (⟨grpRow ag g, 1⟩ : Entry)).map Entry.d).length = i := by simp; omega
      generalize ((G.take i).map fun g => (⟨grpRow ag g, 1⟩ : Entry)).map Entry.d = A at hsn hAl ⊢
      repeat' (first | refine ks ?_ | refine ko ?_ | refine s_indexD ?_ (hel := (by first | exact idx_map hx2 (by omega) | exact hx2 | exact rfl)) | refine kf ?_ | refine kg ?_ ?_ | fail)
      refine s_lp (X := Nat × Nat) [11, 13, 37, 38, 39, 40, 41, 42, 43, 44, 45, 46, 47, 48, 49, 50] (fun x => x.1 ≤ ag.length) (fun x lz => (37, (.c (.d (.lit (.int .i64 x.1))))) :: (11, grS x.1 x.2 (g.1.length + x.1) g.1) :: lz) (fun x => .arr v 56 2 A :: .box (c0 + 1) ((grD g).map .d) :: .dead :: grM x.1 x.2 ag g) (fun x => ag.length - x.1) ((0, 0)) ?_ ?_ ?_ ?_
      repeat' (first | exact slots_nil | refine kw ?_ | exact memIn_nil | refine kv ?_ ?_ | omega)
      · exact memIn_d1
      rintro ⟨k, r⟩ c1 hk
      dsimp only at hk ⊢
      have hmx : (g.1.map Val.d).length = g.1.length := by simp
      by_cases hkl3 : k < ag.length
      · have hy : ag[k]? = some ag[k] := List.getElem?_eq_getElem hkl3
        generalize ag[k] = y at hy
        have hy2 : (ag.map Agg.d)[k]? = some y.d := by rw [List.getElem?_map, hy]; rfl
        have hvc := values_c g y hg2
        have hfc := fold_c y.func (valsE y g.2) (vals_bnd hg2 fun e he => (hbm e (hg3 e he)).2.1) (vals_pos fun e he => hbp e (hg3 e he))
        have hrs := congrArg (List.map Val.d) (grpRow_snoc (g := g) hy)
        rw [List.map_append, List.map_singleton] at hrs
        have hrl : ((grpRow (ag.take k) g).map Val.d).length = g.1.length + k := by rw [List.length_map, grpRow_len, List.length_take]; omega
        cases k with
        | zero =>
          rw [List.take_zero, grpRow_nil] at hrs
          dsimp only [grS, grM]
          repeat' (first | refine s_allocAt 2 (mem' := _ :: _ :: _ :: _) ?_ (hm' := rfl) | (refine s_appEx (ei := ti73) (r := 3) (m := g.1.length + 1) (es := g.1.map Val.d) (ys := [(foldE y.func (valsE y g.2)).d]) ?_ (by exact Nat.zero_lt_one) (by rw [hmx]; rfl) (fun el hel => by obtain ⟨z, _, rfl⟩ := List.mem_map.1 hel; rfl) (fun el hel => by rw [List.mem_singleton] at hel; subst hel; rfl) (by simp only [maxLen]; omega) (by simp only [ti73]; omega)) | refine ks ?_ | refine ko ?_ | refine s_indexD ?_ (hel := (by first | exact idx_map hy2 (by omega) | exact hy2 | exact rfl)) | refine s_call (hvc) ?_ | refine s_call (hfc) ?_ | refine s_kT ?_ | refine s_kF ?_ | refine f_ret2 def_nil ?_ ?_ | refine t_tmp ?_ | refine t_tmpE ?_)
          (apply s_round ((1, c1 + 2)); all_goals (try dsimp only); all_goals (try (repeat' (first | exact slots_nil | refine kw ?_ | exact memIn_nil | refine kv ?_ ?_ | omega))))
          all_goals exact hrs.symm
        | succ k =>
          dsimp only [grS, grM]
          generalize (grpRow (ag.take (k + 1)) g).map Val.d = Z at hrs hrl
          repeat' (first | refine s_allocAt 2 (mem' := _ :: _ :: _ :: _) ?_ (hm' := rfl) | refine ks ?_ | refine ko ?_ | refine s_indexD ?_ (hel := (by first | exact idx_map hy2 (by omega) | exact hy2 | exact rfl)) | refine s_call (hvc) ?_ | refine s_call (hfc) ?_ | refine s_kT ?_ | refine s_kF ?_ | refine f_ret2 def_nil ?_ ?_ | refine t_tmp ?_ | refine t_tmpE ?_)
          (apply s_round ((k + 2, c1 + 2)); all_goals (try dsimp only); all_goals (try (repeat' (first | exact slots_nil | refine kw ?_ | exact memIn_nil | refine kv ?_ ?_ | omega))))
          all_goals (rw [take_ge (by omega)]; exact hrs.symm)
      · have hke : k = ag.length := by omega
        cases k with
        | zero =>
          have hag : ag = [] := List.eq_nil_of_length_eq_zero hke.symm
          have hgr : grpRow ag g = g.1 := by rw [hag, grpRow_nil]
          rw [hgr] at hsn
          dsimp only [grS, grM]
          repeat' (first | refine s_moveE ?_ | refine ks ?_ | refine ko ?_ | refine s_indexD ?_ (hel := (by first | exact rfl)) | refine s_kT ?_ | refine s_kF ?_ | refine f_ret2 def_nil ?_ ?_ | refine t_tmp ?_ | refine t_tmpE ?_)
          (apply s_round ((i + 1, _)); all_goals (try dsimp only); all_goals (try (repeat' (first | exact slots_nil | refine w1 ?_ | exact memIn_nil | refine memIn_same ?_ | refine m1 ?_ ?_ | refine memIn_dead ?_ | omega))))
          all_goals (rw [take_ge (by omega)]; exact hsn)
        | succ k =>
          dsimp only [grS, grM]
          rw [hke, take_ge (Nat.le_refl _)]
          have hrl : ((grpRow ag g).map Val.d).length = g.1.length + ag.length := by rw [List.length_map, grpRow_len]
          refine s_freeze (r := 3) (m := g.1.length + ag.length) (es := (grpRow ag g).map Val.d) 11 ?_ (hl := by omega) (hes := take_ge (by omega))
          repeat' (first | refine ks ?_ | refine ko ?_ | refine s_indexD ?_ (hel := (by first | exact rfl)) | refine kf ?_ | refine kg ?_ ?_ | fail)
          (apply s_round ((i + 1, _)); all_goals (try dsimp only); all_goals (try (repeat' (first | exact slots_nil | refine w1 ?_ | exact memIn_nil | refine memIn_same ?_ | refine m1 ?_ ?_ | refine memIn_dead ?_ | omega))))
          all_goals (rw [take_ge (by omega)]; exact hsn)
    · obtain rfl : i = G.length := by omega
      rw [take_ge (Nat.le_refl _)]
      refine s_freeze (r := 0) (m := G.length) (es := (G.map fun g => (⟨grpRow ag g, 1⟩ : Entry)).map Entry.d) 8 ?_ (hl := by simp) (hes := take_ge (by simp))
      repeat' (first | refine ks ?_ | refine ko ?_ | refine s_indexD ?_ (hel := (by first | exact rfl)) | refine s_call (hno) ?_ | refine kf ?_ | refine f_ret2 (by repeat (first | exact def_nil | refine def_cons aggGroup1_d ?_)) ?_ ?_)
      all_goals rfl
  · have he : groupE b keys ag = ([], 1) := if_neg hc
    rw [he]
    have hp := positive_c b
    by_cases hkl2 : keys.length + ag.length ≤ 8
    · have hb : positiveE b = false := by
        cases h : positiveE b with
        | false => rfl
        | true => exact absurd ⟨h, hkl2⟩ hc
      rw [hb] at hp
      refine pcallN hT Tryz.func90 Tryz.ntmps90 [.tmp 6, .tmp 7] fun B => ?_
      repeat' (first | refine ks ?_ | refine ko ?_ | refine s_indexD ?_ (hel := (by first | exact rfl)) | refine s_call (hp) ?_ | refine kf ?_ | refine f_ret2 (by repeat (first | exact def_nil | refine def_cons aggGroup1_d ?_)) ?_ ?_)
      all_goals rfl
    · refine pcallN hT Tryz.func90 Tryz.ntmps90 [.tmp 6, .tmp 7] fun B => ?_
      repeat' (first | refine ks ?_ | refine ko ?_ | refine s_indexD ?_ (hel := (by first | exact rfl)) | refine kf ?_ | refine f_ret2 (by repeat (first | exact def_nil | refine def_cons aggGroup1_d ?_)) ?_ ?_)
      all_goals rfl
end Go.Proofs.YtmpgmjlanngkfaaGreat
end
