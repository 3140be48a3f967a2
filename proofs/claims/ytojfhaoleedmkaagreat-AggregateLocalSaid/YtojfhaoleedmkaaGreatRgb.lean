/-
  Aggregates: Fold, the program's and the document's.
-/
import Derived.Test.YtojfhaoleedmkaaGreatRga
import Derived.Test.YtojfhaoleedmkaaGreatAgk
namespace Go.Proofs.YtojfhaoleedmkaaGreat
open Go.Abs Go.RowKit
attribute [local irreducible] ARun kont MCall PCall HCall resVal SF CF CFs defersOk slotsIn memIn fin finM VLe
set_option linter.unusedSimpArgs false
set_option maxRecDepth 100000
set_option maxHeartbeats 4000000
theorem null_least (v : Val) : ¬ v.cmp Val.null < 0 := by
  have hv := clean_valid v
  have hn : Val.null.clean = Val.null := by unfold Val.clean; exact if_pos nullV
  unfold Val.cmp
  rw [hn]
  generalize v.clean = u at hv
  have hl : u.less Val.null = false := by
    unfold Val.less
    unfold Val.valid at hv
    have hk : Val.null.kind = 0 := rfl
    have hi : Val.null.int = 0 := rfl
    have ht : Val.null.text.toList = [] := by decide +kernel
    rw [hk, hi, ht]
    split at hv
    · rename_i h
      simp only [Bool.and_eq_true, decide_eq_true_eq] at hv
      have h3 : u.text.toList = [] := by simpa using hv.2
      rw [h, hv.1, h3]
      decide +kernel
    · split at hv
      · rename_i h; rw [h]; simp
      · split at hv
        · rename_i h; rw [h]; simp
        · cases hv
  rw [hl]
  split
  · omega
  · simp
theorem row_first {a b : List Val} (h : rowCmp a b < 0) : ¬ (firstV b).cmp (firstV a) < 0 := by
  cases a with
  | nil => exact null_least _
  | cons x a =>
    cases b with
    | nil => simp [rowCmp] at h
    | cons y b =>
      rw [rowCmp] at h
      show ¬ y.cmp x < 0
      have h1 := cmp_ok.anti x y
      split at h <;> omega
theorem rowOK_val {r : List Val} (h : rowOK r = true) : ∀ v ∈ r, v.valid = true := by
  simp only [rowOK, Bool.and_eq_true, List.all_eq_true] at h
  exact h.2
theorem first_valid {r : List Val} (h : ∀ v ∈ r, v.valid = true) : (firstV r).valid = true := by
  cases r with
  | nil => decide +kernel
  | cons v r => exact h v (by simp)
theorem vcs_says {b : List Entry} (h : positiveE b = true) : Bnd (vcs b) ∧ PosC (vcs b) ∧ AscV (vcs b) ∧ ValC (vcs b) := by
  obtain ⟨h1, h2⟩ := pos_mem h
  obtain ⟨h3, h4⟩ := valid_mem h1
  refine ⟨⟨by rw [vcs_len]; exact h3, fun x hx => ?_⟩, fun x hx => ?_, ?_, fun x hx => ?_⟩
  · obtain ⟨e, he, rfl⟩ := List.mem_map.1 hx
    exact ⟨val_range (first_valid (rowOK_val (h4 e he).1)), (h4 e he).2.1⟩
  · obtain ⟨e, he, rfl⟩ := List.mem_map.1 hx
    exact h2 e he
  · unfold AscV vcs
    rw [List.pairwise_map]
    exact (sorted_of_valid h1).up.imp fun {a b} hab => row_first hab
  · obtain ⟨e, he, rfl⟩ := List.mem_map.1 hx
    unfold Val.clean
    exact if_pos (first_valid (rowOK_val (h4 e he).1))
noncomputable def foldP (f : Int) (b : List Entry) : Val := if positiveE b = true then foldE f (vcs b) else Val.null
theorem aggFold1_d : DeferOk Tryz.prog 70 0 := by
  refine ⟨⟨_, Tryz.func70, by kernel_rfl, by kernel_rfl⟩, fun vs w hl => ?_⟩
  match vs, hl with
  | [], _ =>
    refine callsD_of_wpS Tryz.func70 rfl fun c₀ cs hu => ?_
    apply wpS_region
    simp [wpOpsS, go_sem, recoverD, hu, Tryz.ntmps70, Exit.thenS]
    cases c₀
    simp_all [bodyPostS, results, Tryz.results70]
theorem vcs_snoc {b : List Entry} {i : Nat} {e : Entry} (h : b[i]? = some e) : (vcs (b.take i)).map cnD ++ [cnD (firstV e.row, e.count)] = (vcs (b.take (i + 1))).map cnD := by
  rw [take_snoc' h]; simp [vcs, vc]
theorem aggFold_c (f : Int) (b : List Entry) : PCall Tryz.prog 30 [.one (.lit (.int .i64 f)), .one (bagD b)] (.v (.agg (foldP f b).d)) := by
  have hp := positive_c b
  cases hb : positiveE b with
  | false =>
    rw [hb] at hp
    have he : foldP f b = Val.null := by unfold foldP; rw [hb]; rfl
    rw [he]
    refine pcallN hT Tryz.func30 Tryz.ntmps30 [.cell 4 53] fun B => ?_
    repeat' (first | refine ks ?_ | refine ko ?_ | refine s_indexD ?_ (hel := (by first | exact rfl)) | refine s_call (hp) ?_ | refine f_ret1 (by repeat (first | exact def_nil | refine def_cons aggFold1_d ?_)) ?_ | refine t_cellG ?_ | exact cfs_nil | refine cfs_cons ?_ ?_ | refine cf_d ?_)
    all_goals rfl
  | true =>
    rw [hb] at hp
    obtain ⟨hB, hP, hA, hC⟩ := vcs_says hb
    have hl := hB.1
    rw [vcs_len] at hl
    have hf := fold_c f (vcs b) hB hP
    have he : foldP f b = foldE f (vcs b) := by unfold foldP; rw [if_pos hb]
    rw [he]
    generalize foldE f (vcs b) = R at hf
    refine pcallN hT Tryz.func30 Tryz.ntmps30 [.cell 4 53] fun B => ?_
    repeat' (first | refine ks ?_ | refine ko ?_ | refine s_indexD ?_ (hel := (by first | exact rfl)) | refine s_call (hp) ?_ | refine f_ret1 (by repeat (first | exact def_nil | refine def_cons aggFold1_d ?_)) ?_ | refine t_cellG ?_ | exact cfs_nil | refine cfs_cons ?_ ?_ | refine cf_d ?_)
    refine s_own 5 99 4 ?_
    refine s_lp (X := Nat × Nat) [5, 7, 8, 15, 16, 17, 18, 19, 20, 21, 22, 23, 24, 25, 26, 27, 28, 29, 30, 31, 32, 33, 34] (fun x => x.1 ≤ b.length) (fun x lz => (15, (.c (.d (.lit (.int .i64 x.1))))) :: (5, .c (.arr 1 x.2 x.1)) :: lz) (fun x => [.box 1 (Val.null.d.map .d), .arr x.2 99 4 ((vcs (b.take x.1)).map cnD)]) (fun x => b.length - x.1) ((0, 2)) ?_ ?_ ?_ ?_
    repeat' (first | exact slots_nil | refine kw ?_ | exact memIn_nil | refine kv ?_ ?_ | omega)
    rintro ⟨i, k⟩ c hi
    dsimp only at hi ⊢
    by_cases hlt : i < b.length
    · have hv : b[i]? = some b[i] := List.getElem?_eq_getElem hlt
      generalize b[i] = e at hv
      have hv2 : (b.map Entry.d)[i]? = some e.d := by rw [List.getElem?_map, hv]; rfl
      have hs := vcs_snoc hv
      have hal : ((vcs (b.take i)).map cnD).length = i := by simp [vcs]; omega
      generalize (vcs (b.take i)).map cnD = A at hs hal ⊢
      obtain ⟨row, n⟩ := e
      dsimp only at hs
      cases row with
      | nil =>
        repeat' (first | refine ks ?_ | refine ko ?_ | refine s_indexD ?_ (hel := (by first | exact idx_map hv2 (by omega) | exact hv2 | exact rfl)) | refine f_ret1 def_nil ?_ | refine t_cellG ?_ | exact cfs_nil | refine cfs_cons ?_ ?_ | refine cf_d ?_)
        (apply s_round ((i + 1, c + 3)); all_goals (try dsimp only); all_goals (try (repeat' (first | exact slots_nil | refine kw ?_ | exact memIn_nil | refine kv ?_ ?_ | omega))))
        all_goals first
          | omega
          | (rw [take_ge (by omega)]; exact hs)
      | cons v r =>
        have hr : ((v :: r).map Val.d)[0]? = some v.d := rfl
        have hrl : ((v :: r).map Val.d).length = r.length + 1 := by simp
        unfold Entry.d rowD at hv2
        dsimp only at hv2
        generalize (v :: r).map Val.d = M at hr hrl hv2
        repeat' (first | refine ks ?_ | refine ko ?_ | refine s_indexD ?_ (hel := (by first | exact idx_map hv2 (by omega) | exact idx_map hr (by omega) | exact hv2 | exact hr | exact rfl)) | refine f_ret1 def_nil ?_ | refine t_cellG ?_ | exact cfs_nil | refine cfs_cons ?_ ?_ | refine cf_d ?_)
        (apply s_round ((i + 1, c + 3)); all_goals (try dsimp only); all_goals (try (repeat' (first | exact slots_nil | refine kw ?_ | exact memIn_nil | refine kv ?_ ?_ | omega))))
        all_goals first
          | omega
          | (rw [take_ge (by omega)]; exact hs)
    · obtain rfl : i = b.length := by omega
      rw [take_ge (Nat.le_refl _)]
      refine s_freeze (m := b.length) (r := 1) (es := (vcs b).map cnD) 5 ?_ (hl := by rw [List.length_map, vcs_len]; omega) (hes := take_ge (by rw [List.length_map, vcs_len]; omega))
      repeat' (first | refine ks ?_ | refine ko ?_ | refine s_indexD ?_ (hel := (by first | exact rfl)) | refine s_call (hf) ?_ | refine f_ret1 (by repeat (first | exact def_nil | refine def_cons aggFold1_d ?_)) ?_ | refine t_cellG ?_ | exact cfs_nil | refine cfs_cons ?_ ?_ | refine cf_d ?_)
      all_goals rfl
theorem refFold_c (f : Int) (b : List Entry) : PCall Tryz.prog 31 [.one (.lit (.int .i64 f)), .one (bagD b)] (.v (.agg (foldP f b).d)) := by
  have hp := refPositive_c b
  cases hb : positiveE b with
  | false =>
    rw [hb] at hp
    have he : foldP f b = Val.null := by unfold foldP; rw [hb]; rfl
    rw [he]
    refine pcallN hT Tryz.func31 Tryz.ntmps31 [.cell 4 53] fun B => ?_
    repeat' (first | refine ks ?_ | refine ko ?_ | refine s_call (hp) ?_ | refine f_ret1 def_nil ?_ | refine t_cellG ?_ | exact cfs_nil | refine cfs_cons ?_ ?_ | refine cf_d ?_)
    all_goals rfl
  | true =>
    rw [hb] at hp
    obtain ⟨hB, hP, hA, hC⟩ := vcs_says hb
    have hf := foldI_c f b hB hP hA hC
    have he : foldP f b = foldE f (vcs b) := by unfold foldP; rw [if_pos hb]
    rw [he]
    generalize foldE f (vcs b) = R at hf
    refine pcallN hT Tryz.func31 Tryz.ntmps31 [.cell 4 53] fun B => ?_
    repeat' (first | refine ks ?_ | refine ko ?_ | refine s_call (hp) ?_ | refine s_call (hf) ?_ | refine f_ret1 def_nil ?_ | refine t_cellG ?_ | exact cfs_nil | refine cfs_cons ?_ ?_ | refine cf_d ?_)
    all_goals rfl
end Go.Proofs.YtojfhaoleedmkaaGreat
