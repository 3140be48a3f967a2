/-
  Aggregates: Fold, the program's and the document's.
-/
import Derived.Test.YtojfhaoleedmkaaGreatOpa
import Derived.Test.YtojfhaoleedmkaaGreatAgj
import Derived.Test.YtojfhaoleedmkaaGreatAgk
section
section
section
namespace Go.Abs
open Go.RowKit
section
variable {P : Program} {T : TypeId → Option TI} {F0 : Nat → Prop} {w0 : World}
variable {dr : Bool} {ops rest : List Oper} {K : St → Prop} {n : Nat} {sl : List (Nat × SVal)} {mem : List Blk} {ck : Nat} {df : List (FuncId × List Cell)} {acc : List Nat}
variable {d : Tmp} {op : Op} {ty : TypeId} {pos : String} {aft : Array Edge} {g : Option (Nat × Bool)}
end
end Go.Abs
end
end
section
namespace Go.Proofs.YtojfhaoleedmkaaGreat
open Go.Abs Go.RowKit
attribute [local irreducible] ARun kont MCall PCall HCall resVal SF CF CFs defersOk slotsIn memIn fin finM VLe
set_option linter.unusedSimpArgs false
set_option maxRecDepth 100000
set_option maxHeartbeats 4000000
def firstV : List Val → Val
  | [] => Val.null
  | v :: _ => v
def vc (e : Entry) : Val × Int := (firstV e.row, e.count)
def vcs (l : List Entry) : List (Val × Int) := l.map vc
theorem vcs_len (l : List Entry) : (vcs l).length = l.length := by simp [vcs]
theorem vcs_get {l : List Entry} {i : Nat} {e : Entry} (h : l[i]? = some e) : (vcs l)[i]? = some (vc e) := by unfold vcs; rw [List.getElem?_map, h]; rfl
theorem first_c (r : List Val) : PCall Tryz.prog 106 [.one (rowD r)] (.v (.agg (firstV r).d)) := by
  cases r with
  | nil =>
    refine pcallN hT Tryz.func106 Tryz.ntmps106 [.cell 2 53] fun B => ?_
    repeat' (first | refine ks ?_ | refine ko ?_ | refine s_indexD ?_ (hel := (by first | exact rfl)) | refine f_ret1 def_nil ?_ | refine t_cellG ?_ | exact cfs_nil | refine cfs_cons ?_ ?_ | refine cf_d ?_)
    all_goals rfl
  | cons v r =>
    have hv : ((v :: r).map Val.d)[0]? = some v.d := rfl
    have hl : ((v :: r).map Val.d).length = r.length + 1 := by simp
    unfold rowD
    generalize (v :: r).map Val.d = M at hv hl
    refine pcallN hT Tryz.func106 Tryz.ntmps106 [.cell 2 53] fun B => ?_
    repeat' (first | refine ks ?_ | refine ko ?_ | refine s_indexD ?_ (hel := (by first | exact idx_map hv (by omega) | exact hv | exact rfl)) | refine f_ret1 def_nil ?_ | refine t_cellG ?_ | exact cfs_nil | refine cfs_cons ?_ ?_ | refine cf_d ?_)
    all_goals rfl
theorem integers_c (l : List Entry) (h : Bnd (vcs l)) : PCall Tryz.prog 65 [.one (bagD l)] (.tup [.one (.lit (.int .i64 (sumV (vcs l)))), .one (.lit (.int .i64 (cntV (vcs l))))]) := by
  have hl := h.1
  rw [vcs_len] at hl
  refine pcallN hT Tryz.func65 Tryz.ntmps65 [.tmp 2, .tmp 3] fun B => ?_
  repeat' (first | refine ks ?_ | refine ko ?_ | refine s_indexD ?_ (hel := (by first | exact rfl)) | refine f_ret2 def_nil ?_ ?_ | refine t_tmp ?_)
  refine s_lp (X := Nat × Int × Int) [4, 5, 6, 7, 8, 9, 10, 11, 12, 13, 14, 15, 16, 17, 18, 19, 20, 21, 22, 23, 24, 25, 26, 27, 28, 29, 30, 31, 32, 33, 34, 35, 36, 37, 38, 39] (fun x => x.1 ≤ l.length ∧ x.2.1 = sumV ((vcs l).take x.1) ∧ x.2.2 = cntV ((vcs l).take x.1)) (fun x lz => (6, (.c (.d (.lit (.int .i64 x.1))))) :: (4, .c (.d (.lit (.int .i64 x.2.1)))) :: (5, .c (.d (.lit (.int .i64 x.2.2)))) :: lz) (fun x => []) (fun x => l.length - x.1) ((0, 0, 0)) ?_ ?_ ?_ ?_
  repeat' (first | exact slots_nil | refine kw ?_ | exact memIn_nil | omega)
  · exact ⟨by simp, rfl, rfl⟩
  rintro ⟨i, s, m⟩ c ⟨hi, hs, hm⟩
  dsimp only at hi hs hm ⊢
  by_cases hlt : i < l.length
  · have hv : l[i]? = some l[i] := List.getElem?_eq_getElem hlt
    generalize l[i] = e at hv
    have hx := h.2 _ (List.mem_of_getElem? (vcs_get hv))
    have hv2 : (l.map Entry.d)[i]? = some e.d := by rw [List.getElem?_map, hv]; rfl
    have b1 := sumV_bd h i
    have b2 := cntV_bd h i
    have b3 := sumV_bd h (i + 1)
    have b4 := prod_bd hx.1 hx.2
    have e1 := sumV_snoc (vcs_get hv)
    have e2 := cntV_snoc (vcs_get hv)
    rw [← hs] at b1 e1
    rw [← hm] at b2 e2
    have hf := first_c e.row
    unfold vc at e1 e2 b4 hx
    dsimp only at e1 e2 b4 hx
    generalize firstV e.row = u at hf e1 e2 b4 hx
    by_cases hk : u.kind = 1
    · rw [if_pos hk] at e1 e2
      obtain ⟨p, hp⟩ : ∃ p, p = u.int * e.count := ⟨_, rfl⟩
      rw [← hp] at b4 e1
      repeat' (first | refine ks ?_ | refine ko ?_ | refine s_indexD ?_ (hel := (by first | exact idx_map hv2 (by omega) | exact hv2 | exact rfl)) | refine s_call (hf) ?_ | refine f_ret2 def_nil ?_ ?_ | refine t_tmp ?_)
      (apply s_round ((i + 1, s + u.int * e.count, m + e.count)); all_goals (try dsimp only); all_goals (try (repeat' (first | exact slots_nil | refine kw ?_ | exact memIn_nil | omega))))
      all_goals exact ⟨by omega, by rw [e1, hp], e2.symm⟩
    · rw [if_neg hk, Int.add_zero] at e1 e2
      repeat' (first | refine ks ?_ | refine ko ?_ | refine s_indexD ?_ (hel := (by first | exact idx_map hv2 (by omega) | exact hv2 | exact rfl)) | refine s_call (hf) ?_ | refine f_ret2 def_nil ?_ ?_ | refine t_tmp ?_)
      (apply s_round ((i + 1, s, m)); all_goals (try dsimp only); all_goals (try (repeat' (first | exact slots_nil | refine kw ?_ | exact memIn_nil | omega))))
      all_goals exact ⟨by omega, e1.symm, e2.symm⟩
  · rw [take_ge (show (vcs l).length ≤ i by rw [vcs_len]; omega)] at hs hm
    rw [← hs, ← hm]
    repeat' (first | refine ks ?_ | refine ko ?_ | refine s_indexD ?_ (hel := (by first | exact rfl)) | refine f_ret2 def_nil ?_ ?_ | refine t_tmp ?_)
    all_goals rfl
def ValC (L : List (Val × Int)) : Prop := ∀ x ∈ L, x.1.clean = x.1
end Go.Proofs.YtojfhaoleedmkaaGreat
end
end
section
namespace Go.Proofs.YtojfhaoleedmkaaGreat
open Go.Abs Go.RowKit
attribute [local irreducible] ARun kont MCall PCall HCall resVal SF CF CFs defersOk slotsIn memIn fin finM VLe
set_option linter.unusedSimpArgs false
set_option maxRecDepth 100000
set_option maxHeartbeats 4000000
noncomputable def foldP (f : Int) (b : List Entry) : Val := if positiveE b = true then foldE f (vcs b) else Val.null
end Go.Proofs.YtojfhaoleedmkaaGreat
end
