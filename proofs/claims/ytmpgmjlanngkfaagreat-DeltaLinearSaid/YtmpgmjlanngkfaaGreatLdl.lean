/-
  DeltaLinear: the law returns true.
-/
import Derived.Test.YtmpgmjlanngkfaaGreatSam
import Derived.Test.YtmpgmjlanngkfaaGreatVde
import Derived.Test.YtmpgmjlanngkfaaGreatTny
import Derived.Test.YtmpgmjlanngkfaaGreatAvw
import Derived.Test.YtmpgmjlanngkfaaGreatDlp
section
section
namespace Go.Proofs.YtmpgmjlanngkfaaGreat
open Go.Abs Go.RowKit
set_option linter.unusedSimpArgs false
set_option maxRecDepth 100000

theorem bytes_inj {a b : ByteArray} (h : a.toList = b.toList) : a = b := by
  rw [ByteArray.toList_eq, ByteArray.toList_eq] at h
  cases a; cases b
  simp only at h
  congr
  exact Array.toList_inj.1 h
theorem sv_iff {a b : Val} : sameVal a b = true ↔ a = b := by
  refine ⟨fun h => ?_, fun h => by rw [h]; exact sameVal_refl _⟩
  simp only [sameVal, Bool.and_eq_true, beq_iff_eq] at h
  obtain ⟨h1, h2, h3⟩ := h
  have := bytes_inj h3
  cases a; cases b; simp_all
theorem sr_iff : ∀ {r s : List Val}, sameRow r s = true ↔ r = s
  | [], [] => by simp [sameRow]
  | a :: x, b :: y => by simp [sameRow, sv_iff, sr_iff (r := x) (s := y)]
  | [], _ :: _ => by simp [sameRow]
  | _ :: _, [] => by simp [sameRow]
end Go.Proofs.YtmpgmjlanngkfaaGreat
end
section
namespace Go.Proofs.YtmpgmjlanngkfaaGreat
open Go.Abs Go.RowKit
attribute [local irreducible] ARun kont MCall PCall HCall resVal SF CF CFs defersOk slotsIn memIn fin finM VLe
set_option linter.unusedSimpArgs false
set_option maxRecDepth 100000
set_option maxHeartbeats 4000000

def R1t : List Val := [Val.ofInt 1]
def onesE (n : Int) : List Entry := [⟨R1t, n⟩]
def someW : List Trm := [⟨11, Val.null, 0⟩, ⟨2, Val.null, 0⟩, ⟨1, Val.ofInt 1, 0⟩]
def someI : List Itm := [⟨⟨#[]⟩, [⟨2, Val.null, 0⟩]⟩]
def someV (d : Bool) : Vw := ⟨⟨#[]⟩, 0, ⟨#[]⟩, ⟨#[]⟩, [], someW, someI, d, []⟩

theorem ones_c (n : Int) : PCall Tryz.prog 38 [.one (.lit (.int .i64 n))] (.v (.one (bagD (onesE n)))) := by
  have hi := refInt_c 1
  refine pcallN hT Tryz.func38 Tryz.ntmps38 [.tmp 2] fun B => ?_
  repeat' (first | (with_reducible (first | refine k_seq ?_ | refine k_ret ?_ | refine n_seq ?_)) | refine s_reg ?_ | refine r_end ?_ | refine s_move ?_ | refine s_assign ?_ | refine s_call (hi) ?_ | refine s_bslice ?_ | refine s_build ?_ | refine f_ret1 def_nil ?_ | refine t_tmp ?_)
  all_goals rfl

theorem some_c (d : Bool) : PCall Tryz.prog 37 [.one (.lit (.bool d))] (.v (.agg (someV d).d)) := by
  have hi := refInt_c 1
  refine pcallN hT Tryz.func37 Tryz.ntmps37 [.cell 2 30] fun B => ?_
  repeat' (first | (with_reducible (first | refine k_seq ?_ | refine k_ret ?_ | refine n_seq ?_)) | refine s_reg ?_ | refine r_end ?_ | refine s_move ?_ | refine s_assign ?_ | refine s_call (hi) ?_ | refine s_storeB ?_ | refine s_bslice ?_ | refine s_alloc ?_ | refine s_build ?_ | refine f_ret1 def_nil ?_ | refine t_cellG ?_ | exact cfs_nil | refine cfs_cons ?_ ?_ | refine cf_d ?_ | refine cf_emp ?_)
  all_goals rfl

theorem ones_valid {n : Int} (h : countOK n = true) (h0 : n ≠ 0) : bagValid (onesE n) = true := by
  have hr : rowOK R1t = true := by decide +kernel
  simp [bagValid, onesE, goodFrom, Entry.ok, hr, h, h0]
theorem ones_whole (n : Int) : whereE (onesE n) someW = if bagValid (onesE n) = true then onesE n else [] := by
  have hk : keepE someW ⟨R1t, n⟩ = true := by
    show (decide (someW.length = 0) || holdsE someW R1t) = true
    decide +kernel
  unfold whereE
  split
  · show List.filter _ [_] = _
    rw [List.filter_cons, hk, if_pos rfl]; rfl
  · rfl
theorem ones_map {n : Int} (h : bagValid (onesE n) = true) : mapE (onesE n) (someI.map Itm.expr) = (onesE n, 0) := by
  have hm : (onesE n).map (map1 (someI.map Itm.expr)) = onesE n := by
    have h0 : sameRow ((someI.map Itm.expr).map fun t => evE t R1t) R1t = true := by decide +kernel
    have h1 := sr_iff.1 h0
    show [(⟨(someI.map Itm.expr).map (fun t => evE t R1t), n⟩ : Entry)] = _
    rw [h1]; rfl
  rw [mapE, h, if_pos (by decide), hm, norm_valid h]
theorem ones_sel {n : Int} (d : Bool) (h : bagValid (onesE n) = true) : selE (someV d) (onesE n) = (if d = true then supportE (onesE n) else onesE n, 0) := by
  unfold selE outE
  rw [if_neg (show ¬ (someV d).kind = 1 by show ¬ (0 : Int) = 1; decide), show (someV d).wher = someW from rfl, show (someV d).items = someI from rfl, ones_whole, if_pos h, ones_map h, if_pos rfl, show (someV d).distinct = d from rfl]
  cases d <;> rfl
theorem ones_add {p q : Int} (hp : bagValid (onesE p) = true) (hq : bagValid (onesE q) = true) (s : Int) : addE s (onesE p) (onesE q) = fitsE (if p + s * q = 0 then [] else onesE (p + s * q)) := by
  have hc : rowCmp R1t R1t = 0 := rowCmp_ok.refl _
  rw [addE, if_pos ⟨hp, hq⟩]
  show fitsE (mergeE [⟨R1t, p⟩] [⟨R1t, s * q⟩]) = _
  rw [mergeE, if_neg (by show ¬ rowCmp R1t R1t < 0; omega), if_neg (by show ¬ 0 < rowCmp R1t R1t; omega), mergeE, List.append_nil]
  rfl
theorem ones_fit : fitE (onesE 2) (onesE (-1)) = (onesE 1, 0) := by
  have h2 := ones_valid (n := 2) (by decide) (by decide)
  have h1 := ones_valid (n := -1) (by decide) (by decide)
  have h3 := ones_valid (n := 1) (by decide) (by decide)
  have ha : addE 1 (onesE 2) (onesE (-1)) = (onesE 1, 0) := by
    rw [ones_add h2 h1, if_neg (by decide)]; rfl
  unfold fitE
  rw [ha, if_pos]
  refine ⟨rfl, ?_⟩
  unfold positiveE
  rw [h3]; rfl
theorem ones_der (d : Bool) : derivE (someV d) (onesE 2) [] = true := by
  have h2 := ones_valid (n := 2) (by decide) (by decide)
  have he : emptyR (someV d) = true := beq_self_eq_true _
  unfold derivE positiveE usesR
  rw [h2, he]
  cases d <;> rfl
theorem ones_sup {n : Int} (h : bagValid (onesE n) = true) (hn : 0 < n) : supportE (onesE n) = onesE 1 := by
  unfold supportE
  rw [if_pos h]
  unfold onesE supp
  simp [hn]

theorem sameSelfT_c (l : List Entry) : PCall Tryz.prog 20 [.one (bagD l), .one (bagD l)] (.v (.one (.lit (.bool true)))) := by
  have h := same06_c l l
  rw [sameBag_refl] at h
  exact h

theorem awake10_c : PCall Tryz.prog 15 [] (.v (.one (.lit (.bool true)))) := by
  have h2 := ones_valid (n := 2) (by decide) (by decide)
  have h1 := ones_valid (n := -1) (by decide) (by decide)
  have h3 := ones_valid (n := 1) (by decide) (by decide)
  have he : ∀ d, emptyR (someV d) = true := fun _ => beq_self_eq_true _
  have w1 : chaE (derivE (someV false) (onesE 2) []) (conSE (onesE 2, 0) (selE (someV false) (onesE 2)) (fitE (onesE 2) (onesE (-1))) (selE (someV false) (fitE (onesE 2) (onesE (-1))).1)) = (onesE (-1), 0) := by
    rw [ones_der, ones_fit, ones_sel _ h2, ones_sel _ h3]
    show addE (-1) (onesE 1) (onesE 2) = _
    rw [ones_add h3 h2, if_neg (by decide)]; rfl
  have w2 : chaE (derivE (someV true) (onesE 2) []) (conSE (onesE 2, 0) (selE (someV true) (onesE 2)) (fitE (onesE 2) (onesE (-1))) (selE (someV true) (fitE (onesE 2) (onesE (-1))).1)) = ([], 0) := by
    rw [ones_der, ones_fit, ones_sel _ h2, ones_sel _ h3]
    show addE (-1) (supportE (onesE 1)) (supportE (onesE 2)) = _
    rw [ones_sup h3 (by decide), ones_sup h2 (by decide), ones_add h3 h3, if_pos (by decide)]; rfl
  have w3 : (if derivE (someV false) (onesE 2) [] = true then selE (someV false) (onesE 2) else ([], 1)) = (onesE 2, 0) := by
    rw [ones_der, if_pos rfl, ones_sel _ h2]; rfl
  have c1 := changeS_c (someV false) (onesE 2) [] (onesE (-1)) [] (by decide) rfl (he false)
  have c2 := changeS_c (someV true) (onesE 2) [] (onesE (-1)) [] (by decide) rfl (he true)
  have c3 := deriveS_c (someV false) (onesE 2) [] (by decide) rfl (he false)
  rw [w1] at c1
  rw [w2] at c2
  rw [w3] at c3
  have v1 := some_c false
  have v2 := some_c true
  have o1 := ones_c 2
  have o2 := ones_c (-1)
  have s1 := sameSelfT_c (onesE 2)
  have s2 := sameSelfT_c (onesE (-1))
  clear w1 w2 w3 h1 h2 h3 he
  dsimp only [bagI] at c1 c2 c3
  generalize onesE 2 = A at c1 c2 c3 o1 s1
  generalize onesE (-1) = B at c1 c2 c3 o2 s2
  refine pcallN hT Tryz.func15 Tryz.ntmps15 [.tmp 0] fun B => ?_
  repeat' (first | (with_reducible (first | refine k_seq ?_ | refine k_ret ?_ | refine n_seq ?_)) | refine s_reg ?_ | refine r_end ?_ | refine s_move ?_ | refine s_assign ?_ | refine s_int ?_ | refine s_call (v1) ?_ | refine s_call (v2) ?_ | refine s_call (o1) ?_ | refine s_call (o2) ?_ | refine s_call (c1) ?_ | refine s_call (c2) ?_ | refine s_call (c3) ?_ | refine s_call (s1) ?_ | refine s_call (s2) ?_ | refine s_pick ?_ | refine s_lenD ?_ | refine s_extract ?_ | refine f_ret1 def_nil ?_ | refine t_tmp ?_)
  all_goals rfl
end Go.Proofs.YtmpgmjlanngkfaaGreat
end
end
section
namespace Go.Proofs.YtmpgmjlanngkfaaGreat
open Go.Abs Go.RowKit
attribute [local irreducible] ARun kont MCall PCall HCall resVal SF CF CFs defersOk slotsIn memIn fin finM VLe
set_option linter.unusedSimpArgs false
set_option maxRecDepth 100000
set_option maxHeartbeats 4000000

theorem newTape10_ok {l : List Int} (h : l.length ≤ 17592186044416) : (Tape.mk l 0).ok := ⟨h, by simp⟩

theorem lawDLinear_c (t : List Int) (ht : t.length ≤ 17592186044416) : PCall Tryz.prog 6 [.one (numD t)] (.v (.one (.lit (.bool true)))) := by
  have hnew := new_h t ht
  have hok := newTape10_ok ht
  have haw := awake10_c
  obtain ⟨v, t1, ok1, hv, c1⟩ := anyView_h ⟨t, 0⟩ hok
  obtain ⟨vn, vk, vl, vr, von, vw, vi, vd, va⟩ := v
  obtain ⟨hk, hi, ha, -, -, -, -⟩ := hv
  dsimp only at hk hi ha
  have he : ∀ n k l w i d a, emptyR ⟨n, k, l, ⟨#[]⟩, [], w, i, d, a⟩ = true := fun _ _ _ _ _ _ _ => beq_self_eq_true _
  by_cases h1 : vk = 1
  · subst h1
    obtain ⟨ks, t2, ok2, lk, c2⟩ := keys_h t1 3 3 ok1 (by omega) (by omega) (by omega)
    obtain ⟨a, t3, ok3, va3, -, -, ta, pa, c3⟩ := bagP_h t2 3 6 ok2 (by omega) (by omega)
    obtain ⟨b, t4, ok4, vb3, -, -, tb, pb, c4⟩ := bagP_h t3 3 6 ok3 (by omega) (by omega)
    obtain ⟨d, t5, ok5, vd3, -, -, td, pd, c5⟩ := bagP_h t4 3 4 ok4 (by omega) (by omega)
    have g1 := changeS_c ⟨vn, 0, vl, ⟨#[]⟩, [], vw, ks, false, []⟩ a [] d [] (by dsimp only; omega) rfl (he _ _ _ _ _ _ _)
    rw [lin_sel (v := ⟨vn, 0, vl, ⟨#[]⟩, [], vw, ks, false, []⟩) ta td (by omega) pa pd rfl (he _ _ _ _ _ _ _) rfl (by dsimp only; omega)] at g1
    have g2 := changeS_c ⟨vn, 0, vl, ⟨#[]⟩, [], vw, ks, false, []⟩ b [] d [] (by dsimp only; omega) rfl (he _ _ _ _ _ _ _)
    rw [lin_sel (v := ⟨vn, 0, vl, ⟨#[]⟩, [], vw, ks, false, []⟩) tb td (by omega) pb pd rfl (he _ _ _ _ _ _ _) rfl (by dsimp only; omega)] at g2
    dsimp only at g1 g2
    have s1 := sameSelfT_c (mapE (whereE d vw) (ks.map Itm.expr)).1
    generalize (mapE (whereE d vw) (ks.map Itm.expr)).1 = Z at g1 g2 s1
    dsimp only [bagI] at g1 g2
    clear he ta tb td pa pb pd
    refine pcallN hT Tryz.func6 Tryz.ntmps6 [.tmp 2] fun B => ?_
    repeat' (first | (with_reducible (first | refine k_seq ?_ | refine k_skip ?_ | refine k_ret ?_ | refine n_seq ?_)) | refine s_reg ?_ | refine s_ifT ?_ | refine s_ifF ?_ | refine r_end ?_ | refine s_move ?_ | refine s_assign ?_ | refine s_int ?_ | refine s_loadB1 ?_ | refine s_loadBA ?_ | refine s_fieldB ?_ | refine s_call (g1) ?_ | refine s_call (g2) ?_ | refine s_call (s1) ?_ | refine s_call (haw) ?_ | refine s_callH [] (hnew) ?_ | refine s_callH [1] (c1) ?_ | refine s_callH [1] (c2) ?_ | refine s_callH [1] (c3) ?_ | refine s_callH [1] (c4) ?_ | refine s_callH [1] (c5) ?_ | refine s_pick ?_ | refine s_storeB ?_ | refine s_extract ?_ | refine s_alloc ?_ | refine f_ret1 def_nil ?_ | refine t_tmp ?_)
    all_goals rfl
  · obtain ⟨a, t3, ok3, va3, -, -, ta, pa, c3⟩ := bagP_h t1 3 6 ok1 (by omega) (by omega)
    obtain ⟨b, t4, ok4, vb3, -, -, tb, pb, c4⟩ := bagP_h t3 3 6 ok3 (by omega) (by omega)
    obtain ⟨d, t5, ok5, vd3, -, -, td, pd, c5⟩ := bagP_h t4 3 4 ok4 (by omega) (by omega)
    have key : ∃ Z : List Entry, PCall Tryz.prog 18 [.agg (Vw.mk vn vk vl ⟨#[]⟩ [] vw vi false va).d, .one (bagD a), .one (bagD []), .one (bagD d), .one (bagD [])] (bagI (Z, 0)) ∧ PCall Tryz.prog 18 [.agg (Vw.mk vn vk vl ⟨#[]⟩ [] vw vi false va).d, .one (bagD b), .one (bagD []), .one (bagD d), .one (bagD [])] (bagI (Z, 0)) := by
      by_cases h2 : vk = 2
      · subst h2
        have g1 := changeU_c ⟨vn, 2, vl, ⟨#[]⟩, [], vw, vi, false, va⟩ a [] d [] rfl
        rw [lin_uni (v := ⟨vn, 2, vl, ⟨#[]⟩, [], vw, vi, false, va⟩) ta td (by omega) pa pd rfl] at g1
        have g2 := changeU_c ⟨vn, 2, vl, ⟨#[]⟩, [], vw, vi, false, va⟩ b [] d [] rfl
        rw [lin_uni (v := ⟨vn, 2, vl, ⟨#[]⟩, [], vw, vi, false, va⟩) tb td (by omega) pb pd rfl] at g2
        exact ⟨d, g1, g2⟩
      · obtain rfl : vk = 0 := by omega
        have g1 := changeS_c ⟨vn, 0, vl, ⟨#[]⟩, [], vw, vi, false, va⟩ a [] d [] (by dsimp only; omega) rfl (he _ _ _ _ _ _ _)
        rw [lin_sel (v := ⟨vn, 0, vl, ⟨#[]⟩, [], vw, vi, false, va⟩) ta td (by omega) pa pd rfl (he _ _ _ _ _ _ _) rfl (by dsimp only; omega)] at g1
        have g2 := changeS_c ⟨vn, 0, vl, ⟨#[]⟩, [], vw, vi, false, va⟩ b [] d [] (by dsimp only; omega) rfl (he _ _ _ _ _ _ _)
        rw [lin_sel (v := ⟨vn, 0, vl, ⟨#[]⟩, [], vw, vi, false, va⟩) tb td (by omega) pb pd rfl (he _ _ _ _ _ _ _) rfl (by dsimp only; omega)] at g2
        exact ⟨_, g1, g2⟩
    obtain ⟨Z, g1, g2⟩ := key
    have s1 := sameSelfT_c Z
    dsimp only [bagI] at g1 g2
    clear he ta tb td pa pb pd
    refine pcallN hT Tryz.func6 Tryz.ntmps6 [.tmp 2] fun B => ?_
    repeat' (first | (with_reducible (first | refine k_seq ?_ | refine k_skip ?_ | refine k_ret ?_ | refine n_seq ?_)) | refine s_reg ?_ | refine s_ifT ?_ | refine s_ifF ?_ | refine r_end ?_ | refine s_move ?_ | refine s_assign ?_ | refine s_int ?_ | refine s_loadB1 ?_ | refine s_loadBA ?_ | refine s_fieldB ?_ | refine s_call (g1) ?_ | refine s_call (g2) ?_ | refine s_call (s1) ?_ | refine s_call (haw) ?_ | refine s_callH [] (hnew) ?_ | refine s_callH [1] (c1) ?_ | refine s_callH [1] (c3) ?_ | refine s_callH [1] (c4) ?_ | refine s_callH [1] (c5) ?_ | refine s_pick ?_ | refine s_storeB ?_ | refine s_extract ?_ | refine s_alloc ?_ | refine f_ret1 def_nil ?_ | refine t_tmp ?_)
    all_goals rfl
end Go.Proofs.YtmpgmjlanngkfaaGreat
end
