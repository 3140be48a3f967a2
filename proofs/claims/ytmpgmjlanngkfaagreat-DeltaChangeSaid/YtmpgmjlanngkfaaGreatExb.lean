/-
  Expressions: what a list of terms means for a row, in plain terms.
-/
import Derived.Test.YtmpgmjlanngkfaaGreatLasn
import Derived.Test.YtmpgmjlanngkfaaGreatSum
import Derived.Test.YtmpgmjlanngkfaaGreatTap
section
namespace Go.Proofs.YtmpgmjlanngkfaaGreat
open Go.Abs Go.RowKit
attribute [local irreducible] ARun Av MCall PCall HCall Ap SF CF CFs Ag Ai As fin AY VLe
set_option linter.unusedSimpArgs false
set_option maxRecDepth 100000
set_option maxHeartbeats 4000000
variable {row : List Val}
def Fs (row : List Val) (col : Int) : Val := if col < 0 then Val.null else match row[col.toNat]? with | some v => v | none => Val.null
theorem VI {col : Int} (h : col < 0) : Fs row col = Val.null := by simp [Fs, h]
theorem NG {col : Int} (h : (row.length : Int) ≤ col) : Fs row col = Val.null := by
 unfold Fs
 split
 ·rfl
 ·rw [XL (by omega)]
theorem NH {k : Nat} {v : Val} (h : row[k]? = some v) : Fs row k = v := by
 unfold Fs
 rw [if_neg (by omega), To, h]
theorem OU (row : List Val) (col : Int) : PC 231 [.one (A0 row), .one (.lit (.int .i64 col))] (.v (.agg (Fs row col).d)) := by
 by_cases h0 : col < 0
 ·rw [VI h0]
  refine Ac hT Tryz.func231 Tryz.ntmps231 [.cell 4 73] fun B => ?_
  repeat' first | refine kz ?_ | refine Ao ?_ | refine kh ?_ ?_ | exact ⟨⟩ | fail
  all_goals rfl
 ·by_cases h1 : col < row.length
  ·obtain ⟨k, rfl⟩ := R8 (Q4.1 h0)
   obtain ⟨v, hv⟩ := gx (l := row) (i := k) (by omega)
   rw [NH hv]
   refine Ac hT Tryz.func231 Tryz.ntmps231 [.cell 4 73] fun B => ?_
   repeat' first | refine kz ?_ | refine AF hv ?_ | refine Ao ?_ | refine kh ?_ ?_ | exact ⟨⟩ | fail
   all_goals rfl
  ·rw [NG (by omega)]
   refine Ac hT Tryz.func231 Tryz.ntmps231 [.cell 4 73] fun B => ?_
   repeat' first | refine kz ?_ | refine Ao ?_ | refine kh ?_ ?_ | exact ⟨⟩ | fail
   all_goals rfl
theorem OV (row : List Val) (col : Int) : PC 226 [.one (A0 row), .one (.lit (.int .i64 col))] (.v (.agg (Fs row col).d)) := by
 by_cases h0 : col < 0
 ·rw [VI h0]
  refine Ac hT Tryz.func226 Tryz.ntmps226 [.cell 4 73] fun B => ?_
  repeat' first | refine kz ?_ | refine Ao ?_ | refine kh ?_ ?_ | exact ⟨⟩ | fail
  all_goals rfl
 ·by_cases h1 : col < row.length
  ·obtain ⟨k, rfl⟩ := R8 (Q4.1 h0)
   obtain ⟨v, hv⟩ := gx (l := row) (i := k) (by omega)
   rw [NH hv]
   refine Ac hT Tryz.func226 Tryz.ntmps226 [.cell 4 73] fun B => ?_
   repeat' first | refine kz ?_ | refine AF hv ?_ | refine Ao ?_ | refine kh ?_ ?_ | exact ⟨⟩ | fail
   all_goals rfl
  ·rw [NG (by omega)]
   refine Ac hT Tryz.func226 Tryz.ntmps226 [.cell 4 73] fun B => ?_
   repeat' first | refine kz ?_ | refine Ao ?_ | refine kh ?_ ?_ | exact ⟨⟩ | fail
   all_goals rfl
def KK (a b : ByteArray) : Bool := decide (b.size ≤ a.size) && ((a.extract 0 b.size).toList == b.toList)
theorem TF (a b : ByteArray) : PC 251 [.one (.lit (.string a)), .one (.lit (.string b))] (.v (.one (.lit (.bool (KK a b))))) := by
 refine Ac hT Tryz.func251 Tryz.ntmps251 [.tmp 4] fun B => ?_
 repeat' first | refine kz ?_ | refine Al rfl rfl (fun hb => ?_) (fun hb => ?_) | refine kf ?_ | fail
 all_goals (refine congrArg Dat.lit (congrArg Value.bool ?_); simp only [KK])
 ·rw [decide_eq_true (by omega)]; simp
 ·rw [decide_eq_false (by omega)]; rfl
theorem OW (a b : ByteArray) : PC 232 [.one (.lit (.string a)), .one (.lit (.string b))] (.v (.one (.lit (.bool (KK a b))))) := by
 refine Ac hT Tryz.func232 Tryz.ntmps232 [.tmp 4] fun B => ?_
 repeat' first | refine kz ?_ | refine Aa (TF _ _) ?_ | refine kf ?_ | fail
 all_goals rfl
def Dq (l : List UInt8) : Dat := .lit (.string ⟨l.toArray⟩)
theorem Ft (L : List UInt8) : (⟨L.toArray⟩ : ByteArray).size = L.length := by simp [ByteArray.size]
theorem JN (a b : List UInt8) : KK ⟨a.toArray⟩ ⟨b.toArray⟩ = b.isPrefixOf a := by
 unfold KK
 have h1 : ((⟨a.toArray⟩ : ByteArray).extract 0 (⟨b.toArray⟩ : ByteArray).size).toList = a.take b.length := by
  rw [ByteArray.toList_eq, ByteArray.data_extract, Ft]
  simp [List.extract_toArray, List.extract_eq_take_drop]
 have h2 : (⟨b.toArray⟩ : ByteArray).toList = b := by rw [ByteArray.toList_eq]
 rw [h1, h2, Ft, Ft, Q2]
 simp only [BM, decide_eq_true_eq, beq_iff_eq, List.isPrefixOf_iff_prefix]
 constructor
 ·rintro ⟨_, h⟩
  have := List.take_prefix b.length a
  rwa [h] at this
 ·intro h
  exact ⟨h.length_le, (List.prefix_iff_eq_take.1 h).symm⟩
def TG (on : List (Int × Int)) : Dat := .sl (on.map fun p => [.lit (.int .i64 p.1), .lit (.int .i64 p.2)])
def B9 (row : List Val) : List Int → Option (List Val)
 | [] => some []
 | c :: cs => if (Fs row c).kind = 0 then none else (B9 row cs).map ((Fs row c) :: ·)
theorem I7 (row : List Val) : ∀ (cs : List Int) (c : Int), B9 row (cs ++ [c]) = (B9 row cs).bind fun l => if (Fs row c).kind = 0 then none else some (l ++ [Fs row c])
 | [], c => by simp [B9]
 | d :: cs, c => by
   rw [List.cons_append, B9, B9, I7 row cs c]
   split
   ·rfl
   ·cases B9 row cs with
    | none => rfl
    | some l => simp; split <;> rfl
theorem KL (row : List Val) : ∀ (cs : List Int) (l : List Val), B9 row cs = some l → l.length = cs.length
 | [], l, h => by simp [B9] at h; subst h; rfl
 | c :: cs, l, h => by
   rw [B9] at h
   split at h
   ·cases h
   ·cases hq : B9 row cs with
    | none => rw [hq] at h; cases h
    | some m => rw [hq] at h; simp at h; subst h; simp [KL row cs m hq]
theorem Mo {cs : List Int} {i : Nat} (h : B9 row (cs.take i) = none) : B9 row cs = none := by
 induction cs generalizing i with
 | nil => simp [B9] at h
 | cons c cs ih =>
   cases i with
   | zero => simp [B9] at h
   | succ i =>
     rw [List.take_succ_cons, B9] at h
     rw [B9]
     split
     ·rfl
     ·rename_i hk
      rw [if_neg hk] at h
      cases hq : B9 row (cs.take i) with
      | none => rw [ih hq]; rfl
      | some m => rw [hq] at h; cases h
def Yk (o : Option (List Val)) : PRes := match o with
 | some l => .tup [.one (Dq (Ar l)), .one (.lit (.bool true))]
 | none => .tup [.one (Dq []), .one (.lit (.bool false))]
theorem VJ (row : List Val) (on : List (Int × Int)) (oz : on.length ≤ 10000) : PC 193 [.one (A0 row), .one (TG on), .one (.lit (.int .i64 0))] (Yk (B9 row (on.map Prod.fst))) := by
 refine Ac hT Tryz.func193 Tryz.ntmps193 [.tmp 6, .tmp 7] fun B => ?_
 repeat' first | refine kz ?_ | refine Ao ?_ | refine kh ?_ ?_ | exact ⟨⟩ | fail
 refine AK (X := Nat × List Val) ([6, 7, 9, 10] ++ List.range' 16 20) (fun x => x.1 ≤ on.length ∧ B9 row ((on.map Prod.fst).take x.1) = some x.2) (fun x lz => (16, (iC x.1)) :: lz) (fun x => [.arr 1 73 3 (x.2.map Val.d ++ List.replicate (on.length - x.1) Val.null.d)]) (fun x => on.length - x.1) ((0, [])) ?_ ?_ ?_ ?_
 repeat' first | exact k0 | refine kw ?_ | refine kv ?_ ?_ | omega
 ·exact ⟨by simp, by simp [B9]⟩
 rintro ⟨i, l⟩ c ⟨hi, hinv⟩
 dsimp only at hi hinv ⊢
 have mj := KL _ _ _ hinv
 have mj : l.length = i := by rw [mj]; simp; omega
 by_cases i7 : i < on.length
 ·obtain ⟨p, hv⟩ := gx i7
  have ju : (on.map Prod.fst).take (i + 1) = (on.map Prod.fst).take i ++ [p.1] := by rw [Gm, BU, hv]; rfl
  have jc := I7 row ((on.map Prod.fst).take i) p.1
  rw [← ju, hinv] at jc
  simp only [Option.bind_some] at jc
  have j4 : List.replicate (on.length - i) Val.null.d = Val.null.d :: List.replicate (on.length - (i + 1)) Val.null.d := by rw [show on.length - i = (on.length - (i + 1)) + 1 by omega, dV]
  have he : (l.map Val.d ++ List.replicate (on.length - i) Val.null.d)[i]? = some Val.null.d := by rw [j4, Oy (by simp; omega)]; simp [mj]
  have lA : (l.map Val.d ++ List.replicate (on.length - i) Val.null.d).set i (Fs row p.1).d = (l ++ [Fs row p.1]).map Val.d ++ List.replicate (on.length - (i + 1)) Val.null.d := by
   rw [j4, aR _ _ (by simp; omega)]; simp [mj]
  have l8 := OU row p.1
  generalize hq : Fs row p.1 = u at lA jc l8
  have oa : ((l.map Val.d ++ List.replicate (on.length - i) Val.null.d).set i u.d)[i]? = some u.d := J5 (by simp; omega)
  by_cases hk : u.kind = 0
  ·rw [if_pos hk] at jc
   rw [Mo jc]
   repeat' first | refine kz ?_ | refine AF hv ?_ | refine AF he ?_ | refine AF oa ?_ | refine Ao ?_ | refine Aa (l8) ?_ | refine kh ?_ ?_ | exact ⟨⟩ | fail
   all_goals rfl
  ·rw [if_neg hk] at jc
   repeat' first | refine kz ?_ | refine AF hv ?_ | refine AF he ?_ | refine AF oa ?_ | refine Ao ?_ | refine Aa (l8) ?_ | refine kh ?_ ?_ | exact ⟨⟩ | fail
   apply Af ((i + 1, l ++ [u])) <;> (try dsimp only) <;> try repeat' first | exact k0 | refine kw ?_ | refine kv ?_ ?_ | omega
   ·exact lA
   ·exact ⟨by omega, jc⟩
 ·have k8 : i = on.length := by omega
  subst k8
  rw [JF (by simp)] at hinv
  have mJ := CJ l (by omega)
  have oF : ∀ mem : List Blk, mem[0]? = some (.arr 1 73 3 (l.map Val.d ++ List.replicate (on.length - on.length) Val.null.d)) → SFs mem [.c (.arr 0 1 on.length)] [.one (A0 l)] := fun mem hm => Kq hm (by simp; omega) (by simp [← mj]; exact JF (by simp))
  rw [hinv]
  repeat' first | refine kz ?_ | refine Ao ?_ | refine E6 mJ (oF _ rfl) ?_ | refine kh ?_ ?_ | exact ⟨⟩ | fail
  all_goals rfl
theorem VK (row : List Val) (on : List (Int × Int)) (oz : on.length ≤ 10000) : PC 193 [.one (A0 row), .one (TG on), .one (.lit (.int .i64 1))] (Yk (B9 row (on.map Prod.snd))) := by
 refine Ac hT Tryz.func193 Tryz.ntmps193 [.tmp 6, .tmp 7] fun B => ?_
 repeat' first | refine kz ?_ | refine Ao ?_ | refine kh ?_ ?_ | exact ⟨⟩ | fail
 refine AK (X := Nat × List Val) ([6, 7, 9, 10] ++ List.range' 16 20) (fun x => x.1 ≤ on.length ∧ B9 row ((on.map Prod.snd).take x.1) = some x.2) (fun x lz => (16, (iC x.1)) :: lz) (fun x => [.arr 1 73 3 (x.2.map Val.d ++ List.replicate (on.length - x.1) Val.null.d)]) (fun x => on.length - x.1) ((0, [])) ?_ ?_ ?_ ?_
 repeat' first | exact k0 | refine kw ?_ | refine kv ?_ ?_ | omega
 ·exact ⟨by simp, by simp [B9]⟩
 rintro ⟨i, l⟩ c ⟨hi, hinv⟩
 dsimp only at hi hinv ⊢
 have mj := KL _ _ _ hinv
 have mj : l.length = i := by rw [mj]; simp; omega
 by_cases i7 : i < on.length
 ·obtain ⟨p, hv⟩ := gx i7
  have ju : (on.map Prod.snd).take (i + 1) = (on.map Prod.snd).take i ++ [p.2] := by rw [Gm, BU, hv]; rfl
  have jc := I7 row ((on.map Prod.snd).take i) p.2
  rw [← ju, hinv] at jc
  simp only [Option.bind_some] at jc
  have j4 : List.replicate (on.length - i) Val.null.d = Val.null.d :: List.replicate (on.length - (i + 1)) Val.null.d := by rw [show on.length - i = (on.length - (i + 1)) + 1 by omega, dV]
  have he : (l.map Val.d ++ List.replicate (on.length - i) Val.null.d)[i]? = some Val.null.d := by rw [j4, Oy (by simp; omega)]; simp [mj]
  have lA : (l.map Val.d ++ List.replicate (on.length - i) Val.null.d).set i (Fs row p.2).d = (l ++ [Fs row p.2]).map Val.d ++ List.replicate (on.length - (i + 1)) Val.null.d := by
   rw [j4, aR _ _ (by simp; omega)]; simp [mj]
  have l8 := OU row p.2
  generalize hq : Fs row p.2 = u at lA jc l8
  have oa : ((l.map Val.d ++ List.replicate (on.length - i) Val.null.d).set i u.d)[i]? = some u.d := J5 (by simp; omega)
  by_cases hk : u.kind = 0
  ·rw [if_pos hk] at jc
   rw [Mo jc]
   repeat' first | refine kz ?_ | refine AF hv ?_ | refine AF he ?_ | refine AF oa ?_ | refine Ao ?_ | refine Aa (l8) ?_ | refine kh ?_ ?_ | exact ⟨⟩ | fail
   all_goals rfl
  ·rw [if_neg hk] at jc
   repeat' first | refine kz ?_ | refine AF hv ?_ | refine AF he ?_ | refine AF oa ?_ | refine Ao ?_ | refine Aa (l8) ?_ | refine kh ?_ ?_ | exact ⟨⟩ | fail
   apply Af ((i + 1, l ++ [u])) <;> (try dsimp only) <;> try repeat' first | exact k0 | refine kw ?_ | refine kv ?_ ?_ | omega
   ·exact lA
   ·exact ⟨by omega, jc⟩
 ·have k8 : i = on.length := by omega
  subst k8
  rw [JF (by simp)] at hinv
  have mJ := CJ l (by omega)
  have oF : ∀ mem : List Blk, mem[0]? = some (.arr 1 73 3 (l.map Val.d ++ List.replicate (on.length - on.length) Val.null.d)) → SFs mem [.c (.arr 0 1 on.length)] [.one (A0 l)] := fun mem hm => Kq hm (by simp; omega) (by simp [← mj]; exact JF (by simp))
  rw [hinv]
  repeat' first | refine kz ?_ | refine Ao ?_ | refine E6 mJ (oF _ rfl) ?_ | refine kh ?_ ?_ | exact ⟨⟩ | fail
  all_goals rfl
end Go.Proofs.YtmpgmjlanngkfaaGreat
end
section
namespace Go.Proofs.YtmpgmjlanngkfaaGreat
open Go.Abs Go.RowKit
set_option linter.unusedSimpArgs false
set_option maxRecDepth 100000
set_option maxHeartbeats 4000000
variable {l r : List Trm} {n : Nat} {row : List Val} {t : Trm}
def BO (b : Bool) : Val := Val.ofInt (if b then 1 else 0)
def QZ (v : Val) : Bool := decide (v.kind = 1) && decide (v.int ≠ 0)
def U7 (v : Val) : Bool := decide (v.kind = 1) && decide (v.int = 0)
def PS (a b : Val) : Val := if U7 a || U7 b then BO false else if QZ a && QZ b then BO true else Val.null
def Z7 (a b : Val) : Val := if QZ a || QZ b then BO true else if U7 a && U7 b then BO false else Val.null
def Kc (op : Int) (a b c : Val) : Val :=
 if op = 14 then PS a b else if op = 15 then Z7 a b
 else if op = 16 then BO (decide (a.kind = 0)) else if op = 17 then (if a.kind = 0 then b else a)
 else if QZ a then b else c
def Ct (op : Int) (a b : Val) : Val :=
 if a.kind ≠ 2 then Val.null else if op = 9 then Val.ofInt a.text.size
 else if op = 8 ∧ b.kind = 2 then Val.ofText (a.text ++ b.text)
 else if op = 10 ∧ b.kind = 1 ∧ 0 ≤ b.int then Val.ofText (a.text.extract 0 (min b.int a.text.size).toNat)
 else Val.null
def Fz (op : Int) (a b : Val) : Val :=
 if a.kind = 0 ∨ a.kind ≠ b.kind then Val.null else if op = 11 then BO (a.same b) else BO (decide (a.cmp b < 0))
def GO (a b : Int) : Int := if a.tmod b ≠ 0 ∧ decide (a < 0) ≠ decide (b < 0) then a.tdiv b - 1 else a.tdiv b
def HN (a b : Int) : Val := if b = 0 then Val.null else Val.ofInt (GO a b)
def H8 (op : Int) (a b : Val) : Val :=
 if a.kind ≠ 1 ∨ b.kind ≠ 1 then Val.null
 else if op = 3 then Val.ofInt (-a.int) else if op = 13 then BO (decide (a.int = 0))
 else if op = 4 then Val.ofInt (a.int + b.int) else if op = 5 then Val.ofInt (a.int - b.int)
 else if op = 6 then Val.ofInt (a.int * b.int) else HN a.int b.int
def DW (op : Int) (a b c : Val) : Val :=
 if op = 14 ∨ op = 15 ∨ op = 16 ∨ op = 17 ∨ op = 18 then Kc op a b c
 else if op = 8 ∨ op = 9 ∨ op = 10 then Ct op a b
 else if op = 11 ∨ op = 12 then Fz op a b
 else if op = 3 ∨ op = 13 then H8 op a a
 else H8 op a b
def FA (vs : List Val) (i : Nat) : Val := vs.getD i Val.null
def Wq (t : Trm) (row vs : List Val) : Val :=
 if t.op = 1 then t.v else if t.op = 2 then (Fs row t.col).clean else DW t.op (FA vs 0) (FA vs 1) (FA vs 2)
theorem E4 (n : Int) : (Val.ofInt n).valid = true := A3 _
theorem N1 (s : ByteArray) : (Val.ofText s).valid = true := A3 _
theorem IJ : Val.null.valid = true := by decide +kernel
attribute [local irreducible] Val.ofInt Val.ofText Val.valid
theorem Rp (op : Int) {a b c : Val} (ha : a.valid = true) (hb : b.valid = true) (hc : c.valid = true) : (Kc op a b c).valid = true := by
 unfold Kc PS Z7 BO
 repeat' split
 all_goals first | assumption | exact E4 _ | exact IJ
theorem Rq (op : Int) (a b : Val) : (Ct op a b).valid = true := by
 unfold Ct
 repeat' split
 all_goals first | exact E4 _ | exact N1 _ | exact IJ
theorem Rr (op : Int) (a b : Val) : (Fz op a b).valid = true := by
 unfold Fz BO
 repeat' split
 all_goals first | exact E4 _ | exact IJ
theorem MJ (op : Int) (a b : Val) : (H8 op a b).valid = true := by
 unfold H8 HN BO
 repeat' split
 all_goals first | exact E4 _ | exact IJ
theorem T4 (op : Int) {a b c : Val} (ha : a.valid = true) (hb : b.valid = true) (hc : c.valid = true) : (DW op a b c).valid = true := by
 unfold DW
 split
 ·exact Rp _ ha hb hc
 split
 ·exact Rq _ _ _
 split
 ·exact Rr _ _ _
 split
 ·exact MJ _ _ _
 ·exact MJ _ _ _
theorem DA {vs : List Val} (h : ∀ v ∈ vs, v.valid = true) (i : Nat) : (FA vs i).valid = true := by
 unfold FA
 rw [QW]
 cases hq : vs[i]? with
 | none => exact IJ
 | some v => exact h v (Cb hq)
def Gq : List Nat → Nat
 | [] => 0
 | a :: l => max a (Gq l)
theorem T5 (l : List Nat) (a : Nat) : Gq (l ++ [a]) = max (Gq l) a := by
 induction l with
 | nil => simp [Gq]
 | cons b l ih => simp only [List.cons_append, Gq, ih]; omega
theorem Wr {l : List Nat} {a : Nat} (h : a ∈ l) : a ≤ Gq l := by
 induction l with
 | nil => cases h
 | cons b l ih =>
   simp only [Gq]
   rcases FL.1 h with rfl | h
   ·omega
   ·have := ih h; omega
theorem YI {l : List Nat} (h : ∀ a ∈ l, a ≤ n) : Gq l ≤ n := by
 induction l with
 | nil => exact Nat.zero_le _
 | cons b l ih =>
   have h1 := ih fun a ha => h a (by simp [ha])
   have h2 := h b (by simp)
   simp only [Gq]; omega
def BG {α : Type} (p : List Trm → Option (α × List Trm)) : Nat → List Trm → Option (List α × List Trm)
 | 0, l => some ([], l)
 | k + 1, l => match p l with
   | none => none
   | some (a, r) => match BG p k r with
     | none => none
     | some (zs, r') => some (a :: zs, r')
def AZ (row : List Val) : Nat → List Trm → Option ((Nat × Val) × List Trm)
 | 0, _ => none
 | _ + 1, [] => none
 | n + 1, t :: l => if C6 t then match BG (AZ row n) (EP t.op).toNat l with
    | none => none
    | some (xs, r) => some ((1 + Gq (xs.map Prod.fst), Wq t row (xs.map Prod.snd)), r)
   else none
theorem Jk {α : Type} (p : List Trm → Option (α × List Trm)) : ∀ (k : Nat) (l : List Trm), BG p (k + 1) l = match BG p k l with
   | none => none
   | some (zs, r) => match p r with
     | none => none
     | some (a, r') => some (zs ++ [a], r')
 | 0, l => by
   simp only [BG]
   cases p l with
   | none => rfl
   | some q => rfl
 | k + 1, l => by
   rw [BG, BG]
   cases p l with
   | none => rfl
   | some q =>
     obtain ⟨a, r⟩ := q
     simp only
     rw [Jk p k r]
     cases BG p k r with
     | none => rfl
     | some q' =>
       obtain ⟨zs, r'⟩ := q'
       simp only
       cases p r' with
       | none => rfl
       | some q'' => rfl
theorem Jl {α : Type} {p : List Trm → Option (α × List Trm)} {k : Nat} {r' : List Trm} {zs : List α} {a : α} (h : BG p k l = some (zs, r)) (h2 : p r = some (a, r')) : BG p (k + 1) l = some (zs ++ [a], r') := by
 rw [Jk, h]; simp only; rw [h2]
theorem Hm {α : Type} {p : List Trm → Option (α × List Trm)} {i : Nat} {l r : List Trm} {zs : List α} (h : BG p i l = some (zs, r)) (h2 : p r = none) : ∀ k, i < k → BG p k l = none
 | 0, hk => absurd hk (Nat.not_lt_zero _)
 | k + 1, hk => by
   rw [Jk]
   by_cases hq : i = k
   ·subst hq
    rw [h]; simp only; rw [h2]
   ·rw [Hm h h2 k (by omega)]
theorem GQ {α : Type} {p : List Trm → Option (α × List Trm)} : ∀ {k : Nat} {l r : List Trm} {zs : List α}, BG p k l = some (zs, r) → zs.length = k
 | 0, l, r, zs, h => by simp only [BG, Option.some.injEq, HK] at h; rw [← h.1]; rfl
 | k + 1, l, r, zs, h => by
   rw [BG] at h
   cases hp : p l with
   | none => rw [hp] at h; cases h
   | some q =>
     obtain ⟨a, r1⟩ := q
     rw [hp] at h; simp only at h
     cases hs : BG p k r1 with
     | none => rw [hs] at h; cases h
     | some q' =>
       obtain ⟨qI, r2⟩ := q'
       rw [hs] at h
       simp only [Option.some.injEq, HK] at h
       rw [← h.1, List.length_cons, GQ hs]
inductive All2 {α β : Type} (R : α → β → Prop) : List α → List β → Prop
 | nil : All2 R [] []
 | cons {a : α} {b : β} {l : List α} {m : List β} (h : R a b) (t : All2 R l m) : All2 R (a :: l) (b :: m)
theorem IK {α : Type} {p : List Trm → Option (α × List Trm)} {Q : List Trm → α → Prop} (hp : ∀ l a r, p l = some (a, r) → ∃ s, l = s ++ r ∧ Q s a) : ∀ {k : Nat} {l r : List Trm} {zs : List α}, BG p k l = some (zs, r) → ∃ ss : List (List Trm), l = ss.flatten ++ r ∧ ss.length = k ∧ ∀ (i : Nat) (s : List Trm) (a : α), ss[i]? = some s → zs[i]? = some a → Q s a
 | 0, l, r, zs, h => by
   simp only [BG, Option.some.injEq, HK] at h
   exact ⟨[], by simp [h.2], rfl, fun i s a hs => by simp at hs⟩
 | k + 1, l, r, zs, h => by
   rw [BG] at h
   cases hq : p l with
   | none => rw [hq] at h; cases h
   | some q =>
     obtain ⟨a, r1⟩ := q
     rw [hq] at h; simp only at h
     cases hs : BG p k r1 with
     | none => rw [hs] at h; cases h
     | some q' =>
       obtain ⟨qI, r2⟩ := q'
       rw [hs] at h
       simp only [Option.some.injEq, HK] at h
       obtain ⟨rfl, rfl⟩ := h
       obtain ⟨s, h1, h2⟩ := hp l a r1 hq
       obtain ⟨ss, h3, h4, h5⟩ := IK hp hs
       refine ⟨s :: ss, by rw [h1, h3]; simp, by simp [h4], fun i s' a' kE qd => ?_⟩
       cases i with
       | zero => simp at kE qd; subst kE; subst qd; exact h2
       | succ i => simp at kE qd; exact h5 i s' a' kE qd
theorem PT {α β : Type} {p : List Trm → Option (α × List Trm)} {q : List Trm → Option (β × List Trm)} {R : α → β → Prop} (h : ∀ l a r, p l = some (a, r) → ∃ b, q l = some (b, r) ∧ R a b) : ∀ {k : Nat} {l r : List Trm} {zs : List α}, BG p k l = some (zs, r) → ∃ bs, BG q k l = some (bs, r) ∧ All2 R zs bs
 | 0, l, r, zs, hh => by
   simp only [BG, Option.some.injEq, HK] at hh
   obtain ⟨rfl, rfl⟩ := hh
   exact ⟨[], rfl, .nil⟩
 | k + 1, l, r, zs, hh => by
   rw [BG] at hh
   cases hq : p l with
   | none => rw [hq] at hh; cases hh
   | some x =>
     obtain ⟨a, r1⟩ := x
     rw [hq] at hh; simp only at hh
     cases hs : BG p k r1 with
     | none => rw [hs] at hh; cases hh
     | some x' =>
       obtain ⟨qI, r2⟩ := x'
       rw [hs] at hh
       simp only [Option.some.injEq, HK] at hh
       obtain ⟨rfl, rfl⟩ := hh
       obtain ⟨b, h1, h2⟩ := h l a r1 hq
       obtain ⟨bs, h3, h4⟩ := PT h hs
       exact ⟨b :: bs, by rw [BG, h1]; simp only; rw [h3], .cons h2 h4⟩
theorem C7 {x : (Nat × Val) × List Trm} (h : AZ row n l = some x) : ∃ (m : Nat) (t : Trm) (l' : List Trm) (xs : List (Nat × Val)), n = m + 1 ∧ l = t :: l' ∧ C6 t = true ∧ BG (AZ row m) (EP t.op).toNat l' = some (xs, x.2) ∧ x.1 = (1 + Gq (xs.map Prod.fst), Wq t row (xs.map Prod.snd)) := by
 cases n with
 | zero => cases h
 | succ n =>
   cases l with
   | nil => cases h
   | cons t l =>
     rw [AZ] at h
     split at h
     ·rename_i ht
      cases hs : BG (AZ row n) (EP t.op).toNat l with
      | none => rw [hs] at h; cases h
      | some q =>
        obtain ⟨xs, r⟩ := q
        rw [hs] at h
        simp only [Option.some.injEq] at h
        subst h
        exact ⟨n, t, l, xs, rfl, rfl, ht, hs, rfl⟩
     ·cases h
theorem GR {xs : List (Nat × Val)} (ht : C6 t = true) (h : BG (AZ row n) (EP t.op).toNat l = some (xs, r)) : AZ row (n + 1) (t :: l) = some ((1 + Gq (xs.map Prod.fst), Wq t row (xs.map Prod.snd)), r) := by
 rw [AZ, if_pos ht, h]
theorem PU (h : BG (AZ row n) (EP t.op).toNat l = none) : AZ row (n + 1) (t :: l) = none := by
 rw [AZ, h]
 split <;> rfl
theorem MK (ht : C6 t = false) : AZ row n (t :: l) = none := by
 cases n with
 | zero => rfl
 | succ n => rw [AZ, ht]; rfl
theorem EB (row : List Val) : ∀ (n : Nat) (l : List Trm) (x : Nat × Val) (r : List Trm), AZ row n l = some (x, r) → ∃ s, l = s ++ r ∧ (0 < s.length ∧ ∀ r', AZ row n (s ++ r') = some (x, r'))
 | 0, l, x, r, h => by cases h
 | n + 1, l, x, r, h => by
   obtain ⟨m, t, l', xs, hm, rfl, ht, hs, hx⟩ := C7 h
   obtain rfl : n = m := by omega
   have key : ∀ (k : Nat) (l r : List Trm) (zs : List (Nat × Val)), BG (AZ row n) k l = some (zs, r) → ∃ s, l = s ++ r ∧ ∀ r', BG (AZ row n) k (s ++ r') = some (zs, r') := by
    intro k
    induction k with
    | zero =>
      intro l r zs h
      simp only [BG, Option.some.injEq, HK] at h
      obtain ⟨rfl, rfl⟩ := h
      exact ⟨[], rfl, fun r' => rfl⟩
    | succ k ih =>
      intro l r zs h
      rw [BG] at h
      cases hq : AZ row n l with
      | none => rw [hq] at h; cases h
      | some q =>
        obtain ⟨a, r1⟩ := q
        rw [hq] at h; simp only at h
        cases hk : BG (AZ row n) k r1 with
        | none => rw [hk] at h; cases h
        | some q' =>
          obtain ⟨qI, r2⟩ := q'
          rw [hk] at h
          simp only [Option.some.injEq, HK] at h
          obtain ⟨rfl, rfl⟩ := h
          obtain ⟨s1, e1, -, f1⟩ := EB row n l a r1 hq
          obtain ⟨s2, e2, f2⟩ := ih r1 r2 qI hk
          refine ⟨s1 ++ s2, by rw [e1, e2, Hc], fun r' => ?_⟩
          rw [Hc, BG, f1]
          simp only
          rw [f2]
   obtain ⟨s, e, f⟩ := key _ _ _ _ hs
   refine ⟨t :: s, by rw [e]; rfl, by simp, fun r' => ?_⟩
   rw [List.cons_append, GR ht (f r')]
   simp only at hx
   rw [hx]
theorem FB {x : Nat × Val} (h : AZ row n l = some (x, r)) : ∃ k, 0 < k ∧ k ≤ l.length ∧ r = l.drop k := by
 obtain ⟨s, rfl, h1, _⟩ := EB row n l x r h
 exact ⟨s.length, h1, by simp, by simp⟩
theorem B2 (row : List Val) : ∀ (n : Nat) (l : List Trm) (x : Nat × Val) (r : List Trm), AZ row n l = some (x, r) → x.2.valid = true ∧ 1 ≤ x.1 ∧ x.1 ≤ n
 | 0, l, x, r, h => by cases h
 | n + 1, l, x, r, h => by
   obtain ⟨m, t, l', xs, hm, rfl, ht, hs, hx⟩ := C7 h
   obtain rfl : n = m := by omega
   obtain ⟨ss, _, h2, h3⟩ := IK (Q := fun _ a => a.2.valid = true ∧ 1 ≤ a.1 ∧ a.1 ≤ n) (fun l a r hh => by
    obtain ⟨s, e, _⟩ := EB row n l a r hh
    exact ⟨s, e, B2 row n l a r hh⟩) hs
   have hl := GQ hs
   have j9 : ∀ a ∈ xs, a.2.valid = true ∧ 1 ≤ a.1 ∧ a.1 ≤ n := fun a ha => by
    obtain ⟨i, hi, rfl⟩ := aW.1 ha
    exact h3 i ss[i] _ (Bo (by omega)) (Bo hi)
   simp only at hx
   rw [hx]
   refine ⟨?_, by simp only; omega, ?_⟩
   ·simp only
    unfold Wq
    split
    ·rename_i h1
     simp only [C6, Di, h1, if_true, BM] at ht
     exact ht.2.2
    ·split
     ·exact A3 _
     ·have hv : ∀ v ∈ xs.map Prod.snd, v.valid = true := fun v hv => by
       obtain ⟨a, ha, rfl⟩ := List.mem_map.1 hv
       exact (j9 a ha).1
      exact T4 _ (DA hv 0) (DA hv 1) (DA hv 2)
   ·simp only
    have := YI (n := n) (l := xs.map Prod.fst) fun a ha => by
     obtain ⟨b, hb, rfl⟩ := List.mem_map.1 ha
     exact (j9 b hb).2.2
    omega
theorem Rs {zs bs : List (Nat × Val)} (h : All2 (fun a b => a.1 = b.1) zs bs) : zs.map Prod.fst = bs.map Prod.fst := by
 induction h with
 | nil => rfl
 | cons h _ ih => rw [List.map_cons, List.map_cons, h, ih]
theorem Hn (row rL : List Val) : ∀ (n : Nat) (l : List Trm) (x : Nat × Val) (r : List Trm), AZ row n l = some (x, r) → ∃ y, AZ rL n l = some (y, r) ∧ x.1 = y.1
 | 0, l, x, r, h => by cases h
 | n + 1, l, x, r, h => by
   obtain ⟨m, t, l', xs, hm, rfl, ht, hs, hx⟩ := C7 h
   obtain rfl : n = m := by omega
   obtain ⟨ys, h1, h2⟩ := PT (q := AZ rL n) (R := fun a b => a.1 = b.1) (fun l a r hh => Hn row rL n l a r hh) hs
   refine ⟨_, GR ht h1, ?_⟩
   simp only at hx
   rw [hx, Rs h2]
theorem ER (row : List Val) : ∀ (n : Nat) (l : List Trm) (x : Nat × Val) (r : List Trm), AZ row n l = some (x, r) → ∀ m, x.1 ≤ m → AZ row m l = some (x, r)
 | 0, l, x, r, h => by cases h
 | n + 1, l, x, r, h => by
   intro m iZ
   obtain ⟨n', t, l', xs, hm, rfl, ht, hs, hx⟩ := C7 h
   obtain rfl : n = n' := by omega
   simp only at hx
   rw [hx] at iZ ⊢
   cases m with
   | zero => simp only at iZ; omega
   | succ m =>
     have jG : ∀ a ∈ xs, a.1 ≤ m := fun a ha => by
      have := Wr (dW (f := Prod.fst) ha)
      simp only at iZ; omega
     have key : ∀ (k : Nat) (l r : List Trm) (zs : List (Nat × Val)), (∀ a ∈ zs, a.1 ≤ m) → BG (AZ row n) k l = some (zs, r) → BG (AZ row m) k l = some (zs, r) := by
      intro k
      induction k with
      | zero => intro l r zs _ h; exact h
      | succ k ih =>
        intro l r zs jG h
        rw [BG] at h
        cases hq : AZ row n l with
        | none => rw [hq] at h; cases h
        | some q =>
          obtain ⟨a, r1⟩ := q
          rw [hq] at h; simp only at h
          cases hk : BG (AZ row n) k r1 with
          | none => rw [hk] at h; cases h
          | some q' =>
            obtain ⟨qI, r2⟩ := q'
            rw [hk] at h
            simp only [Option.some.injEq, HK] at h
            obtain ⟨rfl, rfl⟩ := h
            rw [BG, ER row n l a r1 hq m (jG a (by simp))]
            simp only
            rw [ih r1 r2 qI (fun b hb => jG b (by simp [hb])) hk]
     rw [GR ht (key _ _ _ _ jG hs)]
theorem Jm (row : List Val) : ∀ (n : Nat) (l : List Trm) (x : Nat × Val) (r : List Trm), AZ row n l = some (x, r) → x.1 + r.length ≤ l.length
 | 0, l, x, r, h => by cases h
 | n + 1, l, x, r, h => by
   obtain ⟨m, t, l', xs, hm, rfl, ht, hs, hx⟩ := C7 h
   obtain rfl : n = m := by omega
   have key : ∀ (k : Nat) (l r : List Trm) (zs : List (Nat × Val)), BG (AZ row n) k l = some (zs, r) → Gq (zs.map Prod.fst) + r.length ≤ l.length := by
    intro k
    induction k with
    | zero =>
      intro l r zs h
      simp only [BG, Option.some.injEq, HK] at h
      obtain ⟨rfl, rfl⟩ := h
      simp [Gq]
    | succ k ih =>
      intro l r zs h
      rw [BG] at h
      cases hq : AZ row n l with
      | none => rw [hq] at h; cases h
      | some q =>
        obtain ⟨a, r1⟩ := q
        rw [hq] at h; simp only at h
        cases hk : BG (AZ row n) k r1 with
        | none => rw [hk] at h; cases h
        | some q' =>
          obtain ⟨qI, r2⟩ := q'
          rw [hk] at h
          simp only [Option.some.injEq, HK] at h
          obtain ⟨rfl, rfl⟩ := h
          have h1 := Jm row n l a r1 hq
          have h2 := ih r1 r2 qI hk
          simp only [List.map_cons, Gq]; omega
   have := key _ _ _ _ hs
   simp only at hx this
   rw [hx, List.length_cons]
   simp only; omega
def Cz (e : List Trm) : Bool := decide (e.length ≤ 64) && match AZ [] 16 e with
 | some (_, []) => true
 | _ => false
def EC (e : List Trm) (row : List Val) : Val := if e.length ≤ 64 then match AZ row 16 e with
 | some (x, []) => x.2
 | _ => Val.null
 else Val.null
def Fh (e : List Trm) (row : List Val) : Bool := QZ (EC e row)
theorem DB (e : List Trm) (row : List Val) : Cz e = true ↔ e.length ≤ 64 ∧ ∃ x, AZ row 16 e = some (x, []) := by
 unfold Cz
 rw [BM, decide_eq_true_eq]
 constructor
 ·rintro ⟨h1, h2⟩
  refine ⟨h1, ?_⟩
  cases hq : AZ [] 16 e with
  | none => rw [hq] at h2; cases h2
  | some q =>
    obtain ⟨x, r⟩ := q
    rw [hq] at h2
    cases r with
    | nil =>
      obtain ⟨y, hy, _⟩ := Hn [] row 16 e x [] hq
      exact ⟨y, hy⟩
    | cons a l => cases h2
 ·rintro ⟨h1, x, hx⟩
  refine ⟨h1, ?_⟩
  obtain ⟨y, hy, _⟩ := Hn row [] 16 e x [] hx
  rw [hy]
theorem Ws {e : List Trm} {x : Nat × Val} (h : Cz e = true) (hx : AZ row 16 e = some (x, [])) : EC e row = x.2 := by
 rw [EC, if_pos ((DB e row).1 h).1, hx]
theorem Wt {e : List Trm} (h : Cz e = false) : EC e row = Val.null := by
 unfold EC
 split
 ·rename_i hl
  cases hq : AZ row 16 e with
  | none => rfl
  | some q =>
    obtain ⟨x, r⟩ := q
    cases r with
    | nil => rw [(DB e row).2 ⟨hl, x, hq⟩] at h; cases h
    | cons a l => rfl
 ·rfl
theorem Ho (e : List Trm) (row : List Val) : (EC e row).valid = true := by
 unfold EC
 split
 ·cases hq : AZ row 16 e with
  | none => exact IJ
  | some q =>
    obtain ⟨x, r⟩ := q
    cases r with
    | nil => exact (B2 row 16 e x [] hq).1
    | cons a l => exact IJ
 ·exact IJ
end Go.Proofs.YtmpgmjlanngkfaaGreat
end
