/-
  Algebra: columns of rows, keys of joins, beginnings of strings.
-/
import Derived.Test.YtmpgmjlanngkfaaGreatLaid
import Derived.Test.YtmpgmjlanngkfaaGreatDex
import Derived.Test.YtmpgmjlanngkfaaGreatSum
section
namespace Go.Proofs.YtmpgmjlanngkfaaGreat
open Go.Abs Go.RowKit
attribute [local irreducible] ARun Au MCall PCall HCall Ak SF CF CFs Af Ag Ar fin AP VLe
set_option linter.unusedSimpArgs false
set_option maxRecDepth 100000
set_option maxHeartbeats 4000000
variable {row : List Val}
def GQ (row : List Val) (col : Int) : Val := if col < 0 then Val.null else match row[col.toNat]? with | some v => v | none => Val.null
theorem Ye {col : Int} (h : col < 0) : GQ row col = Val.null := by simp [GQ, h]
theorem S0 {col : Int} (h : (row.length : Int) ≤ col) : GQ row col = Val.null := by
 unfold GQ
 split
 ·rfl
 ·rw [UZ (by omega)]
theorem S1 {k : Nat} {v : Val} (h : row[k]? = some v) : GQ row k = v := by
 unfold GQ
 rw [if_neg (by omega), QL, h]
theorem MV (row : List Val) (col : Int) : PC 231 [.one (BP row), .one (.lit (.int .i64 col))] (.v (.agg (GQ row col).d)) := by
 by_cases h0 : col < 0
 ·rw [Ye h0]
  refine Ac hT Tryz.func231 Tryz.ntmps231 [.cell 4 73] fun B => ?_
  repeat' first | refine kz ?_ | refine Aw ?_ | refine kh ?_ ?_ | exact ⟨⟩ | fail
  all_goals rfl
 ·by_cases h1 : col < row.length
  ·obtain ⟨k, rfl⟩ := UY (PM.1 h0)
   obtain ⟨v, hv⟩ := gx (l := row) (i := k) (by omega)
   rw [S1 hv]
   refine Ac hT Tryz.func231 Tryz.ntmps231 [.cell 4 73] fun B => ?_
   repeat' first | refine kz ?_ | refine AX hv ?_ | refine Aw ?_ | refine kh ?_ ?_ | exact ⟨⟩ | fail
   all_goals rfl
  ·rw [S0 (by omega)]
   refine Ac hT Tryz.func231 Tryz.ntmps231 [.cell 4 73] fun B => ?_
   repeat' first | refine kz ?_ | refine Aw ?_ | refine kh ?_ ?_ | exact ⟨⟩ | fail
   all_goals rfl
def Jp (a b : ByteArray) : Bool := decide (b.size ≤ a.size) && ((a.extract 0 b.size).toList == b.toList)
theorem Q1 (a b : ByteArray) : PC 251 [.one (.lit (.string a)), .one (.lit (.string b))] (.v (.one (.lit (.bool (Jp a b))))) := by
 refine Ac hT Tryz.func251 Tryz.ntmps251 [.tmp 4] fun B => ?_
 repeat' first | refine kz ?_ | refine Aq rfl rfl (fun hb => ?_) (fun hb => ?_) | refine kf ?_ | fail
 all_goals (refine congrArg Dat.lit (congrArg Value.bool ?_); simp only [Jp])
 ·rw [decide_eq_true (by omega)]; simp
 ·rw [decide_eq_false (by omega)]; rfl
theorem MW (a b : ByteArray) : PC 232 [.one (.lit (.string a)), .one (.lit (.string b))] (.v (.one (.lit (.bool (Jp a b))))) := by
 refine Ac hT Tryz.func232 Tryz.ntmps232 [.tmp 4] fun B => ?_
 repeat' first | refine kz ?_ | refine Aa (Q1 _ _) ?_ | refine kf ?_ | fail
 all_goals rfl
def CL (l : List UInt8) : Dat := .lit (.string ⟨l.toArray⟩)
theorem EA (L : List UInt8) : (⟨L.toArray⟩ : ByteArray).size = L.length := by simp [ByteArray.size]
theorem Iq (a b : List UInt8) : Jp ⟨a.toArray⟩ ⟨b.toArray⟩ = b.isPrefixOf a := by
 unfold Jp
 have h1 : ((⟨a.toArray⟩ : ByteArray).extract 0 (⟨b.toArray⟩ : ByteArray).size).toList = a.take b.length := by
  rw [ByteArray.toList_eq, ByteArray.data_extract, EA]
  simp [List.extract_toArray, List.extract_eq_take_drop]
 have h2 : (⟨b.toArray⟩ : ByteArray).toList = b := by rw [ByteArray.toList_eq]
 rw [h1, h2, EA, EA, U3]
 simp only [Bi, decide_eq_true_eq, beq_iff_eq, List.isPrefixOf_iff_prefix]
 constructor
 ·rintro ⟨_, h⟩
  have := List.take_prefix b.length a
  rwa [h] at this
 ·intro h
  exact ⟨h.length_le, (List.prefix_iff_eq_take.1 h).symm⟩
def VC (on : List (Int × Int)) : Dat := .sl (on.map fun p => [.lit (.int .i64 p.1), .lit (.int .i64 p.2)])
def BJ (row : List Val) : List Int → Option (List Val)
 | [] => some []
 | c :: cs => if (GQ row c).kind = 0 then none else (BJ row cs).map ((GQ row c) :: ·)
theorem HE (row : List Val) : ∀ (cs : List Int) (c : Int), BJ row (cs ++ [c]) = (BJ row cs).bind fun l => if (GQ row c).kind = 0 then none else some (l ++ [GQ row c])
 | [], c => by simp [BJ]
 | d :: cs, c => by
   rw [List.cons_append, BJ, BJ, HE row cs c]
   split
   ·rfl
   ·cases BJ row cs with
    | none => rfl
    | some l => simp; split <;> rfl
theorem Jq (row : List Val) : ∀ (cs : List Int) (l : List Val), BJ row cs = some l → l.length = cs.length
 | [], l, h => by simp [BJ] at h; subst h; rfl
 | c :: cs, l, h => by
   rw [BJ] at h
   split at h
   ·cases h
   ·cases hq : BJ row cs with
    | none => rw [hq] at h; cases h
    | some m => rw [hq] at h; simp at h; subst h; simp [Jq row cs m hq]
theorem KL {cs : List Int} {i : Nat} (h : BJ row (cs.take i) = none) : BJ row cs = none := by
 induction cs generalizing i with
 | nil => simp [BJ] at h
 | cons c cs ih =>
   cases i with
   | zero => simp [BJ] at h
   | succ i =>
     rw [List.take_succ_cons, BJ] at h
     rw [BJ]
     split
     ·rfl
     ·rename_i hk
      rw [if_neg hk] at h
      cases hq : BJ row (cs.take i) with
      | none => rw [ih hq]; rfl
      | some m => rw [hq] at h; cases h
def VD (o : Option (List Val)) : PRes := match o with
 | some l => .tup [.one (CL (Al l)), .one (.lit (.bool true))]
 | none => .tup [.one (CL []), .one (.lit (.bool false))]
theorem S2 (row : List Val) (on : List (Int × Int)) (hon : on.length ≤ 10000) : PC 193 [.one (BP row), .one (VC on), .one (.lit (.int .i64 0))] (VD (BJ row (on.map Prod.fst))) := by
 refine Ac hT Tryz.func193 Tryz.ntmps193 [.tmp 6, .tmp 7] fun B => ?_
 repeat' first | refine kz ?_ | refine Aw ?_ | refine kh ?_ ?_ | exact ⟨⟩ | fail
 refine A0 (X := Nat × List Val) ([6, 7, 9, 10] ++ List.range' 16 20) (fun x => x.1 ≤ on.length ∧ BJ row ((on.map Prod.fst).take x.1) = some x.2) (fun x lz => (16, (iC x.1)) :: lz) (fun x => [.arr 1 73 3 (x.2.map Val.d ++ List.replicate (on.length - x.1) Val.null.d)]) (fun x => on.length - x.1) ((0, [])) ?_ ?_ ?_ ?_
 repeat' first | exact k0 | refine kw ?_ | refine kv ?_ ?_ | omega
 ·exact ⟨by simp, by simp [BJ]⟩
 rintro ⟨i, l⟩ c ⟨hi, hinv⟩
 dsimp only at hi hinv ⊢
 have hll := Jq _ _ _ hinv
 have hll : l.length = i := by rw [hll]; simp; omega
 by_cases hlt : i < on.length
 ·obtain ⟨p, hv⟩ := gx hlt
  have htk : (on.map Prod.fst).take (i + 1) = (on.map Prod.fst).take i ++ [p.1] := by rw [IU, B2, hv]; rfl
  have hsn := HE row ((on.map Prod.fst).take i) p.1
  rw [← htk, hinv] at hsn
  simp only [Option.bind_some] at hsn
  have hrep : List.replicate (on.length - i) Val.null.d = Val.null.d :: List.replicate (on.length - (i + 1)) Val.null.d := by rw [show on.length - i = (on.length - (i + 1)) + 1 by omega, bN]
  have he : (l.map Val.d ++ List.replicate (on.length - i) Val.null.d)[i]? = some Val.null.d := by rw [hrep, LB (by simp; omega)]; simp [hll]
  have hset : (l.map Val.d ++ List.replicate (on.length - i) Val.null.d).set i (GQ row p.1).d = (l ++ [GQ row p.1]).map Val.d ++ List.replicate (on.length - (i + 1)) Val.null.d := by
   rw [hrep, Zt _ _ (by simp; omega)]; simp [hll]
  have hcell := MV row p.1
  generalize hq : GQ row p.1 = u at hset hsn hcell
  have he2 : ((l.map Val.d ++ List.replicate (on.length - i) Val.null.d).set i u.d)[i]? = some u.d := I7 (by simp; omega)
  by_cases hk : u.kind = 0
  ·rw [if_pos hk] at hsn
   rw [KL hsn]
   repeat' first | refine kz ?_ | refine AX hv ?_ | refine AX he ?_ | refine AX he2 ?_ | refine Aw ?_ | refine Aa (hcell) ?_ | refine kh ?_ ?_ | exact ⟨⟩ | fail
   all_goals rfl
  ·rw [if_neg hk] at hsn
   repeat' first | refine kz ?_ | refine AX hv ?_ | refine AX he ?_ | refine AX he2 ?_ | refine Aw ?_ | refine Aa (hcell) ?_ | refine kh ?_ ?_ | exact ⟨⟩ | fail
   apply Ad ((i + 1, l ++ [u])) <;> (try dsimp only) <;> try repeat' first | exact k0 | refine kw ?_ | refine kv ?_ ?_ | omega
   ·exact hset
   ·exact ⟨by omega, hsn⟩
 ·have hie : i = on.length := by omega
  subst hie
  rw [Mq (by simp)] at hinv
  have hen := Cg l (by omega)
  have hsf : ∀ mem : List Blk, mem[0]? = some (.arr 1 73 3 (l.map Val.d ++ List.replicate (on.length - on.length) Val.null.d)) → SFs mem [.c (.arr 0 1 on.length)] [.one (BP l)] := fun mem hm => I2 hm (by simp; omega) (by simp [← hll]; exact Mq (by simp))
  rw [hinv]
  repeat' first | refine kz ?_ | refine Aw ?_ | refine Eb hen (hsf _ rfl) ?_ | refine kh ?_ ?_ | exact ⟨⟩ | fail
  all_goals rfl
theorem S3 (row : List Val) (on : List (Int × Int)) (hon : on.length ≤ 10000) : PC 193 [.one (BP row), .one (VC on), .one (.lit (.int .i64 1))] (VD (BJ row (on.map Prod.snd))) := by
 refine Ac hT Tryz.func193 Tryz.ntmps193 [.tmp 6, .tmp 7] fun B => ?_
 repeat' first | refine kz ?_ | refine Aw ?_ | refine kh ?_ ?_ | exact ⟨⟩ | fail
 refine A0 (X := Nat × List Val) ([6, 7, 9, 10] ++ List.range' 16 20) (fun x => x.1 ≤ on.length ∧ BJ row ((on.map Prod.snd).take x.1) = some x.2) (fun x lz => (16, (iC x.1)) :: lz) (fun x => [.arr 1 73 3 (x.2.map Val.d ++ List.replicate (on.length - x.1) Val.null.d)]) (fun x => on.length - x.1) ((0, [])) ?_ ?_ ?_ ?_
 repeat' first | exact k0 | refine kw ?_ | refine kv ?_ ?_ | omega
 ·exact ⟨by simp, by simp [BJ]⟩
 rintro ⟨i, l⟩ c ⟨hi, hinv⟩
 dsimp only at hi hinv ⊢
 have hll := Jq _ _ _ hinv
 have hll : l.length = i := by rw [hll]; simp; omega
 by_cases hlt : i < on.length
 ·obtain ⟨p, hv⟩ := gx hlt
  have htk : (on.map Prod.snd).take (i + 1) = (on.map Prod.snd).take i ++ [p.2] := by rw [IU, B2, hv]; rfl
  have hsn := HE row ((on.map Prod.snd).take i) p.2
  rw [← htk, hinv] at hsn
  simp only [Option.bind_some] at hsn
  have hrep : List.replicate (on.length - i) Val.null.d = Val.null.d :: List.replicate (on.length - (i + 1)) Val.null.d := by rw [show on.length - i = (on.length - (i + 1)) + 1 by omega, bN]
  have he : (l.map Val.d ++ List.replicate (on.length - i) Val.null.d)[i]? = some Val.null.d := by rw [hrep, LB (by simp; omega)]; simp [hll]
  have hset : (l.map Val.d ++ List.replicate (on.length - i) Val.null.d).set i (GQ row p.2).d = (l ++ [GQ row p.2]).map Val.d ++ List.replicate (on.length - (i + 1)) Val.null.d := by
   rw [hrep, Zt _ _ (by simp; omega)]; simp [hll]
  have hcell := MV row p.2
  generalize hq : GQ row p.2 = u at hset hsn hcell
  have he2 : ((l.map Val.d ++ List.replicate (on.length - i) Val.null.d).set i u.d)[i]? = some u.d := I7 (by simp; omega)
  by_cases hk : u.kind = 0
  ·rw [if_pos hk] at hsn
   rw [KL hsn]
   repeat' first | refine kz ?_ | refine AX hv ?_ | refine AX he ?_ | refine AX he2 ?_ | refine Aw ?_ | refine Aa (hcell) ?_ | refine kh ?_ ?_ | exact ⟨⟩ | fail
   all_goals rfl
  ·rw [if_neg hk] at hsn
   repeat' first | refine kz ?_ | refine AX hv ?_ | refine AX he ?_ | refine AX he2 ?_ | refine Aw ?_ | refine Aa (hcell) ?_ | refine kh ?_ ?_ | exact ⟨⟩ | fail
   apply Ad ((i + 1, l ++ [u])) <;> (try dsimp only) <;> try repeat' first | exact k0 | refine kw ?_ | refine kv ?_ ?_ | omega
   ·exact hset
   ·exact ⟨by omega, hsn⟩
 ·have hie : i = on.length := by omega
  subst hie
  rw [Mq (by simp)] at hinv
  have hen := Cg l (by omega)
  have hsf : ∀ mem : List Blk, mem[0]? = some (.arr 1 73 3 (l.map Val.d ++ List.replicate (on.length - on.length) Val.null.d)) → SFs mem [.c (.arr 0 1 on.length)] [.one (BP l)] := fun mem hm => I2 hm (by simp; omega) (by simp [← hll]; exact Mq (by simp))
  rw [hinv]
  repeat' first | refine kz ?_ | refine Aw ?_ | refine Eb hen (hsf _ rfl) ?_ | refine kh ?_ ?_ | exact ⟨⟩ | fail
  all_goals rfl
end Go.Proofs.YtmpgmjlanngkfaaGreat
end
