/-
  The byte form of values and rows.
-/
import Derived.Test.YtmpgmjlanngkfaaGreatRowc
namespace Go.Proofs.YtmpgmjlanngkfaaGreat
open Go.Abs Go.RowKit
attribute [local irreducible] ARun kont MCall PCall HCall resVal SF CF CFs defersOk slotsIn memIn fin finM VLe
set_option linter.unusedSimpArgs false
set_option maxRecDepth 100000
set_option maxHeartbeats 4000000

def u8of (z : Int) : UInt8 := UInt8.ofNat (z.emod 256).toNat

theorem u8of_wrap (z : Int) : IntKind.u8.wrap z = ((u8of z).toNat : Nat) := by
  have h1 := Int.emod_nonneg z (show (256 : Int) ≠ 0 by decide)
  have h2 := Int.emod_lt_of_pos z (show (0 : Int) < 256 by decide)
  have e : (u8of z).toNat = (z.emod 256).toNat := by
    unfold u8of
    rw [UInt8.toNat_ofNat']
    have : (z.emod 256).toNat < 256 := by
      have : z.emod 256 = z % 256 := rfl
      omega
    omega
  rw [e]
  have : z.emod 256 = z % 256 := rfl
  simp [IntKind.wrap, IntKind.bits, IntKind.signed]
  omega

def encInt (n : Int) : List UInt8 := [2, u8of (shrInt .i64 n 32), u8of (shrInt .i64 n 24), u8of (shrInt .i64 n 16), u8of (shrInt .i64 n 8), u8of n]
def esc1 (b : UInt8) : List UInt8 := if b = 0 then [0, 255] else [b]
def esc (l : List UInt8) : List UInt8 := l.flatMap esc1
def encVal (v : Val) : List UInt8 :=
  if v.kind = 1 then encInt (v.int + 4294967296)
  else if v.kind = 2 then 3 :: (esc v.text.data.toList ++ [0, 0])
  else [1]

theorem esc_snoc {l : List UInt8} {i : Nat} {b : UInt8} (h : l[i]? = some b) : esc (l.take (i + 1)) = esc (l.take i) ++ esc1 b := by
  rw [List.take_add_one, h, esc, esc, List.flatMap_append]
  simp

theorem esc_len (l : List UInt8) : (esc l).length ≤ 2 * l.length := by
  induction l with
  | nil => simp [esc]
  | cons b l ih =>
    have : esc (b :: l) = esc1 b ++ esc l := by simp [esc]
    rw [this, List.length_append, List.length_cons]
    have : (esc1 b).length ≤ 2 := by unfold esc1; split <;> simp
    omega

theorem encVal_len (v : Val) (h : v.valid = true) : (encVal v).length ≤ 80 := by
  unfold encVal
  split
  · simp [encInt]
  · split
    · rename_i h1 h2
      have hs : v.text.size ≤ 32 := by
        unfold Val.valid at h
        rw [if_neg (by omega), if_neg h1, if_pos h2] at h
        simp at h
        exact h.2
      have := esc_len v.text.data.toList
      have e : v.text.data.toList.length = v.text.size := by simp
      simp only [List.length_cons, List.length_append, List.length_nil]
      omega
    · simp

theorem appendValue_h (out : List UInt8) (v : Val) (ho : out.length ≤ 1000000) (hv : v.valid = true) :
    HCall Tryz.prog 176 [.c (.arr 0 0 out.length), .agg (v.d.map .d)] [.arr 0 5 1 (out.map byD)] (.c (.arr 0 1 (out ++ encVal v).length)) [.arr 1 5 1 ((out ++ encVal v).map byD)] := by
  by_cases hk1 : v.kind = 1
  · have hb1 : -4294967296 ≤ v.int ∧ v.int ≤ 4294967296 := by
      unfold Val.valid at hv
      rw [if_neg (by omega), if_pos hk1] at hv
      simp at hv
      exact ⟨hv.1.1, hv.1.2⟩
    obtain ⟨hb1, hb2⟩ := hb1
    have he : encVal v = encInt (v.int + 4294967296) := by rw [encVal, if_pos hk1]
    refine hcallN hT Tryz.func176 Tryz.ntmps176 [.tmp 4] fun B => ?_
    repeat' (first | (with_reducible (first | refine k_seq ?_ | refine k_block ?_ | refine k_skip ?_ | refine k_exit ?_ | refine k_ret ?_ | refine n_seq ?_ | refine n_block ?_ | refine e_seq ?_ | refine e_here ?_ | refine r_seq ?_ | refine r_block ?_ | refine o_exit ?_)) | refine s_reg ?_ | refine s_ifT ?_ | refine s_ifF ?_ | refine s_if rfl (fun hb => ?_) (fun hb => ?_) | refine r_end ?_ | refine s_move ?_ | refine s_assign ?_ | refine s_int ?_ | refine s_shr ?_ | refine s_loadF1 ?_ | refine s_loadB1 ?_ | refine s_indexD ?_ (hel := (by first | exact rfl)) | refine s_fieldB ?_ | refine s_lenD ?_ | refine s_appA ?_ | refine s_bslice ?_ | refine s_conv ?_ | refine s_convSB ?_ | refine s_box ?_ | refine fh_ret1 def_nil ?_ ?_ | exact memIn_nil | refine m1 ?_ ?_ | refine am_arr ?_)
    · rw [he, List.map_append]
      simp only [u8of_wrap, encInt, List.map_cons, List.map_nil, byD]
      rfl
    · rw [he]; simp [encInt]
  · by_cases hk2 : v.kind = 2
    · have hs : v.text.size ≤ 32 := by
        unfold Val.valid at hv
        rw [if_neg (by omega), if_neg hk1, if_pos hk2] at hv
        simp at hv
        exact hv.2
      have he : encVal v = 3 :: (esc v.text.data.toList ++ [0, 0]) := by rw [encVal, if_neg hk1, if_pos hk2]
      have hl : v.text.data.toList.length = v.text.size := by simp
      generalize hL : v.text.data.toList = l at he hl
      refine hcallN hT Tryz.func176 Tryz.ntmps176 [.tmp 4] fun B => ?_
      repeat' (first | (with_reducible (first | refine k_seq ?_ | refine k_block ?_ | refine k_skip ?_ | refine k_exit ?_ | refine k_ret ?_ | refine n_seq ?_ | refine n_block ?_ | refine e_seq ?_ | refine e_here ?_ | refine r_seq ?_ | refine r_block ?_ | refine o_exit ?_)) | refine s_reg ?_ | refine s_ifT ?_ | refine s_ifF ?_ | refine s_if rfl (fun hb => ?_) (fun hb => ?_) | refine r_end ?_ | refine s_move ?_ | refine s_assign ?_ | refine s_int ?_ | refine s_shr ?_ | refine s_loadF1 ?_ | refine s_loadB1 ?_ | refine s_indexD ?_ (hel := (by first | exact rfl)) | refine s_fieldB ?_ | refine s_lenD ?_ | refine s_appA ?_ | refine s_bslice ?_ | refine s_conv ?_ | refine s_convSB ?_ | refine s_box ?_ | refine fh_ret1 def_nil ?_ ?_ | exact memIn_nil | refine m1 ?_ ?_ | refine am_arr ?_)
      rw [hL]
      refine s_lp (X := Nat × Nat) [0, 7, 41, 42, 43, 44, 45, 46, 47, 48, 49, 50, 51, 52, 53, 54] (fun x => x.1 ≤ l.length) (fun x lz => (0, .c (.arr 0 x.2 (out ++ 3 :: esc (l.take x.1)).length)) :: (41, (.c (.d (.lit (.int .i64 x.1))))) :: lz) (fun x => [.arr x.2 5 1 ((out ++ 3 :: esc (l.take x.1)).map byD)]) (fun x => l.length - x.1) ((0, 2)) ?_ ?_ ?_ ?_
      repeat' (first | exact slots_nil | refine w1 ?_ | refine w5 ?_ ?_ | exact memIn_nil | refine m1 ?_ ?_ | omega)
      · simp [esc]
      · simp [esc]; rfl
      rintro ⟨i, k⟩ c hi
      dsimp only at hi ⊢
      have hel := esc_len (l.take i)
      have htl : (l.take i).length = i := by simp; omega
      by_cases hlt : i < l.length
      · have hv : l[i]? = some l[i] := List.getElem?_eq_getElem hlt
        generalize l[i] = b at hv
        have hsn := esc_snoc hv
        repeat' (first | (with_reducible (first | refine k_seq ?_ | refine k_block ?_ | refine k_skip ?_ | refine k_exit ?_ | refine k_ret ?_ | refine n_seq ?_ | refine n_block ?_ | refine e_seq ?_ | refine e_here ?_ | refine r_seq ?_ | refine r_block ?_ | refine o_exit ?_)) | refine s_reg ?_ | refine s_ifT ?_ | refine s_ifF ?_ | refine s_if rfl (fun hb => ?_) (fun hb => ?_) | refine r_end ?_ | refine s_move ?_ | refine s_assign ?_ | refine s_int ?_ | refine s_shr ?_ | refine s_loadF1 ?_ | refine s_loadB1 ?_ | refine s_indexD ?_ (hel := (by first | exact idx_map hv (by omega) | exact hv | exact rfl)) | refine s_fieldB ?_ | refine s_lenD ?_ | refine s_appA ?_ | refine s_bslice ?_ | refine s_conv ?_ | refine s_convSB ?_ | refine s_box ?_ | refine fh_ret1 def_nil ?_ ?_ | exact memIn_nil | refine m1 ?_ ?_ | refine am_arr ?_)
        · have hb0 : b = 0 := by apply UInt8.toNat_inj.1; simpa using hb
          subst hb0
          (apply s_round ((i + 1, _)); all_goals (try dsimp only); all_goals (try (repeat' (first | exact slots_nil | refine w1 ?_ | refine w5 ?_ ?_ | exact memIn_nil | refine m1 ?_ ?_ | omega))))
          · rw [hsn]; simp [esc1]; omega
          · rw [hsn]; simp [esc1, byD]
        · have hb0 : ¬ b = 0 := by intro q; subst q; exact hb rfl
          (apply s_round ((i + 1, _)); all_goals (try dsimp only); all_goals (try (repeat' (first | exact slots_nil | refine w1 ?_ | refine w5 ?_ ?_ | exact memIn_nil | refine m1 ?_ ?_ | omega))))
          · rw [hsn]; simp [esc1, hb0]; omega
          · rw [hsn]; simp [esc1, byD, hb0]
      · repeat' (first | (with_reducible (first | refine k_seq ?_ | refine k_block ?_ | refine k_skip ?_ | refine k_exit ?_ | refine k_ret ?_ | refine n_seq ?_ | refine n_block ?_ | refine e_seq ?_ | refine e_here ?_ | refine r_seq ?_ | refine r_block ?_ | refine o_exit ?_)) | refine s_reg ?_ | refine s_ifT ?_ | refine s_ifF ?_ | refine s_if rfl (fun hb => ?_) (fun hb => ?_) | refine r_end ?_ | refine s_move ?_ | refine s_assign ?_ | refine s_int ?_ | refine s_shr ?_ | refine s_loadF1 ?_ | refine s_loadB1 ?_ | refine s_indexD ?_ (hel := (by first | exact rfl)) | refine s_fieldB ?_ | refine s_lenD ?_ | refine s_appA ?_ | refine s_bslice ?_ | refine s_conv ?_ | refine s_convSB ?_ | refine s_box ?_ | refine fh_ret1 def_nil ?_ ?_ | exact memIn_nil | refine m1 ?_ ?_ | refine am_arr ?_)
        · rw [he, take_ge (by omega)]; simp [byD]
        · rw [he, take_ge (by omega)]; simp; omega
    · have he : encVal v = [1] := by rw [encVal, if_neg hk1, if_neg hk2]
      refine hcallN hT Tryz.func176 Tryz.ntmps176 [.tmp 4] fun B => ?_
      repeat' (first | (with_reducible (first | refine k_seq ?_ | refine k_block ?_ | refine k_skip ?_ | refine k_exit ?_ | refine k_ret ?_ | refine n_seq ?_ | refine n_block ?_ | refine e_seq ?_ | refine e_here ?_ | refine r_seq ?_ | refine r_block ?_ | refine o_exit ?_)) | refine s_reg ?_ | refine s_ifT ?_ | refine s_ifF ?_ | refine s_if rfl (fun hb => ?_) (fun hb => ?_) | refine r_end ?_ | refine s_move ?_ | refine s_assign ?_ | refine s_int ?_ | refine s_shr ?_ | refine s_loadF1 ?_ | refine s_loadB1 ?_ | refine s_indexD ?_ (hel := (by first | exact rfl)) | refine s_fieldB ?_ | refine s_lenD ?_ | refine s_appA ?_ | refine s_bslice ?_ | refine s_conv ?_ | refine s_convSB ?_ | refine s_box ?_ | refine fh_ret1 def_nil ?_ ?_ | exact memIn_nil | refine m1 ?_ ?_ | refine am_arr ?_)
      · rw [he, List.map_append]; rfl
      · rw [he]; simp

def encRow (r : List Val) : List UInt8 := r.flatMap fun v => encVal v.clean

theorem clean_valid' (v : Val) : v.clean.valid = true := by
  unfold Val.clean
  split
  · assumption
  · simp [Val.null, Val.valid, ByteArray.toList_eq]

theorem encRow_snoc {r : List Val} {i : Nat} {v : Val} (h : r[i]? = some v) : encRow (r.take (i + 1)) = encRow (r.take i) ++ encVal v.clean := by
  rw [List.take_add_one, h, encRow, encRow, List.flatMap_append]
  simp

theorem encRow_len (r : List Val) : (encRow r).length ≤ 80 * r.length := by
  induction r with
  | nil => simp [encRow]
  | cons v r ih =>
    have : encRow (v :: r) = encVal v.clean ++ encRow r := by simp [encRow]
    rw [this, List.length_append, List.length_cons]
    have := encVal_len v.clean (clean_valid' v)
    omega

theorem encodeRow_c (r : List Val) (hr : r.length ≤ 10000) : PCall Tryz.prog 114 [.one (rowD r)] (.v (.one (.lit (.string ⟨(encRow r).toArray⟩)))) := by
  refine pcallN hT Tryz.func114 Tryz.ntmps114 [.tmp 2] fun B => ?_
  repeat' (first | (with_reducible (first | refine k_seq ?_ | refine k_block ?_ | refine k_skip ?_ | refine k_exit ?_ | refine k_ret ?_ | refine n_seq ?_ | refine n_block ?_ | refine e_seq ?_ | refine e_here ?_ | refine o_exit ?_)) | refine s_reg ?_ | refine s_ifT ?_ | refine s_ifF ?_ | refine r_end ?_ | refine s_move ?_ | refine s_assign ?_ | refine s_int ?_ | refine s_loadFA ?_ | refine s_loadBA ?_ | refine s_indexD ?_ (hel := (by first | exact rfl)) | refine s_lenD ?_ | refine s_storeB ?_ | refine s_alloc ?_ | refine s_convBSa ?_ | refine f_ret1 def_nil ?_ | refine t_tmp ?_)
  refine s_own 3 5 1 ?_
  refine s_lp (X := Nat × Nat) [3, 5, 8, 9, 10, 11, 12, 13, 14, 15, 16] (fun x => x.1 ≤ r.length) (fun x lz => (3, .c (.arr 0 x.2 (encRow (r.take x.1)).length)) :: (8, (.c (.d (.lit (.int .i64 x.1))))) :: lz) (fun x => [.arr x.2 5 1 ((encRow (r.take x.1)).map byD)]) (fun x => r.length - x.1) ((0, 1)) ?_ ?_ ?_ ?_
  repeat' (first | exact slots_nil | refine w1 ?_ | refine w5 ?_ ?_ | exact memIn_nil | refine memIn_same ?_ | refine m1 ?_ ?_ | omega)
  rintro ⟨i, k⟩ c hi
  dsimp only at hi ⊢
  have hel := encRow_len (r.take i)
  have htl : (r.take i).length = i := by simp; omega
  by_cases hlt : i < r.length
  · have hv : r[i]? = some r[i] := List.getElem?_eq_getElem hlt
    generalize r[i] = v at hv
    have hsn := encRow_snoc hv
    repeat' (first | (with_reducible (first | refine k_seq ?_ | refine k_block ?_ | refine k_skip ?_ | refine k_exit ?_ | refine k_ret ?_ | refine n_seq ?_ | refine n_block ?_ | refine e_seq ?_ | refine e_here ?_ | refine o_exit ?_)) | refine s_reg ?_ | refine s_ifT ?_ | refine s_ifF ?_ | refine r_end ?_ | refine s_move ?_ | refine s_assign ?_ | refine s_int ?_ | refine s_loadFA ?_ | refine s_loadBA ?_ | refine s_indexD ?_ (hel := (by first | exact idx_map hv (by omega) | exact hv | exact rfl)) | refine s_call (clean_c _) ?_ | refine s_callH [0] (appendValue_h (encRow (r.take i)) v.clean (by omega) (clean_valid' v)) ?_ | refine s_lenD ?_ | refine s_storeB ?_ | refine s_alloc ?_ | refine s_convBSa ?_ | refine f_ret1 def_nil ?_ | refine t_tmp ?_)
    (apply s_round ((i + 1, _)); all_goals (try dsimp only); all_goals (try (repeat' (first | exact slots_nil | refine w1 ?_ | refine w5 ?_ ?_ | exact memIn_nil | refine memIn_same ?_ | refine m1 ?_ ?_ | omega))))
    all_goals rw [hsn]
  · repeat' (first | (with_reducible (first | refine k_seq ?_ | refine k_block ?_ | refine k_skip ?_ | refine k_exit ?_ | refine k_ret ?_ | refine n_seq ?_ | refine n_block ?_ | refine e_seq ?_ | refine e_here ?_ | refine o_exit ?_)) | refine s_reg ?_ | refine s_ifT ?_ | refine s_ifF ?_ | refine r_end ?_ | refine s_move ?_ | refine s_assign ?_ | refine s_int ?_ | refine s_loadFA ?_ | refine s_loadBA ?_ | refine s_indexD ?_ (hel := (by first | exact rfl)) | refine s_lenD ?_ | refine s_storeB ?_ | refine s_alloc ?_ | refine s_convBSa ?_ | refine f_ret1 def_nil ?_ | refine t_tmp ?_)
    all_goals (rw [take_ge (by omega)])
end Go.Proofs.YtmpgmjlanngkfaaGreat
