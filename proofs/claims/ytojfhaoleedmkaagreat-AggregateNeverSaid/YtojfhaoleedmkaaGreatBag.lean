/-
  Bags: when a list of entries is one.
-/
import Derived.Test.YtojfhaoleedmkaaGreatTypes
import Derived.Lib.Strings
import Derived.Lib.Slices
import Derived.Lib.Walk
import Derived.Lib.Bytealg
import Derived.Recover
section
section
namespace Go.Proofs.YtojfhaoleedmkaaGreat
open Go.Abs Go.RowKit
attribute [local irreducible] ARun kont MCall PCall HCall resVal SF CF CFs defersOk slotsIn memIn fin finM VLe
set_option linter.unusedSimpArgs false
set_option maxRecDepth 100000
structure Val where
  kind : Int
  int : Int
  text : ByteArray
def Val.d (v : Val) : List Dat := [.lit (.int .i64 v.kind), .lit (.int .i64 v.int), .lit (.string v.text)]
def Val.valid (v : Val) : Bool :=
  if v.kind = 0 then decide (v.int = 0) && v.text.toList.isEmpty
  else if v.kind = 1 then decide (-4294967296 ≤ v.int) && decide (v.int ≤ 4294967296) && v.text.toList.isEmpty
  else if v.kind = 2 then decide (v.int = 0) && decide (v.text.size ≤ 32)
  else false
theorem bytes_nil (s : ByteArray) : (s.toList == ({ data := #[] } : ByteArray).toList) = s.toList.isEmpty := by
  have : ({ data := #[] } : ByteArray).toList = [] := by rw [ByteArray.toList_eq]
  rw [this]
  cases s.toList <;> rfl
theorem valid_c (v : Val) : PCall Tryz.prog 123 [.agg v.d] (.v (.one (.lit (.bool v.valid)))) := by
  refine pcallN hT Tryz.func123 Tryz.ntmps123 [.tmp 2] fun B => ?_
  repeat' (first | refine ks ?_ | refine ko ?_ | refine s_if rfl (fun hb => ?_) (fun hb => ?_) | refine s_split rfl rfl (fun hb => ?_) (fun hb => ?_) | refine f_ret1 def_nil ?_ | refine t_tmp ?_)
  all_goals (refine congrArg Dat.lit (congrArg Value.bool ?_); simp_all [Val.valid, bytes_nil])
  all_goals (intros; omega)
def Val.null : Val := ⟨0, 0, ⟨#[]⟩⟩
def Val.clean (v : Val) : Val := if v.valid then v else Val.null
theorem clean_c (v : Val) : PCall Tryz.prog 132 [.agg v.d] (.v (.agg v.clean.d)) := by
  refine pcallN hT Tryz.func132 Tryz.ntmps132 [.cell 2 53] fun B => ?_
  repeat' (first | refine ks ?_ | refine ko ?_ | refine s_if rfl (fun hb => ?_) (fun hb => ?_) | refine s_call (valid_c _) ?_ | refine f_ret1 def_nil ?_ | refine t_cellG ?_ | exact cfs_nil | refine cfs_cons ?_ ?_ | refine cf_d ?_)
  all_goals simp_all [Val.clean, Val.null]
theorem refValid_c (v : Val) : PCall Tryz.prog 118 [.agg v.d] (.v (.one (.lit (.bool v.valid)))) := by
  refine pcallN hT Tryz.func118 Tryz.ntmps118 [.tmp 2] fun B => ?_
  repeat' (first | refine ks ?_ | refine ko ?_ | refine s_if rfl (fun hb => ?_) (fun hb => ?_) | refine s_split rfl rfl (fun hb => ?_) (fun hb => ?_) | refine f_ret1 def_nil ?_ | refine t_tmp ?_)
  all_goals (refine congrArg Dat.lit (congrArg Value.bool ?_); simp_all [Val.valid, bytes_nil])
  all_goals (intros; omega)
theorem refClean_c (v : Val) : PCall Tryz.prog 71 [.agg v.d] (.v (.agg v.clean.d)) := by
  refine pcallN hT Tryz.func71 Tryz.ntmps71 [.cell 2 53] fun B => ?_
  repeat' (first | refine ks ?_ | refine ko ?_ | refine s_if rfl (fun hb => ?_) (fun hb => ?_) | refine s_call (refValid_c _) ?_ | refine f_ret1 def_nil ?_ | refine t_cellG ?_ | exact cfs_nil | refine cfs_cons ?_ ?_ | refine cf_d ?_)
  all_goals simp_all [Val.clean, Val.null]
def Val.ofInt (n : Int) : Val := Val.clean ⟨1, n, ⟨#[]⟩⟩
theorem refInt_c (n : Int) : PCall Tryz.prog 59 [.one (.lit (.int .i64 n))] (.v (.agg (Val.ofInt n).d)) := by
  refine pcallN hT Tryz.func59 Tryz.ntmps59 [.cell 2 53] fun B => ?_
  repeat' (first | refine ks ?_ | refine ko ?_ | refine s_call (refClean_c ⟨1, n, ⟨#[]⟩⟩) ?_ | refine f_ret1 def_nil ?_ | refine t_cellG ?_ | exact cfs_nil | refine cfs_cons ?_ ?_ | refine cf_d ?_)
  all_goals rfl
def icmp (a b : Int) : Int := if a < b then -1 else if a > b then 1 else 0
theorem isNaN_c (a : Int) : PCall Tryz.prog 155 [.one (.lit (.int .i64 a))] (.v (.one (.lit (.bool false)))) := by
  refine pcallN hT Tryz.func155 Tryz.ntmps155 [.tmp 2] fun B => ?_
  repeat' (first | refine ks ?_ | refine ko ?_ | refine f_ret1 def_nil ?_ | refine t_tmp ?_)
  all_goals simp
theorem isNaN64_c (a : Int) : PCall Tryz.prog 191 [.one (.lit (.int .i64 a))] (.v (.one (.lit (.bool false)))) := by
  refine pcallN hT Tryz.func191 Tryz.ntmps191 [.tmp 2] fun B => ?_
  repeat' (first | refine ks ?_ | refine ko ?_ | refine f_ret1 def_nil ?_ | refine t_tmp ?_)
  all_goals simp
theorem cmpInt_c (a b : Int) : PCall Tryz.prog 126 [.one (.lit (.int .i64 a)), .one (.lit (.int .i64 b))] (.v (.one (.lit (.int .i64 (icmp a b))))) := by
  refine pcallN hT Tryz.func126 Tryz.ntmps126 [.tmp 4] fun B => ?_
  repeat' (first | refine ks ?_ | refine ko ?_ | refine s_if rfl (fun hb => ?_) (fun hb => ?_) | refine s_call (isNaN_c _) ?_ | refine f_ret1 def_nil ?_ | refine t_tmp ?_)
  all_goals (refine congrArg Dat.lit (congrArg (Value.int _) ?_); simp_all [icmp])
  all_goals omega
theorem cmpInt64_c (a b : Int) : PCall Tryz.prog 153 [.one (.lit (.int .i64 a)), .one (.lit (.int .i64 b))] (.v (.one (.lit (.int .i64 (icmp a b))))) := by
  refine pcallN hT Tryz.func153 Tryz.ntmps153 [.tmp 4] fun B => ?_
  repeat' (first | refine ks ?_ | refine ko ?_ | refine s_if rfl (fun hb => ?_) (fun hb => ?_) | refine s_call (isNaN64_c _) ?_ | refine f_ret1 def_nil ?_ | refine t_tmp ?_)
  all_goals (refine congrArg Dat.lit (congrArg (Value.int _) ?_); simp_all [icmp])
  all_goals omega
end Go.Proofs.YtojfhaoleedmkaaGreat
end
section
namespace Go.Proofs.YtojfhaoleedmkaaGreat
open Go.Abs Go.RowKit
set_option linter.unusedSimpArgs false
set_option maxRecDepth 100000
set_option maxHeartbeats 1000000 in
theorem compareString_c0 (a b : ByteArray) (w : World) :
    Calls Tryz.prog 192 #[.string a, .string b] w fun e w' => e = .returned (.int .i64 (Lib.compareBytes a.data.toList b.data.toList)) ∧ w' = w := by
  go_enter Tryz.func192, Tryz.ntmps192
  go_wp2
  rw [run_callFunc_extern Tryz.func218 (by kernel_rfl) (by kernel_rfl) (by kernel_rfl) (e := Extern.BytealgCompare.compare) (by kernel_rfl), Lib.run_compareString]
  simp only [Result.andThen]
  rw [Oper.upon_value]
  go_wp2
  go_ret
  exact ⟨rfl, rfl⟩
def bcmp (a b : ByteArray) : Int := Lib.compareBytes a.toList b.toList
theorem compareString_c (a b : ByteArray) : PCall Tryz.prog 192 [.one (.lit (.string a)), .one (.lit (.string b))] (.v (.one (.lit (.int .i64 (bcmp a b))))) := by
  refine ⟨⟨_, Tryz.func192, by kernel_rfl, by kernel_rfl⟩, fun F w vs hF hl hv => ?_⟩
  match vs, hl with
  | [x, y], _ =>
    clear hl
    have h1 := (hv 0 x _ rfl rfl)
    have h2 := (hv 1 y _ rfl rfl)
    clear hv
    obtain rfl := h1.lit_inv
    obtain rfl := h2.lit_inv
    refine Calls.mono (compareString_c0 a b w) fun e w' he => ?_
    obtain ⟨rfl, rfl⟩ := he
    refine ⟨_, rfl, Bel.refl _ _, .c (.d ?_)⟩
    rw [bcmp, ByteArray.toList_eq, ByteArray.toList_eq]
    exact .lit _ rfl
attribute [local irreducible] ARun kont MCall PCall HCall resVal SF CF CFs defersOk slotsIn memIn fin finM VLe
theorem stringsCompare_c (a b : ByteArray) : PCall Tryz.prog 154 [.one (.lit (.string a)), .one (.lit (.string b))] (.v (.one (.lit (.int .i64 (bcmp a b))))) := by
  refine pcallN hT Tryz.func154 Tryz.ntmps154 [.tmp 4] fun B => ?_
  repeat' (first | refine ks ?_ | refine ko ?_ | refine s_call (compareString_c _ _) ?_ | refine f_ret1 def_nil ?_ | refine t_tmp ?_)
  all_goals rfl
theorem compareBytes_eq : ∀ (x y : List UInt8), Lib.compareBytes x y = if x == y then 0 else if Op.bytesLess x y then -1 else 1
  | [], [] => by simp [Lib.compareBytes]
  | [], _ :: _ => by simp [Lib.compareBytes, Op.bytesLess]
  | _ :: _, [] => by simp [Lib.compareBytes, Op.bytesLess]
  | a :: x, b :: y => by
    simp only [Lib.compareBytes, Op.bytesLess, compareBytes_eq x y, List.cons_beq_cons, beq_iff_eq]
    by_cases h : a < b
    · have : ¬ a = b := fun e => by subst e; exact absurd h (UInt8.lt_irrefl a)
      simp [h, this]
    · by_cases h2 : b < a
      · have : ¬ a = b := fun e => by subst e; exact absurd h2 (UInt8.lt_irrefl a)
        simp [h, h2, this]
      · have : a = b := UInt8.le_antisymm (UInt8.not_lt.1 h2) (UInt8.not_lt.1 h)
        subst this
        simp [h]
def Val.same (a b : Val) : Bool := (a.kind == b.kind) && ((a.int == b.int) && (a.text.toList == b.text.toList))
def Val.less (a b : Val) : Bool := decide (a.kind < b.kind) || ((a.kind == b.kind) && (decide (a.int < b.int) || Op.bytesLess a.text.toList b.text.toList))
def Val.cmp (a b : Val) : Int := if a.clean.same b.clean then 0 else if a.clean.less b.clean then -1 else 1
theorem clean_valid (v : Val) : v.clean.valid = true := by
  unfold Val.clean
  split
  · assumption
  · simp [Val.null, Val.valid]
theorem valid_text {v : Val} (h : v.valid = true) (hk : v.kind ≠ 2) : v.text.toList = [] := by
  unfold Val.valid at h
  split at h
  · simp at h; exact h.2
  · split at h
    · simp at h; exact h.2
    · simp [hk] at h
theorem valid_int {v : Val} (h : v.valid = true) (hk : v.kind ≠ 1) : v.int = 0 := by
  unfold Val.valid at h
  rw [if_neg hk] at h
  split at h
  · simp at h; exact h.1
  · split at h
    · simp at h; exact h.1
    · simp at h
theorem icmp_kind {x y : Val} (h : ¬ x.kind = y.kind) : icmp x.kind y.kind = if x.same y = true then 0 else if x.less y = true then -1 else 1 := by
  simp only [icmp, Val.same, Val.less, beq_false_of_ne h, Bool.false_and, Bool.or_false, decide_eq_true_eq, Bool.false_eq_true, if_false]
  split
  · rfl
  · rw [if_pos (by omega)]
theorem icmp_int {x y : Val} (hx : x.valid = true) (hy : y.valid = true) (hk : x.kind = 1) (h : x.kind = y.kind) : icmp x.int y.int = if x.same y = true then 0 else if x.less y = true then -1 else 1 := by
  simp only [icmp, Val.same, Val.less, valid_text hx (by omega), valid_text hy (by omega), h]
  simp [Op.bytesLess]
  by_cases h1 : x.int < y.int
  · simp [h1, show ¬ x.int = y.int by omega]
  · by_cases h2 : y.int < x.int
    · simp [h1, h2, show ¬ x.int = y.int by omega]
    · simp [h1, h2, show x.int = y.int by omega]
theorem icmp_text {x y : Val} (hx : x.valid = true) (hy : y.valid = true) (hk : x.kind = 2) (h : x.kind = y.kind) : bcmp x.text y.text = if x.same y = true then 0 else if x.less y = true then -1 else 1 := by
  simp only [bcmp, Val.same, Val.less, valid_int hx (by omega), valid_int hy (by omega), h, compareBytes_eq]
  simp
theorem icmp_null {x y : Val} (hx : x.valid = true) (hy : y.valid = true) (h1 : ¬ x.kind = 1) (h2 : ¬ x.kind = 2) (h : x.kind = y.kind) : (0 : Int) = if x.same y = true then 0 else if x.less y = true then -1 else 1 := by
  have : x.same y = true := by
    simp only [Val.same, valid_text hx (by omega), valid_text hy (by omega), valid_int hx (by omega), valid_int hy (by omega), h]
    simp
  rw [if_pos this]
theorem refCompare_c (a b : Val) : PCall Tryz.prog 34 [.agg a.d, .agg b.d] (.v (.one (.lit (.int .i64 (a.cmp b))))) := by
  refine pcallN hT Tryz.func34 Tryz.ntmps34 [.tmp 4] fun B => ?_
  repeat' (first | refine ks ?_ | refine ko ?_ | refine s_if rfl (fun hb => ?_) (fun hb => ?_) | refine s_call (refClean_c _) ?_ | refine s_split rfl rfl (fun hb => ?_) (fun hb => ?_) | refine f_ret1 def_nil ?_ | refine t_tmp ?_)
  all_goals (refine congrArg Dat.lit (congrArg (Value.int _) ?_))
  all_goals unfold Val.cmp
  all_goals (generalize a.clean = x at *; generalize b.clean = y at *)
  all_goals simp_all [Val.cmp, Val.same, Val.less, litsEq, litEq]
  · rw [if_neg (by rintro ⟨h1, h2⟩; exact absurd h2 (by simp_all)), if_neg (by omega)]
theorem compare_c (a b : Val) : PCall Tryz.prog 125 [.agg a.d, .agg b.d] (.v (.one (.lit (.int .i64 (a.cmp b))))) := by
  refine pcallN hT Tryz.func125 Tryz.ntmps125 [.tmp 4] fun B => ?_
  repeat' (first | refine ks ?_ | refine ko ?_ | refine s_if rfl (fun hb => ?_) (fun hb => ?_) | refine s_call (clean_c _) ?_ | refine s_call (cmpInt_c _ _) ?_ | refine s_call (cmpInt64_c _ _) ?_ | refine s_call (stringsCompare_c _ _) ?_ | refine f_ret1 def_nil ?_ | refine t_tmp ?_)
  all_goals (refine congrArg Dat.lit (congrArg (Value.int _) ?_))
  all_goals unfold Val.cmp
  all_goals (have hx := clean_valid a; have hy := clean_valid b; generalize a.clean = x at *; generalize b.clean = y at *)
  · exact icmp_kind (by simpa using hb)
  · exact icmp_int hx hy (by simp_all) (by simp_all)
  · exact icmp_text hx hy (by simp_all) (by simp_all)
  · exact icmp_null hx hy (by simp_all) (by simp_all) (by simp_all)
end Go.Proofs.YtojfhaoleedmkaaGreat
end
end
section
section
namespace Go.Proofs.YtojfhaoleedmkaaGreat
open Go.Abs Go.RowKit
attribute [local irreducible] ARun kont MCall PCall HCall resVal SF CF CFs defersOk slotsIn memIn fin finM VLe
set_option linter.unusedSimpArgs false
set_option maxRecDepth 100000
def rowD (r : List Val) : Dat := .sl (r.map Val.d)
theorem take_all {α : Type} (p : α → Bool) {l : List α} {i : Nat} {v : α} (hv : l[i]? = some v) (h : (l.take i).all p = true) (hp : p v = true) : (l.take (i + 1)).all p = true := by
  rw [List.take_add_one, List.all_append, h, hv]
  simp [hp]
theorem not_all {α : Type} (p : α → Bool) {l : List α} {i : Nat} {v : α} (hv : l[i]? = some v) (hp : p v = false) : l.all p = false := by
  rw [List.all_eq_false]
  exact ⟨v, List.mem_of_getElem? hv, by simp [hp]⟩
theorem drop_cons {α : Type} {l : List α} {i : Nat} {v : α} (h : l[i]? = some v) : l.drop i = v :: l.drop (i + 1) := by
  have hlt := lt_of_getElem? h
  rw [List.drop_eq_getElem_cons hlt]
  rw [List.getElem?_eq_getElem hlt] at h
  simp at h
  rw [h]
theorem take_map {α β : Type} (f : α → β) {l : List α} {i : Nat} {v : α} (hv : l[i]? = some v) : (l.take (i + 1)).map f = (l.take i).map f ++ [f v] := by
  rw [List.take_add_one, List.map_append, hv]
  rfl
theorem take_ge {α : Type} {l : List α} {i : Nat} (h : l.length ≤ i) : l.take i = l := List.take_of_length_le h
def rowOK (r : List Val) : Bool := decide (r.length ≤ 16) && r.all Val.valid
theorem validRow_c (r : List Val) : PCall Tryz.prog 80 [.one (rowD r)] (.v (.one (.lit (.bool (rowOK r))))) := by
  refine pcallN hT Tryz.func80 Tryz.ntmps80 [.tmp 2] fun B => ?_
  repeat' (first | refine ks ?_ | refine ko ?_ | refine s_if rfl (fun hb => ?_) (fun hb => ?_) | refine s_indexD ?_ (hel := (by first | exact rfl)) | refine f_ret1 def_nil ?_ | refine t_tmp ?_)
  · refine congrArg Dat.lit (congrArg Value.bool ?_)
    simp [rowOK]
    intros; omega
  · have hl : r.length ≤ 16 := by omega
    refine s_lp (X := Nat) [2, 4, 10, 11, 12, 13, 14, 15, 16, 17] (fun x => x ≤ r.length ∧ (r.take x).all Val.valid = true) (fun x lz => (10, (.c (.d (.lit (.int .i64 x))))) :: lz) (fun x => []) (fun x => r.length - x) (0) ?_ ?_ ?_ ?_
    repeat' (first | exact slots_nil | refine kw ?_ | exact memIn_nil | omega)
    · exact ⟨by simp, by simp⟩
    rintro i c ⟨hi, hinv⟩
    by_cases hlt : i < r.length
    · have hv : r[i]? = some r[i] := List.getElem?_eq_getElem hlt
      generalize r[i] = v at hv
      repeat' (first | refine ks ?_ | refine ko ?_ | refine s_if rfl (fun hb => ?_) (fun hb => ?_) | refine s_indexD ?_ (hel := (by first | exact idx_map hv (by omega) | exact hv | exact rfl)) | refine s_call (valid_c _) ?_ | refine f_ret1 def_nil ?_ | refine t_tmp ?_)
      · refine congrArg Dat.lit (congrArg Value.bool ?_)
        rw [rowOK, not_all Val.valid hv hb, Bool.and_false]
      · (apply s_round (i + 1); all_goals (try dsimp only); all_goals (try (repeat' (first | exact slots_nil | refine kw ?_ | exact memIn_nil | omega))))
        exact ⟨by omega, take_all _ hv hinv hb⟩
    · repeat' (first | refine ks ?_ | refine ko ?_ | refine s_if rfl (fun hb => ?_) (fun hb => ?_) | refine s_indexD ?_ (hel := (by first | exact rfl)) | refine f_ret1 def_nil ?_ | refine t_tmp ?_)
      refine congrArg Dat.lit (congrArg Value.bool ?_)
      rw [take_ge (by omega)] at hinv
      simp [rowOK, hinv, hl]
theorem refValidRow_c (r : List Val) : PCall Tryz.prog 85 [.one (rowD r)] (.v (.one (.lit (.bool (rowOK r))))) := by
  refine pcallN hT Tryz.func85 Tryz.ntmps85 [.tmp 2] fun B => ?_
  repeat' (first | refine ks ?_ | refine ko ?_ | refine s_if rfl (fun hb => ?_) (fun hb => ?_) | refine s_indexD ?_ (hel := (by first | exact rfl)) | refine f_ret1 def_nil ?_ | refine t_tmp ?_)
  · refine congrArg Dat.lit (congrArg Value.bool ?_)
    simp [rowOK]
    intros; omega
  · have hl : r.length ≤ 16 := by omega
    refine s_lp (X := Nat) [2, 3, 7, 8, 9, 10, 11, 12, 13, 14, 15, 16, 17, 18] (fun x => x ≤ r.length ∧ (r.take x).all Val.valid = true) (fun x lz => (3, (.c (.d (.lit (.int .i64 x))))) :: lz) (fun x => []) (fun x => r.length - x) (0) ?_ ?_ ?_ ?_
    repeat' (first | exact slots_nil | refine kw ?_ | exact memIn_nil | omega)
    · exact ⟨by simp, by simp⟩
    rintro i c ⟨hi, hinv⟩
    by_cases hlt : i < r.length
    · have hv : r[i]? = some r[i] := List.getElem?_eq_getElem hlt
      generalize r[i] = v at hv
      repeat' (first | refine ks ?_ | refine ko ?_ | refine s_if rfl (fun hb => ?_) (fun hb => ?_) | refine s_indexD ?_ (hel := (by first | exact idx_map hv (by omega) | exact hv | exact rfl)) | refine s_call (refValid_c _) ?_ | refine f_ret1 def_nil ?_ | refine t_tmp ?_)
      · refine congrArg Dat.lit (congrArg Value.bool ?_)
        rw [rowOK, not_all Val.valid hv hb, Bool.and_false]
      · (apply s_round (i + 1); all_goals (try dsimp only); all_goals (try (repeat' (first | exact slots_nil | refine kw ?_ | exact memIn_nil | omega))))
        exact ⟨by omega, take_all _ hv hinv hb⟩
    · repeat' (first | refine ks ?_ | refine ko ?_ | refine s_if rfl (fun hb => ?_) (fun hb => ?_) | refine s_indexD ?_ (hel := (by first | exact rfl)) | refine f_ret1 def_nil ?_ | refine t_tmp ?_)
      refine congrArg Dat.lit (congrArg Value.bool ?_)
      rw [take_ge (by omega)] at hinv
      simp [rowOK, hinv, hl]
def rowCmp : List Val → List Val → Int
  | [], [] => 0
  | [], _ :: _ => -1
  | _ :: _, [] => 1
  | a :: x, b :: y => if a.cmp b = 0 then rowCmp x y else a.cmp b
theorem rowCmp_end (x y : List Val) (h : x = [] ∨ y = []) : rowCmp x y = icmp x.length y.length := by
  rcases h with rfl | rfl
  · cases y <;> simp [rowCmp, icmp]
  · cases x <;> simp [rowCmp, icmp]; omega
theorem refCompareRows_c (r s : List Val) : PCall Tryz.prog 108 [.one (rowD r), .one (rowD s)] (.v (.one (.lit (.int .i64 (rowCmp r s))))) := by
  refine pcallN hT Tryz.func108 Tryz.ntmps108 [.tmp 4] fun B => ?_
  refine k_len 0 rfl fun hlr => ?_
  refine k_len 1 rfl fun hls => ?_
  simp only [List.length_map, maxLen] at hlr hls
  repeat' (first | refine ks ?_ | refine ko ?_ | refine s_if rfl (fun hb => ?_) (fun hb => ?_) | refine s_indexD ?_ (hel := (by first | exact rfl)) | refine s_kT ?_ | refine s_split rfl rfl (fun hb => ?_) (fun hb => ?_) | refine f_ret1 def_nil ?_ | refine t_tmp ?_)
  refine s_lp (X := Nat) [4, 5, 6, 7, 8, 9, 10, 11, 12, 13, 14, 15, 16, 17, 18, 19, 20, 21, 22, 23, 24, 25, 26, 27, 28, 29, 30] (fun x => x ≤ r.length ∧ x ≤ s.length ∧ rowCmp r s = rowCmp (r.drop x) (s.drop x)) (fun x lz => (5, (.c (.d (.lit (.int .i64 x))))) :: lz) (fun x => []) (fun x => r.length - x) (0) ?_ ?_ ?_ ?_
  repeat' (first | exact slots_nil | refine kw ?_ | exact memIn_nil | omega)
  · exact ⟨by simp, by simp, by simp⟩
  rintro i c ⟨hi, hj, hinv⟩
  by_cases hlt : i < r.length ∧ i < s.length
  · obtain ⟨hlt, hlt2⟩ := hlt
    have hv : r[i]? = some r[i] := List.getElem?_eq_getElem hlt
    generalize r[i] = a at hv
    have hu : s[i]? = some s[i] := List.getElem?_eq_getElem hlt2
    generalize s[i] = b at hu
    rw [drop_cons hv, drop_cons hu, rowCmp] at hinv
    repeat' (first | refine ks ?_ | refine ko ?_ | refine s_if rfl (fun hb => ?_) (fun hb => ?_) | refine s_indexD ?_ (hel := (by first | exact idx_map hv (by omega) | exact idx_map hu (by omega) | exact hv | exact hu | exact rfl)) | refine s_call (refCompare_c _ _) ?_ | refine s_kT ?_ | refine s_split rfl rfl (fun hb => ?_) (fun hb => ?_) | refine f_ret1 def_nil ?_ | refine t_tmp ?_)
    · rw [hinv, if_neg hb]
    · (apply s_round (i + 1); all_goals (try dsimp only); all_goals (try (repeat' (first | exact slots_nil | refine kw ?_ | exact memIn_nil | omega))))
      try exact ⟨by omega, by omega, by rw [hinv, if_pos hb]⟩
  · have he : rowCmp r s = icmp r.length s.length := by
      rw [hinv, rowCmp_end _ _ (by simp only [List.drop_eq_nil_iff]; omega)]
      simp only [List.length_drop, icmp]
      (repeat' split) <;> omega
    repeat' (first | refine ks ?_ | refine ko ?_ | refine s_if rfl (fun hb => ?_) (fun hb => ?_) | refine s_indexD ?_ (hel := (by first | exact rfl)) | refine s_kT ?_ | refine s_split rfl rfl (fun hb => ?_) (fun hb => ?_) | refine f_ret1 def_nil ?_ | refine t_tmp ?_)
    all_goals (rw [he, icmp])
    all_goals (refine congrArg Dat.lit (congrArg (Value.int _) ?_); (repeat' split) <;> omega)
theorem compareRows_c (r s : List Val) : PCall Tryz.prog 82 [.one (rowD r), .one (rowD s)] (.v (.one (.lit (.int .i64 (rowCmp r s))))) := by
  refine pcallN hT Tryz.func82 Tryz.ntmps82 [.tmp 4] fun B => ?_
  refine k_len 0 rfl fun hlr => ?_
  refine k_len 1 rfl fun hls => ?_
  simp only [List.length_map, maxLen] at hlr hls
  repeat' (first | refine ks ?_ | refine ko ?_ | refine s_if rfl (fun hb => ?_) (fun hb => ?_) | refine s_indexD ?_ (hel := (by first | exact rfl)) | refine f_ret1 def_nil ?_ | refine t_tmp ?_)
  have hm : (if (s.length : Int) < r.length then (s.length : Int) else r.length) = (min r.length s.length : Nat) := by
    split <;> omega
  simp only [hm]
  generalize hmn : min r.length s.length = m
  refine s_lp (X := Nat) [4, 5, 6, 12, 13, 14, 15, 16, 17, 18, 19, 20, 21, 22, 23, 24, 25, 26, 27] (fun x => x ≤ m ∧ rowCmp r s = rowCmp (r.drop x) (s.drop x)) (fun x lz => (12, (.c (.d (.lit (.int .i64 x))))) :: lz) (fun x => []) (fun x => m - x) (0) ?_ ?_ ?_ ?_
  repeat' (first | exact slots_nil | refine kw ?_ | exact memIn_nil | omega)
  · exact ⟨by simp, by simp⟩
  rintro i c ⟨hi, hinv⟩
  by_cases hlt : i < m
  · have hv : r[i]? = some r[i] := List.getElem?_eq_getElem (by omega)
    generalize r[i] = a at hv
    have hu : s[i]? = some s[i] := List.getElem?_eq_getElem (by omega)
    generalize s[i] = b at hu
    rw [drop_cons hv, drop_cons hu, rowCmp] at hinv
    repeat' (first | refine ks ?_ | refine ko ?_ | refine s_if rfl (fun hb => ?_) (fun hb => ?_) | refine s_indexD ?_ (hel := (by first | exact idx_map hv (by omega) | exact idx_map hu (by omega) | exact hv | exact hu | exact rfl)) | refine s_call (compare_c _ _) ?_ | refine f_ret1 def_nil ?_ | refine t_tmp ?_)
    · rw [hinv, if_neg hb]
    · (apply s_round (i + 1); all_goals (try dsimp only); all_goals (try (repeat' (first | exact slots_nil | refine kw ?_ | exact memIn_nil | omega))))
      try exact ⟨by omega, by rw [hinv, if_pos hb]⟩
  · have he : rowCmp r s = icmp r.length s.length := by
      rw [hinv, rowCmp_end _ _ (by simp only [List.drop_eq_nil_iff]; omega)]
      simp only [List.length_drop, icmp]
      (repeat' split) <;> omega
    repeat' (first | refine ks ?_ | refine ko ?_ | refine s_if rfl (fun hb => ?_) (fun hb => ?_) | refine s_indexD ?_ (hel := (by first | exact rfl)) | refine s_call (cmpInt_c _ _) ?_ | refine f_ret1 def_nil ?_ | refine t_tmp ?_)
    all_goals (rw [he])
end Go.Proofs.YtojfhaoleedmkaaGreat
end
section
section
namespace Go.Proofs.YtojfhaoleedmkaaGreat
open Go.Abs Go.RowKit
set_option linter.unusedSimpArgs false
set_option maxRecDepth 100000
theorem bagValid1_d : DeferOk Tryz.prog 110 0 := by
  refine ⟨⟨_, Tryz.func110, by kernel_rfl, by kernel_rfl⟩, fun vs w hl => ?_⟩
  match vs, hl with
  | [], _ =>
    refine callsD_of_wpS Tryz.func110 rfl fun c₀ cs hu => ?_
    apply wpS_region
    simp [wpOpsS, go_sem, recoverD, hu, Tryz.ntmps110, Exit.thenS]
    cases c₀
    simp_all [bodyPostS, results, Tryz.results110]
end Go.Proofs.YtojfhaoleedmkaaGreat
end
section
namespace Go.Proofs.YtojfhaoleedmkaaGreat
open Go.Abs Go.RowKit
attribute [local irreducible] ARun kont MCall PCall HCall resVal SF CF CFs defersOk slotsIn memIn fin finM VLe
set_option linter.unusedSimpArgs false
set_option maxRecDepth 100000
structure Entry where
  row : List Val
  count : Int
def Entry.d (e : Entry) : List Dat := [rowD e.row, .lit (.int .i64 e.count)]
def bagD (l : List Entry) : Dat := .sl (l.map Entry.d)
def countOK (n : Int) : Bool := decide (-262144 ≤ n) && decide (n ≤ 262144)
def Entry.ok (e : Entry) : Bool := rowOK e.row && countOK e.count && decide (e.count ≠ 0)
def goodFrom : Option Entry → List Entry → Bool
  | _, [] => true
  | p, e :: l => e.ok && (match p with | none => true | some q => decide (rowCmp q.row e.row < 0)) && goodFrom (some e) l
def bagValid (l : List Entry) : Bool := decide (l.length ≤ 4096) && goodFrom none l
def prevOf (l : List Entry) (i : Nat) : Option Entry := if i = 0 then none else l[i - 1]?
theorem countOK_c (n : Int) : PCall Tryz.prog 86 [.one (.lit (.int .i64 n))] (.v (.one (.lit (.bool (countOK n))))) := by
  refine pcallN hT Tryz.func86 Tryz.ntmps86 [.tmp 2] fun B => ?_
  repeat' (first | refine ks ?_ | refine ko ?_ | refine s_split rfl rfl (fun hb => ?_) (fun hb => ?_) | refine f_ret1 def_nil ?_ | refine t_tmp ?_)
  all_goals (refine congrArg Dat.lit (congrArg Value.bool ?_); simp_all [countOK]; try omega)
theorem inRange_c (n : Int) : PCall Tryz.prog 143 [.one (.lit (.int .i64 n))] (.v (.one (.lit (.bool (countOK n))))) := by
  refine pcallN hT Tryz.func143 Tryz.ntmps143 [.tmp 2] fun B => ?_
  repeat' (first | refine ks ?_ | refine ko ?_ | refine s_split rfl rfl (fun hb => ?_) (fun hb => ?_) | refine f_ret1 def_nil ?_ | refine t_tmp ?_)
  all_goals (refine congrArg Dat.lit (congrArg Value.bool ?_); simp_all [countOK]; try omega)
theorem validEntry_c (e : Entry) : PCall Tryz.prog 101 [.agg e.d] (.v (.one (.lit (.bool (countOK e.count && rowOK e.row))))) := by
  refine pcallN hT Tryz.func101 Tryz.ntmps101 [.tmp 2] fun B => ?_
  repeat' (first | refine ks ?_ | refine ko ?_ | refine s_call (inRange_c _) ?_ | refine s_call (validRow_c _) ?_ | refine s_split rfl rfl (fun hb => ?_) (fun hb => ?_) | refine f_ret1 def_nil ?_ | refine t_tmp ?_)
  all_goals (refine congrArg Dat.lit (congrArg Value.bool ?_); simp_all)
theorem good_step {l : List Entry} {i : Nat} {e : Entry} (h : l[i]? = some e) : goodFrom (prevOf l i) (l.drop i) = (e.ok && (match prevOf l i with | none => true | some q => decide (rowCmp q.row e.row < 0)) && goodFrom (prevOf l (i + 1)) (l.drop (i + 1))) := by
  rw [drop_cons h, goodFrom.eq_def]
  have : prevOf l (i + 1) = some e := by simp [prevOf, h]
  rw [this]
set_option maxHeartbeats 1000000 in
theorem bagValid_c (l : List Entry) : PCall Tryz.prog 61 [.one (bagD l)] (.v (.one (.lit (.bool (bagValid l))))) := by
  refine pcallN hT Tryz.func61 Tryz.ntmps61 [.tmp 2] fun B => ?_
  repeat' (first | refine ks ?_ | refine ko ?_ | refine s_if rfl (fun hb => ?_) (fun hb => ?_) | refine s_indexD ?_ (hel := (by first | exact rfl)) | refine s_kT ?_ | refine s_split rfl rfl (fun hb => ?_) (fun hb => ?_) | refine f_ret1 (by repeat (first | exact def_nil | refine def_cons bagValid1_d ?_)) ?_ | refine t_tmp ?_)
  · refine congrArg Dat.lit (congrArg Value.bool ?_)
    simp [bagValid]
    intros; omega
  · have hl : l.length ≤ 4096 := by omega
    refine s_lp (X := Nat) [2, 3, 4, 10, 11, 12, 13, 14, 15, 16, 17, 18, 19, 20, 21, 22, 23, 24, 25, 26, 27, 28, 29, 30, 31, 32, 33, 34, 35, 36, 37] (fun x => x ≤ l.length ∧ goodFrom none l = goodFrom (prevOf l x) (l.drop x)) (fun x lz => (10, (.c (.d (.lit (.int .i64 x))))) :: lz) (fun x => []) (fun x => l.length - x) (0) ?_ ?_ ?_ ?_
    repeat' (first | exact slots_nil | refine kw ?_ | exact memIn_nil | omega)
    · exact ⟨by simp, by simp [prevOf]⟩
    rintro i c ⟨hi, hinv⟩
    by_cases hlt : i < l.length
    · have hv : l[i]? = some l[i] := List.getElem?_eq_getElem hlt
      generalize l[i] = e at hv
      rw [good_step hv] at hinv
      rcases i with _ | j
      · have hp : prevOf l 0 = none := rfl
        rw [hp] at hinv
        repeat' (first | refine ks ?_ | refine ko ?_ | refine s_if rfl (fun hb => ?_) (fun hb => ?_) | refine s_indexD ?_ (hel := (by first | exact idx_map hv (by omega) | exact hv | exact rfl)) | refine s_call (validEntry_c _) ?_ | refine s_call (compareRows_c _ _) ?_ | refine s_kT ?_ | refine s_split rfl rfl (fun hb => ?_) (fun hb => ?_) | refine f_ret1 (by repeat (first | exact def_nil | refine def_cons bagValid1_d ?_)) ?_ | refine t_tmp ?_)
        all_goals first
          | (refine congrArg Dat.lit (congrArg Value.bool ?_); simp only [bagValid, hinv, Entry.ok]; cases h1 : rowOK e.row <;> cases h2 : countOK e.count <;> simp_all <;> done)
          | (refine congrArg Dat.lit (congrArg Value.bool ?_); simp only [bagValid, hinv]; simp; intros; omega)
          | ((apply s_round (1); all_goals (try dsimp only); all_goals (try (repeat' (first | exact slots_nil | refine kw ?_ | exact memIn_nil | omega)))); (try exact ⟨by omega, by rw [hinv]; simp_all [Entry.ok]⟩))
      · have hu : l[j]? = some l[j] := List.getElem?_eq_getElem (by omega)
        generalize l[j] = p at hu
        have hp : prevOf l (j + 1) = some p := by simp [prevOf, hu]
        rw [hp] at hinv
        repeat' (first | refine ks ?_ | refine ko ?_ | refine s_if rfl (fun hb => ?_) (fun hb => ?_) | refine s_indexD ?_ (hel := (by first | exact idx_map hv (by omega) | exact idx_map hu (by omega) | exact hv | exact hu | exact rfl)) | refine s_call (validEntry_c _) ?_ | refine s_call (compareRows_c _ _) ?_ | refine s_kT ?_ | refine s_split rfl rfl (fun hb => ?_) (fun hb => ?_) | refine f_ret1 (by repeat (first | exact def_nil | refine def_cons bagValid1_d ?_)) ?_ | refine t_tmp ?_)
        all_goals first
          | (refine congrArg Dat.lit (congrArg Value.bool ?_); simp only [bagValid, hinv, Entry.ok]; cases h1 : rowOK e.row <;> cases h2 : countOK e.count <;> simp_all <;> done)
          | (refine congrArg Dat.lit (congrArg Value.bool ?_); simp only [bagValid, hinv]; simp; intros; omega)
          | ((apply s_round (j + 1 + 1); all_goals (try dsimp only); all_goals (try (repeat' (first | exact slots_nil | refine kw ?_ | exact memIn_nil | omega)))); (try exact ⟨by omega, by rw [hinv]; simp_all [Entry.ok]⟩))
    · repeat' (first | refine ks ?_ | refine ko ?_ | refine s_if rfl (fun hb => ?_) (fun hb => ?_) | refine s_indexD ?_ (hel := (by first | exact rfl)) | refine s_kT ?_ | refine s_split rfl rfl (fun hb => ?_) (fun hb => ?_) | refine f_ret1 (by repeat (first | exact def_nil | refine def_cons bagValid1_d ?_)) ?_ | refine t_tmp ?_)
      refine congrArg Dat.lit (congrArg Value.bool ?_)
      rw [List.drop_eq_nil_of_le (by omega)] at hinv
      simp [bagValid, hinv, hl, goodFrom]
end Go.Proofs.YtojfhaoleedmkaaGreat
end
end
end
