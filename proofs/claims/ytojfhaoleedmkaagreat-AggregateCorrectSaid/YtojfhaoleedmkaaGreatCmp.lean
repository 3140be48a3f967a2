/-
  How values and rows are compared.
-/
import Derived.Test.YtojfhaoleedmkaaGreatByt
import Derived.Test.YtojfhaoleedmkaaGreatProg
import Derived.Lib.Strings
import Derived.Lib.Slices
import Derived.Lib.Walk
import Derived.Lib.Bytealg
section
namespace Go.Proofs.YtojfhaoleedmkaaGreat
open Go.Abs
def ti2 : TI := { size := 1, bytes := 8, zero := [.int .i64 0], desc := .int .i64 }
def ti3 : TI := { size := 1, bytes := 8, zero := [.int .i64 0], desc := .int .i64 }
def ti4 : TI := { size := 1, bytes := 1, zero := [.bool false], desc := .bool }
def ti5 : TI := { size := 1, bytes := 1, zero := [.int .u8 0], desc := .int .u8 }
def ti9 : TI := { size := 1, bytes := 16, zero := [.string ⟨#[]⟩], desc := .str }
def ti22 : TI := { size := 1, bytes := 24, zero := [.slice none 0 0], desc := .slice 3 }
def ti25 : TI := { size := 1, bytes := 24, zero := [.slice none 0 0], desc := .slice 49 }
def ti27 : TI := { size := 1, bytes := 24, zero := [.slice none 0 0], desc := .slice 72 }
def ti29 : TI := { size := 1, bytes := 24, zero := [.slice none 0 0], desc := .slice 46 }
def ti38 : TI := { size := 1, bytes := 24, zero := [.slice none 0 0], desc := .slice 90 }
def ti44 : TI := { size := 1, bytes := 24, zero := [.slice none 0 0], desc := .slice 114 }
def ti46 : TI := { size := 3, bytes := 48, zero := [.string ⟨#[]⟩, .int .i64 0, .slice none 0 0], desc := .struct [(0, 9), (1, 3), (2, 44)] }
def ti47 : TI := { size := 1, bytes := 24, zero := [.slice none 0 0], desc := .slice 53 }
def ti49 : TI := { size := 2, bytes := 32, zero := [.slice none 0 0, .int .i64 0], desc := .struct [(0, 47), (1, 2)] }
def ti53 : TI := { size := 3, bytes := 32, zero := [.int .i64 0, .int .i64 0, .string ⟨#[]⟩], desc := .struct [(0, 3), (1, 2), (2, 9)], eqs := true }
def ti65 : TI := { size := 2, bytes := 32, zero := [.slice none 0 0, .int .i64 0], desc := .struct [(0, 22), (1, 3)] }
def ti72 : TI := { size := 2, bytes := 40, zero := [.string ⟨#[]⟩, .slice none 0 0], desc := .struct [(0, 9), (1, 44)] }
def ti74 : TI := { size := 1, bytes := 24, zero := [.slice none 0 0], desc := .slice 2 }
def ti75 : TI := { size := 1, bytes := 24, zero := [.slice none 0 0], desc := .slice 78 }
def ti78 : TI := { size := 2, bytes := 48, zero := [.slice none 0 0, .slice none 0 0], desc := .struct [(0, 47), (1, 25)] }
def ti80 : TI := { size := 1, bytes := 24, zero := [.slice none 0 0], desc := .slice 99 }
def ti82 : TI := { size := 1, bytes := 24, zero := [.slice none 0 0], desc := .slice 47 }
def ti90 : TI := { size := 4, bytes := 80, zero := [.slice none 0 0, .int .i64 0, .slice none 0 0, .slice none 0 0], desc := .struct [(0, 47), (1, 2), (2, 74), (3, 74)] }
def ti99 : TI := { size := 4, bytes := 40, zero := [.int .i64 0, .int .i64 0, .string ⟨#[]⟩, .int .i64 0], desc := .struct [(0, 53), (3, 2)] }
def ti110 : TI := { size := 1, bytes := 8, zero := [.int .u64 0], desc := .int .u64 }
def ti111 : TI := { size := 1, bytes := 24, zero := [.slice none 0 0], desc := .slice 5 }
def ti114 : TI := { size := 5, bytes := 48, zero := [.int .i64 0, .int .i64 0, .int .i64 0, .string ⟨#[]⟩, .int .i64 0], desc := .struct [(0, 3), (1, 53), (4, 3)] }
def ti115 : TI := { size := 1, bytes := 8, zero := [.map none], desc := .plain }
def ti122 : TI := { size := 1, bytes := 8, zero := [.map none], desc := .plain }
def ti156 : TI := { size := 1, bytes := 24, zero := [.slice none 0 0], desc := .slice 44 }
def ti163 : TI := { size := 1, bytes := 24, zero := [.slice none 0 0], desc := .slice 9 }
def ti179 : TI := { size := 9, bytes := 96, zero := [.int .i64 0, .int .i64 0, .string ⟨#[]⟩, .int .i64 0, .int .i64 0, .string ⟨#[]⟩, .int .i64 0, .int .i64 0, .string ⟨#[]⟩], desc := .array 3 53 }
def tbl : TTree := (.node (.node (.node (.node (.node (.node .nil 2 ti2 .nil) 3 ti3 .nil) 4 ti4 (.node .nil 5 ti5 .nil)) 9 ti9 (.node (.node .nil 22 ti22 .nil) 25 ti25 (.node .nil 27 ti27 .nil))) 29 ti29 (.node (.node (.node .nil 38 ti38 .nil) 44 ti44 (.node .nil 46 ti46 .nil)) 47 ti47 (.node (.node .nil 49 ti49 .nil) 53 ti53 (.node .nil 65 ti65 .nil)))) 72 ti72 (.node (.node (.node (.node .nil 74 ti74 .nil) 75 ti75 (.node .nil 78 ti78 .nil)) 80 ti80 (.node (.node .nil 82 ti82 .nil) 90 ti90 (.node .nil 99 ti99 .nil))) 110 ti110 (.node (.node (.node .nil 111 ti111 .nil) 114 ti114 (.node .nil 115 ti115 .nil)) 122 ti122 (.node (.node .nil 156 ti156 .nil) 163 ti163 (.node .nil 179 ti179 .nil)))))
def T : TypeId → Option TI := tyFind tbl
theorem tok2 : TOk Tryz.prog 2 ti2 := mkT (.int .i64 0) (by kernel_rfl) rfl rfl (show Tryz.prog.underlying 2 = some (.int .i64) by kernel_rfl) (fun h => by cases h)
theorem tok3 : TOk Tryz.prog 3 ti3 := mkT (.int .i64 0) (by kernel_rfl) rfl rfl (show Tryz.prog.underlying 3 = some (.int .i64) by kernel_rfl) (fun h => by cases h)
theorem tok4 : TOk Tryz.prog 4 ti4 := mkT (.bool false) (by kernel_rfl) rfl rfl (show Tryz.prog.underlying 4 = some (.bool) by kernel_rfl) (fun h => by cases h)
theorem tok5 : TOk Tryz.prog 5 ti5 := mkT (.int .u8 0) (by kernel_rfl) rfl rfl (show Tryz.prog.underlying 5 = some (.int .u8) by kernel_rfl) (fun h => by cases h)
theorem tok9 : TOk Tryz.prog 9 ti9 := mkT (.string ⟨#[]⟩) (by kernel_rfl) rfl rfl (show Tryz.prog.underlying 9 = some (.string) by kernel_rfl) (fun h => by cases h)
theorem tok22 : TOk Tryz.prog 22 ti22 := mkT (.slice none 0 0) (by kernel_rfl) rfl rfl (show Tryz.prog.underlying 22 = some (.slice 3) by kernel_rfl) (fun h => by cases h)
theorem tok25 : TOk Tryz.prog 25 ti25 := mkT (.slice none 0 0) (by kernel_rfl) rfl rfl (show Tryz.prog.underlying 25 = some (.slice 49) by kernel_rfl) (fun h => by cases h)
theorem tok27 : TOk Tryz.prog 27 ti27 := mkT (.slice none 0 0) (by kernel_rfl) rfl rfl (show Tryz.prog.underlying 27 = some (.slice 72) by kernel_rfl) (fun h => by cases h)
theorem tok29 : TOk Tryz.prog 29 ti29 := mkT (.slice none 0 0) (by kernel_rfl) rfl rfl (show Tryz.prog.underlying 29 = some (.slice 46) by kernel_rfl) (fun h => by cases h)
theorem tok38 : TOk Tryz.prog 38 ti38 := mkT (.slice none 0 0) (by kernel_rfl) rfl rfl (show Tryz.prog.underlying 38 = some (.slice 90) by kernel_rfl) (fun h => by cases h)
theorem tok44 : TOk Tryz.prog 44 ti44 := mkT (.slice none 0 0) (by kernel_rfl) rfl rfl (show Tryz.prog.underlying 44 = some (.slice 114) by kernel_rfl) (fun h => by cases h)
theorem tok46 : TOk Tryz.prog 46 ti46 := mkT (.agg #[.string ⟨#[]⟩, .int .i64 0, .slice none 0 0]) (by kernel_rfl) rfl rfl (show (Tryz.prog.underlying 46).map structFs = some (some [(0, 9), (1, 3), (2, 44)]) by kernel_rfl) (fun h => by cases h)
theorem tok47 : TOk Tryz.prog 47 ti47 := mkT (.slice none 0 0) (by kernel_rfl) rfl rfl (show Tryz.prog.underlying 47 = some (.slice 53) by kernel_rfl) (fun h => by cases h)
theorem tok49 : TOk Tryz.prog 49 ti49 := mkT (.agg #[.slice none 0 0, .int .i64 0]) (by kernel_rfl) rfl rfl (show (Tryz.prog.underlying 49).map structFs = some (some [(0, 47), (1, 2)]) by kernel_rfl) (fun h => by cases h)
theorem tok53 : TOk Tryz.prog 53 ti53 := mkT (.agg #[.int .i64 0, .int .i64 0, .string ⟨#[]⟩]) (by kernel_rfl) rfl rfl (show (Tryz.prog.underlying 53).map structFs = some (some [(0, 3), (1, 2), (2, 9)]) by kernel_rfl) (fun _ => eqOk (by kernel_rfl) (by kernel_rfl) (by kernel_rfl) (by kernel_rfl))
theorem tok65 : TOk Tryz.prog 65 ti65 := mkT (.agg #[.slice none 0 0, .int .i64 0]) (by kernel_rfl) rfl rfl (show (Tryz.prog.underlying 65).map structFs = some (some [(0, 22), (1, 3)]) by kernel_rfl) (fun h => by cases h)
theorem tok72 : TOk Tryz.prog 72 ti72 := mkT (.agg #[.string ⟨#[]⟩, .slice none 0 0]) (by kernel_rfl) rfl rfl (show (Tryz.prog.underlying 72).map structFs = some (some [(0, 9), (1, 44)]) by kernel_rfl) (fun h => by cases h)
theorem tok74 : TOk Tryz.prog 74 ti74 := mkT (.slice none 0 0) (by kernel_rfl) rfl rfl (show Tryz.prog.underlying 74 = some (.slice 2) by kernel_rfl) (fun h => by cases h)
theorem tok75 : TOk Tryz.prog 75 ti75 := mkT (.slice none 0 0) (by kernel_rfl) rfl rfl (show Tryz.prog.underlying 75 = some (.slice 78) by kernel_rfl) (fun h => by cases h)
theorem tok78 : TOk Tryz.prog 78 ti78 := mkT (.agg #[.slice none 0 0, .slice none 0 0]) (by kernel_rfl) rfl rfl (show (Tryz.prog.underlying 78).map structFs = some (some [(0, 47), (1, 25)]) by kernel_rfl) (fun h => by cases h)
theorem tok80 : TOk Tryz.prog 80 ti80 := mkT (.slice none 0 0) (by kernel_rfl) rfl rfl (show Tryz.prog.underlying 80 = some (.slice 99) by kernel_rfl) (fun h => by cases h)
theorem tok82 : TOk Tryz.prog 82 ti82 := mkT (.slice none 0 0) (by kernel_rfl) rfl rfl (show Tryz.prog.underlying 82 = some (.slice 47) by kernel_rfl) (fun h => by cases h)
theorem tok90 : TOk Tryz.prog 90 ti90 := mkT (.agg #[.slice none 0 0, .int .i64 0, .slice none 0 0, .slice none 0 0]) (by kernel_rfl) rfl rfl (show (Tryz.prog.underlying 90).map structFs = some (some [(0, 47), (1, 2), (2, 74), (3, 74)]) by kernel_rfl) (fun h => by cases h)
theorem tok99 : TOk Tryz.prog 99 ti99 := mkT (.agg #[.int .i64 0, .int .i64 0, .string ⟨#[]⟩, .int .i64 0]) (by kernel_rfl) rfl rfl (show (Tryz.prog.underlying 99).map structFs = some (some [(0, 53), (3, 2)]) by kernel_rfl) (fun h => by cases h)
theorem tok110 : TOk Tryz.prog 110 ti110 := mkT (.int .u64 0) (by kernel_rfl) rfl rfl (show Tryz.prog.underlying 110 = some (.int .u64) by kernel_rfl) (fun h => by cases h)
theorem tok111 : TOk Tryz.prog 111 ti111 := mkT (.slice none 0 0) (by kernel_rfl) rfl rfl (show Tryz.prog.underlying 111 = some (.slice 5) by kernel_rfl) (fun h => by cases h)
theorem tok114 : TOk Tryz.prog 114 ti114 := mkT (.agg #[.int .i64 0, .int .i64 0, .int .i64 0, .string ⟨#[]⟩, .int .i64 0]) (by kernel_rfl) rfl rfl (show (Tryz.prog.underlying 114).map structFs = some (some [(0, 3), (1, 53), (4, 3)]) by kernel_rfl) (fun h => by cases h)
theorem tok115 : TOk Tryz.prog 115 ti115 := mkT (.map none) (by kernel_rfl) rfl rfl (show (Tryz.prog.underlying 115).map plainB = some true by kernel_rfl) (fun h => by cases h)
theorem tok122 : TOk Tryz.prog 122 ti122 := mkT (.map none) (by kernel_rfl) rfl rfl (show (Tryz.prog.underlying 122).map plainB = some true by kernel_rfl) (fun h => by cases h)
theorem tok156 : TOk Tryz.prog 156 ti156 := mkT (.slice none 0 0) (by kernel_rfl) rfl rfl (show Tryz.prog.underlying 156 = some (.slice 44) by kernel_rfl) (fun h => by cases h)
theorem tok163 : TOk Tryz.prog 163 ti163 := mkT (.slice none 0 0) (by kernel_rfl) rfl rfl (show Tryz.prog.underlying 163 = some (.slice 9) by kernel_rfl) (fun h => by cases h)
theorem tok179 : TOk Tryz.prog 179 ti179 := mkT (.agg #[.int .i64 0, .int .i64 0, .string ⟨#[]⟩, .int .i64 0, .int .i64 0, .string ⟨#[]⟩, .int .i64 0, .int .i64 0, .string ⟨#[]⟩]) (by kernel_rfl) rfl rfl (show Tryz.prog.underlying 179 = some (.array 3 53) by kernel_rfl) (fun h => by cases h)
theorem hT : TypesOk Tryz.prog T := typesOk (show tyAll Tryz.prog tbl from ⟨⟨⟨⟨⟨⟨trivial, tok2, trivial⟩, tok3, trivial⟩, tok4, ⟨trivial, tok5, trivial⟩⟩, tok9, ⟨⟨trivial, tok22, trivial⟩, tok25, ⟨trivial, tok27, trivial⟩⟩⟩, tok29, ⟨⟨⟨trivial, tok38, trivial⟩, tok44, ⟨trivial, tok46, trivial⟩⟩, tok47, ⟨⟨trivial, tok49, trivial⟩, tok53, ⟨trivial, tok65, trivial⟩⟩⟩⟩, tok72, ⟨⟨⟨⟨trivial, tok74, trivial⟩, tok75, ⟨trivial, tok78, trivial⟩⟩, tok80, ⟨⟨trivial, tok82, trivial⟩, tok90, ⟨trivial, tok99, trivial⟩⟩⟩, tok110, ⟨⟨⟨trivial, tok111, trivial⟩, tok114, ⟨trivial, tok115, trivial⟩⟩, tok122, ⟨⟨trivial, tok156, trivial⟩, tok163, ⟨trivial, tok179, trivial⟩⟩⟩⟩⟩)
theorem hmix : Tryz.prog.follows .mixedOrders = true := by kernel_rfl
instance tcI : TC Tryz.prog T := ⟨hT, hmix⟩
instance mt115 : MapTy Tryz.prog 115 9 3 := ⟨by kernel_rfl⟩
instance ko9 : KeyOk Tryz.prog 9 IsStr := keyStr (by kernel_rfl)
instance zv3 : ZeroV Tryz.prog 3 (.one (.lit (.int .i64 0))) := zeroV_lit (by kernel_rfl) rfl
instance mt122 : MapTy Tryz.prog 122 9 2 := ⟨by kernel_rfl⟩
instance zv2 : ZeroV Tryz.prog 2 (.one (.lit (.int .i64 0))) := zeroV_lit (by kernel_rfl) rfl
end Go.Proofs.YtojfhaoleedmkaaGreat
end
section
section
namespace Go.Proofs.YtojfhaoleedmkaaGreat
open Go.Abs Go.RowKit
attribute [local irreducible] ARun kont MCall PCall HCall resVal SF CF CFs defersOk slotsIn memIn fin finM VLe
set_option linter.unusedSimpArgs false
set_option maxRecDepth 100000
structure Val where
  kind : Int
  int : Int
  text : ByteArray
def Val.d (v : Val) : List Dat := [.lit (.int .i64 v.kind), .lit (.int .i64 v.int), .lit (.string v.text)]
def Val.valid (v : Val) : Bool :=
  if v.kind = 0 then decide (v.int = 0) && v.text.toList.isEmpty
  else if v.kind = 1 then decide (-4294967296 ≤ v.int) && decide (v.int ≤ 4294967296) && v.text.toList.isEmpty
  else if v.kind = 2 then decide (v.int = 0) && decide (v.text.size ≤ 32)
  else false
theorem bytes_nil (s : ByteArray) : (s.toList == ({ data := #[] } : ByteArray).toList) = s.toList.isEmpty := by
  have : ({ data := #[] } : ByteArray).toList = [] := by rw [ByteArray.toList_eq]
  rw [this]
  cases s.toList <;> rfl
theorem valid_c (v : Val) : PCall Tryz.prog 123 [.agg v.d] (.v (.one (.lit (.bool v.valid)))) := by
  refine pcallN hT Tryz.func123 Tryz.ntmps123 [.tmp 2] fun B => ?_
  repeat' (first | refine ks ?_ | refine ko ?_ | refine s_if rfl (fun hb => ?_) (fun hb => ?_) | refine s_split rfl rfl (fun hb => ?_) (fun hb => ?_) | refine f_ret1 def_nil ?_ | refine t_tmp ?_)
  all_goals (refine congrArg Dat.lit (congrArg Value.bool ?_); simp_all [Val.valid, bytes_nil])
  all_goals (intros; omega)
def Val.null : Val := ⟨0, 0, ⟨#[]⟩⟩
def Val.clean (v : Val) : Val := if v.valid then v else Val.null
theorem clean_c (v : Val) : PCall Tryz.prog 132 [.agg v.d] (.v (.agg v.clean.d)) := by
  refine pcallN hT Tryz.func132 Tryz.ntmps132 [.cell 2 53] fun B => ?_
  repeat' (first | refine ks ?_ | refine ko ?_ | refine s_if rfl (fun hb => ?_) (fun hb => ?_) | refine s_call (valid_c _) ?_ | refine f_ret1 def_nil ?_ | refine t_cellG ?_ | exact cfs_nil | refine cfs_cons ?_ ?_ | refine cf_d ?_)
  all_goals simp_all [Val.clean, Val.null]
theorem refValid_c (v : Val) : PCall Tryz.prog 118 [.agg v.d] (.v (.one (.lit (.bool v.valid)))) := by
  refine pcallN hT Tryz.func118 Tryz.ntmps118 [.tmp 2] fun B => ?_
  repeat' (first | refine ks ?_ | refine ko ?_ | refine s_if rfl (fun hb => ?_) (fun hb => ?_) | refine s_split rfl rfl (fun hb => ?_) (fun hb => ?_) | refine f_ret1 def_nil ?_ | refine t_tmp ?_)
  all_goals (refine congrArg Dat.lit (congrArg Value.bool ?_); simp_all [Val.valid, bytes_nil])
  all_goals (intros; omega)
theorem refClean_c (v : Val) : PCall Tryz.prog 71 [.agg v.d] (.v (.agg v.clean.d)) := by
  refine pcallN hT Tryz.func71 Tryz.ntmps71 [.cell 2 53] fun B => ?_
  repeat' (first | refine ks ?_ | refine ko ?_ | refine s_if rfl (fun hb => ?_) (fun hb => ?_) | refine s_call (refValid_c _) ?_ | refine f_ret1 def_nil ?_ | refine t_cellG ?_ | exact cfs_nil | refine cfs_cons ?_ ?_ | refine cf_d ?_)
  all_goals simp_all [Val.clean, Val.null]
def Val.ofInt (n : Int) : Val := Val.clean ⟨1, n, ⟨#[]⟩⟩
theorem refInt_c (n : Int) : PCall Tryz.prog 59 [.one (.lit (.int .i64 n))] (.v (.agg (Val.ofInt n).d)) := by
  refine pcallN hT Tryz.func59 Tryz.ntmps59 [.cell 2 53] fun B => ?_
  repeat' (first | refine ks ?_ | refine ko ?_ | refine s_call (refClean_c ⟨1, n, ⟨#[]⟩⟩) ?_ | refine f_ret1 def_nil ?_ | refine t_cellG ?_ | exact cfs_nil | refine cfs_cons ?_ ?_ | refine cf_d ?_)
  all_goals rfl
def icmp (a b : Int) : Int := if a < b then -1 else if a > b then 1 else 0
theorem isNaN_c (a : Int) : PCall Tryz.prog 155 [.one (.lit (.int .i64 a))] (.v (.one (.lit (.bool false)))) := by
  refine pcallN hT Tryz.func155 Tryz.ntmps155 [.tmp 2] fun B => ?_
  repeat' (first | refine ks ?_ | refine ko ?_ | refine f_ret1 def_nil ?_ | refine t_tmp ?_)
  all_goals simp
theorem isNaN64_c (a : Int) : PCall Tryz.prog 191 [.one (.lit (.int .i64 a))] (.v (.one (.lit (.bool false)))) := by
  refine pcallN hT Tryz.func191 Tryz.ntmps191 [.tmp 2] fun B => ?_
  repeat' (first | refine ks ?_ | refine ko ?_ | refine f_ret1 def_nil ?_ | refine t_tmp ?_)
  all_goals simp
theorem cmpInt_c (a b : Int) : PCall Tryz.prog 126 [.one (.lit (.int .i64 a)), .one (.lit (.int .i64 b))] (.v (.one (.lit (.int .i64 (icmp a b))))) := by
  refine pcallN hT Tryz.func126 Tryz.ntmps126 [.tmp 4] fun B => ?_
  repeat' (first | refine ks ?_ | refine ko ?_ | refine s_if rfl (fun hb => ?_) (fun hb => ?_) | refine s_call (isNaN_c _) ?_ | refine f_ret1 def_nil ?_ | refine t_tmp ?_)
  all_goals (refine congrArg Dat.lit (congrArg (Value.int _) ?_); simp_all [icmp])
  all_goals omega
theorem cmpInt64_c (a b : Int) : PCall Tryz.prog 153 [.one (.lit (.int .i64 a)), .one (.lit (.int .i64 b))] (.v (.one (.lit (.int .i64 (icmp a b))))) := by
  refine pcallN hT Tryz.func153 Tryz.ntmps153 [.tmp 4] fun B => ?_
  repeat' (first | refine ks ?_ | refine ko ?_ | refine s_if rfl (fun hb => ?_) (fun hb => ?_) | refine s_call (isNaN64_c _) ?_ | refine f_ret1 def_nil ?_ | refine t_tmp ?_)
  all_goals (refine congrArg Dat.lit (congrArg (Value.int _) ?_); simp_all [icmp])
  all_goals omega
end Go.Proofs.YtojfhaoleedmkaaGreat
end
section
namespace Go.Proofs.YtojfhaoleedmkaaGreat
open Go.Abs Go.RowKit
set_option linter.unusedSimpArgs false
set_option maxRecDepth 100000
set_option maxHeartbeats 1000000 in
theorem compareString_c0 (a b : ByteArray) (w : World) :
    Calls Tryz.prog 192 #[.string a, .string b] w fun e w' => e = .returned (.int .i64 (Lib.compareBytes a.data.toList b.data.toList)) ∧ w' = w := by
  go_enter Tryz.func192, Tryz.ntmps192
  go_wp2
  rw [run_callFunc_extern Tryz.func218 (by kernel_rfl) (by kernel_rfl) (by kernel_rfl) (e := Extern.BytealgCompare.compare) (by kernel_rfl), Lib.run_compareString]
  simp only [Result.andThen]
  rw [Oper.upon_value]
  go_wp2
  go_ret
  exact ⟨rfl, rfl⟩
def bcmp (a b : ByteArray) : Int := Lib.compareBytes a.toList b.toList
theorem compareString_c (a b : ByteArray) : PCall Tryz.prog 192 [.one (.lit (.string a)), .one (.lit (.string b))] (.v (.one (.lit (.int .i64 (bcmp a b))))) := by
  refine ⟨⟨_, Tryz.func192, by kernel_rfl, by kernel_rfl⟩, fun F w vs hF hl hv => ?_⟩
  match vs, hl with
  | [x, y], _ =>
    clear hl
    have h1 := (hv 0 x _ rfl rfl)
    have h2 := (hv 1 y _ rfl rfl)
    clear hv
    obtain rfl := h1.lit_inv
    obtain rfl := h2.lit_inv
    refine Calls.mono (compareString_c0 a b w) fun e w' he => ?_
    obtain ⟨rfl, rfl⟩ := he
    refine ⟨_, rfl, Bel.refl _ _, .c (.d ?_)⟩
    rw [bcmp, ByteArray.toList_eq, ByteArray.toList_eq]
    exact .lit _ rfl
attribute [local irreducible] ARun kont MCall PCall HCall resVal SF CF CFs defersOk slotsIn memIn fin finM VLe
theorem stringsCompare_c (a b : ByteArray) : PCall Tryz.prog 154 [.one (.lit (.string a)), .one (.lit (.string b))] (.v (.one (.lit (.int .i64 (bcmp a b))))) := by
  refine pcallN hT Tryz.func154 Tryz.ntmps154 [.tmp 4] fun B => ?_
  repeat' (first | refine ks ?_ | refine ko ?_ | refine s_call (compareString_c _ _) ?_ | refine f_ret1 def_nil ?_ | refine t_tmp ?_)
  all_goals rfl
theorem compareBytes_eq : ∀ (x y : List UInt8), Lib.compareBytes x y = if x == y then 0 else if Op.bytesLess x y then -1 else 1
  | [], [] => by simp [Lib.compareBytes]
  | [], _ :: _ => by simp [Lib.compareBytes, Op.bytesLess]
  | _ :: _, [] => by simp [Lib.compareBytes, Op.bytesLess]
  | a :: x, b :: y => by
    simp only [Lib.compareBytes, Op.bytesLess, compareBytes_eq x y, List.cons_beq_cons, beq_iff_eq]
    by_cases h : a < b
    · have : ¬ a = b := fun e => by subst e; exact absurd h (UInt8.lt_irrefl a)
      simp [h, this]
    · by_cases h2 : b < a
      · have : ¬ a = b := fun e => by subst e; exact absurd h2 (UInt8.lt_irrefl a)
        simp [h, h2, this]
      · have : a = b := UInt8.le_antisymm (UInt8.not_lt.1 h2) (UInt8.not_lt.1 h)
        subst this
        simp [h]
def Val.same (a b : Val) : Bool := (a.kind == b.kind) && ((a.int == b.int) && (a.text.toList == b.text.toList))
def Val.less (a b : Val) : Bool := decide (a.kind < b.kind) || ((a.kind == b.kind) && (decide (a.int < b.int) || Op.bytesLess a.text.toList b.text.toList))
def Val.cmp (a b : Val) : Int := if a.clean.same b.clean then 0 else if a.clean.less b.clean then -1 else 1
theorem clean_valid (v : Val) : v.clean.valid = true := by
  unfold Val.clean
  split
  · assumption
  · simp [Val.null, Val.valid]
theorem valid_text {v : Val} (h : v.valid = true) (hk : v.kind ≠ 2) : v.text.toList = [] := by
  unfold Val.valid at h
  split at h
  · simp at h; exact h.2
  · split at h
    · simp at h; exact h.2
    · simp [hk] at h
theorem valid_int {v : Val} (h : v.valid = true) (hk : v.kind ≠ 1) : v.int = 0 := by
  unfold Val.valid at h
  rw [if_neg hk] at h
  split at h
  · simp at h; exact h.1
  · split at h
    · simp at h; exact h.1
    · simp at h
theorem icmp_kind {x y : Val} (h : ¬ x.kind = y.kind) : icmp x.kind y.kind = if x.same y = true then 0 else if x.less y = true then -1 else 1 := by
  simp only [icmp, Val.same, Val.less, beq_false_of_ne h, Bool.false_and, Bool.or_false, decide_eq_true_eq, Bool.false_eq_true, if_false]
  split
  · rfl
  · rw [if_pos (by omega)]
theorem icmp_int {x y : Val} (hx : x.valid = true) (hy : y.valid = true) (hk : x.kind = 1) (h : x.kind = y.kind) : icmp x.int y.int = if x.same y = true then 0 else if x.less y = true then -1 else 1 := by
  simp only [icmp, Val.same, Val.less, valid_text hx (by omega), valid_text hy (by omega), h]
  simp [Op.bytesLess]
  by_cases h1 : x.int < y.int
  · simp [h1, show ¬ x.int = y.int by omega]
  · by_cases h2 : y.int < x.int
    · simp [h1, h2, show ¬ x.int = y.int by omega]
    · simp [h1, h2, show x.int = y.int by omega]
theorem icmp_text {x y : Val} (hx : x.valid = true) (hy : y.valid = true) (hk : x.kind = 2) (h : x.kind = y.kind) : bcmp x.text y.text = if x.same y = true then 0 else if x.less y = true then -1 else 1 := by
  simp only [bcmp, Val.same, Val.less, valid_int hx (by omega), valid_int hy (by omega), h, compareBytes_eq]
  simp
theorem icmp_null {x y : Val} (hx : x.valid = true) (hy : y.valid = true) (h1 : ¬ x.kind = 1) (h2 : ¬ x.kind = 2) (h : x.kind = y.kind) : (0 : Int) = if x.same y = true then 0 else if x.less y = true then -1 else 1 := by
  have : x.same y = true := by
    simp only [Val.same, valid_text hx (by omega), valid_text hy (by omega), valid_int hx (by omega), valid_int hy (by omega), h]
    simp
  rw [if_pos this]
theorem refCompare_c (a b : Val) : PCall Tryz.prog 34 [.agg a.d, .agg b.d] (.v (.one (.lit (.int .i64 (a.cmp b))))) := by
  refine pcallN hT Tryz.func34 Tryz.ntmps34 [.tmp 4] fun B => ?_
  repeat' (first | refine ks ?_ | refine ko ?_ | refine s_if rfl (fun hb => ?_) (fun hb => ?_) | refine s_call (refClean_c _) ?_ | refine s_split rfl rfl (fun hb => ?_) (fun hb => ?_) | refine f_ret1 def_nil ?_ | refine t_tmp ?_)
  all_goals (refine congrArg Dat.lit (congrArg (Value.int _) ?_))
  all_goals unfold Val.cmp
  all_goals (generalize a.clean = x at *; generalize b.clean = y at *)
  all_goals simp_all [Val.cmp, Val.same, Val.less, litsEq, litEq]
  · rw [if_neg (by rintro ⟨h1, h2⟩; exact absurd h2 (by simp_all)), if_neg (by omega)]
theorem compare_c (a b : Val) : PCall Tryz.prog 125 [.agg a.d, .agg b.d] (.v (.one (.lit (.int .i64 (a.cmp b))))) := by
  refine pcallN hT Tryz.func125 Tryz.ntmps125 [.tmp 4] fun B => ?_
  repeat' (first | refine ks ?_ | refine ko ?_ | refine s_if rfl (fun hb => ?_) (fun hb => ?_) | refine s_call (clean_c _) ?_ | refine s_call (cmpInt_c _ _) ?_ | refine s_call (cmpInt64_c _ _) ?_ | refine s_call (stringsCompare_c _ _) ?_ | refine f_ret1 def_nil ?_ | refine t_tmp ?_)
  all_goals (refine congrArg Dat.lit (congrArg (Value.int _) ?_))
  all_goals unfold Val.cmp
  all_goals (have hx := clean_valid a; have hy := clean_valid b; generalize a.clean = x at *; generalize b.clean = y at *)
  · exact icmp_kind (by simpa using hb)
  · exact icmp_int hx hy (by simp_all) (by simp_all)
  · exact icmp_text hx hy (by simp_all) (by simp_all)
  · exact icmp_null hx hy (by simp_all) (by simp_all) (by simp_all)
end Go.Proofs.YtojfhaoleedmkaaGreat
end
end
