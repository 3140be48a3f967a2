/-
  How values and rows are compared.
-/
import Derived.Test.YtmpgmjlanngkfaaGreatArc
import Derived.Test.YtmpgmjlanngkfaaGreatProg
import Derived.Lib.Strings
import Derived.Lib.Slices
import Derived.Lib.Walk
import Derived.Lib.Bytealg
section
namespace Go.Proofs.YtmpgmjlanngkfaaGreat
open Go.Abs
def ti2 : TI := { size := 1, bytes := 8, zero := [.int .i64 0], desc := .int .i64 }
def ti3 : TI := { size := 1, bytes := 8, zero := [.int .i64 0], desc := .int .i64 }
def ti4 : TI := { size := 1, bytes := 1, zero := [.bool false], desc := .bool }
def ti5 : TI := { size := 1, bytes := 1, zero := [.int .u8 0], desc := .int .u8 }
def ti9 : TI := { size := 1, bytes := 16, zero := [.string ⟨#[]⟩], desc := .str }
def ti22 : TI := { size := 1, bytes := 24, zero := [.slice none 0 0], desc := .slice 3 }
def ti25 : TI := { size := 1, bytes := 24, zero := [.slice none 0 0], desc := .slice 66 }
def ti26 : TI := { size := 1, bytes := 24, zero := [.slice none 0 0], desc := .slice 109 }
def ti27 : TI := { size := 1, bytes := 24, zero := [.slice none 0 0], desc := .slice 86 }
def ti28 : TI := { size := 1, bytes := 24, zero := [.slice none 0 0], desc := .slice 49 }
def ti30 : TI := { size := 9, bytes := 160, zero := [.string ⟨#[]⟩, .int .i64 0, .string ⟨#[]⟩, .string ⟨#[]⟩, .slice none 0 0, .slice none 0 0, .slice none 0 0, .bool false, .slice none 0 0], desc := .struct [(0, 9), (1, 3), (2, 9), (3, 9), (4, 25), (5, 26), (6, 27), (7, 4), (8, 28)] }
def ti32 : TI := { size := 1, bytes := 24, zero := [.slice none 0 0], desc := .slice 56 }
def ti49 : TI := { size := 3, bytes := 48, zero := [.string ⟨#[]⟩, .int .i64 0, .slice none 0 0], desc := .struct [(0, 9), (1, 3), (2, 26)] }
def ti51 : TI := { size := 1, bytes := 24, zero := [.slice none 0 0], desc := .slice 54 }
def ti54 : TI := { size := 1, bytes := 24, zero := [.slice none 0 0], desc := .slice 73 }
def ti56 : TI := { size := 2, bytes := 32, zero := [.slice none 0 0, .int .i64 0], desc := .struct [(0, 54), (1, 2)] }
def ti58 : TI := { size := 1, bytes := 24, zero := [.slice none 0 0], desc := .slice 100 }
def ti64 : TI := { size := 2, bytes := 32, zero := [.slice none 0 0, .int .i64 0], desc := .struct [(0, 22), (1, 3)] }
def ti66 : TI := { size := 2, bytes := 16, zero := [.int .i64 0, .int .i64 0], desc := .array 2 3 }
def ti71 : TI := { size := 1, bytes := 24, zero := [.slice none 0 0], desc := .slice 2 }
def ti73 : TI := { size := 3, bytes := 32, zero := [.int .i64 0, .int .i64 0, .string ⟨#[]⟩], desc := .struct [(0, 3), (1, 2), (2, 9)], eqs := true }
def ti86 : TI := { size := 2, bytes := 40, zero := [.string ⟨#[]⟩, .slice none 0 0], desc := .struct [(0, 9), (1, 26)] }
def ti95 : TI := { size := 1, bytes := 24, zero := [.slice none 0 0], desc := .slice 98 }
def ti98 : TI := { size := 2, bytes := 48, zero := [.slice none 0 0, .slice none 0 0], desc := .struct [(0, 54), (1, 32)] }
def ti100 : TI := { size := 4, bytes := 80, zero := [.slice none 0 0, .int .i64 0, .slice none 0 0, .slice none 0 0], desc := .struct [(0, 54), (1, 2), (2, 71), (3, 71)] }
def ti106 : TI := { size := 1, bytes := 8, zero := [.int .u64 0], desc := .int .u64 }
def ti109 : TI := { size := 5, bytes := 48, zero := [.int .i64 0, .int .i64 0, .int .i64 0, .string ⟨#[]⟩, .int .i64 0], desc := .struct [(0, 3), (1, 73), (4, 3)] }
def ti113 : TI := { size := 1, bytes := 24, zero := [.slice none 0 0], desc := .slice 9 }
def ti116 : TI := { size := 1, bytes := 24, zero := [.slice none 0 0], desc := .slice 26 }
def ti125 : TI := { size := 1, bytes := 24, zero := [.slice none 0 0], desc := .slice 5 }
def ti137 : TI := { size := 1, bytes := 8, zero := [.map none], desc := .plain }
def ti145 : TI := { size := 1, bytes := 24, zero := [.slice none 0 0], desc := .slice 186 }
def ti161 : TI := { size := 2, bytes := 48, zero := [.slice none 0 0, .slice none 0 0], desc := .array 2 32 }
def ti162 : TI := { size := 1, bytes := 24, zero := [.slice none 0 0], desc := .slice 161 }
def ti165 : TI := { size := 9, bytes := 96, zero := [.int .i64 0, .int .i64 0, .string ⟨#[]⟩, .int .i64 0, .int .i64 0, .string ⟨#[]⟩, .int .i64 0, .int .i64 0, .string ⟨#[]⟩], desc := .array 3 73 }
def ti186 : TI := { size := 4, bytes := 40, zero := [.int .i64 0, .int .i64 0, .string ⟨#[]⟩, .int .i64 0], desc := .struct [(0, 73), (3, 2)] }
def ti195 : TI := { size := 1, bytes := 8, zero := [.map none], desc := .plain }
def ti198 : TI := { size := 1, bytes := 24, zero := [.slice none 0 0], desc := .slice 200 }
def ti200 : TI := { size := 2, bytes := 24, zero := [.string ⟨#[]⟩, .int .i64 0], desc := .struct [(0, 9), (1, 2)], eqs := true }
def ti202 : TI := { size := 1, bytes := 8, zero := [.map none], desc := .plain }
def ti203 : TI := { size := 1, bytes := 24, zero := [.slice none 0 0], desc := .slice 232 }
def ti204 : TI := { size := 3, bytes := 56, zero := [.slice none 0 0, .map none, .slice none 0 0], desc := .struct [(0, 203), (1, 202), (2, 198)] }
def ti205 : TI := { size := 3, bytes := 56, zero := [.slice none 0 0, .map none, .slice none 0 0], desc := .struct [(0, 203), (1, 202), (2, 198)] }
def ti232 : TI := { size := 2, bytes := 40, zero := [.string ⟨#[]⟩, .slice none 0 0], desc := .struct [(0, 9), (1, 113)] }
def tbl : TTree := (.node (.node (.node (.node (.node (.node .nil 2 ti2 .nil) 3 ti3 .nil) 4 ti4 (.node (.node .nil 5 ti5 .nil) 9 ti9 .nil)) 22 ti22 (.node (.node (.node .nil 25 ti25 .nil) 26 ti26 .nil) 27 ti27 (.node (.node .nil 28 ti28 .nil) 30 ti30 .nil))) 32 ti32 (.node (.node (.node (.node .nil 49 ti49 .nil) 51 ti51 .nil) 54 ti54 (.node (.node .nil 56 ti56 .nil) 58 ti58 .nil)) 64 ti64 (.node (.node (.node .nil 66 ti66 .nil) 71 ti71 .nil) 73 ti73 (.node .nil 86 ti86 .nil)))) 95 ti95 (.node (.node (.node (.node (.node .nil 98 ti98 .nil) 100 ti100 .nil) 106 ti106 (.node (.node .nil 109 ti109 .nil) 113 ti113 .nil)) 116 ti116 (.node (.node (.node .nil 125 ti125 .nil) 137 ti137 .nil) 145 ti145 (.node .nil 161 ti161 .nil))) 162 ti162 (.node (.node (.node (.node .nil 165 ti165 .nil) 186 ti186 .nil) 195 ti195 (.node (.node .nil 198 ti198 .nil) 200 ti200 .nil)) 202 ti202 (.node (.node (.node .nil 203 ti203 .nil) 204 ti204 .nil) 205 ti205 (.node .nil 232 ti232 .nil)))))
def T : TypeId → Option TI := tyFind tbl
theorem tok2 : TOk Tryz.prog 2 ti2 := mkT (.int .i64 0) (by kernel_rfl) rfl rfl (show Tryz.prog.underlying 2 = some (.int .i64) by kernel_rfl) (fun h => by cases h)
theorem tok3 : TOk Tryz.prog 3 ti3 := mkT (.int .i64 0) (by kernel_rfl) rfl rfl (show Tryz.prog.underlying 3 = some (.int .i64) by kernel_rfl) (fun h => by cases h)
theorem tok4 : TOk Tryz.prog 4 ti4 := mkT (.bool false) (by kernel_rfl) rfl rfl (show Tryz.prog.underlying 4 = some (.bool) by kernel_rfl) (fun h => by cases h)
theorem tok5 : TOk Tryz.prog 5 ti5 := mkT (.int .u8 0) (by kernel_rfl) rfl rfl (show Tryz.prog.underlying 5 = some (.int .u8) by kernel_rfl) (fun h => by cases h)
theorem tok9 : TOk Tryz.prog 9 ti9 := mkT (.string ⟨#[]⟩) (by kernel_rfl) rfl rfl (show Tryz.prog.underlying 9 = some (.string) by kernel_rfl) (fun h => by cases h)
theorem tok22 : TOk Tryz.prog 22 ti22 := mkT (.slice none 0 0) (by kernel_rfl) rfl rfl (show Tryz.prog.underlying 22 = some (.slice 3) by kernel_rfl) (fun h => by cases h)
theorem tok25 : TOk Tryz.prog 25 ti25 := mkT (.slice none 0 0) (by kernel_rfl) rfl rfl (show Tryz.prog.underlying 25 = some (.slice 66) by kernel_rfl) (fun h => by cases h)
theorem tok26 : TOk Tryz.prog 26 ti26 := mkT (.slice none 0 0) (by kernel_rfl) rfl rfl (show Tryz.prog.underlying 26 = some (.slice 109) by kernel_rfl) (fun h => by cases h)
theorem tok27 : TOk Tryz.prog 27 ti27 := mkT (.slice none 0 0) (by kernel_rfl) rfl rfl (show Tryz.prog.underlying 27 = some (.slice 86) by kernel_rfl) (fun h => by cases h)
theorem tok28 : TOk Tryz.prog 28 ti28 := mkT (.slice none 0 0) (by kernel_rfl) rfl rfl (show Tryz.prog.underlying 28 = some (.slice 49) by kernel_rfl) (fun h => by cases h)
theorem tok30 : TOk Tryz.prog 30 ti30 := mkT (.agg #[.string ⟨#[]⟩, .int .i64 0, .string ⟨#[]⟩, .string ⟨#[]⟩, .slice none 0 0, .slice none 0 0, .slice none 0 0, .bool false, .slice none 0 0]) (by kernel_rfl) rfl rfl (show (Tryz.prog.underlying 30).map structFs = some (some [(0, 9), (1, 3), (2, 9), (3, 9), (4, 25), (5, 26), (6, 27), (7, 4), (8, 28)]) by kernel_rfl) (fun h => by cases h)
theorem tok32 : TOk Tryz.prog 32 ti32 := mkT (.slice none 0 0) (by kernel_rfl) rfl rfl (show Tryz.prog.underlying 32 = some (.slice 56) by kernel_rfl) (fun h => by cases h)
theorem tok49 : TOk Tryz.prog 49 ti49 := mkT (.agg #[.string ⟨#[]⟩, .int .i64 0, .slice none 0 0]) (by kernel_rfl) rfl rfl (show (Tryz.prog.underlying 49).map structFs = some (some [(0, 9), (1, 3), (2, 26)]) by kernel_rfl) (fun h => by cases h)
theorem tok51 : TOk Tryz.prog 51 ti51 := mkT (.slice none 0 0) (by kernel_rfl) rfl rfl (show Tryz.prog.underlying 51 = some (.slice 54) by kernel_rfl) (fun h => by cases h)
theorem tok54 : TOk Tryz.prog 54 ti54 := mkT (.slice none 0 0) (by kernel_rfl) rfl rfl (show Tryz.prog.underlying 54 = some (.slice 73) by kernel_rfl) (fun h => by cases h)
theorem tok56 : TOk Tryz.prog 56 ti56 := mkT (.agg #[.slice none 0 0, .int .i64 0]) (by kernel_rfl) rfl rfl (show (Tryz.prog.underlying 56).map structFs = some (some [(0, 54), (1, 2)]) by kernel_rfl) (fun h => by cases h)
theorem tok58 : TOk Tryz.prog 58 ti58 := mkT (.slice none 0 0) (by kernel_rfl) rfl rfl (show Tryz.prog.underlying 58 = some (.slice 100) by kernel_rfl) (fun h => by cases h)
theorem tok64 : TOk Tryz.prog 64 ti64 := mkT (.agg #[.slice none 0 0, .int .i64 0]) (by kernel_rfl) rfl rfl (show (Tryz.prog.underlying 64).map structFs = some (some [(0, 22), (1, 3)]) by kernel_rfl) (fun h => by cases h)
theorem tok66 : TOk Tryz.prog 66 ti66 := mkT (.agg #[.int .i64 0, .int .i64 0]) (by kernel_rfl) rfl rfl (show Tryz.prog.underlying 66 = some (.array 2 3) by kernel_rfl) (fun h => by cases h)
theorem tok71 : TOk Tryz.prog 71 ti71 := mkT (.slice none 0 0) (by kernel_rfl) rfl rfl (show Tryz.prog.underlying 71 = some (.slice 2) by kernel_rfl) (fun h => by cases h)
theorem tok73 : TOk Tryz.prog 73 ti73 := mkT (.agg #[.int .i64 0, .int .i64 0, .string ⟨#[]⟩]) (by kernel_rfl) rfl rfl (show (Tryz.prog.underlying 73).map structFs = some (some [(0, 3), (1, 2), (2, 9)]) by kernel_rfl) (fun _ => eqOk (by kernel_rfl) (by kernel_rfl) (by kernel_rfl) (by kernel_rfl))
theorem tok86 : TOk Tryz.prog 86 ti86 := mkT (.agg #[.string ⟨#[]⟩, .slice none 0 0]) (by kernel_rfl) rfl rfl (show (Tryz.prog.underlying 86).map structFs = some (some [(0, 9), (1, 26)]) by kernel_rfl) (fun h => by cases h)
theorem tok95 : TOk Tryz.prog 95 ti95 := mkT (.slice none 0 0) (by kernel_rfl) rfl rfl (show Tryz.prog.underlying 95 = some (.slice 98) by kernel_rfl) (fun h => by cases h)
theorem tok98 : TOk Tryz.prog 98 ti98 := mkT (.agg #[.slice none 0 0, .slice none 0 0]) (by kernel_rfl) rfl rfl (show (Tryz.prog.underlying 98).map structFs = some (some [(0, 54), (1, 32)]) by kernel_rfl) (fun h => by cases h)
theorem tok100 : TOk Tryz.prog 100 ti100 := mkT (.agg #[.slice none 0 0, .int .i64 0, .slice none 0 0, .slice none 0 0]) (by kernel_rfl) rfl rfl (show (Tryz.prog.underlying 100).map structFs = some (some [(0, 54), (1, 2), (2, 71), (3, 71)]) by kernel_rfl) (fun h => by cases h)
theorem tok106 : TOk Tryz.prog 106 ti106 := mkT (.int .u64 0) (by kernel_rfl) rfl rfl (show Tryz.prog.underlying 106 = some (.int .u64) by kernel_rfl) (fun h => by cases h)
theorem tok109 : TOk Tryz.prog 109 ti109 := mkT (.agg #[.int .i64 0, .int .i64 0, .int .i64 0, .string ⟨#[]⟩, .int .i64 0]) (by kernel_rfl) rfl rfl (show (Tryz.prog.underlying 109).map structFs = some (some [(0, 3), (1, 73), (4, 3)]) by kernel_rfl) (fun h => by cases h)
theorem tok113 : TOk Tryz.prog 113 ti113 := mkT (.slice none 0 0) (by kernel_rfl) rfl rfl (show Tryz.prog.underlying 113 = some (.slice 9) by kernel_rfl) (fun h => by cases h)
theorem tok116 : TOk Tryz.prog 116 ti116 := mkT (.slice none 0 0) (by kernel_rfl) rfl rfl (show Tryz.prog.underlying 116 = some (.slice 26) by kernel_rfl) (fun h => by cases h)
theorem tok125 : TOk Tryz.prog 125 ti125 := mkT (.slice none 0 0) (by kernel_rfl) rfl rfl (show Tryz.prog.underlying 125 = some (.slice 5) by kernel_rfl) (fun h => by cases h)
theorem tok137 : TOk Tryz.prog 137 ti137 := mkT (.map none) (by kernel_rfl) rfl rfl (show (Tryz.prog.underlying 137).map plainB = some true by kernel_rfl) (fun h => by cases h)
theorem tok145 : TOk Tryz.prog 145 ti145 := mkT (.slice none 0 0) (by kernel_rfl) rfl rfl (show Tryz.prog.underlying 145 = some (.slice 186) by kernel_rfl) (fun h => by cases h)
theorem tok161 : TOk Tryz.prog 161 ti161 := mkT (.agg #[.slice none 0 0, .slice none 0 0]) (by kernel_rfl) rfl rfl (show Tryz.prog.underlying 161 = some (.array 2 32) by kernel_rfl) (fun h => by cases h)
theorem tok162 : TOk Tryz.prog 162 ti162 := mkT (.slice none 0 0) (by kernel_rfl) rfl rfl (show Tryz.prog.underlying 162 = some (.slice 161) by kernel_rfl) (fun h => by cases h)
theorem tok165 : TOk Tryz.prog 165 ti165 := mkT (.agg #[.int .i64 0, .int .i64 0, .string ⟨#[]⟩, .int .i64 0, .int .i64 0, .string ⟨#[]⟩, .int .i64 0, .int .i64 0, .string ⟨#[]⟩]) (by kernel_rfl) rfl rfl (show Tryz.prog.underlying 165 = some (.array 3 73) by kernel_rfl) (fun h => by cases h)
theorem tok186 : TOk Tryz.prog 186 ti186 := mkT (.agg #[.int .i64 0, .int .i64 0, .string ⟨#[]⟩, .int .i64 0]) (by kernel_rfl) rfl rfl (show (Tryz.prog.underlying 186).map structFs = some (some [(0, 73), (3, 2)]) by kernel_rfl) (fun h => by cases h)
theorem tok195 : TOk Tryz.prog 195 ti195 := mkT (.map none) (by kernel_rfl) rfl rfl (show (Tryz.prog.underlying 195).map plainB = some true by kernel_rfl) (fun h => by cases h)
theorem tok198 : TOk Tryz.prog 198 ti198 := mkT (.slice none 0 0) (by kernel_rfl) rfl rfl (show Tryz.prog.underlying 198 = some (.slice 200) by kernel_rfl) (fun h => by cases h)
theorem tok200 : TOk Tryz.prog 200 ti200 := mkT (.agg #[.string ⟨#[]⟩, .int .i64 0]) (by kernel_rfl) rfl rfl (show (Tryz.prog.underlying 200).map structFs = some (some [(0, 9), (1, 2)]) by kernel_rfl) (fun _ => eqOk (by kernel_rfl) (by kernel_rfl) (by kernel_rfl) (by kernel_rfl))
theorem tok202 : TOk Tryz.prog 202 ti202 := mkT (.map none) (by kernel_rfl) rfl rfl (show (Tryz.prog.underlying 202).map plainB = some true by kernel_rfl) (fun h => by cases h)
theorem tok203 : TOk Tryz.prog 203 ti203 := mkT (.slice none 0 0) (by kernel_rfl) rfl rfl (show Tryz.prog.underlying 203 = some (.slice 232) by kernel_rfl) (fun h => by cases h)
theorem tok204 : TOk Tryz.prog 204 ti204 := mkT (.agg #[.slice none 0 0, .map none, .slice none 0 0]) (by kernel_rfl) rfl rfl (show (Tryz.prog.underlying 204).map structFs = some (some [(0, 203), (1, 202), (2, 198)]) by kernel_rfl) (fun h => by cases h)
theorem tok205 : TOk Tryz.prog 205 ti205 := mkT (.agg #[.slice none 0 0, .map none, .slice none 0 0]) (by kernel_rfl) rfl rfl (show (Tryz.prog.underlying 205).map structFs = some (some [(0, 203), (1, 202), (2, 198)]) by kernel_rfl) (fun h => by cases h)
theorem tok232 : TOk Tryz.prog 232 ti232 := mkT (.agg #[.string ⟨#[]⟩, .slice none 0 0]) (by kernel_rfl) rfl rfl (show (Tryz.prog.underlying 232).map structFs = some (some [(0, 9), (1, 113)]) by kernel_rfl) (fun h => by cases h)
theorem hT : TypesOk Tryz.prog T := typesOk (show tyAll Tryz.prog tbl from ⟨⟨⟨⟨⟨⟨trivial, tok2, trivial⟩, tok3, trivial⟩, tok4, ⟨⟨trivial, tok5, trivial⟩, tok9, trivial⟩⟩, tok22, ⟨⟨⟨trivial, tok25, trivial⟩, tok26, trivial⟩, tok27, ⟨⟨trivial, tok28, trivial⟩, tok30, trivial⟩⟩⟩, tok32, ⟨⟨⟨⟨trivial, tok49, trivial⟩, tok51, trivial⟩, tok54, ⟨⟨trivial, tok56, trivial⟩, tok58, trivial⟩⟩, tok64, ⟨⟨⟨trivial, tok66, trivial⟩, tok71, trivial⟩, tok73, ⟨trivial, tok86, trivial⟩⟩⟩⟩, tok95, ⟨⟨⟨⟨⟨trivial, tok98, trivial⟩, tok100, trivial⟩, tok106, ⟨⟨trivial, tok109, trivial⟩, tok113, trivial⟩⟩, tok116, ⟨⟨⟨trivial, tok125, trivial⟩, tok137, trivial⟩, tok145, ⟨trivial, tok161, trivial⟩⟩⟩, tok162, ⟨⟨⟨⟨trivial, tok165, trivial⟩, tok186, trivial⟩, tok195, ⟨⟨trivial, tok198, trivial⟩, tok200, trivial⟩⟩, tok202, ⟨⟨⟨trivial, tok203, trivial⟩, tok204, trivial⟩, tok205, ⟨trivial, tok232, trivial⟩⟩⟩⟩⟩)
theorem hmix : Tryz.prog.follows .mixedOrders = true := by kernel_rfl
instance tcI : TC Tryz.prog T := ⟨hT, hmix⟩
instance mt137 : MapTy Tryz.prog 137 9 3 := ⟨by kernel_rfl⟩
instance ko9 : KeyOk Tryz.prog 9 IsStr := keyStr (by kernel_rfl)
instance zv3 : ZeroV Tryz.prog 3 (.one (.lit (.int .i64 0))) := zeroV_lit (by kernel_rfl) rfl
instance mt195 : MapTy Tryz.prog 195 9 198 := ⟨by kernel_rfl⟩
instance zv198 : ZeroV Tryz.prog 198 (.one (.sl [])) := zeroV_nil (by kernel_rfl)
instance mt202 : MapTy Tryz.prog 202 9 2 := ⟨by kernel_rfl⟩
instance zv2 : ZeroV Tryz.prog 2 (.one (.lit (.int .i64 0))) := zeroV_lit (by kernel_rfl) rfl
end Go.Proofs.YtmpgmjlanngkfaaGreat
end
section
namespace Go.Proofs.YtmpgmjlanngkfaaGreat
open Go.Abs Go.RowKit
attribute [local irreducible] ARun kont MCall PCall HCall resVal SF CF CFs defersOk slotsIn memIn fin finM VLe
set_option linter.unusedSimpArgs false
set_option maxRecDepth 100000
structure Val where
  kind : Int
  int : Int
  text : ByteArray
def Val.d (v : Val) : List Dat := [.lit (.int .i64 v.kind), .lit (.int .i64 v.int), .lit (.string v.text)]
def Val.valid (v : Val) : Bool :=
  if v.kind = 0 then decide (v.int = 0) && v.text.toList.isEmpty
  else if v.kind = 1 then decide (-4294967296 ≤ v.int) && decide (v.int ≤ 4294967296) && v.text.toList.isEmpty
  else if v.kind = 2 then decide (v.int = 0) && decide (v.text.size ≤ 32)
  else false
theorem bytes_nil (s : ByteArray) : (s.toList == ({ data := #[] } : ByteArray).toList) = s.toList.isEmpty := by
  have : ({ data := #[] } : ByteArray).toList = [] := by rw [ByteArray.toList_eq]
  rw [this]
  cases s.toList <;> rfl
theorem valid_c (v : Val) : PCall Tryz.prog 179 [.agg v.d] (.v (.one (.lit (.bool v.valid)))) := by
  refine pcallN hT Tryz.func179 Tryz.ntmps179 [.tmp 2] fun B => ?_
  repeat' (first | refine ks ?_ | refine ko ?_ | refine s_if rfl (fun hb => ?_) (fun hb => ?_) | refine s_split rfl rfl (fun hb => ?_) (fun hb => ?_) | refine kf ?_ | fail)
  all_goals (refine congrArg Dat.lit (congrArg Value.bool ?_); simp_all [Val.valid, bytes_nil])
  all_goals (intros; omega)
def Val.null : Val := ⟨0, 0, ⟨#[]⟩⟩
def Val.clean (v : Val) : Val := if v.valid then v else Val.null
theorem clean_c (v : Val) : PCall Tryz.prog 172 [.agg v.d] (.v (.agg v.clean.d)) := by
  refine pcallN hT Tryz.func172 Tryz.ntmps172 [.cell 2 73] fun B => ?_
  repeat' (first | refine ks ?_ | refine ko ?_ | refine s_if rfl (fun hb => ?_) (fun hb => ?_) | refine s_call (valid_c _) ?_ | refine kf ?_ | exact k0 | refine kg ?_ ?_ | fail)
  all_goals simp_all [Val.clean, Val.null]
theorem refValid_c (v : Val) : PCall Tryz.prog 130 [.agg v.d] (.v (.one (.lit (.bool v.valid)))) := by
  refine pcallN hT Tryz.func130 Tryz.ntmps130 [.tmp 2] fun B => ?_
  repeat' (first | refine ks ?_ | refine ko ?_ | refine s_if rfl (fun hb => ?_) (fun hb => ?_) | refine s_split rfl rfl (fun hb => ?_) (fun hb => ?_) | refine kf ?_ | fail)
  all_goals (refine congrArg Dat.lit (congrArg Value.bool ?_); simp_all [Val.valid, bytes_nil])
  all_goals (intros; omega)
theorem refClean_c (v : Val) : PCall Tryz.prog 140 [.agg v.d] (.v (.agg v.clean.d)) := by
  refine pcallN hT Tryz.func140 Tryz.ntmps140 [.cell 2 73] fun B => ?_
  repeat' (first | refine ks ?_ | refine ko ?_ | refine s_if rfl (fun hb => ?_) (fun hb => ?_) | refine s_call (refValid_c _) ?_ | refine kf ?_ | exact k0 | refine kg ?_ ?_ | fail)
  all_goals simp_all [Val.clean, Val.null]
def Val.ofInt (n : Int) : Val := Val.clean ⟨1, n, ⟨#[]⟩⟩
theorem refInt_c (n : Int) : PCall Tryz.prog 86 [.one (.lit (.int .i64 n))] (.v (.agg (Val.ofInt n).d)) := by
  refine pcallN hT Tryz.func86 Tryz.ntmps86 [.cell 2 73] fun B => ?_
  repeat' (first | refine ks ?_ | refine ko ?_ | refine s_call (refClean_c ⟨1, n, ⟨#[]⟩⟩) ?_ | refine kf ?_ | exact k0 | refine kg ?_ ?_ | fail)
  all_goals rfl
def icmp (a b : Int) : Int := if a < b then -1 else if a > b then 1 else 0
theorem isNaN_c (a : Int) : PCall Tryz.prog 175 [.one (.lit (.int .i64 a))] (.v (.one (.lit (.bool false)))) := by
  refine pcallN hT Tryz.func175 Tryz.ntmps175 [.tmp 2] fun B => ?_
  repeat' (first | refine ks ?_ | refine ko ?_ | refine kf ?_ | fail)
  all_goals simp
theorem isNaN64_c (a : Int) : PCall Tryz.prog 215 [.one (.lit (.int .i64 a))] (.v (.one (.lit (.bool false)))) := by
  refine pcallN hT Tryz.func215 Tryz.ntmps215 [.tmp 2] fun B => ?_
  repeat' (first | refine ks ?_ | refine ko ?_ | refine kf ?_ | fail)
  all_goals simp
theorem cmpInt_c (a b : Int) : PCall Tryz.prog 112 [.one (.lit (.int .i64 a)), .one (.lit (.int .i64 b))] (.v (.one (.lit (.int .i64 (icmp a b))))) := by
  refine pcallN hT Tryz.func112 Tryz.ntmps112 [.tmp 4] fun B => ?_
  repeat' (first | refine ks ?_ | refine ko ?_ | refine s_if rfl (fun hb => ?_) (fun hb => ?_) | refine s_call (isNaN_c _) ?_ | refine kf ?_ | fail)
  all_goals (refine congrArg Dat.lit (congrArg (Value.int _) ?_); simp_all [icmp])
  all_goals omega
theorem cmpInt64_c (a b : Int) : PCall Tryz.prog 173 [.one (.lit (.int .i64 a)), .one (.lit (.int .i64 b))] (.v (.one (.lit (.int .i64 (icmp a b))))) := by
  refine pcallN hT Tryz.func173 Tryz.ntmps173 [.tmp 4] fun B => ?_
  repeat' (first | refine ks ?_ | refine ko ?_ | refine s_if rfl (fun hb => ?_) (fun hb => ?_) | refine s_call (isNaN64_c _) ?_ | refine kf ?_ | fail)
  all_goals (refine congrArg Dat.lit (congrArg (Value.int _) ?_); simp_all [icmp])
  all_goals omega
end Go.Proofs.YtmpgmjlanngkfaaGreat
end
section
namespace Go.Proofs.YtmpgmjlanngkfaaGreat
open Go.Abs Go.RowKit
set_option linter.unusedSimpArgs false
set_option maxRecDepth 100000
set_option maxHeartbeats 1000000 in
theorem compareString_c0 (a b : ByteArray) (w : World) :
    Calls Tryz.prog 216 #[.string a, .string b] w fun e w' => e = .returned (.int .i64 (Lib.compareBytes a.data.toList b.data.toList)) ∧ w' = w := by
  go_enter Tryz.func216, Tryz.ntmps216
  go_wp2
  rw [run_callFunc_extern Tryz.func244 (by kernel_rfl) (by kernel_rfl) (by kernel_rfl) (e := Extern.BytealgCompare.compare) (by kernel_rfl), Lib.run_compareString]
  simp only [Result.andThen]
  rw [Oper.upon_value]
  go_wp2
  go_ret
  exact ⟨rfl, rfl⟩
def bcmp (a b : ByteArray) : Int := Lib.compareBytes a.toList b.toList
theorem compareString_c (a b : ByteArray) : PCall Tryz.prog 216 [.one (.lit (.string a)), .one (.lit (.string b))] (.v (.one (.lit (.int .i64 (bcmp a b))))) := by
  refine ⟨⟨_, Tryz.func216, by kernel_rfl, by kernel_rfl⟩, fun F w vs hF hl hv => ?_⟩
  match vs, hl with
  | [x, y], _ =>
    clear hl
    have h1 := (hv 0 x _ rfl rfl)
    have h2 := (hv 1 y _ rfl rfl)
    clear hv
    obtain rfl := h1.lit_inv
    obtain rfl := h2.lit_inv
    refine Calls.mono (compareString_c0 a b w) fun e w' he => ?_
    obtain ⟨rfl, rfl⟩ := he
    refine ⟨_, rfl, Bel.refl _ _, .c (.d ?_)⟩
    rw [bcmp, ByteArray.toList_eq, ByteArray.toList_eq]
    exact .lit _ rfl
attribute [local irreducible] ARun kont MCall PCall HCall resVal SF CF CFs defersOk slotsIn memIn fin finM VLe
theorem stringsCompare_c (a b : ByteArray) : PCall Tryz.prog 174 [.one (.lit (.string a)), .one (.lit (.string b))] (.v (.one (.lit (.int .i64 (bcmp a b))))) := by
  refine pcallN hT Tryz.func174 Tryz.ntmps174 [.tmp 4] fun B => ?_
  repeat' (first | refine ks ?_ | refine ko ?_ | refine s_call (compareString_c _ _) ?_ | refine kf ?_ | fail)
  all_goals rfl
theorem compareBytes_eq : ∀ (x y : List UInt8), Lib.compareBytes x y = if x == y then 0 else if Op.bytesLess x y then -1 else 1
  | [], [] => by simp [Lib.compareBytes]
  | [], _ :: _ => by simp [Lib.compareBytes, Op.bytesLess]
  | _ :: _, [] => by simp [Lib.compareBytes, Op.bytesLess]
  | a :: x, b :: y => by
    simp only [Lib.compareBytes, Op.bytesLess, compareBytes_eq x y, List.cons_beq_cons, beq_iff_eq]
    by_cases h : a < b
    · have : ¬ a = b := fun e => by subst e; exact absurd h (UInt8.lt_irrefl a)
      simp [h, this]
    · by_cases h2 : b < a
      · have : ¬ a = b := fun e => by subst e; exact absurd h2 (UInt8.lt_irrefl a)
        simp [h, h2, this]
      · have : a = b := UInt8.le_antisymm (UInt8.not_lt.1 h2) (UInt8.not_lt.1 h)
        subst this
        simp [h]
def Val.same (a b : Val) : Bool := (a.kind == b.kind) && ((a.int == b.int) && (a.text.toList == b.text.toList))
def Val.less (a b : Val) : Bool := decide (a.kind < b.kind) || ((a.kind == b.kind) && (decide (a.int < b.int) || Op.bytesLess a.text.toList b.text.toList))
def Val.cmp (a b : Val) : Int := if a.clean.same b.clean then 0 else if a.clean.less b.clean then -1 else 1
theorem clean_valid (v : Val) : v.clean.valid = true := by
  unfold Val.clean
  split
  · assumption
  · simp [Val.null, Val.valid]
theorem valid_text {v : Val} (h : v.valid = true) (hk : v.kind ≠ 2) : v.text.toList = [] := by
  unfold Val.valid at h
  split at h
  · simp at h; exact h.2
  · split at h
    · simp at h; exact h.2
    · simp [hk] at h
theorem valid_int {v : Val} (h : v.valid = true) (hk : v.kind ≠ 1) : v.int = 0 := by
  unfold Val.valid at h
  rw [if_neg hk] at h
  split at h
  · simp at h; exact h.1
  · split at h
    · simp at h; exact h.1
    · simp at h
theorem icmp_kind {x y : Val} (h : ¬ x.kind = y.kind) : icmp x.kind y.kind = if x.same y = true then 0 else if x.less y = true then -1 else 1 := by
  simp only [icmp, Val.same, Val.less, beq_false_of_ne h, Bool.false_and, Bool.or_false, decide_eq_true_eq, Bool.false_eq_true, if_false]
  split
  · rfl
  · rw [if_pos (by omega)]
theorem icmp_int {x y : Val} (hx : x.valid = true) (hy : y.valid = true) (hk : x.kind = 1) (h : x.kind = y.kind) : icmp x.int y.int = if x.same y = true then 0 else if x.less y = true then -1 else 1 := by
  simp only [icmp, Val.same, Val.less, valid_text hx (by omega), valid_text hy (by omega), h]
  simp [Op.bytesLess]
  by_cases h1 : x.int < y.int
  · simp [h1, show ¬ x.int = y.int by omega]
  · by_cases h2 : y.int < x.int
    · simp [h1, h2, show ¬ x.int = y.int by omega]
    · simp [h1, h2, show x.int = y.int by omega]
theorem icmp_text {x y : Val} (hx : x.valid = true) (hy : y.valid = true) (hk : x.kind = 2) (h : x.kind = y.kind) : bcmp x.text y.text = if x.same y = true then 0 else if x.less y = true then -1 else 1 := by
  simp only [bcmp, Val.same, Val.less, valid_int hx (by omega), valid_int hy (by omega), h, compareBytes_eq]
  simp
theorem icmp_null {x y : Val} (hx : x.valid = true) (hy : y.valid = true) (h1 : ¬ x.kind = 1) (h2 : ¬ x.kind = 2) (h : x.kind = y.kind) : (0 : Int) = if x.same y = true then 0 else if x.less y = true then -1 else 1 := by
  have : x.same y = true := by
    simp only [Val.same, valid_text hx (by omega), valid_text hy (by omega), valid_int hx (by omega), valid_int hy (by omega), h]
    simp
  rw [if_pos this]
theorem refCompare_c (a b : Val) : PCall Tryz.prog 225 [.agg a.d, .agg b.d] (.v (.one (.lit (.int .i64 (a.cmp b))))) := by
  refine pcallN hT Tryz.func225 Tryz.ntmps225 [.tmp 4] fun B => ?_
  repeat' (first | refine ks ?_ | refine ko ?_ | refine s_if rfl (fun hb => ?_) (fun hb => ?_) | refine s_call (refClean_c _) ?_ | refine s_split rfl rfl (fun hb => ?_) (fun hb => ?_) | refine kf ?_ | fail)
  all_goals (refine congrArg Dat.lit (congrArg (Value.int _) ?_))
  all_goals unfold Val.cmp
  all_goals (generalize a.clean = x at *; generalize b.clean = y at *)
  all_goals simp_all [Val.cmp, Val.same, Val.less, litsEq, litEq]
  · rw [if_neg (by rintro ⟨h1, h2⟩; exact absurd h2 (by simp_all)), if_neg (by omega)]
theorem compare_c (a b : Val) : PCall Tryz.prog 111 [.agg a.d, .agg b.d] (.v (.one (.lit (.int .i64 (a.cmp b))))) := by
  refine pcallN hT Tryz.func111 Tryz.ntmps111 [.tmp 4] fun B => ?_
  repeat' (first | refine ks ?_ | refine ko ?_ | refine s_if rfl (fun hb => ?_) (fun hb => ?_) | refine s_call (clean_c _) ?_ | refine s_call (cmpInt_c _ _) ?_ | refine s_call (cmpInt64_c _ _) ?_ | refine s_call (stringsCompare_c _ _) ?_ | refine kf ?_ | fail)
  all_goals (refine congrArg Dat.lit (congrArg (Value.int _) ?_))
  all_goals unfold Val.cmp
  all_goals (have hx := clean_valid a; have hy := clean_valid b; generalize a.clean = x at *; generalize b.clean = y at *)
  · exact icmp_kind (by simpa using hb)
  · exact icmp_int hx hy (by simp_all) (by simp_all)
  · exact icmp_text hx hy (by simp_all) (by simp_all)
  · exact icmp_null hx hy (by simp_all) (by simp_all) (by simp_all)
end Go.Proofs.YtmpgmjlanngkfaaGreat
end
