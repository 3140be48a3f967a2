/-
  How values and rows are compared.
-/
import Derived.Test.YtiidgbfdghplhaaGreatByt
import Derived.Test.YtiidgbfdghplhaaGreatProg
import Derived.Lib.Strings
import Derived.Lib.Slices
import Derived.Lib.Walk
import Derived.Lib.Bytealg
section
namespace Go.Proofs.YtiidgbfdghplhaaGreat
open Go.Abs

def ti1 : TI := { size := 1, bytes := 8, zero := [.nilFunc], desc := .plain }
def ti2 : TI := { size := 1, bytes := 8, zero := [.int .i64 0], desc := .int .i64 }
def ti3 : TI := { size := 1, bytes := 8, zero := [.int .i64 0], desc := .int .i64 }
def ti4 : TI := { size := 1, bytes := 1, zero := [.bool false], desc := .bool }
def ti5 : TI := { size := 1, bytes := 1, zero := [.int .u8 0], desc := .int .u8 }
def ti9 : TI := { size := 1, bytes := 16, zero := [.string ⟨#[]⟩], desc := .str }
def ti12 : TI := { size := 1, bytes := 8, zero := [.int .u64 0], desc := .int .u64 }
def ti20 : TI := { size := 1, bytes := 16, zero := [.nilIface], desc := .plain }
def ti21 : TI := { size := 1, bytes := 4, zero := [.int .i32 0], desc := .int .i32 }
def ti22 : TI := { size := 1, bytes := 24, zero := [.slice none 0 0], desc := .slice 3 }
def ti23 : TI := { size := 1, bytes := 24, zero := [.slice none 0 0], desc := .slice 59 }
def ti24 : TI := { size := 1, bytes := 24, zero := [.slice none 0 0], desc := .slice 30 }
def ti25 : TI := { size := 1, bytes := 8, zero := [.pointer none], desc := .plain }
def ti26 : TI := { size := 1, bytes := 8, zero := [.nilFunc], desc := .plain }
def ti27 : TI := { size := 1, bytes := 8, zero := [.nilFunc], desc := .plain }
def ti28 : TI := { size := 1, bytes := 8, zero := [.nilFunc], desc := .plain }
def ti29 : TI := { size := 1, bytes := 8, zero := [.nilFunc], desc := .plain }
def ti30 : TI := { size := 2, bytes := 16, zero := [.int .i64 0, .int .i64 0], desc := .array 2 3 }
def ti31 : TI := { size := 1, bytes := 8, zero := [.nilFunc], desc := .plain }
def ti32 : TI := { size := 1, bytes := 8, zero := [.nilFunc], desc := .plain }
def ti33 : TI := { size := 1, bytes := 8, zero := [.nilFunc], desc := .plain }
def ti34 : TI := { size := 1, bytes := 8, zero := [.nilFunc], desc := .plain }
def ti35 : TI := { size := 1, bytes := 24, zero := [.slice none 0 0], desc := .slice 37 }
def ti36 : TI := { size := 1, bytes := 8, zero := [.nilFunc], desc := .plain }
def ti37 : TI := { size := 1, bytes := 24, zero := [.slice none 0 0], desc := .slice 70 }
def ti38 : TI := { size := 1, bytes := 8, zero := [.nilFunc], desc := .plain }
def ti39 : TI := { size := 1, bytes := 8, zero := [.nilFunc], desc := .plain }
def ti40 : TI := { size := 1, bytes := 8, zero := [.nilFunc], desc := .plain }
def ti41 : TI := { size := 1, bytes := 8, zero := [.nilFunc], desc := .plain }
def ti42 : TI := { size := 1, bytes := 8, zero := [.nilFunc], desc := .plain }
def ti43 : TI := { size := 1, bytes := 8, zero := [.nilFunc], desc := .plain }
def ti44 : TI := { size := 1, bytes := 8, zero := [.nilFunc], desc := .plain }
def ti45 : TI := { size := 1, bytes := 8, zero := [.int .i64 0], desc := .int .i64 }
def ti47 : TI := { size := 1, bytes := 8, zero := [.nilFunc], desc := .plain }
def ti49 : TI := { size := 1, bytes := 8, zero := [.nilFunc], desc := .plain }
def ti50 : TI := { size := 1, bytes := 8, zero := [.nilFunc], desc := .plain }
def ti51 : TI := { size := 1, bytes := 8, zero := [.nilFunc], desc := .plain }
def ti52 : TI := { size := 1, bytes := 8, zero := [.nilFunc], desc := .plain }
def ti53 : TI := { size := 1, bytes := 8, zero := [.nilFunc], desc := .plain }
def ti54 : TI := { size := 1, bytes := 8, zero := [.nilFunc], desc := .plain }
def ti55 : TI := { size := 2, bytes := 32, zero := [.slice none 0 0, .int .i64 0], desc := .struct [(0, 22), (1, 3)] }
def ti56 : TI := { size := 2, bytes := 32, zero := [.slice none 0 0, .int .i64 0], desc := .struct [(0, 22), (1, 3)] }
def ti57 : TI := { size := 1, bytes := 24, zero := [.slice none 0 0], desc := .slice 61 }
def ti58 : TI := { size := 2, bytes := 32, zero := [.slice none 0 0, .int .i64 0], desc := .struct [(0, 57), (1, 2)] }
def ti59 : TI := { size := 2, bytes := 32, zero := [.slice none 0 0, .int .i64 0], desc := .struct [(0, 57), (1, 2)] }
def ti60 : TI := { size := 3, bytes := 32, zero := [.int .i64 0, .int .i64 0, .string ⟨#[]⟩], desc := .struct [(0, 3), (1, 2), (2, 9)], eqs := true }
def ti61 : TI := { size := 3, bytes := 32, zero := [.int .i64 0, .int .i64 0, .string ⟨#[]⟩], desc := .struct [(0, 3), (1, 2), (2, 9)], eqs := true }
def ti62 : TI := { size := 1, bytes := 8, zero := [.nilFunc], desc := .plain }
def ti63 : TI := { size := 1, bytes := 8, zero := [.nilFunc], desc := .plain }
def ti64 : TI := { size := 1, bytes := 8, zero := [.int .u64 0], desc := .int .u64 }
def ti65 : TI := { size := 1, bytes := 8, zero := [.nilFunc], desc := .plain }
def ti66 : TI := { size := 1, bytes := 24, zero := [.slice none 0 0], desc := .slice 2 }
def ti67 : TI := { size := 1, bytes := 8, zero := [.nilFunc], desc := .plain }
def ti68 : TI := { size := 1, bytes := 8, zero := [.nilFunc], desc := .plain }
def ti69 : TI := { size := 5, bytes := 48, zero := [.int .i64 0, .int .i64 0, .int .i64 0, .string ⟨#[]⟩, .int .i64 0], desc := .struct [(0, 3), (1, 61), (4, 3)] }
def ti70 : TI := { size := 5, bytes := 48, zero := [.int .i64 0, .int .i64 0, .int .i64 0, .string ⟨#[]⟩, .int .i64 0], desc := .struct [(0, 3), (1, 61), (4, 3)] }
def ti71 : TI := { size := 1, bytes := 8, zero := [.nilFunc], desc := .plain }
def ti72 : TI := { size := 1, bytes := 8, zero := [.nilFunc], desc := .plain }
def ti73 : TI := { size := 1, bytes := 8, zero := [.nilFunc], desc := .plain }
def ti74 : TI := { size := 1, bytes := 8, zero := [.nilFunc], desc := .plain }
def ti75 : TI := { size := 1, bytes := 8, zero := [.nilFunc], desc := .plain }
def ti76 : TI := { size := 1, bytes := 8, zero := [.nilFunc], desc := .plain }
def ti77 : TI := { size := 1, bytes := 8, zero := [.nilFunc], desc := .plain }
def ti78 : TI := { size := 1, bytes := 8, zero := [.nilFunc], desc := .plain }
def ti79 : TI := { size := 1, bytes := 8, zero := [.nilFunc], desc := .plain }
def ti80 : TI := { size := 1, bytes := 8, zero := [.nilFunc], desc := .plain }
def ti81 : TI := { size := 1, bytes := 8, zero := [.nilFunc], desc := .plain }
def ti82 : TI := { size := 1, bytes := 8, zero := [.nilFunc], desc := .plain }
def ti83 : TI := { size := 1, bytes := 8, zero := [.nilFunc], desc := .plain }
def ti84 : TI := { size := 1, bytes := 8, zero := [.nilFunc], desc := .plain }
def ti85 : TI := { size := 1, bytes := 8, zero := [.nilFunc], desc := .plain }
def ti86 : TI := { size := 1, bytes := 8, zero := [.nilFunc], desc := .plain }
def ti87 : TI := { size := 1, bytes := 8, zero := [.nilFunc], desc := .plain }
def ti88 : TI := { size := 1, bytes := 8, zero := [.nilFunc], desc := .plain }
def ti89 : TI := { size := 1, bytes := 8, zero := [.nilFunc], desc := .plain }
def ti90 : TI := { size := 1, bytes := 8, zero := [.nilFunc], desc := .plain }
def ti91 : TI := { size := 1, bytes := 8, zero := [.nilFunc], desc := .plain }
def ti92 : TI := { size := 1, bytes := 8, zero := [.nilFunc], desc := .plain }
def ti94 : TI := { size := 1, bytes := 8, zero := [.nilFunc], desc := .plain }
def ti95 : TI := { size := 1, bytes := 8, zero := [.map none], desc := .plain }
def ti96 : TI := { size := 1, bytes := 8, zero := [.nilFunc], desc := .plain }
def ti98 : TI := { size := 1, bytes := 8, zero := [.nilFunc], desc := .plain }
def ti99 : TI := { size := 1, bytes := 8, zero := [.nilFunc], desc := .plain }
def ti100 : TI := { size := 1, bytes := 8, zero := [.nilFunc], desc := .plain }
def ti101 : TI := { size := 1, bytes := 8, zero := [.nilFunc], desc := .plain }
def ti102 : TI := { size := 1, bytes := 8, zero := [.nilFunc], desc := .plain }
def ti103 : TI := { size := 1, bytes := 8, zero := [.map none], desc := .plain }
def ti105 : TI := { size := 1, bytes := 8, zero := [.nilFunc], desc := .plain }
def ti106 : TI := { size := 1, bytes := 24, zero := [.slice none 0 0], desc := .slice 108 }
def ti107 : TI := { size := 2, bytes := 24, zero := [.string ⟨#[]⟩, .int .i64 0], desc := .struct [(0, 9), (1, 2)], eqs := true }
def ti108 : TI := { size := 2, bytes := 24, zero := [.string ⟨#[]⟩, .int .i64 0], desc := .struct [(0, 9), (1, 2)], eqs := true }
def ti109 : TI := { size := 1, bytes := 8, zero := [.pointer none], desc := .plain }
def ti110 : TI := { size := 1, bytes := 24, zero := [.slice none 0 0], desc := .slice 136 }
def ti111 : TI := { size := 3, bytes := 56, zero := [.slice none 0 0, .map none, .slice none 0 0], desc := .struct [(0, 110), (1, 95), (2, 106)] }
def ti112 : TI := { size := 3, bytes := 56, zero := [.slice none 0 0, .map none, .slice none 0 0], desc := .struct [(0, 110), (1, 95), (2, 106)] }
def ti113 : TI := { size := 1, bytes := 8, zero := [.nilFunc], desc := .plain }
def ti114 : TI := { size := 1, bytes := 8, zero := [.nilFunc], desc := .plain }
def ti115 : TI := { size := 1, bytes := 8, zero := [.nilFunc], desc := .plain }
def ti116 : TI := { size := 1, bytes := 8, zero := [.nilFunc], desc := .plain }
def ti117 : TI := { size := 1, bytes := 8, zero := [.nilFunc], desc := .plain }
def ti118 : TI := { size := 1, bytes := 8, zero := [.nilFunc], desc := .plain }
def ti119 : TI := { size := 1, bytes := 24, zero := [.slice none 0 0], desc := .slice 9 }
def ti120 : TI := { size := 1, bytes := 8, zero := [.nilFunc], desc := .plain }
def ti121 : TI := { size := 1, bytes := 8, zero := [.nilFunc], desc := .plain }
def ti122 : TI := { size := 1, bytes := 8, zero := [.nilFunc], desc := .plain }
def ti124 : TI := { size := 1, bytes := 8, zero := [.nilFunc], desc := .plain }
def ti125 : TI := { size := 9, bytes := 96, zero := [.int .i64 0, .int .i64 0, .string ⟨#[]⟩, .int .i64 0, .int .i64 0, .string ⟨#[]⟩, .int .i64 0, .int .i64 0, .string ⟨#[]⟩], desc := .array 3 61 }
def ti126 : TI := { size := 1, bytes := 8, zero := [.nilFunc], desc := .plain }
def ti127 : TI := { size := 1, bytes := 8, zero := [.nilFunc], desc := .plain }
def ti128 : TI := { size := 1, bytes := 24, zero := [.slice none 0 0], desc := .slice 5 }
def ti129 : TI := { size := 1, bytes := 8, zero := [.nilFunc], desc := .plain }
def ti130 : TI := { size := 1, bytes := 8, zero := [.nilFunc], desc := .plain }
def ti131 : TI := { size := 1, bytes := 8, zero := [.nilFunc], desc := .plain }
def ti132 : TI := { size := 1, bytes := 8, zero := [.nilFunc], desc := .plain }
def ti133 : TI := { size := 1, bytes := 8, zero := [.nilFunc], desc := .plain }
def ti135 : TI := { size := 2, bytes := 40, zero := [.string ⟨#[]⟩, .slice none 0 0], desc := .struct [(0, 9), (1, 119)] }
def ti136 : TI := { size := 2, bytes := 40, zero := [.string ⟨#[]⟩, .slice none 0 0], desc := .struct [(0, 9), (1, 119)] }
def ti137 : TI := { size := 1, bytes := 8, zero := [.nilFunc], desc := .plain }
def ti138 : TI := { size := 1, bytes := 8, zero := [.nilFunc], desc := .plain }
def ti139 : TI := { size := 1, bytes := 8, zero := [.nilFunc], desc := .plain }
def ti140 : TI := { size := 1, bytes := 8, zero := [.nilFunc], desc := .plain }
def ti141 : TI := { size := 1, bytes := 8, zero := [.nilFunc], desc := .plain }
def ti142 : TI := { size := 1, bytes := 8, zero := [.nilFunc], desc := .plain }
def ti143 : TI := { size := 1, bytes := 8, zero := [.nilFunc], desc := .plain }
def ti144 : TI := { size := 1, bytes := 8, zero := [.nilFunc], desc := .plain }
def ti145 : TI := { size := 1, bytes := 8, zero := [.nilFunc], desc := .plain }
def ti146 : TI := { size := 1, bytes := 8, zero := [.int .i64 0], desc := .int .i64 }
def ti148 : TI := { size := 1, bytes := 8, zero := [.nilFunc], desc := .plain }
def ti149 : TI := { size := 1, bytes := 8, zero := [.nilFunc], desc := .plain }
def ti150 : TI := { size := 1, bytes := 8, zero := [.nilFunc], desc := .plain }
def ti152 : TI := { size := 1, bytes := 8, zero := [.nilFunc], desc := .plain }
def ti153 : TI := { size := 1, bytes := 8, zero := [.nilFunc], desc := .plain }
def ti154 : TI := { size := 1, bytes := 4, zero := [.int .u32 0], desc := .int .u32 }
def ti155 : TI := { size := 1, bytes := 8, zero := [.nilFunc], desc := .plain }
def ti156 : TI := { size := 1, bytes := 8, zero := [.int .u64 0], desc := .int .u64 }
def ti157 : TI := { size := 1, bytes := 8, zero := [.nilFunc], desc := .plain }
def ti158 : TI := { size := 1, bytes := 8, zero := [.int .u64 0], desc := .int .u64 }
def ti159 : TI := { size := 1, bytes := 8, zero := [.nilFunc], desc := .plain }
def ti160 : TI := { size := 1, bytes := 8, zero := [.nilFunc], desc := .plain }
def ti161 : TI := { size := 1, bytes := 8, zero := [.nilFunc], desc := .plain }
def ti162 : TI := { size := 1, bytes := 8, zero := [.pointer none], desc := .plain }
def ti163 : TI := { size := 1, bytes := 8, zero := [.nilFunc], desc := .plain }
def ti164 : TI := { size := 1, bytes := 8, zero := [.nilFunc], desc := .plain }
def ti165 : TI := { size := 1, bytes := 8, zero := [.pointer none], desc := .plain }
def ti166 : TI := { size := 1, bytes := 8, zero := [.nilFunc], desc := .plain }
def ti167 : TI := { size := 1, bytes := 8, zero := [.nilFunc], desc := .plain }
def ti173 : TI := { size := 1, bytes := 8, zero := [.nilFunc], desc := .plain }
def ti176 : TI := { size := 1, bytes := 8, zero := [.nilFunc], desc := .plain }
def ti177 : TI := { size := 1, bytes := 8, zero := [.pointer none], desc := .plain }
def tbl : TTree := (.node (.node (.node (.node (.node (.node (.node (.node .nil 1 ti1 .nil) 2 ti2 .nil) 3 ti3 (.node .nil 4 ti4 .nil)) 5 ti5 (.node (.node (.node .nil 9 ti9 .nil) 12 ti12 .nil) 20 ti20 (.node .nil 21 ti21 .nil))) 22 ti22 (.node (.node (.node (.node .nil 23 ti23 .nil) 24 ti24 .nil) 25 ti25 (.node .nil 26 ti26 .nil)) 27 ti27 (.node (.node .nil 28 ti28 .nil) 29 ti29 (.node .nil 30 ti30 .nil)))) 31 ti31 (.node (.node (.node (.node (.node .nil 32 ti32 .nil) 33 ti33 .nil) 34 ti34 (.node .nil 35 ti35 .nil)) 36 ti36 (.node (.node (.node .nil 37 ti37 .nil) 38 ti38 .nil) 39 ti39 (.node .nil 40 ti40 .nil))) 41 ti41 (.node (.node (.node (.node .nil 42 ti42 .nil) 43 ti43 .nil) 44 ti44 (.node .nil 45 ti45 .nil)) 47 ti47 (.node (.node .nil 49 ti49 .nil) 50 ti50 (.node .nil 51 ti51 .nil))))) 52 ti52 (.node (.node (.node (.node (.node (.node .nil 53 ti53 .nil) 54 ti54 .nil) 55 ti55 (.node .nil 56 ti56 .nil)) 57 ti57 (.node (.node (.node .nil 58 ti58 .nil) 59 ti59 .nil) 60 ti60 (.node .nil 61 ti61 .nil))) 62 ti62 (.node (.node (.node (.node .nil 63 ti63 .nil) 64 ti64 .nil) 65 ti65 (.node .nil 66 ti66 .nil)) 67 ti67 (.node (.node .nil 68 ti68 .nil) 69 ti69 (.node .nil 70 ti70 .nil)))) 71 ti71 (.node (.node (.node (.node (.node .nil 72 ti72 .nil) 73 ti73 .nil) 74 ti74 (.node .nil 75 ti75 .nil)) 76 ti76 (.node (.node .nil 77 ti77 .nil) 78 ti78 (.node .nil 79 ti79 .nil))) 80 ti80 (.node (.node (.node (.node .nil 81 ti81 .nil) 82 ti82 .nil) 83 ti83 (.node .nil 84 ti84 .nil)) 85 ti85 (.node (.node .nil 86 ti86 .nil) 87 ti87 (.node .nil 88 ti88 .nil)))))) 89 ti89 (.node (.node (.node (.node (.node (.node (.node .nil 90 ti90 .nil) 91 ti91 .nil) 92 ti92 (.node .nil 94 ti94 .nil)) 95 ti95 (.node (.node (.node .nil 96 ti96 .nil) 98 ti98 .nil) 99 ti99 (.node .nil 100 ti100 .nil))) 101 ti101 (.node (.node (.node (.node .nil 102 ti102 .nil) 103 ti103 .nil) 105 ti105 (.node .nil 106 ti106 .nil)) 107 ti107 (.node (.node .nil 108 ti108 .nil) 109 ti109 (.node .nil 110 ti110 .nil)))) 111 ti111 (.node (.node (.node (.node (.node .nil 112 ti112 .nil) 113 ti113 .nil) 114 ti114 (.node .nil 115 ti115 .nil)) 116 ti116 (.node (.node (.node .nil 117 ti117 .nil) 118 ti118 .nil) 119 ti119 (.node .nil 120 ti120 .nil))) 121 ti121 (.node (.node (.node (.node .nil 122 ti122 .nil) 124 ti124 .nil) 125 ti125 (.node .nil 126 ti126 .nil)) 127 ti127 (.node (.node .nil 128 ti128 .nil) 129 ti129 (.node .nil 130 ti130 .nil))))) 131 ti131 (.node (.node (.node (.node (.node (.node .nil 132 ti132 .nil) 133 ti133 .nil) 135 ti135 (.node .nil 136 ti136 .nil)) 137 ti137 (.node (.node (.node .nil 138 ti138 .nil) 139 ti139 .nil) 140 ti140 (.node .nil 141 ti141 .nil))) 142 ti142 (.node (.node (.node (.node .nil 143 ti143 .nil) 144 ti144 .nil) 145 ti145 (.node .nil 146 ti146 .nil)) 148 ti148 (.node (.node .nil 149 ti149 .nil) 150 ti150 (.node .nil 152 ti152 .nil)))) 153 ti153 (.node (.node (.node (.node (.node .nil 154 ti154 .nil) 155 ti155 .nil) 156 ti156 (.node .nil 157 ti157 .nil)) 158 ti158 (.node (.node .nil 159 ti159 .nil) 160 ti160 (.node .nil 161 ti161 .nil))) 162 ti162 (.node (.node (.node (.node .nil 163 ti163 .nil) 164 ti164 .nil) 165 ti165 (.node .nil 166 ti166 .nil)) 167 ti167 (.node (.node .nil 173 ti173 .nil) 176 ti176 (.node .nil 177 ti177 .nil)))))))
def T : TypeId → Option TI := tyFind tbl

theorem tok1 : TOk Tryz.prog 1 ti1 := mkT (.nilFunc) (by kernel_rfl) rfl rfl (show (Tryz.prog.underlying 1).map plainB = some true by kernel_rfl) (fun h => by cases h)
theorem tok2 : TOk Tryz.prog 2 ti2 := mkT (.int .i64 0) (by kernel_rfl) rfl rfl (show Tryz.prog.underlying 2 = some (.int .i64) by kernel_rfl) (fun h => by cases h)
theorem tok3 : TOk Tryz.prog 3 ti3 := mkT (.int .i64 0) (by kernel_rfl) rfl rfl (show Tryz.prog.underlying 3 = some (.int .i64) by kernel_rfl) (fun h => by cases h)
theorem tok4 : TOk Tryz.prog 4 ti4 := mkT (.bool false) (by kernel_rfl) rfl rfl (show Tryz.prog.underlying 4 = some (.bool) by kernel_rfl) (fun h => by cases h)
theorem tok5 : TOk Tryz.prog 5 ti5 := mkT (.int .u8 0) (by kernel_rfl) rfl rfl (show Tryz.prog.underlying 5 = some (.int .u8) by kernel_rfl) (fun h => by cases h)
theorem tok9 : TOk Tryz.prog 9 ti9 := mkT (.string ⟨#[]⟩) (by kernel_rfl) rfl rfl (show Tryz.prog.underlying 9 = some (.string) by kernel_rfl) (fun h => by cases h)
theorem tok12 : TOk Tryz.prog 12 ti12 := mkT (.int .u64 0) (by kernel_rfl) rfl rfl (show Tryz.prog.underlying 12 = some (.int .u64) by kernel_rfl) (fun h => by cases h)
theorem tok20 : TOk Tryz.prog 20 ti20 := mkT (.nilIface) (by kernel_rfl) rfl rfl (show (Tryz.prog.underlying 20).map plainB = some true by kernel_rfl) (fun h => by cases h)
theorem tok21 : TOk Tryz.prog 21 ti21 := mkT (.int .i32 0) (by kernel_rfl) rfl rfl (show Tryz.prog.underlying 21 = some (.int .i32) by kernel_rfl) (fun h => by cases h)
theorem tok22 : TOk Tryz.prog 22 ti22 := mkT (.slice none 0 0) (by kernel_rfl) rfl rfl (show Tryz.prog.underlying 22 = some (.slice 3) by kernel_rfl) (fun h => by cases h)
theorem tok23 : TOk Tryz.prog 23 ti23 := mkT (.slice none 0 0) (by kernel_rfl) rfl rfl (show Tryz.prog.underlying 23 = some (.slice 59) by kernel_rfl) (fun h => by cases h)
theorem tok24 : TOk Tryz.prog 24 ti24 := mkT (.slice none 0 0) (by kernel_rfl) rfl rfl (show Tryz.prog.underlying 24 = some (.slice 30) by kernel_rfl) (fun h => by cases h)
theorem tok25 : TOk Tryz.prog 25 ti25 := mkT (.pointer none) (by kernel_rfl) rfl rfl (show (Tryz.prog.underlying 25).map plainB = some true by kernel_rfl) (fun h => by cases h)
theorem tok26 : TOk Tryz.prog 26 ti26 := mkT (.nilFunc) (by kernel_rfl) rfl rfl (show (Tryz.prog.underlying 26).map plainB = some true by kernel_rfl) (fun h => by cases h)
theorem tok27 : TOk Tryz.prog 27 ti27 := mkT (.nilFunc) (by kernel_rfl) rfl rfl (show (Tryz.prog.underlying 27).map plainB = some true by kernel_rfl) (fun h => by cases h)
theorem tok28 : TOk Tryz.prog 28 ti28 := mkT (.nilFunc) (by kernel_rfl) rfl rfl (show (Tryz.prog.underlying 28).map plainB = some true by kernel_rfl) (fun h => by cases h)
theorem tok29 : TOk Tryz.prog 29 ti29 := mkT (.nilFunc) (by kernel_rfl) rfl rfl (show (Tryz.prog.underlying 29).map plainB = some true by kernel_rfl) (fun h => by cases h)
theorem tok30 : TOk Tryz.prog 30 ti30 := mkT (.agg #[.int .i64 0, .int .i64 0]) (by kernel_rfl) rfl rfl (show Tryz.prog.underlying 30 = some (.array 2 3) by kernel_rfl) (fun h => by cases h)
theorem tok31 : TOk Tryz.prog 31 ti31 := mkT (.nilFunc) (by kernel_rfl) rfl rfl (show (Tryz.prog.underlying 31).map plainB = some true by kernel_rfl) (fun h => by cases h)
theorem tok32 : TOk Tryz.prog 32 ti32 := mkT (.nilFunc) (by kernel_rfl) rfl rfl (show (Tryz.prog.underlying 32).map plainB = some true by kernel_rfl) (fun h => by cases h)
theorem tok33 : TOk Tryz.prog 33 ti33 := mkT (.nilFunc) (by kernel_rfl) rfl rfl (show (Tryz.prog.underlying 33).map plainB = some true by kernel_rfl) (fun h => by cases h)
theorem tok34 : TOk Tryz.prog 34 ti34 := mkT (.nilFunc) (by kernel_rfl) rfl rfl (show (Tryz.prog.underlying 34).map plainB = some true by kernel_rfl) (fun h => by cases h)
theorem tok35 : TOk Tryz.prog 35 ti35 := mkT (.slice none 0 0) (by kernel_rfl) rfl rfl (show Tryz.prog.underlying 35 = some (.slice 37) by kernel_rfl) (fun h => by cases h)
theorem tok36 : TOk Tryz.prog 36 ti36 := mkT (.nilFunc) (by kernel_rfl) rfl rfl (show (Tryz.prog.underlying 36).map plainB = some true by kernel_rfl) (fun h => by cases h)
theorem tok37 : TOk Tryz.prog 37 ti37 := mkT (.slice none 0 0) (by kernel_rfl) rfl rfl (show Tryz.prog.underlying 37 = some (.slice 70) by kernel_rfl) (fun h => by cases h)
theorem tok38 : TOk Tryz.prog 38 ti38 := mkT (.nilFunc) (by kernel_rfl) rfl rfl (show (Tryz.prog.underlying 38).map plainB = some true by kernel_rfl) (fun h => by cases h)
theorem tok39 : TOk Tryz.prog 39 ti39 := mkT (.nilFunc) (by kernel_rfl) rfl rfl (show (Tryz.prog.underlying 39).map plainB = some true by kernel_rfl) (fun h => by cases h)
theorem tok40 : TOk Tryz.prog 40 ti40 := mkT (.nilFunc) (by kernel_rfl) rfl rfl (show (Tryz.prog.underlying 40).map plainB = some true by kernel_rfl) (fun h => by cases h)
theorem tok41 : TOk Tryz.prog 41 ti41 := mkT (.nilFunc) (by kernel_rfl) rfl rfl (show (Tryz.prog.underlying 41).map plainB = some true by kernel_rfl) (fun h => by cases h)
theorem tok42 : TOk Tryz.prog 42 ti42 := mkT (.nilFunc) (by kernel_rfl) rfl rfl (show (Tryz.prog.underlying 42).map plainB = some true by kernel_rfl) (fun h => by cases h)
theorem tok43 : TOk Tryz.prog 43 ti43 := mkT (.nilFunc) (by kernel_rfl) rfl rfl (show (Tryz.prog.underlying 43).map plainB = some true by kernel_rfl) (fun h => by cases h)
theorem tok44 : TOk Tryz.prog 44 ti44 := mkT (.nilFunc) (by kernel_rfl) rfl rfl (show (Tryz.prog.underlying 44).map plainB = some true by kernel_rfl) (fun h => by cases h)
theorem tok45 : TOk Tryz.prog 45 ti45 := mkT (.int .i64 0) (by kernel_rfl) rfl rfl (show Tryz.prog.underlying 45 = some (.int .i64) by kernel_rfl) (fun h => by cases h)
theorem tok47 : TOk Tryz.prog 47 ti47 := mkT (.nilFunc) (by kernel_rfl) rfl rfl (show (Tryz.prog.underlying 47).map plainB = some true by kernel_rfl) (fun h => by cases h)
theorem tok49 : TOk Tryz.prog 49 ti49 := mkT (.nilFunc) (by kernel_rfl) rfl rfl (show (Tryz.prog.underlying 49).map plainB = some true by kernel_rfl) (fun h => by cases h)
theorem tok50 : TOk Tryz.prog 50 ti50 := mkT (.nilFunc) (by kernel_rfl) rfl rfl (show (Tryz.prog.underlying 50).map plainB = some true by kernel_rfl) (fun h => by cases h)
theorem tok51 : TOk Tryz.prog 51 ti51 := mkT (.nilFunc) (by kernel_rfl) rfl rfl (show (Tryz.prog.underlying 51).map plainB = some true by kernel_rfl) (fun h => by cases h)
theorem tok52 : TOk Tryz.prog 52 ti52 := mkT (.nilFunc) (by kernel_rfl) rfl rfl (show (Tryz.prog.underlying 52).map plainB = some true by kernel_rfl) (fun h => by cases h)
theorem tok53 : TOk Tryz.prog 53 ti53 := mkT (.nilFunc) (by kernel_rfl) rfl rfl (show (Tryz.prog.underlying 53).map plainB = some true by kernel_rfl) (fun h => by cases h)
theorem tok54 : TOk Tryz.prog 54 ti54 := mkT (.nilFunc) (by kernel_rfl) rfl rfl (show (Tryz.prog.underlying 54).map plainB = some true by kernel_rfl) (fun h => by cases h)
theorem tok55 : TOk Tryz.prog 55 ti55 := mkT (.agg #[.slice none 0 0, .int .i64 0]) (by kernel_rfl) rfl rfl (show (Tryz.prog.underlying 55).map structFs = some (some [(0, 22), (1, 3)]) by kernel_rfl) (fun h => by cases h)
theorem tok56 : TOk Tryz.prog 56 ti56 := mkT (.agg #[.slice none 0 0, .int .i64 0]) (by kernel_rfl) rfl rfl (show (Tryz.prog.underlying 56).map structFs = some (some [(0, 22), (1, 3)]) by kernel_rfl) (fun h => by cases h)
theorem tok57 : TOk Tryz.prog 57 ti57 := mkT (.slice none 0 0) (by kernel_rfl) rfl rfl (show Tryz.prog.underlying 57 = some (.slice 61) by kernel_rfl) (fun h => by cases h)
theorem tok58 : TOk Tryz.prog 58 ti58 := mkT (.agg #[.slice none 0 0, .int .i64 0]) (by kernel_rfl) rfl rfl (show (Tryz.prog.underlying 58).map structFs = some (some [(0, 57), (1, 2)]) by kernel_rfl) (fun h => by cases h)
theorem tok59 : TOk Tryz.prog 59 ti59 := mkT (.agg #[.slice none 0 0, .int .i64 0]) (by kernel_rfl) rfl rfl (show (Tryz.prog.underlying 59).map structFs = some (some [(0, 57), (1, 2)]) by kernel_rfl) (fun h => by cases h)
theorem tok60 : TOk Tryz.prog 60 ti60 := mkT (.agg #[.int .i64 0, .int .i64 0, .string ⟨#[]⟩]) (by kernel_rfl) rfl rfl (show (Tryz.prog.underlying 60).map structFs = some (some [(0, 3), (1, 2), (2, 9)]) by kernel_rfl) (fun _ => eqOk (by kernel_rfl) (by kernel_rfl) (by kernel_rfl) (by kernel_rfl))
theorem tok61 : TOk Tryz.prog 61 ti61 := mkT (.agg #[.int .i64 0, .int .i64 0, .string ⟨#[]⟩]) (by kernel_rfl) rfl rfl (show (Tryz.prog.underlying 61).map structFs = some (some [(0, 3), (1, 2), (2, 9)]) by kernel_rfl) (fun _ => eqOk (by kernel_rfl) (by kernel_rfl) (by kernel_rfl) (by kernel_rfl))
theorem tok62 : TOk Tryz.prog 62 ti62 := mkT (.nilFunc) (by kernel_rfl) rfl rfl (show (Tryz.prog.underlying 62).map plainB = some true by kernel_rfl) (fun h => by cases h)
theorem tok63 : TOk Tryz.prog 63 ti63 := mkT (.nilFunc) (by kernel_rfl) rfl rfl (show (Tryz.prog.underlying 63).map plainB = some true by kernel_rfl) (fun h => by cases h)
theorem tok64 : TOk Tryz.prog 64 ti64 := mkT (.int .u64 0) (by kernel_rfl) rfl rfl (show Tryz.prog.underlying 64 = some (.int .u64) by kernel_rfl) (fun h => by cases h)
theorem tok65 : TOk Tryz.prog 65 ti65 := mkT (.nilFunc) (by kernel_rfl) rfl rfl (show (Tryz.prog.underlying 65).map plainB = some true by kernel_rfl) (fun h => by cases h)
theorem tok66 : TOk Tryz.prog 66 ti66 := mkT (.slice none 0 0) (by kernel_rfl) rfl rfl (show Tryz.prog.underlying 66 = some (.slice 2) by kernel_rfl) (fun h => by cases h)
theorem tok67 : TOk Tryz.prog 67 ti67 := mkT (.nilFunc) (by kernel_rfl) rfl rfl (show (Tryz.prog.underlying 67).map plainB = some true by kernel_rfl) (fun h => by cases h)
theorem tok68 : TOk Tryz.prog 68 ti68 := mkT (.nilFunc) (by kernel_rfl) rfl rfl (show (Tryz.prog.underlying 68).map plainB = some true by kernel_rfl) (fun h => by cases h)
theorem tok69 : TOk Tryz.prog 69 ti69 := mkT (.agg #[.int .i64 0, .int .i64 0, .int .i64 0, .string ⟨#[]⟩, .int .i64 0]) (by kernel_rfl) rfl rfl (show (Tryz.prog.underlying 69).map structFs = some (some [(0, 3), (1, 61), (4, 3)]) by kernel_rfl) (fun h => by cases h)
theorem tok70 : TOk Tryz.prog 70 ti70 := mkT (.agg #[.int .i64 0, .int .i64 0, .int .i64 0, .string ⟨#[]⟩, .int .i64 0]) (by kernel_rfl) rfl rfl (show (Tryz.prog.underlying 70).map structFs = some (some [(0, 3), (1, 61), (4, 3)]) by kernel_rfl) (fun h => by cases h)
theorem tok71 : TOk Tryz.prog 71 ti71 := mkT (.nilFunc) (by kernel_rfl) rfl rfl (show (Tryz.prog.underlying 71).map plainB = some true by kernel_rfl) (fun h => by cases h)
theorem tok72 : TOk Tryz.prog 72 ti72 := mkT (.nilFunc) (by kernel_rfl) rfl rfl (show (Tryz.prog.underlying 72).map plainB = some true by kernel_rfl) (fun h => by cases h)
theorem tok73 : TOk Tryz.prog 73 ti73 := mkT (.nilFunc) (by kernel_rfl) rfl rfl (show (Tryz.prog.underlying 73).map plainB = some true by kernel_rfl) (fun h => by cases h)
theorem tok74 : TOk Tryz.prog 74 ti74 := mkT (.nilFunc) (by kernel_rfl) rfl rfl (show (Tryz.prog.underlying 74).map plainB = some true by kernel_rfl) (fun h => by cases h)
theorem tok75 : TOk Tryz.prog 75 ti75 := mkT (.nilFunc) (by kernel_rfl) rfl rfl (show (Tryz.prog.underlying 75).map plainB = some true by kernel_rfl) (fun h => by cases h)
theorem tok76 : TOk Tryz.prog 76 ti76 := mkT (.nilFunc) (by kernel_rfl) rfl rfl (show (Tryz.prog.underlying 76).map plainB = some true by kernel_rfl) (fun h => by cases h)
theorem tok77 : TOk Tryz.prog 77 ti77 := mkT (.nilFunc) (by kernel_rfl) rfl rfl (show (Tryz.prog.underlying 77).map plainB = some true by kernel_rfl) (fun h => by cases h)
theorem tok78 : TOk Tryz.prog 78 ti78 := mkT (.nilFunc) (by kernel_rfl) rfl rfl (show (Tryz.prog.underlying 78).map plainB = some true by kernel_rfl) (fun h => by cases h)
theorem tok79 : TOk Tryz.prog 79 ti79 := mkT (.nilFunc) (by kernel_rfl) rfl rfl (show (Tryz.prog.underlying 79).map plainB = some true by kernel_rfl) (fun h => by cases h)
theorem tok80 : TOk Tryz.prog 80 ti80 := mkT (.nilFunc) (by kernel_rfl) rfl rfl (show (Tryz.prog.underlying 80).map plainB = some true by kernel_rfl) (fun h => by cases h)
theorem tok81 : TOk Tryz.prog 81 ti81 := mkT (.nilFunc) (by kernel_rfl) rfl rfl (show (Tryz.prog.underlying 81).map plainB = some true by kernel_rfl) (fun h => by cases h)
theorem tok82 : TOk Tryz.prog 82 ti82 := mkT (.nilFunc) (by kernel_rfl) rfl rfl (show (Tryz.prog.underlying 82).map plainB = some true by kernel_rfl) (fun h => by cases h)
theorem tok83 : TOk Tryz.prog 83 ti83 := mkT (.nilFunc) (by kernel_rfl) rfl rfl (show (Tryz.prog.underlying 83).map plainB = some true by kernel_rfl) (fun h => by cases h)
theorem tok84 : TOk Tryz.prog 84 ti84 := mkT (.nilFunc) (by kernel_rfl) rfl rfl (show (Tryz.prog.underlying 84).map plainB = some true by kernel_rfl) (fun h => by cases h)
theorem tok85 : TOk Tryz.prog 85 ti85 := mkT (.nilFunc) (by kernel_rfl) rfl rfl (show (Tryz.prog.underlying 85).map plainB = some true by kernel_rfl) (fun h => by cases h)
theorem tok86 : TOk Tryz.prog 86 ti86 := mkT (.nilFunc) (by kernel_rfl) rfl rfl (show (Tryz.prog.underlying 86).map plainB = some true by kernel_rfl) (fun h => by cases h)
theorem tok87 : TOk Tryz.prog 87 ti87 := mkT (.nilFunc) (by kernel_rfl) rfl rfl (show (Tryz.prog.underlying 87).map plainB = some true by kernel_rfl) (fun h => by cases h)
theorem tok88 : TOk Tryz.prog 88 ti88 := mkT (.nilFunc) (by kernel_rfl) rfl rfl (show (Tryz.prog.underlying 88).map plainB = some true by kernel_rfl) (fun h => by cases h)
theorem tok89 : TOk Tryz.prog 89 ti89 := mkT (.nilFunc) (by kernel_rfl) rfl rfl (show (Tryz.prog.underlying 89).map plainB = some true by kernel_rfl) (fun h => by cases h)
theorem tok90 : TOk Tryz.prog 90 ti90 := mkT (.nilFunc) (by kernel_rfl) rfl rfl (show (Tryz.prog.underlying 90).map plainB = some true by kernel_rfl) (fun h => by cases h)
theorem tok91 : TOk Tryz.prog 91 ti91 := mkT (.nilFunc) (by kernel_rfl) rfl rfl (show (Tryz.prog.underlying 91).map plainB = some true by kernel_rfl) (fun h => by cases h)
theorem tok92 : TOk Tryz.prog 92 ti92 := mkT (.nilFunc) (by kernel_rfl) rfl rfl (show (Tryz.prog.underlying 92).map plainB = some true by kernel_rfl) (fun h => by cases h)
theorem tok94 : TOk Tryz.prog 94 ti94 := mkT (.nilFunc) (by kernel_rfl) rfl rfl (show (Tryz.prog.underlying 94).map plainB = some true by kernel_rfl) (fun h => by cases h)
theorem tok95 : TOk Tryz.prog 95 ti95 := mkT (.map none) (by kernel_rfl) rfl rfl (show (Tryz.prog.underlying 95).map plainB = some true by kernel_rfl) (fun h => by cases h)
theorem tok96 : TOk Tryz.prog 96 ti96 := mkT (.nilFunc) (by kernel_rfl) rfl rfl (show (Tryz.prog.underlying 96).map plainB = some true by kernel_rfl) (fun h => by cases h)
theorem tok98 : TOk Tryz.prog 98 ti98 := mkT (.nilFunc) (by kernel_rfl) rfl rfl (show (Tryz.prog.underlying 98).map plainB = some true by kernel_rfl) (fun h => by cases h)
theorem tok99 : TOk Tryz.prog 99 ti99 := mkT (.nilFunc) (by kernel_rfl) rfl rfl (show (Tryz.prog.underlying 99).map plainB = some true by kernel_rfl) (fun h => by cases h)
theorem tok100 : TOk Tryz.prog 100 ti100 := mkT (.nilFunc) (by kernel_rfl) rfl rfl (show (Tryz.prog.underlying 100).map plainB = some true by kernel_rfl) (fun h => by cases h)
theorem tok101 : TOk Tryz.prog 101 ti101 := mkT (.nilFunc) (by kernel_rfl) rfl rfl (show (Tryz.prog.underlying 101).map plainB = some true by kernel_rfl) (fun h => by cases h)
theorem tok102 : TOk Tryz.prog 102 ti102 := mkT (.nilFunc) (by kernel_rfl) rfl rfl (show (Tryz.prog.underlying 102).map plainB = some true by kernel_rfl) (fun h => by cases h)
theorem tok103 : TOk Tryz.prog 103 ti103 := mkT (.map none) (by kernel_rfl) rfl rfl (show (Tryz.prog.underlying 103).map plainB = some true by kernel_rfl) (fun h => by cases h)
theorem tok105 : TOk Tryz.prog 105 ti105 := mkT (.nilFunc) (by kernel_rfl) rfl rfl (show (Tryz.prog.underlying 105).map plainB = some true by kernel_rfl) (fun h => by cases h)
theorem tok106 : TOk Tryz.prog 106 ti106 := mkT (.slice none 0 0) (by kernel_rfl) rfl rfl (show Tryz.prog.underlying 106 = some (.slice 108) by kernel_rfl) (fun h => by cases h)
theorem tok107 : TOk Tryz.prog 107 ti107 := mkT (.agg #[.string ⟨#[]⟩, .int .i64 0]) (by kernel_rfl) rfl rfl (show (Tryz.prog.underlying 107).map structFs = some (some [(0, 9), (1, 2)]) by kernel_rfl) (fun _ => eqOk (by kernel_rfl) (by kernel_rfl) (by kernel_rfl) (by kernel_rfl))
theorem tok108 : TOk Tryz.prog 108 ti108 := mkT (.agg #[.string ⟨#[]⟩, .int .i64 0]) (by kernel_rfl) rfl rfl (show (Tryz.prog.underlying 108).map structFs = some (some [(0, 9), (1, 2)]) by kernel_rfl) (fun _ => eqOk (by kernel_rfl) (by kernel_rfl) (by kernel_rfl) (by kernel_rfl))
theorem tok109 : TOk Tryz.prog 109 ti109 := mkT (.pointer none) (by kernel_rfl) rfl rfl (show (Tryz.prog.underlying 109).map plainB = some true by kernel_rfl) (fun h => by cases h)
theorem tok110 : TOk Tryz.prog 110 ti110 := mkT (.slice none 0 0) (by kernel_rfl) rfl rfl (show Tryz.prog.underlying 110 = some (.slice 136) by kernel_rfl) (fun h => by cases h)
theorem tok111 : TOk Tryz.prog 111 ti111 := mkT (.agg #[.slice none 0 0, .map none, .slice none 0 0]) (by kernel_rfl) rfl rfl (show (Tryz.prog.underlying 111).map structFs = some (some [(0, 110), (1, 95), (2, 106)]) by kernel_rfl) (fun h => by cases h)
theorem tok112 : TOk Tryz.prog 112 ti112 := mkT (.agg #[.slice none 0 0, .map none, .slice none 0 0]) (by kernel_rfl) rfl rfl (show (Tryz.prog.underlying 112).map structFs = some (some [(0, 110), (1, 95), (2, 106)]) by kernel_rfl) (fun h => by cases h)
theorem tok113 : TOk Tryz.prog 113 ti113 := mkT (.nilFunc) (by kernel_rfl) rfl rfl (show (Tryz.prog.underlying 113).map plainB = some true by kernel_rfl) (fun h => by cases h)
theorem tok114 : TOk Tryz.prog 114 ti114 := mkT (.nilFunc) (by kernel_rfl) rfl rfl (show (Tryz.prog.underlying 114).map plainB = some true by kernel_rfl) (fun h => by cases h)
theorem tok115 : TOk Tryz.prog 115 ti115 := mkT (.nilFunc) (by kernel_rfl) rfl rfl (show (Tryz.prog.underlying 115).map plainB = some true by kernel_rfl) (fun h => by cases h)
theorem tok116 : TOk Tryz.prog 116 ti116 := mkT (.nilFunc) (by kernel_rfl) rfl rfl (show (Tryz.prog.underlying 116).map plainB = some true by kernel_rfl) (fun h => by cases h)
theorem tok117 : TOk Tryz.prog 117 ti117 := mkT (.nilFunc) (by kernel_rfl) rfl rfl (show (Tryz.prog.underlying 117).map plainB = some true by kernel_rfl) (fun h => by cases h)
theorem tok118 : TOk Tryz.prog 118 ti118 := mkT (.nilFunc) (by kernel_rfl) rfl rfl (show (Tryz.prog.underlying 118).map plainB = some true by kernel_rfl) (fun h => by cases h)
theorem tok119 : TOk Tryz.prog 119 ti119 := mkT (.slice none 0 0) (by kernel_rfl) rfl rfl (show Tryz.prog.underlying 119 = some (.slice 9) by kernel_rfl) (fun h => by cases h)
theorem tok120 : TOk Tryz.prog 120 ti120 := mkT (.nilFunc) (by kernel_rfl) rfl rfl (show (Tryz.prog.underlying 120).map plainB = some true by kernel_rfl) (fun h => by cases h)
theorem tok121 : TOk Tryz.prog 121 ti121 := mkT (.nilFunc) (by kernel_rfl) rfl rfl (show (Tryz.prog.underlying 121).map plainB = some true by kernel_rfl) (fun h => by cases h)
theorem tok122 : TOk Tryz.prog 122 ti122 := mkT (.nilFunc) (by kernel_rfl) rfl rfl (show (Tryz.prog.underlying 122).map plainB = some true by kernel_rfl) (fun h => by cases h)
theorem tok124 : TOk Tryz.prog 124 ti124 := mkT (.nilFunc) (by kernel_rfl) rfl rfl (show (Tryz.prog.underlying 124).map plainB = some true by kernel_rfl) (fun h => by cases h)
theorem tok125 : TOk Tryz.prog 125 ti125 := mkT (.agg #[.int .i64 0, .int .i64 0, .string ⟨#[]⟩, .int .i64 0, .int .i64 0, .string ⟨#[]⟩, .int .i64 0, .int .i64 0, .string ⟨#[]⟩]) (by kernel_rfl) rfl rfl (show Tryz.prog.underlying 125 = some (.array 3 61) by kernel_rfl) (fun h => by cases h)
theorem tok126 : TOk Tryz.prog 126 ti126 := mkT (.nilFunc) (by kernel_rfl) rfl rfl (show (Tryz.prog.underlying 126).map plainB = some true by kernel_rfl) (fun h => by cases h)
theorem tok127 : TOk Tryz.prog 127 ti127 := mkT (.nilFunc) (by kernel_rfl) rfl rfl (show (Tryz.prog.underlying 127).map plainB = some true by kernel_rfl) (fun h => by cases h)
theorem tok128 : TOk Tryz.prog 128 ti128 := mkT (.slice none 0 0) (by kernel_rfl) rfl rfl (show Tryz.prog.underlying 128 = some (.slice 5) by kernel_rfl) (fun h => by cases h)
theorem tok129 : TOk Tryz.prog 129 ti129 := mkT (.nilFunc) (by kernel_rfl) rfl rfl (show (Tryz.prog.underlying 129).map plainB = some true by kernel_rfl) (fun h => by cases h)
theorem tok130 : TOk Tryz.prog 130 ti130 := mkT (.nilFunc) (by kernel_rfl) rfl rfl (show (Tryz.prog.underlying 130).map plainB = some true by kernel_rfl) (fun h => by cases h)
theorem tok131 : TOk Tryz.prog 131 ti131 := mkT (.nilFunc) (by kernel_rfl) rfl rfl (show (Tryz.prog.underlying 131).map plainB = some true by kernel_rfl) (fun h => by cases h)
theorem tok132 : TOk Tryz.prog 132 ti132 := mkT (.nilFunc) (by kernel_rfl) rfl rfl (show (Tryz.prog.underlying 132).map plainB = some true by kernel_rfl) (fun h => by cases h)
theorem tok133 : TOk Tryz.prog 133 ti133 := mkT (.nilFunc) (by kernel_rfl) rfl rfl (show (Tryz.prog.underlying 133).map plainB = some true by kernel_rfl) (fun h => by cases h)
theorem tok135 : TOk Tryz.prog 135 ti135 := mkT (.agg #[.string ⟨#[]⟩, .slice none 0 0]) (by kernel_rfl) rfl rfl (show (Tryz.prog.underlying 135).map structFs = some (some [(0, 9), (1, 119)]) by kernel_rfl) (fun h => by cases h)
theorem tok136 : TOk Tryz.prog 136 ti136 := mkT (.agg #[.string ⟨#[]⟩, .slice none 0 0]) (by kernel_rfl) rfl rfl (show (Tryz.prog.underlying 136).map structFs = some (some [(0, 9), (1, 119)]) by kernel_rfl) (fun h => by cases h)
theorem tok137 : TOk Tryz.prog 137 ti137 := mkT (.nilFunc) (by kernel_rfl) rfl rfl (show (Tryz.prog.underlying 137).map plainB = some true by kernel_rfl) (fun h => by cases h)
theorem tok138 : TOk Tryz.prog 138 ti138 := mkT (.nilFunc) (by kernel_rfl) rfl rfl (show (Tryz.prog.underlying 138).map plainB = some true by kernel_rfl) (fun h => by cases h)
theorem tok139 : TOk Tryz.prog 139 ti139 := mkT (.nilFunc) (by kernel_rfl) rfl rfl (show (Tryz.prog.underlying 139).map plainB = some true by kernel_rfl) (fun h => by cases h)
theorem tok140 : TOk Tryz.prog 140 ti140 := mkT (.nilFunc) (by kernel_rfl) rfl rfl (show (Tryz.prog.underlying 140).map plainB = some true by kernel_rfl) (fun h => by cases h)
theorem tok141 : TOk Tryz.prog 141 ti141 := mkT (.nilFunc) (by kernel_rfl) rfl rfl (show (Tryz.prog.underlying 141).map plainB = some true by kernel_rfl) (fun h => by cases h)
theorem tok142 : TOk Tryz.prog 142 ti142 := mkT (.nilFunc) (by kernel_rfl) rfl rfl (show (Tryz.prog.underlying 142).map plainB = some true by kernel_rfl) (fun h => by cases h)
theorem tok143 : TOk Tryz.prog 143 ti143 := mkT (.nilFunc) (by kernel_rfl) rfl rfl (show (Tryz.prog.underlying 143).map plainB = some true by kernel_rfl) (fun h => by cases h)
theorem tok144 : TOk Tryz.prog 144 ti144 := mkT (.nilFunc) (by kernel_rfl) rfl rfl (show (Tryz.prog.underlying 144).map plainB = some true by kernel_rfl) (fun h => by cases h)
theorem tok145 : TOk Tryz.prog 145 ti145 := mkT (.nilFunc) (by kernel_rfl) rfl rfl (show (Tryz.prog.underlying 145).map plainB = some true by kernel_rfl) (fun h => by cases h)
theorem tok146 : TOk Tryz.prog 146 ti146 := mkT (.int .i64 0) (by kernel_rfl) rfl rfl (show Tryz.prog.underlying 146 = some (.int .i64) by kernel_rfl) (fun h => by cases h)
theorem tok148 : TOk Tryz.prog 148 ti148 := mkT (.nilFunc) (by kernel_rfl) rfl rfl (show (Tryz.prog.underlying 148).map plainB = some true by kernel_rfl) (fun h => by cases h)
theorem tok149 : TOk Tryz.prog 149 ti149 := mkT (.nilFunc) (by kernel_rfl) rfl rfl (show (Tryz.prog.underlying 149).map plainB = some true by kernel_rfl) (fun h => by cases h)
theorem tok150 : TOk Tryz.prog 150 ti150 := mkT (.nilFunc) (by kernel_rfl) rfl rfl (show (Tryz.prog.underlying 150).map plainB = some true by kernel_rfl) (fun h => by cases h)
theorem tok152 : TOk Tryz.prog 152 ti152 := mkT (.nilFunc) (by kernel_rfl) rfl rfl (show (Tryz.prog.underlying 152).map plainB = some true by kernel_rfl) (fun h => by cases h)
theorem tok153 : TOk Tryz.prog 153 ti153 := mkT (.nilFunc) (by kernel_rfl) rfl rfl (show (Tryz.prog.underlying 153).map plainB = some true by kernel_rfl) (fun h => by cases h)
theorem tok154 : TOk Tryz.prog 154 ti154 := mkT (.int .u32 0) (by kernel_rfl) rfl rfl (show Tryz.prog.underlying 154 = some (.int .u32) by kernel_rfl) (fun h => by cases h)
theorem tok155 : TOk Tryz.prog 155 ti155 := mkT (.nilFunc) (by kernel_rfl) rfl rfl (show (Tryz.prog.underlying 155).map plainB = some true by kernel_rfl) (fun h => by cases h)
theorem tok156 : TOk Tryz.prog 156 ti156 := mkT (.int .u64 0) (by kernel_rfl) rfl rfl (show Tryz.prog.underlying 156 = some (.int .u64) by kernel_rfl) (fun h => by cases h)
theorem tok157 : TOk Tryz.prog 157 ti157 := mkT (.nilFunc) (by kernel_rfl) rfl rfl (show (Tryz.prog.underlying 157).map plainB = some true by kernel_rfl) (fun h => by cases h)
theorem tok158 : TOk Tryz.prog 158 ti158 := mkT (.int .u64 0) (by kernel_rfl) rfl rfl (show Tryz.prog.underlying 158 = some (.int .u64) by kernel_rfl) (fun h => by cases h)
theorem tok159 : TOk Tryz.prog 159 ti159 := mkT (.nilFunc) (by kernel_rfl) rfl rfl (show (Tryz.prog.underlying 159).map plainB = some true by kernel_rfl) (fun h => by cases h)
theorem tok160 : TOk Tryz.prog 160 ti160 := mkT (.nilFunc) (by kernel_rfl) rfl rfl (show (Tryz.prog.underlying 160).map plainB = some true by kernel_rfl) (fun h => by cases h)
theorem tok161 : TOk Tryz.prog 161 ti161 := mkT (.nilFunc) (by kernel_rfl) rfl rfl (show (Tryz.prog.underlying 161).map plainB = some true by kernel_rfl) (fun h => by cases h)
theorem tok162 : TOk Tryz.prog 162 ti162 := mkT (.pointer none) (by kernel_rfl) rfl rfl (show (Tryz.prog.underlying 162).map plainB = some true by kernel_rfl) (fun h => by cases h)
theorem tok163 : TOk Tryz.prog 163 ti163 := mkT (.nilFunc) (by kernel_rfl) rfl rfl (show (Tryz.prog.underlying 163).map plainB = some true by kernel_rfl) (fun h => by cases h)
theorem tok164 : TOk Tryz.prog 164 ti164 := mkT (.nilFunc) (by kernel_rfl) rfl rfl (show (Tryz.prog.underlying 164).map plainB = some true by kernel_rfl) (fun h => by cases h)
theorem tok165 : TOk Tryz.prog 165 ti165 := mkT (.pointer none) (by kernel_rfl) rfl rfl (show (Tryz.prog.underlying 165).map plainB = some true by kernel_rfl) (fun h => by cases h)
theorem tok166 : TOk Tryz.prog 166 ti166 := mkT (.nilFunc) (by kernel_rfl) rfl rfl (show (Tryz.prog.underlying 166).map plainB = some true by kernel_rfl) (fun h => by cases h)
theorem tok167 : TOk Tryz.prog 167 ti167 := mkT (.nilFunc) (by kernel_rfl) rfl rfl (show (Tryz.prog.underlying 167).map plainB = some true by kernel_rfl) (fun h => by cases h)
theorem tok173 : TOk Tryz.prog 173 ti173 := mkT (.nilFunc) (by kernel_rfl) rfl rfl (show (Tryz.prog.underlying 173).map plainB = some true by kernel_rfl) (fun h => by cases h)
theorem tok176 : TOk Tryz.prog 176 ti176 := mkT (.nilFunc) (by kernel_rfl) rfl rfl (show (Tryz.prog.underlying 176).map plainB = some true by kernel_rfl) (fun h => by cases h)
theorem tok177 : TOk Tryz.prog 177 ti177 := mkT (.pointer none) (by kernel_rfl) rfl rfl (show (Tryz.prog.underlying 177).map plainB = some true by kernel_rfl) (fun h => by cases h)
theorem hT : TypesOk Tryz.prog T := typesOk (show tyAll Tryz.prog tbl from ⟨⟨⟨⟨⟨⟨⟨⟨trivial, tok1, trivial⟩, tok2, trivial⟩, tok3, ⟨trivial, tok4, trivial⟩⟩, tok5, ⟨⟨⟨trivial, tok9, trivial⟩, tok12, trivial⟩, tok20, ⟨trivial, tok21, trivial⟩⟩⟩, tok22, ⟨⟨⟨⟨trivial, tok23, trivial⟩, tok24, trivial⟩, tok25, ⟨trivial, tok26, trivial⟩⟩, tok27, ⟨⟨trivial, tok28, trivial⟩, tok29, ⟨trivial, tok30, trivial⟩⟩⟩⟩, tok31, ⟨⟨⟨⟨⟨trivial, tok32, trivial⟩, tok33, trivial⟩, tok34, ⟨trivial, tok35, trivial⟩⟩, tok36, ⟨⟨⟨trivial, tok37, trivial⟩, tok38, trivial⟩, tok39, ⟨trivial, tok40, trivial⟩⟩⟩, tok41, ⟨⟨⟨⟨trivial, tok42, trivial⟩, tok43, trivial⟩, tok44, ⟨trivial, tok45, trivial⟩⟩, tok47, ⟨⟨trivial, tok49, trivial⟩, tok50, ⟨trivial, tok51, trivial⟩⟩⟩⟩⟩, tok52, ⟨⟨⟨⟨⟨⟨trivial, tok53, trivial⟩, tok54, trivial⟩, tok55, ⟨trivial, tok56, trivial⟩⟩, tok57, ⟨⟨⟨trivial, tok58, trivial⟩, tok59, trivial⟩, tok60, ⟨trivial, tok61, trivial⟩⟩⟩, tok62, ⟨⟨⟨⟨trivial, tok63, trivial⟩, tok64, trivial⟩, tok65, ⟨trivial, tok66, trivial⟩⟩, tok67, ⟨⟨trivial, tok68, trivial⟩, tok69, ⟨trivial, tok70, trivial⟩⟩⟩⟩, tok71, ⟨⟨⟨⟨⟨trivial, tok72, trivial⟩, tok73, trivial⟩, tok74, ⟨trivial, tok75, trivial⟩⟩, tok76, ⟨⟨trivial, tok77, trivial⟩, tok78, ⟨trivial, tok79, trivial⟩⟩⟩, tok80, ⟨⟨⟨⟨trivial, tok81, trivial⟩, tok82, trivial⟩, tok83, ⟨trivial, tok84, trivial⟩⟩, tok85, ⟨⟨trivial, tok86, trivial⟩, tok87, ⟨trivial, tok88, trivial⟩⟩⟩⟩⟩⟩, tok89, ⟨⟨⟨⟨⟨⟨⟨trivial, tok90, trivial⟩, tok91, trivial⟩, tok92, ⟨trivial, tok94, trivial⟩⟩, tok95, ⟨⟨⟨trivial, tok96, trivial⟩, tok98, trivial⟩, tok99, ⟨trivial, tok100, trivial⟩⟩⟩, tok101, ⟨⟨⟨⟨trivial, tok102, trivial⟩, tok103, trivial⟩, tok105, ⟨trivial, tok106, trivial⟩⟩, tok107, ⟨⟨trivial, tok108, trivial⟩, tok109, ⟨trivial, tok110, trivial⟩⟩⟩⟩, tok111, ⟨⟨⟨⟨⟨trivial, tok112, trivial⟩, tok113, trivial⟩, tok114, ⟨trivial, tok115, trivial⟩⟩, tok116, ⟨⟨⟨trivial, tok117, trivial⟩, tok118, trivial⟩, tok119, ⟨trivial, tok120, trivial⟩⟩⟩, tok121, ⟨⟨⟨⟨trivial, tok122, trivial⟩, tok124, trivial⟩, tok125, ⟨trivial, tok126, trivial⟩⟩, tok127, ⟨⟨trivial, tok128, trivial⟩, tok129, ⟨trivial, tok130, trivial⟩⟩⟩⟩⟩, tok131, ⟨⟨⟨⟨⟨⟨trivial, tok132, trivial⟩, tok133, trivial⟩, tok135, ⟨trivial, tok136, trivial⟩⟩, tok137, ⟨⟨⟨trivial, tok138, trivial⟩, tok139, trivial⟩, tok140, ⟨trivial, tok141, trivial⟩⟩⟩, tok142, ⟨⟨⟨⟨trivial, tok143, trivial⟩, tok144, trivial⟩, tok145, ⟨trivial, tok146, trivial⟩⟩, tok148, ⟨⟨trivial, tok149, trivial⟩, tok150, ⟨trivial, tok152, trivial⟩⟩⟩⟩, tok153, ⟨⟨⟨⟨⟨trivial, tok154, trivial⟩, tok155, trivial⟩, tok156, ⟨trivial, tok157, trivial⟩⟩, tok158, ⟨⟨trivial, tok159, trivial⟩, tok160, ⟨trivial, tok161, trivial⟩⟩⟩, tok162, ⟨⟨⟨⟨trivial, tok163, trivial⟩, tok164, trivial⟩, tok165, ⟨trivial, tok166, trivial⟩⟩, tok167, ⟨⟨trivial, tok173, trivial⟩, tok176, ⟨trivial, tok177, trivial⟩⟩⟩⟩⟩⟩⟩)
theorem hmix : Tryz.prog.follows .mixedOrders = true := by kernel_rfl
instance tcI : TC Tryz.prog T := ⟨hT, hmix⟩
instance mt95 : MapTy Tryz.prog 95 9 2 := ⟨by kernel_rfl⟩
instance ko9 : KeyOk Tryz.prog 9 IsStr := keyStr (by kernel_rfl)
instance zv2 : ZeroV Tryz.prog 2 (.one (.lit (.int .i64 0))) := zeroV_lit (by kernel_rfl) rfl
instance mt103 : MapTy Tryz.prog 103 9 106 := ⟨by kernel_rfl⟩
instance zv106 : ZeroV Tryz.prog 106 (.one (.sl [])) := zeroV_nil (by kernel_rfl)
end Go.Proofs.YtiidgbfdghplhaaGreat
end
section
section
namespace Go.Proofs.YtiidgbfdghplhaaGreat
open Go.Abs Go.RowKit
attribute [local irreducible] ARun kont MCall PCall HCall resVal SF CF CFs defersOk slotsIn memIn fin finM VLe
set_option linter.unusedSimpArgs false
set_option maxRecDepth 100000

structure Val where
  kind : Int
  int : Int
  text : ByteArray

def Val.d (v : Val) : List Dat := [.lit (.int .i64 v.kind), .lit (.int .i64 v.int), .lit (.string v.text)]

def Val.valid (v : Val) : Bool :=
  if v.kind = 0 then decide (v.int = 0) && v.text.toList.isEmpty
  else if v.kind = 1 then decide (-4294967296 ≤ v.int) && decide (v.int ≤ 4294967296) && v.text.toList.isEmpty
  else if v.kind = 2 then decide (v.int = 0) && decide (v.text.size ≤ 32)
  else false

theorem bytes_nil (s : ByteArray) : (s.toList == ({ data := #[] } : ByteArray).toList) = s.toList.isEmpty := by
  have : ({ data := #[] } : ByteArray).toList = [] := by rw [ByteArray.toList_eq]
  rw [this]
  cases s.toList <;> rfl

theorem valid_c (v : Val) : PCall Tryz.prog 124 [.agg v.d] (.v (.one (.lit (.bool v.valid)))) := by
  refine pcallN hT Tryz.func124 Tryz.ntmps124 [.tmp 2] fun B => ?_
  repeat' (first | (with_reducible (first | refine k_seq ?_ | refine k_block ?_ | refine k_skip ?_ | refine k_ret ?_ | refine n_seq ?_ | refine n_block ?_ | refine r_seq ?_ | refine r_block ?_)) | refine s_reg ?_ | refine s_if rfl (fun hb => ?_) (fun hb => ?_) | refine r_end ?_ | refine s_skipS ?_ | refine s_move ?_ | refine s_assign ?_ | refine s_int ?_ | refine s_str ?_ | refine s_loadB1 ?_ | refine s_fieldB ?_ | refine s_pick ?_ | refine s_lenS ?_ | refine s_box ?_ | refine s_split rfl rfl (fun hb => ?_) (fun hb => ?_) | refine f_ret1 def_nil ?_ | refine t_tmp ?_)
  all_goals (refine congrArg Dat.lit (congrArg Value.bool ?_); simp_all [Val.valid, bytes_nil])
  all_goals (intros; omega)

def Val.null : Val := ⟨0, 0, ⟨#[]⟩⟩
def Val.clean (v : Val) : Val := if v.valid then v else Val.null

theorem clean_c (v : Val) : PCall Tryz.prog 116 [.agg v.d] (.v (.agg v.clean.d)) := by
  refine pcallN hT Tryz.func116 Tryz.ntmps116 [.cell 2 61] fun B => ?_
  repeat' (first | (with_reducible (first | refine k_seq ?_ | refine k_skip ?_ | refine k_ret ?_ | refine n_seq ?_ | refine r_seq ?_)) | refine s_reg ?_ | refine s_if rfl (fun hb => ?_) (fun hb => ?_) | refine r_end ?_ | refine s_loadBA ?_ | refine s_call (valid_c _) ?_ | refine s_storeB ?_ | refine s_alloc ?_ | refine s_box ?_ | refine s_build ?_ | refine f_ret1 def_nil ?_ | refine t_cellG ?_ | exact cfs_nil | refine cfs_cons ?_ ?_ | refine cf_d ?_)
  all_goals simp_all [Val.clean, Val.null]

theorem refValid_c (v : Val) : PCall Tryz.prog 98 [.agg v.d] (.v (.one (.lit (.bool v.valid)))) := by
  refine pcallN hT Tryz.func98 Tryz.ntmps98 [.tmp 2] fun B => ?_
  repeat' (first | (with_reducible (first | refine k_seq ?_ | refine k_block ?_ | refine k_skip ?_ | refine k_ret ?_ | refine n_seq ?_ | refine n_block ?_ | refine r_seq ?_ | refine r_block ?_)) | refine s_reg ?_ | refine s_if rfl (fun hb => ?_) (fun hb => ?_) | refine r_end ?_ | refine s_skipS ?_ | refine s_move ?_ | refine s_assign ?_ | refine s_int ?_ | refine s_str ?_ | refine s_loadB1 ?_ | refine s_fieldB ?_ | refine s_pick ?_ | refine s_lenS ?_ | refine s_box ?_ | refine s_split rfl rfl (fun hb => ?_) (fun hb => ?_) | refine f_ret1 def_nil ?_ | refine t_tmp ?_)
  all_goals (refine congrArg Dat.lit (congrArg Value.bool ?_); simp_all [Val.valid, bytes_nil])
  all_goals (intros; omega)

theorem refClean_c (v : Val) : PCall Tryz.prog 68 [.agg v.d] (.v (.agg v.clean.d)) := by
  refine pcallN hT Tryz.func68 Tryz.ntmps68 [.cell 2 61] fun B => ?_
  repeat' (first | (with_reducible (first | refine k_seq ?_ | refine k_skip ?_ | refine k_ret ?_ | refine n_seq ?_ | refine r_seq ?_)) | refine s_reg ?_ | refine s_if rfl (fun hb => ?_) (fun hb => ?_) | refine r_end ?_ | refine s_loadBA ?_ | refine s_call (refValid_c _) ?_ | refine s_storeB ?_ | refine s_alloc ?_ | refine s_box ?_ | refine s_build ?_ | refine f_ret1 def_nil ?_ | refine t_cellG ?_ | exact cfs_nil | refine cfs_cons ?_ ?_ | refine cf_d ?_)
  all_goals simp_all [Val.clean, Val.null]

def Val.ofInt (n : Int) : Val := Val.clean ⟨1, n, ⟨#[]⟩⟩

theorem refInt_c (n : Int) : PCall Tryz.prog 67 [.one (.lit (.int .i64 n))] (.v (.agg (Val.ofInt n).d)) := by
  refine pcallN hT Tryz.func67 Tryz.ntmps67 [.cell 2 61] fun B => ?_
  repeat' (first | (with_reducible (first | refine k_seq ?_ | refine k_ret ?_ | refine n_seq ?_)) | refine s_reg ?_ | refine r_end ?_ | refine s_move ?_ | refine s_call (refClean_c ⟨1, n, ⟨#[]⟩⟩) ?_ | refine s_storeB ?_ | refine s_alloc ?_ | refine s_build ?_ | refine f_ret1 def_nil ?_ | refine t_cellG ?_ | exact cfs_nil | refine cfs_cons ?_ ?_ | refine cf_d ?_)
  all_goals rfl

def icmp (a b : Int) : Int := if a < b then -1 else if a > b then 1 else 0

theorem isNaN_c (a : Int) : PCall Tryz.prog 127 [.one (.lit (.int .i64 a))] (.v (.one (.lit (.bool false)))) := by
  refine pcallN hT Tryz.func127 Tryz.ntmps127 [.tmp 2] fun B => ?_
  repeat' (first | (with_reducible (first | refine k_seq ?_ | refine k_ret ?_ | refine n_seq ?_)) | refine s_reg ?_ | refine r_end ?_ | refine s_move ?_ | refine s_assign ?_ | refine s_int ?_ | refine f_ret1 def_nil ?_ | refine t_tmp ?_)
  all_goals simp
theorem isNaN64_c (a : Int) : PCall Tryz.prog 150 [.one (.lit (.int .i64 a))] (.v (.one (.lit (.bool false)))) := by
  refine pcallN hT Tryz.func150 Tryz.ntmps150 [.tmp 2] fun B => ?_
  repeat' (first | (with_reducible (first | refine k_seq ?_ | refine k_ret ?_ | refine n_seq ?_)) | refine s_reg ?_ | refine r_end ?_ | refine s_move ?_ | refine s_assign ?_ | refine s_int ?_ | refine f_ret1 def_nil ?_ | refine t_tmp ?_)
  all_goals simp
theorem cmpInt_c (a b : Int) : PCall Tryz.prog 103 [.one (.lit (.int .i64 a)), .one (.lit (.int .i64 b))] (.v (.one (.lit (.int .i64 (icmp a b))))) := by
  refine pcallN hT Tryz.func103 Tryz.ntmps103 [.tmp 4] fun B => ?_
  repeat' (first | (with_reducible (first | refine k_seq ?_ | refine k_skip ?_ | refine k_ret ?_ | refine n_seq ?_ | refine r_seq ?_)) | refine s_reg ?_ | refine s_ifF ?_ | refine s_if rfl (fun hb => ?_) (fun hb => ?_) | refine r_end ?_ | refine s_move ?_ | refine s_assign ?_ | refine s_int ?_ | refine s_call (isNaN_c _) ?_ | refine f_ret1 def_nil ?_ | refine t_tmp ?_)
  all_goals (refine congrArg Dat.lit (congrArg (Value.int _) ?_); simp_all [icmp])
  all_goals omega
theorem cmpInt64_c (a b : Int) : PCall Tryz.prog 125 [.one (.lit (.int .i64 a)), .one (.lit (.int .i64 b))] (.v (.one (.lit (.int .i64 (icmp a b))))) := by
  refine pcallN hT Tryz.func125 Tryz.ntmps125 [.tmp 4] fun B => ?_
  repeat' (first | (with_reducible (first | refine k_seq ?_ | refine k_skip ?_ | refine k_ret ?_ | refine n_seq ?_ | refine r_seq ?_)) | refine s_reg ?_ | refine s_ifF ?_ | refine s_if rfl (fun hb => ?_) (fun hb => ?_) | refine r_end ?_ | refine s_move ?_ | refine s_assign ?_ | refine s_int ?_ | refine s_call (isNaN64_c _) ?_ | refine f_ret1 def_nil ?_ | refine t_tmp ?_)
  all_goals (refine congrArg Dat.lit (congrArg (Value.int _) ?_); simp_all [icmp])
  all_goals omega
end Go.Proofs.YtiidgbfdghplhaaGreat
end
section
namespace Go.Proofs.YtiidgbfdghplhaaGreat
open Go.Abs Go.RowKit
set_option linter.unusedSimpArgs false
set_option maxRecDepth 100000

set_option maxHeartbeats 1000000 in
theorem compareString_c0 (a b : ByteArray) (w : World) :
    Calls Tryz.prog 151 #[.string a, .string b] w fun e w' => e = .returned (.int .i64 (Lib.compareBytes a.data.toList b.data.toList)) ∧ w' = w := by
  go_enter Tryz.func151, Tryz.ntmps151
  go_wp2
  rw [run_callFunc_extern Tryz.func161 (by kernel_rfl) (by kernel_rfl) (by kernel_rfl) (e := Extern.BytealgCompare.compare) (by kernel_rfl), Lib.run_compareString]
  simp only [Result.andThen]
  rw [Oper.upon_value]
  go_wp2
  go_ret
  exact ⟨rfl, rfl⟩

def bcmp (a b : ByteArray) : Int := Lib.compareBytes a.toList b.toList

theorem compareString_c (a b : ByteArray) : PCall Tryz.prog 151 [.one (.lit (.string a)), .one (.lit (.string b))] (.v (.one (.lit (.int .i64 (bcmp a b))))) := by
  refine ⟨⟨_, Tryz.func151, by kernel_rfl, by kernel_rfl⟩, fun F w vs hF hl hv => ?_⟩
  match vs, hl with
  | [x, y], _ =>
    clear hl
    have h1 := (hv 0 x _ rfl rfl)
    have h2 := (hv 1 y _ rfl rfl)
    clear hv
    obtain rfl := h1.lit_inv
    obtain rfl := h2.lit_inv
    refine Calls.mono (compareString_c0 a b w) fun e w' he => ?_
    obtain ⟨rfl, rfl⟩ := he
    refine ⟨_, rfl, Bel.refl _ _, .c (.d ?_)⟩
    rw [bcmp, ByteArray.toList_eq, ByteArray.toList_eq]
    exact .lit _ rfl

attribute [local irreducible] ARun kont MCall PCall HCall resVal SF CF CFs defersOk slotsIn memIn fin finM VLe

theorem stringsCompare_c (a b : ByteArray) : PCall Tryz.prog 126 [.one (.lit (.string a)), .one (.lit (.string b))] (.v (.one (.lit (.int .i64 (bcmp a b))))) := by
  refine pcallN hT Tryz.func126 Tryz.ntmps126 [.tmp 4] fun B => ?_
  repeat' (first | (with_reducible (first | refine k_seq ?_ | refine k_ret ?_ | refine n_seq ?_)) | refine s_reg ?_ | refine r_end ?_ | refine s_move ?_ | refine s_assign ?_ | refine s_call (compareString_c _ _) ?_ | refine f_ret1 def_nil ?_ | refine t_tmp ?_)
  all_goals rfl

theorem compareBytes_eq : ∀ (x y : List UInt8), Lib.compareBytes x y = if x == y then 0 else if Op.bytesLess x y then -1 else 1
  | [], [] => by simp [Lib.compareBytes]
  | [], _ :: _ => by simp [Lib.compareBytes, Op.bytesLess]
  | _ :: _, [] => by simp [Lib.compareBytes, Op.bytesLess]
  | a :: x, b :: y => by
    simp only [Lib.compareBytes, Op.bytesLess, compareBytes_eq x y, List.cons_beq_cons, beq_iff_eq]
    by_cases h : a < b
    · have : ¬ a = b := fun e => by subst e; exact absurd h (UInt8.lt_irrefl a)
      simp [h, this]
    · by_cases h2 : b < a
      · have : ¬ a = b := fun e => by subst e; exact absurd h2 (UInt8.lt_irrefl a)
        simp [h, h2, this]
      · have : a = b := UInt8.le_antisymm (UInt8.not_lt.1 h2) (UInt8.not_lt.1 h)
        subst this
        simp [h]

def Val.same (a b : Val) : Bool := (a.kind == b.kind) && ((a.int == b.int) && (a.text.toList == b.text.toList))
def Val.less (a b : Val) : Bool := decide (a.kind < b.kind) || ((a.kind == b.kind) && (decide (a.int < b.int) || Op.bytesLess a.text.toList b.text.toList))
def Val.cmp (a b : Val) : Int := if a.clean.same b.clean then 0 else if a.clean.less b.clean then -1 else 1

theorem clean_valid (v : Val) : v.clean.valid = true := by
  unfold Val.clean
  split
  · assumption
  · simp [Val.null, Val.valid]

theorem valid_text {v : Val} (h : v.valid = true) (hk : v.kind ≠ 2) : v.text.toList = [] := by
  unfold Val.valid at h
  split at h
  · simp at h; exact h.2
  · split at h
    · simp at h; exact h.2
    · simp [hk] at h

theorem valid_int {v : Val} (h : v.valid = true) (hk : v.kind ≠ 1) : v.int = 0 := by
  unfold Val.valid at h
  rw [if_neg hk] at h
  split at h
  · simp at h; exact h.1
  · split at h
    · simp at h; exact h.1
    · simp at h

theorem icmp_kind {x y : Val} (h : ¬ x.kind = y.kind) : icmp x.kind y.kind = if x.same y = true then 0 else if x.less y = true then -1 else 1 := by
  simp only [icmp, Val.same, Val.less, beq_false_of_ne h, Bool.false_and, Bool.or_false, decide_eq_true_eq, Bool.false_eq_true, if_false]
  split
  · rfl
  · rw [if_pos (by omega)]

theorem icmp_int {x y : Val} (hx : x.valid = true) (hy : y.valid = true) (hk : x.kind = 1) (h : x.kind = y.kind) : icmp x.int y.int = if x.same y = true then 0 else if x.less y = true then -1 else 1 := by
  simp only [icmp, Val.same, Val.less, valid_text hx (by omega), valid_text hy (by omega), h]
  simp [Op.bytesLess]
  by_cases h1 : x.int < y.int
  · simp [h1, show ¬ x.int = y.int by omega]
  · by_cases h2 : y.int < x.int
    · simp [h1, h2, show ¬ x.int = y.int by omega]
    · simp [h1, h2, show x.int = y.int by omega]

theorem icmp_text {x y : Val} (hx : x.valid = true) (hy : y.valid = true) (hk : x.kind = 2) (h : x.kind = y.kind) : bcmp x.text y.text = if x.same y = true then 0 else if x.less y = true then -1 else 1 := by
  simp only [bcmp, Val.same, Val.less, valid_int hx (by omega), valid_int hy (by omega), h, compareBytes_eq]
  simp

theorem icmp_null {x y : Val} (hx : x.valid = true) (hy : y.valid = true) (h1 : ¬ x.kind = 1) (h2 : ¬ x.kind = 2) (h : x.kind = y.kind) : (0 : Int) = if x.same y = true then 0 else if x.less y = true then -1 else 1 := by
  have : x.same y = true := by
    simp only [Val.same, valid_text hx (by omega), valid_text hy (by omega), valid_int hx (by omega), valid_int hy (by omega), h]
    simp
  rw [if_pos this]

theorem refCompare_c (a b : Val) : PCall Tryz.prog 104 [.agg a.d, .agg b.d] (.v (.one (.lit (.int .i64 (a.cmp b))))) := by
  refine pcallN hT Tryz.func104 Tryz.ntmps104 [.tmp 4] fun B => ?_
  repeat' (first | (with_reducible (first | refine k_seq ?_ | refine k_skip ?_ | refine k_ret ?_ | refine n_seq ?_ | refine r_seq ?_)) | refine s_reg ?_ | refine s_ifT ?_ | refine s_ifF ?_ | refine s_if rfl (fun hb => ?_) (fun hb => ?_) | refine r_end ?_ | refine s_endD ?_ | refine s_skipS ?_ | refine s_skipU ?_ | refine s_move ?_ | refine s_assign ?_ | refine s_int ?_ | refine s_str ?_ | refine s_eqA ?_ | refine s_loadB1 ?_ | refine s_loadBA ?_ | refine s_fieldB ?_ | refine s_call (refClean_c _) ?_ | refine s_pick ?_ | refine s_storeB ?_ | refine s_box ?_ | refine s_split rfl rfl (fun hb => ?_) (fun hb => ?_) | refine f_ret1 def_nil ?_ | refine t_tmp ?_)
  all_goals (refine congrArg Dat.lit (congrArg (Value.int _) ?_))
  all_goals unfold Val.cmp
  all_goals (generalize a.clean = x at *; generalize b.clean = y at *)
  all_goals simp_all [Val.cmp, Val.same, Val.less, litsEq, litEq]
  · rw [if_neg (by rintro ⟨h1, h2⟩; exact absurd h2 (by simp_all)), if_neg (by omega)]

theorem compare_c (a b : Val) : PCall Tryz.prog 102 [.agg a.d, .agg b.d] (.v (.one (.lit (.int .i64 (a.cmp b))))) := by
  refine pcallN hT Tryz.func102 Tryz.ntmps102 [.tmp 4] fun B => ?_
  repeat' (first | (with_reducible (first | refine k_seq ?_ | refine k_block ?_ | refine k_skip ?_ | refine k_ret ?_ | refine n_seq ?_ | refine n_block ?_ | refine r_seq ?_ | refine r_block ?_)) | refine s_reg ?_ | refine s_if rfl (fun hb => ?_) (fun hb => ?_) | refine r_end ?_ | refine s_endD ?_ | refine s_assign ?_ | refine s_int ?_ | refine s_loadB1 ?_ | refine s_loadBA ?_ | refine s_fieldB ?_ | refine s_call (clean_c _) ?_ | refine s_call (cmpInt_c _ _) ?_ | refine s_call (cmpInt64_c _ _) ?_ | refine s_call (stringsCompare_c _ _) ?_ | refine s_storeB ?_ | refine s_box ?_ | refine f_ret1 def_nil ?_ | refine t_tmp ?_)
  all_goals (refine congrArg Dat.lit (congrArg (Value.int _) ?_))
  all_goals unfold Val.cmp
  all_goals (have hx := clean_valid a; have hy := clean_valid b; generalize a.clean = x at *; generalize b.clean = y at *)
  · exact icmp_kind (by simpa using hb)
  · exact icmp_int hx hy (by simp_all) (by simp_all)
  · exact icmp_text hx hy (by simp_all) (by simp_all)
  · exact icmp_null hx hy (by simp_all) (by simp_all) (by simp_all)
end Go.Proofs.YtiidgbfdghplhaaGreat
end
end
