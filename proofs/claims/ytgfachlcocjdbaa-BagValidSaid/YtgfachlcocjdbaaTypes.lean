/-
  The table of the types of the program, and that it is the program's own. Printed by a program of ours out of the translation.
-/
import Derived.Test.YtgfachlcocjdbaaByt
import Derived.Test.YtgfachlcocjdbaaProg
namespace Go.Proofs.Ytgfachlcocjdbaa
open Go.Abs

def ti1 : TI := { size := 1, bytes := 8, zero := [.nilFunc], desc := .plain }
def ti2 : TI := { size := 1, bytes := 8, zero := [.int .i64 0], desc := .int .i64 }
def ti3 : TI := { size := 1, bytes := 8, zero := [.int .i64 0], desc := .int .i64 }
def ti4 : TI := { size := 1, bytes := 1, zero := [.bool false], desc := .bool }
def ti5 : TI := { size := 1, bytes := 1, zero := [.int .u8 0], desc := .int .u8 }
def ti9 : TI := { size := 1, bytes := 16, zero := [.string ⟨#[]⟩], desc := .str }
def ti12 : TI := { size := 1, bytes := 8, zero := [.int .u64 0], desc := .int .u64 }
def ti20 : TI := { size := 1, bytes := 16, zero := [.nilIface], desc := .plain }
def ti21 : TI := { size := 1, bytes := 4, zero := [.int .i32 0], desc := .int .i32 }
def ti22 : TI := { size := 1, bytes := 24, zero := [.slice none 0 0], desc := .slice 3 }
def ti23 : TI := { size := 1, bytes := 24, zero := [.slice none 0 0], desc := .slice 34 }
def ti24 : TI := { size := 1, bytes := 8, zero := [.pointer none], desc := .plain }
def ti25 : TI := { size := 1, bytes := 8, zero := [.nilFunc], desc := .plain }
def ti26 : TI := { size := 1, bytes := 8, zero := [.nilFunc], desc := .plain }
def ti27 : TI := { size := 1, bytes := 8, zero := [.nilFunc], desc := .plain }
def ti28 : TI := { size := 1, bytes := 8, zero := [.nilFunc], desc := .plain }
def ti29 : TI := { size := 1, bytes := 8, zero := [.nilFunc], desc := .plain }
def ti30 : TI := { size := 1, bytes := 8, zero := [.nilFunc], desc := .plain }
def ti31 : TI := { size := 1, bytes := 8, zero := [.nilFunc], desc := .plain }
def ti32 : TI := { size := 1, bytes := 24, zero := [.slice none 0 0], desc := .slice 41 }
def ti33 : TI := { size := 2, bytes := 32, zero := [.slice none 0 0, .int .i64 0], desc := .struct [(0, 32), (1, 2)] }
def ti34 : TI := { size := 2, bytes := 32, zero := [.slice none 0 0, .int .i64 0], desc := .struct [(0, 32), (1, 2)] }
def ti35 : TI := { size := 1, bytes := 8, zero := [.int .i64 0], desc := .int .i64 }
def ti37 : TI := { size := 1, bytes := 8, zero := [.nilFunc], desc := .plain }
def ti38 : TI := { size := 1, bytes := 8, zero := [.nilFunc], desc := .plain }
def ti39 : TI := { size := 1, bytes := 8, zero := [.nilFunc], desc := .plain }
def ti40 : TI := { size := 3, bytes := 32, zero := [.int .i64 0, .int .i64 0, .string ⟨#[]⟩], desc := .struct [(0, 3), (1, 2), (2, 9)], eqs := true }
def ti41 : TI := { size := 3, bytes := 32, zero := [.int .i64 0, .int .i64 0, .string ⟨#[]⟩], desc := .struct [(0, 3), (1, 2), (2, 9)], eqs := true }
def ti42 : TI := { size := 1, bytes := 8, zero := [.nilFunc], desc := .plain }
def ti43 : TI := { size := 1, bytes := 8, zero := [.nilFunc], desc := .plain }
def ti44 : TI := { size := 1, bytes := 8, zero := [.nilFunc], desc := .plain }
def ti45 : TI := { size := 1, bytes := 8, zero := [.nilFunc], desc := .plain }
def ti46 : TI := { size := 1, bytes := 8, zero := [.nilFunc], desc := .plain }
def ti47 : TI := { size := 1, bytes := 24, zero := [.slice none 0 0], desc := .slice 23 }
def ti48 : TI := { size := 1, bytes := 8, zero := [.nilFunc], desc := .plain }
def ti49 : TI := { size := 1, bytes := 8, zero := [.nilFunc], desc := .plain }
def ti50 : TI := { size := 1, bytes := 8, zero := [.nilFunc], desc := .plain }
def ti51 : TI := { size := 1, bytes := 8, zero := [.nilFunc], desc := .plain }
def ti52 : TI := { size := 2, bytes := 32, zero := [.slice none 0 0, .int .i64 0], desc := .struct [(0, 22), (1, 3)] }
def ti53 : TI := { size := 2, bytes := 32, zero := [.slice none 0 0, .int .i64 0], desc := .struct [(0, 22), (1, 3)] }
def ti54 : TI := { size := 1, bytes := 8, zero := [.nilFunc], desc := .plain }
def ti55 : TI := { size := 1, bytes := 24, zero := [.slice none 0 0], desc := .slice 2 }
def ti56 : TI := { size := 1, bytes := 8, zero := [.int .u64 0], desc := .int .u64 }
def ti57 : TI := { size := 1, bytes := 8, zero := [.map none], desc := .plain }
def ti58 : TI := { size := 1, bytes := 8, zero := [.nilFunc], desc := .plain }
def ti59 : TI := { size := 1, bytes := 8, zero := [.nilFunc], desc := .plain }
def ti61 : TI := { size := 1, bytes := 8, zero := [.nilFunc], desc := .plain }
def ti62 : TI := { size := 1, bytes := 8, zero := [.nilFunc], desc := .plain }
def ti63 : TI := { size := 1, bytes := 8, zero := [.nilFunc], desc := .plain }
def ti64 : TI := { size := 1, bytes := 8, zero := [.nilFunc], desc := .plain }
def ti65 : TI := { size := 1, bytes := 8, zero := [.nilFunc], desc := .plain }
def ti66 : TI := { size := 1, bytes := 8, zero := [.nilFunc], desc := .plain }
def ti67 : TI := { size := 1, bytes := 8, zero := [.nilFunc], desc := .plain }
def ti68 : TI := { size := 1, bytes := 8, zero := [.nilFunc], desc := .plain }
def ti69 : TI := { size := 1, bytes := 8, zero := [.nilFunc], desc := .plain }
def ti70 : TI := { size := 1, bytes := 8, zero := [.nilFunc], desc := .plain }
def ti71 : TI := { size := 1, bytes := 8, zero := [.nilFunc], desc := .plain }
def ti72 : TI := { size := 1, bytes := 8, zero := [.nilFunc], desc := .plain }
def ti74 : TI := { size := 1, bytes := 8, zero := [.nilFunc], desc := .plain }
def ti75 : TI := { size := 1, bytes := 8, zero := [.nilFunc], desc := .plain }
def ti76 : TI := { size := 1, bytes := 24, zero := [.slice none 0 0], desc := .slice 5 }
def ti77 : TI := { size := 1, bytes := 8, zero := [.nilFunc], desc := .plain }
def ti79 : TI := { size := 1, bytes := 8, zero := [.nilFunc], desc := .plain }
def ti80 : TI := { size := 1, bytes := 8, zero := [.nilFunc], desc := .plain }
def ti81 : TI := { size := 1, bytes := 8, zero := [.nilFunc], desc := .plain }
def ti82 : TI := { size := 1, bytes := 8, zero := [.nilFunc], desc := .plain }
def ti83 : TI := { size := 1, bytes := 8, zero := [.nilFunc], desc := .plain }
def ti84 : TI := { size := 1, bytes := 8, zero := [.nilFunc], desc := .plain }
def ti85 : TI := { size := 1, bytes := 8, zero := [.nilFunc], desc := .plain }
def ti86 : TI := { size := 1, bytes := 8, zero := [.nilFunc], desc := .plain }
def ti87 : TI := { size := 1, bytes := 8, zero := [.int .i64 0], desc := .int .i64 }
def ti89 : TI := { size := 1, bytes := 8, zero := [.nilFunc], desc := .plain }
def ti90 : TI := { size := 1, bytes := 8, zero := [.nilFunc], desc := .plain }
def ti91 : TI := { size := 1, bytes := 8, zero := [.nilFunc], desc := .plain }
def ti92 : TI := { size := 1, bytes := 8, zero := [.nilFunc], desc := .plain }
def ti93 : TI := { size := 1, bytes := 8, zero := [.nilFunc], desc := .plain }
def ti94 : TI := { size := 1, bytes := 4, zero := [.int .u32 0], desc := .int .u32 }
def ti95 : TI := { size := 1, bytes := 8, zero := [.nilFunc], desc := .plain }
def ti96 : TI := { size := 1, bytes := 8, zero := [.int .u64 0], desc := .int .u64 }
def ti97 : TI := { size := 1, bytes := 8, zero := [.nilFunc], desc := .plain }
def ti98 : TI := { size := 1, bytes := 8, zero := [.nilFunc], desc := .plain }
def ti99 : TI := { size := 1, bytes := 8, zero := [.nilFunc], desc := .plain }
def ti100 : TI := { size := 1, bytes := 24, zero := [.slice none 0 0], desc := .slice 9 }
def ti101 : TI := { size := 1, bytes := 8, zero := [.int .u64 0], desc := .int .u64 }
def ti102 : TI := { size := 1, bytes := 8, zero := [.nilFunc], desc := .plain }
def ti103 : TI := { size := 1, bytes := 8, zero := [.nilFunc], desc := .plain }
def ti104 : TI := { size := 1, bytes := 8, zero := [.nilFunc], desc := .plain }
def ti105 : TI := { size := 1, bytes := 8, zero := [.pointer none], desc := .plain }
def ti106 : TI := { size := 1, bytes := 8, zero := [.nilFunc], desc := .plain }
def ti107 : TI := { size := 1, bytes := 8, zero := [.pointer none], desc := .plain }
def ti109 : TI := { size := 1, bytes := 8, zero := [.nilFunc], desc := .plain }
def ti110 : TI := { size := 1, bytes := 8, zero := [.nilFunc], desc := .plain }
def ti116 : TI := { size := 1, bytes := 8, zero := [.nilFunc], desc := .plain }
def ti119 : TI := { size := 1, bytes := 8, zero := [.nilFunc], desc := .plain }
def ti120 : TI := { size := 1, bytes := 8, zero := [.pointer none], desc := .plain }
def tbl : TTree := (.node (.node (.node (.node (.node (.node (.node .nil 1 ti1 .nil) 2 ti2 .nil) 3 ti3 (.node (.node .nil 4 ti4 .nil) 5 ti5 .nil)) 9 ti9 (.node (.node (.node .nil 12 ti12 .nil) 20 ti20 .nil) 21 ti21 (.node (.node .nil 22 ti22 .nil) 23 ti23 .nil))) 24 ti24 (.node (.node (.node (.node .nil 25 ti25 .nil) 26 ti26 .nil) 27 ti27 (.node (.node .nil 28 ti28 .nil) 29 ti29 .nil)) 30 ti30 (.node (.node (.node .nil 31 ti31 .nil) 32 ti32 .nil) 33 ti33 (.node (.node .nil 34 ti34 .nil) 35 ti35 .nil)))) 37 ti37 (.node (.node (.node (.node (.node .nil 38 ti38 .nil) 39 ti39 .nil) 40 ti40 (.node (.node .nil 41 ti41 .nil) 42 ti42 .nil)) 43 ti43 (.node (.node (.node .nil 44 ti44 .nil) 45 ti45 .nil) 46 ti46 (.node (.node .nil 47 ti47 .nil) 48 ti48 .nil))) 49 ti49 (.node (.node (.node (.node .nil 50 ti50 .nil) 51 ti51 .nil) 52 ti52 (.node (.node .nil 53 ti53 .nil) 54 ti54 .nil)) 55 ti55 (.node (.node (.node .nil 56 ti56 .nil) 57 ti57 .nil) 58 ti58 (.node (.node .nil 59 ti59 .nil) 61 ti61 .nil))))) 62 ti62 (.node (.node (.node (.node (.node (.node .nil 63 ti63 .nil) 64 ti64 .nil) 65 ti65 (.node (.node .nil 66 ti66 .nil) 67 ti67 .nil)) 68 ti68 (.node (.node (.node .nil 69 ti69 .nil) 70 ti70 .nil) 71 ti71 (.node (.node .nil 72 ti72 .nil) 74 ti74 .nil))) 75 ti75 (.node (.node (.node (.node .nil 76 ti76 .nil) 77 ti77 .nil) 79 ti79 (.node (.node .nil 80 ti80 .nil) 81 ti81 .nil)) 82 ti82 (.node (.node (.node .nil 83 ti83 .nil) 84 ti84 .nil) 85 ti85 (.node (.node .nil 86 ti86 .nil) 87 ti87 .nil)))) 89 ti89 (.node (.node (.node (.node (.node .nil 90 ti90 .nil) 91 ti91 .nil) 92 ti92 (.node (.node .nil 93 ti93 .nil) 94 ti94 .nil)) 95 ti95 (.node (.node (.node .nil 96 ti96 .nil) 97 ti97 .nil) 98 ti98 (.node (.node .nil 99 ti99 .nil) 100 ti100 .nil))) 101 ti101 (.node (.node (.node (.node .nil 102 ti102 .nil) 103 ti103 .nil) 104 ti104 (.node (.node .nil 105 ti105 .nil) 106 ti106 .nil)) 107 ti107 (.node (.node (.node .nil 109 ti109 .nil) 110 ti110 .nil) 116 ti116 (.node (.node .nil 119 ti119 .nil) 120 ti120 .nil))))))
def T : TypeId → Option TI := tyFind tbl

theorem tok1 : TOk Try.prog 1 ti1 := mkT (.nilFunc) (by kernel_rfl) rfl rfl (show (Try.prog.underlying 1).map plainB = some true by kernel_rfl) (fun h => by cases h)
theorem tok2 : TOk Try.prog 2 ti2 := mkT (.int .i64 0) (by kernel_rfl) rfl rfl (show Try.prog.underlying 2 = some (.int .i64) by kernel_rfl) (fun h => by cases h)
theorem tok3 : TOk Try.prog 3 ti3 := mkT (.int .i64 0) (by kernel_rfl) rfl rfl (show Try.prog.underlying 3 = some (.int .i64) by kernel_rfl) (fun h => by cases h)
theorem tok4 : TOk Try.prog 4 ti4 := mkT (.bool false) (by kernel_rfl) rfl rfl (show Try.prog.underlying 4 = some (.bool) by kernel_rfl) (fun h => by cases h)
theorem tok5 : TOk Try.prog 5 ti5 := mkT (.int .u8 0) (by kernel_rfl) rfl rfl (show Try.prog.underlying 5 = some (.int .u8) by kernel_rfl) (fun h => by cases h)
theorem tok9 : TOk Try.prog 9 ti9 := mkT (.string ⟨#[]⟩) (by kernel_rfl) rfl rfl (show Try.prog.underlying 9 = some (.string) by kernel_rfl) (fun h => by cases h)
theorem tok12 : TOk Try.prog 12 ti12 := mkT (.int .u64 0) (by kernel_rfl) rfl rfl (show Try.prog.underlying 12 = some (.int .u64) by kernel_rfl) (fun h => by cases h)
theorem tok20 : TOk Try.prog 20 ti20 := mkT (.nilIface) (by kernel_rfl) rfl rfl (show (Try.prog.underlying 20).map plainB = some true by kernel_rfl) (fun h => by cases h)
theorem tok21 : TOk Try.prog 21 ti21 := mkT (.int .i32 0) (by kernel_rfl) rfl rfl (show Try.prog.underlying 21 = some (.int .i32) by kernel_rfl) (fun h => by cases h)
theorem tok22 : TOk Try.prog 22 ti22 := mkT (.slice none 0 0) (by kernel_rfl) rfl rfl (show Try.prog.underlying 22 = some (.slice 3) by kernel_rfl) (fun h => by cases h)
theorem tok23 : TOk Try.prog 23 ti23 := mkT (.slice none 0 0) (by kernel_rfl) rfl rfl (show Try.prog.underlying 23 = some (.slice 34) by kernel_rfl) (fun h => by cases h)
theorem tok24 : TOk Try.prog 24 ti24 := mkT (.pointer none) (by kernel_rfl) rfl rfl (show (Try.prog.underlying 24).map plainB = some true by kernel_rfl) (fun h => by cases h)
theorem tok25 : TOk Try.prog 25 ti25 := mkT (.nilFunc) (by kernel_rfl) rfl rfl (show (Try.prog.underlying 25).map plainB = some true by kernel_rfl) (fun h => by cases h)
theorem tok26 : TOk Try.prog 26 ti26 := mkT (.nilFunc) (by kernel_rfl) rfl rfl (show (Try.prog.underlying 26).map plainB = some true by kernel_rfl) (fun h => by cases h)
theorem tok27 : TOk Try.prog 27 ti27 := mkT (.nilFunc) (by kernel_rfl) rfl rfl (show (Try.prog.underlying 27).map plainB = some true by kernel_rfl) (fun h => by cases h)
theorem tok28 : TOk Try.prog 28 ti28 := mkT (.nilFunc) (by kernel_rfl) rfl rfl (show (Try.prog.underlying 28).map plainB = some true by kernel_rfl) (fun h => by cases h)
theorem tok29 : TOk Try.prog 29 ti29 := mkT (.nilFunc) (by kernel_rfl) rfl rfl (show (Try.prog.underlying 29).map plainB = some true by kernel_rfl) (fun h => by cases h)
theorem tok30 : TOk Try.prog 30 ti30 := mkT (.nilFunc) (by kernel_rfl) rfl rfl (show (Try.prog.underlying 30).map plainB = some true by kernel_rfl) (fun h => by cases h)
theorem tok31 : TOk Try.prog 31 ti31 := mkT (.nilFunc) (by kernel_rfl) rfl rfl (show (Try.prog.underlying 31).map plainB = some true by kernel_rfl) (fun h => by cases h)
theorem tok32 : TOk Try.prog 32 ti32 := mkT (.slice none 0 0) (by kernel_rfl) rfl rfl (show Try.prog.underlying 32 = some (.slice 41) by kernel_rfl) (fun h => by cases h)
theorem tok33 : TOk Try.prog 33 ti33 := mkT (.agg #[.slice none 0 0, .int .i64 0]) (by kernel_rfl) rfl rfl (show (Try.prog.underlying 33).map structFs = some (some [(0, 32), (1, 2)]) by kernel_rfl) (fun h => by cases h)
theorem tok34 : TOk Try.prog 34 ti34 := mkT (.agg #[.slice none 0 0, .int .i64 0]) (by kernel_rfl) rfl rfl (show (Try.prog.underlying 34).map structFs = some (some [(0, 32), (1, 2)]) by kernel_rfl) (fun h => by cases h)
theorem tok35 : TOk Try.prog 35 ti35 := mkT (.int .i64 0) (by kernel_rfl) rfl rfl (show Try.prog.underlying 35 = some (.int .i64) by kernel_rfl) (fun h => by cases h)
theorem tok37 : TOk Try.prog 37 ti37 := mkT (.nilFunc) (by kernel_rfl) rfl rfl (show (Try.prog.underlying 37).map plainB = some true by kernel_rfl) (fun h => by cases h)
theorem tok38 : TOk Try.prog 38 ti38 := mkT (.nilFunc) (by kernel_rfl) rfl rfl (show (Try.prog.underlying 38).map plainB = some true by kernel_rfl) (fun h => by cases h)
theorem tok39 : TOk Try.prog 39 ti39 := mkT (.nilFunc) (by kernel_rfl) rfl rfl (show (Try.prog.underlying 39).map plainB = some true by kernel_rfl) (fun h => by cases h)
theorem tok40 : TOk Try.prog 40 ti40 := mkT (.agg #[.int .i64 0, .int .i64 0, .string ⟨#[]⟩]) (by kernel_rfl) rfl rfl (show (Try.prog.underlying 40).map structFs = some (some [(0, 3), (1, 2), (2, 9)]) by kernel_rfl) (fun _ => eqOk (by kernel_rfl) (by kernel_rfl) (by kernel_rfl) (by kernel_rfl))
theorem tok41 : TOk Try.prog 41 ti41 := mkT (.agg #[.int .i64 0, .int .i64 0, .string ⟨#[]⟩]) (by kernel_rfl) rfl rfl (show (Try.prog.underlying 41).map structFs = some (some [(0, 3), (1, 2), (2, 9)]) by kernel_rfl) (fun _ => eqOk (by kernel_rfl) (by kernel_rfl) (by kernel_rfl) (by kernel_rfl))
theorem tok42 : TOk Try.prog 42 ti42 := mkT (.nilFunc) (by kernel_rfl) rfl rfl (show (Try.prog.underlying 42).map plainB = some true by kernel_rfl) (fun h => by cases h)
theorem tok43 : TOk Try.prog 43 ti43 := mkT (.nilFunc) (by kernel_rfl) rfl rfl (show (Try.prog.underlying 43).map plainB = some true by kernel_rfl) (fun h => by cases h)
theorem tok44 : TOk Try.prog 44 ti44 := mkT (.nilFunc) (by kernel_rfl) rfl rfl (show (Try.prog.underlying 44).map plainB = some true by kernel_rfl) (fun h => by cases h)
theorem tok45 : TOk Try.prog 45 ti45 := mkT (.nilFunc) (by kernel_rfl) rfl rfl (show (Try.prog.underlying 45).map plainB = some true by kernel_rfl) (fun h => by cases h)
theorem tok46 : TOk Try.prog 46 ti46 := mkT (.nilFunc) (by kernel_rfl) rfl rfl (show (Try.prog.underlying 46).map plainB = some true by kernel_rfl) (fun h => by cases h)
theorem tok47 : TOk Try.prog 47 ti47 := mkT (.slice none 0 0) (by kernel_rfl) rfl rfl (show Try.prog.underlying 47 = some (.slice 23) by kernel_rfl) (fun h => by cases h)
theorem tok48 : TOk Try.prog 48 ti48 := mkT (.nilFunc) (by kernel_rfl) rfl rfl (show (Try.prog.underlying 48).map plainB = some true by kernel_rfl) (fun h => by cases h)
theorem tok49 : TOk Try.prog 49 ti49 := mkT (.nilFunc) (by kernel_rfl) rfl rfl (show (Try.prog.underlying 49).map plainB = some true by kernel_rfl) (fun h => by cases h)
theorem tok50 : TOk Try.prog 50 ti50 := mkT (.nilFunc) (by kernel_rfl) rfl rfl (show (Try.prog.underlying 50).map plainB = some true by kernel_rfl) (fun h => by cases h)
theorem tok51 : TOk Try.prog 51 ti51 := mkT (.nilFunc) (by kernel_rfl) rfl rfl (show (Try.prog.underlying 51).map plainB = some true by kernel_rfl) (fun h => by cases h)
theorem tok52 : TOk Try.prog 52 ti52 := mkT (.agg #[.slice none 0 0, .int .i64 0]) (by kernel_rfl) rfl rfl (show (Try.prog.underlying 52).map structFs = some (some [(0, 22), (1, 3)]) by kernel_rfl) (fun h => by cases h)
theorem tok53 : TOk Try.prog 53 ti53 := mkT (.agg #[.slice none 0 0, .int .i64 0]) (by kernel_rfl) rfl rfl (show (Try.prog.underlying 53).map structFs = some (some [(0, 22), (1, 3)]) by kernel_rfl) (fun h => by cases h)
theorem tok54 : TOk Try.prog 54 ti54 := mkT (.nilFunc) (by kernel_rfl) rfl rfl (show (Try.prog.underlying 54).map plainB = some true by kernel_rfl) (fun h => by cases h)
theorem tok55 : TOk Try.prog 55 ti55 := mkT (.slice none 0 0) (by kernel_rfl) rfl rfl (show Try.prog.underlying 55 = some (.slice 2) by kernel_rfl) (fun h => by cases h)
theorem tok56 : TOk Try.prog 56 ti56 := mkT (.int .u64 0) (by kernel_rfl) rfl rfl (show Try.prog.underlying 56 = some (.int .u64) by kernel_rfl) (fun h => by cases h)
theorem tok57 : TOk Try.prog 57 ti57 := mkT (.map none) (by kernel_rfl) rfl rfl (show (Try.prog.underlying 57).map plainB = some true by kernel_rfl) (fun h => by cases h)
theorem tok58 : TOk Try.prog 58 ti58 := mkT (.nilFunc) (by kernel_rfl) rfl rfl (show (Try.prog.underlying 58).map plainB = some true by kernel_rfl) (fun h => by cases h)
theorem tok59 : TOk Try.prog 59 ti59 := mkT (.nilFunc) (by kernel_rfl) rfl rfl (show (Try.prog.underlying 59).map plainB = some true by kernel_rfl) (fun h => by cases h)
theorem tok61 : TOk Try.prog 61 ti61 := mkT (.nilFunc) (by kernel_rfl) rfl rfl (show (Try.prog.underlying 61).map plainB = some true by kernel_rfl) (fun h => by cases h)
theorem tok62 : TOk Try.prog 62 ti62 := mkT (.nilFunc) (by kernel_rfl) rfl rfl (show (Try.prog.underlying 62).map plainB = some true by kernel_rfl) (fun h => by cases h)
theorem tok63 : TOk Try.prog 63 ti63 := mkT (.nilFunc) (by kernel_rfl) rfl rfl (show (Try.prog.underlying 63).map plainB = some true by kernel_rfl) (fun h => by cases h)
theorem tok64 : TOk Try.prog 64 ti64 := mkT (.nilFunc) (by kernel_rfl) rfl rfl (show (Try.prog.underlying 64).map plainB = some true by kernel_rfl) (fun h => by cases h)
theorem tok65 : TOk Try.prog 65 ti65 := mkT (.nilFunc) (by kernel_rfl) rfl rfl (show (Try.prog.underlying 65).map plainB = some true by kernel_rfl) (fun h => by cases h)
theorem tok66 : TOk Try.prog 66 ti66 := mkT (.nilFunc) (by kernel_rfl) rfl rfl (show (Try.prog.underlying 66).map plainB = some true by kernel_rfl) (fun h => by cases h)
theorem tok67 : TOk Try.prog 67 ti67 := mkT (.nilFunc) (by kernel_rfl) rfl rfl (show (Try.prog.underlying 67).map plainB = some true by kernel_rfl) (fun h => by cases h)
theorem tok68 : TOk Try.prog 68 ti68 := mkT (.nilFunc) (by kernel_rfl) rfl rfl (show (Try.prog.underlying 68).map plainB = some true by kernel_rfl) (fun h => by cases h)
theorem tok69 : TOk Try.prog 69 ti69 := mkT (.nilFunc) (by kernel_rfl) rfl rfl (show (Try.prog.underlying 69).map plainB = some true by kernel_rfl) (fun h => by cases h)
theorem tok70 : TOk Try.prog 70 ti70 := mkT (.nilFunc) (by kernel_rfl) rfl rfl (show (Try.prog.underlying 70).map plainB = some true by kernel_rfl) (fun h => by cases h)
theorem tok71 : TOk Try.prog 71 ti71 := mkT (.nilFunc) (by kernel_rfl) rfl rfl (show (Try.prog.underlying 71).map plainB = some true by kernel_rfl) (fun h => by cases h)
theorem tok72 : TOk Try.prog 72 ti72 := mkT (.nilFunc) (by kernel_rfl) rfl rfl (show (Try.prog.underlying 72).map plainB = some true by kernel_rfl) (fun h => by cases h)
theorem tok74 : TOk Try.prog 74 ti74 := mkT (.nilFunc) (by kernel_rfl) rfl rfl (show (Try.prog.underlying 74).map plainB = some true by kernel_rfl) (fun h => by cases h)
theorem tok75 : TOk Try.prog 75 ti75 := mkT (.nilFunc) (by kernel_rfl) rfl rfl (show (Try.prog.underlying 75).map plainB = some true by kernel_rfl) (fun h => by cases h)
theorem tok76 : TOk Try.prog 76 ti76 := mkT (.slice none 0 0) (by kernel_rfl) rfl rfl (show Try.prog.underlying 76 = some (.slice 5) by kernel_rfl) (fun h => by cases h)
theorem tok77 : TOk Try.prog 77 ti77 := mkT (.nilFunc) (by kernel_rfl) rfl rfl (show (Try.prog.underlying 77).map plainB = some true by kernel_rfl) (fun h => by cases h)
theorem tok79 : TOk Try.prog 79 ti79 := mkT (.nilFunc) (by kernel_rfl) rfl rfl (show (Try.prog.underlying 79).map plainB = some true by kernel_rfl) (fun h => by cases h)
theorem tok80 : TOk Try.prog 80 ti80 := mkT (.nilFunc) (by kernel_rfl) rfl rfl (show (Try.prog.underlying 80).map plainB = some true by kernel_rfl) (fun h => by cases h)
theorem tok81 : TOk Try.prog 81 ti81 := mkT (.nilFunc) (by kernel_rfl) rfl rfl (show (Try.prog.underlying 81).map plainB = some true by kernel_rfl) (fun h => by cases h)
theorem tok82 : TOk Try.prog 82 ti82 := mkT (.nilFunc) (by kernel_rfl) rfl rfl (show (Try.prog.underlying 82).map plainB = some true by kernel_rfl) (fun h => by cases h)
theorem tok83 : TOk Try.prog 83 ti83 := mkT (.nilFunc) (by kernel_rfl) rfl rfl (show (Try.prog.underlying 83).map plainB = some true by kernel_rfl) (fun h => by cases h)
theorem tok84 : TOk Try.prog 84 ti84 := mkT (.nilFunc) (by kernel_rfl) rfl rfl (show (Try.prog.underlying 84).map plainB = some true by kernel_rfl) (fun h => by cases h)
theorem tok85 : TOk Try.prog 85 ti85 := mkT (.nilFunc) (by kernel_rfl) rfl rfl (show (Try.prog.underlying 85).map plainB = some true by kernel_rfl) (fun h => by cases h)
theorem tok86 : TOk Try.prog 86 ti86 := mkT (.nilFunc) (by kernel_rfl) rfl rfl (show (Try.prog.underlying 86).map plainB = some true by kernel_rfl) (fun h => by cases h)
theorem tok87 : TOk Try.prog 87 ti87 := mkT (.int .i64 0) (by kernel_rfl) rfl rfl (show Try.prog.underlying 87 = some (.int .i64) by kernel_rfl) (fun h => by cases h)
theorem tok89 : TOk Try.prog 89 ti89 := mkT (.nilFunc) (by kernel_rfl) rfl rfl (show (Try.prog.underlying 89).map plainB = some true by kernel_rfl) (fun h => by cases h)
theorem tok90 : TOk Try.prog 90 ti90 := mkT (.nilFunc) (by kernel_rfl) rfl rfl (show (Try.prog.underlying 90).map plainB = some true by kernel_rfl) (fun h => by cases h)
theorem tok91 : TOk Try.prog 91 ti91 := mkT (.nilFunc) (by kernel_rfl) rfl rfl (show (Try.prog.underlying 91).map plainB = some true by kernel_rfl) (fun h => by cases h)
theorem tok92 : TOk Try.prog 92 ti92 := mkT (.nilFunc) (by kernel_rfl) rfl rfl (show (Try.prog.underlying 92).map plainB = some true by kernel_rfl) (fun h => by cases h)
theorem tok93 : TOk Try.prog 93 ti93 := mkT (.nilFunc) (by kernel_rfl) rfl rfl (show (Try.prog.underlying 93).map plainB = some true by kernel_rfl) (fun h => by cases h)
theorem tok94 : TOk Try.prog 94 ti94 := mkT (.int .u32 0) (by kernel_rfl) rfl rfl (show Try.prog.underlying 94 = some (.int .u32) by kernel_rfl) (fun h => by cases h)
theorem tok95 : TOk Try.prog 95 ti95 := mkT (.nilFunc) (by kernel_rfl) rfl rfl (show (Try.prog.underlying 95).map plainB = some true by kernel_rfl) (fun h => by cases h)
theorem tok96 : TOk Try.prog 96 ti96 := mkT (.int .u64 0) (by kernel_rfl) rfl rfl (show Try.prog.underlying 96 = some (.int .u64) by kernel_rfl) (fun h => by cases h)
theorem tok97 : TOk Try.prog 97 ti97 := mkT (.nilFunc) (by kernel_rfl) rfl rfl (show (Try.prog.underlying 97).map plainB = some true by kernel_rfl) (fun h => by cases h)
theorem tok98 : TOk Try.prog 98 ti98 := mkT (.nilFunc) (by kernel_rfl) rfl rfl (show (Try.prog.underlying 98).map plainB = some true by kernel_rfl) (fun h => by cases h)
theorem tok99 : TOk Try.prog 99 ti99 := mkT (.nilFunc) (by kernel_rfl) rfl rfl (show (Try.prog.underlying 99).map plainB = some true by kernel_rfl) (fun h => by cases h)
theorem tok100 : TOk Try.prog 100 ti100 := mkT (.slice none 0 0) (by kernel_rfl) rfl rfl (show Try.prog.underlying 100 = some (.slice 9) by kernel_rfl) (fun h => by cases h)
theorem tok101 : TOk Try.prog 101 ti101 := mkT (.int .u64 0) (by kernel_rfl) rfl rfl (show Try.prog.underlying 101 = some (.int .u64) by kernel_rfl) (fun h => by cases h)
theorem tok102 : TOk Try.prog 102 ti102 := mkT (.nilFunc) (by kernel_rfl) rfl rfl (show (Try.prog.underlying 102).map plainB = some true by kernel_rfl) (fun h => by cases h)
theorem tok103 : TOk Try.prog 103 ti103 := mkT (.nilFunc) (by kernel_rfl) rfl rfl (show (Try.prog.underlying 103).map plainB = some true by kernel_rfl) (fun h => by cases h)
theorem tok104 : TOk Try.prog 104 ti104 := mkT (.nilFunc) (by kernel_rfl) rfl rfl (show (Try.prog.underlying 104).map plainB = some true by kernel_rfl) (fun h => by cases h)
theorem tok105 : TOk Try.prog 105 ti105 := mkT (.pointer none) (by kernel_rfl) rfl rfl (show (Try.prog.underlying 105).map plainB = some true by kernel_rfl) (fun h => by cases h)
theorem tok106 : TOk Try.prog 106 ti106 := mkT (.nilFunc) (by kernel_rfl) rfl rfl (show (Try.prog.underlying 106).map plainB = some true by kernel_rfl) (fun h => by cases h)
theorem tok107 : TOk Try.prog 107 ti107 := mkT (.pointer none) (by kernel_rfl) rfl rfl (show (Try.prog.underlying 107).map plainB = some true by kernel_rfl) (fun h => by cases h)
theorem tok109 : TOk Try.prog 109 ti109 := mkT (.nilFunc) (by kernel_rfl) rfl rfl (show (Try.prog.underlying 109).map plainB = some true by kernel_rfl) (fun h => by cases h)
theorem tok110 : TOk Try.prog 110 ti110 := mkT (.nilFunc) (by kernel_rfl) rfl rfl (show (Try.prog.underlying 110).map plainB = some true by kernel_rfl) (fun h => by cases h)
theorem tok116 : TOk Try.prog 116 ti116 := mkT (.nilFunc) (by kernel_rfl) rfl rfl (show (Try.prog.underlying 116).map plainB = some true by kernel_rfl) (fun h => by cases h)
theorem tok119 : TOk Try.prog 119 ti119 := mkT (.nilFunc) (by kernel_rfl) rfl rfl (show (Try.prog.underlying 119).map plainB = some true by kernel_rfl) (fun h => by cases h)
theorem tok120 : TOk Try.prog 120 ti120 := mkT (.pointer none) (by kernel_rfl) rfl rfl (show (Try.prog.underlying 120).map plainB = some true by kernel_rfl) (fun h => by cases h)
theorem hT : TypesOk Try.prog T := typesOk (show tyAll Try.prog tbl from ⟨⟨⟨⟨⟨⟨⟨trivial, tok1, trivial⟩, tok2, trivial⟩, tok3, ⟨⟨trivial, tok4, trivial⟩, tok5, trivial⟩⟩, tok9, ⟨⟨⟨trivial, tok12, trivial⟩, tok20, trivial⟩, tok21, ⟨⟨trivial, tok22, trivial⟩, tok23, trivial⟩⟩⟩, tok24, ⟨⟨⟨⟨trivial, tok25, trivial⟩, tok26, trivial⟩, tok27, ⟨⟨trivial, tok28, trivial⟩, tok29, trivial⟩⟩, tok30, ⟨⟨⟨trivial, tok31, trivial⟩, tok32, trivial⟩, tok33, ⟨⟨trivial, tok34, trivial⟩, tok35, trivial⟩⟩⟩⟩, tok37, ⟨⟨⟨⟨⟨trivial, tok38, trivial⟩, tok39, trivial⟩, tok40, ⟨⟨trivial, tok41, trivial⟩, tok42, trivial⟩⟩, tok43, ⟨⟨⟨trivial, tok44, trivial⟩, tok45, trivial⟩, tok46, ⟨⟨trivial, tok47, trivial⟩, tok48, trivial⟩⟩⟩, tok49, ⟨⟨⟨⟨trivial, tok50, trivial⟩, tok51, trivial⟩, tok52, ⟨⟨trivial, tok53, trivial⟩, tok54, trivial⟩⟩, tok55, ⟨⟨⟨trivial, tok56, trivial⟩, tok57, trivial⟩, tok58, ⟨⟨trivial, tok59, trivial⟩, tok61, trivial⟩⟩⟩⟩⟩, tok62, ⟨⟨⟨⟨⟨⟨trivial, tok63, trivial⟩, tok64, trivial⟩, tok65, ⟨⟨trivial, tok66, trivial⟩, tok67, trivial⟩⟩, tok68, ⟨⟨⟨trivial, tok69, trivial⟩, tok70, trivial⟩, tok71, ⟨⟨trivial, tok72, trivial⟩, tok74, trivial⟩⟩⟩, tok75, ⟨⟨⟨⟨trivial, tok76, trivial⟩, tok77, trivial⟩, tok79, ⟨⟨trivial, tok80, trivial⟩, tok81, trivial⟩⟩, tok82, ⟨⟨⟨trivial, tok83, trivial⟩, tok84, trivial⟩, tok85, ⟨⟨trivial, tok86, trivial⟩, tok87, trivial⟩⟩⟩⟩, tok89, ⟨⟨⟨⟨⟨trivial, tok90, trivial⟩, tok91, trivial⟩, tok92, ⟨⟨trivial, tok93, trivial⟩, tok94, trivial⟩⟩, tok95, ⟨⟨⟨trivial, tok96, trivial⟩, tok97, trivial⟩, tok98, ⟨⟨trivial, tok99, trivial⟩, tok100, trivial⟩⟩⟩, tok101, ⟨⟨⟨⟨trivial, tok102, trivial⟩, tok103, trivial⟩, tok104, ⟨⟨trivial, tok105, trivial⟩, tok106, trivial⟩⟩, tok107, ⟨⟨⟨trivial, tok109, trivial⟩, tok110, trivial⟩, tok116, ⟨⟨trivial, tok119, trivial⟩, tok120, trivial⟩⟩⟩⟩⟩⟩)
theorem hmix : Try.prog.follows .mixedOrders = true := by kernel_rfl
instance tcI : TC Try.prog T := ⟨hT, hmix⟩
instance mt57 : MapTy Try.prog 57 9 2 := ⟨by kernel_rfl⟩
instance ko9 : KeyOk Try.prog 9 IsStr := keyStr (by kernel_rfl)
instance zv2 : ZeroV Try.prog 2 (.one (.lit (.int .i64 0))) := zeroV_lit (by kernel_rfl) rfl
end Go.Proofs.Ytgfachlcocjdbaa
