/-
  The table of the types of the program, and that it is the program's own. Printed by a program of ours out of the translation.
-/
import Derived.Test.YtojfhaoleedmkaaGreatByt
import Derived.Test.YtojfhaoleedmkaaGreatProg
namespace Go.Proofs.YtojfhaoleedmkaaGreat
open Go.Abs
def ti1 : TI := { size := 1, bytes := 8, zero := [.nilFunc], desc := .plain }
def ti2 : TI := { size := 1, bytes := 8, zero := [.int .i64 0], desc := .int .i64 }
def ti3 : TI := { size := 1, bytes := 8, zero := [.int .i64 0], desc := .int .i64 }
def ti4 : TI := { size := 1, bytes := 1, zero := [.bool false], desc := .bool }
def ti5 : TI := { size := 1, bytes := 1, zero := [.int .u8 0], desc := .int .u8 }
def ti9 : TI := { size := 1, bytes := 16, zero := [.string ⟨#[]⟩], desc := .str }
def ti12 : TI := { size := 1, bytes := 8, zero := [.int .u64 0], desc := .int .u64 }
def ti20 : TI := { size := 1, bytes := 16, zero := [.nilIface], desc := .plain }
def ti21 : TI := { size := 1, bytes := 4, zero := [.int .i32 0], desc := .int .i32 }
def ti22 : TI := { size := 1, bytes := 24, zero := [.slice none 0 0], desc := .slice 3 }
def ti23 : TI := { size := 1, bytes := 8, zero := [.pointer none], desc := .plain }
def ti24 : TI := { size := 1, bytes := 8, zero := [.nilFunc], desc := .plain }
def ti25 : TI := { size := 1, bytes := 24, zero := [.slice none 0 0], desc := .slice 49 }
def ti26 : TI := { size := 1, bytes := 8, zero := [.nilFunc], desc := .plain }
def ti27 : TI := { size := 1, bytes := 24, zero := [.slice none 0 0], desc := .slice 72 }
def ti28 : TI := { size := 1, bytes := 8, zero := [.nilFunc], desc := .plain }
def ti29 : TI := { size := 1, bytes := 24, zero := [.slice none 0 0], desc := .slice 46 }
def ti30 : TI := { size := 1, bytes := 8, zero := [.nilFunc], desc := .plain }
def ti31 : TI := { size := 1, bytes := 8, zero := [.nilFunc], desc := .plain }
def ti32 : TI := { size := 1, bytes := 8, zero := [.int .i64 0], desc := .int .i64 }
def ti34 : TI := { size := 1, bytes := 8, zero := [.nilFunc], desc := .plain }
def ti35 : TI := { size := 1, bytes := 8, zero := [.nilFunc], desc := .plain }
def ti36 : TI := { size := 1, bytes := 8, zero := [.nilFunc], desc := .plain }
def ti37 : TI := { size := 1, bytes := 8, zero := [.nilFunc], desc := .plain }
def ti38 : TI := { size := 1, bytes := 24, zero := [.slice none 0 0], desc := .slice 90 }
def ti40 : TI := { size := 1, bytes := 8, zero := [.nilFunc], desc := .plain }
def ti41 : TI := { size := 1, bytes := 8, zero := [.nilFunc], desc := .plain }
def ti42 : TI := { size := 1, bytes := 8, zero := [.nilFunc], desc := .plain }
def ti43 : TI := { size := 1, bytes := 8, zero := [.nilFunc], desc := .plain }
def ti44 : TI := { size := 1, bytes := 24, zero := [.slice none 0 0], desc := .slice 114 }
def ti45 : TI := { size := 3, bytes := 48, zero := [.string ⟨#[]⟩, .int .i64 0, .slice none 0 0], desc := .struct [(0, 9), (1, 3), (2, 44)] }
def ti46 : TI := { size := 3, bytes := 48, zero := [.string ⟨#[]⟩, .int .i64 0, .slice none 0 0], desc := .struct [(0, 9), (1, 3), (2, 44)] }
def ti47 : TI := { size := 1, bytes := 24, zero := [.slice none 0 0], desc := .slice 53 }
def ti48 : TI := { size := 2, bytes := 32, zero := [.slice none 0 0, .int .i64 0], desc := .struct [(0, 47), (1, 2)] }
def ti49 : TI := { size := 2, bytes := 32, zero := [.slice none 0 0, .int .i64 0], desc := .struct [(0, 47), (1, 2)] }
def ti50 : TI := { size := 1, bytes := 8, zero := [.nilFunc], desc := .plain }
def ti51 : TI := { size := 1, bytes := 8, zero := [.nilFunc], desc := .plain }
def ti52 : TI := { size := 3, bytes := 32, zero := [.int .i64 0, .int .i64 0, .string ⟨#[]⟩], desc := .struct [(0, 3), (1, 2), (2, 9)], eqs := true }
def ti53 : TI := { size := 3, bytes := 32, zero := [.int .i64 0, .int .i64 0, .string ⟨#[]⟩], desc := .struct [(0, 3), (1, 2), (2, 9)], eqs := true }
def ti54 : TI := { size := 1, bytes := 8, zero := [.nilFunc], desc := .plain }
def ti55 : TI := { size := 1, bytes := 8, zero := [.nilFunc], desc := .plain }
def ti56 : TI := { size := 1, bytes := 8, zero := [.nilFunc], desc := .plain }
def ti57 : TI := { size := 1, bytes := 8, zero := [.nilFunc], desc := .plain }
def ti58 : TI := { size := 1, bytes := 8, zero := [.nilFunc], desc := .plain }
def ti59 : TI := { size := 1, bytes := 8, zero := [.nilFunc], desc := .plain }
def ti60 : TI := { size := 1, bytes := 8, zero := [.nilFunc], desc := .plain }
def ti61 : TI := { size := 1, bytes := 8, zero := [.nilFunc], desc := .plain }
def ti62 : TI := { size := 1, bytes := 8, zero := [.nilFunc], desc := .plain }
def ti63 : TI := { size := 1, bytes := 8, zero := [.nilFunc], desc := .plain }
def ti64 : TI := { size := 2, bytes := 32, zero := [.slice none 0 0, .int .i64 0], desc := .struct [(0, 22), (1, 3)] }
def ti65 : TI := { size := 2, bytes := 32, zero := [.slice none 0 0, .int .i64 0], desc := .struct [(0, 22), (1, 3)] }
def ti66 : TI := { size := 1, bytes := 8, zero := [.nilFunc], desc := .plain }
def ti67 : TI := { size := 1, bytes := 8, zero := [.nilFunc], desc := .plain }
def ti68 : TI := { size := 1, bytes := 8, zero := [.nilFunc], desc := .plain }
def ti69 : TI := { size := 1, bytes := 8, zero := [.nilFunc], desc := .plain }
def ti70 : TI := { size := 1, bytes := 8, zero := [.nilFunc], desc := .plain }
def ti71 : TI := { size := 2, bytes := 40, zero := [.string ⟨#[]⟩, .slice none 0 0], desc := .struct [(0, 9), (1, 44)] }
def ti72 : TI := { size := 2, bytes := 40, zero := [.string ⟨#[]⟩, .slice none 0 0], desc := .struct [(0, 9), (1, 44)] }
def ti73 : TI := { size := 1, bytes := 8, zero := [.nilFunc], desc := .plain }
def ti74 : TI := { size := 1, bytes := 24, zero := [.slice none 0 0], desc := .slice 2 }
def ti75 : TI := { size := 1, bytes := 24, zero := [.slice none 0 0], desc := .slice 78 }
def ti76 : TI := { size := 1, bytes := 8, zero := [.nilFunc], desc := .plain }
def ti77 : TI := { size := 2, bytes := 48, zero := [.slice none 0 0, .slice none 0 0], desc := .struct [(0, 47), (1, 25)] }
def ti78 : TI := { size := 2, bytes := 48, zero := [.slice none 0 0, .slice none 0 0], desc := .struct [(0, 47), (1, 25)] }
def ti79 : TI := { size := 1, bytes := 8, zero := [.nilFunc], desc := .plain }
def ti80 : TI := { size := 1, bytes := 24, zero := [.slice none 0 0], desc := .slice 99 }
def ti81 : TI := { size := 1, bytes := 8, zero := [.nilFunc], desc := .plain }
def ti82 : TI := { size := 1, bytes := 24, zero := [.slice none 0 0], desc := .slice 47 }
def ti83 : TI := { size := 1, bytes := 8, zero := [.nilFunc], desc := .plain }
def ti84 : TI := { size := 1, bytes := 8, zero := [.nilFunc], desc := .plain }
def ti85 : TI := { size := 1, bytes := 8, zero := [.nilFunc], desc := .plain }
def ti86 : TI := { size := 1, bytes := 8, zero := [.nilFunc], desc := .plain }
def ti87 : TI := { size := 1, bytes := 8, zero := [.nilFunc], desc := .plain }
def ti88 : TI := { size := 1, bytes := 8, zero := [.nilFunc], desc := .plain }
def ti89 : TI := { size := 4, bytes := 80, zero := [.slice none 0 0, .int .i64 0, .slice none 0 0, .slice none 0 0], desc := .struct [(0, 47), (1, 2), (2, 74), (3, 74)] }
def ti90 : TI := { size := 4, bytes := 80, zero := [.slice none 0 0, .int .i64 0, .slice none 0 0, .slice none 0 0], desc := .struct [(0, 47), (1, 2), (2, 74), (3, 74)] }
def ti91 : TI := { size := 1, bytes := 8, zero := [.nilFunc], desc := .plain }
def ti92 : TI := { size := 1, bytes := 8, zero := [.nilFunc], desc := .plain }
def ti94 : TI := { size := 1, bytes := 8, zero := [.nilFunc], desc := .plain }
def ti95 : TI := { size := 1, bytes := 8, zero := [.nilFunc], desc := .plain }
def ti96 : TI := { size := 1, bytes := 8, zero := [.pointer none], desc := .plain }
def ti97 : TI := { size := 1, bytes := 8, zero := [.nilFunc], desc := .plain }
def ti98 : TI := { size := 4, bytes := 40, zero := [.int .i64 0, .int .i64 0, .string ⟨#[]⟩, .int .i64 0], desc := .struct [(0, 53), (3, 2)] }
def ti99 : TI := { size := 4, bytes := 40, zero := [.int .i64 0, .int .i64 0, .string ⟨#[]⟩, .int .i64 0], desc := .struct [(0, 53), (3, 2)] }
def ti100 : TI := { size := 1, bytes := 8, zero := [.nilFunc], desc := .plain }
def ti101 : TI := { size := 1, bytes := 8, zero := [.nilFunc], desc := .plain }
def ti102 : TI := { size := 1, bytes := 8, zero := [.nilFunc], desc := .plain }
def ti103 : TI := { size := 1, bytes := 8, zero := [.nilFunc], desc := .plain }
def ti104 : TI := { size := 1, bytes := 8, zero := [.nilFunc], desc := .plain }
def ti105 : TI := { size := 1, bytes := 8, zero := [.nilFunc], desc := .plain }
def ti106 : TI := { size := 1, bytes := 8, zero := [.nilFunc], desc := .plain }
def ti107 : TI := { size := 1, bytes := 8, zero := [.nilFunc], desc := .plain }
def ti108 : TI := { size := 1, bytes := 8, zero := [.nilFunc], desc := .plain }
def ti109 : TI := { size := 1, bytes := 8, zero := [.nilFunc], desc := .plain }
def ti110 : TI := { size := 1, bytes := 8, zero := [.int .u64 0], desc := .int .u64 }
def ti111 : TI := { size := 1, bytes := 24, zero := [.slice none 0 0], desc := .slice 5 }
def ti112 : TI := { size := 1, bytes := 8, zero := [.nilFunc], desc := .plain }
def ti113 : TI := { size := 5, bytes := 48, zero := [.int .i64 0, .int .i64 0, .int .i64 0, .string ⟨#[]⟩, .int .i64 0], desc := .struct [(0, 3), (1, 53), (4, 3)] }
def ti114 : TI := { size := 5, bytes := 48, zero := [.int .i64 0, .int .i64 0, .int .i64 0, .string ⟨#[]⟩, .int .i64 0], desc := .struct [(0, 3), (1, 53), (4, 3)] }
def ti115 : TI := { size := 1, bytes := 8, zero := [.map none], desc := .plain }
def ti116 : TI := { size := 1, bytes := 8, zero := [.nilFunc], desc := .plain }
def ti117 : TI := { size := 1, bytes := 8, zero := [.nilFunc], desc := .plain }
def ti119 : TI := { size := 1, bytes := 8, zero := [.nilFunc], desc := .plain }
def ti120 : TI := { size := 1, bytes := 8, zero := [.nilFunc], desc := .plain }
def ti121 : TI := { size := 1, bytes := 8, zero := [.nilFunc], desc := .plain }
def ti122 : TI := { size := 1, bytes := 8, zero := [.map none], desc := .plain }
def ti123 : TI := { size := 1, bytes := 8, zero := [.nilFunc], desc := .plain }
def ti125 : TI := { size := 1, bytes := 8, zero := [.nilFunc], desc := .plain }
def ti126 : TI := { size := 1, bytes := 8, zero := [.nilFunc], desc := .plain }
def ti127 : TI := { size := 1, bytes := 8, zero := [.nilFunc], desc := .plain }
def ti128 : TI := { size := 1, bytes := 8, zero := [.nilFunc], desc := .plain }
def ti129 : TI := { size := 1, bytes := 8, zero := [.nilFunc], desc := .plain }
def ti130 : TI := { size := 1, bytes := 8, zero := [.nilFunc], desc := .plain }
def ti131 : TI := { size := 1, bytes := 8, zero := [.nilFunc], desc := .plain }
def ti132 : TI := { size := 1, bytes := 8, zero := [.nilFunc], desc := .plain }
def ti133 : TI := { size := 1, bytes := 8, zero := [.nilFunc], desc := .plain }
def ti134 : TI := { size := 1, bytes := 8, zero := [.nilFunc], desc := .plain }
def ti135 : TI := { size := 1, bytes := 8, zero := [.nilFunc], desc := .plain }
def ti136 : TI := { size := 1, bytes := 8, zero := [.nilFunc], desc := .plain }
def ti137 : TI := { size := 1, bytes := 8, zero := [.nilFunc], desc := .plain }
def ti138 : TI := { size := 1, bytes := 8, zero := [.nilFunc], desc := .plain }
def ti139 : TI := { size := 1, bytes := 8, zero := [.nilFunc], desc := .plain }
def ti140 : TI := { size := 1, bytes := 8, zero := [.nilFunc], desc := .plain }
def ti141 : TI := { size := 1, bytes := 8, zero := [.nilFunc], desc := .plain }
def ti142 : TI := { size := 1, bytes := 8, zero := [.nilFunc], desc := .plain }
def ti143 : TI := { size := 1, bytes := 8, zero := [.nilFunc], desc := .plain }
def ti144 : TI := { size := 1, bytes := 8, zero := [.nilFunc], desc := .plain }
def ti145 : TI := { size := 1, bytes := 8, zero := [.nilFunc], desc := .plain }
def ti146 : TI := { size := 1, bytes := 8, zero := [.nilFunc], desc := .plain }
def ti147 : TI := { size := 1, bytes := 8, zero := [.nilFunc], desc := .plain }
def ti148 : TI := { size := 1, bytes := 8, zero := [.nilFunc], desc := .plain }
def ti149 : TI := { size := 1, bytes := 8, zero := [.nilFunc], desc := .plain }
def ti151 : TI := { size := 1, bytes := 8, zero := [.nilFunc], desc := .plain }
def ti152 : TI := { size := 1, bytes := 8, zero := [.nilFunc], desc := .plain }
def ti153 : TI := { size := 1, bytes := 8, zero := [.nilFunc], desc := .plain }
def ti154 : TI := { size := 1, bytes := 8, zero := [.nilFunc], desc := .plain }
def ti155 : TI := { size := 1, bytes := 8, zero := [.nilFunc], desc := .plain }
def ti156 : TI := { size := 1, bytes := 24, zero := [.slice none 0 0], desc := .slice 44 }
def ti157 : TI := { size := 1, bytes := 8, zero := [.nilFunc], desc := .plain }
def ti158 : TI := { size := 1, bytes := 8, zero := [.nilFunc], desc := .plain }
def ti159 : TI := { size := 1, bytes := 8, zero := [.nilFunc], desc := .plain }
def ti160 : TI := { size := 1, bytes := 8, zero := [.nilFunc], desc := .plain }
def ti161 : TI := { size := 1, bytes := 8, zero := [.nilFunc], desc := .plain }
def ti162 : TI := { size := 1, bytes := 8, zero := [.nilFunc], desc := .plain }
def ti163 : TI := { size := 1, bytes := 24, zero := [.slice none 0 0], desc := .slice 9 }
def ti164 : TI := { size := 1, bytes := 8, zero := [.nilFunc], desc := .plain }
def ti165 : TI := { size := 1, bytes := 8, zero := [.int .i64 0], desc := .int .i64 }
def ti167 : TI := { size := 1, bytes := 8, zero := [.nilFunc], desc := .plain }
def ti168 : TI := { size := 1, bytes := 8, zero := [.nilFunc], desc := .plain }
def ti169 : TI := { size := 1, bytes := 8, zero := [.nilFunc], desc := .plain }
def ti170 : TI := { size := 1, bytes := 8, zero := [.nilFunc], desc := .plain }
def ti171 : TI := { size := 1, bytes := 8, zero := [.nilFunc], desc := .plain }
def ti172 : TI := { size := 1, bytes := 4, zero := [.int .u32 0], desc := .int .u32 }
def ti173 : TI := { size := 1, bytes := 8, zero := [.nilFunc], desc := .plain }
def ti174 : TI := { size := 1, bytes := 8, zero := [.int .u64 0], desc := .int .u64 }
def ti175 : TI := { size := 1, bytes := 8, zero := [.nilFunc], desc := .plain }
def ti176 : TI := { size := 1, bytes := 8, zero := [.nilFunc], desc := .plain }
def ti178 : TI := { size := 1, bytes := 8, zero := [.nilFunc], desc := .plain }
def ti179 : TI := { size := 9, bytes := 96, zero := [.int .i64 0, .int .i64 0, .string ⟨#[]⟩, .int .i64 0, .int .i64 0, .string ⟨#[]⟩, .int .i64 0, .int .i64 0, .string ⟨#[]⟩], desc := .array 3 53 }
def ti180 : TI := { size := 1, bytes := 8, zero := [.nilFunc], desc := .plain }
def ti181 : TI := { size := 1, bytes := 8, zero := [.nilFunc], desc := .plain }
def ti182 : TI := { size := 1, bytes := 8, zero := [.nilFunc], desc := .plain }
def ti183 : TI := { size := 1, bytes := 8, zero := [.nilFunc], desc := .plain }
def ti184 : TI := { size := 1, bytes := 8, zero := [.nilFunc], desc := .plain }
def ti185 : TI := { size := 1, bytes := 8, zero := [.nilFunc], desc := .plain }
def ti186 : TI := { size := 1, bytes := 8, zero := [.nilFunc], desc := .plain }
def ti187 : TI := { size := 1, bytes := 8, zero := [.nilFunc], desc := .plain }
def ti188 : TI := { size := 1, bytes := 8, zero := [.nilFunc], desc := .plain }
def ti189 : TI := { size := 1, bytes := 8, zero := [.nilFunc], desc := .plain }
def ti190 : TI := { size := 1, bytes := 8, zero := [.nilFunc], desc := .plain }
def ti191 : TI := { size := 1, bytes := 8, zero := [.nilFunc], desc := .plain }
def ti192 : TI := { size := 1, bytes := 8, zero := [.int .u64 0], desc := .int .u64 }
def ti193 : TI := { size := 1, bytes := 8, zero := [.nilFunc], desc := .plain }
def ti194 : TI := { size := 1, bytes := 8, zero := [.nilFunc], desc := .plain }
def ti195 : TI := { size := 1, bytes := 8, zero := [.nilFunc], desc := .plain }
def ti196 : TI := { size := 1, bytes := 8, zero := [.pointer none], desc := .plain }
def ti197 : TI := { size := 1, bytes := 8, zero := [.nilFunc], desc := .plain }
def ti198 : TI := { size := 1, bytes := 8, zero := [.nilFunc], desc := .plain }
def ti199 : TI := { size := 1, bytes := 8, zero := [.nilFunc], desc := .plain }
def ti200 : TI := { size := 1, bytes := 8, zero := [.nilFunc], desc := .plain }
def ti201 : TI := { size := 1, bytes := 8, zero := [.nilFunc], desc := .plain }
def ti202 : TI := { size := 1, bytes := 8, zero := [.nilFunc], desc := .plain }
def ti203 : TI := { size := 1, bytes := 8, zero := [.nilFunc], desc := .plain }
def ti204 : TI := { size := 1, bytes := 8, zero := [.nilFunc], desc := .plain }
def ti205 : TI := { size := 1, bytes := 8, zero := [.nilFunc], desc := .plain }
def ti206 : TI := { size := 1, bytes := 8, zero := [.nilFunc], desc := .plain }
def ti207 : TI := { size := 1, bytes := 8, zero := [.nilFunc], desc := .plain }
def ti208 : TI := { size := 1, bytes := 8, zero := [.pointer none], desc := .plain }
def ti209 : TI := { size := 1, bytes := 8, zero := [.nilFunc], desc := .plain }
def ti210 : TI := { size := 1, bytes := 8, zero := [.nilFunc], desc := .plain }
def ti211 : TI := { size := 1, bytes := 8, zero := [.nilFunc], desc := .plain }
def ti212 : TI := { size := 1, bytes := 8, zero := [.nilFunc], desc := .plain }
def ti213 : TI := { size := 1, bytes := 8, zero := [.nilFunc], desc := .plain }
def ti214 : TI := { size := 1, bytes := 8, zero := [.nilFunc], desc := .plain }
def ti220 : TI := { size := 1, bytes := 8, zero := [.nilFunc], desc := .plain }
def ti223 : TI := { size := 1, bytes := 8, zero := [.nilFunc], desc := .plain }
def ti224 : TI := { size := 1, bytes := 8, zero := [.pointer none], desc := .plain }
def tbl : TTree := (.node (.node (.node (.node (.node (.node (.node (.node .nil 1 ti1 .nil) 2 ti2 (.node .nil 3 ti3 .nil)) 4 ti4 (.node (.node .nil 5 ti5 .nil) 9 ti9 .nil)) 12 ti12 (.node (.node (.node .nil 20 ti20 .nil) 21 ti21 .nil) 22 ti22 (.node (.node .nil 23 ti23 .nil) 24 ti24 .nil))) 25 ti25 (.node (.node (.node (.node .nil 26 ti26 .nil) 27 ti27 .nil) 28 ti28 (.node (.node .nil 29 ti29 .nil) 30 ti30 .nil)) 31 ti31 (.node (.node (.node .nil 32 ti32 .nil) 34 ti34 .nil) 35 ti35 (.node (.node .nil 36 ti36 .nil) 37 ti37 .nil)))) 38 ti38 (.node (.node (.node (.node (.node .nil 40 ti40 .nil) 41 ti41 (.node .nil 42 ti42 .nil)) 43 ti43 (.node (.node .nil 44 ti44 .nil) 45 ti45 .nil)) 46 ti46 (.node (.node (.node .nil 47 ti47 .nil) 48 ti48 .nil) 49 ti49 (.node (.node .nil 50 ti50 .nil) 51 ti51 .nil))) 52 ti52 (.node (.node (.node (.node .nil 53 ti53 .nil) 54 ti54 .nil) 55 ti55 (.node (.node .nil 56 ti56 .nil) 57 ti57 .nil)) 58 ti58 (.node (.node (.node .nil 59 ti59 .nil) 60 ti60 .nil) 61 ti61 (.node (.node .nil 62 ti62 .nil) 63 ti63 .nil))))) 64 ti64 (.node (.node (.node (.node (.node (.node .nil 65 ti65 .nil) 66 ti66 (.node .nil 67 ti67 .nil)) 68 ti68 (.node (.node .nil 69 ti69 .nil) 70 ti70 .nil)) 71 ti71 (.node (.node (.node .nil 72 ti72 .nil) 73 ti73 .nil) 74 ti74 (.node (.node .nil 75 ti75 .nil) 76 ti76 .nil))) 77 ti77 (.node (.node (.node (.node .nil 78 ti78 .nil) 79 ti79 .nil) 80 ti80 (.node (.node .nil 81 ti81 .nil) 82 ti82 .nil)) 83 ti83 (.node (.node (.node .nil 84 ti84 .nil) 85 ti85 .nil) 86 ti86 (.node (.node .nil 87 ti87 .nil) 88 ti88 .nil)))) 89 ti89 (.node (.node (.node (.node (.node .nil 90 ti90 .nil) 91 ti91 .nil) 92 ti92 (.node (.node .nil 94 ti94 .nil) 95 ti95 .nil)) 96 ti96 (.node (.node (.node .nil 97 ti97 .nil) 98 ti98 .nil) 99 ti99 (.node (.node .nil 100 ti100 .nil) 101 ti101 .nil))) 102 ti102 (.node (.node (.node (.node .nil 103 ti103 .nil) 104 ti104 .nil) 105 ti105 (.node (.node .nil 106 ti106 .nil) 107 ti107 .nil)) 108 ti108 (.node (.node (.node .nil 109 ti109 .nil) 110 ti110 .nil) 111 ti111 (.node (.node .nil 112 ti112 .nil) 113 ti113 .nil)))))) 114 ti114 (.node (.node (.node (.node (.node (.node (.node .nil 115 ti115 .nil) 116 ti116 (.node .nil 117 ti117 .nil)) 119 ti119 (.node (.node .nil 120 ti120 .nil) 121 ti121 .nil)) 122 ti122 (.node (.node (.node .nil 123 ti123 .nil) 125 ti125 .nil) 126 ti126 (.node (.node .nil 127 ti127 .nil) 128 ti128 .nil))) 129 ti129 (.node (.node (.node (.node .nil 130 ti130 .nil) 131 ti131 .nil) 132 ti132 (.node (.node .nil 133 ti133 .nil) 134 ti134 .nil)) 135 ti135 (.node (.node (.node .nil 136 ti136 .nil) 137 ti137 .nil) 138 ti138 (.node (.node .nil 139 ti139 .nil) 140 ti140 .nil)))) 141 ti141 (.node (.node (.node (.node (.node .nil 142 ti142 .nil) 143 ti143 (.node .nil 144 ti144 .nil)) 145 ti145 (.node (.node .nil 146 ti146 .nil) 147 ti147 .nil)) 148 ti148 (.node (.node (.node .nil 149 ti149 .nil) 151 ti151 .nil) 152 ti152 (.node (.node .nil 153 ti153 .nil) 154 ti154 .nil))) 155 ti155 (.node (.node (.node (.node .nil 156 ti156 .nil) 157 ti157 .nil) 158 ti158 (.node (.node .nil 159 ti159 .nil) 160 ti160 .nil)) 161 ti161 (.node (.node (.node .nil 162 ti162 .nil) 163 ti163 .nil) 164 ti164 (.node (.node .nil 165 ti165 .nil) 167 ti167 .nil))))) 168 ti168 (.node (.node (.node (.node (.node (.node .nil 169 ti169 .nil) 170 ti170 (.node .nil 171 ti171 .nil)) 172 ti172 (.node (.node .nil 173 ti173 .nil) 174 ti174 .nil)) 175 ti175 (.node (.node (.node .nil 176 ti176 .nil) 178 ti178 .nil) 179 ti179 (.node (.node .nil 180 ti180 .nil) 181 ti181 .nil))) 182 ti182 (.node (.node (.node (.node .nil 183 ti183 .nil) 184 ti184 .nil) 185 ti185 (.node (.node .nil 186 ti186 .nil) 187 ti187 .nil)) 188 ti188 (.node (.node (.node .nil 189 ti189 .nil) 190 ti190 .nil) 191 ti191 (.node (.node .nil 192 ti192 .nil) 193 ti193 .nil)))) 194 ti194 (.node (.node (.node (.node (.node .nil 195 ti195 .nil) 196 ti196 .nil) 197 ti197 (.node (.node .nil 198 ti198 .nil) 199 ti199 .nil)) 200 ti200 (.node (.node (.node .nil 201 ti201 .nil) 202 ti202 .nil) 203 ti203 (.node (.node .nil 204 ti204 .nil) 205 ti205 .nil))) 206 ti206 (.node (.node (.node (.node .nil 207 ti207 .nil) 208 ti208 .nil) 209 ti209 (.node (.node .nil 210 ti210 .nil) 211 ti211 .nil)) 212 ti212 (.node (.node (.node .nil 213 ti213 .nil) 214 ti214 .nil) 220 ti220 (.node (.node .nil 223 ti223 .nil) 224 ti224 .nil)))))))
def T : TypeId → Option TI := tyFind tbl
theorem tok1 : TOk Tryz.prog 1 ti1 := mkT (.nilFunc) (by kernel_rfl) rfl rfl (show (Tryz.prog.underlying 1).map plainB = some true by kernel_rfl) (fun h => by cases h)
theorem tok2 : TOk Tryz.prog 2 ti2 := mkT (.int .i64 0) (by kernel_rfl) rfl rfl (show Tryz.prog.underlying 2 = some (.int .i64) by kernel_rfl) (fun h => by cases h)
theorem tok3 : TOk Tryz.prog 3 ti3 := mkT (.int .i64 0) (by kernel_rfl) rfl rfl (show Tryz.prog.underlying 3 = some (.int .i64) by kernel_rfl) (fun h => by cases h)
theorem tok4 : TOk Tryz.prog 4 ti4 := mkT (.bool false) (by kernel_rfl) rfl rfl (show Tryz.prog.underlying 4 = some (.bool) by kernel_rfl) (fun h => by cases h)
theorem tok5 : TOk Tryz.prog 5 ti5 := mkT (.int .u8 0) (by kernel_rfl) rfl rfl (show Tryz.prog.underlying 5 = some (.int .u8) by kernel_rfl) (fun h => by cases h)
theorem tok9 : TOk Tryz.prog 9 ti9 := mkT (.string ⟨#[]⟩) (by kernel_rfl) rfl rfl (show Tryz.prog.underlying 9 = some (.string) by kernel_rfl) (fun h => by cases h)
theorem tok12 : TOk Tryz.prog 12 ti12 := mkT (.int .u64 0) (by kernel_rfl) rfl rfl (show Tryz.prog.underlying 12 = some (.int .u64) by kernel_rfl) (fun h => by cases h)
theorem tok20 : TOk Tryz.prog 20 ti20 := mkT (.nilIface) (by kernel_rfl) rfl rfl (show (Tryz.prog.underlying 20).map plainB = some true by kernel_rfl) (fun h => by cases h)
theorem tok21 : TOk Tryz.prog 21 ti21 := mkT (.int .i32 0) (by kernel_rfl) rfl rfl (show Tryz.prog.underlying 21 = some (.int .i32) by kernel_rfl) (fun h => by cases h)
theorem tok22 : TOk Tryz.prog 22 ti22 := mkT (.slice none 0 0) (by kernel_rfl) rfl rfl (show Tryz.prog.underlying 22 = some (.slice 3) by kernel_rfl) (fun h => by cases h)
theorem tok23 : TOk Tryz.prog 23 ti23 := mkT (.pointer none) (by kernel_rfl) rfl rfl (show (Tryz.prog.underlying 23).map plainB = some true by kernel_rfl) (fun h => by cases h)
theorem tok24 : TOk Tryz.prog 24 ti24 := mkT (.nilFunc) (by kernel_rfl) rfl rfl (show (Tryz.prog.underlying 24).map plainB = some true by kernel_rfl) (fun h => by cases h)
theorem tok25 : TOk Tryz.prog 25 ti25 := mkT (.slice none 0 0) (by kernel_rfl) rfl rfl (show Tryz.prog.underlying 25 = some (.slice 49) by kernel_rfl) (fun h => by cases h)
theorem tok26 : TOk Tryz.prog 26 ti26 := mkT (.nilFunc) (by kernel_rfl) rfl rfl (show (Tryz.prog.underlying 26).map plainB = some true by kernel_rfl) (fun h => by cases h)
theorem tok27 : TOk Tryz.prog 27 ti27 := mkT (.slice none 0 0) (by kernel_rfl) rfl rfl (show Tryz.prog.underlying 27 = some (.slice 72) by kernel_rfl) (fun h => by cases h)
theorem tok28 : TOk Tryz.prog 28 ti28 := mkT (.nilFunc) (by kernel_rfl) rfl rfl (show (Tryz.prog.underlying 28).map plainB = some true by kernel_rfl) (fun h => by cases h)
theorem tok29 : TOk Tryz.prog 29 ti29 := mkT (.slice none 0 0) (by kernel_rfl) rfl rfl (show Tryz.prog.underlying 29 = some (.slice 46) by kernel_rfl) (fun h => by cases h)
theorem tok30 : TOk Tryz.prog 30 ti30 := mkT (.nilFunc) (by kernel_rfl) rfl rfl (show (Tryz.prog.underlying 30).map plainB = some true by kernel_rfl) (fun h => by cases h)
theorem tok31 : TOk Tryz.prog 31 ti31 := mkT (.nilFunc) (by kernel_rfl) rfl rfl (show (Tryz.prog.underlying 31).map plainB = some true by kernel_rfl) (fun h => by cases h)
theorem tok32 : TOk Tryz.prog 32 ti32 := mkT (.int .i64 0) (by kernel_rfl) rfl rfl (show Tryz.prog.underlying 32 = some (.int .i64) by kernel_rfl) (fun h => by cases h)
theorem tok34 : TOk Tryz.prog 34 ti34 := mkT (.nilFunc) (by kernel_rfl) rfl rfl (show (Tryz.prog.underlying 34).map plainB = some true by kernel_rfl) (fun h => by cases h)
theorem tok35 : TOk Tryz.prog 35 ti35 := mkT (.nilFunc) (by kernel_rfl) rfl rfl (show (Tryz.prog.underlying 35).map plainB = some true by kernel_rfl) (fun h => by cases h)
theorem tok36 : TOk Tryz.prog 36 ti36 := mkT (.nilFunc) (by kernel_rfl) rfl rfl (show (Tryz.prog.underlying 36).map plainB = some true by kernel_rfl) (fun h => by cases h)
theorem tok37 : TOk Tryz.prog 37 ti37 := mkT (.nilFunc) (by kernel_rfl) rfl rfl (show (Tryz.prog.underlying 37).map plainB = some true by kernel_rfl) (fun h => by cases h)
theorem tok38 : TOk Tryz.prog 38 ti38 := mkT (.slice none 0 0) (by kernel_rfl) rfl rfl (show Tryz.prog.underlying 38 = some (.slice 90) by kernel_rfl) (fun h => by cases h)
theorem tok40 : TOk Tryz.prog 40 ti40 := mkT (.nilFunc) (by kernel_rfl) rfl rfl (show (Tryz.prog.underlying 40).map plainB = some true by kernel_rfl) (fun h => by cases h)
theorem tok41 : TOk Tryz.prog 41 ti41 := mkT (.nilFunc) (by kernel_rfl) rfl rfl (show (Tryz.prog.underlying 41).map plainB = some true by kernel_rfl) (fun h => by cases h)
theorem tok42 : TOk Tryz.prog 42 ti42 := mkT (.nilFunc) (by kernel_rfl) rfl rfl (show (Tryz.prog.underlying 42).map plainB = some true by kernel_rfl) (fun h => by cases h)
theorem tok43 : TOk Tryz.prog 43 ti43 := mkT (.nilFunc) (by kernel_rfl) rfl rfl (show (Tryz.prog.underlying 43).map plainB = some true by kernel_rfl) (fun h => by cases h)
theorem tok44 : TOk Tryz.prog 44 ti44 := mkT (.slice none 0 0) (by kernel_rfl) rfl rfl (show Tryz.prog.underlying 44 = some (.slice 114) by kernel_rfl) (fun h => by cases h)
theorem tok45 : TOk Tryz.prog 45 ti45 := mkT (.agg #[.string ⟨#[]⟩, .int .i64 0, .slice none 0 0]) (by kernel_rfl) rfl rfl (show (Tryz.prog.underlying 45).map structFs = some (some [(0, 9), (1, 3), (2, 44)]) by kernel_rfl) (fun h => by cases h)
theorem tok46 : TOk Tryz.prog 46 ti46 := mkT (.agg #[.string ⟨#[]⟩, .int .i64 0, .slice none 0 0]) (by kernel_rfl) rfl rfl (show (Tryz.prog.underlying 46).map structFs = some (some [(0, 9), (1, 3), (2, 44)]) by kernel_rfl) (fun h => by cases h)
theorem tok47 : TOk Tryz.prog 47 ti47 := mkT (.slice none 0 0) (by kernel_rfl) rfl rfl (show Tryz.prog.underlying 47 = some (.slice 53) by kernel_rfl) (fun h => by cases h)
theorem tok48 : TOk Tryz.prog 48 ti48 := mkT (.agg #[.slice none 0 0, .int .i64 0]) (by kernel_rfl) rfl rfl (show (Tryz.prog.underlying 48).map structFs = some (some [(0, 47), (1, 2)]) by kernel_rfl) (fun h => by cases h)
theorem tok49 : TOk Tryz.prog 49 ti49 := mkT (.agg #[.slice none 0 0, .int .i64 0]) (by kernel_rfl) rfl rfl (show (Tryz.prog.underlying 49).map structFs = some (some [(0, 47), (1, 2)]) by kernel_rfl) (fun h => by cases h)
theorem tok50 : TOk Tryz.prog 50 ti50 := mkT (.nilFunc) (by kernel_rfl) rfl rfl (show (Tryz.prog.underlying 50).map plainB = some true by kernel_rfl) (fun h => by cases h)
theorem tok51 : TOk Tryz.prog 51 ti51 := mkT (.nilFunc) (by kernel_rfl) rfl rfl (show (Tryz.prog.underlying 51).map plainB = some true by kernel_rfl) (fun h => by cases h)
theorem tok52 : TOk Tryz.prog 52 ti52 := mkT (.agg #[.int .i64 0, .int .i64 0, .string ⟨#[]⟩]) (by kernel_rfl) rfl rfl (show (Tryz.prog.underlying 52).map structFs = some (some [(0, 3), (1, 2), (2, 9)]) by kernel_rfl) (fun _ => eqOk (by kernel_rfl) (by kernel_rfl) (by kernel_rfl) (by kernel_rfl))
theorem tok53 : TOk Tryz.prog 53 ti53 := mkT (.agg #[.int .i64 0, .int .i64 0, .string ⟨#[]⟩]) (by kernel_rfl) rfl rfl (show (Tryz.prog.underlying 53).map structFs = some (some [(0, 3), (1, 2), (2, 9)]) by kernel_rfl) (fun _ => eqOk (by kernel_rfl) (by kernel_rfl) (by kernel_rfl) (by kernel_rfl))
theorem tok54 : TOk Tryz.prog 54 ti54 := mkT (.nilFunc) (by kernel_rfl) rfl rfl (show (Tryz.prog.underlying 54).map plainB = some true by kernel_rfl) (fun h => by cases h)
theorem tok55 : TOk Tryz.prog 55 ti55 := mkT (.nilFunc) (by kernel_rfl) rfl rfl (show (Tryz.prog.underlying 55).map plainB = some true by kernel_rfl) (fun h => by cases h)
theorem tok56 : TOk Tryz.prog 56 ti56 := mkT (.nilFunc) (by kernel_rfl) rfl rfl (show (Tryz.prog.underlying 56).map plainB = some true by kernel_rfl) (fun h => by cases h)
theorem tok57 : TOk Tryz.prog 57 ti57 := mkT (.nilFunc) (by kernel_rfl) rfl rfl (show (Tryz.prog.underlying 57).map plainB = some true by kernel_rfl) (fun h => by cases h)
theorem tok58 : TOk Tryz.prog 58 ti58 := mkT (.nilFunc) (by kernel_rfl) rfl rfl (show (Tryz.prog.underlying 58).map plainB = some true by kernel_rfl) (fun h => by cases h)
theorem tok59 : TOk Tryz.prog 59 ti59 := mkT (.nilFunc) (by kernel_rfl) rfl rfl (show (Tryz.prog.underlying 59).map plainB = some true by kernel_rfl) (fun h => by cases h)
theorem tok60 : TOk Tryz.prog 60 ti60 := mkT (.nilFunc) (by kernel_rfl) rfl rfl (show (Tryz.prog.underlying 60).map plainB = some true by kernel_rfl) (fun h => by cases h)
theorem tok61 : TOk Tryz.prog 61 ti61 := mkT (.nilFunc) (by kernel_rfl) rfl rfl (show (Tryz.prog.underlying 61).map plainB = some true by kernel_rfl) (fun h => by cases h)
theorem tok62 : TOk Tryz.prog 62 ti62 := mkT (.nilFunc) (by kernel_rfl) rfl rfl (show (Tryz.prog.underlying 62).map plainB = some true by kernel_rfl) (fun h => by cases h)
theorem tok63 : TOk Tryz.prog 63 ti63 := mkT (.nilFunc) (by kernel_rfl) rfl rfl (show (Tryz.prog.underlying 63).map plainB = some true by kernel_rfl) (fun h => by cases h)
theorem tok64 : TOk Tryz.prog 64 ti64 := mkT (.agg #[.slice none 0 0, .int .i64 0]) (by kernel_rfl) rfl rfl (show (Tryz.prog.underlying 64).map structFs = some (some [(0, 22), (1, 3)]) by kernel_rfl) (fun h => by cases h)
theorem tok65 : TOk Tryz.prog 65 ti65 := mkT (.agg #[.slice none 0 0, .int .i64 0]) (by kernel_rfl) rfl rfl (show (Tryz.prog.underlying 65).map structFs = some (some [(0, 22), (1, 3)]) by kernel_rfl) (fun h => by cases h)
theorem tok66 : TOk Tryz.prog 66 ti66 := mkT (.nilFunc) (by kernel_rfl) rfl rfl (show (Tryz.prog.underlying 66).map plainB = some true by kernel_rfl) (fun h => by cases h)
theorem tok67 : TOk Tryz.prog 67 ti67 := mkT (.nilFunc) (by kernel_rfl) rfl rfl (show (Tryz.prog.underlying 67).map plainB = some true by kernel_rfl) (fun h => by cases h)
theorem tok68 : TOk Tryz.prog 68 ti68 := mkT (.nilFunc) (by kernel_rfl) rfl rfl (show (Tryz.prog.underlying 68).map plainB = some true by kernel_rfl) (fun h => by cases h)
theorem tok69 : TOk Tryz.prog 69 ti69 := mkT (.nilFunc) (by kernel_rfl) rfl rfl (show (Tryz.prog.underlying 69).map plainB = some true by kernel_rfl) (fun h => by cases h)
theorem tok70 : TOk Tryz.prog 70 ti70 := mkT (.nilFunc) (by kernel_rfl) rfl rfl (show (Tryz.prog.underlying 70).map plainB = some true by kernel_rfl) (fun h => by cases h)
theorem tok71 : TOk Tryz.prog 71 ti71 := mkT (.agg #[.string ⟨#[]⟩, .slice none 0 0]) (by kernel_rfl) rfl rfl (show (Tryz.prog.underlying 71).map structFs = some (some [(0, 9), (1, 44)]) by kernel_rfl) (fun h => by cases h)
theorem tok72 : TOk Tryz.prog 72 ti72 := mkT (.agg #[.string ⟨#[]⟩, .slice none 0 0]) (by kernel_rfl) rfl rfl (show (Tryz.prog.underlying 72).map structFs = some (some [(0, 9), (1, 44)]) by kernel_rfl) (fun h => by cases h)
theorem tok73 : TOk Tryz.prog 73 ti73 := mkT (.nilFunc) (by kernel_rfl) rfl rfl (show (Tryz.prog.underlying 73).map plainB = some true by kernel_rfl) (fun h => by cases h)
theorem tok74 : TOk Tryz.prog 74 ti74 := mkT (.slice none 0 0) (by kernel_rfl) rfl rfl (show Tryz.prog.underlying 74 = some (.slice 2) by kernel_rfl) (fun h => by cases h)
theorem tok75 : TOk Tryz.prog 75 ti75 := mkT (.slice none 0 0) (by kernel_rfl) rfl rfl (show Tryz.prog.underlying 75 = some (.slice 78) by kernel_rfl) (fun h => by cases h)
theorem tok76 : TOk Tryz.prog 76 ti76 := mkT (.nilFunc) (by kernel_rfl) rfl rfl (show (Tryz.prog.underlying 76).map plainB = some true by kernel_rfl) (fun h => by cases h)
theorem tok77 : TOk Tryz.prog 77 ti77 := mkT (.agg #[.slice none 0 0, .slice none 0 0]) (by kernel_rfl) rfl rfl (show (Tryz.prog.underlying 77).map structFs = some (some [(0, 47), (1, 25)]) by kernel_rfl) (fun h => by cases h)
theorem tok78 : TOk Tryz.prog 78 ti78 := mkT (.agg #[.slice none 0 0, .slice none 0 0]) (by kernel_rfl) rfl rfl (show (Tryz.prog.underlying 78).map structFs = some (some [(0, 47), (1, 25)]) by kernel_rfl) (fun h => by cases h)
theorem tok79 : TOk Tryz.prog 79 ti79 := mkT (.nilFunc) (by kernel_rfl) rfl rfl (show (Tryz.prog.underlying 79).map plainB = some true by kernel_rfl) (fun h => by cases h)
theorem tok80 : TOk Tryz.prog 80 ti80 := mkT (.slice none 0 0) (by kernel_rfl) rfl rfl (show Tryz.prog.underlying 80 = some (.slice 99) by kernel_rfl) (fun h => by cases h)
theorem tok81 : TOk Tryz.prog 81 ti81 := mkT (.nilFunc) (by kernel_rfl) rfl rfl (show (Tryz.prog.underlying 81).map plainB = some true by kernel_rfl) (fun h => by cases h)
theorem tok82 : TOk Tryz.prog 82 ti82 := mkT (.slice none 0 0) (by kernel_rfl) rfl rfl (show Tryz.prog.underlying 82 = some (.slice 47) by kernel_rfl) (fun h => by cases h)
theorem tok83 : TOk Tryz.prog 83 ti83 := mkT (.nilFunc) (by kernel_rfl) rfl rfl (show (Tryz.prog.underlying 83).map plainB = some true by kernel_rfl) (fun h => by cases h)
theorem tok84 : TOk Tryz.prog 84 ti84 := mkT (.nilFunc) (by kernel_rfl) rfl rfl (show (Tryz.prog.underlying 84).map plainB = some true by kernel_rfl) (fun h => by cases h)
theorem tok85 : TOk Tryz.prog 85 ti85 := mkT (.nilFunc) (by kernel_rfl) rfl rfl (show (Tryz.prog.underlying 85).map plainB = some true by kernel_rfl) (fun h => by cases h)
theorem tok86 : TOk Tryz.prog 86 ti86 := mkT (.nilFunc) (by kernel_rfl) rfl rfl (show (Tryz.prog.underlying 86).map plainB = some true by kernel_rfl) (fun h => by cases h)
theorem tok87 : TOk Tryz.prog 87 ti87 := mkT (.nilFunc) (by kernel_rfl) rfl rfl (show (Tryz.prog.underlying 87).map plainB = some true by kernel_rfl) (fun h => by cases h)
theorem tok88 : TOk Tryz.prog 88 ti88 := mkT (.nilFunc) (by kernel_rfl) rfl rfl (show (Tryz.prog.underlying 88).map plainB = some true by kernel_rfl) (fun h => by cases h)
theorem tok89 : TOk Tryz.prog 89 ti89 := mkT (.agg #[.slice none 0 0, .int .i64 0, .slice none 0 0, .slice none 0 0]) (by kernel_rfl) rfl rfl (show (Tryz.prog.underlying 89).map structFs = some (some [(0, 47), (1, 2), (2, 74), (3, 74)]) by kernel_rfl) (fun h => by cases h)
theorem tok90 : TOk Tryz.prog 90 ti90 := mkT (.agg #[.slice none 0 0, .int .i64 0, .slice none 0 0, .slice none 0 0]) (by kernel_rfl) rfl rfl (show (Tryz.prog.underlying 90).map structFs = some (some [(0, 47), (1, 2), (2, 74), (3, 74)]) by kernel_rfl) (fun h => by cases h)
theorem tok91 : TOk Tryz.prog 91 ti91 := mkT (.nilFunc) (by kernel_rfl) rfl rfl (show (Tryz.prog.underlying 91).map plainB = some true by kernel_rfl) (fun h => by cases h)
theorem tok92 : TOk Tryz.prog 92 ti92 := mkT (.nilFunc) (by kernel_rfl) rfl rfl (show (Tryz.prog.underlying 92).map plainB = some true by kernel_rfl) (fun h => by cases h)
theorem tok94 : TOk Tryz.prog 94 ti94 := mkT (.nilFunc) (by kernel_rfl) rfl rfl (show (Tryz.prog.underlying 94).map plainB = some true by kernel_rfl) (fun h => by cases h)
theorem tok95 : TOk Tryz.prog 95 ti95 := mkT (.nilFunc) (by kernel_rfl) rfl rfl (show (Tryz.prog.underlying 95).map plainB = some true by kernel_rfl) (fun h => by cases h)
theorem tok96 : TOk Tryz.prog 96 ti96 := mkT (.pointer none) (by kernel_rfl) rfl rfl (show (Tryz.prog.underlying 96).map plainB = some true by kernel_rfl) (fun h => by cases h)
theorem tok97 : TOk Tryz.prog 97 ti97 := mkT (.nilFunc) (by kernel_rfl) rfl rfl (show (Tryz.prog.underlying 97).map plainB = some true by kernel_rfl) (fun h => by cases h)
theorem tok98 : TOk Tryz.prog 98 ti98 := mkT (.agg #[.int .i64 0, .int .i64 0, .string ⟨#[]⟩, .int .i64 0]) (by kernel_rfl) rfl rfl (show (Tryz.prog.underlying 98).map structFs = some (some [(0, 53), (3, 2)]) by kernel_rfl) (fun h => by cases h)
theorem tok99 : TOk Tryz.prog 99 ti99 := mkT (.agg #[.int .i64 0, .int .i64 0, .string ⟨#[]⟩, .int .i64 0]) (by kernel_rfl) rfl rfl (show (Tryz.prog.underlying 99).map structFs = some (some [(0, 53), (3, 2)]) by kernel_rfl) (fun h => by cases h)
theorem tok100 : TOk Tryz.prog 100 ti100 := mkT (.nilFunc) (by kernel_rfl) rfl rfl (show (Tryz.prog.underlying 100).map plainB = some true by kernel_rfl) (fun h => by cases h)
theorem tok101 : TOk Tryz.prog 101 ti101 := mkT (.nilFunc) (by kernel_rfl) rfl rfl (show (Tryz.prog.underlying 101).map plainB = some true by kernel_rfl) (fun h => by cases h)
theorem tok102 : TOk Tryz.prog 102 ti102 := mkT (.nilFunc) (by kernel_rfl) rfl rfl (show (Tryz.prog.underlying 102).map plainB = some true by kernel_rfl) (fun h => by cases h)
theorem tok103 : TOk Tryz.prog 103 ti103 := mkT (.nilFunc) (by kernel_rfl) rfl rfl (show (Tryz.prog.underlying 103).map plainB = some true by kernel_rfl) (fun h => by cases h)
theorem tok104 : TOk Tryz.prog 104 ti104 := mkT (.nilFunc) (by kernel_rfl) rfl rfl (show (Tryz.prog.underlying 104).map plainB = some true by kernel_rfl) (fun h => by cases h)
theorem tok105 : TOk Tryz.prog 105 ti105 := mkT (.nilFunc) (by kernel_rfl) rfl rfl (show (Tryz.prog.underlying 105).map plainB = some true by kernel_rfl) (fun h => by cases h)
theorem tok106 : TOk Tryz.prog 106 ti106 := mkT (.nilFunc) (by kernel_rfl) rfl rfl (show (Tryz.prog.underlying 106).map plainB = some true by kernel_rfl) (fun h => by cases h)
theorem tok107 : TOk Tryz.prog 107 ti107 := mkT (.nilFunc) (by kernel_rfl) rfl rfl (show (Tryz.prog.underlying 107).map plainB = some true by kernel_rfl) (fun h => by cases h)
theorem tok108 : TOk Tryz.prog 108 ti108 := mkT (.nilFunc) (by kernel_rfl) rfl rfl (show (Tryz.prog.underlying 108).map plainB = some true by kernel_rfl) (fun h => by cases h)
theorem tok109 : TOk Tryz.prog 109 ti109 := mkT (.nilFunc) (by kernel_rfl) rfl rfl (show (Tryz.prog.underlying 109).map plainB = some true by kernel_rfl) (fun h => by cases h)
theorem tok110 : TOk Tryz.prog 110 ti110 := mkT (.int .u64 0) (by kernel_rfl) rfl rfl (show Tryz.prog.underlying 110 = some (.int .u64) by kernel_rfl) (fun h => by cases h)
theorem tok111 : TOk Tryz.prog 111 ti111 := mkT (.slice none 0 0) (by kernel_rfl) rfl rfl (show Tryz.prog.underlying 111 = some (.slice 5) by kernel_rfl) (fun h => by cases h)
theorem tok112 : TOk Tryz.prog 112 ti112 := mkT (.nilFunc) (by kernel_rfl) rfl rfl (show (Tryz.prog.underlying 112).map plainB = some true by kernel_rfl) (fun h => by cases h)
theorem tok113 : TOk Tryz.prog 113 ti113 := mkT (.agg #[.int .i64 0, .int .i64 0, .int .i64 0, .string ⟨#[]⟩, .int .i64 0]) (by kernel_rfl) rfl rfl (show (Tryz.prog.underlying 113).map structFs = some (some [(0, 3), (1, 53), (4, 3)]) by kernel_rfl) (fun h => by cases h)
theorem tok114 : TOk Tryz.prog 114 ti114 := mkT (.agg #[.int .i64 0, .int .i64 0, .int .i64 0, .string ⟨#[]⟩, .int .i64 0]) (by kernel_rfl) rfl rfl (show (Tryz.prog.underlying 114).map structFs = some (some [(0, 3), (1, 53), (4, 3)]) by kernel_rfl) (fun h => by cases h)
theorem tok115 : TOk Tryz.prog 115 ti115 := mkT (.map none) (by kernel_rfl) rfl rfl (show (Tryz.prog.underlying 115).map plainB = some true by kernel_rfl) (fun h => by cases h)
theorem tok116 : TOk Tryz.prog 116 ti116 := mkT (.nilFunc) (by kernel_rfl) rfl rfl (show (Tryz.prog.underlying 116).map plainB = some true by kernel_rfl) (fun h => by cases h)
theorem tok117 : TOk Tryz.prog 117 ti117 := mkT (.nilFunc) (by kernel_rfl) rfl rfl (show (Tryz.prog.underlying 117).map plainB = some true by kernel_rfl) (fun h => by cases h)
theorem tok119 : TOk Tryz.prog 119 ti119 := mkT (.nilFunc) (by kernel_rfl) rfl rfl (show (Tryz.prog.underlying 119).map plainB = some true by kernel_rfl) (fun h => by cases h)
theorem tok120 : TOk Tryz.prog 120 ti120 := mkT (.nilFunc) (by kernel_rfl) rfl rfl (show (Tryz.prog.underlying 120).map plainB = some true by kernel_rfl) (fun h => by cases h)
theorem tok121 : TOk Tryz.prog 121 ti121 := mkT (.nilFunc) (by kernel_rfl) rfl rfl (show (Tryz.prog.underlying 121).map plainB = some true by kernel_rfl) (fun h => by cases h)
theorem tok122 : TOk Tryz.prog 122 ti122 := mkT (.map none) (by kernel_rfl) rfl rfl (show (Tryz.prog.underlying 122).map plainB = some true by kernel_rfl) (fun h => by cases h)
theorem tok123 : TOk Tryz.prog 123 ti123 := mkT (.nilFunc) (by kernel_rfl) rfl rfl (show (Tryz.prog.underlying 123).map plainB = some true by kernel_rfl) (fun h => by cases h)
theorem tok125 : TOk Tryz.prog 125 ti125 := mkT (.nilFunc) (by kernel_rfl) rfl rfl (show (Tryz.prog.underlying 125).map plainB = some true by kernel_rfl) (fun h => by cases h)
theorem tok126 : TOk Tryz.prog 126 ti126 := mkT (.nilFunc) (by kernel_rfl) rfl rfl (show (Tryz.prog.underlying 126).map plainB = some true by kernel_rfl) (fun h => by cases h)
theorem tok127 : TOk Tryz.prog 127 ti127 := mkT (.nilFunc) (by kernel_rfl) rfl rfl (show (Tryz.prog.underlying 127).map plainB = some true by kernel_rfl) (fun h => by cases h)
theorem tok128 : TOk Tryz.prog 128 ti128 := mkT (.nilFunc) (by kernel_rfl) rfl rfl (show (Tryz.prog.underlying 128).map plainB = some true by kernel_rfl) (fun h => by cases h)
theorem tok129 : TOk Tryz.prog 129 ti129 := mkT (.nilFunc) (by kernel_rfl) rfl rfl (show (Tryz.prog.underlying 129).map plainB = some true by kernel_rfl) (fun h => by cases h)
theorem tok130 : TOk Tryz.prog 130 ti130 := mkT (.nilFunc) (by kernel_rfl) rfl rfl (show (Tryz.prog.underlying 130).map plainB = some true by kernel_rfl) (fun h => by cases h)
theorem tok131 : TOk Tryz.prog 131 ti131 := mkT (.nilFunc) (by kernel_rfl) rfl rfl (show (Tryz.prog.underlying 131).map plainB = some true by kernel_rfl) (fun h => by cases h)
theorem tok132 : TOk Tryz.prog 132 ti132 := mkT (.nilFunc) (by kernel_rfl) rfl rfl (show (Tryz.prog.underlying 132).map plainB = some true by kernel_rfl) (fun h => by cases h)
theorem tok133 : TOk Tryz.prog 133 ti133 := mkT (.nilFunc) (by kernel_rfl) rfl rfl (show (Tryz.prog.underlying 133).map plainB = some true by kernel_rfl) (fun h => by cases h)
theorem tok134 : TOk Tryz.prog 134 ti134 := mkT (.nilFunc) (by kernel_rfl) rfl rfl (show (Tryz.prog.underlying 134).map plainB = some true by kernel_rfl) (fun h => by cases h)
theorem tok135 : TOk Tryz.prog 135 ti135 := mkT (.nilFunc) (by kernel_rfl) rfl rfl (show (Tryz.prog.underlying 135).map plainB = some true by kernel_rfl) (fun h => by cases h)
theorem tok136 : TOk Tryz.prog 136 ti136 := mkT (.nilFunc) (by kernel_rfl) rfl rfl (show (Tryz.prog.underlying 136).map plainB = some true by kernel_rfl) (fun h => by cases h)
theorem tok137 : TOk Tryz.prog 137 ti137 := mkT (.nilFunc) (by kernel_rfl) rfl rfl (show (Tryz.prog.underlying 137).map plainB = some true by kernel_rfl) (fun h => by cases h)
theorem tok138 : TOk Tryz.prog 138 ti138 := mkT (.nilFunc) (by kernel_rfl) rfl rfl (show (Tryz.prog.underlying 138).map plainB = some true by kernel_rfl) (fun h => by cases h)
theorem tok139 : TOk Tryz.prog 139 ti139 := mkT (.nilFunc) (by kernel_rfl) rfl rfl (show (Tryz.prog.underlying 139).map plainB = some true by kernel_rfl) (fun h => by cases h)
theorem tok140 : TOk Tryz.prog 140 ti140 := mkT (.nilFunc) (by kernel_rfl) rfl rfl (show (Tryz.prog.underlying 140).map plainB = some true by kernel_rfl) (fun h => by cases h)
theorem tok141 : TOk Tryz.prog 141 ti141 := mkT (.nilFunc) (by kernel_rfl) rfl rfl (show (Tryz.prog.underlying 141).map plainB = some true by kernel_rfl) (fun h => by cases h)
theorem tok142 : TOk Tryz.prog 142 ti142 := mkT (.nilFunc) (by kernel_rfl) rfl rfl (show (Tryz.prog.underlying 142).map plainB = some true by kernel_rfl) (fun h => by cases h)
theorem tok143 : TOk Tryz.prog 143 ti143 := mkT (.nilFunc) (by kernel_rfl) rfl rfl (show (Tryz.prog.underlying 143).map plainB = some true by kernel_rfl) (fun h => by cases h)
theorem tok144 : TOk Tryz.prog 144 ti144 := mkT (.nilFunc) (by kernel_rfl) rfl rfl (show (Tryz.prog.underlying 144).map plainB = some true by kernel_rfl) (fun h => by cases h)
theorem tok145 : TOk Tryz.prog 145 ti145 := mkT (.nilFunc) (by kernel_rfl) rfl rfl (show (Tryz.prog.underlying 145).map plainB = some true by kernel_rfl) (fun h => by cases h)
theorem tok146 : TOk Tryz.prog 146 ti146 := mkT (.nilFunc) (by kernel_rfl) rfl rfl (show (Tryz.prog.underlying 146).map plainB = some true by kernel_rfl) (fun h => by cases h)
theorem tok147 : TOk Tryz.prog 147 ti147 := mkT (.nilFunc) (by kernel_rfl) rfl rfl (show (Tryz.prog.underlying 147).map plainB = some true by kernel_rfl) (fun h => by cases h)
theorem tok148 : TOk Tryz.prog 148 ti148 := mkT (.nilFunc) (by kernel_rfl) rfl rfl (show (Tryz.prog.underlying 148).map plainB = some true by kernel_rfl) (fun h => by cases h)
theorem tok149 : TOk Tryz.prog 149 ti149 := mkT (.nilFunc) (by kernel_rfl) rfl rfl (show (Tryz.prog.underlying 149).map plainB = some true by kernel_rfl) (fun h => by cases h)
theorem tok151 : TOk Tryz.prog 151 ti151 := mkT (.nilFunc) (by kernel_rfl) rfl rfl (show (Tryz.prog.underlying 151).map plainB = some true by kernel_rfl) (fun h => by cases h)
theorem tok152 : TOk Tryz.prog 152 ti152 := mkT (.nilFunc) (by kernel_rfl) rfl rfl (show (Tryz.prog.underlying 152).map plainB = some true by kernel_rfl) (fun h => by cases h)
theorem tok153 : TOk Tryz.prog 153 ti153 := mkT (.nilFunc) (by kernel_rfl) rfl rfl (show (Tryz.prog.underlying 153).map plainB = some true by kernel_rfl) (fun h => by cases h)
theorem tok154 : TOk Tryz.prog 154 ti154 := mkT (.nilFunc) (by kernel_rfl) rfl rfl (show (Tryz.prog.underlying 154).map plainB = some true by kernel_rfl) (fun h => by cases h)
theorem tok155 : TOk Tryz.prog 155 ti155 := mkT (.nilFunc) (by kernel_rfl) rfl rfl (show (Tryz.prog.underlying 155).map plainB = some true by kernel_rfl) (fun h => by cases h)
theorem tok156 : TOk Tryz.prog 156 ti156 := mkT (.slice none 0 0) (by kernel_rfl) rfl rfl (show Tryz.prog.underlying 156 = some (.slice 44) by kernel_rfl) (fun h => by cases h)
theorem tok157 : TOk Tryz.prog 157 ti157 := mkT (.nilFunc) (by kernel_rfl) rfl rfl (show (Tryz.prog.underlying 157).map plainB = some true by kernel_rfl) (fun h => by cases h)
theorem tok158 : TOk Tryz.prog 158 ti158 := mkT (.nilFunc) (by kernel_rfl) rfl rfl (show (Tryz.prog.underlying 158).map plainB = some true by kernel_rfl) (fun h => by cases h)
theorem tok159 : TOk Tryz.prog 159 ti159 := mkT (.nilFunc) (by kernel_rfl) rfl rfl (show (Tryz.prog.underlying 159).map plainB = some true by kernel_rfl) (fun h => by cases h)
theorem tok160 : TOk Tryz.prog 160 ti160 := mkT (.nilFunc) (by kernel_rfl) rfl rfl (show (Tryz.prog.underlying 160).map plainB = some true by kernel_rfl) (fun h => by cases h)
theorem tok161 : TOk Tryz.prog 161 ti161 := mkT (.nilFunc) (by kernel_rfl) rfl rfl (show (Tryz.prog.underlying 161).map plainB = some true by kernel_rfl) (fun h => by cases h)
theorem tok162 : TOk Tryz.prog 162 ti162 := mkT (.nilFunc) (by kernel_rfl) rfl rfl (show (Tryz.prog.underlying 162).map plainB = some true by kernel_rfl) (fun h => by cases h)
theorem tok163 : TOk Tryz.prog 163 ti163 := mkT (.slice none 0 0) (by kernel_rfl) rfl rfl (show Tryz.prog.underlying 163 = some (.slice 9) by kernel_rfl) (fun h => by cases h)
theorem tok164 : TOk Tryz.prog 164 ti164 := mkT (.nilFunc) (by kernel_rfl) rfl rfl (show (Tryz.prog.underlying 164).map plainB = some true by kernel_rfl) (fun h => by cases h)
theorem tok165 : TOk Tryz.prog 165 ti165 := mkT (.int .i64 0) (by kernel_rfl) rfl rfl (show Tryz.prog.underlying 165 = some (.int .i64) by kernel_rfl) (fun h => by cases h)
theorem tok167 : TOk Tryz.prog 167 ti167 := mkT (.nilFunc) (by kernel_rfl) rfl rfl (show (Tryz.prog.underlying 167).map plainB = some true by kernel_rfl) (fun h => by cases h)
theorem tok168 : TOk Tryz.prog 168 ti168 := mkT (.nilFunc) (by kernel_rfl) rfl rfl (show (Tryz.prog.underlying 168).map plainB = some true by kernel_rfl) (fun h => by cases h)
theorem tok169 : TOk Tryz.prog 169 ti169 := mkT (.nilFunc) (by kernel_rfl) rfl rfl (show (Tryz.prog.underlying 169).map plainB = some true by kernel_rfl) (fun h => by cases h)
theorem tok170 : TOk Tryz.prog 170 ti170 := mkT (.nilFunc) (by kernel_rfl) rfl rfl (show (Tryz.prog.underlying 170).map plainB = some true by kernel_rfl) (fun h => by cases h)
theorem tok171 : TOk Tryz.prog 171 ti171 := mkT (.nilFunc) (by kernel_rfl) rfl rfl (show (Tryz.prog.underlying 171).map plainB = some true by kernel_rfl) (fun h => by cases h)
theorem tok172 : TOk Tryz.prog 172 ti172 := mkT (.int .u32 0) (by kernel_rfl) rfl rfl (show Tryz.prog.underlying 172 = some (.int .u32) by kernel_rfl) (fun h => by cases h)
theorem tok173 : TOk Tryz.prog 173 ti173 := mkT (.nilFunc) (by kernel_rfl) rfl rfl (show (Tryz.prog.underlying 173).map plainB = some true by kernel_rfl) (fun h => by cases h)
theorem tok174 : TOk Tryz.prog 174 ti174 := mkT (.int .u64 0) (by kernel_rfl) rfl rfl (show Tryz.prog.underlying 174 = some (.int .u64) by kernel_rfl) (fun h => by cases h)
theorem tok175 : TOk Tryz.prog 175 ti175 := mkT (.nilFunc) (by kernel_rfl) rfl rfl (show (Tryz.prog.underlying 175).map plainB = some true by kernel_rfl) (fun h => by cases h)
theorem tok176 : TOk Tryz.prog 176 ti176 := mkT (.nilFunc) (by kernel_rfl) rfl rfl (show (Tryz.prog.underlying 176).map plainB = some true by kernel_rfl) (fun h => by cases h)
theorem tok178 : TOk Tryz.prog 178 ti178 := mkT (.nilFunc) (by kernel_rfl) rfl rfl (show (Tryz.prog.underlying 178).map plainB = some true by kernel_rfl) (fun h => by cases h)
theorem tok179 : TOk Tryz.prog 179 ti179 := mkT (.agg #[.int .i64 0, .int .i64 0, .string ⟨#[]⟩, .int .i64 0, .int .i64 0, .string ⟨#[]⟩, .int .i64 0, .int .i64 0, .string ⟨#[]⟩]) (by kernel_rfl) rfl rfl (show Tryz.prog.underlying 179 = some (.array 3 53) by kernel_rfl) (fun h => by cases h)
theorem tok180 : TOk Tryz.prog 180 ti180 := mkT (.nilFunc) (by kernel_rfl) rfl rfl (show (Tryz.prog.underlying 180).map plainB = some true by kernel_rfl) (fun h => by cases h)
theorem tok181 : TOk Tryz.prog 181 ti181 := mkT (.nilFunc) (by kernel_rfl) rfl rfl (show (Tryz.prog.underlying 181).map plainB = some true by kernel_rfl) (fun h => by cases h)
theorem tok182 : TOk Tryz.prog 182 ti182 := mkT (.nilFunc) (by kernel_rfl) rfl rfl (show (Tryz.prog.underlying 182).map plainB = some true by kernel_rfl) (fun h => by cases h)
theorem tok183 : TOk Tryz.prog 183 ti183 := mkT (.nilFunc) (by kernel_rfl) rfl rfl (show (Tryz.prog.underlying 183).map plainB = some true by kernel_rfl) (fun h => by cases h)
theorem tok184 : TOk Tryz.prog 184 ti184 := mkT (.nilFunc) (by kernel_rfl) rfl rfl (show (Tryz.prog.underlying 184).map plainB = some true by kernel_rfl) (fun h => by cases h)
theorem tok185 : TOk Tryz.prog 185 ti185 := mkT (.nilFunc) (by kernel_rfl) rfl rfl (show (Tryz.prog.underlying 185).map plainB = some true by kernel_rfl) (fun h => by cases h)
theorem tok186 : TOk Tryz.prog 186 ti186 := mkT (.nilFunc) (by kernel_rfl) rfl rfl (show (Tryz.prog.underlying 186).map plainB = some true by kernel_rfl) (fun h => by cases h)
theorem tok187 : TOk Tryz.prog 187 ti187 := mkT (.nilFunc) (by kernel_rfl) rfl rfl (show (Tryz.prog.underlying 187).map plainB = some true by kernel_rfl) (fun h => by cases h)
theorem tok188 : TOk Tryz.prog 188 ti188 := mkT (.nilFunc) (by kernel_rfl) rfl rfl (show (Tryz.prog.underlying 188).map plainB = some true by kernel_rfl) (fun h => by cases h)
theorem tok189 : TOk Tryz.prog 189 ti189 := mkT (.nilFunc) (by kernel_rfl) rfl rfl (show (Tryz.prog.underlying 189).map plainB = some true by kernel_rfl) (fun h => by cases h)
theorem tok190 : TOk Tryz.prog 190 ti190 := mkT (.nilFunc) (by kernel_rfl) rfl rfl (show (Tryz.prog.underlying 190).map plainB = some true by kernel_rfl) (fun h => by cases h)
theorem tok191 : TOk Tryz.prog 191 ti191 := mkT (.nilFunc) (by kernel_rfl) rfl rfl (show (Tryz.prog.underlying 191).map plainB = some true by kernel_rfl) (fun h => by cases h)
theorem tok192 : TOk Tryz.prog 192 ti192 := mkT (.int .u64 0) (by kernel_rfl) rfl rfl (show Tryz.prog.underlying 192 = some (.int .u64) by kernel_rfl) (fun h => by cases h)
theorem tok193 : TOk Tryz.prog 193 ti193 := mkT (.nilFunc) (by kernel_rfl) rfl rfl (show (Tryz.prog.underlying 193).map plainB = some true by kernel_rfl) (fun h => by cases h)
theorem tok194 : TOk Tryz.prog 194 ti194 := mkT (.nilFunc) (by kernel_rfl) rfl rfl (show (Tryz.prog.underlying 194).map plainB = some true by kernel_rfl) (fun h => by cases h)
theorem tok195 : TOk Tryz.prog 195 ti195 := mkT (.nilFunc) (by kernel_rfl) rfl rfl (show (Tryz.prog.underlying 195).map plainB = some true by kernel_rfl) (fun h => by cases h)
theorem tok196 : TOk Tryz.prog 196 ti196 := mkT (.pointer none) (by kernel_rfl) rfl rfl (show (Tryz.prog.underlying 196).map plainB = some true by kernel_rfl) (fun h => by cases h)
theorem tok197 : TOk Tryz.prog 197 ti197 := mkT (.nilFunc) (by kernel_rfl) rfl rfl (show (Tryz.prog.underlying 197).map plainB = some true by kernel_rfl) (fun h => by cases h)
theorem tok198 : TOk Tryz.prog 198 ti198 := mkT (.nilFunc) (by kernel_rfl) rfl rfl (show (Tryz.prog.underlying 198).map plainB = some true by kernel_rfl) (fun h => by cases h)
theorem tok199 : TOk Tryz.prog 199 ti199 := mkT (.nilFunc) (by kernel_rfl) rfl rfl (show (Tryz.prog.underlying 199).map plainB = some true by kernel_rfl) (fun h => by cases h)
theorem tok200 : TOk Tryz.prog 200 ti200 := mkT (.nilFunc) (by kernel_rfl) rfl rfl (show (Tryz.prog.underlying 200).map plainB = some true by kernel_rfl) (fun h => by cases h)
theorem tok201 : TOk Tryz.prog 201 ti201 := mkT (.nilFunc) (by kernel_rfl) rfl rfl (show (Tryz.prog.underlying 201).map plainB = some true by kernel_rfl) (fun h => by cases h)
theorem tok202 : TOk Tryz.prog 202 ti202 := mkT (.nilFunc) (by kernel_rfl) rfl rfl (show (Tryz.prog.underlying 202).map plainB = some true by kernel_rfl) (fun h => by cases h)
theorem tok203 : TOk Tryz.prog 203 ti203 := mkT (.nilFunc) (by kernel_rfl) rfl rfl (show (Tryz.prog.underlying 203).map plainB = some true by kernel_rfl) (fun h => by cases h)
theorem tok204 : TOk Tryz.prog 204 ti204 := mkT (.nilFunc) (by kernel_rfl) rfl rfl (show (Tryz.prog.underlying 204).map plainB = some true by kernel_rfl) (fun h => by cases h)
theorem tok205 : TOk Tryz.prog 205 ti205 := mkT (.nilFunc) (by kernel_rfl) rfl rfl (show (Tryz.prog.underlying 205).map plainB = some true by kernel_rfl) (fun h => by cases h)
theorem tok206 : TOk Tryz.prog 206 ti206 := mkT (.nilFunc) (by kernel_rfl) rfl rfl (show (Tryz.prog.underlying 206).map plainB = some true by kernel_rfl) (fun h => by cases h)
theorem tok207 : TOk Tryz.prog 207 ti207 := mkT (.nilFunc) (by kernel_rfl) rfl rfl (show (Tryz.prog.underlying 207).map plainB = some true by kernel_rfl) (fun h => by cases h)
theorem tok208 : TOk Tryz.prog 208 ti208 := mkT (.pointer none) (by kernel_rfl) rfl rfl (show (Tryz.prog.underlying 208).map plainB = some true by kernel_rfl) (fun h => by cases h)
theorem tok209 : TOk Tryz.prog 209 ti209 := mkT (.nilFunc) (by kernel_rfl) rfl rfl (show (Tryz.prog.underlying 209).map plainB = some true by kernel_rfl) (fun h => by cases h)
theorem tok210 : TOk Tryz.prog 210 ti210 := mkT (.nilFunc) (by kernel_rfl) rfl rfl (show (Tryz.prog.underlying 210).map plainB = some true by kernel_rfl) (fun h => by cases h)
theorem tok211 : TOk Tryz.prog 211 ti211 := mkT (.nilFunc) (by kernel_rfl) rfl rfl (show (Tryz.prog.underlying 211).map plainB = some true by kernel_rfl) (fun h => by cases h)
theorem tok212 : TOk Tryz.prog 212 ti212 := mkT (.nilFunc) (by kernel_rfl) rfl rfl (show (Tryz.prog.underlying 212).map plainB = some true by kernel_rfl) (fun h => by cases h)
theorem tok213 : TOk Tryz.prog 213 ti213 := mkT (.nilFunc) (by kernel_rfl) rfl rfl (show (Tryz.prog.underlying 213).map plainB = some true by kernel_rfl) (fun h => by cases h)
theorem tok214 : TOk Tryz.prog 214 ti214 := mkT (.nilFunc) (by kernel_rfl) rfl rfl (show (Tryz.prog.underlying 214).map plainB = some true by kernel_rfl) (fun h => by cases h)
theorem tok220 : TOk Tryz.prog 220 ti220 := mkT (.nilFunc) (by kernel_rfl) rfl rfl (show (Tryz.prog.underlying 220).map plainB = some true by kernel_rfl) (fun h => by cases h)
theorem tok223 : TOk Tryz.prog 223 ti223 := mkT (.nilFunc) (by kernel_rfl) rfl rfl (show (Tryz.prog.underlying 223).map plainB = some true by kernel_rfl) (fun h => by cases h)
theorem tok224 : TOk Tryz.prog 224 ti224 := mkT (.pointer none) (by kernel_rfl) rfl rfl (show (Tryz.prog.underlying 224).map plainB = some true by kernel_rfl) (fun h => by cases h)
theorem hT : TypesOk Tryz.prog T := typesOk (show tyAll Tryz.prog tbl from ⟨⟨⟨⟨⟨⟨⟨⟨trivial, tok1, trivial⟩, tok2, ⟨trivial, tok3, trivial⟩⟩, tok4, ⟨⟨trivial, tok5, trivial⟩, tok9, trivial⟩⟩, tok12, ⟨⟨⟨trivial, tok20, trivial⟩, tok21, trivial⟩, tok22, ⟨⟨trivial, tok23, trivial⟩, tok24, trivial⟩⟩⟩, tok25, ⟨⟨⟨⟨trivial, tok26, trivial⟩, tok27, trivial⟩, tok28, ⟨⟨trivial, tok29, trivial⟩, tok30, trivial⟩⟩, tok31, ⟨⟨⟨trivial, tok32, trivial⟩, tok34, trivial⟩, tok35, ⟨⟨trivial, tok36, trivial⟩, tok37, trivial⟩⟩⟩⟩, tok38, ⟨⟨⟨⟨⟨trivial, tok40, trivial⟩, tok41, ⟨trivial, tok42, trivial⟩⟩, tok43, ⟨⟨trivial, tok44, trivial⟩, tok45, trivial⟩⟩, tok46, ⟨⟨⟨trivial, tok47, trivial⟩, tok48, trivial⟩, tok49, ⟨⟨trivial, tok50, trivial⟩, tok51, trivial⟩⟩⟩, tok52, ⟨⟨⟨⟨trivial, tok53, trivial⟩, tok54, trivial⟩, tok55, ⟨⟨trivial, tok56, trivial⟩, tok57, trivial⟩⟩, tok58, ⟨⟨⟨trivial, tok59, trivial⟩, tok60, trivial⟩, tok61, ⟨⟨trivial, tok62, trivial⟩, tok63, trivial⟩⟩⟩⟩⟩, tok64, ⟨⟨⟨⟨⟨⟨trivial, tok65, trivial⟩, tok66, ⟨trivial, tok67, trivial⟩⟩, tok68, ⟨⟨trivial, tok69, trivial⟩, tok70, trivial⟩⟩, tok71, ⟨⟨⟨trivial, tok72, trivial⟩, tok73, trivial⟩, tok74, ⟨⟨trivial, tok75, trivial⟩, tok76, trivial⟩⟩⟩, tok77, ⟨⟨⟨⟨trivial, tok78, trivial⟩, tok79, trivial⟩, tok80, ⟨⟨trivial, tok81, trivial⟩, tok82, trivial⟩⟩, tok83, ⟨⟨⟨trivial, tok84, trivial⟩, tok85, trivial⟩, tok86, ⟨⟨trivial, tok87, trivial⟩, tok88, trivial⟩⟩⟩⟩, tok89, ⟨⟨⟨⟨⟨trivial, tok90, trivial⟩, tok91, trivial⟩, tok92, ⟨⟨trivial, tok94, trivial⟩, tok95, trivial⟩⟩, tok96, ⟨⟨⟨trivial, tok97, trivial⟩, tok98, trivial⟩, tok99, ⟨⟨trivial, tok100, trivial⟩, tok101, trivial⟩⟩⟩, tok102, ⟨⟨⟨⟨trivial, tok103, trivial⟩, tok104, trivial⟩, tok105, ⟨⟨trivial, tok106, trivial⟩, tok107, trivial⟩⟩, tok108, ⟨⟨⟨trivial, tok109, trivial⟩, tok110, trivial⟩, tok111, ⟨⟨trivial, tok112, trivial⟩, tok113, trivial⟩⟩⟩⟩⟩⟩, tok114, ⟨⟨⟨⟨⟨⟨⟨trivial, tok115, trivial⟩, tok116, ⟨trivial, tok117, trivial⟩⟩, tok119, ⟨⟨trivial, tok120, trivial⟩, tok121, trivial⟩⟩, tok122, ⟨⟨⟨trivial, tok123, trivial⟩, tok125, trivial⟩, tok126, ⟨⟨trivial, tok127, trivial⟩, tok128, trivial⟩⟩⟩, tok129, ⟨⟨⟨⟨trivial, tok130, trivial⟩, tok131, trivial⟩, tok132, ⟨⟨trivial, tok133, trivial⟩, tok134, trivial⟩⟩, tok135, ⟨⟨⟨trivial, tok136, trivial⟩, tok137, trivial⟩, tok138, ⟨⟨trivial, tok139, trivial⟩, tok140, trivial⟩⟩⟩⟩, tok141, ⟨⟨⟨⟨⟨trivial, tok142, trivial⟩, tok143, ⟨trivial, tok144, trivial⟩⟩, tok145, ⟨⟨trivial, tok146, trivial⟩, tok147, trivial⟩⟩, tok148, ⟨⟨⟨trivial, tok149, trivial⟩, tok151, trivial⟩, tok152, ⟨⟨trivial, tok153, trivial⟩, tok154, trivial⟩⟩⟩, tok155, ⟨⟨⟨⟨trivial, tok156, trivial⟩, tok157, trivial⟩, tok158, ⟨⟨trivial, tok159, trivial⟩, tok160, trivial⟩⟩, tok161, ⟨⟨⟨trivial, tok162, trivial⟩, tok163, trivial⟩, tok164, ⟨⟨trivial, tok165, trivial⟩, tok167, trivial⟩⟩⟩⟩⟩, tok168, ⟨⟨⟨⟨⟨⟨trivial, tok169, trivial⟩, tok170, ⟨trivial, tok171, trivial⟩⟩, tok172, ⟨⟨trivial, tok173, trivial⟩, tok174, trivial⟩⟩, tok175, ⟨⟨⟨trivial, tok176, trivial⟩, tok178, trivial⟩, tok179, ⟨⟨trivial, tok180, trivial⟩, tok181, trivial⟩⟩⟩, tok182, ⟨⟨⟨⟨trivial, tok183, trivial⟩, tok184, trivial⟩, tok185, ⟨⟨trivial, tok186, trivial⟩, tok187, trivial⟩⟩, tok188, ⟨⟨⟨trivial, tok189, trivial⟩, tok190, trivial⟩, tok191, ⟨⟨trivial, tok192, trivial⟩, tok193, trivial⟩⟩⟩⟩, tok194, ⟨⟨⟨⟨⟨trivial, tok195, trivial⟩, tok196, trivial⟩, tok197, ⟨⟨trivial, tok198, trivial⟩, tok199, trivial⟩⟩, tok200, ⟨⟨⟨trivial, tok201, trivial⟩, tok202, trivial⟩, tok203, ⟨⟨trivial, tok204, trivial⟩, tok205, trivial⟩⟩⟩, tok206, ⟨⟨⟨⟨trivial, tok207, trivial⟩, tok208, trivial⟩, tok209, ⟨⟨trivial, tok210, trivial⟩, tok211, trivial⟩⟩, tok212, ⟨⟨⟨trivial, tok213, trivial⟩, tok214, trivial⟩, tok220, ⟨⟨trivial, tok223, trivial⟩, tok224, trivial⟩⟩⟩⟩⟩⟩⟩)
theorem hmix : Tryz.prog.follows .mixedOrders = true := by kernel_rfl
instance tcI : TC Tryz.prog T := ⟨hT, hmix⟩
instance mt115 : MapTy Tryz.prog 115 9 3 := ⟨by kernel_rfl⟩
instance ko9 : KeyOk Tryz.prog 9 IsStr := keyStr (by kernel_rfl)
instance zv3 : ZeroV Tryz.prog 3 (.one (.lit (.int .i64 0))) := zeroV_lit (by kernel_rfl) rfl
instance mt122 : MapTy Tryz.prog 122 9 2 := ⟨by kernel_rfl⟩
instance zv2 : ZeroV Tryz.prog 2 (.one (.lit (.int .i64 0))) := zeroV_lit (by kernel_rfl) rfl
end Go.Proofs.YtojfhaoleedmkaaGreat
