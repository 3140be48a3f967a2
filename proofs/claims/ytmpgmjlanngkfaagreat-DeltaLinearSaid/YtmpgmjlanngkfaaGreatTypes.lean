/-
  The table of the types of the program, and that it is the program's own. Printed by a program of ours out of the translation.
-/
import Derived.Test.YtmpgmjlanngkfaaGreatByt
import Derived.Test.YtmpgmjlanngkfaaGreatProg
namespace Go.Proofs.YtmpgmjlanngkfaaGreat
open Go.Abs

def ti1 : TI := { size := 1, bytes := 8, zero := [.nilFunc], desc := .plain }
def ti2 : TI := { size := 1, bytes := 8, zero := [.int .i64 0], desc := .int .i64 }
def ti3 : TI := { size := 1, bytes := 8, zero := [.int .i64 0], desc := .int .i64 }
def ti4 : TI := { size := 1, bytes := 1, zero := [.bool false], desc := .bool }
def ti5 : TI := { size := 1, bytes := 1, zero := [.int .u8 0], desc := .int .u8 }
def ti9 : TI := { size := 1, bytes := 16, zero := [.string ⟨#[]⟩], desc := .str }
def ti12 : TI := { size := 1, bytes := 8, zero := [.int .u64 0], desc := .int .u64 }
def ti20 : TI := { size := 1, bytes := 16, zero := [.nilIface], desc := .plain }
def ti21 : TI := { size := 1, bytes := 4, zero := [.int .i32 0], desc := .int .i32 }
def ti22 : TI := { size := 1, bytes := 24, zero := [.slice none 0 0], desc := .slice 3 }
def ti23 : TI := { size := 1, bytes := 8, zero := [.pointer none], desc := .plain }
def ti24 : TI := { size := 1, bytes := 8, zero := [.nilFunc], desc := .plain }
def ti25 : TI := { size := 1, bytes := 24, zero := [.slice none 0 0], desc := .slice 66 }
def ti26 : TI := { size := 1, bytes := 24, zero := [.slice none 0 0], desc := .slice 109 }
def ti27 : TI := { size := 1, bytes := 24, zero := [.slice none 0 0], desc := .slice 86 }
def ti28 : TI := { size := 1, bytes := 24, zero := [.slice none 0 0], desc := .slice 49 }
def ti29 : TI := { size := 9, bytes := 160, zero := [.string ⟨#[]⟩, .int .i64 0, .string ⟨#[]⟩, .string ⟨#[]⟩, .slice none 0 0, .slice none 0 0, .slice none 0 0, .bool false, .slice none 0 0], desc := .struct [(0, 9), (1, 3), (2, 9), (3, 9), (4, 25), (5, 26), (6, 27), (7, 4), (8, 28)] }
def ti30 : TI := { size := 9, bytes := 160, zero := [.string ⟨#[]⟩, .int .i64 0, .string ⟨#[]⟩, .string ⟨#[]⟩, .slice none 0 0, .slice none 0 0, .slice none 0 0, .bool false, .slice none 0 0], desc := .struct [(0, 9), (1, 3), (2, 9), (3, 9), (4, 25), (5, 26), (6, 27), (7, 4), (8, 28)] }
def ti31 : TI := { size := 1, bytes := 8, zero := [.nilFunc], desc := .plain }
def ti32 : TI := { size := 1, bytes := 24, zero := [.slice none 0 0], desc := .slice 56 }
def ti33 : TI := { size := 1, bytes := 8, zero := [.nilFunc], desc := .plain }
def ti34 : TI := { size := 1, bytes := 8, zero := [.nilFunc], desc := .plain }
def ti35 : TI := { size := 1, bytes := 8, zero := [.nilFunc], desc := .plain }
def ti36 : TI := { size := 1, bytes := 8, zero := [.nilFunc], desc := .plain }
def ti37 : TI := { size := 1, bytes := 8, zero := [.nilFunc], desc := .plain }
def ti38 : TI := { size := 1, bytes := 8, zero := [.nilFunc], desc := .plain }
def ti39 : TI := { size := 1, bytes := 8, zero := [.nilFunc], desc := .plain }
def ti40 : TI := { size := 1, bytes := 8, zero := [.int .i64 0], desc := .int .i64 }
def ti42 : TI := { size := 1, bytes := 8, zero := [.nilFunc], desc := .plain }
def ti43 : TI := { size := 1, bytes := 8, zero := [.nilFunc], desc := .plain }
def ti44 : TI := { size := 1, bytes := 8, zero := [.nilFunc], desc := .plain }
def ti45 : TI := { size := 1, bytes := 8, zero := [.nilFunc], desc := .plain }
def ti46 : TI := { size := 1, bytes := 8, zero := [.nilFunc], desc := .plain }
def ti47 : TI := { size := 1, bytes := 8, zero := [.nilFunc], desc := .plain }
def ti48 : TI := { size := 3, bytes := 48, zero := [.string ⟨#[]⟩, .int .i64 0, .slice none 0 0], desc := .struct [(0, 9), (1, 3), (2, 26)] }
def ti49 : TI := { size := 3, bytes := 48, zero := [.string ⟨#[]⟩, .int .i64 0, .slice none 0 0], desc := .struct [(0, 9), (1, 3), (2, 26)] }
def ti50 : TI := { size := 1, bytes := 8, zero := [.nilFunc], desc := .plain }
def ti51 : TI := { size := 1, bytes := 24, zero := [.slice none 0 0], desc := .slice 54 }
def ti53 : TI := { size := 1, bytes := 8, zero := [.nilFunc], desc := .plain }
def ti54 : TI := { size := 1, bytes := 24, zero := [.slice none 0 0], desc := .slice 73 }
def ti55 : TI := { size := 2, bytes := 32, zero := [.slice none 0 0, .int .i64 0], desc := .struct [(0, 54), (1, 2)] }
def ti56 : TI := { size := 2, bytes := 32, zero := [.slice none 0 0, .int .i64 0], desc := .struct [(0, 54), (1, 2)] }
def ti57 : TI := { size := 1, bytes := 8, zero := [.nilFunc], desc := .plain }
def ti58 : TI := { size := 1, bytes := 24, zero := [.slice none 0 0], desc := .slice 100 }
def ti60 : TI := { size := 1, bytes := 8, zero := [.nilFunc], desc := .plain }
def ti61 : TI := { size := 1, bytes := 8, zero := [.nilFunc], desc := .plain }
def ti62 : TI := { size := 1, bytes := 8, zero := [.nilFunc], desc := .plain }
def ti63 : TI := { size := 2, bytes := 32, zero := [.slice none 0 0, .int .i64 0], desc := .struct [(0, 22), (1, 3)] }
def ti64 : TI := { size := 2, bytes := 32, zero := [.slice none 0 0, .int .i64 0], desc := .struct [(0, 22), (1, 3)] }
def ti65 : TI := { size := 1, bytes := 8, zero := [.nilFunc], desc := .plain }
def ti66 : TI := { size := 2, bytes := 16, zero := [.int .i64 0, .int .i64 0], desc := .array 2 3 }
def ti67 : TI := { size := 1, bytes := 8, zero := [.nilFunc], desc := .plain }
def ti68 : TI := { size := 1, bytes := 8, zero := [.nilFunc], desc := .plain }
def ti69 : TI := { size := 1, bytes := 8, zero := [.nilFunc], desc := .plain }
def ti70 : TI := { size := 1, bytes := 8, zero := [.nilFunc], desc := .plain }
def ti71 : TI := { size := 1, bytes := 24, zero := [.slice none 0 0], desc := .slice 2 }
def ti72 : TI := { size := 3, bytes := 32, zero := [.int .i64 0, .int .i64 0, .string ⟨#[]⟩], desc := .struct [(0, 3), (1, 2), (2, 9)], eqs := true }
def ti73 : TI := { size := 3, bytes := 32, zero := [.int .i64 0, .int .i64 0, .string ⟨#[]⟩], desc := .struct [(0, 3), (1, 2), (2, 9)], eqs := true }
def ti74 : TI := { size := 1, bytes := 8, zero := [.nilFunc], desc := .plain }
def ti75 : TI := { size := 1, bytes := 8, zero := [.pointer none], desc := .plain }
def ti76 : TI := { size := 1, bytes := 8, zero := [.nilFunc], desc := .plain }
def ti77 : TI := { size := 1, bytes := 8, zero := [.nilFunc], desc := .plain }
def ti78 : TI := { size := 1, bytes := 8, zero := [.nilFunc], desc := .plain }
def ti80 : TI := { size := 1, bytes := 8, zero := [.nilFunc], desc := .plain }
def ti81 : TI := { size := 1, bytes := 8, zero := [.nilFunc], desc := .plain }
def ti82 : TI := { size := 1, bytes := 8, zero := [.nilFunc], desc := .plain }
def ti83 : TI := { size := 1, bytes := 8, zero := [.nilFunc], desc := .plain }
def ti84 : TI := { size := 1, bytes := 8, zero := [.nilFunc], desc := .plain }
def ti85 : TI := { size := 2, bytes := 40, zero := [.string ⟨#[]⟩, .slice none 0 0], desc := .struct [(0, 9), (1, 26)] }
def ti86 : TI := { size := 2, bytes := 40, zero := [.string ⟨#[]⟩, .slice none 0 0], desc := .struct [(0, 9), (1, 26)] }
def ti87 : TI := { size := 1, bytes := 8, zero := [.nilFunc], desc := .plain }
def ti88 : TI := { size := 1, bytes := 8, zero := [.nilFunc], desc := .plain }
def ti89 : TI := { size := 1, bytes := 8, zero := [.nilFunc], desc := .plain }
def ti90 : TI := { size := 1, bytes := 8, zero := [.nilFunc], desc := .plain }
def ti91 : TI := { size := 1, bytes := 8, zero := [.nilFunc], desc := .plain }
def ti92 : TI := { size := 1, bytes := 8, zero := [.nilFunc], desc := .plain }
def ti93 : TI := { size := 1, bytes := 8, zero := [.nilFunc], desc := .plain }
def ti94 : TI := { size := 1, bytes := 8, zero := [.nilFunc], desc := .plain }
def ti95 : TI := { size := 1, bytes := 24, zero := [.slice none 0 0], desc := .slice 98 }
def ti96 : TI := { size := 1, bytes := 8, zero := [.nilFunc], desc := .plain }
def ti97 : TI := { size := 2, bytes := 48, zero := [.slice none 0 0, .slice none 0 0], desc := .struct [(0, 54), (1, 32)] }
def ti98 : TI := { size := 2, bytes := 48, zero := [.slice none 0 0, .slice none 0 0], desc := .struct [(0, 54), (1, 32)] }
def ti99 : TI := { size := 4, bytes := 80, zero := [.slice none 0 0, .int .i64 0, .slice none 0 0, .slice none 0 0], desc := .struct [(0, 54), (1, 2), (2, 71), (3, 71)] }
def ti100 : TI := { size := 4, bytes := 80, zero := [.slice none 0 0, .int .i64 0, .slice none 0 0, .slice none 0 0], desc := .struct [(0, 54), (1, 2), (2, 71), (3, 71)] }
def ti101 : TI := { size := 1, bytes := 8, zero := [.nilFunc], desc := .plain }
def ti102 : TI := { size := 1, bytes := 8, zero := [.nilFunc], desc := .plain }
def ti103 : TI := { size := 1, bytes := 8, zero := [.nilFunc], desc := .plain }
def ti104 : TI := { size := 1, bytes := 8, zero := [.nilFunc], desc := .plain }
def ti105 : TI := { size := 1, bytes := 8, zero := [.nilFunc], desc := .plain }
def ti106 : TI := { size := 1, bytes := 8, zero := [.int .u64 0], desc := .int .u64 }
def ti107 : TI := { size := 1, bytes := 8, zero := [.nilFunc], desc := .plain }
def ti108 : TI := { size := 5, bytes := 48, zero := [.int .i64 0, .int .i64 0, .int .i64 0, .string ⟨#[]⟩, .int .i64 0], desc := .struct [(0, 3), (1, 73), (4, 3)] }
def ti109 : TI := { size := 5, bytes := 48, zero := [.int .i64 0, .int .i64 0, .int .i64 0, .string ⟨#[]⟩, .int .i64 0], desc := .struct [(0, 3), (1, 73), (4, 3)] }
def ti110 : TI := { size := 1, bytes := 8, zero := [.nilFunc], desc := .plain }
def ti111 : TI := { size := 1, bytes := 8, zero := [.nilFunc], desc := .plain }
def ti112 : TI := { size := 1, bytes := 8, zero := [.nilFunc], desc := .plain }
def ti113 : TI := { size := 1, bytes := 24, zero := [.slice none 0 0], desc := .slice 9 }
def ti114 : TI := { size := 1, bytes := 8, zero := [.nilFunc], desc := .plain }
def ti115 : TI := { size := 1, bytes := 8, zero := [.nilFunc], desc := .plain }
def ti116 : TI := { size := 1, bytes := 24, zero := [.slice none 0 0], desc := .slice 26 }
def ti117 : TI := { size := 1, bytes := 8, zero := [.nilFunc], desc := .plain }
def ti118 : TI := { size := 1, bytes := 8, zero := [.nilFunc], desc := .plain }
def ti119 : TI := { size := 1, bytes := 8, zero := [.nilFunc], desc := .plain }
def ti120 : TI := { size := 1, bytes := 8, zero := [.nilFunc], desc := .plain }
def ti121 : TI := { size := 1, bytes := 8, zero := [.nilFunc], desc := .plain }
def ti122 : TI := { size := 1, bytes := 8, zero := [.nilFunc], desc := .plain }
def ti123 : TI := { size := 1, bytes := 8, zero := [.nilFunc], desc := .plain }
def ti124 : TI := { size := 1, bytes := 8, zero := [.nilFunc], desc := .plain }
def ti125 : TI := { size := 1, bytes := 24, zero := [.slice none 0 0], desc := .slice 5 }
def ti127 : TI := { size := 1, bytes := 8, zero := [.nilFunc], desc := .plain }
def ti128 : TI := { size := 1, bytes := 8, zero := [.nilFunc], desc := .plain }
def ti129 : TI := { size := 1, bytes := 8, zero := [.nilFunc], desc := .plain }
def ti130 : TI := { size := 1, bytes := 8, zero := [.nilFunc], desc := .plain }
def ti132 : TI := { size := 1, bytes := 8, zero := [.nilFunc], desc := .plain }
def ti133 : TI := { size := 1, bytes := 8, zero := [.nilFunc], desc := .plain }
def ti134 : TI := { size := 1, bytes := 8, zero := [.nilFunc], desc := .plain }
def ti135 : TI := { size := 1, bytes := 8, zero := [.nilFunc], desc := .plain }
def ti136 : TI := { size := 1, bytes := 8, zero := [.nilFunc], desc := .plain }
def ti137 : TI := { size := 1, bytes := 8, zero := [.map none], desc := .plain }
def ti138 : TI := { size := 1, bytes := 8, zero := [.nilFunc], desc := .plain }
def ti139 : TI := { size := 1, bytes := 8, zero := [.nilFunc], desc := .plain }
def ti141 : TI := { size := 1, bytes := 8, zero := [.nilFunc], desc := .plain }
def ti142 : TI := { size := 1, bytes := 8, zero := [.nilFunc], desc := .plain }
def ti144 : TI := { size := 1, bytes := 8, zero := [.nilFunc], desc := .plain }
def ti145 : TI := { size := 1, bytes := 24, zero := [.slice none 0 0], desc := .slice 186 }
def ti146 : TI := { size := 1, bytes := 8, zero := [.nilFunc], desc := .plain }
def ti147 : TI := { size := 1, bytes := 8, zero := [.nilFunc], desc := .plain }
def ti148 : TI := { size := 1, bytes := 8, zero := [.nilFunc], desc := .plain }
def ti149 : TI := { size := 1, bytes := 8, zero := [.nilFunc], desc := .plain }
def ti150 : TI := { size := 1, bytes := 8, zero := [.nilFunc], desc := .plain }
def ti151 : TI := { size := 1, bytes := 8, zero := [.nilFunc], desc := .plain }
def ti152 : TI := { size := 1, bytes := 8, zero := [.nilFunc], desc := .plain }
def ti153 : TI := { size := 1, bytes := 8, zero := [.nilFunc], desc := .plain }
def ti154 : TI := { size := 1, bytes := 8, zero := [.nilFunc], desc := .plain }
def ti155 : TI := { size := 1, bytes := 8, zero := [.nilFunc], desc := .plain }
def ti156 : TI := { size := 1, bytes := 8, zero := [.nilFunc], desc := .plain }
def ti157 : TI := { size := 1, bytes := 8, zero := [.nilFunc], desc := .plain }
def ti158 : TI := { size := 1, bytes := 8, zero := [.nilFunc], desc := .plain }
def ti159 : TI := { size := 1, bytes := 8, zero := [.nilFunc], desc := .plain }
def ti160 : TI := { size := 1, bytes := 8, zero := [.nilFunc], desc := .plain }
def ti161 : TI := { size := 2, bytes := 48, zero := [.slice none 0 0, .slice none 0 0], desc := .array 2 32 }
def ti162 : TI := { size := 1, bytes := 24, zero := [.slice none 0 0], desc := .slice 161 }
def ti164 : TI := { size := 1, bytes := 8, zero := [.nilFunc], desc := .plain }
def ti165 : TI := { size := 9, bytes := 96, zero := [.int .i64 0, .int .i64 0, .string ⟨#[]⟩, .int .i64 0, .int .i64 0, .string ⟨#[]⟩, .int .i64 0, .int .i64 0, .string ⟨#[]⟩], desc := .array 3 73 }
def ti166 : TI := { size := 1, bytes := 8, zero := [.nilFunc], desc := .plain }
def ti167 : TI := { size := 1, bytes := 8, zero := [.nilFunc], desc := .plain }
def ti168 : TI := { size := 1, bytes := 8, zero := [.nilFunc], desc := .plain }
def ti169 : TI := { size := 1, bytes := 8, zero := [.nilFunc], desc := .plain }
def ti170 : TI := { size := 1, bytes := 8, zero := [.int .i64 0], desc := .int .i64 }
def ti172 : TI := { size := 1, bytes := 8, zero := [.nilFunc], desc := .plain }
def ti173 : TI := { size := 1, bytes := 8, zero := [.nilFunc], desc := .plain }
def ti174 : TI := { size := 1, bytes := 8, zero := [.nilFunc], desc := .plain }
def ti175 : TI := { size := 1, bytes := 8, zero := [.nilFunc], desc := .plain }
def ti176 : TI := { size := 1, bytes := 8, zero := [.nilFunc], desc := .plain }
def ti177 : TI := { size := 1, bytes := 4, zero := [.int .u32 0], desc := .int .u32 }
def ti178 : TI := { size := 1, bytes := 8, zero := [.nilFunc], desc := .plain }
def ti179 : TI := { size := 1, bytes := 8, zero := [.int .u64 0], desc := .int .u64 }
def ti180 : TI := { size := 1, bytes := 8, zero := [.nilFunc], desc := .plain }
def ti181 : TI := { size := 1, bytes := 8, zero := [.nilFunc], desc := .plain }
def ti182 : TI := { size := 1, bytes := 8, zero := [.nilFunc], desc := .plain }
def ti183 : TI := { size := 1, bytes := 8, zero := [.nilFunc], desc := .plain }
def ti184 : TI := { size := 1, bytes := 8, zero := [.nilFunc], desc := .plain }
def ti185 : TI := { size := 4, bytes := 40, zero := [.int .i64 0, .int .i64 0, .string ⟨#[]⟩, .int .i64 0], desc := .struct [(0, 73), (3, 2)] }
def ti186 : TI := { size := 4, bytes := 40, zero := [.int .i64 0, .int .i64 0, .string ⟨#[]⟩, .int .i64 0], desc := .struct [(0, 73), (3, 2)] }
def ti187 : TI := { size := 1, bytes := 8, zero := [.nilFunc], desc := .plain }
def ti188 : TI := { size := 1, bytes := 8, zero := [.nilFunc], desc := .plain }
def ti189 : TI := { size := 1, bytes := 8, zero := [.nilFunc], desc := .plain }
def ti190 : TI := { size := 1, bytes := 8, zero := [.nilFunc], desc := .plain }
def ti191 : TI := { size := 1, bytes := 8, zero := [.nilFunc], desc := .plain }
def ti192 : TI := { size := 1, bytes := 8, zero := [.nilFunc], desc := .plain }
def ti193 : TI := { size := 1, bytes := 8, zero := [.nilFunc], desc := .plain }
def ti194 : TI := { size := 1, bytes := 8, zero := [.nilFunc], desc := .plain }
def ti195 : TI := { size := 1, bytes := 8, zero := [.map none], desc := .plain }
def ti197 : TI := { size := 1, bytes := 8, zero := [.nilFunc], desc := .plain }
def ti198 : TI := { size := 1, bytes := 24, zero := [.slice none 0 0], desc := .slice 200 }
def ti199 : TI := { size := 2, bytes := 24, zero := [.string ⟨#[]⟩, .int .i64 0], desc := .struct [(0, 9), (1, 2)], eqs := true }
def ti200 : TI := { size := 2, bytes := 24, zero := [.string ⟨#[]⟩, .int .i64 0], desc := .struct [(0, 9), (1, 2)], eqs := true }
def ti201 : TI := { size := 1, bytes := 8, zero := [.pointer none], desc := .plain }
def ti202 : TI := { size := 1, bytes := 8, zero := [.map none], desc := .plain }
def ti203 : TI := { size := 1, bytes := 24, zero := [.slice none 0 0], desc := .slice 232 }
def ti204 : TI := { size := 3, bytes := 56, zero := [.slice none 0 0, .map none, .slice none 0 0], desc := .struct [(0, 203), (1, 202), (2, 198)] }
def ti205 : TI := { size := 3, bytes := 56, zero := [.slice none 0 0, .map none, .slice none 0 0], desc := .struct [(0, 203), (1, 202), (2, 198)] }
def ti206 : TI := { size := 1, bytes := 8, zero := [.nilFunc], desc := .plain }
def ti207 : TI := { size := 1, bytes := 8, zero := [.nilFunc], desc := .plain }
def ti208 : TI := { size := 1, bytes := 8, zero := [.nilFunc], desc := .plain }
def ti210 : TI := { size := 1, bytes := 8, zero := [.nilFunc], desc := .plain }
def ti211 : TI := { size := 1, bytes := 8, zero := [.nilFunc], desc := .plain }
def ti212 : TI := { size := 1, bytes := 8, zero := [.nilFunc], desc := .plain }
def ti213 : TI := { size := 1, bytes := 8, zero := [.nilFunc], desc := .plain }
def ti214 : TI := { size := 1, bytes := 8, zero := [.nilFunc], desc := .plain }
def ti215 : TI := { size := 1, bytes := 8, zero := [.nilFunc], desc := .plain }
def ti216 : TI := { size := 1, bytes := 8, zero := [.nilFunc], desc := .plain }
def ti217 : TI := { size := 1, bytes := 8, zero := [.int .u64 0], desc := .int .u64 }
def ti218 : TI := { size := 1, bytes := 8, zero := [.nilFunc], desc := .plain }
def ti219 : TI := { size := 1, bytes := 8, zero := [.nilFunc], desc := .plain }
def ti220 : TI := { size := 1, bytes := 8, zero := [.nilFunc], desc := .plain }
def ti221 : TI := { size := 1, bytes := 8, zero := [.pointer none], desc := .plain }
def ti222 : TI := { size := 1, bytes := 8, zero := [.nilFunc], desc := .plain }
def ti223 : TI := { size := 1, bytes := 8, zero := [.nilFunc], desc := .plain }
def ti224 : TI := { size := 1, bytes := 8, zero := [.nilFunc], desc := .plain }
def ti225 : TI := { size := 1, bytes := 8, zero := [.nilFunc], desc := .plain }
def ti226 : TI := { size := 1, bytes := 8, zero := [.nilFunc], desc := .plain }
def ti227 : TI := { size := 1, bytes := 8, zero := [.nilFunc], desc := .plain }
def ti228 : TI := { size := 1, bytes := 8, zero := [.nilFunc], desc := .plain }
def ti229 : TI := { size := 1, bytes := 8, zero := [.nilFunc], desc := .plain }
def ti231 : TI := { size := 2, bytes := 40, zero := [.string ⟨#[]⟩, .slice none 0 0], desc := .struct [(0, 9), (1, 113)] }
def ti232 : TI := { size := 2, bytes := 40, zero := [.string ⟨#[]⟩, .slice none 0 0], desc := .struct [(0, 9), (1, 113)] }
def ti233 : TI := { size := 1, bytes := 8, zero := [.nilFunc], desc := .plain }
def ti234 : TI := { size := 1, bytes := 8, zero := [.nilFunc], desc := .plain }
def ti235 : TI := { size := 1, bytes := 8, zero := [.nilFunc], desc := .plain }
def ti236 : TI := { size := 1, bytes := 8, zero := [.nilFunc], desc := .plain }
def ti237 : TI := { size := 1, bytes := 8, zero := [.nilFunc], desc := .plain }
def ti238 : TI := { size := 1, bytes := 8, zero := [.nilFunc], desc := .plain }
def ti239 : TI := { size := 1, bytes := 8, zero := [.nilFunc], desc := .plain }
def ti240 : TI := { size := 1, bytes := 8, zero := [.nilFunc], desc := .plain }
def ti241 : TI := { size := 1, bytes := 8, zero := [.pointer none], desc := .plain }
def ti242 : TI := { size := 1, bytes := 8, zero := [.nilFunc], desc := .plain }
def ti243 : TI := { size := 1, bytes := 8, zero := [.nilFunc], desc := .plain }
def ti244 : TI := { size := 1, bytes := 8, zero := [.nilFunc], desc := .plain }
def ti245 : TI := { size := 1, bytes := 8, zero := [.nilFunc], desc := .plain }
def ti246 : TI := { size := 1, bytes := 8, zero := [.nilFunc], desc := .plain }
def ti247 : TI := { size := 1, bytes := 8, zero := [.nilFunc], desc := .plain }
def ti248 : TI := { size := 1, bytes := 8, zero := [.nilFunc], desc := .plain }
def ti249 : TI := { size := 1, bytes := 8, zero := [.nilFunc], desc := .plain }
def ti250 : TI := { size := 1, bytes := 8, zero := [.nilFunc], desc := .plain }
def ti251 : TI := { size := 1, bytes := 8, zero := [.nilFunc], desc := .plain }
def ti252 : TI := { size := 1, bytes := 8, zero := [.nilFunc], desc := .plain }
def ti253 : TI := { size := 1, bytes := 8, zero := [.nilFunc], desc := .plain }
def ti254 : TI := { size := 1, bytes := 8, zero := [.nilFunc], desc := .plain }
def ti255 : TI := { size := 1, bytes := 8, zero := [.nilFunc], desc := .plain }
def ti256 : TI := { size := 1, bytes := 8, zero := [.nilFunc], desc := .plain }
def ti257 : TI := { size := 1, bytes := 8, zero := [.nilFunc], desc := .plain }
def ti258 : TI := { size := 1, bytes := 8, zero := [.nilFunc], desc := .plain }
def ti259 : TI := { size := 1, bytes := 8, zero := [.nilFunc], desc := .plain }
def ti260 : TI := { size := 1, bytes := 8, zero := [.nilFunc], desc := .plain }
def ti261 : TI := { size := 1, bytes := 8, zero := [.nilFunc], desc := .plain }
def ti262 : TI := { size := 1, bytes := 8, zero := [.nilFunc], desc := .plain }
def ti263 : TI := { size := 1, bytes := 8, zero := [.nilFunc], desc := .plain }
def ti264 : TI := { size := 1, bytes := 8, zero := [.nilFunc], desc := .plain }
def ti265 : TI := { size := 1, bytes := 8, zero := [.nilFunc], desc := .plain }
def ti266 : TI := { size := 1, bytes := 8, zero := [.nilFunc], desc := .plain }
def ti267 : TI := { size := 1, bytes := 8, zero := [.nilFunc], desc := .plain }
def ti268 : TI := { size := 1, bytes := 8, zero := [.nilFunc], desc := .plain }
def ti269 : TI := { size := 1, bytes := 8, zero := [.nilFunc], desc := .plain }
def ti275 : TI := { size := 1, bytes := 8, zero := [.nilFunc], desc := .plain }
def ti278 : TI := { size := 1, bytes := 8, zero := [.nilFunc], desc := .plain }
def ti279 : TI := { size := 1, bytes := 8, zero := [.pointer none], desc := .plain }
def tbl : TTree := (.node (.node (.node (.node (.node (.node (.node (.node .nil 1 ti1 .nil) 2 ti2 (.node .nil 3 ti3 .nil)) 4 ti4 (.node (.node .nil 5 ti5 .nil) 9 ti9 (.node .nil 12 ti12 .nil))) 20 ti20 (.node (.node (.node .nil 21 ti21 .nil) 22 ti22 (.node .nil 23 ti23 .nil)) 24 ti24 (.node (.node .nil 25 ti25 .nil) 26 ti26 (.node .nil 27 ti27 .nil)))) 28 ti28 (.node (.node (.node (.node .nil 29 ti29 .nil) 30 ti30 (.node .nil 31 ti31 .nil)) 32 ti32 (.node (.node .nil 33 ti33 .nil) 34 ti34 (.node .nil 35 ti35 .nil))) 36 ti36 (.node (.node (.node .nil 37 ti37 .nil) 38 ti38 (.node .nil 39 ti39 .nil)) 40 ti40 (.node (.node .nil 42 ti42 .nil) 43 ti43 .nil)))) 44 ti44 (.node (.node (.node (.node (.node .nil 45 ti45 .nil) 46 ti46 (.node .nil 47 ti47 .nil)) 48 ti48 (.node (.node .nil 49 ti49 .nil) 50 ti50 (.node .nil 51 ti51 .nil))) 53 ti53 (.node (.node (.node .nil 54 ti54 .nil) 55 ti55 (.node .nil 56 ti56 .nil)) 57 ti57 (.node (.node .nil 58 ti58 .nil) 60 ti60 (.node .nil 61 ti61 .nil)))) 62 ti62 (.node (.node (.node (.node .nil 63 ti63 .nil) 64 ti64 (.node .nil 65 ti65 .nil)) 66 ti66 (.node (.node .nil 67 ti67 .nil) 68 ti68 (.node .nil 69 ti69 .nil))) 70 ti70 (.node (.node (.node .nil 71 ti71 .nil) 72 ti72 (.node .nil 73 ti73 .nil)) 74 ti74 (.node (.node .nil 75 ti75 .nil) 76 ti76 .nil))))) 77 ti77 (.node (.node (.node (.node (.node (.node .nil 78 ti78 .nil) 80 ti80 (.node .nil 81 ti81 .nil)) 82 ti82 (.node (.node .nil 83 ti83 .nil) 84 ti84 (.node .nil 85 ti85 .nil))) 86 ti86 (.node (.node (.node .nil 87 ti87 .nil) 88 ti88 (.node .nil 89 ti89 .nil)) 90 ti90 (.node (.node .nil 91 ti91 .nil) 92 ti92 (.node .nil 93 ti93 .nil)))) 94 ti94 (.node (.node (.node (.node .nil 95 ti95 .nil) 96 ti96 (.node .nil 97 ti97 .nil)) 98 ti98 (.node (.node .nil 99 ti99 .nil) 100 ti100 (.node .nil 101 ti101 .nil))) 102 ti102 (.node (.node (.node .nil 103 ti103 .nil) 104 ti104 (.node .nil 105 ti105 .nil)) 106 ti106 (.node (.node .nil 107 ti107 .nil) 108 ti108 .nil)))) 109 ti109 (.node (.node (.node (.node (.node .nil 110 ti110 .nil) 111 ti111 (.node .nil 112 ti112 .nil)) 113 ti113 (.node (.node .nil 114 ti114 .nil) 115 ti115 (.node .nil 116 ti116 .nil))) 117 ti117 (.node (.node (.node .nil 118 ti118 .nil) 119 ti119 (.node .nil 120 ti120 .nil)) 121 ti121 (.node (.node .nil 122 ti122 .nil) 123 ti123 (.node .nil 124 ti124 .nil)))) 125 ti125 (.node (.node (.node (.node .nil 127 ti127 .nil) 128 ti128 (.node .nil 129 ti129 .nil)) 130 ti130 (.node (.node .nil 132 ti132 .nil) 133 ti133 (.node .nil 134 ti134 .nil))) 135 ti135 (.node (.node (.node .nil 136 ti136 .nil) 137 ti137 (.node .nil 138 ti138 .nil)) 139 ti139 (.node (.node .nil 141 ti141 .nil) 142 ti142 .nil)))))) 144 ti144 (.node (.node (.node (.node (.node (.node (.node .nil 145 ti145 .nil) 146 ti146 (.node .nil 147 ti147 .nil)) 148 ti148 (.node (.node .nil 149 ti149 .nil) 150 ti150 (.node .nil 151 ti151 .nil))) 152 ti152 (.node (.node (.node .nil 153 ti153 .nil) 154 ti154 (.node .nil 155 ti155 .nil)) 156 ti156 (.node (.node .nil 157 ti157 .nil) 158 ti158 (.node .nil 159 ti159 .nil)))) 160 ti160 (.node (.node (.node (.node .nil 161 ti161 .nil) 162 ti162 (.node .nil 164 ti164 .nil)) 165 ti165 (.node (.node .nil 166 ti166 .nil) 167 ti167 (.node .nil 168 ti168 .nil))) 169 ti169 (.node (.node (.node .nil 170 ti170 .nil) 172 ti172 (.node .nil 173 ti173 .nil)) 174 ti174 (.node (.node .nil 175 ti175 .nil) 176 ti176 .nil)))) 177 ti177 (.node (.node (.node (.node (.node .nil 178 ti178 .nil) 179 ti179 (.node .nil 180 ti180 .nil)) 181 ti181 (.node (.node .nil 182 ti182 .nil) 183 ti183 (.node .nil 184 ti184 .nil))) 185 ti185 (.node (.node (.node .nil 186 ti186 .nil) 187 ti187 (.node .nil 188 ti188 .nil)) 189 ti189 (.node (.node .nil 190 ti190 .nil) 191 ti191 (.node .nil 192 ti192 .nil)))) 193 ti193 (.node (.node (.node (.node .nil 194 ti194 .nil) 195 ti195 (.node .nil 197 ti197 .nil)) 198 ti198 (.node (.node .nil 199 ti199 .nil) 200 ti200 (.node .nil 201 ti201 .nil))) 202 ti202 (.node (.node (.node .nil 203 ti203 .nil) 204 ti204 (.node .nil 205 ti205 .nil)) 206 ti206 (.node (.node .nil 207 ti207 .nil) 208 ti208 .nil))))) 210 ti210 (.node (.node (.node (.node (.node (.node .nil 211 ti211 .nil) 212 ti212 (.node .nil 213 ti213 .nil)) 214 ti214 (.node (.node .nil 215 ti215 .nil) 216 ti216 (.node .nil 217 ti217 .nil))) 218 ti218 (.node (.node (.node .nil 219 ti219 .nil) 220 ti220 (.node .nil 221 ti221 .nil)) 222 ti222 (.node (.node .nil 223 ti223 .nil) 224 ti224 (.node .nil 225 ti225 .nil)))) 226 ti226 (.node (.node (.node (.node .nil 227 ti227 .nil) 228 ti228 (.node .nil 229 ti229 .nil)) 231 ti231 (.node (.node .nil 232 ti232 .nil) 233 ti233 (.node .nil 234 ti234 .nil))) 235 ti235 (.node (.node (.node .nil 236 ti236 .nil) 237 ti237 (.node .nil 238 ti238 .nil)) 239 ti239 (.node (.node .nil 240 ti240 .nil) 241 ti241 .nil)))) 242 ti242 (.node (.node (.node (.node (.node .nil 243 ti243 .nil) 244 ti244 (.node .nil 245 ti245 .nil)) 246 ti246 (.node (.node .nil 247 ti247 .nil) 248 ti248 (.node .nil 249 ti249 .nil))) 250 ti250 (.node (.node (.node .nil 251 ti251 .nil) 252 ti252 (.node .nil 253 ti253 .nil)) 254 ti254 (.node (.node .nil 255 ti255 .nil) 256 ti256 (.node .nil 257 ti257 .nil)))) 258 ti258 (.node (.node (.node (.node .nil 259 ti259 .nil) 260 ti260 (.node .nil 261 ti261 .nil)) 262 ti262 (.node (.node .nil 263 ti263 .nil) 264 ti264 (.node .nil 265 ti265 .nil))) 266 ti266 (.node (.node (.node .nil 267 ti267 .nil) 268 ti268 (.node .nil 269 ti269 .nil)) 275 ti275 (.node (.node .nil 278 ti278 .nil) 279 ti279 .nil)))))))
def T : TypeId → Option TI := tyFind tbl

theorem tok1 : TOk Tryz.prog 1 ti1 := mkT (.nilFunc) (by kernel_rfl) rfl rfl (show (Tryz.prog.underlying 1).map plainB = some true by kernel_rfl) (fun h => by cases h)
theorem tok2 : TOk Tryz.prog 2 ti2 := mkT (.int .i64 0) (by kernel_rfl) rfl rfl (show Tryz.prog.underlying 2 = some (.int .i64) by kernel_rfl) (fun h => by cases h)
theorem tok3 : TOk Tryz.prog 3 ti3 := mkT (.int .i64 0) (by kernel_rfl) rfl rfl (show Tryz.prog.underlying 3 = some (.int .i64) by kernel_rfl) (fun h => by cases h)
theorem tok4 : TOk Tryz.prog 4 ti4 := mkT (.bool false) (by kernel_rfl) rfl rfl (show Tryz.prog.underlying 4 = some (.bool) by kernel_rfl) (fun h => by cases h)
theorem tok5 : TOk Tryz.prog 5 ti5 := mkT (.int .u8 0) (by kernel_rfl) rfl rfl (show Tryz.prog.underlying 5 = some (.int .u8) by kernel_rfl) (fun h => by cases h)
theorem tok9 : TOk Tryz.prog 9 ti9 := mkT (.string ⟨#[]⟩) (by kernel_rfl) rfl rfl (show Tryz.prog.underlying 9 = some (.string) by kernel_rfl) (fun h => by cases h)
theorem tok12 : TOk Tryz.prog 12 ti12 := mkT (.int .u64 0) (by kernel_rfl) rfl rfl (show Tryz.prog.underlying 12 = some (.int .u64) by kernel_rfl) (fun h => by cases h)
theorem tok20 : TOk Tryz.prog 20 ti20 := mkT (.nilIface) (by kernel_rfl) rfl rfl (show (Tryz.prog.underlying 20).map plainB = some true by kernel_rfl) (fun h => by cases h)
theorem tok21 : TOk Tryz.prog 21 ti21 := mkT (.int .i32 0) (by kernel_rfl) rfl rfl (show Tryz.prog.underlying 21 = some (.int .i32) by kernel_rfl) (fun h => by cases h)
theorem tok22 : TOk Tryz.prog 22 ti22 := mkT (.slice none 0 0) (by kernel_rfl) rfl rfl (show Tryz.prog.underlying 22 = some (.slice 3) by kernel_rfl) (fun h => by cases h)
theorem tok23 : TOk Tryz.prog 23 ti23 := mkT (.pointer none) (by kernel_rfl) rfl rfl (show (Tryz.prog.underlying 23).map plainB = some true by kernel_rfl) (fun h => by cases h)
theorem tok24 : TOk Tryz.prog 24 ti24 := mkT (.nilFunc) (by kernel_rfl) rfl rfl (show (Tryz.prog.underlying 24).map plainB = some true by kernel_rfl) (fun h => by cases h)
theorem tok25 : TOk Tryz.prog 25 ti25 := mkT (.slice none 0 0) (by kernel_rfl) rfl rfl (show Tryz.prog.underlying 25 = some (.slice 66) by kernel_rfl) (fun h => by cases h)
theorem tok26 : TOk Tryz.prog 26 ti26 := mkT (.slice none 0 0) (by kernel_rfl) rfl rfl (show Tryz.prog.underlying 26 = some (.slice 109) by kernel_rfl) (fun h => by cases h)
theorem tok27 : TOk Tryz.prog 27 ti27 := mkT (.slice none 0 0) (by kernel_rfl) rfl rfl (show Tryz.prog.underlying 27 = some (.slice 86) by kernel_rfl) (fun h => by cases h)
theorem tok28 : TOk Tryz.prog 28 ti28 := mkT (.slice none 0 0) (by kernel_rfl) rfl rfl (show Tryz.prog.underlying 28 = some (.slice 49) by kernel_rfl) (fun h => by cases h)
theorem tok29 : TOk Tryz.prog 29 ti29 := mkT (.agg #[.string ⟨#[]⟩, .int .i64 0, .string ⟨#[]⟩, .string ⟨#[]⟩, .slice none 0 0, .slice none 0 0, .slice none 0 0, .bool false, .slice none 0 0]) (by kernel_rfl) rfl rfl (show (Tryz.prog.underlying 29).map structFs = some (some [(0, 9), (1, 3), (2, 9), (3, 9), (4, 25), (5, 26), (6, 27), (7, 4), (8, 28)]) by kernel_rfl) (fun h => by cases h)
theorem tok30 : TOk Tryz.prog 30 ti30 := mkT (.agg #[.string ⟨#[]⟩, .int .i64 0, .string ⟨#[]⟩, .string ⟨#[]⟩, .slice none 0 0, .slice none 0 0, .slice none 0 0, .bool false, .slice none 0 0]) (by kernel_rfl) rfl rfl (show (Tryz.prog.underlying 30).map structFs = some (some [(0, 9), (1, 3), (2, 9), (3, 9), (4, 25), (5, 26), (6, 27), (7, 4), (8, 28)]) by kernel_rfl) (fun h => by cases h)
theorem tok31 : TOk Tryz.prog 31 ti31 := mkT (.nilFunc) (by kernel_rfl) rfl rfl (show (Tryz.prog.underlying 31).map plainB = some true by kernel_rfl) (fun h => by cases h)
theorem tok32 : TOk Tryz.prog 32 ti32 := mkT (.slice none 0 0) (by kernel_rfl) rfl rfl (show Tryz.prog.underlying 32 = some (.slice 56) by kernel_rfl) (fun h => by cases h)
theorem tok33 : TOk Tryz.prog 33 ti33 := mkT (.nilFunc) (by kernel_rfl) rfl rfl (show (Tryz.prog.underlying 33).map plainB = some true by kernel_rfl) (fun h => by cases h)
theorem tok34 : TOk Tryz.prog 34 ti34 := mkT (.nilFunc) (by kernel_rfl) rfl rfl (show (Tryz.prog.underlying 34).map plainB = some true by kernel_rfl) (fun h => by cases h)
theorem tok35 : TOk Tryz.prog 35 ti35 := mkT (.nilFunc) (by kernel_rfl) rfl rfl (show (Tryz.prog.underlying 35).map plainB = some true by kernel_rfl) (fun h => by cases h)
theorem tok36 : TOk Tryz.prog 36 ti36 := mkT (.nilFunc) (by kernel_rfl) rfl rfl (show (Tryz.prog.underlying 36).map plainB = some true by kernel_rfl) (fun h => by cases h)
theorem tok37 : TOk Tryz.prog 37 ti37 := mkT (.nilFunc) (by kernel_rfl) rfl rfl (show (Tryz.prog.underlying 37).map plainB = some true by kernel_rfl) (fun h => by cases h)
theorem tok38 : TOk Tryz.prog 38 ti38 := mkT (.nilFunc) (by kernel_rfl) rfl rfl (show (Tryz.prog.underlying 38).map plainB = some true by kernel_rfl) (fun h => by cases h)
theorem tok39 : TOk Tryz.prog 39 ti39 := mkT (.nilFunc) (by kernel_rfl) rfl rfl (show (Tryz.prog.underlying 39).map plainB = some true by kernel_rfl) (fun h => by cases h)
theorem tok40 : TOk Tryz.prog 40 ti40 := mkT (.int .i64 0) (by kernel_rfl) rfl rfl (show Tryz.prog.underlying 40 = some (.int .i64) by kernel_rfl) (fun h => by cases h)
theorem tok42 : TOk Tryz.prog 42 ti42 := mkT (.nilFunc) (by kernel_rfl) rfl rfl (show (Tryz.prog.underlying 42).map plainB = some true by kernel_rfl) (fun h => by cases h)
theorem tok43 : TOk Tryz.prog 43 ti43 := mkT (.nilFunc) (by kernel_rfl) rfl rfl (show (Tryz.prog.underlying 43).map plainB = some true by kernel_rfl) (fun h => by cases h)
theorem tok44 : TOk Tryz.prog 44 ti44 := mkT (.nilFunc) (by kernel_rfl) rfl rfl (show (Tryz.prog.underlying 44).map plainB = some true by kernel_rfl) (fun h => by cases h)
theorem tok45 : TOk Tryz.prog 45 ti45 := mkT (.nilFunc) (by kernel_rfl) rfl rfl (show (Tryz.prog.underlying 45).map plainB = some true by kernel_rfl) (fun h => by cases h)
theorem tok46 : TOk Tryz.prog 46 ti46 := mkT (.nilFunc) (by kernel_rfl) rfl rfl (show (Tryz.prog.underlying 46).map plainB = some true by kernel_rfl) (fun h => by cases h)
theorem tok47 : TOk Tryz.prog 47 ti47 := mkT (.nilFunc) (by kernel_rfl) rfl rfl (show (Tryz.prog.underlying 47).map plainB = some true by kernel_rfl) (fun h => by cases h)
theorem tok48 : TOk Tryz.prog 48 ti48 := mkT (.agg #[.string ⟨#[]⟩, .int .i64 0, .slice none 0 0]) (by kernel_rfl) rfl rfl (show (Tryz.prog.underlying 48).map structFs = some (some [(0, 9), (1, 3), (2, 26)]) by kernel_rfl) (fun h => by cases h)
theorem tok49 : TOk Tryz.prog 49 ti49 := mkT (.agg #[.string ⟨#[]⟩, .int .i64 0, .slice none 0 0]) (by kernel_rfl) rfl rfl (show (Tryz.prog.underlying 49).map structFs = some (some [(0, 9), (1, 3), (2, 26)]) by kernel_rfl) (fun h => by cases h)
theorem tok50 : TOk Tryz.prog 50 ti50 := mkT (.nilFunc) (by kernel_rfl) rfl rfl (show (Tryz.prog.underlying 50).map plainB = some true by kernel_rfl) (fun h => by cases h)
theorem tok51 : TOk Tryz.prog 51 ti51 := mkT (.slice none 0 0) (by kernel_rfl) rfl rfl (show Tryz.prog.underlying 51 = some (.slice 54) by kernel_rfl) (fun h => by cases h)
theorem tok53 : TOk Tryz.prog 53 ti53 := mkT (.nilFunc) (by kernel_rfl) rfl rfl (show (Tryz.prog.underlying 53).map plainB = some true by kernel_rfl) (fun h => by cases h)
theorem tok54 : TOk Tryz.prog 54 ti54 := mkT (.slice none 0 0) (by kernel_rfl) rfl rfl (show Tryz.prog.underlying 54 = some (.slice 73) by kernel_rfl) (fun h => by cases h)
theorem tok55 : TOk Tryz.prog 55 ti55 := mkT (.agg #[.slice none 0 0, .int .i64 0]) (by kernel_rfl) rfl rfl (show (Tryz.prog.underlying 55).map structFs = some (some [(0, 54), (1, 2)]) by kernel_rfl) (fun h => by cases h)
theorem tok56 : TOk Tryz.prog 56 ti56 := mkT (.agg #[.slice none 0 0, .int .i64 0]) (by kernel_rfl) rfl rfl (show (Tryz.prog.underlying 56).map structFs = some (some [(0, 54), (1, 2)]) by kernel_rfl) (fun h => by cases h)
theorem tok57 : TOk Tryz.prog 57 ti57 := mkT (.nilFunc) (by kernel_rfl) rfl rfl (show (Tryz.prog.underlying 57).map plainB = some true by kernel_rfl) (fun h => by cases h)
theorem tok58 : TOk Tryz.prog 58 ti58 := mkT (.slice none 0 0) (by kernel_rfl) rfl rfl (show Tryz.prog.underlying 58 = some (.slice 100) by kernel_rfl) (fun h => by cases h)
theorem tok60 : TOk Tryz.prog 60 ti60 := mkT (.nilFunc) (by kernel_rfl) rfl rfl (show (Tryz.prog.underlying 60).map plainB = some true by kernel_rfl) (fun h => by cases h)
theorem tok61 : TOk Tryz.prog 61 ti61 := mkT (.nilFunc) (by kernel_rfl) rfl rfl (show (Tryz.prog.underlying 61).map plainB = some true by kernel_rfl) (fun h => by cases h)
theorem tok62 : TOk Tryz.prog 62 ti62 := mkT (.nilFunc) (by kernel_rfl) rfl rfl (show (Tryz.prog.underlying 62).map plainB = some true by kernel_rfl) (fun h => by cases h)
theorem tok63 : TOk Tryz.prog 63 ti63 := mkT (.agg #[.slice none 0 0, .int .i64 0]) (by kernel_rfl) rfl rfl (show (Tryz.prog.underlying 63).map structFs = some (some [(0, 22), (1, 3)]) by kernel_rfl) (fun h => by cases h)
theorem tok64 : TOk Tryz.prog 64 ti64 := mkT (.agg #[.slice none 0 0, .int .i64 0]) (by kernel_rfl) rfl rfl (show (Tryz.prog.underlying 64).map structFs = some (some [(0, 22), (1, 3)]) by kernel_rfl) (fun h => by cases h)
theorem tok65 : TOk Tryz.prog 65 ti65 := mkT (.nilFunc) (by kernel_rfl) rfl rfl (show (Tryz.prog.underlying 65).map plainB = some true by kernel_rfl) (fun h => by cases h)
theorem tok66 : TOk Tryz.prog 66 ti66 := mkT (.agg #[.int .i64 0, .int .i64 0]) (by kernel_rfl) rfl rfl (show Tryz.prog.underlying 66 = some (.array 2 3) by kernel_rfl) (fun h => by cases h)
theorem tok67 : TOk Tryz.prog 67 ti67 := mkT (.nilFunc) (by kernel_rfl) rfl rfl (show (Tryz.prog.underlying 67).map plainB = some true by kernel_rfl) (fun h => by cases h)
theorem tok68 : TOk Tryz.prog 68 ti68 := mkT (.nilFunc) (by kernel_rfl) rfl rfl (show (Tryz.prog.underlying 68).map plainB = some true by kernel_rfl) (fun h => by cases h)
theorem tok69 : TOk Tryz.prog 69 ti69 := mkT (.nilFunc) (by kernel_rfl) rfl rfl (show (Tryz.prog.underlying 69).map plainB = some true by kernel_rfl) (fun h => by cases h)
theorem tok70 : TOk Tryz.prog 70 ti70 := mkT (.nilFunc) (by kernel_rfl) rfl rfl (show (Tryz.prog.underlying 70).map plainB = some true by kernel_rfl) (fun h => by cases h)
theorem tok71 : TOk Tryz.prog 71 ti71 := mkT (.slice none 0 0) (by kernel_rfl) rfl rfl (show Tryz.prog.underlying 71 = some (.slice 2) by kernel_rfl) (fun h => by cases h)
theorem tok72 : TOk Tryz.prog 72 ti72 := mkT (.agg #[.int .i64 0, .int .i64 0, .string ⟨#[]⟩]) (by kernel_rfl) rfl rfl (show (Tryz.prog.underlying 72).map structFs = some (some [(0, 3), (1, 2), (2, 9)]) by kernel_rfl) (fun _ => eqOk (by kernel_rfl) (by kernel_rfl) (by kernel_rfl) (by kernel_rfl))
theorem tok73 : TOk Tryz.prog 73 ti73 := mkT (.agg #[.int .i64 0, .int .i64 0, .string ⟨#[]⟩]) (by kernel_rfl) rfl rfl (show (Tryz.prog.underlying 73).map structFs = some (some [(0, 3), (1, 2), (2, 9)]) by kernel_rfl) (fun _ => eqOk (by kernel_rfl) (by kernel_rfl) (by kernel_rfl) (by kernel_rfl))
theorem tok74 : TOk Tryz.prog 74 ti74 := mkT (.nilFunc) (by kernel_rfl) rfl rfl (show (Tryz.prog.underlying 74).map plainB = some true by kernel_rfl) (fun h => by cases h)
theorem tok75 : TOk Tryz.prog 75 ti75 := mkT (.pointer none) (by kernel_rfl) rfl rfl (show (Tryz.prog.underlying 75).map plainB = some true by kernel_rfl) (fun h => by cases h)
theorem tok76 : TOk Tryz.prog 76 ti76 := mkT (.nilFunc) (by kernel_rfl) rfl rfl (show (Tryz.prog.underlying 76).map plainB = some true by kernel_rfl) (fun h => by cases h)
theorem tok77 : TOk Tryz.prog 77 ti77 := mkT (.nilFunc) (by kernel_rfl) rfl rfl (show (Tryz.prog.underlying 77).map plainB = some true by kernel_rfl) (fun h => by cases h)
theorem tok78 : TOk Tryz.prog 78 ti78 := mkT (.nilFunc) (by kernel_rfl) rfl rfl (show (Tryz.prog.underlying 78).map plainB = some true by kernel_rfl) (fun h => by cases h)
theorem tok80 : TOk Tryz.prog 80 ti80 := mkT (.nilFunc) (by kernel_rfl) rfl rfl (show (Tryz.prog.underlying 80).map plainB = some true by kernel_rfl) (fun h => by cases h)
theorem tok81 : TOk Tryz.prog 81 ti81 := mkT (.nilFunc) (by kernel_rfl) rfl rfl (show (Tryz.prog.underlying 81).map plainB = some true by kernel_rfl) (fun h => by cases h)
theorem tok82 : TOk Tryz.prog 82 ti82 := mkT (.nilFunc) (by kernel_rfl) rfl rfl (show (Tryz.prog.underlying 82).map plainB = some true by kernel_rfl) (fun h => by cases h)
theorem tok83 : TOk Tryz.prog 83 ti83 := mkT (.nilFunc) (by kernel_rfl) rfl rfl (show (Tryz.prog.underlying 83).map plainB = some true by kernel_rfl) (fun h => by cases h)
theorem tok84 : TOk Tryz.prog 84 ti84 := mkT (.nilFunc) (by kernel_rfl) rfl rfl (show (Tryz.prog.underlying 84).map plainB = some true by kernel_rfl) (fun h => by cases h)
theorem tok85 : TOk Tryz.prog 85 ti85 := mkT (.agg #[.string ⟨#[]⟩, .slice none 0 0]) (by kernel_rfl) rfl rfl (show (Tryz.prog.underlying 85).map structFs = some (some [(0, 9), (1, 26)]) by kernel_rfl) (fun h => by cases h)
theorem tok86 : TOk Tryz.prog 86 ti86 := mkT (.agg #[.string ⟨#[]⟩, .slice none 0 0]) (by kernel_rfl) rfl rfl (show (Tryz.prog.underlying 86).map structFs = some (some [(0, 9), (1, 26)]) by kernel_rfl) (fun h => by cases h)
theorem tok87 : TOk Tryz.prog 87 ti87 := mkT (.nilFunc) (by kernel_rfl) rfl rfl (show (Tryz.prog.underlying 87).map plainB = some true by kernel_rfl) (fun h => by cases h)
theorem tok88 : TOk Tryz.prog 88 ti88 := mkT (.nilFunc) (by kernel_rfl) rfl rfl (show (Tryz.prog.underlying 88).map plainB = some true by kernel_rfl) (fun h => by cases h)
theorem tok89 : TOk Tryz.prog 89 ti89 := mkT (.nilFunc) (by kernel_rfl) rfl rfl (show (Tryz.prog.underlying 89).map plainB = some true by kernel_rfl) (fun h => by cases h)
theorem tok90 : TOk Tryz.prog 90 ti90 := mkT (.nilFunc) (by kernel_rfl) rfl rfl (show (Tryz.prog.underlying 90).map plainB = some true by kernel_rfl) (fun h => by cases h)
theorem tok91 : TOk Tryz.prog 91 ti91 := mkT (.nilFunc) (by kernel_rfl) rfl rfl (show (Tryz.prog.underlying 91).map plainB = some true by kernel_rfl) (fun h => by cases h)
theorem tok92 : TOk Tryz.prog 92 ti92 := mkT (.nilFunc) (by kernel_rfl) rfl rfl (show (Tryz.prog.underlying 92).map plainB = some true by kernel_rfl) (fun h => by cases h)
theorem tok93 : TOk Tryz.prog 93 ti93 := mkT (.nilFunc) (by kernel_rfl) rfl rfl (show (Tryz.prog.underlying 93).map plainB = some true by kernel_rfl) (fun h => by cases h)
theorem tok94 : TOk Tryz.prog 94 ti94 := mkT (.nilFunc) (by kernel_rfl) rfl rfl (show (Tryz.prog.underlying 94).map plainB = some true by kernel_rfl) (fun h => by cases h)
theorem tok95 : TOk Tryz.prog 95 ti95 := mkT (.slice none 0 0) (by kernel_rfl) rfl rfl (show Tryz.prog.underlying 95 = some (.slice 98) by kernel_rfl) (fun h => by cases h)
theorem tok96 : TOk Tryz.prog 96 ti96 := mkT (.nilFunc) (by kernel_rfl) rfl rfl (show (Tryz.prog.underlying 96).map plainB = some true by kernel_rfl) (fun h => by cases h)
theorem tok97 : TOk Tryz.prog 97 ti97 := mkT (.agg #[.slice none 0 0, .slice none 0 0]) (by kernel_rfl) rfl rfl (show (Tryz.prog.underlying 97).map structFs = some (some [(0, 54), (1, 32)]) by kernel_rfl) (fun h => by cases h)
theorem tok98 : TOk Tryz.prog 98 ti98 := mkT (.agg #[.slice none 0 0, .slice none 0 0]) (by kernel_rfl) rfl rfl (show (Tryz.prog.underlying 98).map structFs = some (some [(0, 54), (1, 32)]) by kernel_rfl) (fun h => by cases h)
theorem tok99 : TOk Tryz.prog 99 ti99 := mkT (.agg #[.slice none 0 0, .int .i64 0, .slice none 0 0, .slice none 0 0]) (by kernel_rfl) rfl rfl (show (Tryz.prog.underlying 99).map structFs = some (some [(0, 54), (1, 2), (2, 71), (3, 71)]) by kernel_rfl) (fun h => by cases h)
theorem tok100 : TOk Tryz.prog 100 ti100 := mkT (.agg #[.slice none 0 0, .int .i64 0, .slice none 0 0, .slice none 0 0]) (by kernel_rfl) rfl rfl (show (Tryz.prog.underlying 100).map structFs = some (some [(0, 54), (1, 2), (2, 71), (3, 71)]) by kernel_rfl) (fun h => by cases h)
theorem tok101 : TOk Tryz.prog 101 ti101 := mkT (.nilFunc) (by kernel_rfl) rfl rfl (show (Tryz.prog.underlying 101).map plainB = some true by kernel_rfl) (fun h => by cases h)
theorem tok102 : TOk Tryz.prog 102 ti102 := mkT (.nilFunc) (by kernel_rfl) rfl rfl (show (Tryz.prog.underlying 102).map plainB = some true by kernel_rfl) (fun h => by cases h)
theorem tok103 : TOk Tryz.prog 103 ti103 := mkT (.nilFunc) (by kernel_rfl) rfl rfl (show (Tryz.prog.underlying 103).map plainB = some true by kernel_rfl) (fun h => by cases h)
theorem tok104 : TOk Tryz.prog 104 ti104 := mkT (.nilFunc) (by kernel_rfl) rfl rfl (show (Tryz.prog.underlying 104).map plainB = some true by kernel_rfl) (fun h => by cases h)
theorem tok105 : TOk Tryz.prog 105 ti105 := mkT (.nilFunc) (by kernel_rfl) rfl rfl (show (Tryz.prog.underlying 105).map plainB = some true by kernel_rfl) (fun h => by cases h)
theorem tok106 : TOk Tryz.prog 106 ti106 := mkT (.int .u64 0) (by kernel_rfl) rfl rfl (show Tryz.prog.underlying 106 = some (.int .u64) by kernel_rfl) (fun h => by cases h)
theorem tok107 : TOk Tryz.prog 107 ti107 := mkT (.nilFunc) (by kernel_rfl) rfl rfl (show (Tryz.prog.underlying 107).map plainB = some true by kernel_rfl) (fun h => by cases h)
theorem tok108 : TOk Tryz.prog 108 ti108 := mkT (.agg #[.int .i64 0, .int .i64 0, .int .i64 0, .string ⟨#[]⟩, .int .i64 0]) (by kernel_rfl) rfl rfl (show (Tryz.prog.underlying 108).map structFs = some (some [(0, 3), (1, 73), (4, 3)]) by kernel_rfl) (fun h => by cases h)
theorem tok109 : TOk Tryz.prog 109 ti109 := mkT (.agg #[.int .i64 0, .int .i64 0, .int .i64 0, .string ⟨#[]⟩, .int .i64 0]) (by kernel_rfl) rfl rfl (show (Tryz.prog.underlying 109).map structFs = some (some [(0, 3), (1, 73), (4, 3)]) by kernel_rfl) (fun h => by cases h)
theorem tok110 : TOk Tryz.prog 110 ti110 := mkT (.nilFunc) (by kernel_rfl) rfl rfl (show (Tryz.prog.underlying 110).map plainB = some true by kernel_rfl) (fun h => by cases h)
theorem tok111 : TOk Tryz.prog 111 ti111 := mkT (.nilFunc) (by kernel_rfl) rfl rfl (show (Tryz.prog.underlying 111).map plainB = some true by kernel_rfl) (fun h => by cases h)
theorem tok112 : TOk Tryz.prog 112 ti112 := mkT (.nilFunc) (by kernel_rfl) rfl rfl (show (Tryz.prog.underlying 112).map plainB = some true by kernel_rfl) (fun h => by cases h)
theorem tok113 : TOk Tryz.prog 113 ti113 := mkT (.slice none 0 0) (by kernel_rfl) rfl rfl (show Tryz.prog.underlying 113 = some (.slice 9) by kernel_rfl) (fun h => by cases h)
theorem tok114 : TOk Tryz.prog 114 ti114 := mkT (.nilFunc) (by kernel_rfl) rfl rfl (show (Tryz.prog.underlying 114).map plainB = some true by kernel_rfl) (fun h => by cases h)
theorem tok115 : TOk Tryz.prog 115 ti115 := mkT (.nilFunc) (by kernel_rfl) rfl rfl (show (Tryz.prog.underlying 115).map plainB = some true by kernel_rfl) (fun h => by cases h)
theorem tok116 : TOk Tryz.prog 116 ti116 := mkT (.slice none 0 0) (by kernel_rfl) rfl rfl (show Tryz.prog.underlying 116 = some (.slice 26) by kernel_rfl) (fun h => by cases h)
theorem tok117 : TOk Tryz.prog 117 ti117 := mkT (.nilFunc) (by kernel_rfl) rfl rfl (show (Tryz.prog.underlying 117).map plainB = some true by kernel_rfl) (fun h => by cases h)
theorem tok118 : TOk Tryz.prog 118 ti118 := mkT (.nilFunc) (by kernel_rfl) rfl rfl (show (Tryz.prog.underlying 118).map plainB = some true by kernel_rfl) (fun h => by cases h)
theorem tok119 : TOk Tryz.prog 119 ti119 := mkT (.nilFunc) (by kernel_rfl) rfl rfl (show (Tryz.prog.underlying 119).map plainB = some true by kernel_rfl) (fun h => by cases h)
theorem tok120 : TOk Tryz.prog 120 ti120 := mkT (.nilFunc) (by kernel_rfl) rfl rfl (show (Tryz.prog.underlying 120).map plainB = some true by kernel_rfl) (fun h => by cases h)
theorem tok121 : TOk Tryz.prog 121 ti121 := mkT (.nilFunc) (by kernel_rfl) rfl rfl (show (Tryz.prog.underlying 121).map plainB = some true by kernel_rfl) (fun h => by cases h)
theorem tok122 : TOk Tryz.prog 122 ti122 := mkT (.nilFunc) (by kernel_rfl) rfl rfl (show (Tryz.prog.underlying 122).map plainB = some true by kernel_rfl) (fun h => by cases h)
theorem tok123 : TOk Tryz.prog 123 ti123 := mkT (.nilFunc) (by kernel_rfl) rfl rfl (show (Tryz.prog.underlying 123).map plainB = some true by kernel_rfl) (fun h => by cases h)
theorem tok124 : TOk Tryz.prog 124 ti124 := mkT (.nilFunc) (by kernel_rfl) rfl rfl (show (Tryz.prog.underlying 124).map plainB = some true by kernel_rfl) (fun h => by cases h)
theorem tok125 : TOk Tryz.prog 125 ti125 := mkT (.slice none 0 0) (by kernel_rfl) rfl rfl (show Tryz.prog.underlying 125 = some (.slice 5) by kernel_rfl) (fun h => by cases h)
theorem tok127 : TOk Tryz.prog 127 ti127 := mkT (.nilFunc) (by kernel_rfl) rfl rfl (show (Tryz.prog.underlying 127).map plainB = some true by kernel_rfl) (fun h => by cases h)
theorem tok128 : TOk Tryz.prog 128 ti128 := mkT (.nilFunc) (by kernel_rfl) rfl rfl (show (Tryz.prog.underlying 128).map plainB = some true by kernel_rfl) (fun h => by cases h)
theorem tok129 : TOk Tryz.prog 129 ti129 := mkT (.nilFunc) (by kernel_rfl) rfl rfl (show (Tryz.prog.underlying 129).map plainB = some true by kernel_rfl) (fun h => by cases h)
theorem tok130 : TOk Tryz.prog 130 ti130 := mkT (.nilFunc) (by kernel_rfl) rfl rfl (show (Tryz.prog.underlying 130).map plainB = some true by kernel_rfl) (fun h => by cases h)
theorem tok132 : TOk Tryz.prog 132 ti132 := mkT (.nilFunc) (by kernel_rfl) rfl rfl (show (Tryz.prog.underlying 132).map plainB = some true by kernel_rfl) (fun h => by cases h)
theorem tok133 : TOk Tryz.prog 133 ti133 := mkT (.nilFunc) (by kernel_rfl) rfl rfl (show (Tryz.prog.underlying 133).map plainB = some true by kernel_rfl) (fun h => by cases h)
theorem tok134 : TOk Tryz.prog 134 ti134 := mkT (.nilFunc) (by kernel_rfl) rfl rfl (show (Tryz.prog.underlying 134).map plainB = some true by kernel_rfl) (fun h => by cases h)
theorem tok135 : TOk Tryz.prog 135 ti135 := mkT (.nilFunc) (by kernel_rfl) rfl rfl (show (Tryz.prog.underlying 135).map plainB = some true by kernel_rfl) (fun h => by cases h)
theorem tok136 : TOk Tryz.prog 136 ti136 := mkT (.nilFunc) (by kernel_rfl) rfl rfl (show (Tryz.prog.underlying 136).map plainB = some true by kernel_rfl) (fun h => by cases h)
theorem tok137 : TOk Tryz.prog 137 ti137 := mkT (.map none) (by kernel_rfl) rfl rfl (show (Tryz.prog.underlying 137).map plainB = some true by kernel_rfl) (fun h => by cases h)
theorem tok138 : TOk Tryz.prog 138 ti138 := mkT (.nilFunc) (by kernel_rfl) rfl rfl (show (Tryz.prog.underlying 138).map plainB = some true by kernel_rfl) (fun h => by cases h)
theorem tok139 : TOk Tryz.prog 139 ti139 := mkT (.nilFunc) (by kernel_rfl) rfl rfl (show (Tryz.prog.underlying 139).map plainB = some true by kernel_rfl) (fun h => by cases h)
theorem tok141 : TOk Tryz.prog 141 ti141 := mkT (.nilFunc) (by kernel_rfl) rfl rfl (show (Tryz.prog.underlying 141).map plainB = some true by kernel_rfl) (fun h => by cases h)
theorem tok142 : TOk Tryz.prog 142 ti142 := mkT (.nilFunc) (by kernel_rfl) rfl rfl (show (Tryz.prog.underlying 142).map plainB = some true by kernel_rfl) (fun h => by cases h)
theorem tok144 : TOk Tryz.prog 144 ti144 := mkT (.nilFunc) (by kernel_rfl) rfl rfl (show (Tryz.prog.underlying 144).map plainB = some true by kernel_rfl) (fun h => by cases h)
theorem tok145 : TOk Tryz.prog 145 ti145 := mkT (.slice none 0 0) (by kernel_rfl) rfl rfl (show Tryz.prog.underlying 145 = some (.slice 186) by kernel_rfl) (fun h => by cases h)
theorem tok146 : TOk Tryz.prog 146 ti146 := mkT (.nilFunc) (by kernel_rfl) rfl rfl (show (Tryz.prog.underlying 146).map plainB = some true by kernel_rfl) (fun h => by cases h)
theorem tok147 : TOk Tryz.prog 147 ti147 := mkT (.nilFunc) (by kernel_rfl) rfl rfl (show (Tryz.prog.underlying 147).map plainB = some true by kernel_rfl) (fun h => by cases h)
theorem tok148 : TOk Tryz.prog 148 ti148 := mkT (.nilFunc) (by kernel_rfl) rfl rfl (show (Tryz.prog.underlying 148).map plainB = some true by kernel_rfl) (fun h => by cases h)
theorem tok149 : TOk Tryz.prog 149 ti149 := mkT (.nilFunc) (by kernel_rfl) rfl rfl (show (Tryz.prog.underlying 149).map plainB = some true by kernel_rfl) (fun h => by cases h)
theorem tok150 : TOk Tryz.prog 150 ti150 := mkT (.nilFunc) (by kernel_rfl) rfl rfl (show (Tryz.prog.underlying 150).map plainB = some true by kernel_rfl) (fun h => by cases h)
theorem tok151 : TOk Tryz.prog 151 ti151 := mkT (.nilFunc) (by kernel_rfl) rfl rfl (show (Tryz.prog.underlying 151).map plainB = some true by kernel_rfl) (fun h => by cases h)
theorem tok152 : TOk Tryz.prog 152 ti152 := mkT (.nilFunc) (by kernel_rfl) rfl rfl (show (Tryz.prog.underlying 152).map plainB = some true by kernel_rfl) (fun h => by cases h)
theorem tok153 : TOk Tryz.prog 153 ti153 := mkT (.nilFunc) (by kernel_rfl) rfl rfl (show (Tryz.prog.underlying 153).map plainB = some true by kernel_rfl) (fun h => by cases h)
theorem tok154 : TOk Tryz.prog 154 ti154 := mkT (.nilFunc) (by kernel_rfl) rfl rfl (show (Tryz.prog.underlying 154).map plainB = some true by kernel_rfl) (fun h => by cases h)
theorem tok155 : TOk Tryz.prog 155 ti155 := mkT (.nilFunc) (by kernel_rfl) rfl rfl (show (Tryz.prog.underlying 155).map plainB = some true by kernel_rfl) (fun h => by cases h)
theorem tok156 : TOk Tryz.prog 156 ti156 := mkT (.nilFunc) (by kernel_rfl) rfl rfl (show (Tryz.prog.underlying 156).map plainB = some true by kernel_rfl) (fun h => by cases h)
theorem tok157 : TOk Tryz.prog 157 ti157 := mkT (.nilFunc) (by kernel_rfl) rfl rfl (show (Tryz.prog.underlying 157).map plainB = some true by kernel_rfl) (fun h => by cases h)
theorem tok158 : TOk Tryz.prog 158 ti158 := mkT (.nilFunc) (by kernel_rfl) rfl rfl (show (Tryz.prog.underlying 158).map plainB = some true by kernel_rfl) (fun h => by cases h)
theorem tok159 : TOk Tryz.prog 159 ti159 := mkT (.nilFunc) (by kernel_rfl) rfl rfl (show (Tryz.prog.underlying 159).map plainB = some true by kernel_rfl) (fun h => by cases h)
theorem tok160 : TOk Tryz.prog 160 ti160 := mkT (.nilFunc) (by kernel_rfl) rfl rfl (show (Tryz.prog.underlying 160).map plainB = some true by kernel_rfl) (fun h => by cases h)
theorem tok161 : TOk Tryz.prog 161 ti161 := mkT (.agg #[.slice none 0 0, .slice none 0 0]) (by kernel_rfl) rfl rfl (show Tryz.prog.underlying 161 = some (.array 2 32) by kernel_rfl) (fun h => by cases h)
theorem tok162 : TOk Tryz.prog 162 ti162 := mkT (.slice none 0 0) (by kernel_rfl) rfl rfl (show Tryz.prog.underlying 162 = some (.slice 161) by kernel_rfl) (fun h => by cases h)
theorem tok164 : TOk Tryz.prog 164 ti164 := mkT (.nilFunc) (by kernel_rfl) rfl rfl (show (Tryz.prog.underlying 164).map plainB = some true by kernel_rfl) (fun h => by cases h)
theorem tok165 : TOk Tryz.prog 165 ti165 := mkT (.agg #[.int .i64 0, .int .i64 0, .string ⟨#[]⟩, .int .i64 0, .int .i64 0, .string ⟨#[]⟩, .int .i64 0, .int .i64 0, .string ⟨#[]⟩]) (by kernel_rfl) rfl rfl (show Tryz.prog.underlying 165 = some (.array 3 73) by kernel_rfl) (fun h => by cases h)
theorem tok166 : TOk Tryz.prog 166 ti166 := mkT (.nilFunc) (by kernel_rfl) rfl rfl (show (Tryz.prog.underlying 166).map plainB = some true by kernel_rfl) (fun h => by cases h)
theorem tok167 : TOk Tryz.prog 167 ti167 := mkT (.nilFunc) (by kernel_rfl) rfl rfl (show (Tryz.prog.underlying 167).map plainB = some true by kernel_rfl) (fun h => by cases h)
theorem tok168 : TOk Tryz.prog 168 ti168 := mkT (.nilFunc) (by kernel_rfl) rfl rfl (show (Tryz.prog.underlying 168).map plainB = some true by kernel_rfl) (fun h => by cases h)
theorem tok169 : TOk Tryz.prog 169 ti169 := mkT (.nilFunc) (by kernel_rfl) rfl rfl (show (Tryz.prog.underlying 169).map plainB = some true by kernel_rfl) (fun h => by cases h)
theorem tok170 : TOk Tryz.prog 170 ti170 := mkT (.int .i64 0) (by kernel_rfl) rfl rfl (show Tryz.prog.underlying 170 = some (.int .i64) by kernel_rfl) (fun h => by cases h)
theorem tok172 : TOk Tryz.prog 172 ti172 := mkT (.nilFunc) (by kernel_rfl) rfl rfl (show (Tryz.prog.underlying 172).map plainB = some true by kernel_rfl) (fun h => by cases h)
theorem tok173 : TOk Tryz.prog 173 ti173 := mkT (.nilFunc) (by kernel_rfl) rfl rfl (show (Tryz.prog.underlying 173).map plainB = some true by kernel_rfl) (fun h => by cases h)
theorem tok174 : TOk Tryz.prog 174 ti174 := mkT (.nilFunc) (by kernel_rfl) rfl rfl (show (Tryz.prog.underlying 174).map plainB = some true by kernel_rfl) (fun h => by cases h)
theorem tok175 : TOk Tryz.prog 175 ti175 := mkT (.nilFunc) (by kernel_rfl) rfl rfl (show (Tryz.prog.underlying 175).map plainB = some true by kernel_rfl) (fun h => by cases h)
theorem tok176 : TOk Tryz.prog 176 ti176 := mkT (.nilFunc) (by kernel_rfl) rfl rfl (show (Tryz.prog.underlying 176).map plainB = some true by kernel_rfl) (fun h => by cases h)
theorem tok177 : TOk Tryz.prog 177 ti177 := mkT (.int .u32 0) (by kernel_rfl) rfl rfl (show Tryz.prog.underlying 177 = some (.int .u32) by kernel_rfl) (fun h => by cases h)
theorem tok178 : TOk Tryz.prog 178 ti178 := mkT (.nilFunc) (by kernel_rfl) rfl rfl (show (Tryz.prog.underlying 178).map plainB = some true by kernel_rfl) (fun h => by cases h)
theorem tok179 : TOk Tryz.prog 179 ti179 := mkT (.int .u64 0) (by kernel_rfl) rfl rfl (show Tryz.prog.underlying 179 = some (.int .u64) by kernel_rfl) (fun h => by cases h)
theorem tok180 : TOk Tryz.prog 180 ti180 := mkT (.nilFunc) (by kernel_rfl) rfl rfl (show (Tryz.prog.underlying 180).map plainB = some true by kernel_rfl) (fun h => by cases h)
theorem tok181 : TOk Tryz.prog 181 ti181 := mkT (.nilFunc) (by kernel_rfl) rfl rfl (show (Tryz.prog.underlying 181).map plainB = some true by kernel_rfl) (fun h => by cases h)
theorem tok182 : TOk Tryz.prog 182 ti182 := mkT (.nilFunc) (by kernel_rfl) rfl rfl (show (Tryz.prog.underlying 182).map plainB = some true by kernel_rfl) (fun h => by cases h)
theorem tok183 : TOk Tryz.prog 183 ti183 := mkT (.nilFunc) (by kernel_rfl) rfl rfl (show (Tryz.prog.underlying 183).map plainB = some true by kernel_rfl) (fun h => by cases h)
theorem tok184 : TOk Tryz.prog 184 ti184 := mkT (.nilFunc) (by kernel_rfl) rfl rfl (show (Tryz.prog.underlying 184).map plainB = some true by kernel_rfl) (fun h => by cases h)
theorem tok185 : TOk Tryz.prog 185 ti185 := mkT (.agg #[.int .i64 0, .int .i64 0, .string ⟨#[]⟩, .int .i64 0]) (by kernel_rfl) rfl rfl (show (Tryz.prog.underlying 185).map structFs = some (some [(0, 73), (3, 2)]) by kernel_rfl) (fun h => by cases h)
theorem tok186 : TOk Tryz.prog 186 ti186 := mkT (.agg #[.int .i64 0, .int .i64 0, .string ⟨#[]⟩, .int .i64 0]) (by kernel_rfl) rfl rfl (show (Tryz.prog.underlying 186).map structFs = some (some [(0, 73), (3, 2)]) by kernel_rfl) (fun h => by cases h)
theorem tok187 : TOk Tryz.prog 187 ti187 := mkT (.nilFunc) (by kernel_rfl) rfl rfl (show (Tryz.prog.underlying 187).map plainB = some true by kernel_rfl) (fun h => by cases h)
theorem tok188 : TOk Tryz.prog 188 ti188 := mkT (.nilFunc) (by kernel_rfl) rfl rfl (show (Tryz.prog.underlying 188).map plainB = some true by kernel_rfl) (fun h => by cases h)
theorem tok189 : TOk Tryz.prog 189 ti189 := mkT (.nilFunc) (by kernel_rfl) rfl rfl (show (Tryz.prog.underlying 189).map plainB = some true by kernel_rfl) (fun h => by cases h)
theorem tok190 : TOk Tryz.prog 190 ti190 := mkT (.nilFunc) (by kernel_rfl) rfl rfl (show (Tryz.prog.underlying 190).map plainB = some true by kernel_rfl) (fun h => by cases h)
theorem tok191 : TOk Tryz.prog 191 ti191 := mkT (.nilFunc) (by kernel_rfl) rfl rfl (show (Tryz.prog.underlying 191).map plainB = some true by kernel_rfl) (fun h => by cases h)
theorem tok192 : TOk Tryz.prog 192 ti192 := mkT (.nilFunc) (by kernel_rfl) rfl rfl (show (Tryz.prog.underlying 192).map plainB = some true by kernel_rfl) (fun h => by cases h)
theorem tok193 : TOk Tryz.prog 193 ti193 := mkT (.nilFunc) (by kernel_rfl) rfl rfl (show (Tryz.prog.underlying 193).map plainB = some true by kernel_rfl) (fun h => by cases h)
theorem tok194 : TOk Tryz.prog 194 ti194 := mkT (.nilFunc) (by kernel_rfl) rfl rfl (show (Tryz.prog.underlying 194).map plainB = some true by kernel_rfl) (fun h => by cases h)
theorem tok195 : TOk Tryz.prog 195 ti195 := mkT (.map none) (by kernel_rfl) rfl rfl (show (Tryz.prog.underlying 195).map plainB = some true by kernel_rfl) (fun h => by cases h)
theorem tok197 : TOk Tryz.prog 197 ti197 := mkT (.nilFunc) (by kernel_rfl) rfl rfl (show (Tryz.prog.underlying 197).map plainB = some true by kernel_rfl) (fun h => by cases h)
theorem tok198 : TOk Tryz.prog 198 ti198 := mkT (.slice none 0 0) (by kernel_rfl) rfl rfl (show Tryz.prog.underlying 198 = some (.slice 200) by kernel_rfl) (fun h => by cases h)
theorem tok199 : TOk Tryz.prog 199 ti199 := mkT (.agg #[.string ⟨#[]⟩, .int .i64 0]) (by kernel_rfl) rfl rfl (show (Tryz.prog.underlying 199).map structFs = some (some [(0, 9), (1, 2)]) by kernel_rfl) (fun _ => eqOk (by kernel_rfl) (by kernel_rfl) (by kernel_rfl) (by kernel_rfl))
theorem tok200 : TOk Tryz.prog 200 ti200 := mkT (.agg #[.string ⟨#[]⟩, .int .i64 0]) (by kernel_rfl) rfl rfl (show (Tryz.prog.underlying 200).map structFs = some (some [(0, 9), (1, 2)]) by kernel_rfl) (fun _ => eqOk (by kernel_rfl) (by kernel_rfl) (by kernel_rfl) (by kernel_rfl))
theorem tok201 : TOk Tryz.prog 201 ti201 := mkT (.pointer none) (by kernel_rfl) rfl rfl (show (Tryz.prog.underlying 201).map plainB = some true by kernel_rfl) (fun h => by cases h)
theorem tok202 : TOk Tryz.prog 202 ti202 := mkT (.map none) (by kernel_rfl) rfl rfl (show (Tryz.prog.underlying 202).map plainB = some true by kernel_rfl) (fun h => by cases h)
theorem tok203 : TOk Tryz.prog 203 ti203 := mkT (.slice none 0 0) (by kernel_rfl) rfl rfl (show Tryz.prog.underlying 203 = some (.slice 232) by kernel_rfl) (fun h => by cases h)
theorem tok204 : TOk Tryz.prog 204 ti204 := mkT (.agg #[.slice none 0 0, .map none, .slice none 0 0]) (by kernel_rfl) rfl rfl (show (Tryz.prog.underlying 204).map structFs = some (some [(0, 203), (1, 202), (2, 198)]) by kernel_rfl) (fun h => by cases h)
theorem tok205 : TOk Tryz.prog 205 ti205 := mkT (.agg #[.slice none 0 0, .map none, .slice none 0 0]) (by kernel_rfl) rfl rfl (show (Tryz.prog.underlying 205).map structFs = some (some [(0, 203), (1, 202), (2, 198)]) by kernel_rfl) (fun h => by cases h)
theorem tok206 : TOk Tryz.prog 206 ti206 := mkT (.nilFunc) (by kernel_rfl) rfl rfl (show (Tryz.prog.underlying 206).map plainB = some true by kernel_rfl) (fun h => by cases h)
theorem tok207 : TOk Tryz.prog 207 ti207 := mkT (.nilFunc) (by kernel_rfl) rfl rfl (show (Tryz.prog.underlying 207).map plainB = some true by kernel_rfl) (fun h => by cases h)
theorem tok208 : TOk Tryz.prog 208 ti208 := mkT (.nilFunc) (by kernel_rfl) rfl rfl (show (Tryz.prog.underlying 208).map plainB = some true by kernel_rfl) (fun h => by cases h)
theorem tok210 : TOk Tryz.prog 210 ti210 := mkT (.nilFunc) (by kernel_rfl) rfl rfl (show (Tryz.prog.underlying 210).map plainB = some true by kernel_rfl) (fun h => by cases h)
theorem tok211 : TOk Tryz.prog 211 ti211 := mkT (.nilFunc) (by kernel_rfl) rfl rfl (show (Tryz.prog.underlying 211).map plainB = some true by kernel_rfl) (fun h => by cases h)
theorem tok212 : TOk Tryz.prog 212 ti212 := mkT (.nilFunc) (by kernel_rfl) rfl rfl (show (Tryz.prog.underlying 212).map plainB = some true by kernel_rfl) (fun h => by cases h)
theorem tok213 : TOk Tryz.prog 213 ti213 := mkT (.nilFunc) (by kernel_rfl) rfl rfl (show (Tryz.prog.underlying 213).map plainB = some true by kernel_rfl) (fun h => by cases h)
theorem tok214 : TOk Tryz.prog 214 ti214 := mkT (.nilFunc) (by kernel_rfl) rfl rfl (show (Tryz.prog.underlying 214).map plainB = some true by kernel_rfl) (fun h => by cases h)
theorem tok215 : TOk Tryz.prog 215 ti215 := mkT (.nilFunc) (by kernel_rfl) rfl rfl (show (Tryz.prog.underlying 215).map plainB = some true by kernel_rfl) (fun h => by cases h)
theorem tok216 : TOk Tryz.prog 216 ti216 := mkT (.nilFunc) (by kernel_rfl) rfl rfl (show (Tryz.prog.underlying 216).map plainB = some true by kernel_rfl) (fun h => by cases h)
theorem tok217 : TOk Tryz.prog 217 ti217 := mkT (.int .u64 0) (by kernel_rfl) rfl rfl (show Tryz.prog.underlying 217 = some (.int .u64) by kernel_rfl) (fun h => by cases h)
theorem tok218 : TOk Tryz.prog 218 ti218 := mkT (.nilFunc) (by kernel_rfl) rfl rfl (show (Tryz.prog.underlying 218).map plainB = some true by kernel_rfl) (fun h => by cases h)
theorem tok219 : TOk Tryz.prog 219 ti219 := mkT (.nilFunc) (by kernel_rfl) rfl rfl (show (Tryz.prog.underlying 219).map plainB = some true by kernel_rfl) (fun h => by cases h)
theorem tok220 : TOk Tryz.prog 220 ti220 := mkT (.nilFunc) (by kernel_rfl) rfl rfl (show (Tryz.prog.underlying 220).map plainB = some true by kernel_rfl) (fun h => by cases h)
theorem tok221 : TOk Tryz.prog 221 ti221 := mkT (.pointer none) (by kernel_rfl) rfl rfl (show (Tryz.prog.underlying 221).map plainB = some true by kernel_rfl) (fun h => by cases h)
theorem tok222 : TOk Tryz.prog 222 ti222 := mkT (.nilFunc) (by kernel_rfl) rfl rfl (show (Tryz.prog.underlying 222).map plainB = some true by kernel_rfl) (fun h => by cases h)
theorem tok223 : TOk Tryz.prog 223 ti223 := mkT (.nilFunc) (by kernel_rfl) rfl rfl (show (Tryz.prog.underlying 223).map plainB = some true by kernel_rfl) (fun h => by cases h)
theorem tok224 : TOk Tryz.prog 224 ti224 := mkT (.nilFunc) (by kernel_rfl) rfl rfl (show (Tryz.prog.underlying 224).map plainB = some true by kernel_rfl) (fun h => by cases h)
theorem tok225 : TOk Tryz.prog 225 ti225 := mkT (.nilFunc) (by kernel_rfl) rfl rfl (show (Tryz.prog.underlying 225).map plainB = some true by kernel_rfl) (fun h => by cases h)
theorem tok226 : TOk Tryz.prog 226 ti226 := mkT (.nilFunc) (by kernel_rfl) rfl rfl (show (Tryz.prog.underlying 226).map plainB = some true by kernel_rfl) (fun h => by cases h)
theorem tok227 : TOk Tryz.prog 227 ti227 := mkT (.nilFunc) (by kernel_rfl) rfl rfl (show (Tryz.prog.underlying 227).map plainB = some true by kernel_rfl) (fun h => by cases h)
theorem tok228 : TOk Tryz.prog 228 ti228 := mkT (.nilFunc) (by kernel_rfl) rfl rfl (show (Tryz.prog.underlying 228).map plainB = some true by kernel_rfl) (fun h => by cases h)
theorem tok229 : TOk Tryz.prog 229 ti229 := mkT (.nilFunc) (by kernel_rfl) rfl rfl (show (Tryz.prog.underlying 229).map plainB = some true by kernel_rfl) (fun h => by cases h)
theorem tok231 : TOk Tryz.prog 231 ti231 := mkT (.agg #[.string ⟨#[]⟩, .slice none 0 0]) (by kernel_rfl) rfl rfl (show (Tryz.prog.underlying 231).map structFs = some (some [(0, 9), (1, 113)]) by kernel_rfl) (fun h => by cases h)
theorem tok232 : TOk Tryz.prog 232 ti232 := mkT (.agg #[.string ⟨#[]⟩, .slice none 0 0]) (by kernel_rfl) rfl rfl (show (Tryz.prog.underlying 232).map structFs = some (some [(0, 9), (1, 113)]) by kernel_rfl) (fun h => by cases h)
theorem tok233 : TOk Tryz.prog 233 ti233 := mkT (.nilFunc) (by kernel_rfl) rfl rfl (show (Tryz.prog.underlying 233).map plainB = some true by kernel_rfl) (fun h => by cases h)
theorem tok234 : TOk Tryz.prog 234 ti234 := mkT (.nilFunc) (by kernel_rfl) rfl rfl (show (Tryz.prog.underlying 234).map plainB = some true by kernel_rfl) (fun h => by cases h)
theorem tok235 : TOk Tryz.prog 235 ti235 := mkT (.nilFunc) (by kernel_rfl) rfl rfl (show (Tryz.prog.underlying 235).map plainB = some true by kernel_rfl) (fun h => by cases h)
theorem tok236 : TOk Tryz.prog 236 ti236 := mkT (.nilFunc) (by kernel_rfl) rfl rfl (show (Tryz.prog.underlying 236).map plainB = some true by kernel_rfl) (fun h => by cases h)
theorem tok237 : TOk Tryz.prog 237 ti237 := mkT (.nilFunc) (by kernel_rfl) rfl rfl (show (Tryz.prog.underlying 237).map plainB = some true by kernel_rfl) (fun h => by cases h)
theorem tok238 : TOk Tryz.prog 238 ti238 := mkT (.nilFunc) (by kernel_rfl) rfl rfl (show (Tryz.prog.underlying 238).map plainB = some true by kernel_rfl) (fun h => by cases h)
theorem tok239 : TOk Tryz.prog 239 ti239 := mkT (.nilFunc) (by kernel_rfl) rfl rfl (show (Tryz.prog.underlying 239).map plainB = some true by kernel_rfl) (fun h => by cases h)
theorem tok240 : TOk Tryz.prog 240 ti240 := mkT (.nilFunc) (by kernel_rfl) rfl rfl (show (Tryz.prog.underlying 240).map plainB = some true by kernel_rfl) (fun h => by cases h)
theorem tok241 : TOk Tryz.prog 241 ti241 := mkT (.pointer none) (by kernel_rfl) rfl rfl (show (Tryz.prog.underlying 241).map plainB = some true by kernel_rfl) (fun h => by cases h)
theorem tok242 : TOk Tryz.prog 242 ti242 := mkT (.nilFunc) (by kernel_rfl) rfl rfl (show (Tryz.prog.underlying 242).map plainB = some true by kernel_rfl) (fun h => by cases h)
theorem tok243 : TOk Tryz.prog 243 ti243 := mkT (.nilFunc) (by kernel_rfl) rfl rfl (show (Tryz.prog.underlying 243).map plainB = some true by kernel_rfl) (fun h => by cases h)
theorem tok244 : TOk Tryz.prog 244 ti244 := mkT (.nilFunc) (by kernel_rfl) rfl rfl (show (Tryz.prog.underlying 244).map plainB = some true by kernel_rfl) (fun h => by cases h)
theorem tok245 : TOk Tryz.prog 245 ti245 := mkT (.nilFunc) (by kernel_rfl) rfl rfl (show (Tryz.prog.underlying 245).map plainB = some true by kernel_rfl) (fun h => by cases h)
theorem tok246 : TOk Tryz.prog 246 ti246 := mkT (.nilFunc) (by kernel_rfl) rfl rfl (show (Tryz.prog.underlying 246).map plainB = some true by kernel_rfl) (fun h => by cases h)
theorem tok247 : TOk Tryz.prog 247 ti247 := mkT (.nilFunc) (by kernel_rfl) rfl rfl (show (Tryz.prog.underlying 247).map plainB = some true by kernel_rfl) (fun h => by cases h)
theorem tok248 : TOk Tryz.prog 248 ti248 := mkT (.nilFunc) (by kernel_rfl) rfl rfl (show (Tryz.prog.underlying 248).map plainB = some true by kernel_rfl) (fun h => by cases h)
theorem tok249 : TOk Tryz.prog 249 ti249 := mkT (.nilFunc) (by kernel_rfl) rfl rfl (show (Tryz.prog.underlying 249).map plainB = some true by kernel_rfl) (fun h => by cases h)
theorem tok250 : TOk Tryz.prog 250 ti250 := mkT (.nilFunc) (by kernel_rfl) rfl rfl (show (Tryz.prog.underlying 250).map plainB = some true by kernel_rfl) (fun h => by cases h)
theorem tok251 : TOk Tryz.prog 251 ti251 := mkT (.nilFunc) (by kernel_rfl) rfl rfl (show (Tryz.prog.underlying 251).map plainB = some true by kernel_rfl) (fun h => by cases h)
theorem tok252 : TOk Tryz.prog 252 ti252 := mkT (.nilFunc) (by kernel_rfl) rfl rfl (show (Tryz.prog.underlying 252).map plainB = some true by kernel_rfl) (fun h => by cases h)
theorem tok253 : TOk Tryz.prog 253 ti253 := mkT (.nilFunc) (by kernel_rfl) rfl rfl (show (Tryz.prog.underlying 253).map plainB = some true by kernel_rfl) (fun h => by cases h)
theorem tok254 : TOk Tryz.prog 254 ti254 := mkT (.nilFunc) (by kernel_rfl) rfl rfl (show (Tryz.prog.underlying 254).map plainB = some true by kernel_rfl) (fun h => by cases h)
theorem tok255 : TOk Tryz.prog 255 ti255 := mkT (.nilFunc) (by kernel_rfl) rfl rfl (show (Tryz.prog.underlying 255).map plainB = some true by kernel_rfl) (fun h => by cases h)
theorem tok256 : TOk Tryz.prog 256 ti256 := mkT (.nilFunc) (by kernel_rfl) rfl rfl (show (Tryz.prog.underlying 256).map plainB = some true by kernel_rfl) (fun h => by cases h)
theorem tok257 : TOk Tryz.prog 257 ti257 := mkT (.nilFunc) (by kernel_rfl) rfl rfl (show (Tryz.prog.underlying 257).map plainB = some true by kernel_rfl) (fun h => by cases h)
theorem tok258 : TOk Tryz.prog 258 ti258 := mkT (.nilFunc) (by kernel_rfl) rfl rfl (show (Tryz.prog.underlying 258).map plainB = some true by kernel_rfl) (fun h => by cases h)
theorem tok259 : TOk Tryz.prog 259 ti259 := mkT (.nilFunc) (by kernel_rfl) rfl rfl (show (Tryz.prog.underlying 259).map plainB = some true by kernel_rfl) (fun h => by cases h)
theorem tok260 : TOk Tryz.prog 260 ti260 := mkT (.nilFunc) (by kernel_rfl) rfl rfl (show (Tryz.prog.underlying 260).map plainB = some true by kernel_rfl) (fun h => by cases h)
theorem tok261 : TOk Tryz.prog 261 ti261 := mkT (.nilFunc) (by kernel_rfl) rfl rfl (show (Tryz.prog.underlying 261).map plainB = some true by kernel_rfl) (fun h => by cases h)
theorem tok262 : TOk Tryz.prog 262 ti262 := mkT (.nilFunc) (by kernel_rfl) rfl rfl (show (Tryz.prog.underlying 262).map plainB = some true by kernel_rfl) (fun h => by cases h)
theorem tok263 : TOk Tryz.prog 263 ti263 := mkT (.nilFunc) (by kernel_rfl) rfl rfl (show (Tryz.prog.underlying 263).map plainB = some true by kernel_rfl) (fun h => by cases h)
theorem tok264 : TOk Tryz.prog 264 ti264 := mkT (.nilFunc) (by kernel_rfl) rfl rfl (show (Tryz.prog.underlying 264).map plainB = some true by kernel_rfl) (fun h => by cases h)
theorem tok265 : TOk Tryz.prog 265 ti265 := mkT (.nilFunc) (by kernel_rfl) rfl rfl (show (Tryz.prog.underlying 265).map plainB = some true by kernel_rfl) (fun h => by cases h)
theorem tok266 : TOk Tryz.prog 266 ti266 := mkT (.nilFunc) (by kernel_rfl) rfl rfl (show (Tryz.prog.underlying 266).map plainB = some true by kernel_rfl) (fun h => by cases h)
theorem tok267 : TOk Tryz.prog 267 ti267 := mkT (.nilFunc) (by kernel_rfl) rfl rfl (show (Tryz.prog.underlying 267).map plainB = some true by kernel_rfl) (fun h => by cases h)
theorem tok268 : TOk Tryz.prog 268 ti268 := mkT (.nilFunc) (by kernel_rfl) rfl rfl (show (Tryz.prog.underlying 268).map plainB = some true by kernel_rfl) (fun h => by cases h)
theorem tok269 : TOk Tryz.prog 269 ti269 := mkT (.nilFunc) (by kernel_rfl) rfl rfl (show (Tryz.prog.underlying 269).map plainB = some true by kernel_rfl) (fun h => by cases h)
theorem tok275 : TOk Tryz.prog 275 ti275 := mkT (.nilFunc) (by kernel_rfl) rfl rfl (show (Tryz.prog.underlying 275).map plainB = some true by kernel_rfl) (fun h => by cases h)
theorem tok278 : TOk Tryz.prog 278 ti278 := mkT (.nilFunc) (by kernel_rfl) rfl rfl (show (Tryz.prog.underlying 278).map plainB = some true by kernel_rfl) (fun h => by cases h)
theorem tok279 : TOk Tryz.prog 279 ti279 := mkT (.pointer none) (by kernel_rfl) rfl rfl (show (Tryz.prog.underlying 279).map plainB = some true by kernel_rfl) (fun h => by cases h)
theorem hT : TypesOk Tryz.prog T := typesOk (show tyAll Tryz.prog tbl from ⟨⟨⟨⟨⟨⟨⟨⟨trivial, tok1, trivial⟩, tok2, ⟨trivial, tok3, trivial⟩⟩, tok4, ⟨⟨trivial, tok5, trivial⟩, tok9, ⟨trivial, tok12, trivial⟩⟩⟩, tok20, ⟨⟨⟨trivial, tok21, trivial⟩, tok22, ⟨trivial, tok23, trivial⟩⟩, tok24, ⟨⟨trivial, tok25, trivial⟩, tok26, ⟨trivial, tok27, trivial⟩⟩⟩⟩, tok28, ⟨⟨⟨⟨trivial, tok29, trivial⟩, tok30, ⟨trivial, tok31, trivial⟩⟩, tok32, ⟨⟨trivial, tok33, trivial⟩, tok34, ⟨trivial, tok35, trivial⟩⟩⟩, tok36, ⟨⟨⟨trivial, tok37, trivial⟩, tok38, ⟨trivial, tok39, trivial⟩⟩, tok40, ⟨⟨trivial, tok42, trivial⟩, tok43, trivial⟩⟩⟩⟩, tok44, ⟨⟨⟨⟨⟨trivial, tok45, trivial⟩, tok46, ⟨trivial, tok47, trivial⟩⟩, tok48, ⟨⟨trivial, tok49, trivial⟩, tok50, ⟨trivial, tok51, trivial⟩⟩⟩, tok53, ⟨⟨⟨trivial, tok54, trivial⟩, tok55, ⟨trivial, tok56, trivial⟩⟩, tok57, ⟨⟨trivial, tok58, trivial⟩, tok60, ⟨trivial, tok61, trivial⟩⟩⟩⟩, tok62, ⟨⟨⟨⟨trivial, tok63, trivial⟩, tok64, ⟨trivial, tok65, trivial⟩⟩, tok66, ⟨⟨trivial, tok67, trivial⟩, tok68, ⟨trivial, tok69, trivial⟩⟩⟩, tok70, ⟨⟨⟨trivial, tok71, trivial⟩, tok72, ⟨trivial, tok73, trivial⟩⟩, tok74, ⟨⟨trivial, tok75, trivial⟩, tok76, trivial⟩⟩⟩⟩⟩, tok77, ⟨⟨⟨⟨⟨⟨trivial, tok78, trivial⟩, tok80, ⟨trivial, tok81, trivial⟩⟩, tok82, ⟨⟨trivial, tok83, trivial⟩, tok84, ⟨trivial, tok85, trivial⟩⟩⟩, tok86, ⟨⟨⟨trivial, tok87, trivial⟩, tok88, ⟨trivial, tok89, trivial⟩⟩, tok90, ⟨⟨trivial, tok91, trivial⟩, tok92, ⟨trivial, tok93, trivial⟩⟩⟩⟩, tok94, ⟨⟨⟨⟨trivial, tok95, trivial⟩, tok96, ⟨trivial, tok97, trivial⟩⟩, tok98, ⟨⟨trivial, tok99, trivial⟩, tok100, ⟨trivial, tok101, trivial⟩⟩⟩, tok102, ⟨⟨⟨trivial, tok103, trivial⟩, tok104, ⟨trivial, tok105, trivial⟩⟩, tok106, ⟨⟨trivial, tok107, trivial⟩, tok108, trivial⟩⟩⟩⟩, tok109, ⟨⟨⟨⟨⟨trivial, tok110, trivial⟩, tok111, ⟨trivial, tok112, trivial⟩⟩, tok113, ⟨⟨trivial, tok114, trivial⟩, tok115, ⟨trivial, tok116, trivial⟩⟩⟩, tok117, ⟨⟨⟨trivial, tok118, trivial⟩, tok119, ⟨trivial, tok120, trivial⟩⟩, tok121, ⟨⟨trivial, tok122, trivial⟩, tok123, ⟨trivial, tok124, trivial⟩⟩⟩⟩, tok125, ⟨⟨⟨⟨trivial, tok127, trivial⟩, tok128, ⟨trivial, tok129, trivial⟩⟩, tok130, ⟨⟨trivial, tok132, trivial⟩, tok133, ⟨trivial, tok134, trivial⟩⟩⟩, tok135, ⟨⟨⟨trivial, tok136, trivial⟩, tok137, ⟨trivial, tok138, trivial⟩⟩, tok139, ⟨⟨trivial, tok141, trivial⟩, tok142, trivial⟩⟩⟩⟩⟩⟩, tok144, ⟨⟨⟨⟨⟨⟨⟨trivial, tok145, trivial⟩, tok146, ⟨trivial, tok147, trivial⟩⟩, tok148, ⟨⟨trivial, tok149, trivial⟩, tok150, ⟨trivial, tok151, trivial⟩⟩⟩, tok152, ⟨⟨⟨trivial, tok153, trivial⟩, tok154, ⟨trivial, tok155, trivial⟩⟩, tok156, ⟨⟨trivial, tok157, trivial⟩, tok158, ⟨trivial, tok159, trivial⟩⟩⟩⟩, tok160, ⟨⟨⟨⟨trivial, tok161, trivial⟩, tok162, ⟨trivial, tok164, trivial⟩⟩, tok165, ⟨⟨trivial, tok166, trivial⟩, tok167, ⟨trivial, tok168, trivial⟩⟩⟩, tok169, ⟨⟨⟨trivial, tok170, trivial⟩, tok172, ⟨trivial, tok173, trivial⟩⟩, tok174, ⟨⟨trivial, tok175, trivial⟩, tok176, trivial⟩⟩⟩⟩, tok177, ⟨⟨⟨⟨⟨trivial, tok178, trivial⟩, tok179, ⟨trivial, tok180, trivial⟩⟩, tok181, ⟨⟨trivial, tok182, trivial⟩, tok183, ⟨trivial, tok184, trivial⟩⟩⟩, tok185, ⟨⟨⟨trivial, tok186, trivial⟩, tok187, ⟨trivial, tok188, trivial⟩⟩, tok189, ⟨⟨trivial, tok190, trivial⟩, tok191, ⟨trivial, tok192, trivial⟩⟩⟩⟩, tok193, ⟨⟨⟨⟨trivial, tok194, trivial⟩, tok195, ⟨trivial, tok197, trivial⟩⟩, tok198, ⟨⟨trivial, tok199, trivial⟩, tok200, ⟨trivial, tok201, trivial⟩⟩⟩, tok202, ⟨⟨⟨trivial, tok203, trivial⟩, tok204, ⟨trivial, tok205, trivial⟩⟩, tok206, ⟨⟨trivial, tok207, trivial⟩, tok208, trivial⟩⟩⟩⟩⟩, tok210, ⟨⟨⟨⟨⟨⟨trivial, tok211, trivial⟩, tok212, ⟨trivial, tok213, trivial⟩⟩, tok214, ⟨⟨trivial, tok215, trivial⟩, tok216, ⟨trivial, tok217, trivial⟩⟩⟩, tok218, ⟨⟨⟨trivial, tok219, trivial⟩, tok220, ⟨trivial, tok221, trivial⟩⟩, tok222, ⟨⟨trivial, tok223, trivial⟩, tok224, ⟨trivial, tok225, trivial⟩⟩⟩⟩, tok226, ⟨⟨⟨⟨trivial, tok227, trivial⟩, tok228, ⟨trivial, tok229, trivial⟩⟩, tok231, ⟨⟨trivial, tok232, trivial⟩, tok233, ⟨trivial, tok234, trivial⟩⟩⟩, tok235, ⟨⟨⟨trivial, tok236, trivial⟩, tok237, ⟨trivial, tok238, trivial⟩⟩, tok239, ⟨⟨trivial, tok240, trivial⟩, tok241, trivial⟩⟩⟩⟩, tok242, ⟨⟨⟨⟨⟨trivial, tok243, trivial⟩, tok244, ⟨trivial, tok245, trivial⟩⟩, tok246, ⟨⟨trivial, tok247, trivial⟩, tok248, ⟨trivial, tok249, trivial⟩⟩⟩, tok250, ⟨⟨⟨trivial, tok251, trivial⟩, tok252, ⟨trivial, tok253, trivial⟩⟩, tok254, ⟨⟨trivial, tok255, trivial⟩, tok256, ⟨trivial, tok257, trivial⟩⟩⟩⟩, tok258, ⟨⟨⟨⟨trivial, tok259, trivial⟩, tok260, ⟨trivial, tok261, trivial⟩⟩, tok262, ⟨⟨trivial, tok263, trivial⟩, tok264, ⟨trivial, tok265, trivial⟩⟩⟩, tok266, ⟨⟨⟨trivial, tok267, trivial⟩, tok268, ⟨trivial, tok269, trivial⟩⟩, tok275, ⟨⟨trivial, tok278, trivial⟩, tok279, trivial⟩⟩⟩⟩⟩⟩⟩)
theorem hmix : Tryz.prog.follows .mixedOrders = true := by kernel_rfl
instance tcI : TC Tryz.prog T := ⟨hT, hmix⟩
instance mt137 : MapTy Tryz.prog 137 9 3 := ⟨by kernel_rfl⟩
instance ko9 : KeyOk Tryz.prog 9 IsStr := keyStr (by kernel_rfl)
instance zv3 : ZeroV Tryz.prog 3 (.one (.lit (.int .i64 0))) := zeroV_lit (by kernel_rfl) rfl
instance mt195 : MapTy Tryz.prog 195 9 198 := ⟨by kernel_rfl⟩
instance zv198 : ZeroV Tryz.prog 198 (.one (.sl [])) := zeroV_nil (by kernel_rfl)
instance mt202 : MapTy Tryz.prog 202 9 2 := ⟨by kernel_rfl⟩
instance zv2 : ZeroV Tryz.prog 2 (.one (.lit (.int .i64 0))) := zeroV_lit (by kernel_rfl) rfl
end Go.Proofs.YtmpgmjlanngkfaaGreat
