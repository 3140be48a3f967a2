/-
  How values and rows are compared.
-/
import Derived.Test.YtmpgmjlanngkfaaGreatEqs
import Derived.Test.YtmpgmjlanngkfaaGreatProg
import Derived.Lib.Strings
import Derived.Lib.Slices
import Derived.Lib.Walk
import Derived.Lib.Bytealg
section
namespace Go.Proofs.YtmpgmjlanngkfaaGreat
open Go.Abs
def ab : TI := { size := 1, bytes := 8, zero := [.int .i64 0], desc := .int .i64 }
def ac : TI := { size := 1, bytes := 8, zero := [.int .i64 0], desc := .int .i64 }
def ad : TI := { size := 1, bytes := 1, zero := [.bool false], desc := .bool }
def ae : TI := { size := 1, bytes := 1, zero := [.int .u8 0], desc := .int .u8 }
def af : TI := { size := 1, bytes := 16, zero := [.string ⟨#[]⟩], desc := .str }
def Za : TI := { size := 1, bytes := 24, zero := [.slice none 0 0], desc := .slice 3 }
def Zb : TI := { size := 1, bytes := 24, zero := [.slice none 0 0], desc := .slice 66 }
def Zc : TI := { size := 1, bytes := 24, zero := [.slice none 0 0], desc := .slice 109 }
def Zd : TI := { size := 1, bytes := 24, zero := [.slice none 0 0], desc := .slice 86 }
def Ze : TI := { size := 1, bytes := 24, zero := [.slice none 0 0], desc := .slice 49 }
def Zf : TI := { size := 9, bytes := 160, zero := [.string ⟨#[]⟩, .int .i64 0, .string ⟨#[]⟩, .string ⟨#[]⟩, .slice none 0 0, .slice none 0 0, .slice none 0 0, .bool false, .slice none 0 0], desc := .struct [(0, 9), (1, 3), (2, 9), (3, 9), (4, 25), (5, 26), (6, 27), (7, 4), (8, 28)] }
def Zg : TI := { size := 1, bytes := 24, zero := [.slice none 0 0], desc := .slice 56 }
def Zh : TI := { size := 3, bytes := 48, zero := [.string ⟨#[]⟩, .int .i64 0, .slice none 0 0], desc := .struct [(0, 9), (1, 3), (2, 26)] }
def Zi : TI := { size := 1, bytes := 24, zero := [.slice none 0 0], desc := .slice 54 }
def Zj : TI := { size := 1, bytes := 24, zero := [.slice none 0 0], desc := .slice 73 }
def HN : TI := { size := 2, bytes := 32, zero := [.slice none 0 0, .int .i64 0], desc := .struct [(0, 54), (1, 2)] }
def Zk : TI := { size := 1, bytes := 24, zero := [.slice none 0 0], desc := .slice 100 }
def Zl : TI := { size := 2, bytes := 32, zero := [.slice none 0 0, .int .i64 0], desc := .struct [(0, 22), (1, 3)] }
def V2 : TI := { size := 2, bytes := 16, zero := [.int .i64 0, .int .i64 0], desc := .array 2 3 }
def Zm : TI := { size := 1, bytes := 24, zero := [.slice none 0 0], desc := .slice 2 }
def RS : TI := { size := 3, bytes := 32, zero := [.int .i64 0, .int .i64 0, .string ⟨#[]⟩], desc := .struct [(0, 3), (1, 2), (2, 9)], eqs := true }
def V3 : TI := { size := 2, bytes := 40, zero := [.string ⟨#[]⟩, .slice none 0 0], desc := .struct [(0, 9), (1, 26)] }
def Zn : TI := { size := 1, bytes := 24, zero := [.slice none 0 0], desc := .slice 98 }
def V4 : TI := { size := 2, bytes := 48, zero := [.slice none 0 0, .slice none 0 0], desc := .struct [(0, 54), (1, 32)] }
def WE : TI := { size := 4, bytes := 80, zero := [.slice none 0 0, .int .i64 0, .slice none 0 0, .slice none 0 0], desc := .struct [(0, 54), (1, 2), (2, 71), (3, 71)] }
def WF : TI := { size := 1, bytes := 8, zero := [.int .u64 0], desc := .int .u64 }
def WG : TI := { size := 5, bytes := 48, zero := [.int .i64 0, .int .i64 0, .int .i64 0, .string ⟨#[]⟩, .int .i64 0], desc := .struct [(0, 3), (1, 73), (4, 3)] }
def WH : TI := { size := 1, bytes := 24, zero := [.slice none 0 0], desc := .slice 9 }
def WI : TI := { size := 1, bytes := 24, zero := [.slice none 0 0], desc := .slice 26 }
def WJ : TI := { size := 1, bytes := 24, zero := [.slice none 0 0], desc := .slice 5 }
def WK : TI := { size := 1, bytes := 8, zero := [.map none], desc := .plain }
def WL : TI := { size := 1, bytes := 24, zero := [.slice none 0 0], desc := .slice 186 }
def WM : TI := { size := 9, bytes := 96, zero := [.int .i64 0, .int .i64 0, .string ⟨#[]⟩, .int .i64 0, .int .i64 0, .string ⟨#[]⟩, .int .i64 0, .int .i64 0, .string ⟨#[]⟩], desc := .array 3 73 }
def ti186 : TI := { size := 4, bytes := 40, zero := [.int .i64 0, .int .i64 0, .string ⟨#[]⟩, .int .i64 0], desc := .struct [(0, 73), (3, 2)] }
def WN : TI := { size := 1, bytes := 8, zero := [.map none], desc := .plain }
def WO : TI := { size := 1, bytes := 24, zero := [.slice none 0 0], desc := .slice 200 }
def WP : TI := { size := 2, bytes := 24, zero := [.string ⟨#[]⟩, .int .i64 0], desc := .struct [(0, 9), (1, 2)], eqs := true }
def WQ : TI := { size := 1, bytes := 8, zero := [.map none], desc := .plain }
def WR : TI := { size := 1, bytes := 24, zero := [.slice none 0 0], desc := .slice 232 }
def WS : TI := { size := 3, bytes := 56, zero := [.slice none 0 0, .map none, .slice none 0 0], desc := .struct [(0, 203), (1, 202), (2, 198)] }
def WT : TI := { size := 3, bytes := 56, zero := [.slice none 0 0, .map none, .slice none 0 0], desc := .struct [(0, 203), (1, 202), (2, 198)] }
def WU : TI := { size := 2, bytes := 40, zero := [.string ⟨#[]⟩, .slice none 0 0], desc := .struct [(0, 9), (1, 113)] }
def ah : TTree := (.node (.node (.node (.node (.node (.node .nil 2 ab .nil) 3 ac .nil) 4 ad (.node (.node .nil 5 ae .nil) 9 af .nil)) 22 Za (.node (.node (.node .nil 25 Zb .nil) 26 Zc .nil) 27 Zd (.node .nil 28 Ze .nil))) 30 Zf (.node (.node (.node (.node .nil 32 Zg .nil) 49 Zh .nil) 51 Zi (.node (.node .nil 54 Zj .nil) 56 HN .nil)) 58 Zk (.node (.node (.node .nil 64 Zl .nil) 66 V2 .nil) 71 Zm (.node .nil 73 RS .nil)))) 86 V3 (.node (.node (.node (.node (.node .nil 95 Zn .nil) 98 V4 .nil) 100 WE (.node (.node .nil 106 WF .nil) 109 WG .nil)) 113 WH (.node (.node (.node .nil 116 WI .nil) 125 WJ .nil) 137 WK (.node .nil 145 WL .nil))) 165 WM (.node (.node (.node (.node .nil 186 ti186 .nil) 195 WN .nil) 198 WO (.node .nil 200 WP .nil)) 202 WQ (.node (.node (.node .nil 203 WR .nil) 204 WS .nil) 205 WT (.node .nil 232 WU .nil)))))
def T : TypeId → Option TI := Jk ah
theorem ZV : TOk Tryz.prog 2 ab := EE (.int .i64 0) (by kernel_rfl) rfl rfl (show Tryz.prog.underlying 2 = some (.int .i64) by kernel_rfl) (fun h => by cases h)
theorem ZW : TOk Tryz.prog 3 ac := EE (.int .i64 0) (by kernel_rfl) rfl rfl (show Tryz.prog.underlying 3 = some (.int .i64) by kernel_rfl) (fun h => by cases h)
theorem ZX : TOk Tryz.prog 4 ad := EE (.bool false) (by kernel_rfl) rfl rfl (show Tryz.prog.underlying 4 = some (.bool) by kernel_rfl) (fun h => by cases h)
theorem ZY : TOk Tryz.prog 5 ae := EE (.int .u8 0) (by kernel_rfl) rfl rfl (show Tryz.prog.underlying 5 = some (.int .u8) by kernel_rfl) (fun h => by cases h)
theorem ZZ : TOk Tryz.prog 9 af := EE (.string ⟨#[]⟩) (by kernel_rfl) rfl rfl (show Tryz.prog.underlying 9 = some (.string) by kernel_rfl) (fun h => by cases h)
theorem Zo : TOk Tryz.prog 22 Za := EE (.slice none 0 0) (by kernel_rfl) rfl rfl (show Tryz.prog.underlying 22 = some (.slice 3) by kernel_rfl) (fun h => by cases h)
theorem Zp : TOk Tryz.prog 25 Zb := EE (.slice none 0 0) (by kernel_rfl) rfl rfl (show Tryz.prog.underlying 25 = some (.slice 66) by kernel_rfl) (fun h => by cases h)
theorem Zq : TOk Tryz.prog 26 Zc := EE (.slice none 0 0) (by kernel_rfl) rfl rfl (show Tryz.prog.underlying 26 = some (.slice 109) by kernel_rfl) (fun h => by cases h)
theorem Zr : TOk Tryz.prog 27 Zd := EE (.slice none 0 0) (by kernel_rfl) rfl rfl (show Tryz.prog.underlying 27 = some (.slice 86) by kernel_rfl) (fun h => by cases h)
theorem Zs : TOk Tryz.prog 28 Ze := EE (.slice none 0 0) (by kernel_rfl) rfl rfl (show Tryz.prog.underlying 28 = some (.slice 49) by kernel_rfl) (fun h => by cases h)
theorem Zt : TOk Tryz.prog 30 Zf := EE (.agg #[.string ⟨#[]⟩, .int .i64 0, .string ⟨#[]⟩, .string ⟨#[]⟩, .slice none 0 0, .slice none 0 0, .slice none 0 0, .bool false, .slice none 0 0]) (by kernel_rfl) rfl rfl (show (Tryz.prog.underlying 30).map Bn = some (some [(0, 9), (1, 3), (2, 9), (3, 9), (4, 25), (5, 26), (6, 27), (7, 4), (8, 28)]) by kernel_rfl) (fun h => by cases h)
theorem Zu : TOk Tryz.prog 32 Zg := EE (.slice none 0 0) (by kernel_rfl) rfl rfl (show Tryz.prog.underlying 32 = some (.slice 56) by kernel_rfl) (fun h => by cases h)
theorem Zv : TOk Tryz.prog 49 Zh := EE (.agg #[.string ⟨#[]⟩, .int .i64 0, .slice none 0 0]) (by kernel_rfl) rfl rfl (show (Tryz.prog.underlying 49).map Bn = some (some [(0, 9), (1, 3), (2, 26)]) by kernel_rfl) (fun h => by cases h)
theorem Zw : TOk Tryz.prog 51 Zi := EE (.slice none 0 0) (by kernel_rfl) rfl rfl (show Tryz.prog.underlying 51 = some (.slice 54) by kernel_rfl) (fun h => by cases h)
theorem Zx : TOk Tryz.prog 54 Zj := EE (.slice none 0 0) (by kernel_rfl) rfl rfl (show Tryz.prog.underlying 54 = some (.slice 73) by kernel_rfl) (fun h => by cases h)
theorem Zy : TOk Tryz.prog 56 HN := EE (.agg #[.slice none 0 0, .int .i64 0]) (by kernel_rfl) rfl rfl (show (Tryz.prog.underlying 56).map Bn = some (some [(0, 54), (1, 2)]) by kernel_rfl) (fun h => by cases h)
theorem Zz : TOk Tryz.prog 58 Zk := EE (.slice none 0 0) (by kernel_rfl) rfl rfl (show Tryz.prog.underlying 58 = some (.slice 100) by kernel_rfl) (fun h => by cases h)
theorem ZA : TOk Tryz.prog 64 Zl := EE (.agg #[.slice none 0 0, .int .i64 0]) (by kernel_rfl) rfl rfl (show (Tryz.prog.underlying 64).map Bn = some (some [(0, 22), (1, 3)]) by kernel_rfl) (fun h => by cases h)
theorem ZB : TOk Tryz.prog 66 V2 := EE (.agg #[.int .i64 0, .int .i64 0]) (by kernel_rfl) rfl rfl (show Tryz.prog.underlying 66 = some (.array 2 3) by kernel_rfl) (fun h => by cases h)
theorem ZC : TOk Tryz.prog 71 Zm := EE (.slice none 0 0) (by kernel_rfl) rfl rfl (show Tryz.prog.underlying 71 = some (.slice 2) by kernel_rfl) (fun h => by cases h)
theorem ZD : TOk Tryz.prog 73 RS := EE (.agg #[.int .i64 0, .int .i64 0, .string ⟨#[]⟩]) (by kernel_rfl) rfl rfl (show (Tryz.prog.underlying 73).map Bn = some (some [(0, 3), (1, 2), (2, 9)]) by kernel_rfl) (fun _ => YE (by kernel_rfl) (by kernel_rfl) (by kernel_rfl) (by kernel_rfl))
theorem ZE : TOk Tryz.prog 86 V3 := EE (.agg #[.string ⟨#[]⟩, .slice none 0 0]) (by kernel_rfl) rfl rfl (show (Tryz.prog.underlying 86).map Bn = some (some [(0, 9), (1, 26)]) by kernel_rfl) (fun h => by cases h)
theorem ZF : TOk Tryz.prog 95 Zn := EE (.slice none 0 0) (by kernel_rfl) rfl rfl (show Tryz.prog.underlying 95 = some (.slice 98) by kernel_rfl) (fun h => by cases h)
theorem ZG : TOk Tryz.prog 98 V4 := EE (.agg #[.slice none 0 0, .slice none 0 0]) (by kernel_rfl) rfl rfl (show (Tryz.prog.underlying 98).map Bn = some (some [(0, 54), (1, 32)]) by kernel_rfl) (fun h => by cases h)
theorem Yf : TOk Tryz.prog 100 WE := EE (.agg #[.slice none 0 0, .int .i64 0, .slice none 0 0, .slice none 0 0]) (by kernel_rfl) rfl rfl (show (Tryz.prog.underlying 100).map Bn = some (some [(0, 54), (1, 2), (2, 71), (3, 71)]) by kernel_rfl) (fun h => by cases h)
theorem Yg : TOk Tryz.prog 106 WF := EE (.int .u64 0) (by kernel_rfl) rfl rfl (show Tryz.prog.underlying 106 = some (.int .u64) by kernel_rfl) (fun h => by cases h)
theorem Yh : TOk Tryz.prog 109 WG := EE (.agg #[.int .i64 0, .int .i64 0, .int .i64 0, .string ⟨#[]⟩, .int .i64 0]) (by kernel_rfl) rfl rfl (show (Tryz.prog.underlying 109).map Bn = some (some [(0, 3), (1, 73), (4, 3)]) by kernel_rfl) (fun h => by cases h)
theorem Yi : TOk Tryz.prog 113 WH := EE (.slice none 0 0) (by kernel_rfl) rfl rfl (show Tryz.prog.underlying 113 = some (.slice 9) by kernel_rfl) (fun h => by cases h)
theorem Yj : TOk Tryz.prog 116 WI := EE (.slice none 0 0) (by kernel_rfl) rfl rfl (show Tryz.prog.underlying 116 = some (.slice 26) by kernel_rfl) (fun h => by cases h)
theorem Yk : TOk Tryz.prog 125 WJ := EE (.slice none 0 0) (by kernel_rfl) rfl rfl (show Tryz.prog.underlying 125 = some (.slice 5) by kernel_rfl) (fun h => by cases h)
theorem Yl : TOk Tryz.prog 137 WK := EE (.map none) (by kernel_rfl) rfl rfl (show (Tryz.prog.underlying 137).map Jj = some true by kernel_rfl) (fun h => by cases h)
theorem Ym : TOk Tryz.prog 145 WL := EE (.slice none 0 0) (by kernel_rfl) rfl rfl (show Tryz.prog.underlying 145 = some (.slice 186) by kernel_rfl) (fun h => by cases h)
theorem Yn : TOk Tryz.prog 165 WM := EE (.agg #[.int .i64 0, .int .i64 0, .string ⟨#[]⟩, .int .i64 0, .int .i64 0, .string ⟨#[]⟩, .int .i64 0, .int .i64 0, .string ⟨#[]⟩]) (by kernel_rfl) rfl rfl (show Tryz.prog.underlying 165 = some (.array 3 73) by kernel_rfl) (fun h => by cases h)
theorem Yo : TOk Tryz.prog 186 ti186 := EE (.agg #[.int .i64 0, .int .i64 0, .string ⟨#[]⟩, .int .i64 0]) (by kernel_rfl) rfl rfl (show (Tryz.prog.underlying 186).map Bn = some (some [(0, 73), (3, 2)]) by kernel_rfl) (fun h => by cases h)
theorem Yp : TOk Tryz.prog 195 WN := EE (.map none) (by kernel_rfl) rfl rfl (show (Tryz.prog.underlying 195).map Jj = some true by kernel_rfl) (fun h => by cases h)
theorem Yq : TOk Tryz.prog 198 WO := EE (.slice none 0 0) (by kernel_rfl) rfl rfl (show Tryz.prog.underlying 198 = some (.slice 200) by kernel_rfl) (fun h => by cases h)
theorem Yr : TOk Tryz.prog 200 WP := EE (.agg #[.string ⟨#[]⟩, .int .i64 0]) (by kernel_rfl) rfl rfl (show (Tryz.prog.underlying 200).map Bn = some (some [(0, 9), (1, 2)]) by kernel_rfl) (fun _ => YE (by kernel_rfl) (by kernel_rfl) (by kernel_rfl) (by kernel_rfl))
theorem Ys : TOk Tryz.prog 202 WQ := EE (.map none) (by kernel_rfl) rfl rfl (show (Tryz.prog.underlying 202).map Jj = some true by kernel_rfl) (fun h => by cases h)
theorem Yt : TOk Tryz.prog 203 WR := EE (.slice none 0 0) (by kernel_rfl) rfl rfl (show Tryz.prog.underlying 203 = some (.slice 232) by kernel_rfl) (fun h => by cases h)
theorem Yu : TOk Tryz.prog 204 WS := EE (.agg #[.slice none 0 0, .map none, .slice none 0 0]) (by kernel_rfl) rfl rfl (show (Tryz.prog.underlying 204).map Bn = some (some [(0, 203), (1, 202), (2, 198)]) by kernel_rfl) (fun h => by cases h)
theorem Yv : TOk Tryz.prog 205 WT := EE (.agg #[.slice none 0 0, .map none, .slice none 0 0]) (by kernel_rfl) rfl rfl (show (Tryz.prog.underlying 205).map Bn = some (some [(0, 203), (1, 202), (2, 198)]) by kernel_rfl) (fun h => by cases h)
theorem Yw : TOk Tryz.prog 232 WU := EE (.agg #[.string ⟨#[]⟩, .slice none 0 0]) (by kernel_rfl) rfl rfl (show (Tryz.prog.underlying 232).map Bn = some (some [(0, 9), (1, 113)]) by kernel_rfl) (fun h => by cases h)
theorem hT : AE Tryz.prog T := UI (show PH Tryz.prog ah from ⟨⟨⟨⟨⟨⟨trivial, ZV, trivial⟩, ZW, trivial⟩, ZX, ⟨⟨trivial, ZY, trivial⟩, ZZ, trivial⟩⟩, Zo, ⟨⟨⟨trivial, Zp, trivial⟩, Zq, trivial⟩, Zr, ⟨trivial, Zs, trivial⟩⟩⟩, Zt, ⟨⟨⟨⟨trivial, Zu, trivial⟩, Zv, trivial⟩, Zw, ⟨⟨trivial, Zx, trivial⟩, Zy, trivial⟩⟩, Zz, ⟨⟨⟨trivial, ZA, trivial⟩, ZB, trivial⟩, ZC, ⟨trivial, ZD, trivial⟩⟩⟩⟩, ZE, ⟨⟨⟨⟨⟨trivial, ZF, trivial⟩, ZG, trivial⟩, Yf, ⟨⟨trivial, Yg, trivial⟩, Yh, trivial⟩⟩, Yi, ⟨⟨⟨trivial, Yj, trivial⟩, Yk, trivial⟩, Yl, ⟨trivial, Ym, trivial⟩⟩⟩, Yn, ⟨⟨⟨⟨trivial, Yo, trivial⟩, Yp, trivial⟩, Yq, ⟨trivial, Yr, trivial⟩⟩, Ys, ⟨⟨⟨trivial, Yt, trivial⟩, Yu, trivial⟩, Yv, ⟨trivial, Yw, trivial⟩⟩⟩⟩⟩)
theorem Yx : Tryz.prog.follows .mixedOrders = true := by kernel_rfl
instance tcI : TC Tryz.prog T := ⟨hT, Yx⟩
instance mt137 : MapTy Tryz.prog 137 9 3 := ⟨by kernel_rfl⟩
instance ko9 : KeyOk Tryz.prog 9 IK := XN (by kernel_rfl)
instance zv3 : ZeroV Tryz.prog 3 (.one (.lit (.int .i64 0))) := Ld (by kernel_rfl) rfl
instance mt195 : MapTy Tryz.prog 195 9 198 := ⟨by kernel_rfl⟩
instance zv198 : ZeroV Tryz.prog 198 (.one (.sl [])) := RB (by kernel_rfl)
instance mt202 : MapTy Tryz.prog 202 9 2 := ⟨by kernel_rfl⟩
instance zv2 : ZeroV Tryz.prog 2 (.one (.lit (.int .i64 0))) := Ld (by kernel_rfl) rfl
end Go.Proofs.YtmpgmjlanngkfaaGreat
end
section
namespace Go.Proofs.YtmpgmjlanngkfaaGreat
open Go.Abs Go.RowKit
attribute [local irreducible] ARun At MCall PCall HCall Am SF CF CFs Ah Aj Ar fin AW VLe
set_option linter.unusedSimpArgs false
set_option maxRecDepth 100000
structure Val where
 kind : Int
 int : Int
 text : ByteArray
def Val.d (v : Val) : List Dat := [.lit (.int .i64 v.kind), .lit (.int .i64 v.int), .lit (.string v.text)]
def Val.valid (v : Val) : Bool :=
 if v.kind = 0 then decide (v.int = 0) && v.text.toList.isEmpty
 else if v.kind = 1 then decide (-4294967296 ≤ v.int) && decide (v.int ≤ 4294967296) && v.text.toList.isEmpty
 else if v.kind = 2 then decide (v.int = 0) && decide (v.text.size ≤ 32)
 else false
theorem EV (s : ByteArray) : (s.toList == ({ data := #[] } : ByteArray).toList) = s.toList.isEmpty := by
 have : ({ data := #[] } : ByteArray).toList = [] := by rw [ByteArray.toList_eq]
 rw [this]
 cases s.toList <;> rfl
theorem Ja (v : Val) : PCall Tryz.prog 179 [.agg v.d] (.v (.one (.lit (.bool v.valid)))) := by
 refine Ac hT Tryz.func179 Tryz.ntmps179 [.tmp 2] fun B => ?_
 repeat' (first | refine kz ?_ | refine Au rfl (fun hb => ?_) (fun hb => ?_) | refine Ai rfl rfl (fun hb => ?_) (fun hb => ?_) | refine kf ?_ | fail)
 all_goals (refine congrArg Dat.lit (congrArg Value.bool ?_); simp_all [Val.valid, EV])
 all_goals (intros; omega)
def Val.null : Val := ⟨0, 0, ⟨#[]⟩⟩
def Val.clean (v : Val) : Val := if v.valid then v else Val.null
theorem HO (v : Val) : PCall Tryz.prog 172 [.agg v.d] (.v (.agg v.clean.d)) := by
 refine Ac hT Tryz.func172 Tryz.ntmps172 [.cell 2 73] fun B => ?_
 repeat' (first | refine kz ?_ | refine Au rfl (fun hb => ?_) (fun hb => ?_) | refine Aa (Ja _) ?_ | refine kf ?_ | exact k0 | refine kg ?_ ?_ | fail)
 all_goals simp_all [Val.clean, Val.null]
theorem Hc (v : Val) : PCall Tryz.prog 130 [.agg v.d] (.v (.one (.lit (.bool v.valid)))) := by
 refine Ac hT Tryz.func130 Tryz.ntmps130 [.tmp 2] fun B => ?_
 repeat' (first | refine kz ?_ | refine Au rfl (fun hb => ?_) (fun hb => ?_) | refine Ai rfl rfl (fun hb => ?_) (fun hb => ?_) | refine kf ?_ | fail)
 all_goals (refine congrArg Dat.lit (congrArg Value.bool ?_); simp_all [Val.valid, EV])
 all_goals (intros; omega)
theorem Fq (v : Val) : PCall Tryz.prog 140 [.agg v.d] (.v (.agg v.clean.d)) := by
 refine Ac hT Tryz.func140 Tryz.ntmps140 [.cell 2 73] fun B => ?_
 repeat' (first | refine kz ?_ | refine Au rfl (fun hb => ?_) (fun hb => ?_) | refine Aa (Hc _) ?_ | refine kf ?_ | exact k0 | refine kg ?_ ?_ | fail)
 all_goals simp_all [Val.clean, Val.null]
def Val.ofInt (n : Int) : Val := Val.clean ⟨1, n, ⟨#[]⟩⟩
theorem Ba (n : Int) : PCall Tryz.prog 86 [.one (.lit (.int .i64 n))] (.v (.agg (Val.ofInt n).d)) := by
 refine Ac hT Tryz.func86 Tryz.ntmps86 [.cell 2 73] fun B => ?_
 repeat' (first | refine kz ?_ | refine Aa (Fq ⟨1, n, ⟨#[]⟩⟩) ?_ | refine kf ?_ | exact k0 | refine kg ?_ ?_ | fail)
 all_goals rfl
def Gy (a b : Int) : Int := if a < b then -1 else if a > b then 1 else 0
theorem V5 (a : Int) : PCall Tryz.prog 175 [.one (.lit (.int .i64 a))] (.v (.one (.lit (.bool false)))) := by
 refine Ac hT Tryz.func175 Tryz.ntmps175 [.tmp 2] fun B => ?_
 repeat' (first | refine kz ?_ | refine kf ?_ | fail)
 all_goals simp
theorem RT (a : Int) : PCall Tryz.prog 215 [.one (.lit (.int .i64 a))] (.v (.one (.lit (.bool false)))) := by
 refine Ac hT Tryz.func215 Tryz.ntmps215 [.tmp 2] fun B => ?_
 repeat' (first | refine kz ?_ | refine kf ?_ | fail)
 all_goals simp
theorem Ow (a b : Int) : PCall Tryz.prog 112 [.one (.lit (.int .i64 a)), .one (.lit (.int .i64 b))] (.v (.one (.lit (.int .i64 (Gy a b))))) := by
 refine Ac hT Tryz.func112 Tryz.ntmps112 [.tmp 4] fun B => ?_
 repeat' (first | refine kz ?_ | refine Au rfl (fun hb => ?_) (fun hb => ?_) | refine Aa (V5 _) ?_ | refine kf ?_ | fail)
 all_goals (refine congrArg Dat.lit (congrArg (Value.int _) ?_); simp_all [Gy])
 all_goals omega
theorem Pz (a b : Int) : PCall Tryz.prog 173 [.one (.lit (.int .i64 a)), .one (.lit (.int .i64 b))] (.v (.one (.lit (.int .i64 (Gy a b))))) := by
 refine Ac hT Tryz.func173 Tryz.ntmps173 [.tmp 4] fun B => ?_
 repeat' (first | refine kz ?_ | refine Au rfl (fun hb => ?_) (fun hb => ?_) | refine Aa (RT _) ?_ | refine kf ?_ | fail)
 all_goals (refine congrArg Dat.lit (congrArg (Value.int _) ?_); simp_all [Gy])
 all_goals omega
end Go.Proofs.YtmpgmjlanngkfaaGreat
end
section
namespace Go.Proofs.YtmpgmjlanngkfaaGreat
open Go.Abs Go.RowKit
set_option linter.unusedSimpArgs false
set_option maxRecDepth 100000
set_option maxHeartbeats 1000000 in
theorem H0 (a b : ByteArray) (w : World) :
  Calls Tryz.prog 216 #[.string a, .string b] w fun e w' => e = .returned (.int .i64 (Lib.compareBytes a.data.toList b.data.toList)) ∧ w' = w := by
 go_enter Tryz.func216, Tryz.ntmps216
 go_wp2
 rw [run_callFunc_extern Tryz.func244 (by kernel_rfl) (by kernel_rfl) (by kernel_rfl) (e := Extern.BytealgCompare.compare) (by kernel_rfl), Lib.run_compareString]
 simp only [Result.andThen]
 rw [Oper.upon_value]
 go_wp2
 go_ret
 exact ⟨rfl, rfl⟩
def SJ (a b : ByteArray) : Int := Lib.compareBytes a.toList b.toList
theorem IV (a b : ByteArray) : PCall Tryz.prog 216 [.one (.lit (.string a)), .one (.lit (.string b))] (.v (.one (.lit (.int .i64 (SJ a b))))) := by
 refine ⟨⟨_, Tryz.func216, by kernel_rfl, by kernel_rfl⟩, fun F w vs hF hl hv => ?_⟩
 match vs, hl with
 | [x, y], _ =>
   clear hl
   have h1 := (hv 0 x _ rfl rfl)
   have h2 := (hv 1 y _ rfl rfl)
   clear hv
   obtain rfl := h1.lit_inv
   obtain rfl := h2.lit_inv
   refine Calls.mono (H0 a b w) fun e w' he => ?_
   obtain ⟨rfl, rfl⟩ := he
   refine ⟨_, rfl, Bel.refl _ _, .c (.d ?_)⟩
   rw [SJ, ByteArray.toList_eq, ByteArray.toList_eq]
   exact .lit _ rfl
attribute [local irreducible] ARun At MCall PCall HCall Am SF CF CFs Ah Aj Ar fin AW VLe
theorem H1 (a b : ByteArray) : PCall Tryz.prog 174 [.one (.lit (.string a)), .one (.lit (.string b))] (.v (.one (.lit (.int .i64 (SJ a b))))) := by
 refine Ac hT Tryz.func174 Tryz.ntmps174 [.tmp 4] fun B => ?_
 repeat' (first | refine kz ?_ | refine Aa (IV _ _) ?_ | refine kf ?_ | fail)
 all_goals rfl
theorem Fv : ∀ (x y : List UInt8), Lib.compareBytes x y = if x == y then 0 else if Op.bytesLess x y then -1 else 1
 | [], [] => by simp [Lib.compareBytes]
 | [], _ :: _ => by simp [Lib.compareBytes, Op.bytesLess]
 | _ :: _, [] => by simp [Lib.compareBytes, Op.bytesLess]
 | a :: x, b :: y => by
   simp only [Lib.compareBytes, Op.bytesLess, Fv x y, List.cons_beq_cons, beq_iff_eq]
   by_cases h : a < b
   ·have : ¬ a = b := fun e => by subst e; exact absurd h (UInt8.lt_irrefl a)
    simp [h, this]
   ·by_cases h2 : b < a
    ·have : ¬ a = b := fun e => by subst e; exact absurd h2 (UInt8.lt_irrefl a)
     simp [h, h2, this]
    ·have : a = b := UInt8.le_antisymm (UInt8.not_lt.1 h2) (UInt8.not_lt.1 h)
     subst this
     simp [h]
def Val.same (a b : Val) : Bool := (a.kind == b.kind) && ((a.int == b.int) && (a.text.toList == b.text.toList))
def Val.less (a b : Val) : Bool := decide (a.kind < b.kind) || ((a.kind == b.kind) && (decide (a.int < b.int) || Op.bytesLess a.text.toList b.text.toList))
def Val.cmp (a b : Val) : Int := if a.clean.same b.clean then 0 else if a.clean.less b.clean then -1 else 1
theorem AR (v : Val) : v.clean.valid = true := by
 unfold Val.clean
 split
 ·assumption
 ·simp [Val.null, Val.valid]
theorem C5 {v : Val} (h : v.valid = true) (hk : v.kind ≠ 2) : v.text.toList = [] := by
 unfold Val.valid at h
 split at h
 ·simp at h; exact h.2
 ·split at h
  ·simp at h; exact h.2
  ·simp [hk] at h
theorem DQ {v : Val} (h : v.valid = true) (hk : v.kind ≠ 1) : v.int = 0 := by
 unfold Val.valid at h
 rw [if_neg hk] at h
 split at h
 ·simp at h; exact h.1
 ·split at h
  ·simp at h; exact h.1
  ·simp at h
theorem QO {x y : Val} (h : ¬ x.kind = y.kind) : Gy x.kind y.kind = if x.same y = true then 0 else if x.less y = true then -1 else 1 := by
 simp only [Gy, Val.same, Val.less, beq_false_of_ne h, Bool.false_and, Bool.or_false, decide_eq_true_eq, Bool.false_eq_true, if_false]
 split
 ·rfl
 ·rw [if_pos (by omega)]
theorem SK {x y : Val} (hx : x.valid = true) (hy : y.valid = true) (hk : x.kind = 1) (h : x.kind = y.kind) : Gy x.int y.int = if x.same y = true then 0 else if x.less y = true then -1 else 1 := by
 simp only [Gy, Val.same, Val.less, C5 hx (by omega), C5 hy (by omega), h]
 simp [Op.bytesLess]
 by_cases h1 : x.int < y.int
 ·simp [h1, show ¬ x.int = y.int by omega]
 ·by_cases h2 : y.int < x.int
  ·simp [h1, h2, show ¬ x.int = y.int by omega]
  ·simp [h1, h2, show x.int = y.int by omega]
theorem QP {x y : Val} (hx : x.valid = true) (hy : y.valid = true) (hk : x.kind = 2) (h : x.kind = y.kind) : SJ x.text y.text = if x.same y = true then 0 else if x.less y = true then -1 else 1 := by
 simp only [SJ, Val.same, Val.less, DQ hx (by omega), DQ hy (by omega), h, Fv]
 simp
theorem QQ {x y : Val} (hx : x.valid = true) (hy : y.valid = true) (h1 : ¬ x.kind = 1) (h2 : ¬ x.kind = 2) (h : x.kind = y.kind) : (0 : Int) = if x.same y = true then 0 else if x.less y = true then -1 else 1 := by
 have : x.same y = true := by
  simp only [Val.same, C5 hx (by omega), C5 hy (by omega), DQ hx (by omega), DQ hy (by omega), h]
  simp
 rw [if_pos this]
theorem Hn (a b : Val) : PCall Tryz.prog 225 [.agg a.d, .agg b.d] (.v (.one (.lit (.int .i64 (a.cmp b))))) := by
 refine Ac hT Tryz.func225 Tryz.ntmps225 [.tmp 4] fun B => ?_
 repeat' (first | refine kz ?_ | refine Au rfl (fun hb => ?_) (fun hb => ?_) | refine Aa (Fq _) ?_ | refine Ai rfl rfl (fun hb => ?_) (fun hb => ?_) | refine kf ?_ | fail)
 all_goals (refine congrArg Dat.lit (congrArg (Value.int _) ?_))
 all_goals unfold Val.cmp
 all_goals (generalize a.clean = x at *; generalize b.clean = y at *)
 all_goals simp_all [Val.cmp, Val.same, Val.less, Cb, Iv]
 ·rw [if_neg (by rintro ⟨h1, h2⟩; exact absurd h2 (by simp_all)), if_neg (by omega)]
theorem H2 (a b : Val) : PCall Tryz.prog 111 [.agg a.d, .agg b.d] (.v (.one (.lit (.int .i64 (a.cmp b))))) := by
 refine Ac hT Tryz.func111 Tryz.ntmps111 [.tmp 4] fun B => ?_
 repeat' (first | refine kz ?_ | refine Au rfl (fun hb => ?_) (fun hb => ?_) | refine Aa (HO _) ?_ | refine Aa (Ow _ _) ?_ | refine Aa (Pz _ _) ?_ | refine Aa (H1 _ _) ?_ | refine kf ?_ | fail)
 all_goals (refine congrArg Dat.lit (congrArg (Value.int _) ?_))
 all_goals unfold Val.cmp
 all_goals (have hx := AR a; have hy := AR b; generalize a.clean = x at *; generalize b.clean = y at *)
 ·exact QO (by simpa using hb)
 ·exact SK hx hy (by simp_all) (by simp_all)
 ·exact QP hx hy (by simp_all) (by simp_all)
 ·exact QQ hx hy (by simp_all) (by simp_all) (by simp_all)
end Go.Proofs.YtmpgmjlanngkfaaGreat
end
