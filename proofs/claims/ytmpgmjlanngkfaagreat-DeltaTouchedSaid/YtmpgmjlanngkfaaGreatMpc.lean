/-
  Maps whose order is not looked at: of data, and of the call's own slices.
-/
import Derived.Test.YtmpgmjlanngkfaaGreatByt
import Derived.Test.YtmpgmjlanngkfaaGreatProg
import Derived.Test.YtmpgmjlanngkfaaGreatArc
section
namespace Go.Proofs.YtmpgmjlanngkfaaGreat
open Go.Abs
def Yd : TI := { size := 1, bytes := 8, zero := [.int .i64 0], desc := .int .i64 }
def aI : TI := { size := 1, bytes := 8, zero := [.int .i64 0], desc := .int .i64 }
def aJ : TI := { size := 1, bytes := 1, zero := [.bool false], desc := .bool }
def aK : TI := { size := 1, bytes := 1, zero := [.int .u8 0], desc := .int .u8 }
def aL : TI := { size := 1, bytes := 16, zero := [.string ⟨#[]⟩], desc := .str }
def Y2 : TI := { size := 1, bytes := 24, zero := [.slice none 0 0], desc := .slice 3 }
def Y3 : TI := { size := 1, bytes := 24, zero := [.slice none 0 0], desc := .slice 66 }
def Y4 : TI := { size := 1, bytes := 24, zero := [.slice none 0 0], desc := .slice 109 }
def Y5 : TI := { size := 1, bytes := 24, zero := [.slice none 0 0], desc := .slice 86 }
def Y6 : TI := { size := 1, bytes := 24, zero := [.slice none 0 0], desc := .slice 49 }
def Y7 : TI := { size := 9, bytes := 160, zero := [.string ⟨#[]⟩, .int .i64 0, .string ⟨#[]⟩, .string ⟨#[]⟩, .slice none 0 0, .slice none 0 0, .slice none 0 0, .bool false, .slice none 0 0], desc := .struct [(0, 9), (1, 3), (2, 9), (3, 9), (4, 25), (5, 26), (6, 27), (7, 4), (8, 28)] }
def Y8 : TI := { size := 1, bytes := 24, zero := [.slice none 0 0], desc := .slice 56 }
def Y9 : TI := { size := 3, bytes := 48, zero := [.string ⟨#[]⟩, .int .i64 0, .slice none 0 0], desc := .struct [(0, 9), (1, 3), (2, 26)] }
def Za : TI := { size := 1, bytes := 24, zero := [.slice none 0 0], desc := .slice 54 }
def GQ : TI := { size := 1, bytes := 24, zero := [.slice none 0 0], desc := .slice 73 }
def RK : TI := { size := 2, bytes := 32, zero := [.slice none 0 0, .int .i64 0], desc := .struct [(0, 54), (1, 2)] }
def Zb : TI := { size := 1, bytes := 24, zero := [.slice none 0 0], desc := .slice 100 }
def Zc : TI := { size := 2, bytes := 32, zero := [.slice none 0 0, .int .i64 0], desc := .struct [(0, 22), (1, 3)] }
def Zd : TI := { size := 2, bytes := 16, zero := [.int .i64 0, .int .i64 0], desc := .array 2 3 }
def Ze : TI := { size := 1, bytes := 24, zero := [.slice none 0 0], desc := .slice 2 }
def RL : TI := { size := 3, bytes := 32, zero := [.int .i64 0, .int .i64 0, .string ⟨#[]⟩], desc := .struct [(0, 3), (1, 2), (2, 9)], eqs := true }
def Zf : TI := { size := 2, bytes := 40, zero := [.string ⟨#[]⟩, .slice none 0 0], desc := .struct [(0, 9), (1, 26)] }
def Zg : TI := { size := 1, bytes := 24, zero := [.slice none 0 0], desc := .slice 98 }
def VE : TI := { size := 2, bytes := 48, zero := [.slice none 0 0, .slice none 0 0], desc := .struct [(0, 54), (1, 32)] }
def V9 : TI := { size := 4, bytes := 80, zero := [.slice none 0 0, .int .i64 0, .slice none 0 0, .slice none 0 0], desc := .struct [(0, 54), (1, 2), (2, 71), (3, 71)] }
def Wa : TI := { size := 1, bytes := 8, zero := [.int .u64 0], desc := .int .u64 }
def Wb : TI := { size := 5, bytes := 48, zero := [.int .i64 0, .int .i64 0, .int .i64 0, .string ⟨#[]⟩, .int .i64 0], desc := .struct [(0, 3), (1, 73), (4, 3)] }
def Wc : TI := { size := 1, bytes := 24, zero := [.slice none 0 0], desc := .slice 9 }
def Wd : TI := { size := 1, bytes := 24, zero := [.slice none 0 0], desc := .slice 26 }
def We : TI := { size := 1, bytes := 24, zero := [.slice none 0 0], desc := .slice 5 }
def Wf : TI := { size := 1, bytes := 8, zero := [.map none], desc := .plain }
def Wg : TI := { size := 1, bytes := 24, zero := [.slice none 0 0], desc := .slice 186 }
def Wh : TI := { size := 9, bytes := 96, zero := [.int .i64 0, .int .i64 0, .string ⟨#[]⟩, .int .i64 0, .int .i64 0, .string ⟨#[]⟩, .int .i64 0, .int .i64 0, .string ⟨#[]⟩], desc := .array 3 73 }
def ti186 : TI := { size := 4, bytes := 40, zero := [.int .i64 0, .int .i64 0, .string ⟨#[]⟩, .int .i64 0], desc := .struct [(0, 73), (3, 2)] }
def Wi : TI := { size := 1, bytes := 8, zero := [.map none], desc := .plain }
def Wj : TI := { size := 1, bytes := 24, zero := [.slice none 0 0], desc := .slice 200 }
def Wk : TI := { size := 2, bytes := 24, zero := [.string ⟨#[]⟩, .int .i64 0], desc := .struct [(0, 9), (1, 2)], eqs := true }
def Wl : TI := { size := 1, bytes := 8, zero := [.map none], desc := .plain }
def Wm : TI := { size := 1, bytes := 24, zero := [.slice none 0 0], desc := .slice 232 }
def Wn : TI := { size := 3, bytes := 56, zero := [.slice none 0 0, .map none, .slice none 0 0], desc := .struct [(0, 203), (1, 202), (2, 198)] }
def Wo : TI := { size := 3, bytes := 56, zero := [.slice none 0 0, .map none, .slice none 0 0], desc := .struct [(0, 203), (1, 202), (2, 198)] }
def Wp : TI := { size := 2, bytes := 40, zero := [.string ⟨#[]⟩, .slice none 0 0], desc := .struct [(0, 9), (1, 113)] }
def aM : TTree := (.node (.node (.node (.node (.node (.node .nil 2 Yd .nil) 3 aI .nil) 4 aJ (.node (.node .nil 5 aK .nil) 9 aL .nil)) 22 Y2 (.node (.node (.node .nil 25 Y3 .nil) 26 Y4 .nil) 27 Y5 (.node .nil 28 Y6 .nil))) 30 Y7 (.node (.node (.node (.node .nil 32 Y8 .nil) 49 Y9 .nil) 51 Za (.node (.node .nil 54 GQ .nil) 56 RK .nil)) 58 Zb (.node (.node (.node .nil 64 Zc .nil) 66 Zd .nil) 71 Ze (.node .nil 73 RL .nil)))) 86 Zf (.node (.node (.node (.node (.node .nil 95 Zg .nil) 98 VE .nil) 100 V9 (.node (.node .nil 106 Wa .nil) 109 Wb .nil)) 113 Wc (.node (.node (.node .nil 116 Wd .nil) 125 We .nil) 137 Wf (.node .nil 145 Wg .nil))) 165 Wh (.node (.node (.node (.node .nil 186 ti186 .nil) 195 Wi .nil) 198 Wj (.node .nil 200 Wk .nil)) 202 Wl (.node (.node (.node .nil 203 Wm .nil) 204 Wn .nil) 205 Wo (.node .nil 232 Wp .nil)))))
def T : TypeId → Option TI := Jv aM
theorem al : TOk Tryz.prog 2 Yd := EV (.int .i64 0) (by kernel_rfl) rfl rfl (show Tryz.prog.underlying 2 = some (.int .i64) by kernel_rfl) (fun h => by cases h)
theorem ao : TOk Tryz.prog 3 aI := EV (.int .i64 0) (by kernel_rfl) rfl rfl (show Tryz.prog.underlying 3 = some (.int .i64) by kernel_rfl) (fun h => by cases h)
theorem aq : TOk Tryz.prog 4 aJ := EV (.bool false) (by kernel_rfl) rfl rfl (show Tryz.prog.underlying 4 = some (.bool) by kernel_rfl) (fun h => by cases h)
theorem ar : TOk Tryz.prog 5 aK := EV (.int .u8 0) (by kernel_rfl) rfl rfl (show Tryz.prog.underlying 5 = some (.int .u8) by kernel_rfl) (fun h => by cases h)
theorem au : TOk Tryz.prog 9 aL := EV (.string ⟨#[]⟩) (by kernel_rfl) rfl rfl (show Tryz.prog.underlying 9 = some (.string) by kernel_rfl) (fun h => by cases h)
theorem Zh : TOk Tryz.prog 22 Y2 := EV (.slice none 0 0) (by kernel_rfl) rfl rfl (show Tryz.prog.underlying 22 = some (.slice 3) by kernel_rfl) (fun h => by cases h)
theorem Zi : TOk Tryz.prog 25 Y3 := EV (.slice none 0 0) (by kernel_rfl) rfl rfl (show Tryz.prog.underlying 25 = some (.slice 66) by kernel_rfl) (fun h => by cases h)
theorem Zj : TOk Tryz.prog 26 Y4 := EV (.slice none 0 0) (by kernel_rfl) rfl rfl (show Tryz.prog.underlying 26 = some (.slice 109) by kernel_rfl) (fun h => by cases h)
theorem Zk : TOk Tryz.prog 27 Y5 := EV (.slice none 0 0) (by kernel_rfl) rfl rfl (show Tryz.prog.underlying 27 = some (.slice 86) by kernel_rfl) (fun h => by cases h)
theorem Zl : TOk Tryz.prog 28 Y6 := EV (.slice none 0 0) (by kernel_rfl) rfl rfl (show Tryz.prog.underlying 28 = some (.slice 49) by kernel_rfl) (fun h => by cases h)
theorem Zm : TOk Tryz.prog 30 Y7 := EV (.agg #[.string ⟨#[]⟩, .int .i64 0, .string ⟨#[]⟩, .string ⟨#[]⟩, .slice none 0 0, .slice none 0 0, .slice none 0 0, .bool false, .slice none 0 0]) (by kernel_rfl) rfl rfl (show (Tryz.prog.underlying 30).map Bu = some (some [(0, 9), (1, 3), (2, 9), (3, 9), (4, 25), (5, 26), (6, 27), (7, 4), (8, 28)]) by kernel_rfl) (fun h => by cases h)
theorem Zn : TOk Tryz.prog 32 Y8 := EV (.slice none 0 0) (by kernel_rfl) rfl rfl (show Tryz.prog.underlying 32 = some (.slice 56) by kernel_rfl) (fun h => by cases h)
theorem Zo : TOk Tryz.prog 49 Y9 := EV (.agg #[.string ⟨#[]⟩, .int .i64 0, .slice none 0 0]) (by kernel_rfl) rfl rfl (show (Tryz.prog.underlying 49).map Bu = some (some [(0, 9), (1, 3), (2, 26)]) by kernel_rfl) (fun h => by cases h)
theorem Zp : TOk Tryz.prog 51 Za := EV (.slice none 0 0) (by kernel_rfl) rfl rfl (show Tryz.prog.underlying 51 = some (.slice 54) by kernel_rfl) (fun h => by cases h)
theorem Zq : TOk Tryz.prog 54 GQ := EV (.slice none 0 0) (by kernel_rfl) rfl rfl (show Tryz.prog.underlying 54 = some (.slice 73) by kernel_rfl) (fun h => by cases h)
theorem Zr : TOk Tryz.prog 56 RK := EV (.agg #[.slice none 0 0, .int .i64 0]) (by kernel_rfl) rfl rfl (show (Tryz.prog.underlying 56).map Bu = some (some [(0, 54), (1, 2)]) by kernel_rfl) (fun h => by cases h)
theorem Zs : TOk Tryz.prog 58 Zb := EV (.slice none 0 0) (by kernel_rfl) rfl rfl (show Tryz.prog.underlying 58 = some (.slice 100) by kernel_rfl) (fun h => by cases h)
theorem Zt : TOk Tryz.prog 64 Zc := EV (.agg #[.slice none 0 0, .int .i64 0]) (by kernel_rfl) rfl rfl (show (Tryz.prog.underlying 64).map Bu = some (some [(0, 22), (1, 3)]) by kernel_rfl) (fun h => by cases h)
theorem Zu : TOk Tryz.prog 66 Zd := EV (.agg #[.int .i64 0, .int .i64 0]) (by kernel_rfl) rfl rfl (show Tryz.prog.underlying 66 = some (.array 2 3) by kernel_rfl) (fun h => by cases h)
theorem Zv : TOk Tryz.prog 71 Ze := EV (.slice none 0 0) (by kernel_rfl) rfl rfl (show Tryz.prog.underlying 71 = some (.slice 2) by kernel_rfl) (fun h => by cases h)
theorem Zw : TOk Tryz.prog 73 RL := EV (.agg #[.int .i64 0, .int .i64 0, .string ⟨#[]⟩]) (by kernel_rfl) rfl rfl (show (Tryz.prog.underlying 73).map Bu = some (some [(0, 3), (1, 2), (2, 9)]) by kernel_rfl) (fun _ => Yv (by kernel_rfl) (by kernel_rfl) (by kernel_rfl) (by kernel_rfl))
theorem Zx : TOk Tryz.prog 86 Zf := EV (.agg #[.string ⟨#[]⟩, .slice none 0 0]) (by kernel_rfl) rfl rfl (show (Tryz.prog.underlying 86).map Bu = some (some [(0, 9), (1, 26)]) by kernel_rfl) (fun h => by cases h)
theorem Zy : TOk Tryz.prog 95 Zg := EV (.slice none 0 0) (by kernel_rfl) rfl rfl (show Tryz.prog.underlying 95 = some (.slice 98) by kernel_rfl) (fun h => by cases h)
theorem Zz : TOk Tryz.prog 98 VE := EV (.agg #[.slice none 0 0, .slice none 0 0]) (by kernel_rfl) rfl rfl (show (Tryz.prog.underlying 98).map Bu = some (some [(0, 54), (1, 32)]) by kernel_rfl) (fun h => by cases h)
theorem XA : TOk Tryz.prog 100 V9 := EV (.agg #[.slice none 0 0, .int .i64 0, .slice none 0 0, .slice none 0 0]) (by kernel_rfl) rfl rfl (show (Tryz.prog.underlying 100).map Bu = some (some [(0, 54), (1, 2), (2, 71), (3, 71)]) by kernel_rfl) (fun h => by cases h)
theorem XB : TOk Tryz.prog 106 Wa := EV (.int .u64 0) (by kernel_rfl) rfl rfl (show Tryz.prog.underlying 106 = some (.int .u64) by kernel_rfl) (fun h => by cases h)
theorem XC : TOk Tryz.prog 109 Wb := EV (.agg #[.int .i64 0, .int .i64 0, .int .i64 0, .string ⟨#[]⟩, .int .i64 0]) (by kernel_rfl) rfl rfl (show (Tryz.prog.underlying 109).map Bu = some (some [(0, 3), (1, 73), (4, 3)]) by kernel_rfl) (fun h => by cases h)
theorem XD : TOk Tryz.prog 113 Wc := EV (.slice none 0 0) (by kernel_rfl) rfl rfl (show Tryz.prog.underlying 113 = some (.slice 9) by kernel_rfl) (fun h => by cases h)
theorem XE : TOk Tryz.prog 116 Wd := EV (.slice none 0 0) (by kernel_rfl) rfl rfl (show Tryz.prog.underlying 116 = some (.slice 26) by kernel_rfl) (fun h => by cases h)
theorem XF : TOk Tryz.prog 125 We := EV (.slice none 0 0) (by kernel_rfl) rfl rfl (show Tryz.prog.underlying 125 = some (.slice 5) by kernel_rfl) (fun h => by cases h)
theorem XG : TOk Tryz.prog 137 Wf := EV (.map none) (by kernel_rfl) rfl rfl (show (Tryz.prog.underlying 137).map Ju = some true by kernel_rfl) (fun h => by cases h)
theorem XH : TOk Tryz.prog 145 Wg := EV (.slice none 0 0) (by kernel_rfl) rfl rfl (show Tryz.prog.underlying 145 = some (.slice 186) by kernel_rfl) (fun h => by cases h)
theorem XI : TOk Tryz.prog 165 Wh := EV (.agg #[.int .i64 0, .int .i64 0, .string ⟨#[]⟩, .int .i64 0, .int .i64 0, .string ⟨#[]⟩, .int .i64 0, .int .i64 0, .string ⟨#[]⟩]) (by kernel_rfl) rfl rfl (show Tryz.prog.underlying 165 = some (.array 3 73) by kernel_rfl) (fun h => by cases h)
theorem XJ : TOk Tryz.prog 186 ti186 := EV (.agg #[.int .i64 0, .int .i64 0, .string ⟨#[]⟩, .int .i64 0]) (by kernel_rfl) rfl rfl (show (Tryz.prog.underlying 186).map Bu = some (some [(0, 73), (3, 2)]) by kernel_rfl) (fun h => by cases h)
theorem XK : TOk Tryz.prog 195 Wi := EV (.map none) (by kernel_rfl) rfl rfl (show (Tryz.prog.underlying 195).map Ju = some true by kernel_rfl) (fun h => by cases h)
theorem XL : TOk Tryz.prog 198 Wj := EV (.slice none 0 0) (by kernel_rfl) rfl rfl (show Tryz.prog.underlying 198 = some (.slice 200) by kernel_rfl) (fun h => by cases h)
theorem XM : TOk Tryz.prog 200 Wk := EV (.agg #[.string ⟨#[]⟩, .int .i64 0]) (by kernel_rfl) rfl rfl (show (Tryz.prog.underlying 200).map Bu = some (some [(0, 9), (1, 2)]) by kernel_rfl) (fun _ => Yv (by kernel_rfl) (by kernel_rfl) (by kernel_rfl) (by kernel_rfl))
theorem XN : TOk Tryz.prog 202 Wl := EV (.map none) (by kernel_rfl) rfl rfl (show (Tryz.prog.underlying 202).map Ju = some true by kernel_rfl) (fun h => by cases h)
theorem XO : TOk Tryz.prog 203 Wm := EV (.slice none 0 0) (by kernel_rfl) rfl rfl (show Tryz.prog.underlying 203 = some (.slice 232) by kernel_rfl) (fun h => by cases h)
theorem XP : TOk Tryz.prog 204 Wn := EV (.agg #[.slice none 0 0, .map none, .slice none 0 0]) (by kernel_rfl) rfl rfl (show (Tryz.prog.underlying 204).map Bu = some (some [(0, 203), (1, 202), (2, 198)]) by kernel_rfl) (fun h => by cases h)
theorem XQ : TOk Tryz.prog 205 Wo := EV (.agg #[.slice none 0 0, .map none, .slice none 0 0]) (by kernel_rfl) rfl rfl (show (Tryz.prog.underlying 205).map Bu = some (some [(0, 203), (1, 202), (2, 198)]) by kernel_rfl) (fun h => by cases h)
theorem XR : TOk Tryz.prog 232 Wp := EV (.agg #[.string ⟨#[]⟩, .slice none 0 0]) (by kernel_rfl) rfl rfl (show (Tryz.prog.underlying 232).map Bu = some (some [(0, 9), (1, 113)]) by kernel_rfl) (fun h => by cases h)
theorem hT : AB Tryz.prog T := Ur (show PU Tryz.prog aM from ⟨⟨⟨⟨⟨⟨trivial, al, trivial⟩, ao, trivial⟩, aq, ⟨⟨trivial, ar, trivial⟩, au, trivial⟩⟩, Zh, ⟨⟨⟨trivial, Zi, trivial⟩, Zj, trivial⟩, Zk, ⟨trivial, Zl, trivial⟩⟩⟩, Zm, ⟨⟨⟨⟨trivial, Zn, trivial⟩, Zo, trivial⟩, Zp, ⟨⟨trivial, Zq, trivial⟩, Zr, trivial⟩⟩, Zs, ⟨⟨⟨trivial, Zt, trivial⟩, Zu, trivial⟩, Zv, ⟨trivial, Zw, trivial⟩⟩⟩⟩, Zx, ⟨⟨⟨⟨⟨trivial, Zy, trivial⟩, Zz, trivial⟩, XA, ⟨⟨trivial, XB, trivial⟩, XC, trivial⟩⟩, XD, ⟨⟨⟨trivial, XE, trivial⟩, XF, trivial⟩, XG, ⟨trivial, XH, trivial⟩⟩⟩, XI, ⟨⟨⟨⟨trivial, XJ, trivial⟩, XK, trivial⟩, XL, ⟨trivial, XM, trivial⟩⟩, XN, ⟨⟨⟨trivial, XO, trivial⟩, XP, trivial⟩, XQ, ⟨trivial, XR, trivial⟩⟩⟩⟩⟩)
theorem XS : Tryz.prog.follows .mixedOrders = true := by kernel_rfl
instance tcI : TC Tryz.prog T := ⟨hT, XS⟩
instance mt137 : MapTy Tryz.prog 137 9 3 := ⟨by kernel_rfl⟩
instance ko9 : KeyOk Tryz.prog 9 Oo := Xl (by kernel_rfl)
instance zv3 : ZeroV Tryz.prog 3 (.one (.lit (.int .i64 0))) := Lt (by kernel_rfl) rfl
instance mt195 : MapTy Tryz.prog 195 9 198 := ⟨by kernel_rfl⟩
instance zv198 : ZeroV Tryz.prog 198 (.one (.sl [])) := Rx (by kernel_rfl)
instance mt202 : MapTy Tryz.prog 202 9 2 := ⟨by kernel_rfl⟩
instance zv2 : ZeroV Tryz.prog 2 (.one (.lit (.int .i64 0))) := Lt (by kernel_rfl) rfl
abbrev HC := HCall Tryz.prog
abbrev PC := PCall Tryz.prog
end Go.Proofs.YtmpgmjlanngkfaaGreat
end
section
namespace Go.Proofs.YtmpgmjlanngkfaaGreat
open Go.Abs Go.RowKit
attribute [local irreducible] ARun Aq MCall PCall HCall Am SF CF CFs Af Al Ap B5 AW VLe
set_option linter.unusedSimpArgs false
set_option maxRecDepth 100000
set_option maxHeartbeats 4000000
structure Val where
 kind : Int
 int : Int
 text : ByteArray
def Val.d (v : Val) : List Dat := [.lit (.int .i64 v.kind), .lit (.int .i64 v.int), .lit (.string v.text)]
def Val.valid (v : Val) : Bool :=
 if v.kind = 0 then decide (v.int = 0) && v.text.toList.isEmpty
 else if v.kind = 1 then decide (-4294967296 ≤ v.int) && decide (v.int ≤ 4294967296) && v.text.toList.isEmpty
 else if v.kind = 2 then decide (v.int = 0) && decide (v.text.size ≤ 32)
 else false
theorem GJ (s : ByteArray) : (s.toList == ({ data := #[] } : ByteArray).toList) = s.toList.isEmpty := by
 have : ({ data := #[] } : ByteArray).toList = [] := by rw [ByteArray.toList_eq]
 rw [this]
 cases s.toList <;> rfl
theorem Jg (v : Val) : PC 179 [.agg v.d] (.v (.one (.lit (.bool v.valid)))) := by
 refine Ad hT Tryz.func179 Tryz.ntmps179 [.tmp 2] fun B => ?_
 repeat' first | refine kz ?_ | refine AE rfl (fun hb => ?_) (fun hb => ?_) | refine Av rfl rfl (fun hb => ?_) (fun hb => ?_) | refine kf ?_ | fail
 all_goals (refine congrArg Dat.lit (congrArg Value.bool ?_); simp_all [Val.valid, GJ])
 all_goals (intros; omega)
def Val.null : Val := ⟨0, 0, ⟨#[]⟩⟩
def Val.clean (v : Val) : Val := if v.valid then v else Val.null
theorem HP (v : Val) : PC 172 [.agg v.d] (.v (.agg v.clean.d)) := by
 refine Ad hT Tryz.func172 Tryz.ntmps172 [.cell 2 73] fun B => ?_
 repeat' first | refine kz ?_ | refine AE rfl (fun hb => ?_) (fun hb => ?_) | refine Aa (Jg _) ?_ | refine kh ?_ ?_ | exact ⟨⟩ | fail
 all_goals simp_all [Val.clean, Val.null]
theorem Kx (v : Val) : PC 130 [.agg v.d] (.v (.one (.lit (.bool v.valid)))) := by
 refine Ad hT Tryz.func130 Tryz.ntmps130 [.tmp 2] fun B => ?_
 repeat' first | refine kz ?_ | refine AE rfl (fun hb => ?_) (fun hb => ?_) | refine Av rfl rfl (fun hb => ?_) (fun hb => ?_) | refine kf ?_ | fail
 all_goals (refine congrArg Dat.lit (congrArg Value.bool ?_); simp_all [Val.valid, GJ])
 all_goals (intros; omega)
theorem Hm (v : Val) : PC 140 [.agg v.d] (.v (.agg v.clean.d)) := by
 refine Ad hT Tryz.func140 Tryz.ntmps140 [.cell 2 73] fun B => ?_
 repeat' first | refine kz ?_ | refine AE rfl (fun hb => ?_) (fun hb => ?_) | refine Aa (Kx _) ?_ | refine kh ?_ ?_ | exact ⟨⟩ | fail
 all_goals simp_all [Val.clean, Val.null]
def Val.ofInt (n : Int) : Val := Val.clean ⟨1, n, ⟨#[]⟩⟩
theorem Fc (n : Int) : PC 86 [.one (.lit (.int .i64 n))] (.v (.agg (Val.ofInt n).d)) := by
 refine Ad hT Tryz.func86 Tryz.ntmps86 [.cell 2 73] fun B => ?_
 repeat' first | refine kz ?_ | refine Aa (Hm ⟨1, n, ⟨#[]⟩⟩) ?_ | refine kh ?_ ?_ | exact ⟨⟩ | fail
 all_goals rfl
def GR (a b : Int) : Int := if a < b then -1 else if a > b then 1 else 0
theorem VF (a : Int) : PC 175 [.one (.lit (.int .i64 a))] (.v (.one (.lit (.bool false)))) := by
 refine Ad hT Tryz.func175 Tryz.ntmps175 [.tmp 2] fun B => ?_
 repeat' first | refine kz ?_ | refine kf ?_ | fail
 all_goals simp
theorem RM (a : Int) : PC 215 [.one (.lit (.int .i64 a))] (.v (.one (.lit (.bool false)))) := by
 refine Ad hT Tryz.func215 Tryz.ntmps215 [.tmp 2] fun B => ?_
 repeat' first | refine kz ?_ | refine kf ?_ | fail
 all_goals simp
theorem OG (a b : Int) : PC 112 [.one (.lit (.int .i64 a)), .one (.lit (.int .i64 b))] (.v (.one (.lit (.int .i64 (GR a b))))) := by
 refine Ad hT Tryz.func112 Tryz.ntmps112 [.tmp 4] fun B => ?_
 repeat' first | refine kz ?_ | refine AE rfl (fun hb => ?_) (fun hb => ?_) | refine Aa (VF _) ?_ | refine kf ?_ | fail
 all_goals (refine congrArg Dat.lit (congrArg (Value.int _) ?_); simp_all [GR])
 all_goals omega
theorem PL (a b : Int) : PC 173 [.one (.lit (.int .i64 a)), .one (.lit (.int .i64 b))] (.v (.one (.lit (.int .i64 (GR a b))))) := by
 refine Ad hT Tryz.func173 Tryz.ntmps173 [.tmp 4] fun B => ?_
 repeat' first | refine kz ?_ | refine AE rfl (fun hb => ?_) (fun hb => ?_) | refine Aa (RM _) ?_ | refine kf ?_ | fail
 all_goals (refine congrArg Dat.lit (congrArg (Value.int _) ?_); simp_all [GR])
 all_goals omega
end Go.Proofs.YtmpgmjlanngkfaaGreat
end
section
namespace Go.Abs
open Go.RowKit
variable {A : Array MapEntry} {bs : List Nat} {c : Nat} {es : List (Value × Cell)}
def aV (es : List (Value × Dat)) : List (Value × PV) := es.map fun e => (e.1, PV.one e.2)
theorem SRep.cell_of {E : Env} {w : World} {v : Value} {x : Cell} (h : SRep E w v (.c x)) : CRep E w v x := by cases h; assumption
section
variable {P : Program} {F0 : Nat → Prop} {w0 w : World} {E : Env} {mem : List Blk} {ck : Nat}
theorem McOk.look (h : McOk E w es bs c A) {kv : Value} {p : Cell} {i : Nat} (hi : es[i]? = some (kv, p)) :
  ∃ m, A[i]? = some m ∧ m.key = kv ∧ CRep E w m.val p ∧ findE kv A.toList 0 = some (i, m.val) := by
 obtain ⟨h1, h2, h3, h0, h4, h5⟩ := h
 have hlt := lt_of_getElem? hi
 have hm : A[i]? = some (A[i]'(by omega)) := I0 _
 obtain ⟨q1, p', q2, q3⟩ := h5 i _ hm
 rw [hi] at q2
 simp only [Option.some.injEq, MA] at q2
 obtain ⟨q4, q5⟩ := q2
 subst q5
 refine ⟨_, hm, q4.symm, q3, ?_⟩
 have := Hj (k := kv) (es := A.toList) (i := 0) (j := i) (e := A[i]'(by omega)) (by rw [KK]; exact hm) q4.symm (fun l e' hl he => by
  obtain ⟨_, p2, q6, _⟩ := h5 l e' (by rw [← KK]; exact he)
  intro q
  have hp := XY.1 h0 l i (by simp; omega) (by simpa using hlt) hl
  apply hp
  have hlt2 := lt_of_getElem? q6
  rw [Bi hlt2] at q6
  rw [Bi hlt] at hi
  simp only [Option.some.injEq] at q6 hi
  simp only [List.getElem_map, q6, hi, q])
 simpa using this
theorem McOk.not (h : McOk E w es bs c A) {kv : Value} (hn : ∀ e ∈ es, e.1 ≠ kv) : findE kv A.toList 0 = none := by
 refine Hi fun e he => ?_
 obtain ⟨i, hi⟩ := Mz.1 he
 obtain ⟨_, p, q, _⟩ := h.2.2.2.2.2 i e (by rw [← KK]; exact hi)
 exact fun q' => hn _ (Df q) q'.symm
theorem McOk.good {G : Value → Prop} (h : McOk E w es bs c A) (hg : ∀ e ∈ es, G e.1) : ∀ e ∈ A.toList, G e.key := by
 intro e he
 obtain ⟨i, hi⟩ := Mz.1 he
 obtain ⟨_, p, q, _⟩ := h.2.2.2.2.2 i e (by rw [← KK]; exact hi)
 exact hg _ (Df q)
def af (mem : List Blk) (base : Nat) : Cell → Dat → Prop
 | .arr r k n, y => base ≤ r ∧ ∃ t z es, mem[r]? = some (.arr k t z es) ∧ n ≤ es.length ∧ y = .sl (es.take n)
 | c, y => c.dat = some y
def Oh (E : Env) (mem : List Blk) (base : Nat) : Env :=
 { E with F := fun b => E.F b ∨ ∃ r k t z es, base ≤ r ∧ mem[r]? = some (.arr k t z es) ∧ E.cap r ≠ 0 ∧ b = E.blk r }
theorem WOk.thaw (h : WOk F0 w0 E w mem ck) (base : Nat) : WOk F0 w0 (Oh E mem base) w (mem.take base) ck ∧ EnvLe E w (Oh E mem base) w ∧ ∀ c y v, af mem base c y → CRep E w v c → DRep (Oh E mem base).F w v y := by
 have hle : EnvLe E w (Oh E mem base) w := ⟨fun _ hk => .inl hk, fun _ _ => rfl, fun _ => Nat.le_refl _, fun _ _ => ⟨rfl, rfl⟩, fun _ hk => ⟨hk, rfl⟩⟩
 have hin : ∀ {r k t z es}, mem[r]? = some (.arr k t z es) → E.cap r ≠ 0 → E.blk r < w.heap.size ∧ w0.heap.size ≤ E.blk r ∧ ¬ (E.F (E.blk r) ∨ E.N (E.blk r)) := fun hr hz => (h.mem.ok _ _ hr).lt hz
 have htk : ∀ {s : Nat} {x : Blk}, (mem.take base)[s]? = some x → s < base ∧ mem[s]? = some x := fun hx => by
  rw [ME] at hx
  split at hx
  ·exact ⟨by assumption, hx⟩
  ·cases hx
 refine ⟨⟨h.below, fun k hk => .inl (h.base k hk), fun i hi => ?_, ⟨h.mem.clock, fun s x hx => ?_, fun s s' x x' hx hx' h1 h2 hne => ?_⟩, fun k hk => ⟨(h.N k hk).1, ?_⟩⟩, hle, fun c y v hc hv => ?_⟩
 ·rcases hi with hi | ⟨r, k, t, z, es, _, hr, hz, rfl⟩
  ·exact h.F i hi
  ·have := hin hr hz
   exact ⟨this.1, .inr this.2.1⟩
 ·obtain ⟨hs, hx0⟩ := htk hx
  have ho := h.mem.ok s x hx0
  refine ho.le hle (fun _ => rfl) (fun _ => rfl) fun hh => ?_
  rintro ((hk | ⟨r, k, t, z, es, hb, hr, hz, hq⟩) | hk)
  ·exact (ho.lt hh).2.2 (.inl hk)
  ·exact h.mem.apart s r x _ hx0 hr hh (show Blk.has E r (.arr k t z es) from hz) (by omega) hq
  ·exact (ho.lt hh).2.2 (.inr hk)
 ·refine h.mem.apart s s' x x' (htk hx).2 (htk hx').2 ?_ ?_ hne
  ·cases x <;> exact h1
  ·cases x' <;> exact h2
 ·rintro (hf | ⟨r, k', t, z, es, _, hr, hz, rfl⟩)
  ·exact (h.N k hk).2 hf
  ·exact (hin hr hz).2.2 (.inr hk)
 ·unfold af at hc
  split at hc
  ·obtain ⟨hb, t, z, es, hr, hn, rfl⟩ := hc
   exact EC h hr hn hv (fun b hb => .inl hb) fun hz => .inr ⟨_, _, _, _, _, hb, hr, hz, rfl⟩
  ·exact (hv.dat hc).mono (fun _ hk => .inl hk) (fun _ _ => rfl)
end
section
variable {P : Program} {T : TypeId → Option TI} {F0 : Nat → Prop} {w0 : World}
variable {dr : Bool} {ops rest : List Oper} {K : St → Prop} {n : Nat} {sl : List (Nat × SVal)} {mem : List Blk} {ck : Nat} {df : List (FuncId × List Cell)} {acc : List Nat}
variable {d : Tmp} {op : Op} {ty : TypeId} {pos : String} {aft : Array Edge} {g : Option (Nat × Bool)}
theorem GD [tc : TC P T] (r : Nat) {t : TypeId} {i : TI} {cs : List Cell} {mem' : List Blk} (h : Reg P F0 w0 dr ops K rest ⟨n, (d, .c (.bp r (ck + 1) 0)) :: sl, mem', ck + 1, df⟩ (2 :: acc)) (_ : mem[r]? = some .dead := by exact rfl) (hw : GW ops g sl := by first | exact trivial | exact rfl) (ht : T t = some i := by exact rfl)
  (hcs : i.zero.map BP = cs := by repeat' (first | exact A0 rfl | apply AI rfl)) (hm' : mem.set r (.box (ck + 1) cs) = mem' := by exact rfl) : Reg P F0 w0 dr ops K (⟨some d, .alloc t, ty, pos, aft, g⟩ :: rest) ⟨n, sl, mem, ck, df⟩ acc := by
 subst hm'; subst hcs
 refine RS (df' := []) hw (B6 fun E w ρ hw' hρ => ?_) h
 have hTt := tc.ok t i ht
 obtain ⟨fi, z, hi1, hi2, hi3, hi4, hi5⟩ := hTt.info
 have hf := hw'.fresh
 have hle : EnvLe E w (E.upd r w.heap.size 0 (ck + 1)) (w.alloc (.cells i.zero.toArray t)) := Env.upd_le _ _ _ _ (by have := hw'.mem.clock r; omega) (fun j hj => Bel.heap_alloc w _ j (hw'.FN j hj))
 have htn := hw'.turn (w' := w.alloc (.cells i.zero.toArray t)) r w.heap.size 0 (ck + 1) (.box (ck + 1) (i.zero.map BP)) _ (X5 ck) (Nat.le_refl _) (AX r _) ((Bel.refl _ w).alloc hw'.le0 _) (fun j hj _ => Bel.heap_alloc w _ j hj) (fun s x _ hx hh => hf.2 s x hx hh) hf.1
  ⟨by simp [Env.upd], by simp [Env.upd]; exact hw'.le0, by simp only [Env.upd, if_true]; exact hf.1, i.zero.toArray, t, by simp only [Env.upd, if_true]; exact RV w _, by simp, fun j v x a b => (Ee hTt j v x a b).le hle⟩
 exact ⟨.pointer (some ⟨w.heap.size, 0, none⟩), _, E.upd r w.heap.size 0 (ck + 1), by simp [execOp, Instr.alloc, zeroValue, typeInfo, hi1, hi4, newVar, newRow, hi5], htn.2, htn.1, .c (.bp r (ck + 1) 0 _ rfl (by simp [Env.upd]) (fun _ => by simp [Env.upd]))⟩
end
section
variable {P : Program} {T : TypeId → Option TI} {B : Base} {Q : Ex → St → Prop} {n : Nat} {sl : List (Nat × SVal)} {mem : List Blk} {ck : Nat} {df : List (FuncId × List Cell)}
end
end Go.Abs
end
