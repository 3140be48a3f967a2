/-
  The contract of the library's slices.SortFunc, laid at this program by the kit's own tool; and what our walk makes of it.
-/
import Derived.Test.YtmpgmjlanngkfaaGreatTypes
import Derived.Test.YtmpgmjlanngkfaaGreatSrt
section
namespace Go.Abs
open Go.RowKit
variable {i : TI} {k r : Nat} {x : Operand}
section
variable {P : Program} {T : TypeId → Option TI} {F0 : Nat → Prop} {w0 w : World} {E : Env} {mem : List Blk} {clock : Nat}
theorem WOk.holeArr {w' : World} (h : WOk F0 w0 E w mem clock) (hr : mem[r]? = some (.hole k)) (hk : k ≤ clock) (iX : TypeId) (i6 cap : Nat) (es : List (List Dat)) (oO : 0 < i6) (j6 : ∀ e, e ∈ es → e.length = i6) (jB : es.length ≤ cap) (jC : cap ≤ maxLen)
  (jO : Bel w0.heap.size w w') (hold : ∀ i, i < w.heap.size → w'.heap[i]? = w.heap[i]?)
  (hc : cap = 0 ∨ ∃ c, w'.heap[w.heap.size]? = some (.cells c iX (0, 0)) ∧ c.size = cap * i6 ∧ (∀ v ∈ c, v.oneCell' = true) ∧ ∀ (i j : Nat) e v x, es[i]? = some e → e[j]? = some x → c[i * i6 + j]? = some v → DRep E.F w v x) :
  let E' := E.upd r w.heap.size cap k
  WOk F0 w0 E' w' (mem.set r (.arr k iX i6 es)) clock ∧ EnvLe E w E' w' := by
 intro E'
 have hf := h.fresh
 have hv : E.ver r < k := h.mem.ok r _ hr
 have hle : EnvLe E w E' w' := Env.upd_le _ _ _ _ hv (fun i hi => hold i (h.FN i hi))
 refine h.turnV r _ _ k _ _ hv (Nat.le_refl _) hk (Bj r _) jO (fun i hi _ => hold i hi) (fun s x _ hx hh => hf.2 s x hx hh) hf.1 ?_
 refine ⟨by simp [Env.upd], oO, j6, by simpa [Env.upd] using jB, by simpa [Env.upd] using jC, ?_⟩
 rcases hc with hc | ⟨c, h1, h2, h0, h3⟩
 ·exact .inl (by simp [Env.upd, hc])
 ·refine .inr ⟨by simp [Env.upd]; exact h.le0, by simp only [Env.upd, if_true]; exact hf.1, c, by simp only [Env.upd, if_true]; exact h1, by simpa [Env.upd] using h2, h0, fun i j e v x a b d => (h3 i j e v x a b d).le hle⟩
end
section
variable {P : Program} {T : TypeId → Option TI} {F0 : Nat → Prop} {w0 : World}
variable {dr : Bool} {ops rest : List Oper} {K : St → Prop} {n : Nat} {sl : List (Nat × SVal)} {mem : List Blk} {ck : Nat} {df : List (FuncId × List Cell)} {acc : List Nat}
variable {d : Tmp} {op : Op} {ty : TypeId} {pos : String} {iU : Array Edge} {g : Option (Nat × Bool)}
theorem WN [tc : TC P T] (r : Nat) {t e : TypeId} {y : Operand} {ei : TI} {u : SVal} {ys : List (List Dat)} {f' : List Blk} (h : Reg P F0 w0 dr ops K rest ⟨n, (d, .c (.arr r k ys.length)) :: sl, f', ck, df⟩ (BS r false :: acc)) (j3 : ∀ el ∈ ys, el.length = ei.size) (hl : ys.length ≤ maxLen) (lp : ys.length * ei.bytes ≤ 140737488355328) (hm : mem[r]? = some (.hole k) := by exact rfl) (hk : k ≤ ck := by omega) (hw : GW ops g sl := by first | exact trivial | exact rfl)
  (hx : AH sl x = .c .emp := by exact rfl) (hy : AH sl y = u := by exact (rfl : _ = SVal.c _)) (hs : Gh u = some ys := by exact rfl) (ht : T t = some i := by exact rfl) (hi : i.desc = .slice e := by exact rfl) (jg : T e = some ei := by exact rfl) (np : (Nat.blt 0 ei.size && Nat.beq ei.zero.length ei.size) = true := by exact rfl) (iZ : mem.set r (.arr k e ei.size ys) = f' := by exact rfl) :
  Reg P F0 w0 dr ops K (⟨some d, .call ⟨.builtin .append, #[x, y], #[t, t]⟩, ty, pos, iU, g⟩ :: rest) ⟨n, sl, mem, ck, df⟩ acc := by
 subst iZ
 refine eM hw hm hk (fun M c hM hc => BF fun E w ρ j0 hρ => ?_) h
 have e1 := hρ x (by simp [Op.operands, Call.operands])
 have e2 := hρ y (by simp [Op.operands, Call.operands])
 rw [hx] at e1; rw [hy] at e2
 have j4 := Kg e2 hs
 simp only [BM, Sd, Md, Nat.blt, Tq] at np
 obtain ⟨a, ha⟩ : ∃ a, ρ x = .slice a 0 0 := by
  generalize ρ x = q at e1
  cases e1 with | c hs => cases hs with | emp a => exact ⟨a, rfl⟩
 obtain ⟨v', w', cap, q1, q2, q3, q4, q5, q6, q7⟩ := Ej tc.ok j0 (ty := ty) ht hi jg np.2 j3 hl lp j4 a
 have hq := j0.holeArr hM hc e ei.size cap ys np.1 j3 q2 q3 q4 q5 q7
 refine ⟨v', w', _, by simp [execOp, resolve, invoke, builtin, ha, q1], hq.2, hq.1, .c (.arr r k ys.length v' ?_ (by simp [Env.upd]) (fun _ => ?_))⟩
 ·rcases q6 with ⟨_, b, rfl⟩ | ⟨_, rfl⟩ <;> rfl
 ·rcases q6 with ⟨h5, b, rfl⟩ | ⟨h5, rfl⟩
  · exact .inl ⟨by simp [Env.upd, h5], by omega, b, rfl⟩
  · exact .inr ⟨by simp [Env.upd]; exact h5, by simp [Env.upd]⟩
theorem D0 [tc : TC P T] {s : TypeId} {f : Nat} {j : TI} {fs : List (Nat × TypeId)} {off : Nat} {ft : TypeId} {o : Nat} {cs : List Cell} (h : Reg P F0 w0 dr ops K rest ⟨n, (d, .c (.bp r k (o + off))) :: sl, mem, ck, df⟩ (BS r true :: acc)) (hw : GW ops g sl := by first | exact trivial | exact rfl) (hx : AH sl x = .c (.bp r k o) := by exact rfl) (hs : T s = some i := by exact rfl) (hi : i.desc = .struct fs := by exact rfl) (hf : fs[f]? = some (off, ft) := by exact rfl) (hj : T ft = some j := by exact rfl) (hz : decide (j.size ≠ 0) = true := by exact rfl) (hm : mem[r]? = some (.box k cs) := by exact rfl) :
  Reg P F0 w0 dr ops K (⟨some d, .fieldAddr s x f, ty, pos, iU, g⟩ :: rest) ⟨n, sl, mem, ck, df⟩ acc :=
 NP hw hm (fun mem ck hm => Does.of tc.ok fun τ he jn hc Kk hK => by
  subst jn; subst hc
  have ex := he x (by simp [Op.operands])
  rw [hx] at ex
  obtain ⟨a1, a2, a3, a4, a5⟩ := i
  simp only at hi
  subst hi
  simp only [AV, FM, hs, hf, hj, ex, C1, hm]
  exact ⟨by simpa using hz, trivial, hK _ _ _ _ ⟨rfl, rfl, rfl, rfl⟩⟩) h
theorem D1 [tc : TC P T] {t : TypeId} {o : Nat} {cs : List Cell} {y : Cell} (h : Reg P F0 w0 dr ops K rest ⟨n, (d, .c y) :: sl, mem, ck, df⟩ (BS r true :: acc)) (hw : GW ops g sl := by first | exact trivial | exact rfl) (hx : AH sl x = .c (.bp r k o) := by exact rfl) (ht : T t = some i := by exact rfl) (ha : i.desc.agg = false := by exact rfl) (hs : i.size = 1 := by exact rfl) (hm : mem[r]? = some (.box k cs) := by exact rfl) (hy : cs[o]? = some y := by exact rfl) :
  Reg P F0 w0 dr ops K (⟨some d, .load t x, ty, pos, iU, g⟩ :: rest) ⟨n, sl, mem, ck, df⟩ acc :=
 NP hw hm (fun mem ck hm => Does.of tc.ok fun τ he jn hc Kk hK => by
  subst jn; subst hc
  have ex := he x (by simp [Op.operands])
  rw [hx] at ex
  have i7 := lt_of_getElem? hy
  have e1 : (cs.drop o).take 1 = [y] := by
   rw [aQ i7]
   rw [Bo i7] at hy
   simp at hy
   simp [hy]
  simp only [AV, Du, ht, ex, ha, hs, hm]
  refine ⟨.inr trivial, trivial, i7, ?_⟩
  rw [e1]
  exact hK _ _ _ _ ⟨rfl, rfl, rfl, rfl⟩) h
end
end Go.Abs
end
section
namespace Go.Proofs.YtmpgmjlanngkfaaGreat
open Go.Abs Go.RowKit
attribute [local irreducible] ARun Av MCall PCall HCall Ap SF CF CFs Ag Ai As fin AY VLe
set_option linter.unusedSimpArgs false
set_option maxRecDepth 100000
set_option maxHeartbeats 4000000
structure Val where
 kind : Int
 int : Int
 text : ByteArray
def Val.d (v : Val) : List Dat := [.lit (.int .i64 v.kind), .lit (.int .i64 v.int), .lit (.string v.text)]
def Val.valid (v : Val) : Bool :=
 if v.kind = 0 then decide (v.int = 0) && v.text.toList.isEmpty
 else if v.kind = 1 then decide (-4294967296 ≤ v.int) && decide (v.int ≤ 4294967296) && v.text.toList.isEmpty
 else if v.kind = 2 then decide (v.int = 0) && decide (v.text.size ≤ 32)
 else false
theorem FJ (s : ByteArray) : (s.toList == ({ data := #[] } : ByteArray).toList) = s.toList.isEmpty := by
 have : ({ data := #[] } : ByteArray).toList = [] := by rw [ByteArray.toList_eq]
 rw [this]
 cases s.toList <;> rfl
theorem Ks (v : Val) : PC 179 [.agg v.d] (.v (.one (.lit (.bool v.valid)))) := by
 refine Ac hT Tryz.func179 Tryz.ntmps179 [.tmp 2] fun B => ?_
 repeat' first | refine kz ?_ | refine Az rfl (fun hb => ?_) (fun hb => ?_) | refine Al rfl rfl (fun hb => ?_) (fun hb => ?_) | refine kf ?_ | fail
 all_goals (refine congrArg Dat.lit (congrArg Value.bool ?_); simp_all [Val.valid, FJ])
 all_goals (intros; omega)
def Val.null : Val := ⟨0, 0, ⟨#[]⟩⟩
def Val.clean (v : Val) : Val := if v.valid then v else Val.null
theorem IZ (v : Val) : PC 172 [.agg v.d] (.v (.agg v.clean.d)) := by
 refine Ac hT Tryz.func172 Tryz.ntmps172 [.cell 2 73] fun B => ?_
 repeat' first | refine kz ?_ | refine Az rfl (fun hb => ?_) (fun hb => ?_) | refine Aa (Ks _) ?_ | refine kh ?_ ?_ | exact ⟨⟩ | fail
 all_goals simp_all [Val.clean, Val.null]
theorem Io (v : Val) : PC 130 [.agg v.d] (.v (.one (.lit (.bool v.valid)))) := by
 refine Ac hT Tryz.func130 Tryz.ntmps130 [.tmp 2] fun B => ?_
 repeat' first | refine kz ?_ | refine Az rfl (fun hb => ?_) (fun hb => ?_) | refine Al rfl rfl (fun hb => ?_) (fun hb => ?_) | refine kf ?_ | fail
 all_goals (refine congrArg Dat.lit (congrArg Value.bool ?_); simp_all [Val.valid, FJ])
 all_goals (intros; omega)
theorem Gf (v : Val) : PC 140 [.agg v.d] (.v (.agg v.clean.d)) := by
 refine Ac hT Tryz.func140 Tryz.ntmps140 [.cell 2 73] fun B => ?_
 repeat' first | refine kz ?_ | refine Az rfl (fun hb => ?_) (fun hb => ?_) | refine Aa (Io _) ?_ | refine kh ?_ ?_ | exact ⟨⟩ | fail
 all_goals simp_all [Val.clean, Val.null]
def Val.ofInt (n : Int) : Val := Val.clean ⟨1, n, ⟨#[]⟩⟩
theorem Bw (n : Int) : PC 86 [.one (.lit (.int .i64 n))] (.v (.agg (Val.ofInt n).d)) := by
 refine Ac hT Tryz.func86 Tryz.ntmps86 [.cell 2 73] fun B => ?_
 repeat' first | refine kz ?_ | refine Aa (Gf ⟨1, n, ⟨#[]⟩⟩) ?_ | refine kh ?_ ?_ | exact ⟨⟩ | fail
 all_goals rfl
def HH (a b : Int) : Int := if a < b then -1 else if a > b then 1 else 0
theorem Zx (a : Int) : PC 175 [.one (.lit (.int .i64 a))] (.v (.one (.lit (.bool false)))) := by
 refine Ac hT Tryz.func175 Tryz.ntmps175 [.tmp 2] fun B => ?_
 repeat' first | refine kz ?_ | refine kf ?_ | fail
 all_goals simp
theorem UZ (a : Int) : PC 215 [.one (.lit (.int .i64 a))] (.v (.one (.lit (.bool false)))) := by
 refine Ac hT Tryz.func215 Tryz.ntmps215 [.tmp 2] fun B => ?_
 repeat' first | refine kz ?_ | refine kf ?_ | fail
 all_goals simp
theorem QR (a b : Int) : PC 112 [.one (.lit (.int .i64 a)), .one (.lit (.int .i64 b))] (.v (.one (.lit (.int .i64 (HH a b))))) := by
 refine Ac hT Tryz.func112 Tryz.ntmps112 [.tmp 4] fun B => ?_
 repeat' first | refine kz ?_ | refine Az rfl (fun hb => ?_) (fun hb => ?_) | refine Aa (Zx _) ?_ | refine kf ?_ | fail
 all_goals (refine congrArg Dat.lit (congrArg (Value.int _) ?_); simp_all [HH])
 all_goals omega
theorem R6 (a b : Int) : PC 173 [.one (.lit (.int .i64 a)), .one (.lit (.int .i64 b))] (.v (.one (.lit (.int .i64 (HH a b))))) := by
 refine Ac hT Tryz.func173 Tryz.ntmps173 [.tmp 4] fun B => ?_
 repeat' first | refine kz ?_ | refine Az rfl (fun hb => ?_) (fun hb => ?_) | refine Aa (UZ _) ?_ | refine kf ?_ | fail
 all_goals (refine congrArg Dat.lit (congrArg (Value.int _) ?_); simp_all [HH])
 all_goals omega
end Go.Proofs.YtmpgmjlanngkfaaGreat
end
section
namespace Go.Proofs
open Go.Shelf
def Tryz.srt58_ren : Go.Shelf.Ren := ⟨fun | 6 => 58 | 15 => 110 | 14 => 109 | 28 => 170 | 29 => 171 | 20 => 162 | 21 => 163 | 22 => 164 | 23 => 165 | 24 => 166 | 25 => 167 | 26 => 168 | 27 => 169 | 46 => 210 | 47 => 211 | 48 => 212 | 49 => 213 | 50 => 214 | 57 => 243 | n => n, fun | 22 => 51 | 24 => 54 | 25 => 92 | 3 => 3 | 39 => 106 | 0 => 0 | 53 => 177 | 55 => 179 | 4 => 4 | 46 => 171 | 45 => 170 | 50 => 140 | 5 => 5 | 9 => 9 | 66 => 217 | 70 => 221 | 76 => 241 | 77 => 163 | n => n, fun | n => n⟩
theorem Tryz.srt58 : Go.Proofs.SlLaysF.n6 Tryz.prog Tryz.srt58_ren := {
 mixed := by kernel_rfl
 f6 := ⟨Tryz.f58.name, by decide, Tryz.func58.trans (congrArg some (by kernel_rfl))⟩
 f14 := ⟨Tryz.f109.name, by decide, Tryz.func109.trans (congrArg some (by kernel_rfl))⟩
 f15 := Tryz.func110.trans (congrArg some (by kernel_rfl))
 f20 := ⟨Tryz.f162.name, by decide, Tryz.func162.trans (congrArg some (by kernel_rfl))⟩
 f21 := ⟨Tryz.f163.name, by decide, Tryz.func163.trans (congrArg some (by kernel_rfl))⟩
 f22 := ⟨Tryz.f164.name, by decide, Tryz.func164.trans (congrArg some (by kernel_rfl))⟩
 f23 := ⟨Tryz.f165.name, by decide, Tryz.func165.trans (congrArg some (by kernel_rfl))⟩
 f24 := ⟨Tryz.f166.name, by decide, Tryz.func166.trans (congrArg some (by kernel_rfl))⟩
 f25 := ⟨Tryz.f167.name, by decide, Tryz.func167.trans (congrArg some (by kernel_rfl))⟩
 f26 := ⟨Tryz.f168.name, by decide, Tryz.func168.trans (congrArg some (by kernel_rfl))⟩
 f27 := ⟨Tryz.f169.name, by decide, Tryz.func169.trans (congrArg some (by kernel_rfl))⟩
 f28 := Tryz.func170.trans (congrArg some (by kernel_rfl))
 f29 := Tryz.func171.trans (congrArg some (by kernel_rfl))
 f46 := ⟨Tryz.f210.name, by decide, Tryz.func210.trans (congrArg some (by kernel_rfl))⟩
 f47 := Tryz.func211.trans (congrArg some (by kernel_rfl))
 f48 := Tryz.func212.trans (congrArg some (by kernel_rfl))
 f49 := ⟨Tryz.f213.name, by decide, Tryz.func213.trans (congrArg some (by kernel_rfl))⟩
 f50 := ⟨Tryz.f214.name, by decide, Tryz.func214.trans (congrArg some (by kernel_rfl))⟩
 f57 := ⟨Tryz.f243.name, by decide, Tryz.func243.trans (congrArg some (by kernel_rfl))⟩
 t0 := Tryz.underlying0
 a0 := Tryz.isAgg0
 z0 := Tryz.sizeOf0
 v0 := Tryz.zeroValue0
 t3 := Tryz.underlying3
 a3 := Tryz.isAgg3
 z3 := Tryz.sizeOf3
 v3 := Tryz.zeroValue3
 t4 := Tryz.underlying4
 a4 := Tryz.isAgg4
 z4 := Tryz.sizeOf4
 v4 := Tryz.zeroValue4
 t5 := Tryz.underlying5
 a5 := Tryz.isAgg5
 z5 := Tryz.sizeOf5
 v5 := Tryz.zeroValue5
 t9 := Tryz.underlying9
 a9 := Tryz.isAgg9
 z9 := Tryz.sizeOf9
 v9 := Tryz.zeroValue9
 t22 := Tryz.underlying51
 a22 := Tryz.isAgg51
 z22 := Tryz.sizeOf51
 v22 := Tryz.zeroValue51
 a24 := Tryz.isAgg54
 z24 := Tryz.sizeOf54
 t25 := Tryz.underlying92
 a25 := Tryz.isAgg92
 z25 := Tryz.sizeOf92
 v25 := Tryz.zeroValue92
 t39 := Tryz.underlying106
 a39 := Tryz.isAgg106
 z39 := Tryz.sizeOf106
 v39 := Tryz.zeroValue106
 t45 := Tryz.underlying170
 a45 := Tryz.isAgg170
 z45 := Tryz.sizeOf170
 v45 := Tryz.zeroValue170
 t46 := Tryz.underlying171
 a46 := Tryz.isAgg171
 z46 := Tryz.sizeOf171
 v46 := Tryz.zeroValue171
 t50 := Tryz.underlying140
 a50 := Tryz.isAgg140
 z50 := Tryz.sizeOf140
 v50 := Tryz.zeroValue140
 t53 := Tryz.underlying177
 a53 := Tryz.isAgg177
 z53 := Tryz.sizeOf177
 v53 := Tryz.zeroValue177
 t55 := Tryz.underlying179
 a55 := Tryz.isAgg179
 z55 := Tryz.sizeOf179
 v55 := Tryz.zeroValue179
 t66 := Tryz.underlying217
 a66 := Tryz.isAgg217
 z66 := Tryz.sizeOf217
 v66 := Tryz.zeroValue217
 t70 := Tryz.underlying221
 a70 := Tryz.isAgg221
 z70 := Tryz.sizeOf221
 v70 := Tryz.zeroValue221
 t76 := Tryz.underlying241
 a76 := Tryz.isAgg241
 z76 := Tryz.sizeOf241
 v76 := Tryz.zeroValue241
 t77 := Tryz.underlying163
 a77 := Tryz.isAgg163
 z77 := Tryz.sizeOf163
 v77 := Tryz.zeroValue163 }
def Tryz.srt115_ren : Go.Shelf.Ren := ⟨fun | 6 => 115 | 15 => 110 | 14 => 177 | 28 => 170 | 29 => 171 | 20 => 217 | 21 => 218 | 22 => 219 | 23 => 220 | 24 => 221 | 25 => 222 | 26 => 223 | 27 => 224 | 46 => 245 | 47 => 211 | 48 => 212 | 49 => 246 | 50 => 247 | 57 => 264 | n => n, fun | 22 => 95 | 24 => 98 | 25 => 142 | 3 => 3 | 39 => 106 | 0 => 0 | 53 => 177 | 55 => 179 | 4 => 4 | 46 => 171 | 45 => 170 | 50 => 140 | 5 => 5 | 9 => 9 | 66 => 217 | 70 => 221 | 76 => 241 | 77 => 163 | n => n, fun | n => n⟩
theorem Tryz.srt115 : Go.Proofs.SlLaysF0.n6 Tryz.prog Tryz.srt115_ren := {
 mixed := by kernel_rfl
 f6 := ⟨Tryz.f115.name, by decide, Tryz.func115.trans (congrArg some (by kernel_rfl))⟩
 f14 := ⟨Tryz.f177.name, by decide, Tryz.func177.trans (congrArg some (by kernel_rfl))⟩
 f15 := Tryz.func110.trans (congrArg some (by kernel_rfl))
 f20 := ⟨Tryz.f217.name, by decide, Tryz.func217.trans (congrArg some (by kernel_rfl))⟩
 f21 := ⟨Tryz.f218.name, by decide, Tryz.func218.trans (congrArg some (by kernel_rfl))⟩
 f22 := ⟨Tryz.f219.name, by decide, Tryz.func219.trans (congrArg some (by kernel_rfl))⟩
 f23 := ⟨Tryz.f220.name, by decide, Tryz.func220.trans (congrArg some (by kernel_rfl))⟩
 f24 := ⟨Tryz.f221.name, by decide, Tryz.func221.trans (congrArg some (by kernel_rfl))⟩
 f25 := ⟨Tryz.f222.name, by decide, Tryz.func222.trans (congrArg some (by kernel_rfl))⟩
 f26 := ⟨Tryz.f223.name, by decide, Tryz.func223.trans (congrArg some (by kernel_rfl))⟩
 f27 := ⟨Tryz.f224.name, by decide, Tryz.func224.trans (congrArg some (by kernel_rfl))⟩
 f28 := Tryz.func170.trans (congrArg some (by kernel_rfl))
 f29 := Tryz.func171.trans (congrArg some (by kernel_rfl))
 f46 := ⟨Tryz.f245.name, by decide, Tryz.func245.trans (congrArg some (by kernel_rfl))⟩
 f47 := Tryz.func211.trans (congrArg some (by kernel_rfl))
 f48 := Tryz.func212.trans (congrArg some (by kernel_rfl))
 f49 := ⟨Tryz.f246.name, by decide, Tryz.func246.trans (congrArg some (by kernel_rfl))⟩
 f50 := ⟨Tryz.f247.name, by decide, Tryz.func247.trans (congrArg some (by kernel_rfl))⟩
 f57 := ⟨Tryz.f264.name, by decide, Tryz.func264.trans (congrArg some (by kernel_rfl))⟩
 t0 := Tryz.underlying0
 a0 := Tryz.isAgg0
 z0 := Tryz.sizeOf0
 v0 := Tryz.zeroValue0
 t3 := Tryz.underlying3
 a3 := Tryz.isAgg3
 z3 := Tryz.sizeOf3
 v3 := Tryz.zeroValue3
 t4 := Tryz.underlying4
 a4 := Tryz.isAgg4
 z4 := Tryz.sizeOf4
 v4 := Tryz.zeroValue4
 t5 := Tryz.underlying5
 a5 := Tryz.isAgg5
 z5 := Tryz.sizeOf5
 v5 := Tryz.zeroValue5
 t9 := Tryz.underlying9
 a9 := Tryz.isAgg9
 z9 := Tryz.sizeOf9
 v9 := Tryz.zeroValue9
 t22 := Tryz.underlying95
 a22 := Tryz.isAgg95
 z22 := Tryz.sizeOf95
 v22 := Tryz.zeroValue95
 t25 := Tryz.underlying142
 a25 := Tryz.isAgg142
 z25 := Tryz.sizeOf142
 v25 := Tryz.zeroValue142
 t39 := Tryz.underlying106
 a39 := Tryz.isAgg106
 z39 := Tryz.sizeOf106
 v39 := Tryz.zeroValue106
 t45 := Tryz.underlying170
 a45 := Tryz.isAgg170
 z45 := Tryz.sizeOf170
 v45 := Tryz.zeroValue170
 t46 := Tryz.underlying171
 a46 := Tryz.isAgg171
 z46 := Tryz.sizeOf171
 v46 := Tryz.zeroValue171
 t50 := Tryz.underlying140
 a50 := Tryz.isAgg140
 z50 := Tryz.sizeOf140
 v50 := Tryz.zeroValue140
 t53 := Tryz.underlying177
 a53 := Tryz.isAgg177
 z53 := Tryz.sizeOf177
 v53 := Tryz.zeroValue177
 t55 := Tryz.underlying179
 a55 := Tryz.isAgg179
 z55 := Tryz.sizeOf179
 v55 := Tryz.zeroValue179
 t66 := Tryz.underlying217
 a66 := Tryz.isAgg217
 z66 := Tryz.sizeOf217
 v66 := Tryz.zeroValue217
 t70 := Tryz.underlying221
 a70 := Tryz.isAgg221
 z70 := Tryz.sizeOf221
 v70 := Tryz.zeroValue221
 t76 := Tryz.underlying241
 a76 := Tryz.isAgg241
 z76 := Tryz.sizeOf241
 v76 := Tryz.zeroValue241
 t77 := Tryz.underlying163
 a77 := Tryz.isAgg163
 z77 := Tryz.sizeOf163
 v77 := Tryz.zeroValue163 }
def Tryz.srt201_ren : Go.Shelf.Ren := ⟨fun | 6 => 201 | 15 => 110 | 14 => 241 | 28 => 170 | 29 => 171 | 20 => 256 | 21 => 257 | 22 => 258 | 23 => 259 | 24 => 260 | 25 => 261 | 26 => 262 | 27 => 263 | 46 => 277 | 47 => 211 | 48 => 212 | 49 => 278 | 50 => 279 | 57 => 284 | n => n, fun | 22 => 32 | 24 => 56 | 25 => 212 | 3 => 3 | 39 => 106 | 0 => 0 | 53 => 177 | 55 => 179 | 4 => 4 | 46 => 171 | 45 => 170 | 50 => 140 | 5 => 5 | 9 => 9 | 66 => 217 | 70 => 221 | 76 => 241 | 77 => 163 | n => n, fun | n => n⟩
theorem Tryz.srt201 : Go.Proofs.SlLaysF0.n6 Tryz.prog Tryz.srt201_ren := {
 mixed := by kernel_rfl
 f6 := ⟨Tryz.f201.name, by decide, Tryz.func201.trans (congrArg some (by kernel_rfl))⟩
 f14 := ⟨Tryz.f241.name, by decide, Tryz.func241.trans (congrArg some (by kernel_rfl))⟩
 f15 := Tryz.func110.trans (congrArg some (by kernel_rfl))
 f20 := ⟨Tryz.f256.name, by decide, Tryz.func256.trans (congrArg some (by kernel_rfl))⟩
 f21 := ⟨Tryz.f257.name, by decide, Tryz.func257.trans (congrArg some (by kernel_rfl))⟩
 f22 := ⟨Tryz.f258.name, by decide, Tryz.func258.trans (congrArg some (by kernel_rfl))⟩
 f23 := ⟨Tryz.f259.name, by decide, Tryz.func259.trans (congrArg some (by kernel_rfl))⟩
 f24 := ⟨Tryz.f260.name, by decide, Tryz.func260.trans (congrArg some (by kernel_rfl))⟩
 f25 := ⟨Tryz.f261.name, by decide, Tryz.func261.trans (congrArg some (by kernel_rfl))⟩
 f26 := ⟨Tryz.f262.name, by decide, Tryz.func262.trans (congrArg some (by kernel_rfl))⟩
 f27 := ⟨Tryz.f263.name, by decide, Tryz.func263.trans (congrArg some (by kernel_rfl))⟩
 f28 := Tryz.func170.trans (congrArg some (by kernel_rfl))
 f29 := Tryz.func171.trans (congrArg some (by kernel_rfl))
 f46 := ⟨Tryz.f277.name, by decide, Tryz.func277.trans (congrArg some (by kernel_rfl))⟩
 f47 := Tryz.func211.trans (congrArg some (by kernel_rfl))
 f48 := Tryz.func212.trans (congrArg some (by kernel_rfl))
 f49 := ⟨Tryz.f278.name, by decide, Tryz.func278.trans (congrArg some (by kernel_rfl))⟩
 f50 := ⟨Tryz.f279.name, by decide, Tryz.func279.trans (congrArg some (by kernel_rfl))⟩
 f57 := ⟨Tryz.f284.name, by decide, Tryz.func284.trans (congrArg some (by kernel_rfl))⟩
 t0 := Tryz.underlying0
 a0 := Tryz.isAgg0
 z0 := Tryz.sizeOf0
 v0 := Tryz.zeroValue0
 t3 := Tryz.underlying3
 a3 := Tryz.isAgg3
 z3 := Tryz.sizeOf3
 v3 := Tryz.zeroValue3
 t4 := Tryz.underlying4
 a4 := Tryz.isAgg4
 z4 := Tryz.sizeOf4
 v4 := Tryz.zeroValue4
 t5 := Tryz.underlying5
 a5 := Tryz.isAgg5
 z5 := Tryz.sizeOf5
 v5 := Tryz.zeroValue5
 t9 := Tryz.underlying9
 a9 := Tryz.isAgg9
 z9 := Tryz.sizeOf9
 v9 := Tryz.zeroValue9
 t22 := Tryz.underlying32
 a22 := Tryz.isAgg32
 z22 := Tryz.sizeOf32
 v22 := Tryz.zeroValue32
 t25 := Tryz.underlying212
 a25 := Tryz.isAgg212
 z25 := Tryz.sizeOf212
 v25 := Tryz.zeroValue212
 t39 := Tryz.underlying106
 a39 := Tryz.isAgg106
 z39 := Tryz.sizeOf106
 v39 := Tryz.zeroValue106
 t45 := Tryz.underlying170
 a45 := Tryz.isAgg170
 z45 := Tryz.sizeOf170
 v45 := Tryz.zeroValue170
 t46 := Tryz.underlying171
 a46 := Tryz.isAgg171
 z46 := Tryz.sizeOf171
 v46 := Tryz.zeroValue171
 t50 := Tryz.underlying140
 a50 := Tryz.isAgg140
 z50 := Tryz.sizeOf140
 v50 := Tryz.zeroValue140
 t53 := Tryz.underlying177
 a53 := Tryz.isAgg177
 z53 := Tryz.sizeOf177
 v53 := Tryz.zeroValue177
 t55 := Tryz.underlying179
 a55 := Tryz.isAgg179
 z55 := Tryz.sizeOf179
 v55 := Tryz.zeroValue179
 t66 := Tryz.underlying217
 a66 := Tryz.isAgg217
 z66 := Tryz.sizeOf217
 v66 := Tryz.zeroValue217
 t70 := Tryz.underlying221
 a70 := Tryz.isAgg221
 z70 := Tryz.sizeOf221
 v70 := Tryz.zeroValue221
 t76 := Tryz.underlying241
 a76 := Tryz.isAgg241
 z76 := Tryz.sizeOf241
 v76 := Tryz.zeroValue241
 t77 := Tryz.underlying163
 a77 := Tryz.isAgg163
 z77 := Tryz.sizeOf163
 v77 := Tryz.zeroValue163 }
def Tryz.srt237_ren : Go.Shelf.Ren := ⟨fun | 6 => 237 | 15 => 110 | 14 => 253 | 28 => 170 | 29 => 171 | 20 => 269 | 21 => 270 | 22 => 271 | 23 => 272 | 24 => 273 | 25 => 274 | 26 => 275 | 27 => 276 | 46 => 281 | 47 => 211 | 48 => 212 | 49 => 282 | 50 => 283 | 57 => 287 | n => n, fun | 22 => 145 | 24 => 186 | 25 => 238 | 3 => 3 | 39 => 106 | 0 => 0 | 53 => 177 | 55 => 179 | 4 => 4 | 46 => 171 | 45 => 170 | 50 => 140 | 5 => 5 | 9 => 9 | 66 => 217 | 70 => 221 | 76 => 241 | 77 => 163 | n => n, fun | n => n⟩
theorem Tryz.srt237 : Go.Proofs.SlLaysF0.n6 Tryz.prog Tryz.srt237_ren := {
 mixed := by kernel_rfl
 f6 := ⟨Tryz.f237.name, by decide, Tryz.func237.trans (congrArg some (by kernel_rfl))⟩
 f14 := ⟨Tryz.f253.name, by decide, Tryz.func253.trans (congrArg some (by kernel_rfl))⟩
 f15 := Tryz.func110.trans (congrArg some (by kernel_rfl))
 f20 := ⟨Tryz.f269.name, by decide, Tryz.func269.trans (congrArg some (by kernel_rfl))⟩
 f21 := ⟨Tryz.f270.name, by decide, Tryz.func270.trans (congrArg some (by kernel_rfl))⟩
 f22 := ⟨Tryz.f271.name, by decide, Tryz.func271.trans (congrArg some (by kernel_rfl))⟩
 f23 := ⟨Tryz.f272.name, by decide, Tryz.func272.trans (congrArg some (by kernel_rfl))⟩
 f24 := ⟨Tryz.f273.name, by decide, Tryz.func273.trans (congrArg some (by kernel_rfl))⟩
 f25 := ⟨Tryz.f274.name, by decide, Tryz.func274.trans (congrArg some (by kernel_rfl))⟩
 f26 := ⟨Tryz.f275.name, by decide, Tryz.func275.trans (congrArg some (by kernel_rfl))⟩
 f27 := ⟨Tryz.f276.name, by decide, Tryz.func276.trans (congrArg some (by kernel_rfl))⟩
 f28 := Tryz.func170.trans (congrArg some (by kernel_rfl))
 f29 := Tryz.func171.trans (congrArg some (by kernel_rfl))
 f46 := ⟨Tryz.f281.name, by decide, Tryz.func281.trans (congrArg some (by kernel_rfl))⟩
 f47 := Tryz.func211.trans (congrArg some (by kernel_rfl))
 f48 := Tryz.func212.trans (congrArg some (by kernel_rfl))
 f49 := ⟨Tryz.f282.name, by decide, Tryz.func282.trans (congrArg some (by kernel_rfl))⟩
 f50 := ⟨Tryz.f283.name, by decide, Tryz.func283.trans (congrArg some (by kernel_rfl))⟩
 f57 := ⟨Tryz.f287.name, by decide, Tryz.func287.trans (congrArg some (by kernel_rfl))⟩
 t0 := Tryz.underlying0
 a0 := Tryz.isAgg0
 z0 := Tryz.sizeOf0
 v0 := Tryz.zeroValue0
 t3 := Tryz.underlying3
 a3 := Tryz.isAgg3
 z3 := Tryz.sizeOf3
 v3 := Tryz.zeroValue3
 t4 := Tryz.underlying4
 a4 := Tryz.isAgg4
 z4 := Tryz.sizeOf4
 v4 := Tryz.zeroValue4
 t5 := Tryz.underlying5
 a5 := Tryz.isAgg5
 z5 := Tryz.sizeOf5
 v5 := Tryz.zeroValue5
 t9 := Tryz.underlying9
 a9 := Tryz.isAgg9
 z9 := Tryz.sizeOf9
 v9 := Tryz.zeroValue9
 t22 := Tryz.underlying145
 a22 := Tryz.isAgg145
 z22 := Tryz.sizeOf145
 v22 := Tryz.zeroValue145
 t25 := Tryz.underlying238
 a25 := Tryz.isAgg238
 z25 := Tryz.sizeOf238
 v25 := Tryz.zeroValue238
 t39 := Tryz.underlying106
 a39 := Tryz.isAgg106
 z39 := Tryz.sizeOf106
 v39 := Tryz.zeroValue106
 t45 := Tryz.underlying170
 a45 := Tryz.isAgg170
 z45 := Tryz.sizeOf170
 v45 := Tryz.zeroValue170
 t46 := Tryz.underlying171
 a46 := Tryz.isAgg171
 z46 := Tryz.sizeOf171
 v46 := Tryz.zeroValue171
 t50 := Tryz.underlying140
 a50 := Tryz.isAgg140
 z50 := Tryz.sizeOf140
 v50 := Tryz.zeroValue140
 t53 := Tryz.underlying177
 a53 := Tryz.isAgg177
 z53 := Tryz.sizeOf177
 v53 := Tryz.zeroValue177
 t55 := Tryz.underlying179
 a55 := Tryz.isAgg179
 z55 := Tryz.sizeOf179
 v55 := Tryz.zeroValue179
 t66 := Tryz.underlying217
 a66 := Tryz.isAgg217
 z66 := Tryz.sizeOf217
 v66 := Tryz.zeroValue217
 t70 := Tryz.underlying221
 a70 := Tryz.isAgg221
 z70 := Tryz.sizeOf221
 v70 := Tryz.zeroValue221
 t76 := Tryz.underlying241
 a76 := Tryz.isAgg241
 z76 := Tryz.sizeOf241
 v76 := Tryz.zeroValue241
 t77 := Tryz.underlying163
 a77 := Tryz.isAgg163
 z77 := Tryz.sizeOf163
 v77 := Tryz.zeroValue163 }
end Go.Proofs
end
section
namespace Go.Proofs.YtmpgmjlanngkfaaGreat
open Go.Abs Go.RowKit
theorem Uv {β : Type} (enc : β → Dat) (cf : β → β → Int) (hO : Go.Sort.SWO (Go.Proofs.ltOf cf)) (g : Nat) (l : List β) (hl : l.length < 4611686018427387904)
  (lB : ∀ x ∈ l, ∀ y ∈ l, PC g [.one (enc x), .one (enc y)] (.v (.one (.lit (.int .i64 (cf x y)))))) :
  HC 58 [.c (.arr 0 0 l.length), .c (.d (.lit (.func (.func g) #[] #[])))] [.arr 0 54 1 (l.map fun x => [enc x])] (.tup []) [.arr 0 54 1 ((sortF cf l).map fun x => [enc x])] :=
 Zm Tryz.srt58 ⟨⟨_, Tryz.func58, by kernel_rfl, by kernel_rfl⟩⟩ 54 enc cf hO g l hl lB
theorem RM {β : Type} (enc : β → List Dat) (hk : ∀ x, (enc x).length = 2) (cf : β → β → Int) (hO : Go.Sort.SWO (Go.Proofs.ltOf cf)) (g : Nat) (l : List β) (hl : l.length < 4611686018427387904)
  (lB : ∀ x ∈ l, ∀ y ∈ l, PC g [.agg (enc x), .agg (enc y)] (.v (.one (.lit (.int .i64 (cf x y)))))) :
  HC 115 [.c (.arr 0 0 l.length), .c (.d (.lit (.func (.func g) #[] #[])))] [.arr 0 98 2 (l.map enc)] (.tup []) [.arr 0 98 2 ((sortF cf l).map enc)] :=
 Oo Tryz.srt115 ⟨⟨_, Tryz.func115, by kernel_rfl, by kernel_rfl⟩⟩ 98 2 (by decide) Tryz.isAgg98 Tryz.sizeOf98 enc hk cf hO g l hl lB
theorem Lp {β : Type} (enc : β → List Dat) (hk : ∀ x, (enc x).length = 2) (cf : β → β → Int) (hO : Go.Sort.SWO (Go.Proofs.ltOf cf)) (g : Nat) (l : List β) (hl : l.length < 4611686018427387904)
  (lB : ∀ x ∈ l, ∀ y ∈ l, PC g [.agg (enc x), .agg (enc y)] (.v (.one (.lit (.int .i64 (cf x y)))))) :
  HC 201 [.c (.arr 0 0 l.length), .c (.d (.lit (.func (.func g) #[] #[])))] [.arr 0 56 2 (l.map enc)] (.tup []) [.arr 0 56 2 ((sortF cf l).map enc)] :=
 Oo Tryz.srt201 ⟨⟨_, Tryz.func201, by kernel_rfl, by kernel_rfl⟩⟩ 56 2 (by decide) Tryz.isAgg56 Tryz.sizeOf56 enc hk cf hO g l hl lB
theorem RN {β : Type} (enc : β → List Dat) (hk : ∀ x, (enc x).length = 4) (cf : β → β → Int) (hO : Go.Sort.SWO (Go.Proofs.ltOf cf)) (g : Nat) (l : List β) (hl : l.length < 4611686018427387904)
  (lB : ∀ x ∈ l, ∀ y ∈ l, PC g [.agg (enc x), .agg (enc y)] (.v (.one (.lit (.int .i64 (cf x y)))))) :
  HC 237 [.c (.arr 0 0 l.length), .c (.d (.lit (.func (.func g) #[] #[])))] [.arr 0 186 4 (l.map enc)] (.tup []) [.arr 0 186 4 ((sortF cf l).map enc)] :=
 Oo Tryz.srt237 ⟨⟨_, Tryz.func237, by kernel_rfl, by kernel_rfl⟩⟩ 186 4 (by decide) Tryz.isAgg186 Tryz.sizeOf186 enc hk cf hO g l hl lB
end Go.Proofs.YtmpgmjlanngkfaaGreat
end
