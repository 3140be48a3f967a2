/-
  The rules of the walk in the form in which the walk uses them.
-/
import Derived.Test.YtlacmjfgaehhkaaEngE
namespace Go.Abs
open Go.RowKit

theorem neg_i64 {z : Int} (h1 : -9223372036854775807 ≤ z) (h2 : z ≤ 9223372036854775807) : IntKind.i64.wrap (0 - z) = -z := by
  rw [wrap_i64 (by omega) (by omega)]; omega
theorem pres_agg {xs : List Dat} {cs : List Cell} (h : xs.map Cell.d = cs) : (PRes.v (.agg xs)).s = .agg cs := by subst h; rfl
theorem pres_ca {x : Dat} {xs : List Dat} {cs : List Cell} (h : xs.map Cell.d = cs) : (PRes.tup [.one x, .agg xs]).s = .tup [.c (.d x), .agg cs] := by subst h; rfl
theorem pres_ac {x : Dat} {xs : List Dat} {cs : List Cell} (h : xs.map Cell.d = cs) : (PRes.tup [.agg xs, .one x]).s = .tup [.agg cs, .c (.d x)] := by subst h; rfl

theorem cut_to {α : Type} {f : α → List Dat} {l : List α} {hi : Nat} : ((l.map f).take ((hi : Nat) : Int).toNat).drop ((0 : Nat) : Int).toNat = (l.take hi).map f := by
  simp only [Int.toNat_natCast, List.drop_zero, List.map_take]
theorem cut_from {α : Type} {f : α → List Dat} {l : List α} {lo : Nat} : ((l.map f).take (((l.map f).length : Nat) : Int).toNat).drop ((lo : Nat) : Int).toNat = (l.drop lo).map f := by
  simp only [Int.toNat_natCast, List.take_length, List.map_drop]
theorem cut_both {α : Type} {f : α → List Dat} {l : List α} {lo hi : Nat} : ((l.map f).take ((hi : Nat) : Int).toNat).drop ((lo : Nat) : Int).toNat = ((l.take hi).drop lo).map f := by
  simp only [Int.toNat_natCast, List.map_drop, List.map_take]
theorem cut_from1 {α : Type} {f : α → List Dat} {l : List α} : ((l.map f).take (((l.map f).length : Nat) : Int).toNat).drop (1 : Int).toNat = (l.drop 1).map f := cut_from (lo := 1)

theorem slots_nil {σ : St} : slotsIn σ [] := trivial
theorem slots_cons {n : Nat} {sl : List (Nat × SVal)} {mem : List Blk} {ck : Nat} {df : List (FuncId × List Cell)} {t : Nat} {v u : SVal} {l : List (Nat × SVal)} (hu : look sl t = u) (h : VLe u v) (h' : slotsIn ⟨n, sl, mem, ck, df⟩ l) : slotsIn ⟨n, sl, mem, ck, df⟩ ((t, v) :: l) := ⟨by subst hu; exact h, h'⟩
theorem slots_refl {n : Nat} {sl : List (Nat × SVal)} {mem : List Blk} {ck : Nat} {df : List (FuncId × List Cell)} {t : Nat} {v : SVal} {l : List (Nat × SVal)} (hu : look sl t = v) (h' : slotsIn ⟨n, sl, mem, ck, df⟩ l) : slotsIn ⟨n, sl, mem, ck, df⟩ ((t, v) :: l) := ⟨.inl hu, h'⟩

section
variable {P : Program} {T : TypeId → Option TI} {F0 : Nat → Prop} {w0 : World} {dr : Bool} {ops rest : List Oper} {K : St → Prop} {n : Nat} {sl : List (Nat × SVal)} {mem : List Blk} {ck : Nat} {df : List (FuncId × List Cell)} {acc : List Nat}
variable {d : Tmp} {op : Op} {ty : TypeId} {pos : String} {aft : Array Edge} {g : Option (Nat × Bool)}

theorem q_box (hT : TypesOk P T) {t : TypeId} {x : Operand} {r : Nat} {v : SVal} {cs cs' : List Cell} {mem' : List Blk} (hw : GW ops g sl) (hx : evS sl x = v) (hc : v.cells = some cs) (hn : cs = cs') (hr : mem.length = r) (hm' : mem ++ [Blk.box (ck + 1) cs'] = mem')
    (h : Reg P F0 w0 dr ops K rest ⟨n, (d, .c (.bp r (ck + 1) 0)) :: sl, mem', ck + 1, df⟩ (2 :: acc)) : Reg P F0 w0 dr ops K (⟨some d, .box t x, ty, pos, aft, g⟩ :: rest) ⟨n, sl, mem, ck, df⟩ acc := by
  subst hn; exact r_box hT hw hx hc hr hm' h

theorem q_make (hT : TypesOk P T) {t e : TypeId} {l c : Operand} {i : TI} {k k' : IntKind} {z z' : Int} {zs : List Dat} {r m esz bts : Nat} {ze : List Value} {de : TD} {eq : Bool} {mem' : List Blk} (hw : GW ops g sl) (hl : evS sl l = .c (.d (.lit (.int k z)))) (hc : evS sl c = .c (.d (.lit (.int k' z')))) (ht : T t = some i) (hi : i.desc = .slice e) (hei : T e = some ⟨esz, bts, ze, de, eq⟩)
    (hzs : dats (ze.map valCell) = some zs) (hk : (Nat.blt 0 esz && Nat.beq ze.length esz) = true) (h0 : 0 ≤ z) (hzz : z ≤ z') (hmx : z' ≤ 9223372036854775807) (hby : (bts : Int) * z' ≤ 281474976710656) (hr : mem.length = r) (hm : z.toNat = m) (hm' : mem ++ [Blk.arr (ck + 1) e esz (List.replicate m zs)] = mem')
    (h : Reg P F0 w0 dr ops K rest ⟨n, (d, .c (.arr r (ck + 1) m)) :: sl, mem', ck + 1, df⟩ (2 :: acc)) : Reg P F0 w0 dr ops K (⟨some d, .makeSlice t l c, ty, pos, aft, g⟩ :: rest) ⟨n, sl, mem, ck, df⟩ acc :=
  r_make hT hw hl hc ht hi hei hzs hk h0 hzz hmx hby hr hm hm' h

theorem q_appE (hT : TypesOk P T) {t e : TypeId} {x y : Operand} {i : TI} {u : SVal} {ys : List (List Dat)} {r m esz bts : Nat} {ze : List Value} {de : TD} {eq : Bool} {mem' : List Blk} (hw : GW ops g sl) (hx : evS sl x = .c .emp) (hy : evS sl y = u) (hs : srcOf u = some ys) (ht : T t = some i) (hi : i.desc = .slice e) (hei : T e = some ⟨esz, bts, ze, de, eq⟩) (hk : (Nat.blt 0 esz && Nat.beq ze.length esz) = true)
    (hsz : ∀ el ∈ ys, el.length = esz) (hl : ys.length = m) (hmx : (m : Int) ≤ 9223372036854775807) (hby : m * bts ≤ 140737488355328) (hr : mem.length = r) (hm' : mem ++ [Blk.arr (ck + 1) e esz ys] = mem')
    (h : Reg P F0 w0 dr ops K rest ⟨n, (d, .c (.arr r (ck + 1) m)) :: sl, mem', ck + 1, df⟩ (2 :: acc)) : Reg P F0 w0 dr ops K (⟨some d, .call ⟨.builtin .append, #[x, y], #[t, t]⟩, ty, pos, aft, g⟩ :: rest) ⟨n, sl, mem, ck, df⟩ acc :=
  r_appE hT hw hx hy hs ht hi hei hk hsz hl hmx hby hr hm' h

theorem q_appA (hT : TypesOk P T) {t e : TypeId} {x y : Operand} {i : TI} {u : SVal} {ys es es' : List (List Dat)} {r k j m esz bts : Nat} {ze : List Value} {de : TD} {eq : Bool} {mem' : List Blk} (hw : GW ops g sl) (hx : evS sl x = .c (.arr r k j)) (hy : evS sl y = u) (hs : srcOf u = some ys) (ht : T t = some i) (hi : i.desc = .slice e) (hei : T e = some ⟨esz, bts, ze, de, eq⟩) (hk : (Nat.blt 0 esz && Nat.beq ze.length esz) = true)
    (hm : mem[r]? = some (.arr k e esz es)) (hsz : ∀ el ∈ ys, el.length = esz) (hj : j ≤ es.length) (hl : j + ys.length = m) (hmx : (m : Int) ≤ 9223372036854775807) (hby : m * bts ≤ 140737488355328) (hes : es.take j ++ ys = es') (hm' : mem.set r (Blk.arr (ck + 1) e esz es') = mem')
    (h : Reg P F0 w0 dr ops K rest ⟨n, (d, .c (.arr r (ck + 1) m)) :: sl, mem', ck + 1, df⟩ (2 :: acc)) : Reg P F0 w0 dr ops K (⟨some d, .call ⟨.builtin .append, #[x, y], #[t, t]⟩, ty, pos, aft, g⟩ :: rest) ⟨n, sl, mem, ck, df⟩ acc :=
  r_appA hT hw hx hy hs ht hi hei hk hm rfl hsz hj hl hmx hby hes hm' h

/-- All of an array of the call's own, and something behind it. -/
theorem app_all {es ys es' : List (List Dat)} {j : Nat} (hj : es.length = j) (h : es ++ ys = es') : es.take j ++ ys = es' := by subst hj; subst h; simp
end

/- Which operation stands next. -/
section
variable {P : Program} {F0 : Nat → Prop} {w0 : World} {dr : Bool} {ops rest : List Oper} {K : St → Prop} {σ : St} {acc : List Nat} {dst : Option Tmp} {ty : TypeId} {pos : String} {aft : Array Edge} {g : Option (Nat × Bool)}
theorem is_move {x : Operand} (h : Reg P F0 w0 dr ops K (⟨dst, (.move x), ty, pos, aft, g⟩ :: rest) σ acc) : Reg P F0 w0 dr ops K (⟨dst, (.move x), ty, pos, aft, g⟩ :: rest) σ acc := h
theorem is_assign {x : Operand} (h : Reg P F0 w0 dr ops K (⟨dst, (.assign x), ty, pos, aft, g⟩ :: rest) σ acc) : Reg P F0 w0 dr ops K (⟨dst, (.assign x), ty, pos, aft, g⟩ :: rest) σ acc := h
theorem is_pick {x y z : Operand} (h : Reg P F0 w0 dr ops K (⟨dst, (.pick x y z), ty, pos, aft, g⟩ :: rest) σ acc) : Reg P F0 w0 dr ops K (⟨dst, (.pick x y z), ty, pos, aft, g⟩ :: rest) σ acc := h
theorem is_field {t : TypeId} {x : Operand} {f : Nat} (h : Reg P F0 w0 dr ops K (⟨dst, (.fieldAddr t x f), ty, pos, aft, g⟩ :: rest) σ acc) : Reg P F0 w0 dr ops K (⟨dst, (.fieldAddr t x f), ty, pos, aft, g⟩ :: rest) σ acc := h
theorem is_load {t : TypeId} {x : Operand} (h : Reg P F0 w0 dr ops K (⟨dst, (.load t x), ty, pos, aft, g⟩ :: rest) σ acc) : Reg P F0 w0 dr ops K (⟨dst, (.load t x), ty, pos, aft, g⟩ :: rest) σ acc := h
theorem is_store {t : TypeId} {x y : Operand} (h : Reg P F0 w0 dr ops K (⟨dst, (.store t x y), ty, pos, aft, g⟩ :: rest) σ acc) : Reg P F0 w0 dr ops K (⟨dst, (.store t x y), ty, pos, aft, g⟩ :: rest) σ acc := h
theorem is_index {t : TypeId} {x y : Operand} (h : Reg P F0 w0 dr ops K (⟨dst, (.indexAddr t x y), ty, pos, aft, g⟩ :: rest) σ acc) : Reg P F0 w0 dr ops K (⟨dst, (.indexAddr t x y), ty, pos, aft, g⟩ :: rest) σ acc := h
theorem is_bin {bo : BinOp} {t t' : TypeId} {x y : Operand} (h : Reg P F0 w0 dr ops K (⟨dst, (.binOp bo t x y t'), ty, pos, aft, g⟩ :: rest) σ acc) : Reg P F0 w0 dr ops K (⟨dst, (.binOp bo t x y t'), ty, pos, aft, g⟩ :: rest) σ acc := h
theorem is_un {uo : UnOp} {t : TypeId} {x : Operand} (h : Reg P F0 w0 dr ops K (⟨dst, (.unOp uo t x), ty, pos, aft, g⟩ :: rest) σ acc) : Reg P F0 w0 dr ops K (⟨dst, (.unOp uo t x), ty, pos, aft, g⟩ :: rest) σ acc := h
theorem is_conv {t t' : TypeId} {x : Operand} (h : Reg P F0 w0 dr ops K (⟨dst, (.convert t t' x), ty, pos, aft, g⟩ :: rest) σ acc) : Reg P F0 w0 dr ops K (⟨dst, (.convert t t' x), ty, pos, aft, g⟩ :: rest) σ acc := h
theorem is_call {f : Operand} {args : Array Operand} {ats : Array TypeId} (h : Reg P F0 w0 dr ops K (⟨dst, (.call ⟨.value f, args, ats⟩), ty, pos, aft, g⟩ :: rest) σ acc) : Reg P F0 w0 dr ops K (⟨dst, (.call ⟨.value f, args, ats⟩), ty, pos, aft, g⟩ :: rest) σ acc := h
theorem is_built {b : Builtin} {args : Array Operand} {ats : Array TypeId} (h : Reg P F0 w0 dr ops K (⟨dst, (.call ⟨.builtin b, args, ats⟩), ty, pos, aft, g⟩ :: rest) σ acc) : Reg P F0 w0 dr ops K (⟨dst, (.call ⟨.builtin b, args, ats⟩), ty, pos, aft, g⟩ :: rest) σ acc := h
theorem is_build {t : TypeId} {ps : Array (Nat × Operand)} (h : Reg P F0 w0 dr ops K (⟨dst, (.build t ps), ty, pos, aft, g⟩ :: rest) σ acc) : Reg P F0 w0 dr ops K (⟨dst, (.build t ps), ty, pos, aft, g⟩ :: rest) σ acc := h
theorem is_bslice {t : TypeId} {k : Nat} {ps : Array (Nat × Operand)} (h : Reg P F0 w0 dr ops K (⟨dst, (.buildSlice t k ps), ty, pos, aft, g⟩ :: rest) σ acc) : Reg P F0 w0 dr ops K (⟨dst, (.buildSlice t k ps), ty, pos, aft, g⟩ :: rest) σ acc := h
theorem is_mslice {t : TypeId} {x y : Operand} (h : Reg P F0 w0 dr ops K (⟨dst, (.makeSlice t x y), ty, pos, aft, g⟩ :: rest) σ acc) : Reg P F0 w0 dr ops K (⟨dst, (.makeSlice t x y), ty, pos, aft, g⟩ :: rest) σ acc := h
theorem is_mfunc {f : Fn} {a b : Array Operand} (h : Reg P F0 w0 dr ops K (⟨dst, (.makeFunc f a b), ty, pos, aft, g⟩ :: rest) σ acc) : Reg P F0 w0 dr ops K (⟨dst, (.makeFunc f a b), ty, pos, aft, g⟩ :: rest) σ acc := h
theorem is_extract {x : Operand} {i : Nat} (h : Reg P F0 w0 dr ops K (⟨dst, (.extract x i), ty, pos, aft, g⟩ :: rest) σ acc) : Reg P F0 w0 dr ops K (⟨dst, (.extract x i), ty, pos, aft, g⟩ :: rest) σ acc := h
theorem is_box {t : TypeId} {x : Operand} (h : Reg P F0 w0 dr ops K (⟨dst, (.box t x), ty, pos, aft, g⟩ :: rest) σ acc) : Reg P F0 w0 dr ops K (⟨dst, (.box t x), ty, pos, aft, g⟩ :: rest) σ acc := h
theorem is_alloc {t : TypeId} (h : Reg P F0 w0 dr ops K (⟨dst, (.alloc t), ty, pos, aft, g⟩ :: rest) σ acc) : Reg P F0 w0 dr ops K (⟨dst, (.alloc t), ty, pos, aft, g⟩ :: rest) σ acc := h
theorem is_slice {t : TypeId} {x : Operand} {a b c : Option Operand} (h : Reg P F0 w0 dr ops K (⟨dst, (.slice t x a b c), ty, pos, aft, g⟩ :: rest) σ acc) : Reg P F0 w0 dr ops K (⟨dst, (.slice t x a b c), ty, pos, aft, g⟩ :: rest) σ acc := h
theorem is_defer {c : Call} (h : Reg P F0 w0 dr ops K (⟨dst, (.defer c), ty, pos, aft, g⟩ :: rest) σ acc) : Reg P F0 w0 dr ops K (⟨dst, (.defer c), ty, pos, aft, g⟩ :: rest) σ acc := h
theorem is_guard {op : Op} {j : Nat} {b : Bool} (h : Reg P F0 w0 dr ops K (⟨dst, op, ty, pos, aft, some (j, b)⟩ :: rest) σ acc) : Reg P F0 w0 dr ops K (⟨dst, op, ty, pos, aft, some (j, b)⟩ :: rest) σ acc := h
theorem is_end (h : Reg P F0 w0 dr ops K [] σ acc) : Reg P F0 w0 dr ops K [] σ acc := h
theorem is_cond {B : Base} {c : Operand} {x y : Code} {Q : Ex → St → Prop} (h : ARun P B (.cond c x y) σ Q) : ARun P B (.cond c x y) σ Q := h
theorem is_region {B : Base} {i : Nat} {os : Array Oper} {d : Bool} {Q : Ex → St → Prop} (h : ARun P B (.region i os d) σ Q) : ARun P B (.region i os d) σ Q := h
theorem is_exit {B : Base} {R : Ex → St → Prop} {id i : Nat} {ks : List Fr} (h : kont P B R (.block id :: ks) (.exit i) σ) : kont P B R (.block id :: ks) (.exit i) σ := h
theorem is_fin {B : Base} {T : TypeId → Option TI} {rs : List ResultVar} {r : PRes} {e : Ex} (h : kont P B (fin P T rs r) [] e σ) : kont P B (fin P T rs r) [] e σ := h
theorem is_res {T : TypeId → Option TI} {x : ResultVar} {V : SVal → Prop} (h : resVal T σ x V) : resVal T σ x V := h
theorem is_cfs {m : List Blk} {cs : List Cell} {xs : List Dat} (h : CFs m cs xs) : CFs m cs xs := h
theorem is_cf {m : List Blk} {c : Cell} {x : Dat} (h : CF m c x) : CF m c x := h
end

/-- A function that only makes memory of its own, entered. -/
theorem pcallS {P : Program} {T : TypeId → Option TI} (hT : TypesOk P T) {f : FuncId} {fn : Func} {c : Code} {args : List PV} {r : PRes} {sl : List (Nat × SVal)} (hf : P.funcs[f]? = some fn) (hb : fn.body = some c) (hnm : (fn.name == "runtime.NumGoroutine") = false)
    (n : Nat) (rs : List ResultVar) (hnt : fn.ntmps = n) (hrs : fn.results.toList = rs) (hn : decide (args.length ≤ n) = true) (hsl : idxs args 0 = sl) (h : ∀ B, ARun P B c ⟨n, sl, [], 0, []⟩ (kont P B (fin P T rs r) [])) : PCall P f args r := by
  subst hsl
  exact pcall hT hf hb hnm n rs hnt hrs hn h

theorem mcallS {P : Program} {T : TypeId → Option TI} (hT : TypesOk P T) {F0 : Nat → Prop} {w0 : World} {f : FuncId} {fn : Func} {c : Code} {args : List SVal} {mem : List Blk} {clock : Nat} {R : SVal → List Blk → Nat → Prop} {sl : List (Nat × SVal)} (hf : P.funcs[f]? = some fn) (hb : fn.body = some c) (hnm : (fn.name == "runtime.NumGoroutine") = false)
    (n : Nat) (rs : List ResultVar) (hnt : fn.ntmps = n) (hrs : fn.results.toList = rs) (hn : decide (args.length ≤ n) = true) (hsl : idxS args 0 = sl) (h : ∀ B : Base, B.F0 = F0 → B.w0 = w0 → ARun P B c ⟨n, sl, mem, clock, []⟩ (kont P B (finM P T rs R) [])) : MCall P F0 w0 f args mem clock R := by
  subst hsl
  exact MCall.enter hT hf hb hnm n rs hnt hrs hn h

section
variable {P : Program} {T : TypeId → Option TI} {B : Base} {n : Nat} {sl : List (Nat × SVal)} {mem : List Blk} {ck : Nat} {df : List (FuncId × List Cell)} {R' : SVal → List Blk → Nat → Prop}
theorem fm_ret0 (hd : defersOk P df) (h : R' (.tup []) mem ck) : kont P B (finM P T [] R') [] .ret ⟨n, sl, mem, ck, df⟩ := ⟨hd, h⟩
theorem fm_end0 (hd : defersOk P df) (h : R' (.tup []) mem ck) : kont P B (finM P T [] R') [] .norm ⟨n, sl, mem, ck, df⟩ := ⟨hd, h⟩
theorem fm_ret1 {t : Nat} {v : SVal} (hd : defersOk P df) (hv : look sl t = v) (h : R' v mem ck) : kont P B (finM P T [.tmp t] R') [] .ret ⟨n, sl, mem, ck, df⟩ := ⟨hd, by simp only [resM, resVal, St.get, hv]; exact h⟩
theorem fm_retG {a t r k o : Nat} {i : TI} {cs cs' : List Cell} (hd : defersOk P df) (h : look sl a = .c (.bp r k o)) (ht : T t = some i) (ha : i.desc.agg = true) (hm : mem[r]? = some (.box k cs)) (hs : decide (o + i.size ≤ cs.length) = true) (hcs : (cs.drop o).take i.size = cs') (h' : R' (.agg cs') mem ck) : kont P B (finM P T [.cell a t] R') [] .ret ⟨n, sl, mem, ck, df⟩ := by
  subst hcs
  refine ⟨hd, ?_⟩
  simp only [resM, resVal, St.get, h, aLoad, ht, ha, hm]
  exact ⟨.inl trivial, trivial, by simpa using hs, h'⟩
theorem is_finM {σ : St} {rs : List ResultVar} {e : Ex} (h : kont P B (finM P T rs R') [] e σ) : kont P B (finM P T rs R') [] e σ := h
end
end Go.Abs
