/-
  Comparisons of what is known to be the same: the answer is a literal.
-/
import Derived.Test.YtmpgmjlanngkfaaGreatHoa
import Derived.Lib.ConvBytes
section
namespace Go.Abs
open Go.RowKit
def Mg (b : UInt8) : List Dat := [.lit (.int .u8 b.toNat)]
def SI (l : List UInt8) : Dat := .sl (l.map Mg)
theorem SRep.c_inv {E : Env} {w : World} {v : Value} {x : Cell} (h : SRep E w v (.c x)) : CRep E w v x := by cases h; assumption
theorem ID : ∀ (l : List UInt8) (r : ByteArray), (l.map fun b => ((b.toNat : Nat) : Int)).foldl (fun r n => r.push (UInt8.ofNat n.toNat)) r = ⟨r.data ++ l.toArray⟩
 | [], r => by simp
 | b :: l, r => by
   simp only [List.map_cons, List.foldl_cons, Int.toNat_natCast]
   rw [ID l]
   simp [ByteArray.push]
theorem KF {P : Program} {w : World} {F : Nat → Prop} {v : Value} {l : List UInt8} (h : DRep F w v (SI l)) : (Conv.bytesToString v).run P w = .ok (.string ⟨l.toArray⟩) w := by
 by_cases hne : l = []
 ·subst hne
  rcases h.sl_inv with ⟨_, a, c, rfl⟩ | ⟨b, off, cap, size, us, rfl, _⟩
  ·cases a with
   | none => simp [Conv.bytesToString]; rfl
   | some a =>
     have := run_bytesToString (P := P) w a 0 c [] (by simpa using run_loadCells_list (P := P) w a [] (by simp))
     exact this
  ·have := run_bytesToString (P := P) w ⟨b, off, none⟩ 0 cap [] (by simpa using run_loadCells_list (P := P) w ⟨b, off, none⟩ [] (by simp))
   exact this
 ·obtain ⟨b, off, cap, news, rfl, hnl, hnc, hn1, hflat⟩ := h.flat (esz := 1) (fun e he => by obtain ⟨x, _, rfl⟩ := List.mem_map.1 he; rfl) (by simpa using hne)
  have hn : news = (l.map fun b => ((b.toNat : Nat) : Int)).map (Value.int .u8) := by
   apply List.ext_getElem?
   intro i
   simp only [List.length_map, Nat.mul_one] at hnl
   by_cases hi : i < l.length
   · have hg : news[i]? = some (news[i]'(by omega)) := List.getElem?_eq_getElem _
     have hq := hflat i 0 (Mg l[i]) (news[i]'(by omega)) (.lit (.int .u8 l[i].toNat)) (by rw [List.getElem?_map, List.getElem?_eq_getElem hi]; rfl) rfl (by simp [hg])
     rw [hg]
     simp only [List.getElem?_map, List.getElem?_eq_getElem hi, Option.map_some, Option.some.injEq]
     generalize news[i]'(by omega) = u at hq
     cases hq; rfl
   · rw [List.getElem?_eq_none (by omega), List.getElem?_eq_none (by simp; omega)]
  have hl := run_loadCells_list (P := P) w ⟨b, off, none⟩ news (fun j u hu => hnc j u hu)
  simp only [List.length_map, Nat.mul_one] at hnl
  rw [hnl] at hl
  subst hn
  have := run_bytesToString (P := P) w ⟨b, off, none⟩ l.length cap _ hl
  rw [ID] at this
  simpa using this
section
variable {P : Program} {T : TypeId → Option TI} {F0 : Nat → Prop} {w0 : World}
variable {dr : Bool} {ops rest : List Oper} {K : St → Prop} {n : Nat} {sl : List (Nat × SVal)} {mem : List Blk} {ck : Nat} {df : List (FuncId × List Cell)} {acc : List Nat}
variable {d : Tmp} {op : Op} {ty : TypeId} {pos : String} {aft : Array Edge} {g : Option (Nat × Bool)}
theorem Jy [tc : TC P T] {s t e : TypeId} {x : Operand} {b : ByteArray} {i j k : TI}
  (h : Reg P F0 w0 dr ops K rest ⟨n, (d, .c (.d (SI b.data.toList))) :: sl, mem, ck, df⟩ (0 :: acc)) (hw : GW ops g sl := by first | exact trivial | exact rfl) (hx : AC sl x = .c (.d (.lit (.string b))) := by exact rfl) (hb : (b.size : Int) ≤ 9223372036854775807 := by omega)
  (hs : T s = some i := by exact rfl) (hi : i.desc = .str := by exact rfl) (ht : T t = some j := by exact rfl) (hj : j.desc = .slice e := by exact rfl) (he : T e = some k := by exact rfl) (hk : k.desc = .int .u8 := by exact rfl) :
  Reg P F0 w0 dr ops K (⟨some d, .convert s t x, ty, pos, aft, g⟩ :: rest) ⟨n, sl, mem, ck, df⟩ acc := by
 refine FG hw (fun m c => Bp fun E w ρ hw' hρ => ?_) h
 have e1 := hρ x (by simp [Op.operands])
 rw [hx] at e1
 have e1 := e1.lit_inv
 have us : P.underlying s = some .string := by have := (tc.ok s i hs).desc; rw [hi] at this; exact this
 have ut : P.underlying t = some (.slice e) := by have := (tc.ok t j ht).desc; rw [hj] at this; exact this
 have ue : P.underlying e = some (.int .u8) := by have := (tc.ok e k he).desc; rw [hk] at this; exact this
 have hr := Go.Lib.run_convert_string_bytes (P := P) w s t e b us ut ue
 have hbel : Bel w.heap.size w (Go.Lib.bytesWorld w e b) := by
  refine ⟨⟨?_, ?_, ?_, ?_, fun k hk => Go.Lib.bytesWorld_at_old w e b k hk⟩, ?_⟩
  · unfold Go.Lib.bytesWorld World.freeze; split <;> rfl
  · unfold Go.Lib.bytesWorld World.freeze; split <;> rfl
  · unfold Go.Lib.bytesWorld World.freeze; split <;> rfl
  · rw [Go.Lib.bytesWorld_size]; omega
  · unfold Go.Lib.bytesWorld World.freeze; split <;> exact Nat.le_succ _
 have hlat := hw'.later hbel (fun k => k = w.heap.size) (fun k q => by subst q; rw [Go.Lib.bytesWorld_size]; omega)
 refine ⟨.slice (some ⟨w.heap.size, 0, none⟩) b.size (grownCap w b.size 0 e), Go.Lib.bytesWorld w e b, _, by simp [execOp, e1, hr], hlat.2, hlat.1, .c (.d ?_)⟩
 have hm : b.size ≤ maxLen := by simp only [maxLen]; omega
 have hsz : b.data.toList.length = b.size := by simp
 have hd := DRep.sl (F := fun k => E.F k ∨ k = w.heap.size) (w := Go.Lib.bytesWorld w e b) (b.data.toList.map Mg) w.heap.size 0 (grownCap w b.size 0 e) 1 (fun i _ => .int .u8 (b.data.toList.getD i 0).toNat) (.inr rfl)
  (by rw [List.length_map, hsz]; exact grownCap_ge w _ _ e) (grownCap_le_maxLen w _ _ e hm) (fun el hel => by obtain ⟨x, _, rfl⟩ := List.mem_map.1 hel; rfl)
  (fun i j hi hj => by
    have hj0 : j = 0 := by omega
    subst hj0
    rw [List.length_map, hsz] at hi
    simpa using Go.Lib.bytesWorld_cell w e b i hi)
  (fun i j el x q1 q2 => by
    rw [List.getElem?_map] at q1
    cases hq : b.data.toList[i]? with
    | none => rw [hq] at q1; cases q1
    | some y =>
      rw [hq] at q1
      simp only [Option.map_some, Option.some.injEq] at q1
      subst q1
      match j with
      | 0 =>
        simp only [Mg, List.getElem?_cons_zero, Option.some.injEq] at q2
        subst q2
        simp only [List.getD, hq, Option.getD_some]
        exact .lit _ rfl
      | j + 1 => simp [Mg] at q2)
 rw [List.length_map, hsz] at hd
 exact hd
theorem HZ [tc : TC P T] {s t e : TypeId} {x : Operand} {l : List UInt8} {es : List (List Dat)} {i j k : TI}
  (h : Reg P F0 w0 dr ops K rest ⟨n, (d, .c (.d (.lit (.string ⟨l.toArray⟩)))) :: sl, mem, ck, df⟩ (0 :: acc)) (hw : GW ops g sl := by first | exact trivial | exact rfl) (hx : AC sl x = .c (.d (.sl es)) := by exact rfl) (hes : es = l.map Mg := by exact rfl)
  (hs : T s = some i := by exact rfl) (hi : i.desc = .slice e := by exact rfl) (ht : T t = some j := by exact rfl) (hj : j.desc = .str := by exact rfl) (he : T e = some k := by exact rfl) (hk : k.desc = .int .u8 := by exact rfl) :
  Reg P F0 w0 dr ops K (⟨some d, .convert s t x, ty, pos, aft, g⟩ :: rest) ⟨n, sl, mem, ck, df⟩ acc := by
 subst hes
 refine FG hw (GC fun E w ρ hρ => ?_) h
 have e1 := hρ x (by simp [Op.operands])
 rw [hx] at e1
 have us : P.underlying s = some (.slice e) := by have := (tc.ok s i hs).desc; rw [hi] at this; exact this
 have ut : P.underlying t = some .string := by have := (tc.ok t j ht).desc; rw [hj] at this; exact this
 have ue : P.underlying e = some (.int .u8) := by have := (tc.ok e k he).desc; rw [hk] at this; exact this
 have hd := e1.d_inv
 have hb := KF (P := P) (l := l) hd
 obtain ⟨a, m, c, hv⟩ : ∃ a m c, ρ x = .slice a m c := by
  rcases hd.sl_inv with ⟨_, a, c, hv⟩ | ⟨b, off, cap, size, us, hv, _⟩
  · exact ⟨_, _, _, hv⟩
  · exact ⟨_, _, _, hv⟩
 refine ⟨.string ⟨l.toArray⟩, ?_, .c (.d (.lit _ rfl))⟩
 rw [hv] at hb
 simp only [execOp, hv, Sem.run_bind, run_convert_bytes_string w s t e a m c us ue ut, hb, Result.andThen_ok, Sem.run_pure]
theorem KG [tc : TC P T] {s t e ety : TypeId} {x : Operand} {l : List UInt8} {r k' m z : Nat} {es : List (List Dat)} {i j k : TI}
  (h : Reg P F0 w0 dr ops K rest ⟨n, (d, .c (.d (.lit (.string ⟨l.toArray⟩)))) :: sl, mem, ck, df⟩ (1 :: acc)) (hw : GW ops g sl := by first | exact trivial | exact rfl) (hx : AC sl x = .c (.arr r k' m) := by exact rfl) (hm : mem[r]? = some (.arr k' ety z es) := by exact rfl) (hes : es.take m = l.map Mg ∧ m ≤ es.length := by exact And.intro Hs (by simp))
  (hs : T s = some i := by exact rfl) (hi : i.desc = .slice e := by exact rfl) (ht : T t = some j := by exact rfl) (hj : j.desc = .str := by exact rfl) (he : T e = some k := by exact rfl) (hk : k.desc = .int .u8 := by exact rfl) :
  Reg P F0 w0 dr ops K (⟨some d, .convert s t x, ty, pos, aft, g⟩ :: rest) ⟨n, sl, mem, ck, df⟩ acc := by
 refine C6 hw hm (fun mem ck hm => Bp fun E w ρ hw' hρ => ?_) h
 have e1 := hρ x (by simp [Op.operands])
 rw [hx] at e1
 have us : P.underlying s = some (.slice e) := by have := (tc.ok s i hs).desc; rw [hi] at this; exact this
 have ut : P.underlying t = some .string := by have := (tc.ok t j ht).desc; rw [hj] at this; exact this
 have ue : P.underlying e = some (.int .u8) := by have := (tc.ok e k he).desc; rw [hk] at this; exact this
 have hd : DRep (fun b => E.F b ∨ b = E.blk r) w (ρ x) (.sl (es.take m)) := by
  exact Ef hw' hm hes.2 e1.c_inv (fun b hb => .inl hb) (fun _ => .inr rfl)
 rw [hes.1] at hd
 have hb := KF (P := P) (l := l) hd
 obtain ⟨a, m', c, hv⟩ : ∃ a m c, ρ x = .slice a m c := by
  rcases hd.sl_inv with ⟨_, a, c, hv⟩ | ⟨b, off, cap, size, us, hv, _⟩
  · exact ⟨_, _, _, hv⟩
  · exact ⟨_, _, _, hv⟩
 refine ⟨.string ⟨l.toArray⟩, w, E, ?_, EnvLe.refl _ _, hw', .c (.d (.lit _ rfl))⟩
 rw [hv] at hb
 simp only [execOp, hv, Sem.run_bind, run_convert_bytes_string w s t e a m' c us ue ut, hb, Result.andThen_ok, Sem.run_pure]
theorem LF [tc : TC P T] {t t' e : TypeId} {x : Operand} {es : List (List Dat)} {i : TI}
  (h : ∀ b : Bool, (b = true → es = []) → Reg P F0 w0 false ops K rest ⟨n, (d, .c (.d (.lit (.bool b)))) :: sl, mem, ck, df⟩ (2 :: acc)) (hw : GW ops g sl := by first | exact trivial | exact rfl) (hx : AC sl x = .c (.d (.sl es)) := by exact rfl)
  (ht : T t = some i := by exact rfl) (hi : i.desc = .slice e := by exact rfl) :
  Reg P F0 w0 false ops K (⟨some d, .binOp .eql t x (.const (.slice none 0 0)) t', ty, pos, aft, g⟩ :: rest) ⟨n, sl, mem, ck, df⟩ acc := by
 refine U9 (R := fun v m c1 df' => (∃ b : Bool, (b = true → es = []) ∧ v = .c (.d (.lit (.bool b))) ∧ m = mem ∧ c1 = ck) ∧ df' = []) rfl hw (XM fun E w ρ hc hw' hρ => ?_) ?_
 ·have e1 := hρ x (by simp [Op.operands])
  rw [hx] at e1
  have ut : P.underlying t = some (.slice e) := by have := (tc.ok t i ht).desc; rw [hi] at this; exact this
  have hd := e1.d_inv
  obtain ⟨a, m, c, hv, hn⟩ : ∃ a m c, ρ x = .slice a m c ∧ (a.isNone = true → es = []) := by
    rcases hd.sl_inv with ⟨hq, a, c, hv⟩ | ⟨b, off, cap, size, us, hv, _⟩
    ·exact ⟨_, _, _, hv, fun _ => hq⟩
    ·exact ⟨_, _, _, hv, fun q => by cases q⟩
  have key : ∀ d, (Op.equalIn (d + 1) t (.slice a m c) (.slice none 0 0)).run P w = .ok a.isNone w := by
    intro d
    cases a <;> simp [Op.equalIn, run_underlying ut]
  refine ⟨.bool a.isNone, w, E, _, _, _, ?_, EnvLe.refl _ _, hw', .c (.d (.lit _ rfl)), a.isNone, hn, rfl, rfl, rfl⟩
  have k2 : (Op.equal t (.slice a m c) (.slice none 0 0)).run P w = .ok a.isNone w := key 9999
  simp only [execOp, hv, hc, Sem.run_bind, eqGuard_at_slice, Sem.run_pure, Result.andThen_ok, binOp, k2]
 ·rintro v m c1 df' ⟨⟨b, q1, rfl, rfl, rfl⟩, rfl⟩
  exact h b q1
theorem PP {x : Operand} {σ : St} {dst : Option Tmp} (h : Reg P F0 w0 dr ops K (⟨dst, (.nilCheck x), ty, pos, aft, g⟩ :: rest) σ acc) : Reg P F0 w0 dr ops K (⟨dst, (.nilCheck x), ty, pos, aft, g⟩ :: rest) σ acc := h
theorem MM {t : TypeId} {x : Option Operand} {σ : St} {dst : Option Tmp} (h : Reg P F0 w0 dr ops K (⟨dst, (.makeMap t x), ty, pos, aft, g⟩ :: rest) σ acc) : Reg P F0 w0 dr ops K (⟨dst, (.makeMap t x), ty, pos, aft, g⟩ :: rest) σ acc := h
theorem MN {t : TypeId} {x : Operand} {σ : St} {dst : Option Tmp} (h : Reg P F0 w0 dr ops K (⟨dst, (.range t x), ty, pos, aft, g⟩ :: rest) σ acc) : Reg P F0 w0 dr ops K (⟨dst, (.range t x), ty, pos, aft, g⟩ :: rest) σ acc := h
theorem FO {s : ByteArray} {b : UInt8} {z : Int} {i : Nat} (h : s[i]? = some b) (e : z = i) : 0 ≤ z ∧ s[z.toNat]? = some b := by subst e; exact ⟨by omega, by simpa using h⟩
theorem m3 {k k1 : Nat} {kt vt : TypeId} {es es1 : List (Value × PV)} {bs bs1 : List Nat} {c c1 : Nat} {a b : List Blk} (he : es = es1) (hb : bs = bs1) (hc : c = c1) (h : Ar a b) (hk : k = k1 := by first | exact rfl | omega) : Ar (.map k kt vt es bs c :: a) (.map k1 kt vt es1 bs1 c1 :: b) := by subst he; subst hb; subst hc; subst hk; exact Ab h
theorem m4 {k k1 r k' since since1 : Nat} {sb sb1 : List Nat} {a b : List Blk} (he : sb = sb1) (h : Ar a b) (hk : k = k1 := by exact rfl) (hs : since = since1 := by first | exact rfl | omega) : Ar (.iter k r k' since sb :: a) (.iter k1 r k' since1 sb1 :: b) := by subst he; subst hs; subst hk; exact Ab h
theorem YK {m m' : List Blk} (h : Ar m m') : Ar m m' := h
theorem Z1 {x y : SVal} (h : AM x y) : AM x y := h
end
section
variable {P : Program} {T : TypeId → Option TI} {F0 : Nat → Prop} {w0 : World} {dr : Bool} {ops rest : List Oper} {K : St → Prop} {n : Nat} {sl : List (Nat × SVal)} {mem : List Blk} {ck : Nat} {df : List (FuncId × List Cell)} {acc : List Nat} {d : Tmp} {ty : TypeId} {pos : String} {aft : Array Edge} {g : Option (Nat × Bool)}
section
variable {B : Base} {R : Ex → St → Prop} {ks : List Fr}
def Z4 (τ0 : St) : Ex → St → Prop
 | .norm, τ => Weak τ τ0
 | _, _ => False
end
section
variable {B : Base} {m1 mem1 : List Blk} {r r1 : SVal}
end
end
end Go.Abs
end
