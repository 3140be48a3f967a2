/-
  The table of the types of the program, and that it is the program's own. Printed by a program of ours out of the translation.
-/
import Derived.Test.YtmpgmjlanngkfaaGreatHol
import Derived.Lib.ConvBytes
import Derived.Test.YtmpgmjlanngkfaaGreatProg
section
namespace Go.Abs
open Go.RowKit
variable {dst : Option Tmp} {e s t : TypeId} {es : List (List Dat)} {i j k : TI} {l : List UInt8} {x : Operand} {σ : St}
def Mu (b : UInt8) : List Dat := [.lit (.int .u8 b.toNat)]
def Ta (l : List UInt8) : Dat := .sl (l.map Mu)
theorem SRep.c_inv {E : Env} {w : World} {v : Value} {x : Cell} (h : SRep E w v (.c x)) : CRep E w v x := by cases h; assumption
theorem Ir : ∀ (l : List UInt8) (r : ByteArray), (l.map fun b => ((b.toNat : Nat) : Int)).foldl (fun r n => r.push (UInt8.ofNat n.toNat)) r = ⟨r.data ++ l.toArray⟩
 | [], r => by simp
 | b :: l, r => by
   simp only [List.map_cons, WR, QL]
   rw [Ir l]
   simp [ByteArray.push]
theorem KS {P : Program} {w : World} {F : Nat → Prop} {v : Value} (h : DRep F w v (Ta l)) : (Conv.bytesToString v).run P w = .ok (.string ⟨l.toArray⟩) w := by
 by_cases hne : l = []
 ·subst hne
  rcases h.sl_inv with ⟨_, a, c, rfl⟩ | ⟨b, off, cap, size, us, rfl, _⟩
  ·cases a with
   | none => simp [Conv.bytesToString]; rfl
   | some a =>
     have := run_bytesToString (P := P) w a 0 c [] (by simpa using run_loadCells_list (P := P) w a [] (by simp))
     exact this
  ·have := run_bytesToString (P := P) w ⟨b, off, none⟩ 0 cap [] (by simpa using run_loadCells_list (P := P) w ⟨b, off, none⟩ [] (by simp))
   exact this
 ·obtain ⟨b, off, cap, news, rfl, hnl, hnc, hn1, hflat⟩ := h.flat (esz := 1) (fun e he => by obtain ⟨x, _, rfl⟩ := List.mem_map.1 he; rfl) (by simpa using hne)
  have hn : news = (l.map fun b => ((b.toNat : Nat) : Int)).map (Value.int .u8) := by
   apply PJ
   intro i
   simp only [BQ, Nat.mul_one] at hnl
   by_cases hi : i < l.length
   · have hg : news[i]? = some (news[i]'(by omega)) := Bh _
     have hq := hflat i 0 (Mu l[i]) (news[i]'(by omega)) (.lit (.int .u8 l[i].toNat)) (by rw [B2, Bh hi]; rfl) rfl (by simp [hg])
     rw [hg]
     simp only [B2, Bh hi, Option.map_some, Option.some.injEq]
     generalize news[i]'(by omega) = u at hq
     cases hq; rfl
   · rw [UZ (by omega), UZ (by simp; omega)]
  have hl := run_loadCells_list (P := P) w ⟨b, off, none⟩ news (fun j u hu => hnc j u hu)
  simp only [BQ, Nat.mul_one] at hnl
  rw [hnl] at hl
  subst hn
  have := run_bytesToString (P := P) w ⟨b, off, none⟩ l.length cap _ hl
  rw [Ir] at this
  simpa using this
section
variable {P : Program} {T : TypeId → Option TI} {F0 : Nat → Prop} {w0 : World}
variable {dr : Bool} {ops rest : List Oper} {K : St → Prop} {n : Nat} {sl : List (Nat × SVal)} {mem : List Blk} {ck : Nat} {df : List (FuncId × List Cell)} {acc : List Nat}
variable {d : Tmp} {op : Op} {ty : TypeId} {pos : String} {aft : Array Edge} {g : Option (Nat × Bool)}
theorem Jx [tc : TC P T] {b : ByteArray} 
  (h : Reg P F0 w0 dr ops K rest ⟨n, (d, .c (.d (Ta b.data.toList))) :: sl, mem, ck, df⟩ (0 :: acc)) (hw : GW ops g sl := by first | exact trivial | exact rfl) (hx : AH sl x = .c (.d (.lit (.string b))) := by exact rfl) (hb : (b.size : Int) ≤ 9223372036854775807 := by omega)
  (hs : T s = some i := by exact rfl) (hi : i.desc = .str := by exact rfl) (ht : T t = some j := by exact rfl) (hj : j.desc = .slice e := by exact rfl) (he : T e = some k := by exact rfl) (hk : k.desc = .int .u8 := by exact rfl) :
  Reg P F0 w0 dr ops K (⟨some d, .convert s t x, ty, pos, aft, g⟩ :: rest) ⟨n, sl, mem, ck, df⟩ acc := by
 refine FD hw (fun m c => Bx fun E w ρ hw' hρ => ?_) h
 have e1 := hρ x (by simp [Op.operands])
 rw [hx] at e1
 have e1 := e1.lit_inv
 have us : P.underlying s = some .string := by have := (tc.ok s i hs).desc; rw [hi] at this; exact this
 have ut : P.underlying t = some (.slice e) := by have := (tc.ok t j ht).desc; rw [hj] at this; exact this
 have ue : P.underlying e = some (.int .u8) := by have := (tc.ok e k he).desc; rw [hk] at this; exact this
 have hr := Go.Lib.run_convert_string_bytes (P := P) w s t e b us ut ue
 have hbel : Bel w.heap.size w (Go.Lib.bytesWorld w e b) := by
  refine ⟨⟨?_, ?_, ?_, ?_, fun k hk => Go.Lib.bytesWorld_at_old w e b k hk⟩, ?_⟩
  · unfold Go.Lib.bytesWorld World.freeze; split <;> rfl
  · unfold Go.Lib.bytesWorld World.freeze; split <;> rfl
  · unfold Go.Lib.bytesWorld World.freeze; split <;> rfl
  · rw [Go.Lib.bytesWorld_size]; omega
  · unfold Go.Lib.bytesWorld World.freeze; split <;> exact Nat.le_succ _
 have hlat := hw'.later hbel (fun k => k = w.heap.size) (fun k q => by subst q; rw [Go.Lib.bytesWorld_size]; omega)
 refine ⟨.slice (some ⟨w.heap.size, 0, none⟩) b.size (grownCap w b.size 0 e), Go.Lib.bytesWorld w e b, _, by simp [execOp, e1, hr], hlat.2, hlat.1, .c (.d ?_)⟩
 have hm : b.size ≤ maxLen := by simp only [maxLen]; omega
 have hsz : b.data.toList.length = b.size := by simp
 have hd := DRep.sl (F := fun k => E.F k ∨ k = w.heap.size) (w := Go.Lib.bytesWorld w e b) (b.data.toList.map Mu) w.heap.size 0 (grownCap w b.size 0 e) 1 (fun i _ => .int .u8 (b.data.toList.getD i 0).toNat) (.inr rfl)
  (by rw [BQ, hsz]; exact grownCap_ge w _ _ e) (grownCap_le_maxLen w _ _ e hm) (fun el hel => by obtain ⟨x, _, rfl⟩ := List.mem_map.1 hel; rfl)
  (fun i j hi hj => by
    have hj0 : j = 0 := by omega
    subst hj0
    rw [BQ, hsz] at hi
    simpa using Go.Lib.bytesWorld_cell w e b i hi)
  (fun i j el x q1 q2 => by
    rw [B2] at q1
    cases hq : b.data.toList[i]? with
    | none => rw [hq] at q1; cases q1
    | some y =>
      rw [hq] at q1
      simp only [Option.map_some, Option.some.injEq] at q1
      subst q1
      match j with
      | 0 =>
        simp only [Mu, List.getElem?_cons_zero, Option.some.injEq] at q2
        subst q2
        simp only [List.getD, hq, Sg]
        exact .lit _ rfl
      | j + 1 => simp [Mu] at q2)
 rw [BQ, hsz] at hd
 exact hd
theorem HG [tc : TC P T] 
  (h : Reg P F0 w0 dr ops K rest ⟨n, (d, .c (.d (.lit (.string ⟨l.toArray⟩)))) :: sl, mem, ck, df⟩ (0 :: acc)) (hw : GW ops g sl := by first | exact trivial | exact rfl) (hx : AH sl x = .c (.d (.sl es)) := by exact rfl) (hes : es = l.map Mu := by exact rfl)
  (hs : T s = some i := by exact rfl) (hi : i.desc = .slice e := by exact rfl) (ht : T t = some j := by exact rfl) (hj : j.desc = .str := by exact rfl) (he : T e = some k := by exact rfl) (hk : k.desc = .int .u8 := by exact rfl) :
  Reg P F0 w0 dr ops K (⟨some d, .convert s t x, ty, pos, aft, g⟩ :: rest) ⟨n, sl, mem, ck, df⟩ acc := by
 subst hes
 refine FD hw (Hk fun E w ρ hρ => ?_) h
 have e1 := hρ x (by simp [Op.operands])
 rw [hx] at e1
 have us : P.underlying s = some (.slice e) := by have := (tc.ok s i hs).desc; rw [hi] at this; exact this
 have ut : P.underlying t = some .string := by have := (tc.ok t j ht).desc; rw [hj] at this; exact this
 have ue : P.underlying e = some (.int .u8) := by have := (tc.ok e k he).desc; rw [hk] at this; exact this
 have hd := e1.d_inv
 have hb := KS (P := P) (l := l) hd
 obtain ⟨a, m, c, hv⟩ : ∃ a m c, ρ x = .slice a m c := by
  rcases hd.sl_inv with ⟨_, a, c, hv⟩ | ⟨b, off, cap, size, us, hv, _⟩
  · exact ⟨_, _, _, hv⟩
  · exact ⟨_, _, _, hv⟩
 refine ⟨.string ⟨l.toArray⟩, ?_, .c (.d (.lit _ rfl))⟩
 rw [hv] at hb
 simp only [execOp, hv, Sem.run_bind, run_convert_bytes_string w s t e a m c us ue ut, hb, Result.andThen_ok, Sem.run_pure]
theorem KT [tc : TC P T] {ety : TypeId} {r k' m z : Nat} 
  (h : Reg P F0 w0 dr ops K rest ⟨n, (d, .c (.d (.lit (.string ⟨l.toArray⟩)))) :: sl, mem, ck, df⟩ (1 :: acc)) (hw : GW ops g sl := by first | exact trivial | exact rfl) (hx : AH sl x = .c (.arr r k' m) := by exact rfl) (hm : mem[r]? = some (.arr k' ety z es) := by exact rfl) (hes : es.take m = l.map Mu ∧ m ≤ es.length := by exact And.intro G7 (by simp))
  (hs : T s = some i := by exact rfl) (hi : i.desc = .slice e := by exact rfl) (ht : T t = some j := by exact rfl) (hj : j.desc = .str := by exact rfl) (he : T e = some k := by exact rfl) (hk : k.desc = .int .u8 := by exact rfl) :
  Reg P F0 w0 dr ops K (⟨some d, .convert s t x, ty, pos, aft, g⟩ :: rest) ⟨n, sl, mem, ck, df⟩ acc := by
 refine CU hw hm (fun mem ck hm => Bx fun E w ρ hw' hρ => ?_) h
 have e1 := hρ x (by simp [Op.operands])
 rw [hx] at e1
 have us : P.underlying s = some (.slice e) := by have := (tc.ok s i hs).desc; rw [hi] at this; exact this
 have ut : P.underlying t = some .string := by have := (tc.ok t j ht).desc; rw [hj] at this; exact this
 have ue : P.underlying e = some (.int .u8) := by have := (tc.ok e k he).desc; rw [hk] at this; exact this
 have hd : DRep (fun b => E.F b ∨ b = E.blk r) w (ρ x) (.sl (es.take m)) := by
  exact D2 hw' hm hes.2 e1.c_inv (fun b hb => .inl hb) (fun _ => .inr rfl)
 rw [hes.1] at hd
 have hb := KS (P := P) (l := l) hd
 obtain ⟨a, m', c, hv⟩ : ∃ a m c, ρ x = .slice a m c := by
  rcases hd.sl_inv with ⟨_, a, c, hv⟩ | ⟨b, off, cap, size, us, hv, _⟩
  · exact ⟨_, _, _, hv⟩
  · exact ⟨_, _, _, hv⟩
 refine ⟨.string ⟨l.toArray⟩, w, E, ?_, EnvLe.refl _ _, hw', .c (.d (.lit _ rfl))⟩
 rw [hv] at hb
 simp only [execOp, hv, Sem.run_bind, run_convert_bytes_string w s t e a m' c us ue ut, hb, Result.andThen_ok, Sem.run_pure]
theorem LS [tc : TC P T] {t' : TypeId} 
  (h : ∀ b : Bool, (b = true → es = []) → Reg P F0 w0 false ops K rest ⟨n, (d, .c (.d (.lit (.bool b)))) :: sl, mem, ck, df⟩ (2 :: acc)) (hw : GW ops g sl := by first | exact trivial | exact rfl) (hx : AH sl x = .c (.d (.sl es)) := by exact rfl)
  (ht : T t = some i := by exact rfl) (hi : i.desc = .slice e := by exact rfl) :
  Reg P F0 w0 false ops K (⟨some d, .binOp .eql t x (.const (.slice none 0 0)) t', ty, pos, aft, g⟩ :: rest) ⟨n, sl, mem, ck, df⟩ acc := by
 refine VR (R := fun v m c1 df' => (∃ b : Bool, (b = true → es = []) ∧ v = .c (.d (.lit (.bool b))) ∧ m = mem ∧ c1 = ck) ∧ df' = []) rfl hw (YS fun E w ρ hc hw' hρ => ?_) ?_
 ·have e1 := hρ x (by simp [Op.operands])
  rw [hx] at e1
  have ut : P.underlying t = some (.slice e) := by have := (tc.ok t i ht).desc; rw [hi] at this; exact this
  have hd := e1.d_inv
  obtain ⟨a, m, c, hv, hn⟩ : ∃ a m c, ρ x = .slice a m c ∧ (a.isNone = true → es = []) := by
    rcases hd.sl_inv with ⟨hq, a, c, hv⟩ | ⟨b, off, cap, size, us, hv, _⟩
    ·exact ⟨_, _, _, hv, fun _ => hq⟩
    ·exact ⟨_, _, _, hv, fun q => by cases q⟩
  have key : ∀ d, (Op.equalIn (d + 1) t (.slice a m c) (.slice none 0 0)).run P w = .ok a.isNone w := by
    intro d
    cases a <;> simp [Op.equalIn, run_underlying ut]
  refine ⟨.bool a.isNone, w, E, _, _, _, ?_, EnvLe.refl _ _, hw', .c (.d (.lit _ rfl)), a.isNone, hn, rfl, rfl, rfl⟩
  have k2 : (Op.equal t (.slice a m c) (.slice none 0 0)).run P w = .ok a.isNone w := key 9999
  simp only [execOp, hv, hc, Sem.run_bind, eqGuard_at_slice, Sem.run_pure, Result.andThen_ok, binOp, k2]
 ·rintro v m c1 df' ⟨⟨b, q1, rfl, rfl, rfl⟩, rfl⟩
  exact h b q1
theorem P2 (h : Reg P F0 w0 dr ops K (⟨dst, (.nilCheck x), ty, pos, aft, g⟩ :: rest) σ acc) : Reg P F0 w0 dr ops K (⟨dst, (.nilCheck x), ty, pos, aft, g⟩ :: rest) σ acc := h
theorem M9 {x : Option Operand} (h : Reg P F0 w0 dr ops K (⟨dst, (.makeMap t x), ty, pos, aft, g⟩ :: rest) σ acc) : Reg P F0 w0 dr ops K (⟨dst, (.makeMap t x), ty, pos, aft, g⟩ :: rest) σ acc := h
theorem Na (h : Reg P F0 w0 dr ops K (⟨dst, (.range t x), ty, pos, aft, g⟩ :: rest) σ acc) : Reg P F0 w0 dr ops K (⟨dst, (.range t x), ty, pos, aft, g⟩ :: rest) σ acc := h
theorem Fz {s : ByteArray} {b : UInt8} {z : Int} {i : Nat} (h : s[i]? = some b) (e : z = i) : 0 ≤ z ∧ s[z.toNat]? = some b := by subst e; exact ⟨by omega, by simpa using h⟩
theorem m3 {k k1 : Nat} {kt vt : TypeId} {es es1 : List (Value × PV)} {bs bs1 : List Nat} {c c1 : Nat} {a b : List Blk} (he : es = es1) (hb : bs = bs1) (hc : c = c1) (h : Ar a b) (hk : k = k1 := by first | exact rfl | omega) : Ar (.map k kt vt es bs c :: a) (.map k1 kt vt es1 bs1 c1 :: b) := by subst he; subst hb; subst hc; subst hk; exact Ab h
theorem m4 {k k1 r k' since since1 : Nat} {sb sb1 : List Nat} {a b : List Blk} (he : sb = sb1) (h : Ar a b) (hk : k = k1 := by exact rfl) (hs : since = since1 := by first | exact rfl | omega) : Ar (.iter k r k' since sb :: a) (.iter k1 r k' since1 sb1 :: b) := by subst he; subst hs; subst hk; exact Ab h
theorem ab {m m' : List Blk} (h : Ar m m') : Ar m m' := h
theorem cK {x y : SVal} (h : AM x y) : AM x y := h
end
end Go.Abs
end
section
namespace Go.Proofs.YtmpgmjlanngkfaaGreat
open Go.Abs
def cV : TI := { size := 1, bytes := 8, zero := [.int .i64 0], desc := .int .i64 }
def cW : TI := { size := 1, bytes := 8, zero := [.int .i64 0], desc := .int .i64 }
def cX : TI := { size := 1, bytes := 1, zero := [.bool false], desc := .bool }
def cY : TI := { size := 1, bytes := 1, zero := [.int .u8 0], desc := .int .u8 }
def cZ : TI := { size := 1, bytes := 16, zero := [.string ⟨#[]⟩], desc := .str }
def aG : TI := { size := 1, bytes := 24, zero := [.slice none 0 0], desc := .slice 3 }
def aH : TI := { size := 1, bytes := 24, zero := [.slice none 0 0], desc := .slice 66 }
def aI : TI := { size := 1, bytes := 24, zero := [.slice none 0 0], desc := .slice 109 }
def aJ : TI := { size := 1, bytes := 24, zero := [.slice none 0 0], desc := .slice 86 }
def aK : TI := { size := 1, bytes := 24, zero := [.slice none 0 0], desc := .slice 49 }
def aL : TI := { size := 9, bytes := 160, zero := [.string ⟨#[]⟩, .int .i64 0, .string ⟨#[]⟩, .string ⟨#[]⟩, .slice none 0 0, .slice none 0 0, .slice none 0 0, .bool false, .slice none 0 0], desc := .struct [(0, 9), (1, 3), (2, 9), (3, 9), (4, 25), (5, 26), (6, 27), (7, 4), (8, 28)] }
def aM : TI := { size := 1, bytes := 24, zero := [.slice none 0 0], desc := .slice 56 }
def aN : TI := { size := 3, bytes := 48, zero := [.string ⟨#[]⟩, .int .i64 0, .slice none 0 0], desc := .struct [(0, 9), (1, 3), (2, 26)] }
def aO : TI := { size := 1, bytes := 24, zero := [.slice none 0 0], desc := .slice 54 }
def aP : TI := { size := 1, bytes := 24, zero := [.slice none 0 0], desc := .slice 73 }
def R3 : TI := { size := 2, bytes := 32, zero := [.slice none 0 0, .int .i64 0], desc := .struct [(0, 54), (1, 2)] }
def aQ : TI := { size := 1, bytes := 24, zero := [.slice none 0 0], desc := .slice 100 }
def aR : TI := { size := 2, bytes := 32, zero := [.slice none 0 0, .int .i64 0], desc := .struct [(0, 22), (1, 3)] }
def WE : TI := { size := 2, bytes := 16, zero := [.int .i64 0, .int .i64 0], desc := .array 2 3 }
def aT : TI := { size := 1, bytes := 24, zero := [.slice none 0 0], desc := .slice 2 }
def R4 : TI := { size := 3, bytes := 32, zero := [.int .i64 0, .int .i64 0, .string ⟨#[]⟩], desc := .struct [(0, 3), (1, 2), (2, 9)], eqs := true }
def aU : TI := { size := 2, bytes := 40, zero := [.string ⟨#[]⟩, .slice none 0 0], desc := .struct [(0, 9), (1, 26)] }
def aV : TI := { size := 1, bytes := 24, zero := [.slice none 0 0], desc := .slice 98 }
def WG : TI := { size := 2, bytes := 48, zero := [.slice none 0 0, .slice none 0 0], desc := .struct [(0, 54), (1, 32)] }
def Xr : TI := { size := 4, bytes := 80, zero := [.slice none 0 0, .int .i64 0, .slice none 0 0, .slice none 0 0], desc := .struct [(0, 54), (1, 2), (2, 71), (3, 71)] }
def Xs : TI := { size := 1, bytes := 8, zero := [.int .u64 0], desc := .int .u64 }
def Xt : TI := { size := 5, bytes := 48, zero := [.int .i64 0, .int .i64 0, .int .i64 0, .string ⟨#[]⟩, .int .i64 0], desc := .struct [(0, 3), (1, 73), (4, 3)] }
def Xu : TI := { size := 1, bytes := 24, zero := [.slice none 0 0], desc := .slice 9 }
def Xv : TI := { size := 1, bytes := 24, zero := [.slice none 0 0], desc := .slice 26 }
def Xw : TI := { size := 1, bytes := 24, zero := [.slice none 0 0], desc := .slice 5 }
def Xx : TI := { size := 1, bytes := 8, zero := [.map none], desc := .plain }
def Xy : TI := { size := 1, bytes := 24, zero := [.slice none 0 0], desc := .slice 186 }
def Xz : TI := { size := 2, bytes := 48, zero := [.slice none 0 0, .slice none 0 0], desc := .array 2 32 }
def XA : TI := { size := 1, bytes := 24, zero := [.slice none 0 0], desc := .slice 161 }
def XB : TI := { size := 9, bytes := 96, zero := [.int .i64 0, .int .i64 0, .string ⟨#[]⟩, .int .i64 0, .int .i64 0, .string ⟨#[]⟩, .int .i64 0, .int .i64 0, .string ⟨#[]⟩], desc := .array 3 73 }
def ti186 : TI := { size := 4, bytes := 40, zero := [.int .i64 0, .int .i64 0, .string ⟨#[]⟩, .int .i64 0], desc := .struct [(0, 73), (3, 2)] }
def XC : TI := { size := 1, bytes := 8, zero := [.map none], desc := .plain }
def XD : TI := { size := 1, bytes := 24, zero := [.slice none 0 0], desc := .slice 200 }
def XE : TI := { size := 2, bytes := 24, zero := [.string ⟨#[]⟩, .int .i64 0], desc := .struct [(0, 9), (1, 2)], eqs := true }
def XF : TI := { size := 1, bytes := 8, zero := [.map none], desc := .plain }
def XG : TI := { size := 1, bytes := 24, zero := [.slice none 0 0], desc := .slice 232 }
def XH : TI := { size := 3, bytes := 56, zero := [.slice none 0 0, .map none, .slice none 0 0], desc := .struct [(0, 203), (1, 202), (2, 198)] }
def XI : TI := { size := 3, bytes := 56, zero := [.slice none 0 0, .map none, .slice none 0 0], desc := .struct [(0, 203), (1, 202), (2, 198)] }
def XJ : TI := { size := 2, bytes := 40, zero := [.string ⟨#[]⟩, .slice none 0 0], desc := .struct [(0, 9), (1, 113)] }
def c8 : TTree := (.node (.node (.node (.node (.node (.node .nil 2 cV .nil) 3 cW .nil) 4 cX (.node (.node .nil 5 cY .nil) 9 cZ .nil)) 22 aG (.node (.node (.node .nil 25 aH .nil) 26 aI .nil) 27 aJ (.node (.node .nil 28 aK .nil) 30 aL .nil))) 32 aM (.node (.node (.node (.node .nil 49 aN .nil) 51 aO .nil) 54 aP (.node (.node .nil 56 R3 .nil) 58 aQ .nil)) 64 aR (.node (.node (.node .nil 66 WE .nil) 71 aT .nil) 73 R4 (.node .nil 86 aU .nil)))) 95 aV (.node (.node (.node (.node (.node .nil 98 WG .nil) 100 Xr .nil) 106 Xs (.node (.node .nil 109 Xt .nil) 113 Xu .nil)) 116 Xv (.node (.node (.node .nil 125 Xw .nil) 137 Xx .nil) 145 Xy (.node .nil 161 Xz .nil))) 162 XA (.node (.node (.node (.node .nil 165 XB .nil) 186 ti186 .nil) 195 XC (.node (.node .nil 198 XD .nil) 200 XE .nil)) 202 XF (.node (.node (.node .nil 203 XG .nil) 204 XH .nil) 205 XI (.node .nil 232 XJ .nil)))))
def T : TypeId → Option TI := Jk c8
theorem cB : TOk Tryz.prog 2 cV := D3 (.int .i64 0) (by kernel_rfl) rfl rfl (show Tryz.prog.underlying 2 = some (.int .i64) by kernel_rfl) (fun h => by cases h)
theorem cC : TOk Tryz.prog 3 cW := D3 (.int .i64 0) (by kernel_rfl) rfl rfl (show Tryz.prog.underlying 3 = some (.int .i64) by kernel_rfl) (fun h => by cases h)
theorem cD : TOk Tryz.prog 4 cX := D3 (.bool false) (by kernel_rfl) rfl rfl (show Tryz.prog.underlying 4 = some (.bool) by kernel_rfl) (fun h => by cases h)
theorem cE : TOk Tryz.prog 5 cY := D3 (.int .u8 0) (by kernel_rfl) rfl rfl (show Tryz.prog.underlying 5 = some (.int .u8) by kernel_rfl) (fun h => by cases h)
theorem cF : TOk Tryz.prog 9 cZ := D3 (.string ⟨#[]⟩) (by kernel_rfl) rfl rfl (show Tryz.prog.underlying 9 = some (.string) by kernel_rfl) (fun h => by cases h)
theorem aW : TOk Tryz.prog 22 aG := D3 (.slice none 0 0) (by kernel_rfl) rfl rfl (show Tryz.prog.underlying 22 = some (.slice 3) by kernel_rfl) (fun h => by cases h)
theorem aX : TOk Tryz.prog 25 aH := D3 (.slice none 0 0) (by kernel_rfl) rfl rfl (show Tryz.prog.underlying 25 = some (.slice 66) by kernel_rfl) (fun h => by cases h)
theorem aY : TOk Tryz.prog 26 aI := D3 (.slice none 0 0) (by kernel_rfl) rfl rfl (show Tryz.prog.underlying 26 = some (.slice 109) by kernel_rfl) (fun h => by cases h)
theorem aZ : TOk Tryz.prog 27 aJ := D3 (.slice none 0 0) (by kernel_rfl) rfl rfl (show Tryz.prog.underlying 27 = some (.slice 86) by kernel_rfl) (fun h => by cases h)
theorem a7 : TOk Tryz.prog 28 aK := D3 (.slice none 0 0) (by kernel_rfl) rfl rfl (show Tryz.prog.underlying 28 = some (.slice 49) by kernel_rfl) (fun h => by cases h)
theorem a8 : TOk Tryz.prog 30 aL := D3 (.agg #[.string ⟨#[]⟩, .int .i64 0, .string ⟨#[]⟩, .string ⟨#[]⟩, .slice none 0 0, .slice none 0 0, .slice none 0 0, .bool false, .slice none 0 0]) (by kernel_rfl) rfl rfl (show (Tryz.prog.underlying 30).map Bl = some (some [(0, 9), (1, 3), (2, 9), (3, 9), (4, 25), (5, 26), (6, 27), (7, 4), (8, 28)]) by kernel_rfl) (fun h => by cases h)
theorem ba : TOk Tryz.prog 32 aM := D3 (.slice none 0 0) (by kernel_rfl) rfl rfl (show Tryz.prog.underlying 32 = some (.slice 56) by kernel_rfl) (fun h => by cases h)
theorem bc : TOk Tryz.prog 49 aN := D3 (.agg #[.string ⟨#[]⟩, .int .i64 0, .slice none 0 0]) (by kernel_rfl) rfl rfl (show (Tryz.prog.underlying 49).map Bl = some (some [(0, 9), (1, 3), (2, 26)]) by kernel_rfl) (fun h => by cases h)
theorem bf : TOk Tryz.prog 51 aO := D3 (.slice none 0 0) (by kernel_rfl) rfl rfl (show Tryz.prog.underlying 51 = some (.slice 54) by kernel_rfl) (fun h => by cases h)
theorem bg : TOk Tryz.prog 54 aP := D3 (.slice none 0 0) (by kernel_rfl) rfl rfl (show Tryz.prog.underlying 54 = some (.slice 73) by kernel_rfl) (fun h => by cases h)
theorem bh : TOk Tryz.prog 56 R3 := D3 (.agg #[.slice none 0 0, .int .i64 0]) (by kernel_rfl) rfl rfl (show (Tryz.prog.underlying 56).map Bl = some (some [(0, 54), (1, 2)]) by kernel_rfl) (fun h => by cases h)
theorem bj : TOk Tryz.prog 58 aQ := D3 (.slice none 0 0) (by kernel_rfl) rfl rfl (show Tryz.prog.underlying 58 = some (.slice 100) by kernel_rfl) (fun h => by cases h)
theorem bk : TOk Tryz.prog 64 aR := D3 (.agg #[.slice none 0 0, .int .i64 0]) (by kernel_rfl) rfl rfl (show (Tryz.prog.underlying 64).map Bl = some (some [(0, 22), (1, 3)]) by kernel_rfl) (fun h => by cases h)
theorem bn : TOk Tryz.prog 66 WE := D3 (.agg #[.int .i64 0, .int .i64 0]) (by kernel_rfl) rfl rfl (show Tryz.prog.underlying 66 = some (.array 2 3) by kernel_rfl) (fun h => by cases h)
theorem bq : TOk Tryz.prog 71 aT := D3 (.slice none 0 0) (by kernel_rfl) rfl rfl (show Tryz.prog.underlying 71 = some (.slice 2) by kernel_rfl) (fun h => by cases h)
theorem br : TOk Tryz.prog 73 R4 := D3 (.agg #[.int .i64 0, .int .i64 0, .string ⟨#[]⟩]) (by kernel_rfl) rfl rfl (show (Tryz.prog.underlying 73).map Bl = some (some [(0, 3), (1, 2), (2, 9)]) by kernel_rfl) (fun _ => Z0 (by kernel_rfl) (by kernel_rfl) (by kernel_rfl) (by kernel_rfl))
theorem bt : TOk Tryz.prog 86 aU := D3 (.agg #[.string ⟨#[]⟩, .slice none 0 0]) (by kernel_rfl) rfl rfl (show (Tryz.prog.underlying 86).map Bl = some (some [(0, 9), (1, 26)]) by kernel_rfl) (fun h => by cases h)
theorem bu : TOk Tryz.prog 95 aV := D3 (.slice none 0 0) (by kernel_rfl) rfl rfl (show Tryz.prog.underlying 95 = some (.slice 98) by kernel_rfl) (fun h => by cases h)
theorem bw : TOk Tryz.prog 98 WG := D3 (.agg #[.slice none 0 0, .slice none 0 0]) (by kernel_rfl) rfl rfl (show (Tryz.prog.underlying 98).map Bl = some (some [(0, 54), (1, 32)]) by kernel_rfl) (fun h => by cases h)
theorem Y4 : TOk Tryz.prog 100 Xr := D3 (.agg #[.slice none 0 0, .int .i64 0, .slice none 0 0, .slice none 0 0]) (by kernel_rfl) rfl rfl (show (Tryz.prog.underlying 100).map Bl = some (some [(0, 54), (1, 2), (2, 71), (3, 71)]) by kernel_rfl) (fun h => by cases h)
theorem Y5 : TOk Tryz.prog 106 Xs := D3 (.int .u64 0) (by kernel_rfl) rfl rfl (show Tryz.prog.underlying 106 = some (.int .u64) by kernel_rfl) (fun h => by cases h)
theorem Y6 : TOk Tryz.prog 109 Xt := D3 (.agg #[.int .i64 0, .int .i64 0, .int .i64 0, .string ⟨#[]⟩, .int .i64 0]) (by kernel_rfl) rfl rfl (show (Tryz.prog.underlying 109).map Bl = some (some [(0, 3), (1, 73), (4, 3)]) by kernel_rfl) (fun h => by cases h)
theorem Y7 : TOk Tryz.prog 113 Xu := D3 (.slice none 0 0) (by kernel_rfl) rfl rfl (show Tryz.prog.underlying 113 = some (.slice 9) by kernel_rfl) (fun h => by cases h)
theorem Y8 : TOk Tryz.prog 116 Xv := D3 (.slice none 0 0) (by kernel_rfl) rfl rfl (show Tryz.prog.underlying 116 = some (.slice 26) by kernel_rfl) (fun h => by cases h)
theorem Y9 : TOk Tryz.prog 125 Xw := D3 (.slice none 0 0) (by kernel_rfl) rfl rfl (show Tryz.prog.underlying 125 = some (.slice 5) by kernel_rfl) (fun h => by cases h)
theorem Za : TOk Tryz.prog 137 Xx := D3 (.map none) (by kernel_rfl) rfl rfl (show (Tryz.prog.underlying 137).map Jj = some true by kernel_rfl) (fun h => by cases h)
theorem Zb : TOk Tryz.prog 145 Xy := D3 (.slice none 0 0) (by kernel_rfl) rfl rfl (show Tryz.prog.underlying 145 = some (.slice 186) by kernel_rfl) (fun h => by cases h)
theorem Zc : TOk Tryz.prog 161 Xz := D3 (.agg #[.slice none 0 0, .slice none 0 0]) (by kernel_rfl) rfl rfl (show Tryz.prog.underlying 161 = some (.array 2 32) by kernel_rfl) (fun h => by cases h)
theorem Zd : TOk Tryz.prog 162 XA := D3 (.slice none 0 0) (by kernel_rfl) rfl rfl (show Tryz.prog.underlying 162 = some (.slice 161) by kernel_rfl) (fun h => by cases h)
theorem Ze : TOk Tryz.prog 165 XB := D3 (.agg #[.int .i64 0, .int .i64 0, .string ⟨#[]⟩, .int .i64 0, .int .i64 0, .string ⟨#[]⟩, .int .i64 0, .int .i64 0, .string ⟨#[]⟩]) (by kernel_rfl) rfl rfl (show Tryz.prog.underlying 165 = some (.array 3 73) by kernel_rfl) (fun h => by cases h)
theorem Zf : TOk Tryz.prog 186 ti186 := D3 (.agg #[.int .i64 0, .int .i64 0, .string ⟨#[]⟩, .int .i64 0]) (by kernel_rfl) rfl rfl (show (Tryz.prog.underlying 186).map Bl = some (some [(0, 73), (3, 2)]) by kernel_rfl) (fun h => by cases h)
theorem Zg : TOk Tryz.prog 195 XC := D3 (.map none) (by kernel_rfl) rfl rfl (show (Tryz.prog.underlying 195).map Jj = some true by kernel_rfl) (fun h => by cases h)
theorem Zh : TOk Tryz.prog 198 XD := D3 (.slice none 0 0) (by kernel_rfl) rfl rfl (show Tryz.prog.underlying 198 = some (.slice 200) by kernel_rfl) (fun h => by cases h)
theorem Zi : TOk Tryz.prog 200 XE := D3 (.agg #[.string ⟨#[]⟩, .int .i64 0]) (by kernel_rfl) rfl rfl (show (Tryz.prog.underlying 200).map Bl = some (some [(0, 9), (1, 2)]) by kernel_rfl) (fun _ => Z0 (by kernel_rfl) (by kernel_rfl) (by kernel_rfl) (by kernel_rfl))
theorem Zj : TOk Tryz.prog 202 XF := D3 (.map none) (by kernel_rfl) rfl rfl (show (Tryz.prog.underlying 202).map Jj = some true by kernel_rfl) (fun h => by cases h)
theorem Zk : TOk Tryz.prog 203 XG := D3 (.slice none 0 0) (by kernel_rfl) rfl rfl (show Tryz.prog.underlying 203 = some (.slice 232) by kernel_rfl) (fun h => by cases h)
theorem Zl : TOk Tryz.prog 204 XH := D3 (.agg #[.slice none 0 0, .map none, .slice none 0 0]) (by kernel_rfl) rfl rfl (show (Tryz.prog.underlying 204).map Bl = some (some [(0, 203), (1, 202), (2, 198)]) by kernel_rfl) (fun h => by cases h)
theorem Zm : TOk Tryz.prog 205 XI := D3 (.agg #[.slice none 0 0, .map none, .slice none 0 0]) (by kernel_rfl) rfl rfl (show (Tryz.prog.underlying 205).map Bl = some (some [(0, 203), (1, 202), (2, 198)]) by kernel_rfl) (fun h => by cases h)
theorem Zn : TOk Tryz.prog 232 XJ := D3 (.agg #[.string ⟨#[]⟩, .slice none 0 0]) (by kernel_rfl) rfl rfl (show (Tryz.prog.underlying 232).map Bl = some (some [(0, 9), (1, 113)]) by kernel_rfl) (fun h => by cases h)
theorem hT : AE Tryz.prog T := Vm (show PS Tryz.prog c8 from ⟨⟨⟨⟨⟨⟨trivial, cB, trivial⟩, cC, trivial⟩, cD, ⟨⟨trivial, cE, trivial⟩, cF, trivial⟩⟩, aW, ⟨⟨⟨trivial, aX, trivial⟩, aY, trivial⟩, aZ, ⟨⟨trivial, a7, trivial⟩, a8, trivial⟩⟩⟩, ba, ⟨⟨⟨⟨trivial, bc, trivial⟩, bf, trivial⟩, bg, ⟨⟨trivial, bh, trivial⟩, bj, trivial⟩⟩, bk, ⟨⟨⟨trivial, bn, trivial⟩, bq, trivial⟩, br, ⟨trivial, bt, trivial⟩⟩⟩⟩, bu, ⟨⟨⟨⟨⟨trivial, bw, trivial⟩, Y4, trivial⟩, Y5, ⟨⟨trivial, Y6, trivial⟩, Y7, trivial⟩⟩, Y8, ⟨⟨⟨trivial, Y9, trivial⟩, Za, trivial⟩, Zb, ⟨trivial, Zc, trivial⟩⟩⟩, Zd, ⟨⟨⟨⟨trivial, Ze, trivial⟩, Zf, trivial⟩, Zg, ⟨⟨trivial, Zh, trivial⟩, Zi, trivial⟩⟩, Zj, ⟨⟨⟨trivial, Zk, trivial⟩, Zl, trivial⟩, Zm, ⟨trivial, Zn, trivial⟩⟩⟩⟩⟩)
theorem Zo : Tryz.prog.follows .mixedOrders = true := by kernel_rfl
instance tcI : TC Tryz.prog T := ⟨hT, Zo⟩
instance mt137 : MapTy Tryz.prog 137 9 3 := ⟨by kernel_rfl⟩
instance ko9 : KeyOk Tryz.prog 9 Iz := YT (by kernel_rfl)
instance zv3 : ZeroV Tryz.prog 3 (.one (.lit (.int .i64 0))) := Lq (by kernel_rfl) rfl
instance mt195 : MapTy Tryz.prog 195 9 198 := ⟨by kernel_rfl⟩
instance zv198 : ZeroV Tryz.prog 198 (.one (.sl [])) := RV (by kernel_rfl)
instance mt202 : MapTy Tryz.prog 202 9 2 := ⟨by kernel_rfl⟩
instance zv2 : ZeroV Tryz.prog 2 (.one (.lit (.int .i64 0))) := Lq (by kernel_rfl) rfl
abbrev HC := HCall Tryz.prog
abbrev PC := PCall Tryz.prog
end Go.Proofs.YtmpgmjlanngkfaaGreat
end
