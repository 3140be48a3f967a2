/-
  The rules of the walk, continued: slices, numbers, structs, calls.
-/
import Derived.Test.YtmpgmjlanngkfaaGreatEnA
import Derived.KernelRfl
section
namespace Go.Abs
open Go.RowKit
variable {W : List Nat} {args : Array Operand} {mT : Array TypeId} {b : Bool} {c : Code} {cs jq : List Cell} {e iX t t' : TypeId} {ei i : TI} {es ji ys : List (List Dat)} {i6 hi j k k' lo m r : Nat} {fn : Func} {jh : List (Nat × SVal)} {m' f' : List Blk} {p : PV} {u v : SVal} {x y : Operand} {xs : List Dat} {z : Int} {τ : St}
theorem BW {n : Int} (h1 : -9223372036854775808 ≤ n) (h2 : n ≤ 9223372036854775807) : IntKind.i64.wrap n = n := IntWalk.i64_in n ⟨h1, h2⟩
theorem Yy {α : Type} {f : α → List Dat} {l : List α} {x : α} (h : l[j]? = some x) (hz : z.toNat = j) : (l.map f)[z.toNat]? = some (f x) := by
 subst hz; simp [h]
theorem NQ {α β : Type} {f : α → β} {l : List α} : (l.map f).length = l.length := BR ..
theorem Fy {α : Type} {f : α → List Dat} {l : List α} (h : ∀ x, (f x).length = k) : ∀ el ∈ l.map f, el.length = k := by
 intro el jo
 obtain ⟨x, _, rfl⟩ := List.mem_map.1 jo
 exact h x
theorem Bc : ∀ el ∈ ([] : List (List Dat)), el.length = k := by simp
theorem AI {x : List Dat} {l : List (List Dat)} (h : x.length = k) (h' : ∀ el ∈ l, el.length = k) : ∀ el ∈ x :: l, el.length = k := by
 intro el jo
 rcases FL.1 jo with rfl | jo
 ·exact h
 ·exact h' el jo
theorem Yz {α : Type} {f : α → List Dat} {l : List α} : ((l.map f).take hi).drop lo = ((l.take hi).drop lo).map f := by rw [List.map_drop, List.map_take]
section
variable {P : Program} {T : TypeId → Option TI} {F0 : Nat → Prop} {w0 : World} {dr : Bool} {ops rest : List Oper} {K : St → Prop} {n : Nat} {sl : List (Nat × SVal)} {mem : List Blk} {ck : Nat} {df : List (FuncId × List Cell)} {acc : List Nat}
variable {d : Tmp} {op : Op} {ty : TypeId} {pos : String} {iU : Array Edge} {g : Option (Nat × Bool)}
def Jg (sl : List (Nat × SVal)) (qn : Nat) : Option Operand → Option Int
 | none => some qn
 | some x => (match AH sl x with
   | .c (.d (.lit (.int _ z))) => some z
   | _ => none)
theorem Jh {qn : Nat} {o : Option Operand} (he : ∀ x ∈ o.toArray.toList, τ.ev x = AH sl x) (h : Jg sl qn o = some z) : Oz qn (o.map τ.ev) = some z := by
 cases o with
 | none => exact h
 | some x =>
   have := he x (by simp)
   simp only [Jg] at h
   simp only [Option.map_some, this]
   generalize AH sl x = v at h ⊢
   unfold Oz
   split at h
   ·exact h
   ·cases h
theorem Pg (hT : AL P T) {bo : BinOp} {u' : SVal} (hw : GW ops g sl) (hx : AH sl x = u) (hy : AH sl y = u') (hv : ∀ V : SVal → Prop, V v → OF T bo t u u' V)
  (h : Reg P F0 w0 dr ops K rest ⟨n, (d, v) :: sl, mem, ck, df⟩ (0 :: acc)) : Reg P F0 w0 dr ops K (⟨some d, .binOp bo t x y t', ty, pos, iU, g⟩ :: rest) ⟨n, sl, mem, ck, df⟩ acc :=
 Gp hw (fun m c => Does.of hT fun τ he hm hc Kk hK => by
  subst hm; subst hc
  have ex := he x (by simp [Op.operands])
  have ey := he y (by simp [Op.operands])
  rw [hx] at ex
  rw [hy] at ey
  simp only [AV, ex, ey]
  exact hv _ (hK _ _ _ _ ⟨rfl, rfl, rfl, rfl⟩)) h
inductive IntOp : BinOp → IntKind → Int → Int → SVal → Prop
 | add64 {a b : Int} (h1 : -9223372036854775808 ≤ a + b) (h2 : a + b ≤ 9223372036854775807) : IntOp .add .i64 a b (.c (.d (.lit (.int .i64 (a + b)))))
 | add {k : IntKind} {a b : Int} : IntOp .add k a b (.c (.d (.lit (.int k (k.wrap (a + b))))))
 | sub64 {a b : Int} (h1 : -9223372036854775808 ≤ a - b) (h2 : a - b ≤ 9223372036854775807) : IntOp .sub .i64 a b (.c (.d (.lit (.int .i64 (a - b)))))
 | sub {k : IntKind} {a b : Int} : IntOp .sub k a b (.c (.d (.lit (.int k (k.wrap (a - b))))))
 | mul64 {a b : Int} (h1 : -9223372036854775808 ≤ a * b) (h2 : a * b ≤ 9223372036854775807) : IntOp .mul .i64 a b (.c (.d (.lit (.int .i64 (a * b)))))
 | mul {k : IntKind} {a b : Int} : IntOp .mul k a b (.c (.d (.lit (.int k (k.wrap (a * b))))))
 | quoN {a b : Nat} (h : 0 < b) (h2 : (a : Int) ≤ 9223372036854775807) : IntOp .quo .i64 (a : Int) (b : Int) (.c (.d (.lit (.int .i64 ((a / b : Nat) : Int)))))
 | quo {k : IntKind} {a b : Int} (h : b ≠ 0) : IntOp .quo k a b (.c (.d (.lit (.int k (k.wrap (a.tdiv b))))))
 | rem {k : IntKind} {a b : Int} (h : b ≠ 0) : IntOp .rem k a b (.c (.d (.lit (.int k (a.tmod b)))))
 | and {k : IntKind} {a b : Int} : IntOp .and k a b (.c (.d (.lit (.int k (Nr k a b)))))
 | eql {k : IntKind} {a b : Int} : IntOp .eql k a b (.c (.d (.lit (.bool (a == b)))))
 | neq {k : IntKind} {a b : Int} : IntOp .neq k a b (.c (.d (.lit (.bool (a != b)))))
 | lss {k : IntKind} {a b : Int} : IntOp .lss k a b (.c (.d (.lit (.bool (decide (a < b))))))
 | leq {k : IntKind} {a b : Int} : IntOp .leq k a b (.c (.d (.lit (.bool (decide (a ≤ b))))))
 | gtr {k : IntKind} {a b : Int} : IntOp .gtr k a b (.c (.d (.lit (.bool (decide (b < a))))))
 | geq {k : IntKind} {a b : Int} : IntOp .geq k a b (.c (.d (.lit (.bool (decide (b ≤ a))))))
inductive StrOp : BinOp → ByteArray → ByteArray → SVal → Prop
 | add {a b : ByteArray} (h : a.size + b.size ≤ maxLen) : StrOp .add a b (.c (.d (.lit (.string (a ++ b)))))
 | eql {a b : ByteArray} : StrOp .eql a b (.c (.d (.lit (.bool (a.toList == b.toList)))))
 | neq {a b : ByteArray} : StrOp .neq a b (.c (.d (.lit (.bool (!(a.toList == b.toList))))))
 | lss {a b : ByteArray} : StrOp .lss a b (.c (.d (.lit (.bool (Op.bytesLess a.toList b.toList)))))
def Ph (T : TypeId → Option TI) (sl : List (Nat × SVal)) (fs : List (Nat × TypeId)) : List (Nat × Operand) → List Cell → Option (List Cell)
 | [], cs => some cs
 | (i, x) :: rest, cs => match fs[i]?, (AH sl x).cells with
   | some (off, ft), some ns => (match T ft with
     | some j => bif Nat.beq ns.length j.size && Nat.ble (off + ns.length) cs.length then Ph T sl fs rest (cs.take off ++ ns ++ cs.drop (off + ns.length)) else none
     | none => none)
   | _, _ => none
theorem KZ {τ : St} {fs : List (Nat × TypeId)} : ∀ (parts : List (Nat × Operand)) (cs : List Cell), (∀ p ∈ parts, τ.ev p.2 = AH sl p.2) → ∀ jq, Ph T sl fs parts cs = some jq → JI T τ fs parts cs = some jq
 | [], cs, _, jq, h => h
 | (i, x) :: rest, cs, he, jq, h => by
   have hx := he (i, x) (by simp)
   simp only at hx
   unfold Ph at h
   unfold JI
   rw [hx]
   split at h
   · rename_i off ft ns e1 e2
     split at h
     ·rename_i j hj
      cases hc : (Nat.beq ns.length j.size && Nat.ble (off + ns.length) cs.length) with
      | false => rw [hc] at h; simp at h
      | true =>
        rw [hc] at h
        simp only [cond_true] at h
        simp only [BM, Sd, Md] at hc
        simp only [e1, e2, hj]
        rw [if_pos hc]
        have := KZ (τ := τ) rest (cs.take off ++ ns ++ cs.drop (off + ns.length)) (fun p hp => he p (by simp [hp])) jq h
        exact this
     ·cases h
   · cases h
def K0 (sl : List (Nat × SVal)) (size : Nat) : List (Nat × Operand) → Nat → Option (List (List Dat))
 | [], _ => some []
 | (i, x) :: rest, k => bif Nat.beq i k then (match (AH sl x).cells with
     | some cs => (match Eh cs, K0 sl size rest (k + 1) with
       | some ds, some r => bif Nat.beq ds.length size then some (ds :: r) else none
       | _, _ => none)
     | none => none) else none
theorem Ji {τ : St} {size : Nat} : ∀ (parts : List (Nat × Operand)) (k : Nat), (∀ p ∈ parts, τ.ev p.2 = AH sl p.2) → ∀ es, K0 sl size parts k = some es → Ei τ size parts k = some es
 | [], k, _, es, h => h
 | (i, x) :: rest, k, he, es, h => by
   have hx := he (i, x) (by simp)
   simp only at hx
   unfold K0 at h
   unfold Ei
   rw [hx]
   cases hb : Nat.beq i k with
   | false => rw [hb] at h; simp at h
   | true =>
     rw [hb] at h
     simp only [cond_true] at h
     rw [if_pos (dP hb)]
     split at h
     ·rename_i cs jF
      split at h
      ·rename_i ds r nw hr
       cases hc : Nat.beq ds.length size with
       | false => rw [hc] at h; simp at h
       | true =>
         rw [hc] at h
         simp only [cond_true] at h
         have hq := Ji (τ := τ) rest (k + 1) (fun p hp => he p (by simp [hp])) r hr
         simp only [jF, nw, hq]
         rw [if_pos (dP hc)]
         exact h
      ·cases h
     ·cases h
theorem bL (hT : AL P T) {l c : Operand} {k k' : IntKind} {z' : Int} {zs : List Dat} (hw : GW ops g sl) (hl : AH sl l = .c (.d (.lit (.int k z)))) (hc : AH sl c = .c (.d (.lit (.int k' z')))) (ht : T t = some i) (hi : i.desc = .slice e) (jg : T e = some ei)
  (pV : Eh (ei.zero.map B0) = some zs) (hk : (Nat.blt 0 ei.size && Nat.beq ei.zero.length ei.size) = true) (h0 : 0 ≤ z) (vJ : z ≤ z') (mG : z' ≤ 9223372036854775807) (lp : (ei.bytes : Int) * z' ≤ 281474976710656) (hr : mem.length = r) (hm : z.toNat = m) (iZ : mem ++ [Blk.arr (ck + 1) e ei.size (List.replicate m zs)] = f')
  (h : Reg P F0 w0 dr ops K rest ⟨n, (d, .c (.arr r (ck + 1) m)) :: sl, f', ck + 1, df⟩ (2 :: acc)) : Reg P F0 w0 dr ops K (⟨some d, .makeSlice t l c, ty, pos, iU, g⟩ :: rest) ⟨n, sl, mem, ck, df⟩ acc :=
 U6 (jx := []) hw (Does.of hT fun τ he jn je Kk hK => by
  subst jn; subst je; subst hr; subst hm; subst iZ
  have el := he l (by simp [Op.operands])
  have ec := he c (by simp [Op.operands])
  rw [hl] at el
  rw [hc] at ec
  obtain ⟨a1, a2, a3, a4, a5⟩ := i
  simp only at hi
  subst hi
  simp only [BM, Sd, Md, Nat.blt, Tq] at hk
  simp only [AV, OE, ht, jg, el, ec, pV]
  exact ⟨hk.1, hk.2, h0, vJ, mG, lp, hK _ _ _ _ ⟨rfl, rfl, rfl, rfl⟩⟩) h
def Sw (sl : List (Nat × SVal)) : List Operand → Option (List Cell)
 | [] => some []
 | x :: xs => match AH sl x, Sw sl xs with
   | .c c, some cs => some (c :: cs)
   | _, _ => none
theorem Pj {τ : St} : ∀ (xs : List Operand), (∀ x ∈ xs, τ.ev x = AH sl x) → ∀ cs, Sw sl xs = some cs → Gv τ xs = some cs
 | [], _, cs, h => h
 | x :: xs, he, cs, h => by
   unfold Sw at h
   unfold Gv
   rw [he x (by simp)]
   split at h
   ·rename_i c jq e1 e2
    rw [e1, Pj (τ := τ) xs (fun y hy => he y (by simp [hy])) jq e2]
    exact h
   ·cases h
theorem IF {f : Operand} (he : ∀ x ∈ (Op.call ⟨.value f, args, mT⟩).operands.toList, τ.ev x = AH sl x) : τ.ev f = AH sl f ∧ args.toList.map τ.ev = args.toList.map (AH sl) :=
 ⟨he f (by simp [Op.operands, Call.operands]), dE fun x hx => he x (by simp only [Op.operands, Call.operands]; simp; exact .inr (by simpa using hx))⟩
theorem YA (hT : AL P T) {f : Operand} {fv : SVal} {mw : FuncId} {js : List Cell} {aS : List SVal} {c' : Nat} (hw : GW ops g sl) (hf : AH sl f = fv) (hc : Cr fv = some (mw, js)) (has : args.toList.map (AH sl) ++ js.map .c = aS) (hp : MCall P F0 w0 mw aS mem ck fun v' m c => v' = v ∧ m = m' ∧ c = c')
  (h : Reg P F0 w0 dr ops K rest ⟨n, (d, v) :: sl, m', c', df⟩ (2 :: acc)) : Reg P F0 w0 dr ops K (⟨some d, .call ⟨.value f, args, mT⟩, ty, pos, iU, g⟩ :: rest) ⟨n, sl, mem, ck, df⟩ acc :=
 U6 (jx := []) hw (Does.of hT fun τ he hm je Kk hK => by
  subst hm; subst je; subst has
  obtain ⟨e1, e2⟩ := IF he
  rw [hf] at e1
  simp only [AV, DQ, e1, hc, e2]
  refine ⟨hp.1, fun E w vs q1 q2 q3 => Calls.mono (hp.2 E w vs q1 q2 q3) fun _ _ ⟨v', E', r, m, c, p1, p2, p3, p4, p5, p6, p7⟩ => ⟨v', E', r, m, c, p1, p2, p3, p4, ?_⟩⟩
  subst p5; subst p6; subst p7
  exact hK _ _ _ _ ⟨rfl, rfl, rfl, rfl⟩) h
theorem bM (hT : AL P T) (hw : GW ops g sl) (hx : AH sl x = .c .emp) (hy : AH sl y = u) (hs : Gh u = some ys) (ht : T t = some i) (hi : i.desc = .slice e) (jg : T e = some ei) (hk : (Nat.blt 0 ei.size && Nat.beq ei.zero.length ei.size) = true)
  (j3 : ∀ el ∈ ys, el.length = ei.size) (hl : ys.length = m) (mG : (m : Int) ≤ 9223372036854775807) (lp : m * ei.bytes ≤ 140737488355328) (hr : mem.length = r) (iZ : mem ++ [Blk.arr (ck + 1) e ei.size ys] = f')
  (h : Reg P F0 w0 dr ops K rest ⟨n, (d, .c (.arr r (ck + 1) m)) :: sl, f', ck + 1, df⟩ (2 :: acc)) : Reg P F0 w0 dr ops K (⟨some d, .call ⟨.builtin .append, #[x, y], #[t, t]⟩, ty, pos, iU, g⟩ :: rest) ⟨n, sl, mem, ck, df⟩ acc :=
 U6 (jx := []) hw (Does.of hT fun τ he jn je Kk hK => by
  subst jn; subst je; subst hr; subst hl; subst iZ
  have ex := he x (by simp [Op.operands, Call.operands])
  have ey := he y (by simp [Op.operands, Call.operands])
  rw [hx] at ex
  rw [hy] at ey
  obtain ⟨a1, a2, a3, a4, a5⟩ := i
  simp only at hi
  subst hi
  simp only [BM, Sd, Md, Nat.blt, Tq] at hk
  simp only [AV, DQ, EZ, ht, jg, ex, ey, hs]
  exact ⟨trivial, hk.1, hk.2, j3, by simp only [maxLen]; omega, lp, hK _ _ _ _ ⟨rfl, rfl, rfl, rfl⟩⟩) h
theorem bN (hT : AL P T) (hw : GW ops g sl) (hx : AH sl x = .c (.arr r k j)) (hy : AH sl y = u) (hs : Gh u = some ys) (ht : T t = some i) (hi : i.desc = .slice e) (jg : T e = some ei) (hk : (Nat.blt 0 ei.size && Nat.beq ei.zero.length ei.size) = true)
  (hm : mem[r]? = some (.arr k e i6 es)) (oO : i6 = ei.size) (j3 : ∀ el ∈ ys, el.length = ei.size) (hj : j ≤ es.length) (hl : j + ys.length = m) (mG : (m : Int) ≤ 9223372036854775807) (lp : m * ei.bytes ≤ 140737488355328) (j6 : es.take j ++ ys = ji) (iZ : mem.set r (Blk.arr (ck + 1) e ei.size ji) = f')
  (h : Reg P F0 w0 dr ops K rest ⟨n, (d, .c (.arr r (ck + 1) m)) :: sl, f', ck + 1, df⟩ (2 :: acc)) : Reg P F0 w0 dr ops K (⟨some d, .call ⟨.builtin .append, #[x, y], #[t, t]⟩, ty, pos, iU, g⟩ :: rest) ⟨n, sl, mem, ck, df⟩ acc :=
 U6 (jx := []) hw (Does.of hT fun τ he jn je Kk hK => by
  subst jn; subst je; subst hl; subst j6; subst iZ; subst oO
  have ex := he x (by simp [Op.operands, Call.operands])
  have ey := he y (by simp [Op.operands, Call.operands])
  rw [hx] at ex
  rw [hy] at ey
  obtain ⟨a1, a2, a3, a4, a5⟩ := i
  simp only at hi
  subst hi
  simp only [BM, Sd, Md, Nat.blt, Tq] at hk
  simp only [AV, DQ, EZ, ht, jg, ex, ey, hs, hm]
  exact ⟨trivial, hk.1, hk.2, j3, trivial, trivial, trivial, hj, by simp only [maxLen]; omega, lp, hK _ _ _ _ ⟨rfl, rfl, rfl, rfl⟩⟩) h
end
theorem My {m : List Blk} : As m [] := fun s x h => by simp at h
theorem Ab {b : Blk} {m : List Blk} (h : As m m') : As (b :: m) (b :: m') := fun s x hs hx => by
 cases s with
 | zero => simpa using hs
 | succ s => simpa using h s x (by simpa using hs) hx
theorem AJ {b : Blk} {m : List Blk} (h : As m m') : As (b :: m) (.dead :: m') := fun s x hs hx => by
 cases s with
 | zero => simp at hs; subst hs; exact hx.elim
 | succ s => simpa using h s x (by simpa using hs) hx
theorem TW {z : Nat} {m : List Blk} (hk : k = k') (he : es = ji) (h : As m m') : As (.arr k t z es :: m) (.arr k' t z ji :: m') := by subst hk; subst he; exact Ab h
theorem TX {m : List Blk} (hk : k = k') (he : cs = jq) (h : As m m') : As (.box k cs :: m) (.box k' jq :: m') := by subst hk; subst he; exact Ab h
theorem Sx {k : IntKind} {a b : Int} (h : a = b) : VLe (.c (.d (.lit (.int k a)))) (.c (.d (.lit (.int k b)))) := by subst h; exact .inl rfl
theorem eP {a b : Dat} (h : a = b) : VLe (.c (.d a)) (.c (.d b)) := by subst h; exact .inl rfl
theorem Sy {m' : Nat} (hk : k = k') (h : m = m') : VLe (.c (.arr r k m)) (.c (.arr r k' m')) := by subst hk; subst h; exact .inl rfl
theorem V3 {a : SVal} : VLe a a := .inl rfl
theorem YB : VLe (.c .emp) (.c (.d (.sl []))) := .inr (.inr ⟨rfl, rfl⟩)
inductive Keep : List Nat → List (Nat × SVal) → List (Nat × SVal) → Prop
 | nil (W : List Nat) : Keep W [] []
 | out {W : List Nat} {t : Nat} {v : SVal} {sl jh : List (Nat × SVal)} (h : W.contains t = true) (hk : Keep W sl jh) : Keep W ((t, v) :: sl) jh
 | into {W : List Nat} {t : Nat} {v : SVal} {sl jh : List (Nat × SVal)} (h : W.contains t = false) (hk : Keep (t :: W) sl jh) : Keep W ((t, v) :: sl) ((t, v) :: jh)
inductive Pre (W : List Nat) (jh : List (Nat × SVal)) : List (Nat × SVal) → Prop
 | here : Pre W jh jh
 | cons {t : Nat} {v : SVal} {sl : List (Nat × SVal)} (h : W.contains t = true) (hp : Pre W jh sl) : Pre W jh ((t, v) :: sl)
theorem Keep.not {sl : List (Nat × SVal)} (h : Keep W sl jh) : ∀ t v, (t, v) ∈ jh → W.contains t = false := by
 induction h with
 | nil W => intro t v hm; simp at hm
 | out h hk ih => exact ih
 | into h hk ih =>
   intro t' v' hm
   rcases FL.1 hm with e | hm
   ·cases e; exact h
   ·have := ih t' v' hm
    simp only [List.contains_cons, Bool.or_eq_false_iff] at this
    exact this.2
theorem Keep.look {sl : List (Nat × SVal)} (h : Keep W sl jh) : (∀ t v, (t, v) ∈ jh → look sl t = v) ∧ (∀ t v, (t, v) ∈ jh → look jh t = v) := by
 induction h with
 | nil W => exact ⟨by simp, by simp⟩
 | out h hk ih =>
   rename_i W t v sl jh
   refine ⟨fun t' v' hm => ?_, ih.2⟩
   rw [BB]
   have := hk.not t' v' hm
   rw [if_neg (by rintro rfl; rw [h] at this; cases this)]
   exact ih.1 t' v' hm
 | into h hk ih =>
   rename_i W t v sl jh
   have j2 : ∀ t' v', (t', v') ∈ jh → t ≠ t' := by
    rintro t' v' hm rfl
    have := hk.not t v' hm
    simp at this
   refine ⟨fun t' v' hm => ?_, fun t' v' hm => ?_⟩
   ·rcases FL.1 hm with e | hm
    ·cases e; simp [BB]
    ·rw [BB, if_neg (j2 t' v' hm)]; exact ih.1 t' v' hm
   ·rcases FL.1 hm with e | hm
    ·cases e; simp [BB]
    ·rw [BB, if_neg (j2 t' v' hm)]; exact ih.2 t' v' hm
theorem H4 {σ : St} : ∀ {l : List (Nat × SVal)}, (∀ t v, (t, v) ∈ l → VLe (σ.get t) v) → Ai σ l
 | [], _ => trivial
 | (t, v) :: l, h => ⟨h t v (by simp), H4 fun t v hm => h t v (by simp [hm])⟩
theorem EL {σ : St} : ∀ {a b : List (Nat × SVal)}, Ai σ a → Ai σ b → Ai σ (a ++ b)
 | [], _, _, hb => hb
 | (_, _) :: _, _, ha, hb => ⟨ha.1, EL ha.2 hb⟩
theorem Pre.look {sl : List (Nat × SVal)} (h : Pre W jh sl) (hn : ∀ t v, (t, v) ∈ jh → W.contains t = false) (hl : ∀ t v, (t, v) ∈ jh → look jh t = v) : ∀ t v, (t, v) ∈ jh → look sl t = v := by
 induction h with
 | here => exact hl
 | cons h hp ih =>
   intro t' v' hm
   rw [BB]
   have := hn t' v' hm
   rw [if_neg (by rintro rfl; rw [h] at this; cases this)]
   exact ih t' v' hm
section
variable {P : Program} {T : TypeId → Option TI} {B : Base} {Q : Ex → St → Prop} {R : Ex → St → Prop} {ks : List Fr}
theorem eQ {σ : St} {X : Type} (Inv : X → Prop) (I : X → St) (m : X → Nat) (x0 : X) (hx : Inv x0) (h0 : Weak σ (I x0)) 
   (h : ∀ x, Inv x → ARun P B c (I x) (Av P B (DT P B R ks fun τ => ∃ y, Inv y ∧ Weak τ (I y) ∧ m y < m x) [])) : ARun P B (.loop c) σ (Av P B R ks) := by
 refine X4 (X := { x // Inv x }) (fun x => I x.1) (fun x => m x.1) ⟨x0, hx⟩ h0 fun x => ?_
 refine (h x.1 x.2).mono fun e τ q => ?_
 cases e with
 | norm =>
   obtain ⟨y, h1, h2, h3⟩ := q
   exact ⟨⟨y, h1⟩, h2, h3⟩
 | exit i => exact q
 | ret => exact q
section
variable {n : Nat} {sl : List (Nat × SVal)} {mem : List Blk} {ck : Nat} {df : List (FuncId × List Cell)}
structure LoopG {X : Type} (Inv : X → Prop) (mz : X → List (Nat × SVal) → List (Nat × SVal)) (kC : X → List Blk) (m : X → Nat) (W : List Nat) (jh : List (Nat × SVal)) (n : Nat) (df : List (FuncId × List Cell)) (x : X) (τ : St) : Prop where
 ex : ∃ y, Inv y ∧ τ.n = n ∧ Ai τ (mz y []) ∧ Pre W jh τ.slots ∧ As τ.mem (kC y) ∧ τ.defers = df ∧ m y < m x
theorem gE {X : Type} (W : List Nat) (Inv : X → Prop) (mz : X → List (Nat × SVal) → List (Nat × SVal)) (kC : X → List Blk) (m : X → Nat) (x0 : X) (hk : Keep W sl jh) (sE : ∀ x l, mz x l = mz x [] ++ l)
  (hs : Ai ⟨n, sl, mem, ck, df⟩ (mz x0 [])) (hm : As mem (kC x0)) (hx : Inv x0)
  (h : ∀ x k, Inv x → ARun P B c ⟨n, mz x jh, kC x, k, df⟩ (Av P B (DT P B R ks (LoopG Inv mz kC m W jh n df x)) [])) : ARun P B (.loop c) ⟨n, sl, mem, ck, df⟩ (Av P B R ks) := by
 refine eQ (σ := ⟨n, sl, mem, ck, df⟩) (X := X × Nat) (fun x => Inv x.1) (fun x => ⟨n, mz x.1 jh, kC x.1, x.2, df⟩) (fun x => m x.1) (x0, ck) hx ⟨rfl, ?_, hm, Nat.le_refl _, rfl⟩ fun x hx => ?_
 ·simp only
  rw [sE]
  exact EL hs (H4 fun t v ht => .inl (hk.look.1 t v ht))
 ·refine (h x.1 x.2 hx).mono fun e τ q => ?_
  cases e with
  | norm =>
    obtain ⟨y, h1, h2, h3, h4, h5, h7, h8⟩ := q.ex
    refine ⟨(y, τ.clock), h1, ⟨h2.symm, ?_, h5, Nat.le_refl _, h7.symm⟩, h8⟩
    simp only
    rw [sE]
    exact EL h3 (H4 fun t v ht => .inl (h4.look hk.not hk.look.2 t v ht))
  | exit i => exact q
  | ret => exact q
theorem YC {X : Type} {Inv : X → Prop} {mz : X → List (Nat × SVal) → List (Nat × SVal)} {kC : X → List Blk} {m : X → Nat} {x : X} (y : X) (hs : Ai ⟨n, sl, mem, ck, df⟩ (mz y [])) (hp : Pre W jh sl) (hm : As mem (kC y)) (hi : Inv y) (hd : m y < m x) :
 Av P B (DT P B R ks (LoopG Inv mz kC m W jh n df x)) [] .norm ⟨n, sl, mem, ck, df⟩ := ⟨y, hi, rfl, hs, hp, hm, rfl, hd⟩
theorem V4 {σ : St} {G : St → Prop} {i : Nat} (h : Av P B R ks (.exit i) σ) : Av P B (DT P B R ks G) [] (.exit i) σ := h
theorem ZT {σ : St} {G : St → Prop} (h : Av P B R ks .ret σ) : Av P B (DT P B R ks G) [] .ret σ := h
theorem bO {c : Operand} {x y : Code} (hc : AH sl c = DP b) (h1 : b = true → ARun P B x ⟨n, sl, mem, ck, df⟩ Q) (h2 : b = false → ARun P B y ⟨n, sl, mem, ck, df⟩ Q) : ARun P B (.cond c x y) ⟨n, sl, mem, ck, df⟩ Q :=
 bf (b := b) (by rw [C4]; exact hc) h1 h2
theorem eS {c : Operand} {x y : Code} (hc : AH sl c = DP b) (hb : b = true) (h1 : ARun P B x ⟨n, sl, mem, ck, df⟩ Q) : ARun P B (.cond c x y) ⟨n, sl, mem, ck, df⟩ Q :=
 bO hc (fun _ => h1) (fun q => by rw [hb] at q; cases q)
theorem eT {c : Operand} {x y : Code} (hc : AH sl c = DP b) (hb : b = false) (h1 : ARun P B y ⟨n, sl, mem, ck, df⟩ Q) : ARun P B (.cond c x y) ⟨n, sl, mem, ck, df⟩ Q :=
 bO hc (fun q => by rw [hb] at q; cases q) (fun _ => h1)
theorem NR {σ : St} (hn : τ.n = σ.n) (ht : ∀ a w, Rel B σ a w → Rel B τ a w) (h : ARun P B c τ Q) : ARun P B c σ Q := fun a w hr => by
 refine Code.wp_mono (fun e a' w' hq => ?_) (h a w (ht a w hr))
 obtain ⟨x, σ', h1, h2, h3, h4⟩ := hq
 exact ⟨x, σ', h1, h2.trans hn, h3, h4⟩
theorem K1 {t : Nat} (ht : look sl t = .c (.arr r k m)) (hm : mem[r]? = some (.arr k iX i6 es)) (hl : m ≤ es.length) {a : Act} {w : World} (h : Rel B ⟨n, sl, mem, ck, df⟩ a w) :
  Rel B ⟨n, (t, .c (.d (.sl (es.take m)))) :: sl, mem.set r .dead, ck, df⟩ a w := by
 obtain ⟨E, hr, hB⟩ := h
 have hz := hr.1.freeze r k iX i6 es hm
 refine ⟨_, ⟨hz.1, hr.2.1, hr.2.2.1.le hz.2, fun s => ?_⟩, hB.trans hz.2⟩
 simp only [St.get, BB]
 by_cases hs : t = s
 ·subst hs
  rw [if_pos rfl]
  have := hr.2.2.2 t
  simp only [St.get, ht] at this
  generalize a.tmps.getD t undef = v at this
  cases this with | c q => exact .c (.d (Ek hr.1 hm hl q (fun b hb => .inl hb) (fun hc => .inr ⟨rfl, hc⟩)))
 ·rw [if_neg hs]
  exact (hr.2.2.2 s).le hz.2
theorem V5 (t : Nat) (ht : look sl t = .c (.arr r k m)) (hm : mem[r]? = some (.arr k iX i6 es)) (hl : m ≤ es.length) (j6 : es.take m = ji) (iZ : mem.set r .dead = f')
  (h : ARun P B c ⟨n, (t, .c (.d (.sl ji))) :: sl, f', ck, df⟩ Q) : ARun P B c ⟨n, sl, mem, ck, df⟩ Q := by
 subst j6; subst iZ
 exact NR (τ := ⟨n, (t, .c (.d (.sl (es.take m)))) :: sl, mem.set r .dead, ck, df⟩) rfl (fun a w hr => K1 ht hm hl hr) h
theorem GK (t : Nat) {F0 : Nat → Prop} {w0 : World} {ops rest : List Oper} {K : St → Prop} {acc : List Nat} (ht : look sl t = .c (.arr r k m)) (hm : mem[r]? = some (.arr k iX i6 es)) (hl : m ≤ es.length) (j6 : es.take m = ji) (iZ : mem.set r .dead = f')
  (h : Reg P F0 w0 false ops K rest ⟨n, (t, .c (.d (.sl ji))) :: sl, f', ck, df⟩ acc) : Reg P F0 w0 false ops K rest ⟨n, sl, mem, ck, df⟩ acc := by
 subst j6; subst iZ
 exact .turn (τ := ⟨n, (t, .c (.d (.sl (es.take m)))) :: sl, mem.set r .dead, ck, df⟩) rfl rfl (fun _ _ _ _ _ hr => K1 ht hm hl hr) h
theorem YD {t : Nat} (iX : TypeId) (i6 : Nat) (ht : look sl t = .c .emp) (hz : 0 < i6) {a : Act} {w : World} (h : Rel B ⟨n, sl, mem, ck, df⟩ a w) :
  Rel B ⟨n, (t, .c (.arr mem.length (ck + 1) 0)) :: sl, mem ++ [Blk.arr (ck + 1) iX i6 []], ck + 1, df⟩ a w := by
 obtain ⟨E, hr, hB⟩ := h
 have hn := hr.1.newArr (w' := w) iX i6 0 [] hz (by simp) (by simp) (by simp [maxLen]) (Bel.refl _ _) (fun _ _ => rfl) (.inl rfl)
 refine ⟨_, ⟨hn.1, hr.2.1, hr.2.2.1.le hn.2, fun s => ?_⟩, hB.trans hn.2⟩
 simp only [St.get, BB]
 by_cases hs : t = s
 ·subst hs
  rw [if_pos rfl]
  have := hr.2.2.2 t
  simp only [St.get, ht] at this
  generalize a.tmps.getD t undef = v at this
  cases this with | c q => cases q with | emp b =>
  exact .c (.arr _ _ 0 _ rfl (by simp [Env.upd]) (fun _ => .inl ⟨by simp [Env.upd], rfl, b, rfl⟩))
 ·rw [if_neg hs]
  exact (hr.2.2.2 s).le hn.2
theorem bP (t : Nat) (iX : TypeId) (i6 : Nat) (ht : look sl t = .c .emp) (hz : Nat.blt 0 i6 = true) (hr : mem.length = r) (iZ : mem ++ [Blk.arr (ck + 1) iX i6 []] = f')
  (h : ARun P B c ⟨n, (t, .c (.arr r (ck + 1) 0)) :: sl, f', ck + 1, df⟩ Q) : ARun P B c ⟨n, sl, mem, ck, df⟩ Q := by
 subst hr; subst iZ
 exact NR (τ := ⟨n, (t, .c (.arr mem.length (ck + 1) 0)) :: sl, mem ++ [Blk.arr (ck + 1) iX i6 []], ck + 1, df⟩) rfl (fun a w hr => YD iX i6 ht (by simp only [Nat.blt, Md] at hz; omega) hr) h
theorem eU {t : Nat} {x y : Dat} (h : look sl t = .c (.d y)) (e : y = x) : Ap T ⟨n, sl, mem, ck, df⟩ (.tmp t) fun s => SF mem s (.one x) := by
 subst e
 simp only [Ap, St.get, h, SF, CF, Cell.dat]
theorem bQ {t : Nat} {x : Dat} (h : look sl t = .c .emp) (e : .sl [] = x) : Ap T ⟨n, sl, mem, ck, df⟩ (.tmp t) fun s => SF mem s (.one x) := by
 subst e
 simp only [Ap, St.get, h, SF, CF, Cell.dat]
theorem bR {t : Nat} {x : Dat} (h : look sl t = .c (.arr r k m)) (hm : mem[r]? = some (.arr k iX i6 es)) (hl : m ≤ es.length) (e : .sl (es.take m) = x) : Ap T ⟨n, sl, mem, ck, df⟩ (.tmp t) fun s => SF mem s (.one x) := by
 subst e
 simp only [Ap, St.get, h, SF, CF, hm]
 exact ⟨trivial, hl, trivial⟩
theorem YE {a t o : Nat} (h : look sl a = .c (.bp r k o)) (ht : T t = some i) (ha : i.desc.agg = true) (hm : mem[r]? = some (.box k cs)) (hs : decide (o + i.size ≤ cs.length) = true) (jF : (cs.drop o).take i.size = jq) (hc : CFs mem jq xs) : Ap T ⟨n, sl, mem, ck, df⟩ (.cell a t) fun s => SF mem s (.agg xs) := by
 subst jF
 simp only [Ap, St.get, h, Du, ht, ha, hm]
 exact ⟨.inl trivial, trivial, by simpa using hs, hc⟩
theorem HD {x y : Dat} (e : y = x) : CF mem (.d y) x := by subst e; simp only [CF, Cell.dat]
theorem V6 {x : Dat} (e : .sl [] = x) : CF mem .emp x := by subst e; simp only [CF, Cell.dat]
theorem NS {x : Dat} (hm : mem[r]? = some (.arr k iX i6 es)) (hl : m ≤ es.length) (e : .sl (es.take m) = x) : CF mem (.arr r k m) x := by
 subst e; simp only [CF, hm]; exact ⟨trivial, hl, trivial⟩
theorem Sz : CFs mem [] [] := trivial
theorem BX {c : Cell} {x : Dat} (h : CF mem c x) (h' : CFs mem cs xs) : CFs mem (c :: cs) (x :: xs) := ⟨h, h'⟩
theorem Bg {x : ResultVar} (hd : Ag P df) (h : Ap T ⟨n, sl, mem, ck, df⟩ x fun s => SF mem s p) : Av P B (fin P T [x] (.v p)) [] .ret ⟨n, sl, mem, ck, df⟩ := ⟨hd, h⟩
theorem Aw {x y : ResultVar} {q : PV} (hd : Ag P df) (h1 : Ap T ⟨n, sl, mem, ck, df⟩ x fun s => SF mem s p) (h2 : Ap T ⟨n, sl, mem, ck, df⟩ y fun s => SF mem s q) : Av P B (fin P T [x, y] (.tup [p, q])) [] .ret ⟨n, sl, mem, ck, df⟩ := ⟨hd, by simp, h1, h2, trivial⟩
theorem C5 {x y z : ResultVar} {q r : PV} (hd : Ag P df) (h1 : Ap T ⟨n, sl, mem, ck, df⟩ x fun s => SF mem s p) (h2 : Ap T ⟨n, sl, mem, ck, df⟩ y fun s => SF mem s q) (h3 : Ap T ⟨n, sl, mem, ck, df⟩ z fun s => SF mem s r) : Av P B (fin P T [x, y, z] (.tup [p, q, r])) [] .ret ⟨n, sl, mem, ck, df⟩ := ⟨hd, by simp, h1, h2, h3, trivial⟩
theorem Ad : Ag P [] := trivial
theorem Aq {f : FuncId} {l : List (FuncId × List Cell)} (h : DeferOk P f cs.length) (h' : Ag P l) : Ag P ((f, cs) :: l) := ⟨h, h'⟩
end
variable {σ : St}
theorem V7 (r j : Nat) (iX : TypeId) (i6 : Nat) (k : Nat) (cs : List Cell) (hm : σ.mem[r]? = some (.box k cs)) (hj : cs[j]? = some .emp) (hz : 0 < i6) 
  (h : ARun P B c { σ with mem := σ.mem.set r (.box k (cs.set j (.arr σ.mem.length (σ.clock + 1) 0))) ++ [Blk.arr (σ.clock + 1) iX i6 []], clock := σ.clock + 1 } Q) : ARun P B c σ Q := by
 intro a w hr
 obtain ⟨E, hr, hB⟩ := hr
 have hn := hr.1.newArr (w' := w) iX i6 0 [] hz (by simp) (by simp) (by simp [maxLen]) (Bel.refl _ _) (fun _ _ => rfl) (.inl rfl)
 have i7 := lt_of_getElem? hm
 have ky := lt_of_getElem? hj
 refine h a w ⟨_, ⟨?_, hr.2.1, hr.2.2.1.le hn.2, fun s => (hr.2.2.2 s).le hn.2⟩, hB.trans hn.2⟩
 obtain ⟨n1, n2, n3, n4, n5⟩ := hn.1
 refine ⟨n1, n2, n3, ⟨n4.clock, fun s b hs => ?_, fun s s' b b' hs kE hb lF j2 => ?_⟩, n5⟩
 ·by_cases kZ : s = r
  · subst kZ
    rw [Np (by simpa using i7), J5 (by simpa using i7)] at hs
    simp only [Option.some.injEq] at hs
    subst hs
    have ho := n4.ok s (.box k cs) (by rw [Np i7]; exact hm)
    obtain ⟨o1, o2, o3, c0, vK, o4, o5, o6⟩ := ho
    refine ⟨o1, o2, o3, c0, vK, o4, by simpa using o5, fun i v x hv hx => ?_⟩
    by_cases jY : j = i
    ·subst jY
     rw [J5 ky] at hx
     simp only [Option.some.injEq] at hx
     subst hx
     have := o6 j v .emp hv hj
     cases this with | emp q =>
     exact .arr _ _ 0 _ rfl (by simp [Env.upd]) (fun _ => .inl ⟨by simp [Env.upd], rfl, q, rfl⟩)
    ·rw [J7 jY] at hx
     exact o6 i v x hv hx
  · refine n4.ok s b ?_
    by_cases jy : s < σ.mem.length
    ·rw [Np (by simpa using jy), J7 (Ne.symm kZ)] at hs
     rw [Np jy]
     exact hs
    ·rw [Oy (by simpa using ed jy)] at hs
     rw [Oy (ed jy)]
     simpa using hs
 ·have key : ∀ (s : Nat) b, (σ.mem.set r (.box k (cs.set j (.arr σ.mem.length (σ.clock + 1) 0))) ++ [Blk.arr (σ.clock + 1) iX i6 []])[s]? = some b →
     ∃ b0, (σ.mem ++ [Blk.arr (σ.clock + 1) iX i6 []])[s]? = some b0 ∧ ∀ E', b.has E' s → b0.has E' s := by
    intro s b hs
    by_cases kZ : s = r
    ·subst kZ
     rw [Np (by simpa using i7), J5 (by simpa using i7)] at hs
     simp only [Option.some.injEq] at hs
     subst hs
     exact ⟨.box k cs, by rw [Np i7]; exact hm, fun _ _ => trivial⟩
    ·refine ⟨b, ?_, fun _ h => h⟩
     by_cases jy : s < σ.mem.length
     ·rw [Np (by simpa using jy), J7 (Ne.symm kZ)] at hs
      rw [Np jy]
      exact hs
     ·rw [Oy (by simpa using ed jy)] at hs
      rw [Oy (ed jy)]
      simpa using hs
  obtain ⟨b0, q1, q2⟩ := key s b hs
  obtain ⟨b1, p1, p2⟩ := key s' b' kE
  exact n4.apart s s' b0 b1 q1 p1 (q2 _ hb) (p2 _ lF) j2
theorem TY {n : Nat} {sl : List (Nat × SVal)} {mem : List Blk} {ck : Nat} {df : List (FuncId × List Cell)} (r j : Nat) (iX : TypeId) (i6 : Nat) {r' : Nat} (hm : mem[r]? = some (.box k cs)) (hj : cs[j]? = some .emp) (hz : Nat.blt 0 i6 = true) (hr : mem.length = r') (jF : cs.set j (.arr r' (ck + 1) 0) = jq) (iZ : mem.set r (.box k jq) ++ [Blk.arr (ck + 1) iX i6 []] = f')
  (h : ARun P B c ⟨n, sl, f', ck + 1, df⟩ Q) : ARun P B c ⟨n, sl, mem, ck, df⟩ Q := by
 subst hr; subst jF; subst iZ
 exact V7 (σ := ⟨n, sl, mem, ck, df⟩) r j iX i6 k cs hm hj (by simp only [Nat.blt, Md] at hz; omega) h
theorem GM (t : Nat) (ht : σ.get t = .c (.d (.sl es))) (h : es.length ≤ maxLen → ARun P B c σ Q) : ARun P B c σ Q := by
 intro a w hr
 refine h ?_ a w hr
 obtain ⟨E, hr, _⟩ := hr
 have := hr.2.2.2 t
 rw [ht] at this
 generalize a.tmps.getD t undef = v at this
 cases this with | c q => cases q with | d q => cases q with
 | emp => simp
 | sl _ b off cap size u h1 h2 h3 => exact LX h2 h3
def TZ (T : TypeId → Option TI) (σ : St) (rs : List ResultVar) (R : SVal → Prop) : Prop :=
 match rs with
 | [] => R (.tup [])
 | [x] => Ap T σ x R
 | [x, y] => Ap T σ x fun a => Ap T σ y fun b => R (.tup [a, b])
 | _ => False
def AY (P : Program) (T : TypeId → Option TI) (rs : List ResultVar) (R : SVal → List Blk → Nat → Prop) : Ex → St → Prop
 | .exit _, _ => False
 | _, σ => Ag P σ.defers ∧ TZ T σ rs fun s => R s σ.mem σ.clock
def NT : List SVal → Nat → List (Nat × SVal)
 | [], _ => []
 | p :: ps, k => (k, p) :: NT ps (k + 1)
theorem Mz : ∀ (ps : List SVal) (k t : Nat), look (NT ps k) t = if k ≤ t then (match ps[t - k]? with | some p => p | none => .junk) else .junk
 | [], k, t => by simp [NT, look]
 | p :: ps, k, t => by
   simp only [NT, BB, Mz ps (k + 1) t]
   by_cases h1 : k = t
   ·subst h1; simp
   ·rw [if_neg h1]
    by_cases h2 : k + 1 ≤ t
    ·rw [if_pos h2, if_pos (by omega), show t - k = (t - (k + 1)) + 1 by omega]
     simp
    ·rw [if_neg h2, if_neg (by omega)]
theorem MCall.enter (hT : AL P T) {F0 : Nat → Prop} {w0 : World} {f : FuncId} {args : List SVal} {mem : List Blk} {clock : Nat} {R : SVal → List Blk → Nat → Prop} (hf : P.funcs[f]? = some fn) (hb : fn.body = some c) (lV : (fn.name == "runtime.NumGoroutine") = false)
   (n : Nat) (rs : List ResultVar) (lT : fn.ntmps = n) (kZ : fn.results.toList = rs) (hn : decide (args.length ≤ n) = true)
   (h : ∀ B : Base, B.F0 = F0 → B.w0 = w0 → ARun P B c { n := n, slots := NT args 0, mem := mem, clock := clock, defers := [] } (Av P B (AY P T rs R) [])) : MCall P F0 w0 f args mem clock R := by
 subst lT
 subst kZ
 have hn : args.length ≤ fn.ntmps := by simpa using hn
 refine ⟨⟨fn, hf, lV, by simp [hb]⟩, fun E w vs hw hl hv => ?_⟩
 refine calls_of_wp_defers hf hb ?_
 have ly : Rel ⟨F0, w0, E, w⟩ { n := fn.ntmps, slots := NT args 0, mem := mem, clock := clock, defers := [] } { tmps := vs.toArray ++ Array.replicate (fn.ntmps - vs.toArray.size) undef, defers := [] } w := by
   refine ⟨E, ⟨hw, by simp; omega, ⟨rfl, by simp⟩, fun t => ?_⟩, EnvLe.refl _ _⟩
   simp only [St.get, Mz]
   simp only [Nat.zero_le, if_true, Nat.sub_zero]
   cases ha : args[t]? with
   | none => exact .junk _
   | some p =>
     have i7 := lt_of_getElem? ha
     have uT : vs[t]? = some (vs[t]'(by omega)) := Bo _
     have : (vs.toArray ++ Array.replicate (fn.ntmps - vs.toArray.size) undef).getD t undef = vs[t]'(by omega) := by
      simp [Array.getElem?_append, show t < vs.length by omega]
     rw [this]
     exact hv t _ p uT ha
 refine Code.wp_mono (fun e a' w' hq => ?_) (h ⟨F0, w0, E, w⟩ rfl rfl _ w ly)
 obtain ⟨x, σ', ⟨E', hr, hle⟩, _, hk, j8⟩ := hq
 have key : Ag P σ'.defers ∧ TZ T σ' fn.results.toList (fun s => R s σ'.mem σ'.clock) → Leaves P fn a'.tmps (fun e w' => ∃ v E' s f' iY, e = .returned v ∧ EnvLe E w E' w' ∧ WOk F0 w0 E' w' f' iY ∧ SRep E' w' v s ∧ R s f' iY) a'.defers .returning w' := by
   rintro ⟨k1, k2⟩
   refine I3 _ _ hr.2.2.1 k1 ?_
   unfold TZ at k2
   split at k2
   · rename_i r8
     have e1 : fn.results = #[] := by apply Q3; simpa using r8
     refine ⟨.tuple #[], ?_, _, E', _, _, _, rfl, hle, hr.1, .tup [] [] rfl (by simp), k2⟩
     rw [EI, e1]
     simp
   · rename_i rv r8
     obtain ⟨v, s, q1, q2, q3⟩ := Fp hT hr k2
     refine ⟨v, ?_, v, E', s, _, _, rfl, hle, hr.1, q2, q3⟩
     have e1 : fn.results = #[rv] := by apply Q3; simpa using r8
     rw [EI, e1, dO]
     simp only [ej, List.mapM_nil, Sem.run_bind, Sem.run_map]
     rw [q1]
     simp
   · rename_i rv yV r8
     obtain ⟨v, s, q1, q2, q3⟩ := Fp hT hr k2
     obtain ⟨v', s', p1, p2, p3⟩ := Fp hT hr q3
     refine ⟨.tuple #[v, v'], ?_, _, E', .tup [s, s'], _, _, rfl, hle, hr.1, .tup _ [v, v'] rfl (fun i u y hu hy => ?_), p3⟩
     ·have e1 : fn.results = #[rv, yV] := by apply Q3; simpa using r8
      rw [EI, e1, dO]
      simp only [ej, List.mapM_nil, Sem.run_bind, Sem.run_map]
      rw [q1]
      simp only [Result.andThen_ok]
      rw [p1]
      simp
     ·match i with
      | 0 => simp at hu hy; subst hu; subst hy; exact q2
      | 1 => simp at hu hy; subst hu; subst hy; exact p2
      | i + 2 => simp at hu
   · exact k2.elim
 cases e with
 | normal => cases x with
   | norm => exact key hk
   | exit i => exact j8.elim
   | ret => exact j8.elim
 | ret => cases x with
   | ret => exact key hk
   | exit i => exact j8.elim
   | norm => exact j8.elim
 | exit i => cases x with
   | exit j => exact hk.elim
   | norm => exact j8.elim
   | ret => exact j8.elim
 | goto l => cases x <;> exact j8.elim
 | panic c => cases x <;> exact j8.elim
 | outgrown => cases x <;> exact j8.elim
end
theorem YF (h1 : -9223372036854775807 ≤ z) (h2 : z ≤ 9223372036854775807) : IntKind.i64.wrap (0 - z) = -z := by
 rw [BW (by omega) (by omega)]; omega
theorem V8 (h : xs.map Cell.d = cs) : (PRes.v (.agg xs)).s = .agg cs := by subst h; rfl
theorem YG {x : Dat} (h : xs.map Cell.d = cs) : (PRes.tup [.one x, .agg xs]).s = .tup [.c (.d x), .agg cs] := by subst h; rfl
theorem YH {x : Dat} (h : xs.map Cell.d = cs) : (PRes.tup [.agg xs, .one x]).s = .tup [.agg cs, .c (.d x)] := by subst h; rfl
theorem bS {α : Type} {f : α → List Dat} {l : List α} : ((l.map f).take ((hi : Nat) : Int).toNat).drop ((0 : Nat) : Int).toNat = (l.take hi).map f := by
 simp only [To, List.drop_zero, List.map_take]
theorem Pk {α : Type} {f : α → List Dat} {l : List α} : ((l.map f).take (((l.map f).length : Nat) : Int).toNat).drop ((lo : Nat) : Int).toNat = (l.drop lo).map f := by
 simp only [To, Ir, List.map_drop]
theorem V9 {α : Type} {f : α → List Dat} {l : List α} : ((l.map f).take ((hi : Nat) : Int).toNat).drop ((lo : Nat) : Int).toNat = ((l.take hi).drop lo).map f := by
 simp only [To, List.map_drop, List.map_take]
theorem T3 {α : Type} {f : α → List Dat} {l : List α} : ((l.map f).take (((l.map f).length : Nat) : Int).toNat).drop (1 : Int).toNat = (l.drop 1).map f := Pk (lo := 1)
theorem MA {σ : St} : Ai σ [] := trivial
theorem FW {n : Nat} {sl : List (Nat × SVal)} {mem : List Blk} {ck : Nat} {df : List (FuncId × List Cell)} {t : Nat} {l : List (Nat × SVal)} (hu : look sl t = u) (h : VLe u v) (h' : Ai ⟨n, sl, mem, ck, df⟩ l) : Ai ⟨n, sl, mem, ck, df⟩ ((t, v) :: l) := ⟨by subst hu; exact h, h'⟩
section
variable {P : Program} {T : TypeId → Option TI} {F0 : Nat → Prop} {w0 : World} {dr : Bool} {ops rest : List Oper} {K : St → Prop} {n : Nat} {sl : List (Nat × SVal)} {mem : List Blk} {ck : Nat} {df : List (FuncId × List Cell)} {acc : List Nat}
variable {d : Tmp} {op : Op} {ty : TypeId} {pos : String} {iU : Array Edge} {g : Option (Nat × Bool)}
theorem NU (hj : es.length = j) (h : es ++ ys = ji) : es.take j ++ ys = ji := by subst hj; subst h; simp
end
section
variable {P : Program} {F0 : Nat → Prop} {w0 : World} {dr : Bool} {ops rest : List Oper} {K : St → Prop} {σ : St} {acc : List Nat} {dst : Option Tmp} {ty : TypeId} {pos : String} {iU : Array Edge} {g : Option (Nat × Bool)}
theorem SA (h : Reg P F0 w0 dr ops K (⟨dst, (.move x), ty, pos, iU, g⟩ :: rest) σ acc) : Reg P F0 w0 dr ops K (⟨dst, (.move x), ty, pos, iU, g⟩ :: rest) σ acc := h
theorem MB (h : Reg P F0 w0 dr ops K (⟨dst, (.assign x), ty, pos, iU, g⟩ :: rest) σ acc) : Reg P F0 w0 dr ops K (⟨dst, (.assign x), ty, pos, iU, g⟩ :: rest) σ acc := h
theorem SB {z : Operand} (h : Reg P F0 w0 dr ops K (⟨dst, (.pick x y z), ty, pos, iU, g⟩ :: rest) σ acc) : Reg P F0 w0 dr ops K (⟨dst, (.pick x y z), ty, pos, iU, g⟩ :: rest) σ acc := h
theorem Pl {f : Nat} (h : Reg P F0 w0 dr ops K (⟨dst, (.fieldAddr t x f), ty, pos, iU, g⟩ :: rest) σ acc) : Reg P F0 w0 dr ops K (⟨dst, (.fieldAddr t x f), ty, pos, iU, g⟩ :: rest) σ acc := h
theorem SC (h : Reg P F0 w0 dr ops K (⟨dst, (.load t x), ty, pos, iU, g⟩ :: rest) σ acc) : Reg P F0 w0 dr ops K (⟨dst, (.load t x), ty, pos, iU, g⟩ :: rest) σ acc := h
theorem Pm (h : Reg P F0 w0 dr ops K (⟨dst, (.store t x y), ty, pos, iU, g⟩ :: rest) σ acc) : Reg P F0 w0 dr ops K (⟨dst, (.store t x y), ty, pos, iU, g⟩ :: rest) σ acc := h
theorem Pn (h : Reg P F0 w0 dr ops K (⟨dst, (.indexAddr t x y), ty, pos, iU, g⟩ :: rest) σ acc) : Reg P F0 w0 dr ops K (⟨dst, (.indexAddr t x y), ty, pos, iU, g⟩ :: rest) σ acc := h
theorem Wa {bo : BinOp} (h : Reg P F0 w0 dr ops K (⟨dst, (.binOp bo t x y t'), ty, pos, iU, g⟩ :: rest) σ acc) : Reg P F0 w0 dr ops K (⟨dst, (.binOp bo t x y t'), ty, pos, iU, g⟩ :: rest) σ acc := h
theorem ZU {uo : UnOp} (h : Reg P F0 w0 dr ops K (⟨dst, (.unOp uo t x), ty, pos, iU, g⟩ :: rest) σ acc) : Reg P F0 w0 dr ops K (⟨dst, (.unOp uo t x), ty, pos, iU, g⟩ :: rest) σ acc := h
theorem SE (h : Reg P F0 w0 dr ops K (⟨dst, (.convert t t' x), ty, pos, iU, g⟩ :: rest) σ acc) : Reg P F0 w0 dr ops K (⟨dst, (.convert t t' x), ty, pos, iU, g⟩ :: rest) σ acc := h
theorem gq {f : Operand} (h : Reg P F0 w0 dr ops K (⟨dst, (.call ⟨.value f, args, mT⟩), ty, pos, iU, g⟩ :: rest) σ acc) : Reg P F0 w0 dr ops K (⟨dst, (.call ⟨.value f, args, mT⟩), ty, pos, iU, g⟩ :: rest) σ acc := h
theorem Po {b : Builtin} (h : Reg P F0 w0 dr ops K (⟨dst, (.call ⟨.builtin b, args, mT⟩), ty, pos, iU, g⟩ :: rest) σ acc) : Reg P F0 w0 dr ops K (⟨dst, (.call ⟨.builtin b, args, mT⟩), ty, pos, iU, g⟩ :: rest) σ acc := h
theorem Pp {ps : Array (Nat × Operand)} (h : Reg P F0 w0 dr ops K (⟨dst, (.build t ps), ty, pos, iU, g⟩ :: rest) σ acc) : Reg P F0 w0 dr ops K (⟨dst, (.build t ps), ty, pos, iU, g⟩ :: rest) σ acc := h
theorem MC {ps : Array (Nat × Operand)} (h : Reg P F0 w0 dr ops K (⟨dst, (.buildSlice t k ps), ty, pos, iU, g⟩ :: rest) σ acc) : Reg P F0 w0 dr ops K (⟨dst, (.buildSlice t k ps), ty, pos, iU, g⟩ :: rest) σ acc := h
theorem MD (h : Reg P F0 w0 dr ops K (⟨dst, (.makeSlice t x y), ty, pos, iU, g⟩ :: rest) σ acc) : Reg P F0 w0 dr ops K (⟨dst, (.makeSlice t x y), ty, pos, iU, g⟩ :: rest) σ acc := h
theorem Pq {f : Fn} {a b : Array Operand} (h : Reg P F0 w0 dr ops K (⟨dst, (.makeFunc f a b), ty, pos, iU, g⟩ :: rest) σ acc) : Reg P F0 w0 dr ops K (⟨dst, (.makeFunc f a b), ty, pos, iU, g⟩ :: rest) σ acc := h
theorem K2 {i : Nat} (h : Reg P F0 w0 dr ops K (⟨dst, (.extract x i), ty, pos, iU, g⟩ :: rest) σ acc) : Reg P F0 w0 dr ops K (⟨dst, (.extract x i), ty, pos, iU, g⟩ :: rest) σ acc := h
theorem Wb (h : Reg P F0 w0 dr ops K (⟨dst, (.box t x), ty, pos, iU, g⟩ :: rest) σ acc) : Reg P F0 w0 dr ops K (⟨dst, (.box t x), ty, pos, iU, g⟩ :: rest) σ acc := h
theorem Pr (h : Reg P F0 w0 dr ops K (⟨dst, (.alloc t), ty, pos, iU, g⟩ :: rest) σ acc) : Reg P F0 w0 dr ops K (⟨dst, (.alloc t), ty, pos, iU, g⟩ :: rest) σ acc := h
theorem Ps {a b c : Option Operand} (h : Reg P F0 w0 dr ops K (⟨dst, (.slice t x a b c), ty, pos, iU, g⟩ :: rest) σ acc) : Reg P F0 w0 dr ops K (⟨dst, (.slice t x a b c), ty, pos, iU, g⟩ :: rest) σ acc := h
theorem Pt {c : Call} (h : Reg P F0 w0 dr ops K (⟨dst, (.defer c), ty, pos, iU, g⟩ :: rest) σ acc) : Reg P F0 w0 dr ops K (⟨dst, (.defer c), ty, pos, iU, g⟩ :: rest) σ acc := h
theorem Pu {op : Op} (h : Reg P F0 w0 dr ops K (⟨dst, op, ty, pos, iU, some (j, b)⟩ :: rest) σ acc) : Reg P F0 w0 dr ops K (⟨dst, op, ty, pos, iU, some (j, b)⟩ :: rest) σ acc := h
theorem Wc (h : Reg P F0 w0 dr ops K [] σ acc) : Reg P F0 w0 dr ops K [] σ acc := h
theorem SG {B : Base} {c : Operand} {x y : Code} {Q : Ex → St → Prop} (h : ARun P B (.cond c x y) σ Q) : ARun P B (.cond c x y) σ Q := h
theorem ME {B : Base} {i : Nat} {os : Array Oper} {d : Bool} {Q : Ex → St → Prop} (h : ARun P B (.region i os d) σ Q) : ARun P B (.region i os d) σ Q := h
theorem gF {B : Base} {T : TypeId → Option TI} {rs : List ResultVar} {r : PRes} {e : Ex} (h : Av P B (fin P T rs r) [] e σ) : Av P B (fin P T rs r) [] e σ := h
theorem gG {T : TypeId → Option TI} {x : ResultVar} {V : SVal → Prop} (h : Ap T σ x V) : Ap T σ x V := h
theorem gH {m : List Blk} (h : CFs m cs xs) : CFs m cs xs := h
theorem gZ {m : List Blk} {c : Cell} {x : Dat} (h : CF m c x) : CF m c x := h
end
theorem bT {P : Program} {T : TypeId → Option TI} (hT : AL P T) {f : FuncId} {args : List PV} {r : PRes} {sl : List (Nat × SVal)} (hf : P.funcs[f]? = some fn) (hb : fn.body = some c) (lV : (fn.name == "runtime.NumGoroutine") = false)
  (n : Nat) (rs : List ResultVar) (lT : fn.ntmps = n) (kZ : fn.results.toList = rs) (hn : decide (args.length ≤ n) = true) (jy : Q8 args 0 = sl) (h : ∀ B, ARun P B c ⟨n, sl, [], 0, []⟩ (Av P B (fin P T rs r) [])) : PCall P f args r := by
 subst jy
 exact ez hT hf hb lV n rs lT kZ hn h
theorem Ac {P : Program} {T : TypeId → Option TI} (hT : AL P T) {f : FuncId} {args : List PV} {r : PRes} {sl : List (Nat × SVal)} {n : Nat} (hf : P.funcs[f]? = some fn) (lT : fn.ntmps = n) (rs : List ResultVar) (h : ∀ B, ARun P B c ⟨n, sl, [], 0, []⟩ (Av P B (fin P T rs r) []))
  (hb : fn.body = some c := by exact rfl) (lV : (fn.name == "runtime.NumGoroutine") = false := by kernel_rfl) (kZ : fn.results.toList = rs := by exact rfl) (hn : decide (args.length ≤ n) = true := by exact rfl) (jy : Q8 args 0 = sl := by repeat' (first | exact A6 rfl | apply AG (a := ((_, SVal.c _) : Nat × SVal)) rfl | apply AG (a := ((_, SVal.agg _) : Nat × SVal)) rfl)) : PCall P f args r :=
 bT hT hf hb lV n rs lT kZ hn jy h
theorem bU {P : Program} {T : TypeId → Option TI} (hT : AL P T) {F0 : Nat → Prop} {w0 : World} {f : FuncId} {args : List SVal} {mem : List Blk} {clock : Nat} {R : SVal → List Blk → Nat → Prop} {sl : List (Nat × SVal)} (hf : P.funcs[f]? = some fn) (hb : fn.body = some c) (lV : (fn.name == "runtime.NumGoroutine") = false)
  (n : Nat) (rs : List ResultVar) (lT : fn.ntmps = n) (kZ : fn.results.toList = rs) (hn : decide (args.length ≤ n) = true) (jy : NT args 0 = sl) (h : ∀ B : Base, B.F0 = F0 → B.w0 = w0 → ARun P B c ⟨n, sl, mem, clock, []⟩ (Av P B (AY P T rs R) [])) : MCall P F0 w0 f args mem clock R := by
 subst jy
 exact MCall.enter hT hf hb lV n rs lT kZ hn h
section
variable {P : Program} {T : TypeId → Option TI} {B : Base} {n : Nat} {sl : List (Nat × SVal)} {mem : List Blk} {ck : Nat} {df : List (FuncId × List Cell)} {R' : SVal → List Blk → Nat → Prop}
theorem gr {σ : St} {rs : List ResultVar} {e : Ex} (h : Av P B (AY P T rs R') [] e σ) : Av P B (AY P T rs R') [] e σ := h
end
end Go.Abs
end
