/-
  The rules of the walk, continued: slices, numbers, structs, calls.
-/
import Derived.Test.YtmpgmjlanngkfaaGreatEnA
import Derived.KernelRfl
section
namespace Go.Abs
open Go.RowKit
variable {W : List Nat} {args : Array Operand} {ats : Array TypeId} {b : Bool} {c : Code} {cs cs' : List Cell} {e ety t t' : TypeId} {ei i : TI} {es es' ys : List (List Dat)} {esz hi j k k' lo m r : Nat} {fn : Func} {keep : List (Nat × SVal)} {m' mem' : List Blk} {p : PV} {u v : SVal} {x y : Operand} {xs : List Dat} {z : Int} {τ : St}
theorem BW {n : Int} (h1 : -9223372036854775808 ≤ n) (h2 : n ≤ 9223372036854775807) : IntKind.i64.wrap n = n := IntWalk.i64_in n ⟨h1, h2⟩
theorem BQ {α : Type} {f : α → List Dat} {l : List α} {x : α} (h : l[j]? = some x) (hz : z.toNat = j) : (l.map f)[z.toNat]? = some (f x) := by
 subst hz; simp [h]
theorem L0 {α β : Type} {f : α → β} {l : List α} : (l.map f).length = l.length := BT ..
theorem Ia {α : Type} {f : α → List Dat} {l : List α} (h : ∀ x, (f x).length = k) : ∀ el ∈ l.map f, el.length = k := by
 intro el hel
 obtain ⟨x, _, rfl⟩ := List.mem_map.1 hel
 exact h x
theorem Bb : ∀ el ∈ ([] : List (List Dat)), el.length = k := by simp
theorem AJ {x : List Dat} {l : List (List Dat)} (h : x.length = k) (h' : ∀ el ∈ l, el.length = k) : ∀ el ∈ x :: l, el.length = k := by
 intro el hel
 rcases Dp.1 hel with rfl | hel
 ·exact h
 ·exact h' el hel
theorem UZ {α : Type} {f : α → List Dat} {l : List α} : ((l.map f).take hi).drop lo = ((l.take hi).drop lo).map f := by rw [List.map_drop, List.map_take]
section
variable {P : Program} {T : TypeId → Option TI} {F0 : Nat → Prop} {w0 : World} {dr : Bool} {ops rest : List Oper} {K : St → Prop} {n : Nat} {sl : List (Nat × SVal)} {mem : List Blk} {ck : Nat} {df : List (FuncId × List Cell)} {acc : List Nat}
variable {d : Tmp} {op : Op} {ty : TypeId} {pos : String} {aft : Array Edge} {g : Option (Nat × Bool)}
def JV (sl : List (Nat × SVal)) (dflt : Nat) : Option Operand → Option Int
 | none => some dflt
 | some x => (match AO sl x with
   | .c (.d (.lit (.int _ z))) => some z
   | _ => none)
theorem L1 {dflt : Nat} {o : Option Operand} (he : ∀ x ∈ o.toArray.toList, τ.ev x = AO sl x) (h : JV sl dflt o = some z) : MC dflt (o.map τ.ev) = some z := by
 cases o with
 | none => exact h
 | some x =>
   have := he x (by simp)
   simp only [JV] at h
   simp only [Option.map_some, this]
   generalize AO sl x = v at h ⊢
   unfold MC
   split at h
   ·exact h
   ·cases h
theorem NI (hT : AB P T) {bo : BinOp} {u' : SVal} (hw : GW ops g sl) (hx : AO sl x = u) (hy : AO sl y = u') (hv : ∀ V : SVal → Prop, V v → MK T bo t u u' V)
  (h : Reg P F0 w0 dr ops K rest ⟨n, (d, v) :: sl, mem, ck, df⟩ (0 :: acc)) : Reg P F0 w0 dr ops K (⟨some d, .binOp bo t x y t', ty, pos, aft, g⟩ :: rest) ⟨n, sl, mem, ck, df⟩ acc :=
 Gw hw (fun m c => Does.of hT fun τ he hm hc Kk hK => by
  subst hm; subst hc
  have ex := he x (by simp [Op.operands])
  have ey := he y (by simp [Op.operands])
  rw [hx] at ex
  rw [hy] at ey
  simp only [AP, ex, ey]
  exact hv _ (hK _ _ _ _ ⟨rfl, rfl, rfl, rfl⟩)) h
inductive IntOp : BinOp → IntKind → Int → Int → SVal → Prop
 | add64 {a b : Int} (h1 : -9223372036854775808 ≤ a + b) (h2 : a + b ≤ 9223372036854775807) : IntOp .add .i64 a b (.c (.d (.lit (.int .i64 (a + b)))))
 | add {k : IntKind} {a b : Int} : IntOp .add k a b (.c (.d (.lit (.int k (k.wrap (a + b))))))
 | sub64 {a b : Int} (h1 : -9223372036854775808 ≤ a - b) (h2 : a - b ≤ 9223372036854775807) : IntOp .sub .i64 a b (.c (.d (.lit (.int .i64 (a - b)))))
 | sub {k : IntKind} {a b : Int} : IntOp .sub k a b (.c (.d (.lit (.int k (k.wrap (a - b))))))
 | mul64 {a b : Int} (h1 : -9223372036854775808 ≤ a * b) (h2 : a * b ≤ 9223372036854775807) : IntOp .mul .i64 a b (.c (.d (.lit (.int .i64 (a * b)))))
 | mul {k : IntKind} {a b : Int} : IntOp .mul k a b (.c (.d (.lit (.int k (k.wrap (a * b))))))
 | quoN {a b : Nat} (h : 0 < b) (h2 : (a : Int) ≤ 9223372036854775807) : IntOp .quo .i64 (a : Int) (b : Int) (.c (.d (.lit (.int .i64 ((a / b : Nat) : Int)))))
 | quo {k : IntKind} {a b : Int} (h : b ≠ 0) : IntOp .quo k a b (.c (.d (.lit (.int k (k.wrap (a.tdiv b))))))
 | rem {k : IntKind} {a b : Int} (h : b ≠ 0) : IntOp .rem k a b (.c (.d (.lit (.int k (a.tmod b)))))
 | and {k : IntKind} {a b : Int} : IntOp .and k a b (.c (.d (.lit (.int k (LJ k a b)))))
 | eql {k : IntKind} {a b : Int} : IntOp .eql k a b (.c (.d (.lit (.bool (a == b)))))
 | neq {k : IntKind} {a b : Int} : IntOp .neq k a b (.c (.d (.lit (.bool (a != b)))))
 | lss {k : IntKind} {a b : Int} : IntOp .lss k a b (.c (.d (.lit (.bool (decide (a < b))))))
 | leq {k : IntKind} {a b : Int} : IntOp .leq k a b (.c (.d (.lit (.bool (decide (a ≤ b))))))
 | gtr {k : IntKind} {a b : Int} : IntOp .gtr k a b (.c (.d (.lit (.bool (decide (b < a))))))
 | geq {k : IntKind} {a b : Int} : IntOp .geq k a b (.c (.d (.lit (.bool (decide (b ≤ a))))))
inductive StrOp : BinOp → ByteArray → ByteArray → SVal → Prop
 | add {a b : ByteArray} (h : a.size + b.size ≤ maxLen) : StrOp .add a b (.c (.d (.lit (.string (a ++ b)))))
 | eql {a b : ByteArray} : StrOp .eql a b (.c (.d (.lit (.bool (a.toList == b.toList)))))
 | neq {a b : ByteArray} : StrOp .neq a b (.c (.d (.lit (.bool (!(a.toList == b.toList))))))
 | lss {a b : ByteArray} : StrOp .lss a b (.c (.d (.lit (.bool (Op.bytesLess a.toList b.toList)))))
def Qc (T : TypeId → Option TI) (sl : List (Nat × SVal)) (fs : List (Nat × TypeId)) : List (Nat × Operand) → List Cell → Option (List Cell)
 | [], cs => some cs
 | (i, x) :: rest, cs => match fs[i]?, (AO sl x).cells with
   | some (off, ft), some ns => (match T ft with
     | some j => bif Nat.beq ns.length j.size && Nat.ble (off + ns.length) cs.length then Qc T sl fs rest (cs.take off ++ ns ++ cs.drop (off + ns.length)) else none
     | none => none)
   | _, _ => none
theorem NJ {τ : St} {fs : List (Nat × TypeId)} : ∀ (parts : List (Nat × Operand)) (cs : List Cell), (∀ p ∈ parts, τ.ev p.2 = AO sl p.2) → ∀ cs', Qc T sl fs parts cs = some cs' → IC T τ fs parts cs = some cs'
 | [], cs, _, cs', h => h
 | (i, x) :: rest, cs, he, cs', h => by
   have hx := he (i, x) (by simp)
   simp only at hx
   unfold Qc at h
   unfold IC
   rw [hx]
   split at h
   · rename_i off ft ns e1 e2
     split at h
     ·rename_i j hj
      cases hc : (Nat.beq ns.length j.size && Nat.ble (off + ns.length) cs.length) with
      | false => rw [hc] at h; simp at h
      | true =>
        rw [hc] at h
        simp only [cond_true] at h
        simp only [BO, PS, KM] at hc
        simp only [e1, e2, hj]
        rw [if_pos hc]
        have := NJ (τ := τ) rest (cs.take off ++ ns ++ cs.drop (off + ns.length)) (fun p hp => he p (by simp [hp])) cs' h
        exact this
     ·cases h
   · cases h
def JW (sl : List (Nat × SVal)) (size : Nat) : List (Nat × Operand) → Nat → Option (List (List Dat))
 | [], _ => some []
 | (i, x) :: rest, k => bif Nat.beq i k then (match (AO sl x).cells with
     | some cs => (match DF cs, JW sl size rest (k + 1) with
       | some ds, some r => bif Nat.beq ds.length size then some (ds :: r) else none
       | _, _ => none)
     | none => none) else none
theorem Ib {τ : St} {size : Nat} : ∀ (parts : List (Nat × Operand)) (k : Nat), (∀ p ∈ parts, τ.ev p.2 = AO sl p.2) → ∀ es, JW sl size parts k = some es → DZ τ size parts k = some es
 | [], k, _, es, h => h
 | (i, x) :: rest, k, he, es, h => by
   have hx := he (i, x) (by simp)
   simp only at hx
   unfold JW at h
   unfold DZ
   rw [hx]
   cases hb : Nat.beq i k with
   | false => rw [hb] at h; simp at h
   | true =>
     rw [hb] at h
     simp only [cond_true] at h
     rw [if_pos (Yj hb)]
     split at h
     ·rename_i cs hcs
      split at h
      ·rename_i ds r hds hr
       cases hc : Nat.beq ds.length size with
       | false => rw [hc] at h; simp at h
       | true =>
         rw [hc] at h
         simp only [cond_true] at h
         have hq := Ib (τ := τ) rest (k + 1) (fun p hp => he p (by simp [hp])) r hr
         simp only [hcs, hds, hq]
         rw [if_pos (Yj hc)]
         exact h
      ·cases h
     ·cases h
theorem W0 (hT : AB P T) {l c : Operand} {k k' : IntKind} {z' : Int} {zs : List Dat} (hw : GW ops g sl) (hl : AO sl l = .c (.d (.lit (.int k z)))) (hc : AO sl c = .c (.d (.lit (.int k' z')))) (ht : T t = some i) (hi : i.desc = .slice e) (hei : T e = some ei)
  (hzs : DF (ei.zero.map BP) = some zs) (hk : (Nat.blt 0 ei.size && Nat.beq ei.zero.length ei.size) = true) (h0 : 0 ≤ z) (hzz : z ≤ z') (hmx : z' ≤ 9223372036854775807) (hby : (ei.bytes : Int) * z' ≤ 281474976710656) (hr : mem.length = r) (hm : z.toNat = m) (hm' : mem ++ [Blk.arr (ck + 1) e ei.size (List.replicate m zs)] = mem')
  (h : Reg P F0 w0 dr ops K rest ⟨n, (d, .c (.arr r (ck + 1) m)) :: sl, mem', ck + 1, df⟩ (2 :: acc)) : Reg P F0 w0 dr ops K (⟨some d, .makeSlice t l c, ty, pos, aft, g⟩ :: rest) ⟨n, sl, mem, ck, df⟩ acc :=
 RS (df' := []) hw (Does.of hT fun τ he hmm hck Kk hK => by
  subst hmm; subst hck; subst hr; subst hm; subst hm'
  have el := he l (by simp [Op.operands])
  have ec := he c (by simp [Op.operands])
  rw [hl] at el
  rw [hc] at ec
  obtain ⟨a1, a2, a3, a4, a5⟩ := i
  simp only at hi
  subst hi
  simp only [BO, PS, KM, Nat.blt, QI] at hk
  simp only [AP, MJ, ht, hei, el, ec, hzs]
  exact ⟨hk.1, hk.2, h0, hzz, hmx, hby, hK _ _ _ _ ⟨rfl, rfl, rfl, rfl⟩⟩) h
def Qd (sl : List (Nat × SVal)) : List Operand → Option (List Cell)
 | [] => some []
 | x :: xs => match AO sl x, Qd sl xs with
   | .c c, some cs => some (c :: cs)
   | _, _ => none
theorem NK {τ : St} : ∀ (xs : List Operand), (∀ x ∈ xs, τ.ev x = AO sl x) → ∀ cs, Qd sl xs = some cs → FR τ xs = some cs
 | [], _, cs, h => h
 | x :: xs, he, cs, h => by
   unfold Qd at h
   unfold FR
   rw [he x (by simp)]
   split at h
   ·rename_i c cs' e1 e2
    rw [e1, NK (τ := τ) xs (fun y hy => he y (by simp [hy])) cs' e2]
    exact h
   ·cases h
theorem Jb {f : Operand} (he : ∀ x ∈ (Op.call ⟨.value f, args, ats⟩).operands.toList, τ.ev x = AO sl x) : τ.ev f = AO sl f ∧ args.toList.map τ.ev = args.toList.map (AO sl) :=
 ⟨he f (by simp [Op.operands, Call.operands]), RU fun x hx => he x (by simp only [Op.operands, Call.operands]; simp; exact .inr (by simpa using hx))⟩
theorem U0 (hT : AB P T) {f : Operand} {fv : SVal} {fid : FuncId} {caps : List Cell} {aS : List SVal} {c' : Nat} (hw : GW ops g sl) (hf : AO sl f = fv) (hc : Cv fv = some (fid, caps)) (has : args.toList.map (AO sl) ++ caps.map .c = aS) (hp : MCall P F0 w0 fid aS mem ck fun v' m c => v' = v ∧ m = m' ∧ c = c')
  (h : Reg P F0 w0 dr ops K rest ⟨n, (d, v) :: sl, m', c', df⟩ (2 :: acc)) : Reg P F0 w0 dr ops K (⟨some d, .call ⟨.value f, args, ats⟩, ty, pos, aft, g⟩ :: rest) ⟨n, sl, mem, ck, df⟩ acc :=
 RS (df' := []) hw (Does.of hT fun τ he hm hck Kk hK => by
  subst hm; subst hck; subst has
  obtain ⟨e1, e2⟩ := Jb he
  rw [hf] at e1
  simp only [AP, Ed, e1, hc, e2]
  refine ⟨hp.1, fun E w vs q1 q2 q3 => Calls.mono (hp.2 E w vs q1 q2 q3) fun _ _ ⟨v', E', r, m, c, p1, p2, p3, p4, p5, p6, p7⟩ => ⟨v', E', r, m, c, p1, p2, p3, p4, ?_⟩⟩
  subst p5; subst p6; subst p7
  exact hK _ _ _ _ ⟨rfl, rfl, rfl, rfl⟩) h
theorem W1 (hT : AB P T) (hw : GW ops g sl) (hx : AO sl x = .c .emp) (hy : AO sl y = u) (hs : FQ u = some ys) (ht : T t = some i) (hi : i.desc = .slice e) (hei : T e = some ei) (hk : (Nat.blt 0 ei.size && Nat.beq ei.zero.length ei.size) = true)
  (hsz : ∀ el ∈ ys, el.length = ei.size) (hl : ys.length = m) (hmx : (m : Int) ≤ 9223372036854775807) (hby : m * ei.bytes ≤ 140737488355328) (hr : mem.length = r) (hm' : mem ++ [Blk.arr (ck + 1) e ei.size ys] = mem')
  (h : Reg P F0 w0 dr ops K rest ⟨n, (d, .c (.arr r (ck + 1) m)) :: sl, mem', ck + 1, df⟩ (2 :: acc)) : Reg P F0 w0 dr ops K (⟨some d, .call ⟨.builtin .append, #[x, y], #[t, t]⟩, ty, pos, aft, g⟩ :: rest) ⟨n, sl, mem, ck, df⟩ acc :=
 RS (df' := []) hw (Does.of hT fun τ he hmm hck Kk hK => by
  subst hmm; subst hck; subst hr; subst hl; subst hm'
  have ex := he x (by simp [Op.operands, Call.operands])
  have ey := he y (by simp [Op.operands, Call.operands])
  rw [hx] at ex
  rw [hy] at ey
  obtain ⟨a1, a2, a3, a4, a5⟩ := i
  simp only at hi
  subst hi
  simp only [BO, PS, KM, Nat.blt, QI] at hk
  simp only [AP, Ed, EB, ht, hei, ex, ey, hs]
  exact ⟨trivial, hk.1, hk.2, hsz, by simp only [maxLen]; omega, hby, hK _ _ _ _ ⟨rfl, rfl, rfl, rfl⟩⟩) h
theorem W2 (hT : AB P T) (hw : GW ops g sl) (hx : AO sl x = .c (.arr r k j)) (hy : AO sl y = u) (hs : FQ u = some ys) (ht : T t = some i) (hi : i.desc = .slice e) (hei : T e = some ei) (hk : (Nat.blt 0 ei.size && Nat.beq ei.zero.length ei.size) = true)
  (hm : mem[r]? = some (.arr k e esz es)) (hesz : esz = ei.size) (hsz : ∀ el ∈ ys, el.length = ei.size) (hj : j ≤ es.length) (hl : j + ys.length = m) (hmx : (m : Int) ≤ 9223372036854775807) (hby : m * ei.bytes ≤ 140737488355328) (hes : es.take j ++ ys = es') (hm' : mem.set r (Blk.arr (ck + 1) e ei.size es') = mem')
  (h : Reg P F0 w0 dr ops K rest ⟨n, (d, .c (.arr r (ck + 1) m)) :: sl, mem', ck + 1, df⟩ (2 :: acc)) : Reg P F0 w0 dr ops K (⟨some d, .call ⟨.builtin .append, #[x, y], #[t, t]⟩, ty, pos, aft, g⟩ :: rest) ⟨n, sl, mem, ck, df⟩ acc :=
 RS (df' := []) hw (Does.of hT fun τ he hmm hck Kk hK => by
  subst hmm; subst hck; subst hl; subst hes; subst hm'; subst hesz
  have ex := he x (by simp [Op.operands, Call.operands])
  have ey := he y (by simp [Op.operands, Call.operands])
  rw [hx] at ex
  rw [hy] at ey
  obtain ⟨a1, a2, a3, a4, a5⟩ := i
  simp only at hi
  subst hi
  simp only [BO, PS, KM, Nat.blt, QI] at hk
  simp only [AP, Ed, EB, ht, hei, ex, ey, hs, hm]
  exact ⟨trivial, hk.1, hk.2, hsz, trivial, trivial, trivial, hj, by simp only [maxLen]; omega, hby, hK _ _ _ _ ⟨rfl, rfl, rfl, rfl⟩⟩) h
end
theorem A4 {m : List Blk} : Ap m [] := fun s x h => by simp at h
theorem Ab {b : Blk} {m : List Blk} (h : Ap m m') : Ap (b :: m) (b :: m') := fun s x hs hx => by
 cases s with
 | zero => simpa using hs
 | succ s => simpa using h s x (by simpa using hs) hx
theorem El {b : Blk} {m : List Blk} (h : Ap m m') : Ap (b :: m) (.dead :: m') := fun s x hs hx => by
 cases s with
 | zero => simp at hs; subst hs; exact hx.elim
 | succ s => simpa using h s x (by simpa using hs) hx
theorem Q8 {z : Nat} {m : List Blk} (hk : k = k') (he : es = es') (h : Ap m m') : Ap (.arr k t z es :: m) (.arr k' t z es' :: m') := by subst hk; subst he; exact Ab h
theorem Q9 {m : List Blk} (hk : k = k') (he : cs = cs') (h : Ap m m') : Ap (.box k cs :: m) (.box k' cs' :: m') := by subst hk; subst he; exact Ab h
theorem Qe {k : IntKind} {a b : Int} (h : a = b) : VLe (.c (.d (.lit (.int k a)))) (.c (.d (.lit (.int k b)))) := by subst h; exact .inl rfl
theorem YH {a b : Dat} (h : a = b) : VLe (.c (.d a)) (.c (.d b)) := by subst h; exact .inl rfl
theorem Qf {m' : Nat} (hk : k = k') (h : m = m') : VLe (.c (.arr r k m)) (.c (.arr r k' m')) := by subst hk; subst h; exact .inl rfl
theorem SL {a : SVal} : VLe a a := .inl rfl
theorem U1 : VLe (.c .emp) (.c (.d (.sl []))) := .inr (.inr ⟨rfl, rfl⟩)
inductive Keep : List Nat → List (Nat × SVal) → List (Nat × SVal) → Prop
 | nil (W : List Nat) : Keep W [] []
 | out {W : List Nat} {t : Nat} {v : SVal} {sl keep : List (Nat × SVal)} (h : W.contains t = true) (hk : Keep W sl keep) : Keep W ((t, v) :: sl) keep
 | into {W : List Nat} {t : Nat} {v : SVal} {sl keep : List (Nat × SVal)} (h : W.contains t = false) (hk : Keep (t :: W) sl keep) : Keep W ((t, v) :: sl) ((t, v) :: keep)
inductive Pre (W : List Nat) (keep : List (Nat × SVal)) : List (Nat × SVal) → Prop
 | here : Pre W keep keep
 | cons {t : Nat} {v : SVal} {sl : List (Nat × SVal)} (h : W.contains t = true) (hp : Pre W keep sl) : Pre W keep ((t, v) :: sl)
theorem Keep.not {sl : List (Nat × SVal)} (h : Keep W sl keep) : ∀ t v, (t, v) ∈ keep → W.contains t = false := by
 induction h with
 | nil W => intro t v hm; simp at hm
 | out h hk ih => exact ih
 | into h hk ih =>
   intro t' v' hm
   rcases Dp.1 hm with e | hm
   ·cases e; exact h
   ·have := ih t' v' hm
    simp only [List.contains_cons, Bool.or_eq_false_iff] at this
    exact this.2
theorem Keep.look {sl : List (Nat × SVal)} (h : Keep W sl keep) : (∀ t v, (t, v) ∈ keep → look sl t = v) ∧ (∀ t v, (t, v) ∈ keep → look keep t = v) := by
 induction h with
 | nil W => exact ⟨by simp, by simp⟩
 | out h hk ih =>
   rename_i W t v sl keep
   refine ⟨fun t' v' hm => ?_, ih.2⟩
   rw [Bo]
   have := hk.not t' v' hm
   rw [if_neg (by rintro rfl; rw [h] at this; cases this)]
   exact ih.1 t' v' hm
 | into h hk ih =>
   rename_i W t v sl keep
   have hne : ∀ t' v', (t', v') ∈ keep → t ≠ t' := by
    rintro t' v' hm rfl
    have := hk.not t v' hm
    simp at this
   refine ⟨fun t' v' hm => ?_, fun t' v' hm => ?_⟩
   ·rcases Dp.1 hm with e | hm
    ·cases e; simp [Bo]
    ·rw [Bo, if_neg (hne t' v' hm)]; exact ih.1 t' v' hm
   ·rcases Dp.1 hm with e | hm
    ·cases e; simp [Bo]
    ·rw [Bo, if_neg (hne t' v' hm)]; exact ih.2 t' v' hm
theorem G8 {σ : St} : ∀ {l : List (Nat × SVal)}, (∀ t v, (t, v) ∈ l → VLe (σ.get t) v) → Al σ l
 | [], _ => trivial
 | (t, v) :: l, h => ⟨h t v (by simp), G8 fun t v hm => h t v (by simp [hm])⟩
theorem Em {σ : St} : ∀ {a b : List (Nat × SVal)}, Al σ a → Al σ b → Al σ (a ++ b)
 | [], _, _, hb => hb
 | (_, _) :: _, _, ha, hb => ⟨ha.1, Em ha.2 hb⟩
theorem Pre.look {sl : List (Nat × SVal)} (h : Pre W keep sl) (hn : ∀ t v, (t, v) ∈ keep → W.contains t = false) (hl : ∀ t v, (t, v) ∈ keep → look keep t = v) : ∀ t v, (t, v) ∈ keep → look sl t = v := by
 induction h with
 | here => exact hl
 | cons h hp ih =>
   intro t' v' hm
   rw [Bo]
   have := hn t' v' hm
   rw [if_neg (by rintro rfl; rw [h] at this; cases this)]
   exact ih t' v' hm
section
variable {P : Program} {T : TypeId → Option TI} {B : Base} {Q : Ex → St → Prop} {R : Ex → St → Prop} {ks : List Fr}
theorem YI {σ : St} {X : Type} (Inv : X → Prop) (I : X → St) (m : X → Nat) (x0 : X) (hx : Inv x0) (h0 : Weak σ (I x0)) 
   (h : ∀ x, Inv x → ARun P B c (I x) (Aq P B (DI P B R ks fun τ => ∃ y, Inv y ∧ Weak τ (I y) ∧ m y < m x) [])) : ARun P B (.loop c) σ (Aq P B R ks) := by
 refine Uq (X := { x // Inv x }) (fun x => I x.1) (fun x => m x.1) ⟨x0, hx⟩ h0 fun x => ?_
 refine (h x.1 x.2).mono fun e τ q => ?_
 cases e with
 | norm =>
   obtain ⟨y, h1, h2, h3⟩ := q
   exact ⟨⟨y, h1⟩, h2, h3⟩
 | exit i => exact q
 | ret => exact q
section
variable {n : Nat} {sl : List (Nat × SVal)} {mem : List Blk} {ck : Nat} {df : List (FuncId × List Cell)}
structure LoopG {X : Type} (Inv : X → Prop) (chg : X → List (Nat × SVal) → List (Nat × SVal)) (memF : X → List Blk) (m : X → Nat) (W : List Nat) (keep : List (Nat × SVal)) (n : Nat) (df : List (FuncId × List Cell)) (x : X) (τ : St) : Prop where
 ex : ∃ y, Inv y ∧ τ.n = n ∧ Al τ (chg y []) ∧ Pre W keep τ.slots ∧ Ap τ.mem (memF y) ∧ τ.defers = df ∧ m y < m x
theorem Z6 {X : Type} (W : List Nat) (Inv : X → Prop) (chg : X → List (Nat × SVal) → List (Nat × SVal)) (memF : X → List Blk) (m : X → Nat) (x0 : X) (hk : Keep W sl keep) (hch : ∀ x l, chg x l = chg x [] ++ l)
  (hs : Al ⟨n, sl, mem, ck, df⟩ (chg x0 [])) (hm : Ap mem (memF x0)) (hx : Inv x0)
  (h : ∀ x k, Inv x → ARun P B c ⟨n, chg x keep, memF x, k, df⟩ (Aq P B (DI P B R ks (LoopG Inv chg memF m W keep n df x)) [])) : ARun P B (.loop c) ⟨n, sl, mem, ck, df⟩ (Aq P B R ks) := by
 refine YI (σ := ⟨n, sl, mem, ck, df⟩) (X := X × Nat) (fun x => Inv x.1) (fun x => ⟨n, chg x.1 keep, memF x.1, x.2, df⟩) (fun x => m x.1) (x0, ck) hx ⟨rfl, ?_, hm, Nat.le_refl _, rfl⟩ fun x hx => ?_
 ·simp only
  rw [hch]
  exact Em hs (G8 fun t v ht => .inl (hk.look.1 t v ht))
 ·refine (h x.1 x.2 hx).mono fun e τ q => ?_
  cases e with
  | norm =>
    obtain ⟨y, h1, h2, h3, h4, h5, h7, h8⟩ := q.ex
    refine ⟨(y, τ.clock), h1, ⟨h2.symm, ?_, h5, Nat.le_refl _, h7.symm⟩, h8⟩
    simp only
    rw [hch]
    exact Em h3 (G8 fun t v ht => .inl (h4.look hk.not hk.look.2 t v ht))
  | exit i => exact q
  | ret => exact q
theorem U2 {X : Type} {Inv : X → Prop} {chg : X → List (Nat × SVal) → List (Nat × SVal)} {memF : X → List Blk} {m : X → Nat} {x : X} (y : X) (hs : Al ⟨n, sl, mem, ck, df⟩ (chg y [])) (hp : Pre W keep sl) (hm : Ap mem (memF y)) (hi : Inv y) (hd : m y < m x) :
 Aq P B (DI P B R ks (LoopG Inv chg memF m W keep n df x)) [] .norm ⟨n, sl, mem, ck, df⟩ := ⟨y, hi, rfl, hs, hp, hm, rfl, hd⟩
theorem C5 {σ : St} {G : St → Prop} {i : Nat} (h : Aq P B R ks (.exit i) σ) : Aq P B (DI P B R ks G) [] (.exit i) σ := h
theorem VU {σ : St} {G : St → Prop} (h : Aq P B R ks .ret σ) : Aq P B (DI P B R ks G) [] .ret σ := h
theorem W3 {c : Operand} {x y : Code} (hc : AO sl c = DE b) (h1 : b = true → ARun P B x ⟨n, sl, mem, ck, df⟩ Q) (h2 : b = false → ARun P B y ⟨n, sl, mem, ck, df⟩ Q) : ARun P B (.cond c x y) ⟨n, sl, mem, ck, df⟩ Q :=
 Wz (b := b) (by rw [C4]; exact hc) h1 h2
theorem YJ {c : Operand} {x y : Code} (hc : AO sl c = DE b) (hb : b = true) (h1 : ARun P B x ⟨n, sl, mem, ck, df⟩ Q) : ARun P B (.cond c x y) ⟨n, sl, mem, ck, df⟩ Q :=
 W3 hc (fun _ => h1) (fun q => by rw [hb] at q; cases q)
theorem YK {c : Operand} {x y : Code} (hc : AO sl c = DE b) (hb : b = false) (h1 : ARun P B y ⟨n, sl, mem, ck, df⟩ Q) : ARun P B (.cond c x y) ⟨n, sl, mem, ck, df⟩ Q :=
 W3 hc (fun q => by rw [hb] at q; cases q) (fun _ => h1)
theorem L3 {σ : St} (hn : τ.n = σ.n) (ht : ∀ a w, Rel B σ a w → Rel B τ a w) (h : ARun P B c τ Q) : ARun P B c σ Q := fun a w hr => by
 refine Code.wp_mono (fun e a' w' hq => ?_) (h a w (ht a w hr))
 obtain ⟨x, σ', h1, h2, h3, h4⟩ := hq
 exact ⟨x, σ', h1, h2.trans hn, h3, h4⟩
theorem JX {t : Nat} (ht : look sl t = .c (.arr r k m)) (hm : mem[r]? = some (.arr k ety esz es)) (hl : m ≤ es.length) {a : Act} {w : World} (h : Rel B ⟨n, sl, mem, ck, df⟩ a w) :
  Rel B ⟨n, (t, .c (.d (.sl (es.take m)))) :: sl, mem.set r .dead, ck, df⟩ a w := by
 obtain ⟨E, hr, hB⟩ := h
 have hz := hr.1.freeze r k ety esz es hm
 refine ⟨_, ⟨hz.1, hr.2.1, hr.2.2.1.le hz.2, fun s => ?_⟩, hB.trans hz.2⟩
 simp only [St.get, Bo]
 by_cases hs : t = s
 ·subst hs
  rw [if_pos rfl]
  have := hr.2.2.2 t
  simp only [St.get, ht] at this
  generalize a.tmps.getD t undef = v at this
  cases this with | c q => exact .c (.d (EC hr.1 hm hl q (fun b hb => .inl hb) (fun hc => .inr ⟨rfl, hc⟩)))
 ·rw [if_neg hs]
  exact (hr.2.2.2 s).le hz.2
theorem SM (t : Nat) (ht : look sl t = .c (.arr r k m)) (hm : mem[r]? = some (.arr k ety esz es)) (hl : m ≤ es.length) (hes : es.take m = es') (hm' : mem.set r .dead = mem')
  (h : ARun P B c ⟨n, (t, .c (.d (.sl es'))) :: sl, mem', ck, df⟩ Q) : ARun P B c ⟨n, sl, mem, ck, df⟩ Q := by
 subst hes; subst hm'
 exact L3 (τ := ⟨n, (t, .c (.d (.sl (es.take m)))) :: sl, mem.set r .dead, ck, df⟩) rfl (fun a w hr => JX ht hm hl hr) h
theorem SN (t : Nat) {F0 : Nat → Prop} {w0 : World} {ops rest : List Oper} {K : St → Prop} {acc : List Nat} (ht : look sl t = .c (.arr r k m)) (hm : mem[r]? = some (.arr k ety esz es)) (hl : m ≤ es.length) (hes : es.take m = es') (hm' : mem.set r .dead = mem')
  (h : Reg P F0 w0 false ops K rest ⟨n, (t, .c (.d (.sl es'))) :: sl, mem', ck, df⟩ acc) : Reg P F0 w0 false ops K rest ⟨n, sl, mem, ck, df⟩ acc := by
 subst hes; subst hm'
 exact .turn (τ := ⟨n, (t, .c (.d (.sl (es.take m)))) :: sl, mem.set r .dead, ck, df⟩) rfl rfl (fun _ _ _ _ _ hr => JX ht hm hl hr) h
theorem U3 {t : Nat} (ety : TypeId) (esz : Nat) (ht : look sl t = .c .emp) (hz : 0 < esz) {a : Act} {w : World} (h : Rel B ⟨n, sl, mem, ck, df⟩ a w) :
  Rel B ⟨n, (t, .c (.arr mem.length (ck + 1) 0)) :: sl, mem ++ [Blk.arr (ck + 1) ety esz []], ck + 1, df⟩ a w := by
 obtain ⟨E, hr, hB⟩ := h
 have hn := hr.1.newArr (w' := w) ety esz 0 [] hz (by simp) (by simp) (by simp [maxLen]) (Bel.refl _ _) (fun _ _ => rfl) (.inl rfl)
 refine ⟨_, ⟨hn.1, hr.2.1, hr.2.2.1.le hn.2, fun s => ?_⟩, hB.trans hn.2⟩
 simp only [St.get, Bo]
 by_cases hs : t = s
 ·subst hs
  rw [if_pos rfl]
  have := hr.2.2.2 t
  simp only [St.get, ht] at this
  generalize a.tmps.getD t undef = v at this
  cases this with | c q => cases q with | emp b =>
  exact .c (.arr _ _ 0 _ rfl (by simp [Env.upd]) (fun _ => .inl ⟨by simp [Env.upd], rfl, b, rfl⟩))
 ·rw [if_neg hs]
  exact (hr.2.2.2 s).le hn.2
theorem W4 (t : Nat) (ety : TypeId) (esz : Nat) (ht : look sl t = .c .emp) (hz : Nat.blt 0 esz = true) (hr : mem.length = r) (hm' : mem ++ [Blk.arr (ck + 1) ety esz []] = mem')
  (h : ARun P B c ⟨n, (t, .c (.arr r (ck + 1) 0)) :: sl, mem', ck + 1, df⟩ Q) : ARun P B c ⟨n, sl, mem, ck, df⟩ Q := by
 subst hr; subst hm'
 exact L3 (τ := ⟨n, (t, .c (.arr mem.length (ck + 1) 0)) :: sl, mem ++ [Blk.arr (ck + 1) ety esz []], ck + 1, df⟩) rfl (fun a w hr => U3 ety esz ht (by simp only [Nat.blt, KM] at hz; omega) hr) h
theorem YL {t : Nat} {x y : Dat} (h : look sl t = .c (.d y)) (e : y = x) : Am T ⟨n, sl, mem, ck, df⟩ (.tmp t) fun s => SF mem s (.one x) := by
 subst e
 simp only [Am, St.get, h, SF, CF, Cell.dat]
theorem W5 {t : Nat} {x : Dat} (h : look sl t = .c .emp) (e : .sl [] = x) : Am T ⟨n, sl, mem, ck, df⟩ (.tmp t) fun s => SF mem s (.one x) := by
 subst e
 simp only [Am, St.get, h, SF, CF, Cell.dat]
theorem W6 {t : Nat} {x : Dat} (h : look sl t = .c (.arr r k m)) (hm : mem[r]? = some (.arr k ety esz es)) (hl : m ≤ es.length) (e : .sl (es.take m) = x) : Am T ⟨n, sl, mem, ck, df⟩ (.tmp t) fun s => SF mem s (.one x) := by
 subst e
 simp only [Am, St.get, h, SF, CF, hm]
 exact ⟨trivial, hl, trivial⟩
theorem U4 {a t o : Nat} (h : look sl a = .c (.bp r k o)) (ht : T t = some i) (ha : i.desc.agg = true) (hm : mem[r]? = some (.box k cs)) (hs : decide (o + i.size ≤ cs.length) = true) (hcs : (cs.drop o).take i.size = cs') (hc : CFs mem cs' xs) : Am T ⟨n, sl, mem, ck, df⟩ (.cell a t) fun s => SF mem s (.agg xs) := by
 subst hcs
 simp only [Am, St.get, h, Dq, ht, ha, hm]
 exact ⟨.inl trivial, trivial, by simpa using hs, hc⟩
theorem Ic {x y : Dat} (e : y = x) : CF mem (.d y) x := by subst e; simp only [CF, Cell.dat]
theorem SO {x : Dat} (e : .sl [] = x) : CF mem .emp x := by subst e; simp only [CF, Cell.dat]
theorem L4 {x : Dat} (hm : mem[r]? = some (.arr k ety esz es)) (hl : m ≤ es.length) (e : .sl (es.take m) = x) : CF mem (.arr r k m) x := by
 subst e; simp only [CF, hm]; exact ⟨trivial, hl, trivial⟩
theorem L5 : CFs mem [] [] := trivial
theorem Cj {c : Cell} {x : Dat} (h : CF mem c x) (h' : CFs mem cs xs) : CFs mem (c :: cs) (x :: xs) := ⟨h, h'⟩
theorem Ay {x : ResultVar} (hd : Af P df) (h : Am T ⟨n, sl, mem, ck, df⟩ x fun s => SF mem s p) : Aq P B (B5 P T [x] (.v p)) [] .ret ⟨n, sl, mem, ck, df⟩ := ⟨hd, h⟩
theorem Ar {x y : ResultVar} {q : PV} (hd : Af P df) (h1 : Am T ⟨n, sl, mem, ck, df⟩ x fun s => SF mem s p) (h2 : Am T ⟨n, sl, mem, ck, df⟩ y fun s => SF mem s q) : Aq P B (B5 P T [x, y] (.tup [p, q])) [] .ret ⟨n, sl, mem, ck, df⟩ := ⟨hd, by simp, h1, h2, trivial⟩
theorem G9 {x y z : ResultVar} {q r : PV} (hd : Af P df) (h1 : Am T ⟨n, sl, mem, ck, df⟩ x fun s => SF mem s p) (h2 : Am T ⟨n, sl, mem, ck, df⟩ y fun s => SF mem s q) (h3 : Am T ⟨n, sl, mem, ck, df⟩ z fun s => SF mem s r) : Aq P B (B5 P T [x, y, z] (.tup [p, q, r])) [] .ret ⟨n, sl, mem, ck, df⟩ := ⟨hd, by simp, h1, h2, h3, trivial⟩
theorem Ac : Af P [] := trivial
theorem Ah {f : FuncId} {l : List (FuncId × List Cell)} (h : DeferOk P f cs.length) (h' : Af P l) : Af P ((f, cs) :: l) := ⟨h, h'⟩
end
variable {σ : St}
theorem SP (r j : Nat) (ety : TypeId) (esz : Nat) (k : Nat) (cs : List Cell) (hm : σ.mem[r]? = some (.box k cs)) (hj : cs[j]? = some .emp) (hz : 0 < esz) 
  (h : ARun P B c { σ with mem := σ.mem.set r (.box k (cs.set j (.arr σ.mem.length (σ.clock + 1) 0))) ++ [Blk.arr (σ.clock + 1) ety esz []], clock := σ.clock + 1 } Q) : ARun P B c σ Q := by
 intro a w hr
 obtain ⟨E, hr, hB⟩ := hr
 have hn := hr.1.newArr (w' := w) ety esz 0 [] hz (by simp) (by simp) (by simp [maxLen]) (Bel.refl _ _) (fun _ _ => rfl) (.inl rfl)
 have hlt := lt_of_getElem? hm
 have hjl := lt_of_getElem? hj
 refine h a w ⟨_, ⟨?_, hr.2.1, hr.2.2.1.le hn.2, fun s => (hr.2.2.2 s).le hn.2⟩, hB.trans hn.2⟩
 obtain ⟨n1, n2, n3, n4, n5⟩ := hn.1
 refine ⟨n1, n2, n3, ⟨n4.clock, fun s b hs => ?_, fun s s' b b' hs hs' hb hb' hne => ?_⟩, n5⟩
 ·by_cases hrs : s = r
  · subst hrs
    rw [LI (by simpa using hlt), ON (by simpa using hlt)] at hs
    simp only [Option.some.injEq] at hs
    subst hs
    have ho := n4.ok s (.box k cs) (by rw [LI hlt]; exact hm)
    obtain ⟨o1, o2, o3, c0, ety0, o4, o5, o6⟩ := ho
    refine ⟨o1, o2, o3, c0, ety0, o4, by simpa using o5, fun i v x hv hx => ?_⟩
    by_cases hij : j = i
    ·subst hij
     rw [ON hjl] at hx
     simp only [Option.some.injEq] at hx
     subst hx
     have := o6 j v .emp hv hj
     cases this with | emp q =>
     exact .arr _ _ 0 _ rfl (by simp [Env.upd]) (fun _ => .inl ⟨by simp [Env.upd], rfl, q, rfl⟩)
    ·rw [OO hij] at hx
     exact o6 i v x hv hx
  · refine n4.ok s b ?_
    by_cases hsl : s < σ.mem.length
    ·rw [LI (by simpa using hsl), OO (Ne.symm hrs)] at hs
     rw [LI hsl]
     exact hs
    ·rw [LH (by simpa using Yo hsl)] at hs
     rw [LH (Yo hsl)]
     simpa using hs
 ·have key : ∀ (s : Nat) b, (σ.mem.set r (.box k (cs.set j (.arr σ.mem.length (σ.clock + 1) 0))) ++ [Blk.arr (σ.clock + 1) ety esz []])[s]? = some b →
     ∃ b0, (σ.mem ++ [Blk.arr (σ.clock + 1) ety esz []])[s]? = some b0 ∧ ∀ E', b.has E' s → b0.has E' s := by
    intro s b hs
    by_cases hrs : s = r
    ·subst hrs
     rw [LI (by simpa using hlt), ON (by simpa using hlt)] at hs
     simp only [Option.some.injEq] at hs
     subst hs
     exact ⟨.box k cs, by rw [LI hlt]; exact hm, fun _ _ => trivial⟩
    ·refine ⟨b, ?_, fun _ h => h⟩
     by_cases hsl : s < σ.mem.length
     ·rw [LI (by simpa using hsl), OO (Ne.symm hrs)] at hs
      rw [LI hsl]
      exact hs
     ·rw [LH (by simpa using Yo hsl)] at hs
      rw [LH (Yo hsl)]
      simpa using hs
  obtain ⟨b0, q1, q2⟩ := key s b hs
  obtain ⟨b1, p1, p2⟩ := key s' b' hs'
  exact n4.apart s s' b0 b1 q1 p1 (q2 _ hb) (p2 _ hb') hne
theorem Ra {n : Nat} {sl : List (Nat × SVal)} {mem : List Blk} {ck : Nat} {df : List (FuncId × List Cell)} (r j : Nat) (ety : TypeId) (esz : Nat) {r' : Nat} (hm : mem[r]? = some (.box k cs)) (hj : cs[j]? = some .emp) (hz : Nat.blt 0 esz = true) (hr : mem.length = r') (hcs : cs.set j (.arr r' (ck + 1) 0) = cs') (hm' : mem.set r (.box k cs') ++ [Blk.arr (ck + 1) ety esz []] = mem')
  (h : ARun P B c ⟨n, sl, mem', ck + 1, df⟩ Q) : ARun P B c ⟨n, sl, mem, ck, df⟩ Q := by
 subst hr; subst hcs; subst hm'
 exact SP (σ := ⟨n, sl, mem, ck, df⟩) r j ety esz k cs hm hj (by simp only [Nat.blt, KM] at hz; omega) h
theorem Hy (t : Nat) (ht : σ.get t = .c (.d (.sl es))) (h : es.length ≤ maxLen → ARun P B c σ Q) : ARun P B c σ Q := by
 intro a w hr
 refine h ?_ a w hr
 obtain ⟨E, hr, _⟩ := hr
 have := hr.2.2.2 t
 rw [ht] at this
 generalize a.tmps.getD t undef = v at this
 cases this with | c q => cases q with | d q => cases q with
 | emp => simp
 | sl _ b off cap size u h1 h2 h3 => exact OQ h2 h3
def Pk (T : TypeId → Option TI) (σ : St) (rs : List ResultVar) (R : SVal → Prop) : Prop :=
 match rs with
 | [] => R (.tup [])
 | [x] => Am T σ x R
 | [x, y] => Am T σ x fun a => Am T σ y fun b => R (.tup [a, b])
 | _ => False
def AW (P : Program) (T : TypeId → Option TI) (rs : List ResultVar) (R : SVal → List Blk → Nat → Prop) : Ex → St → Prop
 | .exit _, _ => False
 | _, σ => Af P σ.defers ∧ Pk T σ rs fun s => R s σ.mem σ.clock
def L6 : List SVal → Nat → List (Nat × SVal)
 | [], _ => []
 | p :: ps, k => (k, p) :: L6 ps (k + 1)
theorem Ld : ∀ (ps : List SVal) (k t : Nat), look (L6 ps k) t = if k ≤ t then (match ps[t - k]? with | some p => p | none => .junk) else .junk
 | [], k, t => by simp [L6, look]
 | p :: ps, k, t => by
   simp only [L6, Bo, Ld ps (k + 1) t]
   by_cases h1 : k = t
   ·subst h1; simp
   ·rw [if_neg h1]
    by_cases h2 : k + 1 ≤ t
    ·rw [if_pos h2, if_pos (by omega), show t - k = (t - (k + 1)) + 1 by omega]
     simp
    ·rw [if_neg h2, if_neg (by omega)]
theorem MCall.enter (hT : AB P T) {F0 : Nat → Prop} {w0 : World} {f : FuncId} {args : List SVal} {mem : List Blk} {clock : Nat} {R : SVal → List Blk → Nat → Prop} (hf : P.funcs[f]? = some fn) (hb : fn.body = some c) (hnm : (fn.name == "runtime.NumGoroutine") = false)
   (n : Nat) (rs : List ResultVar) (hnt : fn.ntmps = n) (hrs : fn.results.toList = rs) (hn : decide (args.length ≤ n) = true)
   (h : ∀ B : Base, B.F0 = F0 → B.w0 = w0 → ARun P B c { n := n, slots := L6 args 0, mem := mem, clock := clock, defers := [] } (Aq P B (AW P T rs R) [])) : MCall P F0 w0 f args mem clock R := by
 subst hnt
 subst hrs
 have hn : args.length ≤ fn.ntmps := by simpa using hn
 refine ⟨⟨fn, hf, hnm, by simp [hb]⟩, fun E w vs hw hl hv => ?_⟩
 refine calls_of_wp_defers hf hb ?_
 have hrel : Rel ⟨F0, w0, E, w⟩ { n := fn.ntmps, slots := L6 args 0, mem := mem, clock := clock, defers := [] } { tmps := vs.toArray ++ Array.replicate (fn.ntmps - vs.toArray.size) undef, defers := [] } w := by
   refine ⟨E, ⟨hw, by simp; omega, ⟨rfl, by simp⟩, fun t => ?_⟩, EnvLe.refl _ _⟩
   simp only [St.get, Ld]
   simp only [Nat.zero_le, if_true, Nat.sub_zero]
   cases ha : args[t]? with
   | none => exact .junk _
   | some p =>
     have hlt := lt_of_getElem? ha
     have hvt : vs[t]? = some (vs[t]'(by omega)) := Bi _
     have : (vs.toArray ++ Array.replicate (fn.ntmps - vs.toArray.size) undef).getD t undef = vs[t]'(by omega) := by
      simp [Array.getElem?_append, show t < vs.length by omega]
     rw [this]
     exact hv t _ p hvt ha
 refine Code.wp_mono (fun e a' w' hq => ?_) (h ⟨F0, w0, E, w⟩ rfl rfl _ w hrel)
 obtain ⟨x, σ', ⟨E', hr, hle⟩, _, hk, hfit⟩ := hq
 have key : Af P σ'.defers ∧ Pk T σ' fn.results.toList (fun s => R s σ'.mem σ'.clock) → Leaves P fn a'.tmps (fun e w' => ∃ v E' s mem' clock', e = .returned v ∧ EnvLe E w E' w' ∧ WOk F0 w0 E' w' mem' clock' ∧ SRep E' w' v s ∧ R s mem' clock') a'.defers .returning w' := by
   rintro ⟨k1, k2⟩
   refine HV _ _ hr.2.2.1 k1 ?_
   unfold Pk at k2
   split at k2
   · rename_i hrv
     have e1 : fn.results = #[] := by apply OU; simpa using hrv
     refine ⟨.tuple #[], ?_, _, E', _, _, _, rfl, hle, hr.1, .tup [] [] rfl (by simp), k2⟩
     rw [Eg, e1]
     simp
   · rename_i rv hrv
     obtain ⟨v, s, q1, q2, q3⟩ := EX hT hr k2
     refine ⟨v, ?_, v, E', s, _, _, rfl, hle, hr.1, q2, q3⟩
     have e1 : fn.results = #[rv] := by apply OU; simpa using hrv
     rw [Eg, e1, Ye]
     simp only [Yq, List.mapM_nil, Sem.run_bind, Sem.run_map]
     rw [q1]
     simp
   · rename_i rv rv' hrv
     obtain ⟨v, s, q1, q2, q3⟩ := EX hT hr k2
     obtain ⟨v', s', p1, p2, p3⟩ := EX hT hr q3
     refine ⟨.tuple #[v, v'], ?_, _, E', .tup [s, s'], _, _, rfl, hle, hr.1, .tup _ [v, v'] rfl (fun i u y hu hy => ?_), p3⟩
     ·have e1 : fn.results = #[rv, rv'] := by apply OU; simpa using hrv
      rw [Eg, e1, Ye]
      simp only [Yq, List.mapM_nil, Sem.run_bind, Sem.run_map]
      rw [q1]
      simp only [Result.andThen_ok]
      rw [p1]
      simp
     ·match i with
      | 0 => simp at hu hy; subst hu; subst hy; exact q2
      | 1 => simp at hu hy; subst hu; subst hy; exact p2
      | i + 2 => simp at hu
   · exact k2.elim
 cases e with
 | normal => cases x with
   | norm => exact key hk
   | exit i => exact hfit.elim
   | ret => exact hfit.elim
 | ret => cases x with
   | ret => exact key hk
   | exit i => exact hfit.elim
   | norm => exact hfit.elim
 | exit i => cases x with
   | exit j => exact hk.elim
   | norm => exact hfit.elim
   | ret => exact hfit.elim
 | goto l => cases x <;> exact hfit.elim
 | panic c => cases x <;> exact hfit.elim
 | outgrown => cases x <;> exact hfit.elim
end
theorem U5 (h1 : -9223372036854775807 ≤ z) (h2 : z ≤ 9223372036854775807) : IntKind.i64.wrap (0 - z) = -z := by
 rw [BW (by omega) (by omega)]; omega
theorem SQ (h : xs.map Cell.d = cs) : (PRes.v (.agg xs)).s = .agg cs := by subst h; rfl
theorem U6 {x : Dat} (h : xs.map Cell.d = cs) : (PRes.tup [.one x, .agg xs]).s = .tup [.c (.d x), .agg cs] := by subst h; rfl
theorem U7 {x : Dat} (h : xs.map Cell.d = cs) : (PRes.tup [.agg xs, .one x]).s = .tup [.agg cs, .c (.d x)] := by subst h; rfl
theorem W7 {α : Type} {f : α → List Dat} {l : List α} : ((l.map f).take ((hi : Nat) : Int).toNat).drop ((0 : Nat) : Int).toNat = (l.take hi).map f := by
 simp only [QH, List.drop_zero, List.map_take]
theorem NL {α : Type} {f : α → List Dat} {l : List α} : ((l.map f).take (((l.map f).length : Nat) : Int).toNat).drop ((lo : Nat) : Int).toNat = (l.drop lo).map f := by
 simp only [QH, PQ, List.map_drop]
theorem SR {α : Type} {f : α → List Dat} {l : List α} : ((l.map f).take ((hi : Nat) : Int).toNat).drop ((lo : Nat) : Int).toNat = ((l.take hi).drop lo).map f := by
 simp only [QH, List.map_drop, List.map_take]
theorem Rb {α : Type} {f : α → List Dat} {l : List α} : ((l.map f).take (((l.map f).length : Nat) : Int).toNat).drop (1 : Int).toNat = (l.drop 1).map f := NL (lo := 1)
theorem Bl {σ : St} : Al σ [] := trivial
theorem Fs {n : Nat} {sl : List (Nat × SVal)} {mem : List Blk} {ck : Nat} {df : List (FuncId × List Cell)} {t : Nat} {l : List (Nat × SVal)} (hu : look sl t = u) (h : VLe u v) (h' : Al ⟨n, sl, mem, ck, df⟩ l) : Al ⟨n, sl, mem, ck, df⟩ ((t, v) :: l) := ⟨by subst hu; exact h, h'⟩
section
variable {P : Program} {T : TypeId → Option TI} {F0 : Nat → Prop} {w0 : World} {dr : Bool} {ops rest : List Oper} {K : St → Prop} {n : Nat} {sl : List (Nat × SVal)} {mem : List Blk} {ck : Nat} {df : List (FuncId × List Cell)} {acc : List Nat}
variable {d : Tmp} {op : Op} {ty : TypeId} {pos : String} {aft : Array Edge} {g : Option (Nat × Bool)}
theorem L7 (hj : es.length = j) (h : es ++ ys = es') : es.take j ++ ys = es' := by subst hj; subst h; simp
end
section
variable {P : Program} {F0 : Nat → Prop} {w0 : World} {dr : Bool} {ops rest : List Oper} {K : St → Prop} {σ : St} {acc : List Nat} {dst : Option Tmp} {ty : TypeId} {pos : String} {aft : Array Edge} {g : Option (Nat × Bool)}
theorem Qg (h : Reg P F0 w0 dr ops K (⟨dst, (.move x), ty, pos, aft, g⟩ :: rest) σ acc) : Reg P F0 w0 dr ops K (⟨dst, (.move x), ty, pos, aft, g⟩ :: rest) σ acc := h
theorem Le (h : Reg P F0 w0 dr ops K (⟨dst, (.assign x), ty, pos, aft, g⟩ :: rest) σ acc) : Reg P F0 w0 dr ops K (⟨dst, (.assign x), ty, pos, aft, g⟩ :: rest) σ acc := h
theorem Qh {z : Operand} (h : Reg P F0 w0 dr ops K (⟨dst, (.pick x y z), ty, pos, aft, g⟩ :: rest) σ acc) : Reg P F0 w0 dr ops K (⟨dst, (.pick x y z), ty, pos, aft, g⟩ :: rest) σ acc := h
theorem NM {f : Nat} (h : Reg P F0 w0 dr ops K (⟨dst, (.fieldAddr t x f), ty, pos, aft, g⟩ :: rest) σ acc) : Reg P F0 w0 dr ops K (⟨dst, (.fieldAddr t x f), ty, pos, aft, g⟩ :: rest) σ acc := h
theorem Qi (h : Reg P F0 w0 dr ops K (⟨dst, (.load t x), ty, pos, aft, g⟩ :: rest) σ acc) : Reg P F0 w0 dr ops K (⟨dst, (.load t x), ty, pos, aft, g⟩ :: rest) σ acc := h
theorem NN (h : Reg P F0 w0 dr ops K (⟨dst, (.store t x y), ty, pos, aft, g⟩ :: rest) σ acc) : Reg P F0 w0 dr ops K (⟨dst, (.store t x y), ty, pos, aft, g⟩ :: rest) σ acc := h
theorem NO (h : Reg P F0 w0 dr ops K (⟨dst, (.indexAddr t x y), ty, pos, aft, g⟩ :: rest) σ acc) : Reg P F0 w0 dr ops K (⟨dst, (.indexAddr t x y), ty, pos, aft, g⟩ :: rest) σ acc := h
theorem SS {bo : BinOp} (h : Reg P F0 w0 dr ops K (⟨dst, (.binOp bo t x y t'), ty, pos, aft, g⟩ :: rest) σ acc) : Reg P F0 w0 dr ops K (⟨dst, (.binOp bo t x y t'), ty, pos, aft, g⟩ :: rest) σ acc := h
theorem VV {uo : UnOp} (h : Reg P F0 w0 dr ops K (⟨dst, (.unOp uo t x), ty, pos, aft, g⟩ :: rest) σ acc) : Reg P F0 w0 dr ops K (⟨dst, (.unOp uo t x), ty, pos, aft, g⟩ :: rest) σ acc := h
theorem Qj (h : Reg P F0 w0 dr ops K (⟨dst, (.convert t t' x), ty, pos, aft, g⟩ :: rest) σ acc) : Reg P F0 w0 dr ops K (⟨dst, (.convert t t' x), ty, pos, aft, g⟩ :: rest) σ acc := h
theorem ZO {f : Operand} (h : Reg P F0 w0 dr ops K (⟨dst, (.call ⟨.value f, args, ats⟩), ty, pos, aft, g⟩ :: rest) σ acc) : Reg P F0 w0 dr ops K (⟨dst, (.call ⟨.value f, args, ats⟩), ty, pos, aft, g⟩ :: rest) σ acc := h
theorem NP {b : Builtin} (h : Reg P F0 w0 dr ops K (⟨dst, (.call ⟨.builtin b, args, ats⟩), ty, pos, aft, g⟩ :: rest) σ acc) : Reg P F0 w0 dr ops K (⟨dst, (.call ⟨.builtin b, args, ats⟩), ty, pos, aft, g⟩ :: rest) σ acc := h
theorem NQ {ps : Array (Nat × Operand)} (h : Reg P F0 w0 dr ops K (⟨dst, (.build t ps), ty, pos, aft, g⟩ :: rest) σ acc) : Reg P F0 w0 dr ops K (⟨dst, (.build t ps), ty, pos, aft, g⟩ :: rest) σ acc := h
theorem Lf {ps : Array (Nat × Operand)} (h : Reg P F0 w0 dr ops K (⟨dst, (.buildSlice t k ps), ty, pos, aft, g⟩ :: rest) σ acc) : Reg P F0 w0 dr ops K (⟨dst, (.buildSlice t k ps), ty, pos, aft, g⟩ :: rest) σ acc := h
theorem Lg (h : Reg P F0 w0 dr ops K (⟨dst, (.makeSlice t x y), ty, pos, aft, g⟩ :: rest) σ acc) : Reg P F0 w0 dr ops K (⟨dst, (.makeSlice t x y), ty, pos, aft, g⟩ :: rest) σ acc := h
theorem NR {f : Fn} {a b : Array Operand} (h : Reg P F0 w0 dr ops K (⟨dst, (.makeFunc f a b), ty, pos, aft, g⟩ :: rest) σ acc) : Reg P F0 w0 dr ops K (⟨dst, (.makeFunc f a b), ty, pos, aft, g⟩ :: rest) σ acc := h
theorem JY {i : Nat} (h : Reg P F0 w0 dr ops K (⟨dst, (.extract x i), ty, pos, aft, g⟩ :: rest) σ acc) : Reg P F0 w0 dr ops K (⟨dst, (.extract x i), ty, pos, aft, g⟩ :: rest) σ acc := h
theorem SU (h : Reg P F0 w0 dr ops K (⟨dst, (.box t x), ty, pos, aft, g⟩ :: rest) σ acc) : Reg P F0 w0 dr ops K (⟨dst, (.box t x), ty, pos, aft, g⟩ :: rest) σ acc := h
theorem NS (h : Reg P F0 w0 dr ops K (⟨dst, (.alloc t), ty, pos, aft, g⟩ :: rest) σ acc) : Reg P F0 w0 dr ops K (⟨dst, (.alloc t), ty, pos, aft, g⟩ :: rest) σ acc := h
theorem NT {a b c : Option Operand} (h : Reg P F0 w0 dr ops K (⟨dst, (.slice t x a b c), ty, pos, aft, g⟩ :: rest) σ acc) : Reg P F0 w0 dr ops K (⟨dst, (.slice t x a b c), ty, pos, aft, g⟩ :: rest) σ acc := h
theorem NU {c : Call} (h : Reg P F0 w0 dr ops K (⟨dst, (.defer c), ty, pos, aft, g⟩ :: rest) σ acc) : Reg P F0 w0 dr ops K (⟨dst, (.defer c), ty, pos, aft, g⟩ :: rest) σ acc := h
theorem NV {op : Op} (h : Reg P F0 w0 dr ops K (⟨dst, op, ty, pos, aft, some (j, b)⟩ :: rest) σ acc) : Reg P F0 w0 dr ops K (⟨dst, op, ty, pos, aft, some (j, b)⟩ :: rest) σ acc := h
theorem SV (h : Reg P F0 w0 dr ops K [] σ acc) : Reg P F0 w0 dr ops K [] σ acc := h
theorem Qk {B : Base} {c : Operand} {x y : Code} {Q : Ex → St → Prop} (h : ARun P B (.cond c x y) σ Q) : ARun P B (.cond c x y) σ Q := h
theorem Lh {B : Base} {i : Nat} {os : Array Oper} {d : Bool} {Q : Ex → St → Prop} (h : ARun P B (.region i os d) σ Q) : ARun P B (.region i os d) σ Q := h
theorem Z7 {B : Base} {T : TypeId → Option TI} {rs : List ResultVar} {r : PRes} {e : Ex} (h : Aq P B (B5 P T rs r) [] e σ) : Aq P B (B5 P T rs r) [] e σ := h
theorem Z8 {T : TypeId → Option TI} {x : ResultVar} {V : SVal → Prop} (h : Am T σ x V) : Am T σ x V := h
theorem Z9 {m : List Blk} (h : CFs m cs xs) : CFs m cs xs := h
theorem ax {m : List Blk} {c : Cell} {x : Dat} (h : CF m c x) : CF m c x := h
end
theorem W8 {P : Program} {T : TypeId → Option TI} (hT : AB P T) {f : FuncId} {args : List PV} {r : PRes} {sl : List (Nat × SVal)} (hf : P.funcs[f]? = some fn) (hb : fn.body = some c) (hnm : (fn.name == "runtime.NumGoroutine") = false)
  (n : Nat) (rs : List ResultVar) (hnt : fn.ntmps = n) (hrs : fn.results.toList = rs) (hn : decide (args.length ≤ n) = true) (hsl : OY args 0 = sl) (h : ∀ B, ARun P B c ⟨n, sl, [], 0, []⟩ (Aq P B (B5 P T rs r) [])) : PCall P f args r := by
 subst hsl
 exact Yu hT hf hb hnm n rs hnt hrs hn h
theorem Ad {P : Program} {T : TypeId → Option TI} (hT : AB P T) {f : FuncId} {args : List PV} {r : PRes} {sl : List (Nat × SVal)} {n : Nat} (hf : P.funcs[f]? = some fn) (hnt : fn.ntmps = n) (rs : List ResultVar) (h : ∀ B, ARun P B c ⟨n, sl, [], 0, []⟩ (Aq P B (B5 P T rs r) []))
  (hb : fn.body = some c := by exact rfl) (hnm : (fn.name == "runtime.NumGoroutine") = false := by kernel_rfl) (hrs : fn.results.toList = rs := by exact rfl) (hn : decide (args.length ≤ n) = true := by exact rfl) (hsl : OY args 0 = sl := by repeat' (first | exact A0 rfl | apply AI (a := ((_, SVal.c _) : Nat × SVal)) rfl | apply AI (a := ((_, SVal.agg _) : Nat × SVal)) rfl)) : PCall P f args r :=
 W8 hT hf hb hnm n rs hnt hrs hn hsl h
theorem W9 {P : Program} {T : TypeId → Option TI} (hT : AB P T) {F0 : Nat → Prop} {w0 : World} {f : FuncId} {args : List SVal} {mem : List Blk} {clock : Nat} {R : SVal → List Blk → Nat → Prop} {sl : List (Nat × SVal)} (hf : P.funcs[f]? = some fn) (hb : fn.body = some c) (hnm : (fn.name == "runtime.NumGoroutine") = false)
  (n : Nat) (rs : List ResultVar) (hnt : fn.ntmps = n) (hrs : fn.results.toList = rs) (hn : decide (args.length ≤ n) = true) (hsl : L6 args 0 = sl) (h : ∀ B : Base, B.F0 = F0 → B.w0 = w0 → ARun P B c ⟨n, sl, mem, clock, []⟩ (Aq P B (AW P T rs R) [])) : MCall P F0 w0 f args mem clock R := by
 subst hsl
 exact MCall.enter hT hf hb hnm n rs hnt hrs hn h
section
variable {P : Program} {T : TypeId → Option TI} {B : Base} {n : Nat} {sl : List (Nat × SVal)} {mem : List Blk} {ck : Nat} {df : List (FuncId × List Cell)} {R' : SVal → List Blk → Nat → Prop}
theorem ZP {σ : St} {rs : List ResultVar} {e : Ex} (h : Aq P B (AW P T rs R') [] e σ) : Aq P B (AW P T rs R') [] e σ := h
end
end Go.Abs
end
