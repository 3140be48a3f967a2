/-
  The rules of the walk, continued: slices, numbers, structs, calls.
-/
import Derived.Test.YtmpgmjlanngkfaaGreatEnA
import Derived.KernelRfl
section
namespace Go.Abs
open Go.RowKit
theorem BE {n : Int} (h1 : -9223372036854775808 ≤ n) (h2 : n ≤ 9223372036854775807) : IntKind.i64.wrap n = n := IntWalk.i64_in n ⟨h1, h2⟩
theorem Vd {α : Type} {f : α → List Dat} {l : List α} {z : Int} {j : Nat} {x : α} (h : l[j]? = some x) (hz : z.toNat = j) : (l.map f)[z.toNat]? = some (f x) := by
 subst hz; simp [h]
theorem LJ {α β : Type} {f : α → β} {l : List α} : (l.map f).length = l.length := List.length_map ..
theorem EL {α : Type} {f : α → List Dat} {l : List α} {k : Nat} (h : ∀ x, (f x).length = k) : ∀ el ∈ l.map f, el.length = k := by
 intro el hel
 obtain ⟨x, _, rfl⟩ := List.mem_map.1 hel
 exact h x
theorem A1 {k : Nat} : ∀ el ∈ ([] : List (List Dat)), el.length = k := by simp
theorem AF {k : Nat} {x : List Dat} {l : List (List Dat)} (h : x.length = k) (h' : ∀ el ∈ l, el.length = k) : ∀ el ∈ x :: l, el.length = k := by
 intro el hel
 rcases List.mem_cons.1 hel with rfl | hel
 ·exact h
 ·exact h' el hel
theorem Ve {α : Type} {f : α → List Dat} {l : List α} {lo hi : Nat} : ((l.map f).take hi).drop lo = ((l.take hi).drop lo).map f := by rw [List.map_drop, List.map_take]
section
variable {P : Program} {T : TypeId → Option TI} {F0 : Nat → Prop} {w0 : World} {dr : Bool} {ops rest : List Oper} {K : St → Prop} {n : Nat} {sl : List (Nat × SVal)} {mem : List Blk} {ck : Nat} {df : List (FuncId × List Cell)} {acc : List Nat}
variable {d : Tmp} {op : Op} {ty : TypeId} {pos : String} {aft : Array Edge} {g : Option (Nat × Bool)}
def H7 (sl : List (Nat × SVal)) (dflt : Nat) : Option Operand → Option Int
 | none => some dflt
 | some x => (match AC sl x with
   | .c (.d (.lit (.int _ z))) => some z
   | _ => none)
theorem H8 {τ : St} {dflt : Nat} {o : Option Operand} {z : Int} (he : ∀ x ∈ o.toArray.toList, τ.ev x = AC sl x) (h : H7 sl dflt o = some z) : Mf dflt (o.map τ.ev) = some z := by
 cases o with
 | none => exact h
 | some x =>
   have := he x (by simp)
   simp only [H7] at h
   simp only [Option.map_some, this]
   generalize AC sl x = v at h ⊢
   unfold Mf
   split at h
   ·exact h
   ·cases h
theorem MV (hT : AE P T) {bo : BinOp} {t t' : TypeId} {x y : Operand} {u u' v : SVal} (hw : GW ops g sl) (hx : AC sl x = u) (hy : AC sl y = u') (hv : ∀ V : SVal → Prop, V v → Ml T bo t u u' V)
  (h : Reg P F0 w0 dr ops K rest ⟨n, (d, v) :: sl, mem, ck, df⟩ (0 :: acc)) : Reg P F0 w0 dr ops K (⟨some d, .binOp bo t x y t', ty, pos, aft, g⟩ :: rest) ⟨n, sl, mem, ck, df⟩ acc :=
 FG hw (fun m c => Does.of hT fun τ he hm hc Kk hK => by
  subst hm; subst hc
  have ex := he x (by simp [Op.operands])
  have ey := he y (by simp [Op.operands])
  rw [hx] at ex
  rw [hy] at ey
  simp only [AL, ex, ey]
  exact hv _ (hK _ _ _ _ ⟨rfl, rfl, rfl, rfl⟩)) h
inductive IntOp : BinOp → IntKind → Int → Int → SVal → Prop
 | add64 {a b : Int} (h1 : -9223372036854775808 ≤ a + b) (h2 : a + b ≤ 9223372036854775807) : IntOp .add .i64 a b (.c (.d (.lit (.int .i64 (a + b)))))
 | add {k : IntKind} {a b : Int} : IntOp .add k a b (.c (.d (.lit (.int k (k.wrap (a + b))))))
 | sub64 {a b : Int} (h1 : -9223372036854775808 ≤ a - b) (h2 : a - b ≤ 9223372036854775807) : IntOp .sub .i64 a b (.c (.d (.lit (.int .i64 (a - b)))))
 | sub {k : IntKind} {a b : Int} : IntOp .sub k a b (.c (.d (.lit (.int k (k.wrap (a - b))))))
 | mul64 {a b : Int} (h1 : -9223372036854775808 ≤ a * b) (h2 : a * b ≤ 9223372036854775807) : IntOp .mul .i64 a b (.c (.d (.lit (.int .i64 (a * b)))))
 | mul {k : IntKind} {a b : Int} : IntOp .mul k a b (.c (.d (.lit (.int k (k.wrap (a * b))))))
 | quoN {a b : Nat} (h : 0 < b) (h2 : (a : Int) ≤ 9223372036854775807) : IntOp .quo .i64 (a : Int) (b : Int) (.c (.d (.lit (.int .i64 ((a / b : Nat) : Int)))))
 | quo {k : IntKind} {a b : Int} (h : b ≠ 0) : IntOp .quo k a b (.c (.d (.lit (.int k (k.wrap (a.tdiv b))))))
 | rem {k : IntKind} {a b : Int} (h : b ≠ 0) : IntOp .rem k a b (.c (.d (.lit (.int k (a.tmod b)))))
 | and {k : IntKind} {a b : Int} : IntOp .and k a b (.c (.d (.lit (.int k (Lp k a b)))))
 | eql {k : IntKind} {a b : Int} : IntOp .eql k a b (.c (.d (.lit (.bool (a == b)))))
 | neq {k : IntKind} {a b : Int} : IntOp .neq k a b (.c (.d (.lit (.bool (a != b)))))
 | lss {k : IntKind} {a b : Int} : IntOp .lss k a b (.c (.d (.lit (.bool (decide (a < b))))))
 | leq {k : IntKind} {a b : Int} : IntOp .leq k a b (.c (.d (.lit (.bool (decide (a ≤ b))))))
 | gtr {k : IntKind} {a b : Int} : IntOp .gtr k a b (.c (.d (.lit (.bool (decide (b < a))))))
 | geq {k : IntKind} {a b : Int} : IntOp .geq k a b (.c (.d (.lit (.bool (decide (b ≤ a))))))
inductive StrOp : BinOp → ByteArray → ByteArray → SVal → Prop
 | add {a b : ByteArray} (h : a.size + b.size ≤ maxLen) : StrOp .add a b (.c (.d (.lit (.string (a ++ b)))))
 | eql {a b : ByteArray} : StrOp .eql a b (.c (.d (.lit (.bool (a.toList == b.toList)))))
 | neq {a b : ByteArray} : StrOp .neq a b (.c (.d (.lit (.bool (!(a.toList == b.toList))))))
 | lss {a b : ByteArray} : StrOp .lss a b (.c (.d (.lit (.bool (Op.bytesLess a.toList b.toList)))))
def MW (T : TypeId → Option TI) (sl : List (Nat × SVal)) (fs : List (Nat × TypeId)) : List (Nat × Operand) → List Cell → Option (List Cell)
 | [], cs => some cs
 | (i, x) :: rest, cs => match fs[i]?, (AC sl x).cells with
   | some (off, ft), some ns => (match T ft with
     | some j => bif Nat.beq ns.length j.size && Nat.ble (off + ns.length) cs.length then MW T sl fs rest (cs.take off ++ ns ++ cs.drop (off + ns.length)) else none
     | none => none)
   | _, _ => none
theorem JB {τ : St} {fs : List (Nat × TypeId)} : ∀ (parts : List (Nat × Operand)) (cs : List Cell), (∀ p ∈ parts, τ.ev p.2 = AC sl p.2) → ∀ cs', MW T sl fs parts cs = some cs' → Iw T τ fs parts cs = some cs'
 | [], cs, _, cs', h => h
 | (i, x) :: rest, cs, he, cs', h => by
   have hx := he (i, x) (by simp)
   simp only at hx
   unfold MW at h
   unfold Iw
   rw [hx]
   split at h
   · rename_i off ft ns e1 e2
     split at h
     ·rename_i j hj
      cases hc : (Nat.beq ns.length j.size && Nat.ble (off + ns.length) cs.length) with
      | false => rw [hc] at h; simp at h
      | true =>
        rw [hc] at h
        simp only [cond_true] at h
        simp only [Bool.and_eq_true, Nat.beq_eq, Nat.ble_eq] at hc
        simp only [e1, e2, hj]
        rw [if_pos hc]
        have := JB (τ := τ) rest (cs.take off ++ ns ++ cs.drop (off + ns.length)) (fun p hp => he p (by simp [hp])) cs' h
        exact this
     ·cases h
   · cases h
def JC (sl : List (Nat × SVal)) (size : Nat) : List (Nat × Operand) → Nat → Option (List (List Dat))
 | [], _ => some []
 | (i, x) :: rest, k => bif Nat.beq i k then (match (AC sl x).cells with
     | some cs => (match DF cs, JC sl size rest (k + 1) with
       | some ds, some r => bif Nat.beq ds.length size then some (ds :: r) else none
       | _, _ => none)
     | none => none) else none
theorem H9 {τ : St} {size : Nat} : ∀ (parts : List (Nat × Operand)) (k : Nat), (∀ p ∈ parts, τ.ev p.2 = AC sl p.2) → ∀ es, JC sl size parts k = some es → DG τ size parts k = some es
 | [], k, _, es, h => h
 | (i, x) :: rest, k, he, es, h => by
   have hx := he (i, x) (by simp)
   simp only at hx
   unfold JC at h
   unfold DG
   rw [hx]
   cases hb : Nat.beq i k with
   | false => rw [hb] at h; simp at h
   | true =>
     rw [hb] at h
     simp only [cond_true] at h
     rw [if_pos (Nat.eq_of_beq_eq_true hb)]
     split at h
     ·rename_i cs hcs
      split at h
      ·rename_i ds r hds hr
       cases hc : Nat.beq ds.length size with
       | false => rw [hc] at h; simp at h
       | true =>
         rw [hc] at h
         simp only [cond_true] at h
         have hq := H9 (τ := τ) rest (k + 1) (fun p hp => he p (by simp [hp])) r hr
         simp only [hcs, hds, hq]
         rw [if_pos (Nat.eq_of_beq_eq_true hc)]
         exact h
      ·cases h
     ·cases h
theorem Xo (hT : AE P T) {t e : TypeId} {l c : Operand} {i ei : TI} {k k' : IntKind} {z z' : Int} {zs : List Dat} {r m : Nat} {mem' : List Blk} (hw : GW ops g sl) (hl : AC sl l = .c (.d (.lit (.int k z)))) (hc : AC sl c = .c (.d (.lit (.int k' z')))) (ht : T t = some i) (hi : i.desc = .slice e) (hei : T e = some ei)
  (hzs : DF (ei.zero.map BG) = some zs) (hk : (Nat.blt 0 ei.size && Nat.beq ei.zero.length ei.size) = true) (h0 : 0 ≤ z) (hzz : z ≤ z') (hmx : z' ≤ 9223372036854775807) (hby : (ei.bytes : Int) * z' ≤ 281474976710656) (hr : mem.length = r) (hm : z.toNat = m) (hm' : mem ++ [Blk.arr (ck + 1) e ei.size (List.replicate m zs)] = mem')
  (h : Reg P F0 w0 dr ops K rest ⟨n, (d, .c (.arr r (ck + 1) m)) :: sl, mem', ck + 1, df⟩ (2 :: acc)) : Reg P F0 w0 dr ops K (⟨some d, .makeSlice t l c, ty, pos, aft, g⟩ :: rest) ⟨n, sl, mem, ck, df⟩ acc :=
 RY (df' := []) hw (Does.of hT fun τ he hmm hck Kk hK => by
  subst hmm; subst hck; subst hr; subst hm; subst hm'
  have el := he l (by simp [Op.operands])
  have ec := he c (by simp [Op.operands])
  rw [hl] at el
  rw [hc] at ec
  obtain ⟨a1, a2, a3, a4, a5⟩ := i
  simp only at hi
  subst hi
  simp only [Bool.and_eq_true, Nat.beq_eq, Nat.ble_eq, Nat.blt, Nat.succ_le_iff] at hk
  simp only [AL, Mk, ht, hei, el, ec, hzs]
  exact ⟨hk.1, hk.2, h0, hzz, hmx, hby, hK _ _ _ _ ⟨rfl, rfl, rfl, rfl⟩⟩) h
def PU (sl : List (Nat × SVal)) : List Operand → Option (List Cell)
 | [] => some []
 | x :: xs => match AC sl x, PU sl xs with
   | .c c, some cs => some (c :: cs)
   | _, _ => none
theorem MX {τ : St} : ∀ (xs : List Operand), (∀ x ∈ xs, τ.ev x = AC sl x) → ∀ cs, PU sl xs = some cs → FH τ xs = some cs
 | [], _, cs, h => h
 | x :: xs, he, cs, h => by
   unfold PU at h
   unfold FH
   rw [he x (by simp)]
   split at h
   ·rename_i c cs' e1 e2
    rw [e1, MX (τ := τ) xs (fun y hy => he y (by simp [hy])) cs' e2]
    exact h
   ·cases h
theorem Hr {τ : St} {f : Operand} {args : Array Operand} {ats : Array TypeId} (he : ∀ x ∈ (Op.call ⟨.value f, args, ats⟩).operands.toList, τ.ev x = AC sl x) : τ.ev f = AC sl f ∧ args.toList.map τ.ev = args.toList.map (AC sl) :=
 ⟨he f (by simp [Op.operands, Call.operands]), List.map_congr_left fun x hx => he x (by simp only [Op.operands, Call.operands]; simp; exact .inr (by simpa using hx))⟩
theorem Vf (hT : AE P T) {f : Operand} {fv : SVal} {args : Array Operand} {ats : Array TypeId} {fid : FuncId} {caps : List Cell} {as : List SVal} {v : SVal} {m' : List Blk} {c' : Nat} (hw : GW ops g sl) (hf : AC sl f = fv) (hc : B2 fv = some (fid, caps)) (has : args.toList.map (AC sl) ++ caps.map .c = as) (hp : MCall P F0 w0 fid as mem ck fun v' m c => v' = v ∧ m = m' ∧ c = c')
  (h : Reg P F0 w0 dr ops K rest ⟨n, (d, v) :: sl, m', c', df⟩ (2 :: acc)) : Reg P F0 w0 dr ops K (⟨some d, .call ⟨.value f, args, ats⟩, ty, pos, aft, g⟩ :: rest) ⟨n, sl, mem, ck, df⟩ acc :=
 RY (df' := []) hw (Does.of hT fun τ he hm hck Kk hK => by
  subst hm; subst hck; subst has
  obtain ⟨e1, e2⟩ := Hr he
  rw [hf] at e1
  simp only [AL, DE, e1, hc, e2]
  refine ⟨hp.1, fun E w vs q1 q2 q3 => Calls.mono (hp.2 E w vs q1 q2 q3) fun _ _ ⟨v', E', r, m, c, p1, p2, p3, p4, p5, p6, p7⟩ => ⟨v', E', r, m, c, p1, p2, p3, p4, ?_⟩⟩
  subst p5; subst p6; subst p7
  exact hK _ _ _ _ ⟨rfl, rfl, rfl, rfl⟩) h
theorem Xp (hT : AE P T) {t e : TypeId} {x y : Operand} {i ei : TI} {u : SVal} {ys : List (List Dat)} {r m : Nat} {mem' : List Blk} (hw : GW ops g sl) (hx : AC sl x = .c .emp) (hy : AC sl y = u) (hs : Ft u = some ys) (ht : T t = some i) (hi : i.desc = .slice e) (hei : T e = some ei) (hk : (Nat.blt 0 ei.size && Nat.beq ei.zero.length ei.size) = true)
  (hsz : ∀ el ∈ ys, el.length = ei.size) (hl : ys.length = m) (hmx : (m : Int) ≤ 9223372036854775807) (hby : m * ei.bytes ≤ 140737488355328) (hr : mem.length = r) (hm' : mem ++ [Blk.arr (ck + 1) e ei.size ys] = mem')
  (h : Reg P F0 w0 dr ops K rest ⟨n, (d, .c (.arr r (ck + 1) m)) :: sl, mem', ck + 1, df⟩ (2 :: acc)) : Reg P F0 w0 dr ops K (⟨some d, .call ⟨.builtin .append, #[x, y], #[t, t]⟩, ty, pos, aft, g⟩ :: rest) ⟨n, sl, mem, ck, df⟩ acc :=
 RY (df' := []) hw (Does.of hT fun τ he hmm hck Kk hK => by
  subst hmm; subst hck; subst hr; subst hl; subst hm'
  have ex := he x (by simp [Op.operands, Call.operands])
  have ey := he y (by simp [Op.operands, Call.operands])
  rw [hx] at ex
  rw [hy] at ey
  obtain ⟨a1, a2, a3, a4, a5⟩ := i
  simp only at hi
  subst hi
  simp only [Bool.and_eq_true, Nat.beq_eq, Nat.ble_eq, Nat.blt, Nat.succ_le_iff] at hk
  simp only [AL, DE, Ee, ht, hei, ex, ey, hs]
  exact ⟨trivial, hk.1, hk.2, hsz, by simp only [maxLen]; omega, hby, hK _ _ _ _ ⟨rfl, rfl, rfl, rfl⟩⟩) h
theorem Xq (hT : AE P T) {t e : TypeId} {x y : Operand} {i ei : TI} {u : SVal} {ys es es' : List (List Dat)} {r k j m esz : Nat} {mem' : List Blk} (hw : GW ops g sl) (hx : AC sl x = .c (.arr r k j)) (hy : AC sl y = u) (hs : Ft u = some ys) (ht : T t = some i) (hi : i.desc = .slice e) (hei : T e = some ei) (hk : (Nat.blt 0 ei.size && Nat.beq ei.zero.length ei.size) = true)
  (hm : mem[r]? = some (.arr k e esz es)) (hesz : esz = ei.size) (hsz : ∀ el ∈ ys, el.length = ei.size) (hj : j ≤ es.length) (hl : j + ys.length = m) (hmx : (m : Int) ≤ 9223372036854775807) (hby : m * ei.bytes ≤ 140737488355328) (hes : es.take j ++ ys = es') (hm' : mem.set r (Blk.arr (ck + 1) e ei.size es') = mem')
  (h : Reg P F0 w0 dr ops K rest ⟨n, (d, .c (.arr r (ck + 1) m)) :: sl, mem', ck + 1, df⟩ (2 :: acc)) : Reg P F0 w0 dr ops K (⟨some d, .call ⟨.builtin .append, #[x, y], #[t, t]⟩, ty, pos, aft, g⟩ :: rest) ⟨n, sl, mem, ck, df⟩ acc :=
 RY (df' := []) hw (Does.of hT fun τ he hmm hck Kk hK => by
  subst hmm; subst hck; subst hl; subst hes; subst hm'; subst hesz
  have ex := he x (by simp [Op.operands, Call.operands])
  have ey := he y (by simp [Op.operands, Call.operands])
  rw [hx] at ex
  rw [hy] at ey
  obtain ⟨a1, a2, a3, a4, a5⟩ := i
  simp only at hi
  subst hi
  simp only [Bool.and_eq_true, Nat.beq_eq, Nat.ble_eq, Nat.blt, Nat.succ_le_iff] at hk
  simp only [AL, DE, Ee, ht, hei, ex, ey, hs, hm]
  exact ⟨trivial, hk.1, hk.2, hsz, trivial, trivial, trivial, hj, by simp only [maxLen]; omega, hby, hK _ _ _ _ ⟨rfl, rfl, rfl, rfl⟩⟩) h
end
theorem QT {m : List Blk} : Ar m [] := fun s x h => by simp at h
theorem Ab {b : Blk} {m m' : List Blk} (h : Ar m m') : Ar (b :: m) (b :: m') := fun s x hs hx => by
 cases s with
 | zero => simpa using hs
 | succ s => simpa using h s x (by simpa using hs) hx
theorem AB {b : Blk} {m m' : List Blk} (h : Ar m m') : Ar (b :: m) (.dead :: m') := fun s x hs hx => by
 cases s with
 | zero => simp at hs; subst hs; exact hx.elim
 | succ s => simpa using h s x (by simpa using hs) hx
theorem QU {k k' : Nat} {t : TypeId} {z : Nat} {es es' : List (List Dat)} {m m' : List Blk} (hk : k = k') (he : es = es') (h : Ar m m') : Ar (.arr k t z es :: m) (.arr k' t z es' :: m') := by subst hk; subst he; exact Ab h
theorem QV {k k' : Nat} {cs cs' : List Cell} {m m' : List Blk} (hk : k = k') (he : cs = cs') (h : Ar m m') : Ar (.box k cs :: m) (.box k' cs' :: m') := by subst hk; subst he; exact Ab h
theorem PW {k : IntKind} {a b : Int} (h : a = b) : VLe (.c (.d (.lit (.int k a)))) (.c (.d (.lit (.int k b)))) := by subst h; exact .inl rfl
theorem YQ {a b : Dat} (h : a = b) : VLe (.c (.d a)) (.c (.d b)) := by subst h; exact .inl rfl
theorem PX {r k k' m m' : Nat} (hk : k = k') (h : m = m') : VLe (.c (.arr r k m)) (.c (.arr r k' m')) := by subst hk; subst h; exact .inl rfl
theorem ST {a : SVal} : VLe a a := .inl rfl
theorem Vg : VLe (.c .emp) (.c (.d (.sl []))) := .inr (.inr ⟨rfl, rfl⟩)
inductive Keep : List Nat → List (Nat × SVal) → List (Nat × SVal) → Prop
 | nil (W : List Nat) : Keep W [] []
 | out {W : List Nat} {t : Nat} {v : SVal} {sl keep : List (Nat × SVal)} (h : W.contains t = true) (hk : Keep W sl keep) : Keep W ((t, v) :: sl) keep
 | into {W : List Nat} {t : Nat} {v : SVal} {sl keep : List (Nat × SVal)} (h : W.contains t = false) (hk : Keep (t :: W) sl keep) : Keep W ((t, v) :: sl) ((t, v) :: keep)
inductive Pre (W : List Nat) (keep : List (Nat × SVal)) : List (Nat × SVal) → Prop
 | here : Pre W keep keep
 | cons {t : Nat} {v : SVal} {sl : List (Nat × SVal)} (h : W.contains t = true) (hp : Pre W keep sl) : Pre W keep ((t, v) :: sl)
theorem Keep.not {W : List Nat} {sl keep : List (Nat × SVal)} (h : Keep W sl keep) : ∀ t v, (t, v) ∈ keep → W.contains t = false := by
 induction h with
 | nil W => intro t v hm; simp at hm
 | out h hk ih => exact ih
 | into h hk ih =>
   intro t' v' hm
   rcases List.mem_cons.1 hm with e | hm
   ·cases e; exact h
   ·have := ih t' v' hm
    simp only [List.contains_cons, Bool.or_eq_false_iff] at this
    exact this.2
theorem Keep.look {W : List Nat} {sl keep : List (Nat × SVal)} (h : Keep W sl keep) : (∀ t v, (t, v) ∈ keep → look sl t = v) ∧ (∀ t v, (t, v) ∈ keep → look keep t = v) := by
 induction h with
 | nil W => exact ⟨by simp, by simp⟩
 | out h hk ih =>
   rename_i W t v sl keep
   refine ⟨fun t' v' hm => ?_, ih.2⟩
   rw [Bg]
   have := hk.not t' v' hm
   rw [if_neg (by rintro rfl; rw [h] at this; cases this)]
   exact ih.1 t' v' hm
 | into h hk ih =>
   rename_i W t v sl keep
   have hne : ∀ t' v', (t', v') ∈ keep → t ≠ t' := by
    rintro t' v' hm rfl
    have := hk.not t v' hm
    simp at this
   refine ⟨fun t' v' hm => ?_, fun t' v' hm => ?_⟩
   ·rcases List.mem_cons.1 hm with e | hm
    ·cases e; simp [Bg]
    ·rw [Bg, if_neg (hne t' v' hm)]; exact ih.1 t' v' hm
   ·rcases List.mem_cons.1 hm with e | hm
    ·cases e; simp [Bg]
    ·rw [Bg, if_neg (hne t' v' hm)]; exact ih.2 t' v' hm
theorem GS {σ : St} : ∀ {l : List (Nat × SVal)}, (∀ t v, (t, v) ∈ l → VLe (σ.get t) v) → Aj σ l
 | [], _ => trivial
 | (t, v) :: l, h => ⟨h t v (by simp), GS fun t v hm => h t v (by simp [hm])⟩
theorem D2 {σ : St} : ∀ {a b : List (Nat × SVal)}, Aj σ a → Aj σ b → Aj σ (a ++ b)
 | [], _, _, hb => hb
 | (_, _) :: _, _, ha, hb => ⟨ha.1, D2 ha.2 hb⟩
theorem Pre.look {W : List Nat} {keep sl : List (Nat × SVal)} (h : Pre W keep sl) (hn : ∀ t v, (t, v) ∈ keep → W.contains t = false) (hl : ∀ t v, (t, v) ∈ keep → look keep t = v) : ∀ t v, (t, v) ∈ keep → look sl t = v := by
 induction h with
 | here => exact hl
 | cons h hp ih =>
   intro t' v' hm
   rw [Bg]
   have := hn t' v' hm
   rw [if_neg (by rintro rfl; rw [h] at this; cases this)]
   exact ih t' v' hm
section
variable {P : Program} {T : TypeId → Option TI} {B : Base} {Q : Ex → St → Prop} {R : Ex → St → Prop} {ks : List Fr}
theorem YR {σ : St} {X : Type} (Inv : X → Prop) (I : X → St) (m : X → Nat) (x0 : X) (hx : Inv x0) (h0 : Weak σ (I x0)) {c : Code}
   (h : ∀ x, Inv x → ARun P B c (I x) (At P B (Dk P B R ks fun τ => ∃ y, Inv y ∧ Weak τ (I y) ∧ m y < m x) [])) : ARun P B (.loop c) σ (At P B R ks) := by
 refine UH (X := { x // Inv x }) (fun x => I x.1) (fun x => m x.1) ⟨x0, hx⟩ h0 fun x => ?_
 refine (h x.1 x.2).mono fun e τ q => ?_
 cases e with
 | norm =>
   obtain ⟨y, h1, h2, h3⟩ := q
   exact ⟨⟨y, h1⟩, h2, h3⟩
 | exit i => exact q
 | ret => exact q
section
variable {n : Nat} {sl : List (Nat × SVal)} {mem : List Blk} {ck : Nat} {df : List (FuncId × List Cell)}
structure LoopG {X : Type} (Inv : X → Prop) (chg : X → List (Nat × SVal) → List (Nat × SVal)) (memF : X → List Blk) (m : X → Nat) (W : List Nat) (keep : List (Nat × SVal)) (n : Nat) (df : List (FuncId × List Cell)) (x : X) (τ : St) : Prop where
 ex : ∃ y, Inv y ∧ τ.n = n ∧ Aj τ (chg y []) ∧ Pre W keep τ.slots ∧ Ar τ.mem (memF y) ∧ τ.defers = df ∧ m y < m x
theorem ZP {X : Type} (W : List Nat) (Inv : X → Prop) (chg : X → List (Nat × SVal) → List (Nat × SVal)) (memF : X → List Blk) (m : X → Nat) (x0 : X) {keep : List (Nat × SVal)} {c : Code} (hk : Keep W sl keep) (hch : ∀ x l, chg x l = chg x [] ++ l)
  (hs : Aj ⟨n, sl, mem, ck, df⟩ (chg x0 [])) (hm : Ar mem (memF x0)) (hx : Inv x0)
  (h : ∀ x k, Inv x → ARun P B c ⟨n, chg x keep, memF x, k, df⟩ (At P B (Dk P B R ks (LoopG Inv chg memF m W keep n df x)) [])) : ARun P B (.loop c) ⟨n, sl, mem, ck, df⟩ (At P B R ks) := by
 refine YR (σ := ⟨n, sl, mem, ck, df⟩) (X := X × Nat) (fun x => Inv x.1) (fun x => ⟨n, chg x.1 keep, memF x.1, x.2, df⟩) (fun x => m x.1) (x0, ck) hx ⟨rfl, ?_, hm, Nat.le_refl _, rfl⟩ fun x hx => ?_
 ·simp only
  rw [hch]
  exact D2 hs (GS fun t v ht => .inl (hk.look.1 t v ht))
 ·refine (h x.1 x.2 hx).mono fun e τ q => ?_
  cases e with
  | norm =>
    obtain ⟨y, h1, h2, h3, h4, h5, h7, h8⟩ := q.ex
    refine ⟨(y, τ.clock), h1, ⟨h2.symm, ?_, h5, Nat.le_refl _, h7.symm⟩, h8⟩
    simp only
    rw [hch]
    exact D2 h3 (GS fun t v ht => .inl (h4.look hk.not hk.look.2 t v ht))
  | exit i => exact q
  | ret => exact q
theorem Vh {X : Type} {Inv : X → Prop} {chg : X → List (Nat × SVal) → List (Nat × SVal)} {memF : X → List Blk} {m : X → Nat} {W : List Nat} {keep : List (Nat × SVal)} {x : X} (y : X) (hs : Aj ⟨n, sl, mem, ck, df⟩ (chg y [])) (hp : Pre W keep sl) (hm : Ar mem (memF y)) (hi : Inv y) (hd : m y < m x) :
 At P B (Dk P B R ks (LoopG Inv chg memF m W keep n df x)) [] .norm ⟨n, sl, mem, ck, df⟩ := ⟨y, hi, rfl, hs, hp, hm, rfl, hd⟩
theorem SU {σ : St} {G : St → Prop} {i : Nat} (h : At P B R ks (.exit i) σ) : At P B (Dk P B R ks G) [] (.exit i) σ := h
theorem Wd {σ : St} {G : St → Prop} (h : At P B R ks .ret σ) : At P B (Dk P B R ks G) [] .ret σ := h
theorem Xr {c : Operand} {x y : Code} {b : Bool} (hc : AC sl c = Dh b) (h1 : b = true → ARun P B x ⟨n, sl, mem, ck, df⟩ Q) (h2 : b = false → ARun P B y ⟨n, sl, mem, ck, df⟩ Q) : ARun P B (.cond c x y) ⟨n, sl, mem, ck, df⟩ Q :=
 WZ (b := b) (by rw [CC]; exact hc) h1 h2
theorem YS {c : Operand} {x y : Code} {b : Bool} (hc : AC sl c = Dh b) (hb : b = true) (h1 : ARun P B x ⟨n, sl, mem, ck, df⟩ Q) : ARun P B (.cond c x y) ⟨n, sl, mem, ck, df⟩ Q :=
 Xr hc (fun _ => h1) (fun q => by rw [hb] at q; cases q)
theorem YT {c : Operand} {x y : Code} {b : Bool} (hc : AC sl c = Dh b) (hb : b = false) (h1 : ARun P B y ⟨n, sl, mem, ck, df⟩ Q) : ARun P B (.cond c x y) ⟨n, sl, mem, ck, df⟩ Q :=
 Xr hc (fun q => by rw [hb] at q; cases q) (fun _ => h1)
theorem LK {c : Code} {σ τ : St} (hn : τ.n = σ.n) (ht : ∀ a w, Rel B σ a w → Rel B τ a w) (h : ARun P B c τ Q) : ARun P B c σ Q := fun a w hr => by
 refine Code.wp_mono (fun e a' w' hq => ?_) (h a w (ht a w hr))
 obtain ⟨x, σ', h1, h2, h3, h4⟩ := hq
 exact ⟨x, σ', h1, h2.trans hn, h3, h4⟩
theorem JD {t r k m : Nat} {ety : TypeId} {esz : Nat} {es : List (List Dat)} (ht : look sl t = .c (.arr r k m)) (hm : mem[r]? = some (.arr k ety esz es)) (hl : m ≤ es.length) {a : Act} {w : World} (h : Rel B ⟨n, sl, mem, ck, df⟩ a w) :
  Rel B ⟨n, (t, .c (.d (.sl (es.take m)))) :: sl, mem.set r .dead, ck, df⟩ a w := by
 obtain ⟨E, hr, hB⟩ := h
 have hz := hr.1.freeze r k ety esz es hm
 refine ⟨_, ⟨hz.1, hr.2.1, hr.2.2.1.le hz.2, fun s => ?_⟩, hB.trans hz.2⟩
 simp only [St.get, Bg]
 by_cases hs : t = s
 ·subst hs
  rw [if_pos rfl]
  have := hr.2.2.2 t
  simp only [St.get, ht] at this
  generalize a.tmps.getD t undef = v at this
  cases this with | c q => exact .c (.d (Ef hr.1 hm hl q (fun b hb => .inl hb) (fun hc => .inr ⟨rfl, hc⟩)))
 ·rw [if_neg hs]
  exact (hr.2.2.2 s).le hz.2
theorem SV (t : Nat) {r k m : Nat} {ety : TypeId} {esz : Nat} {es es' : List (List Dat)} {mem' : List Blk} {c : Code} (ht : look sl t = .c (.arr r k m)) (hm : mem[r]? = some (.arr k ety esz es)) (hl : m ≤ es.length) (hes : es.take m = es') (hm' : mem.set r .dead = mem')
  (h : ARun P B c ⟨n, (t, .c (.d (.sl es'))) :: sl, mem', ck, df⟩ Q) : ARun P B c ⟨n, sl, mem, ck, df⟩ Q := by
 subst hes; subst hm'
 exact LK (τ := ⟨n, (t, .c (.d (.sl (es.take m)))) :: sl, mem.set r .dead, ck, df⟩) rfl (fun a w hr => JD ht hm hl hr) h
theorem FR (t : Nat) {F0 : Nat → Prop} {w0 : World} {ops rest : List Oper} {K : St → Prop} {acc : List Nat} {r k m : Nat} {ety : TypeId} {esz : Nat} {es es' : List (List Dat)} {mem' : List Blk} (ht : look sl t = .c (.arr r k m)) (hm : mem[r]? = some (.arr k ety esz es)) (hl : m ≤ es.length) (hes : es.take m = es') (hm' : mem.set r .dead = mem')
  (h : Reg P F0 w0 false ops K rest ⟨n, (t, .c (.d (.sl es'))) :: sl, mem', ck, df⟩ acc) : Reg P F0 w0 false ops K rest ⟨n, sl, mem, ck, df⟩ acc := by
 subst hes; subst hm'
 exact .turn (τ := ⟨n, (t, .c (.d (.sl (es.take m)))) :: sl, mem.set r .dead, ck, df⟩) rfl rfl (fun _ _ _ _ _ hr => JD ht hm hl hr) h
theorem Vi {t : Nat} (ety : TypeId) (esz : Nat) (ht : look sl t = .c .emp) (hz : 0 < esz) {a : Act} {w : World} (h : Rel B ⟨n, sl, mem, ck, df⟩ a w) :
  Rel B ⟨n, (t, .c (.arr mem.length (ck + 1) 0)) :: sl, mem ++ [Blk.arr (ck + 1) ety esz []], ck + 1, df⟩ a w := by
 obtain ⟨E, hr, hB⟩ := h
 have hn := hr.1.newArr (w' := w) ety esz 0 [] hz (by simp) (by simp) (by simp [maxLen]) (Bel.refl _ _) (fun _ _ => rfl) (.inl rfl)
 refine ⟨_, ⟨hn.1, hr.2.1, hr.2.2.1.le hn.2, fun s => ?_⟩, hB.trans hn.2⟩
 simp only [St.get, Bg]
 by_cases hs : t = s
 ·subst hs
  rw [if_pos rfl]
  have := hr.2.2.2 t
  simp only [St.get, ht] at this
  generalize a.tmps.getD t undef = v at this
  cases this with | c q => cases q with | emp b =>
  exact .c (.arr _ _ 0 _ rfl (by simp [Env.upd]) (fun _ => .inl ⟨by simp [Env.upd], rfl, b, rfl⟩))
 ·rw [if_neg hs]
  exact (hr.2.2.2 s).le hn.2
theorem Xs (t : Nat) (ety : TypeId) (esz : Nat) {r : Nat} {mem' : List Blk} {c : Code} (ht : look sl t = .c .emp) (hz : Nat.blt 0 esz = true) (hr : mem.length = r) (hm' : mem ++ [Blk.arr (ck + 1) ety esz []] = mem')
  (h : ARun P B c ⟨n, (t, .c (.arr r (ck + 1) 0)) :: sl, mem', ck + 1, df⟩ Q) : ARun P B c ⟨n, sl, mem, ck, df⟩ Q := by
 subst hr; subst hm'
 exact LK (τ := ⟨n, (t, .c (.arr mem.length (ck + 1) 0)) :: sl, mem ++ [Blk.arr (ck + 1) ety esz []], ck + 1, df⟩) rfl (fun a w hr => Vi ety esz ht (by simp only [Nat.blt, Nat.ble_eq] at hz; omega) hr) h
theorem YU {t : Nat} {x y : Dat} (h : look sl t = .c (.d y)) (e : y = x) : Am T ⟨n, sl, mem, ck, df⟩ (.tmp t) fun s => SF mem s (.one x) := by
 subst e
 simp only [Am, St.get, h, SF, CF, Cell.dat]
theorem Xt {t : Nat} {x : Dat} (h : look sl t = .c .emp) (e : .sl [] = x) : Am T ⟨n, sl, mem, ck, df⟩ (.tmp t) fun s => SF mem s (.one x) := by
 subst e
 simp only [Am, St.get, h, SF, CF, Cell.dat]
theorem Xu {t r k m : Nat} {ety : TypeId} {esz : Nat} {es : List (List Dat)} {x : Dat} (h : look sl t = .c (.arr r k m)) (hm : mem[r]? = some (.arr k ety esz es)) (hl : m ≤ es.length) (e : .sl (es.take m) = x) : Am T ⟨n, sl, mem, ck, df⟩ (.tmp t) fun s => SF mem s (.one x) := by
 subst e
 simp only [Am, St.get, h, SF, CF, hm]
 exact ⟨trivial, hl, trivial⟩
theorem Vj {a t r k o : Nat} {i : TI} {cs cs' : List Cell} {xs : List Dat} (h : look sl a = .c (.bp r k o)) (ht : T t = some i) (ha : i.desc.agg = true) (hm : mem[r]? = some (.box k cs)) (hs : decide (o + i.size ≤ cs.length) = true) (hcs : (cs.drop o).take i.size = cs') (hc : CFs mem cs' xs) : Am T ⟨n, sl, mem, ck, df⟩ (.cell a t) fun s => SF mem s (.agg xs) := by
 subst hcs
 simp only [Am, St.get, h, DD, ht, ha, hm]
 exact ⟨.inl trivial, trivial, by simpa using hs, hc⟩
theorem GT {x y : Dat} (e : y = x) : CF mem (.d y) x := by subst e; simp only [CF, Cell.dat]
theorem Xv {x : Dat} (e : .sl [] = x) : CF mem .emp x := by subst e; simp only [CF, Cell.dat]
theorem OW {r k m : Nat} {ety : TypeId} {esz : Nat} {es : List (List Dat)} {x : Dat} (hm : mem[r]? = some (.arr k ety esz es)) (hl : m ≤ es.length) (e : .sl (es.take m) = x) : CF mem (.arr r k m) x := by
 subst e; simp only [CF, hm]; exact ⟨trivial, hl, trivial⟩
theorem Vk : CFs mem [] [] := trivial
theorem BJ {c : Cell} {x : Dat} {cs : List Cell} {xs : List Dat} (h : CF mem c x) (h' : CFs mem cs xs) : CFs mem (c :: cs) (x :: xs) := ⟨h, h'⟩
theorem A4 {x : ResultVar} {p : PV} (hd : Ah P df) (h : Am T ⟨n, sl, mem, ck, df⟩ x fun s => SF mem s p) : At P B (fin P T [x] (.v p)) [] .ret ⟨n, sl, mem, ck, df⟩ := ⟨hd, h⟩
theorem Ay {x y : ResultVar} {p q : PV} (hd : Ah P df) (h1 : Am T ⟨n, sl, mem, ck, df⟩ x fun s => SF mem s p) (h2 : Am T ⟨n, sl, mem, ck, df⟩ y fun s => SF mem s q) : At P B (fin P T [x, y] (.tup [p, q])) [] .ret ⟨n, sl, mem, ck, df⟩ := ⟨hd, by simp, h1, h2, trivial⟩
theorem GU {x y z : ResultVar} {p q r : PV} (hd : Ah P df) (h1 : Am T ⟨n, sl, mem, ck, df⟩ x fun s => SF mem s p) (h2 : Am T ⟨n, sl, mem, ck, df⟩ y fun s => SF mem s q) (h3 : Am T ⟨n, sl, mem, ck, df⟩ z fun s => SF mem s r) : At P B (fin P T [x, y, z] (.tup [p, q, r])) [] .ret ⟨n, sl, mem, ck, df⟩ := ⟨hd, by simp, h1, h2, h3, trivial⟩
theorem Af : Ah P [] := trivial
theorem Aq {f : FuncId} {cs : List Cell} {l : List (FuncId × List Cell)} (h : DeferOk P f cs.length) (h' : Ah P l) : Ah P ((f, cs) :: l) := ⟨h, h'⟩
end
variable {σ : St}
theorem SW (r j : Nat) (ety : TypeId) (esz : Nat) (k : Nat) (cs : List Cell) (hm : σ.mem[r]? = some (.box k cs)) (hj : cs[j]? = some .emp) (hz : 0 < esz) {c : Code}
  (h : ARun P B c { σ with mem := σ.mem.set r (.box k (cs.set j (.arr σ.mem.length (σ.clock + 1) 0))) ++ [Blk.arr (σ.clock + 1) ety esz []], clock := σ.clock + 1 } Q) : ARun P B c σ Q := by
 intro a w hr
 obtain ⟨E, hr, hB⟩ := hr
 have hn := hr.1.newArr (w' := w) ety esz 0 [] hz (by simp) (by simp) (by simp [maxLen]) (Bel.refl _ _) (fun _ _ => rfl) (.inl rfl)
 have hlt := lt_of_getElem? hm
 have hjl := lt_of_getElem? hj
 refine h a w ⟨_, ⟨?_, hr.2.1, hr.2.2.1.le hn.2, fun s => (hr.2.2.2 s).le hn.2⟩, hB.trans hn.2⟩
 obtain ⟨n1, n2, n3, n4, n5⟩ := hn.1
 refine ⟨n1, n2, n3, ⟨n4.clock, fun s b hs => ?_, fun s s' b b' hs hs' hb hb' hne => ?_⟩, n5⟩
 ·by_cases hrs : s = r
  · subst hrs
    rw [List.getElem?_append_left (by simpa using hlt), List.getElem?_set_self (by simpa using hlt)] at hs
    simp only [Option.some.injEq] at hs
    subst hs
    have ho := n4.ok s (.box k cs) (by rw [List.getElem?_append_left hlt]; exact hm)
    obtain ⟨o1, o2, o3, c0, ety0, o4, o5, o6⟩ := ho
    refine ⟨o1, o2, o3, c0, ety0, o4, by simpa using o5, fun i v x hv hx => ?_⟩
    by_cases hij : j = i
    ·subst hij
     rw [List.getElem?_set_self hjl] at hx
     simp only [Option.some.injEq] at hx
     subst hx
     have := o6 j v .emp hv hj
     cases this with | emp q =>
     exact .arr _ _ 0 _ rfl (by simp [Env.upd]) (fun _ => .inl ⟨by simp [Env.upd], rfl, q, rfl⟩)
    ·rw [List.getElem?_set_ne hij] at hx
     exact o6 i v x hv hx
  · refine n4.ok s b ?_
    by_cases hsl : s < σ.mem.length
    ·rw [List.getElem?_append_left (by simpa using hsl), List.getElem?_set_ne (Ne.symm hrs)] at hs
     rw [List.getElem?_append_left hsl]
     exact hs
    ·rw [List.getElem?_append_right (by simpa using Nat.le_of_not_lt hsl)] at hs
     rw [List.getElem?_append_right (Nat.le_of_not_lt hsl)]
     simpa using hs
 ·have key : ∀ (s : Nat) b, (σ.mem.set r (.box k (cs.set j (.arr σ.mem.length (σ.clock + 1) 0))) ++ [Blk.arr (σ.clock + 1) ety esz []])[s]? = some b →
     ∃ b0, (σ.mem ++ [Blk.arr (σ.clock + 1) ety esz []])[s]? = some b0 ∧ ∀ E', b.has E' s → b0.has E' s := by
    intro s b hs
    by_cases hrs : s = r
    ·subst hrs
     rw [List.getElem?_append_left (by simpa using hlt), List.getElem?_set_self (by simpa using hlt)] at hs
     simp only [Option.some.injEq] at hs
     subst hs
     exact ⟨.box k cs, by rw [List.getElem?_append_left hlt]; exact hm, fun _ _ => trivial⟩
    ·refine ⟨b, ?_, fun _ h => h⟩
     by_cases hsl : s < σ.mem.length
     ·rw [List.getElem?_append_left (by simpa using hsl), List.getElem?_set_ne (Ne.symm hrs)] at hs
      rw [List.getElem?_append_left hsl]
      exact hs
     ·rw [List.getElem?_append_right (by simpa using Nat.le_of_not_lt hsl)] at hs
      rw [List.getElem?_append_right (Nat.le_of_not_lt hsl)]
      simpa using hs
  obtain ⟨b0, q1, q2⟩ := key s b hs
  obtain ⟨b1, p1, p2⟩ := key s' b' hs'
  exact n4.apart s s' b0 b1 q1 p1 (q2 _ hb) (p2 _ hb') hne
theorem QW {n : Nat} {sl : List (Nat × SVal)} {mem : List Blk} {ck : Nat} {df : List (FuncId × List Cell)} (r j : Nat) (ety : TypeId) (esz : Nat) {k r' : Nat} {cs cs' : List Cell} {mem' : List Blk} {c : Code} (hm : mem[r]? = some (.box k cs)) (hj : cs[j]? = some .emp) (hz : Nat.blt 0 esz = true) (hr : mem.length = r') (hcs : cs.set j (.arr r' (ck + 1) 0) = cs') (hm' : mem.set r (.box k cs') ++ [Blk.arr (ck + 1) ety esz []] = mem')
  (h : ARun P B c ⟨n, sl, mem', ck + 1, df⟩ Q) : ARun P B c ⟨n, sl, mem, ck, df⟩ Q := by
 subst hr; subst hcs; subst hm'
 exact SW (σ := ⟨n, sl, mem, ck, df⟩) r j ety esz k cs hm hj (by simp only [Nat.blt, Nat.ble_eq] at hz; omega) h
theorem fsq (t : Nat) {es : List (List Dat)} (ht : σ.get t = .c (.d (.sl es))) {c : Code} (h : es.length ≤ maxLen → ARun P B c σ Q) : ARun P B c σ Q := by
 intro a w hr
 refine h ?_ a w hr
 obtain ⟨E, hr, _⟩ := hr
 have := hr.2.2.2 t
 rw [ht] at this
 generalize a.tmps.getD t undef = v at this
 cases this with | c q => cases q with | d q => cases q with
 | emp => simp
 | sl _ b off cap size u h1 h2 h3 => exact Nat.le_trans h2 h3
def QX (T : TypeId → Option TI) (σ : St) (rs : List ResultVar) (R : SVal → Prop) : Prop :=
 match rs with
 | [] => R (.tup [])
 | [x] => Am T σ x R
 | [x, y] => Am T σ x fun a => Am T σ y fun b => R (.tup [a, b])
 | _ => False
def AW (P : Program) (T : TypeId → Option TI) (rs : List ResultVar) (R : SVal → List Blk → Nat → Prop) : Ex → St → Prop
 | .exit _, _ => False
 | _, σ => Ah P σ.defers ∧ QX T σ rs fun s => R s σ.mem σ.clock
def LL : List SVal → Nat → List (Nat × SVal)
 | [], _ => []
 | p :: ps, k => (k, p) :: LL ps (k + 1)
theorem KJ : ∀ (ps : List SVal) (k t : Nat), look (LL ps k) t = if k ≤ t then (match ps[t - k]? with | some p => p | none => .junk) else .junk
 | [], k, t => by simp [LL, look]
 | p :: ps, k, t => by
   simp only [LL, Bg, KJ ps (k + 1) t]
   by_cases h1 : k = t
   ·subst h1; simp
   ·rw [if_neg h1]
    by_cases h2 : k + 1 ≤ t
    ·rw [if_pos h2, if_pos (by omega), show t - k = (t - (k + 1)) + 1 by omega]
     simp
    ·rw [if_neg h2, if_neg (by omega)]
theorem MCall.enter (hT : AE P T) {F0 : Nat → Prop} {w0 : World} {f : FuncId} {fn : Func} {c : Code} {args : List SVal} {mem : List Blk} {clock : Nat} {R : SVal → List Blk → Nat → Prop} (hf : P.funcs[f]? = some fn) (hb : fn.body = some c) (hnm : (fn.name == "runtime.NumGoroutine") = false)
   (n : Nat) (rs : List ResultVar) (hnt : fn.ntmps = n) (hrs : fn.results.toList = rs) (hn : decide (args.length ≤ n) = true)
   (h : ∀ B : Base, B.F0 = F0 → B.w0 = w0 → ARun P B c { n := n, slots := LL args 0, mem := mem, clock := clock, defers := [] } (At P B (AW P T rs R) [])) : MCall P F0 w0 f args mem clock R := by
 subst hnt
 subst hrs
 have hn : args.length ≤ fn.ntmps := by simpa using hn
 refine ⟨⟨fn, hf, hnm, by simp [hb]⟩, fun E w vs hw hl hv => ?_⟩
 refine calls_of_wp_defers hf hb ?_
 have hrel : Rel ⟨F0, w0, E, w⟩ { n := fn.ntmps, slots := LL args 0, mem := mem, clock := clock, defers := [] } { tmps := vs.toArray ++ Array.replicate (fn.ntmps - vs.toArray.size) undef, defers := [] } w := by
   refine ⟨E, ⟨hw, by simp; omega, ⟨rfl, by simp⟩, fun t => ?_⟩, EnvLe.refl _ _⟩
   simp only [St.get, KJ]
   simp only [Nat.zero_le, if_true, Nat.sub_zero]
   cases ha : args[t]? with
   | none => exact .junk _
   | some p =>
     have hlt := lt_of_getElem? ha
     have hvt : vs[t]? = some (vs[t]'(by omega)) := List.getElem?_eq_getElem _
     have : (vs.toArray ++ Array.replicate (fn.ntmps - vs.toArray.size) undef).getD t undef = vs[t]'(by omega) := by
      simp [Array.getElem?_append, show t < vs.length by omega]
     rw [this]
     exact hv t _ p hvt ha
 refine Code.wp_mono (fun e a' w' hq => ?_) (h ⟨F0, w0, E, w⟩ rfl rfl _ w hrel)
 obtain ⟨x, σ', ⟨E', hr, hle⟩, _, hk, hfit⟩ := hq
 have key : Ah P σ'.defers ∧ QX T σ' fn.results.toList (fun s => R s σ'.mem σ'.clock) → Leaves P fn a'.tmps (fun e w' => ∃ v E' s mem' clock', e = .returned v ∧ EnvLe E w E' w' ∧ WOk F0 w0 E' w' mem' clock' ∧ SRep E' w' v s ∧ R s mem' clock') a'.defers .returning w' := by
   rintro ⟨k1, k2⟩
   refine HS _ _ hr.2.2.1 k1 ?_
   unfold QX at k2
   split at k2
   · rename_i hrv
     have e1 : fn.results = #[] := by apply Array.ext'; simpa using hrv
     refine ⟨.tuple #[], ?_, _, E', _, _, _, rfl, hle, hr.1, .tup [] [] rfl (by simp), k2⟩
     rw [DW, e1]
     simp
   · rename_i rv hrv
     obtain ⟨v, s, q1, q2, q3⟩ := EF hT hr k2
     refine ⟨v, ?_, v, E', s, _, _, rfl, hle, hr.1, q2, q3⟩
     have e1 : fn.results = #[rv] := by apply Array.ext'; simpa using hrv
     rw [DW, e1, Array.mapM_eq_mapM_toList]
     simp only [List.mapM_cons, List.mapM_nil, Sem.run_bind, Sem.run_map]
     rw [q1]
     simp
   · rename_i rv rv' hrv
     obtain ⟨v, s, q1, q2, q3⟩ := EF hT hr k2
     obtain ⟨v', s', p1, p2, p3⟩ := EF hT hr q3
     refine ⟨.tuple #[v, v'], ?_, _, E', .tup [s, s'], _, _, rfl, hle, hr.1, .tup _ [v, v'] rfl (fun i u y hu hy => ?_), p3⟩
     ·have e1 : fn.results = #[rv, rv'] := by apply Array.ext'; simpa using hrv
      rw [DW, e1, Array.mapM_eq_mapM_toList]
      simp only [List.mapM_cons, List.mapM_nil, Sem.run_bind, Sem.run_map]
      rw [q1]
      simp only [Result.andThen_ok]
      rw [p1]
      simp
     ·match i with
      | 0 => simp at hu hy; subst hu; subst hy; exact q2
      | 1 => simp at hu hy; subst hu; subst hy; exact p2
      | i + 2 => simp at hu
   · exact k2.elim
 cases e with
 | normal => cases x with
   | norm => exact key hk
   | exit i => exact hfit.elim
   | ret => exact hfit.elim
 | ret => cases x with
   | ret => exact key hk
   | exit i => exact hfit.elim
   | norm => exact hfit.elim
 | exit i => cases x with
   | exit j => exact hk.elim
   | norm => exact hfit.elim
   | ret => exact hfit.elim
 | goto l => cases x <;> exact hfit.elim
 | panic c => cases x <;> exact hfit.elim
 | outgrown => cases x <;> exact hfit.elim
end
theorem Vl {z : Int} (h1 : -9223372036854775807 ≤ z) (h2 : z ≤ 9223372036854775807) : IntKind.i64.wrap (0 - z) = -z := by
 rw [BE (by omega) (by omega)]; omega
theorem SX {xs : List Dat} {cs : List Cell} (h : xs.map Cell.d = cs) : (PRes.v (.agg xs)).s = .agg cs := by subst h; rfl
theorem Vm {x : Dat} {xs : List Dat} {cs : List Cell} (h : xs.map Cell.d = cs) : (PRes.tup [.one x, .agg xs]).s = .tup [.c (.d x), .agg cs] := by subst h; rfl
theorem Vn {x : Dat} {xs : List Dat} {cs : List Cell} (h : xs.map Cell.d = cs) : (PRes.tup [.agg xs, .one x]).s = .tup [.agg cs, .c (.d x)] := by subst h; rfl
theorem Xw {α : Type} {f : α → List Dat} {l : List α} {hi : Nat} : ((l.map f).take ((hi : Nat) : Int).toNat).drop ((0 : Nat) : Int).toNat = (l.take hi).map f := by
 simp only [Int.toNat_natCast, List.drop_zero, List.map_take]
theorem MY {α : Type} {f : α → List Dat} {l : List α} {lo : Nat} : ((l.map f).take (((l.map f).length : Nat) : Int).toNat).drop ((lo : Nat) : Int).toNat = (l.drop lo).map f := by
 simp only [Int.toNat_natCast, List.take_length, List.map_drop]
theorem SY {α : Type} {f : α → List Dat} {l : List α} {lo hi : Nat} : ((l.map f).take ((hi : Nat) : Int).toNat).drop ((lo : Nat) : Int).toNat = ((l.take hi).drop lo).map f := by
 simp only [Int.toNat_natCast, List.map_drop, List.map_take]
theorem QY {α : Type} {f : α → List Dat} {l : List α} : ((l.map f).take (((l.map f).length : Nat) : Int).toNat).drop (1 : Int).toNat = (l.drop 1).map f := MY (lo := 1)
theorem QZ {σ : St} : Aj σ [] := trivial
theorem E6 {n : Nat} {sl : List (Nat × SVal)} {mem : List Blk} {ck : Nat} {df : List (FuncId × List Cell)} {t : Nat} {v u : SVal} {l : List (Nat × SVal)} (hu : look sl t = u) (h : VLe u v) (h' : Aj ⟨n, sl, mem, ck, df⟩ l) : Aj ⟨n, sl, mem, ck, df⟩ ((t, v) :: l) := ⟨by subst hu; exact h, h'⟩
section
variable {P : Program} {T : TypeId → Option TI} {F0 : Nat → Prop} {w0 : World} {dr : Bool} {ops rest : List Oper} {K : St → Prop} {n : Nat} {sl : List (Nat × SVal)} {mem : List Blk} {ck : Nat} {df : List (FuncId × List Cell)} {acc : List Nat}
variable {d : Tmp} {op : Op} {ty : TypeId} {pos : String} {aft : Array Edge} {g : Option (Nat × Bool)}
theorem LM {es ys es' : List (List Dat)} {j : Nat} (hj : es.length = j) (h : es ++ ys = es') : es.take j ++ ys = es' := by subst hj; subst h; simp
end
section
variable {P : Program} {F0 : Nat → Prop} {w0 : World} {dr : Bool} {ops rest : List Oper} {K : St → Prop} {σ : St} {acc : List Nat} {dst : Option Tmp} {ty : TypeId} {pos : String} {aft : Array Edge} {g : Option (Nat × Bool)}
theorem PY {x : Operand} (h : Reg P F0 w0 dr ops K (⟨dst, (.move x), ty, pos, aft, g⟩ :: rest) σ acc) : Reg P F0 w0 dr ops K (⟨dst, (.move x), ty, pos, aft, g⟩ :: rest) σ acc := h
theorem KK {x : Operand} (h : Reg P F0 w0 dr ops K (⟨dst, (.assign x), ty, pos, aft, g⟩ :: rest) σ acc) : Reg P F0 w0 dr ops K (⟨dst, (.assign x), ty, pos, aft, g⟩ :: rest) σ acc := h
theorem PZ {x y z : Operand} (h : Reg P F0 w0 dr ops K (⟨dst, (.pick x y z), ty, pos, aft, g⟩ :: rest) σ acc) : Reg P F0 w0 dr ops K (⟨dst, (.pick x y z), ty, pos, aft, g⟩ :: rest) σ acc := h
theorem MZ {t : TypeId} {x : Operand} {f : Nat} (h : Reg P F0 w0 dr ops K (⟨dst, (.fieldAddr t x f), ty, pos, aft, g⟩ :: rest) σ acc) : Reg P F0 w0 dr ops K (⟨dst, (.fieldAddr t x f), ty, pos, aft, g⟩ :: rest) σ acc := h
theorem P0 {t : TypeId} {x : Operand} (h : Reg P F0 w0 dr ops K (⟨dst, (.load t x), ty, pos, aft, g⟩ :: rest) σ acc) : Reg P F0 w0 dr ops K (⟨dst, (.load t x), ty, pos, aft, g⟩ :: rest) σ acc := h
theorem M0 {t : TypeId} {x y : Operand} (h : Reg P F0 w0 dr ops K (⟨dst, (.store t x y), ty, pos, aft, g⟩ :: rest) σ acc) : Reg P F0 w0 dr ops K (⟨dst, (.store t x y), ty, pos, aft, g⟩ :: rest) σ acc := h
theorem M1 {t : TypeId} {x y : Operand} (h : Reg P F0 w0 dr ops K (⟨dst, (.indexAddr t x y), ty, pos, aft, g⟩ :: rest) σ acc) : Reg P F0 w0 dr ops K (⟨dst, (.indexAddr t x y), ty, pos, aft, g⟩ :: rest) σ acc := h
theorem SZ {bo : BinOp} {t t' : TypeId} {x y : Operand} (h : Reg P F0 w0 dr ops K (⟨dst, (.binOp bo t x y t'), ty, pos, aft, g⟩ :: rest) σ acc) : Reg P F0 w0 dr ops K (⟨dst, (.binOp bo t x y t'), ty, pos, aft, g⟩ :: rest) σ acc := h
theorem We {uo : UnOp} {t : TypeId} {x : Operand} (h : Reg P F0 w0 dr ops K (⟨dst, (.unOp uo t x), ty, pos, aft, g⟩ :: rest) σ acc) : Reg P F0 w0 dr ops K (⟨dst, (.unOp uo t x), ty, pos, aft, g⟩ :: rest) σ acc := h
theorem P1 {t t' : TypeId} {x : Operand} (h : Reg P F0 w0 dr ops K (⟨dst, (.convert t t' x), ty, pos, aft, g⟩ :: rest) σ acc) : Reg P F0 w0 dr ops K (⟨dst, (.convert t t' x), ty, pos, aft, g⟩ :: rest) σ acc := h
theorem ZI {f : Operand} {args : Array Operand} {ats : Array TypeId} (h : Reg P F0 w0 dr ops K (⟨dst, (.call ⟨.value f, args, ats⟩), ty, pos, aft, g⟩ :: rest) σ acc) : Reg P F0 w0 dr ops K (⟨dst, (.call ⟨.value f, args, ats⟩), ty, pos, aft, g⟩ :: rest) σ acc := h
theorem M2 {b : Builtin} {args : Array Operand} {ats : Array TypeId} (h : Reg P F0 w0 dr ops K (⟨dst, (.call ⟨.builtin b, args, ats⟩), ty, pos, aft, g⟩ :: rest) σ acc) : Reg P F0 w0 dr ops K (⟨dst, (.call ⟨.builtin b, args, ats⟩), ty, pos, aft, g⟩ :: rest) σ acc := h
theorem M3 {t : TypeId} {ps : Array (Nat × Operand)} (h : Reg P F0 w0 dr ops K (⟨dst, (.build t ps), ty, pos, aft, g⟩ :: rest) σ acc) : Reg P F0 w0 dr ops K (⟨dst, (.build t ps), ty, pos, aft, g⟩ :: rest) σ acc := h
theorem KL {t : TypeId} {k : Nat} {ps : Array (Nat × Operand)} (h : Reg P F0 w0 dr ops K (⟨dst, (.buildSlice t k ps), ty, pos, aft, g⟩ :: rest) σ acc) : Reg P F0 w0 dr ops K (⟨dst, (.buildSlice t k ps), ty, pos, aft, g⟩ :: rest) σ acc := h
theorem KM {t : TypeId} {x y : Operand} (h : Reg P F0 w0 dr ops K (⟨dst, (.makeSlice t x y), ty, pos, aft, g⟩ :: rest) σ acc) : Reg P F0 w0 dr ops K (⟨dst, (.makeSlice t x y), ty, pos, aft, g⟩ :: rest) σ acc := h
theorem M4 {f : Fn} {a b : Array Operand} (h : Reg P F0 w0 dr ops K (⟨dst, (.makeFunc f a b), ty, pos, aft, g⟩ :: rest) σ acc) : Reg P F0 w0 dr ops K (⟨dst, (.makeFunc f a b), ty, pos, aft, g⟩ :: rest) σ acc := h
theorem JE {x : Operand} {i : Nat} (h : Reg P F0 w0 dr ops K (⟨dst, (.extract x i), ty, pos, aft, g⟩ :: rest) σ acc) : Reg P F0 w0 dr ops K (⟨dst, (.extract x i), ty, pos, aft, g⟩ :: rest) σ acc := h
theorem S0 {t : TypeId} {x : Operand} (h : Reg P F0 w0 dr ops K (⟨dst, (.box t x), ty, pos, aft, g⟩ :: rest) σ acc) : Reg P F0 w0 dr ops K (⟨dst, (.box t x), ty, pos, aft, g⟩ :: rest) σ acc := h
theorem M5 {t : TypeId} (h : Reg P F0 w0 dr ops K (⟨dst, (.alloc t), ty, pos, aft, g⟩ :: rest) σ acc) : Reg P F0 w0 dr ops K (⟨dst, (.alloc t), ty, pos, aft, g⟩ :: rest) σ acc := h
theorem M6 {t : TypeId} {x : Operand} {a b c : Option Operand} (h : Reg P F0 w0 dr ops K (⟨dst, (.slice t x a b c), ty, pos, aft, g⟩ :: rest) σ acc) : Reg P F0 w0 dr ops K (⟨dst, (.slice t x a b c), ty, pos, aft, g⟩ :: rest) σ acc := h
theorem M7 {c : Call} (h : Reg P F0 w0 dr ops K (⟨dst, (.defer c), ty, pos, aft, g⟩ :: rest) σ acc) : Reg P F0 w0 dr ops K (⟨dst, (.defer c), ty, pos, aft, g⟩ :: rest) σ acc := h
theorem M8 {op : Op} {j : Nat} {b : Bool} (h : Reg P F0 w0 dr ops K (⟨dst, op, ty, pos, aft, some (j, b)⟩ :: rest) σ acc) : Reg P F0 w0 dr ops K (⟨dst, op, ty, pos, aft, some (j, b)⟩ :: rest) σ acc := h
theorem S1 (h : Reg P F0 w0 dr ops K [] σ acc) : Reg P F0 w0 dr ops K [] σ acc := h
theorem P2 {B : Base} {c : Operand} {x y : Code} {Q : Ex → St → Prop} (h : ARun P B (.cond c x y) σ Q) : ARun P B (.cond c x y) σ Q := h
theorem KN {B : Base} {i : Nat} {os : Array Oper} {d : Bool} {Q : Ex → St → Prop} (h : ARun P B (.region i os d) σ Q) : ARun P B (.region i os d) σ Q := h
theorem ZQ {B : Base} {T : TypeId → Option TI} {rs : List ResultVar} {r : PRes} {e : Ex} (h : At P B (fin P T rs r) [] e σ) : At P B (fin P T rs r) [] e σ := h
theorem ZR {T : TypeId → Option TI} {x : ResultVar} {V : SVal → Prop} (h : Am T σ x V) : Am T σ x V := h
theorem ZS {m : List Blk} {cs : List Cell} {xs : List Dat} (h : CFs m cs xs) : CFs m cs xs := h
theorem Z3 {m : List Blk} {c : Cell} {x : Dat} (h : CF m c x) : CF m c x := h
end
theorem Xx {P : Program} {T : TypeId → Option TI} (hT : AE P T) {f : FuncId} {fn : Func} {c : Code} {args : List PV} {r : PRes} {sl : List (Nat × SVal)} (hf : P.funcs[f]? = some fn) (hb : fn.body = some c) (hnm : (fn.name == "runtime.NumGoroutine") = false)
  (n : Nat) (rs : List ResultVar) (hnt : fn.ntmps = n) (hrs : fn.results.toList = rs) (hn : decide (args.length ≤ n) = true) (hsl : OJ args 0 = sl) (h : ∀ B, ARun P B c ⟨n, sl, [], 0, []⟩ (At P B (fin P T rs r) [])) : PCall P f args r := by
 subst hsl
 exact YD hT hf hb hnm n rs hnt hrs hn h
theorem Ac {P : Program} {T : TypeId → Option TI} (hT : AE P T) {f : FuncId} {fn : Func} {c : Code} {args : List PV} {r : PRes} {sl : List (Nat × SVal)} {n : Nat} (hf : P.funcs[f]? = some fn) (hnt : fn.ntmps = n) (rs : List ResultVar) (h : ∀ B, ARun P B c ⟨n, sl, [], 0, []⟩ (At P B (fin P T rs r) []))
  (hb : fn.body = some c := by exact rfl) (hnm : (fn.name == "runtime.NumGoroutine") = false := by kernel_rfl) (hrs : fn.results.toList = rs := by exact rfl) (hn : decide (args.length ≤ n) = true := by exact rfl) (hsl : OJ args 0 = sl := by repeat' (first | exact AS rfl | apply AA (a := ((_, SVal.c _) : Nat × SVal)) rfl | apply AA (a := ((_, SVal.agg _) : Nat × SVal)) rfl)) : PCall P f args r :=
 Xx hT hf hb hnm n rs hnt hrs hn hsl h
theorem Xy {P : Program} {T : TypeId → Option TI} (hT : AE P T) {F0 : Nat → Prop} {w0 : World} {f : FuncId} {fn : Func} {c : Code} {args : List SVal} {mem : List Blk} {clock : Nat} {R : SVal → List Blk → Nat → Prop} {sl : List (Nat × SVal)} (hf : P.funcs[f]? = some fn) (hb : fn.body = some c) (hnm : (fn.name == "runtime.NumGoroutine") = false)
  (n : Nat) (rs : List ResultVar) (hnt : fn.ntmps = n) (hrs : fn.results.toList = rs) (hn : decide (args.length ≤ n) = true) (hsl : LL args 0 = sl) (h : ∀ B : Base, B.F0 = F0 → B.w0 = w0 → ARun P B c ⟨n, sl, mem, clock, []⟩ (At P B (AW P T rs R) [])) : MCall P F0 w0 f args mem clock R := by
 subst hsl
 exact MCall.enter hT hf hb hnm n rs hnt hrs hn h
section
variable {P : Program} {T : TypeId → Option TI} {B : Base} {n : Nat} {sl : List (Nat × SVal)} {mem : List Blk} {ck : Nat} {df : List (FuncId × List Cell)} {R' : SVal → List Blk → Nat → Prop}
theorem ZJ {σ : St} {rs : List ResultVar} {e : Ex} (h : At P B (AW P T rs R') [] e σ) : At P B (AW P T rs R') [] e σ := h
end
end Go.Abs
end
