/-
  The operations over the abstract view, and that each of them follows the machine's own.
-/
import Derived.Test.YtlacmjfgaehhkaaAbsB
namespace Go.Abs
open Go.RowKit

inductive TD where
  | int (k : IntKind)
  | bool
  | str
  | struct (fs : List (Nat × TypeId))
  | array (n : Nat) (e : TypeId)
  | slice (e : TypeId)
  | plain

def TD.agg : TD → Bool
  | .struct _ => true
  | .array _ _ => true
  | _ => false

structure TI where
  size : Nat
  bytes : Nat
  zero : List Value
  desc : TD
  eqs : Bool := false

def TDOk (P : Program) (t : TypeId) : TD → Prop
  | .int k => P.underlying t = some (.int k)
  | .bool => P.underlying t = some .bool
  | .str => P.underlying t = some .string
  | .struct fs => ∃ fields, P.underlying t = some (.struct fields) ∧ fields.toList.map (fun f => (f.offset, f.type)) = fs
  | .array n e => P.underlying t = some (.array n e)
  | .slice e => P.underlying t = some (.slice e)
  | .plain => ∃ d, P.underlying t = some d ∧ (match d with | .struct _ => False | .array _ _ => False | _ => True)

def litEq : Value → Value → Bool
  | .int _ a, .int _ b => a == b
  | .bool a, .bool b => a == b
  | .string a, .string b => a.toList == b.toList
  | _, _ => false

def litsEq : List Value → List Value → Bool
  | x :: xs, y :: ys => litEq x y && litsEq xs ys
  | _, _ => true

/-- Two literal values of one kind. -/
def alike : Value → Value → Prop
  | .int k _, .int k' _ => k = k'
  | .bool _, .bool _ => True
  | .string _, .string _ => True
  | _, _ => False

def alikes : List Value → List Value → Prop
  | x :: xs, y :: ys => alike x y ∧ alikes xs ys
  | [], [] => True
  | _, _ => False

/-- '==' of two structs of literal fields. -/
def EqOk (P : Program) (t : TypeId) (zero : List Value) : Prop :=
  ∀ (w : World) (x y : Operand) (xs ys : List Value), alikes zero xs → alikes zero ys →
    ((do eqGuard .eql t x y (.agg xs.toArray) (.agg ys.toArray); binOp .eql t (.agg xs.toArray) (.agg ys.toArray) : Sem Value).run P w = .ok (.bool (litsEq xs ys)) w) ∧
    ((do eqGuard .neq t x y (.agg xs.toArray) (.agg ys.toArray); binOp .neq t (.agg xs.toArray) (.agg ys.toArray) : Sem Value).run P w = .ok (.bool !(litsEq xs ys)) w)

structure TOk (P : Program) (t : TypeId) (i : TI) : Prop where
  info : ∃ f z, P.info? t = some f ∧ f.size = i.size ∧ f.bytes = i.bytes ∧ f.zero = some z ∧ z.cells = i.zero.toArray
  ones : ∀ v ∈ i.zero, v.oneCell' = true
  desc : TDOk P t i.desc
  eqv : i.eqs = true → EqOk P t i.zero

def TypesOk (P : Program) (T : TypeId → Option TI) : Prop := ∀ t i, T t = some i → TOk P t i

def lit (v : Value) : SVal := .c (.d (.lit v))
def int (n : Int) : SVal := lit (.int .i64 n)
def boo (b : Bool) : SVal := lit (.bool b)

def valCell : Value → Cell
  | .slice none 0 0 => .emp
  | v => .d (.lit v)

def SVal.cells : SVal → Option (List Cell)
  | .c x => some [x]
  | .agg xs => some xs
  | _ => none

def Cell.dat : Cell → Option Dat
  | .d x => some x
  | .emp => some (.sl [])
  | _ => none

def dats : List Cell → Option (List Dat)
  | [] => some []
  | c :: cs => match c.dat, dats cs with
    | some x, some xs => some (x :: xs)
    | _, _ => none

def oneOr (agg : Bool) (cs : List Cell) : SVal :=
  match agg, cs with
  | true, cs => .agg cs
  | false, [x] => .c x
  | false, _ => .junk

def liveAt (mem : List Blk) (r k : Nat) : Prop :=
  match mem[r]? with
  | some (.box k' _) => k' = k
  | some (.arr k' _ _ _) => k' = k
  | _ => False

section
variable (P : Program) (T : TypeId → Option TI) (F0 : Nat → Prop) (w0 : World)

structure FnOk (f : FuncId) : Prop where
  ex : ∃ fn, P.funcs[f]? = some fn ∧ (fn.name == "runtime.NumGoroutine") = false ∧ fn.body.isNone = false

/-- What a call does to what is held. -/
def MCall (f : FuncId) (args : List SVal) (mem : List Blk) (clock : Nat) (R : SVal → List Blk → Nat → Prop) : Prop :=
  FnOk P f ∧ ∀ (E : Env) (w : World) (vs : List Value), WOk F0 w0 E w mem clock → vs.length = args.length →
    (∀ (i : Nat) v x, vs[i]? = some v → args[i]? = some x → SRep E w v x) →
    Calls P f vs.toArray w fun e w' => ∃ v E' r mem' clock', e = .returned v ∧ EnvLe E w E' w' ∧ WOk F0 w0 E' w' mem' clock' ∧ SRep E' w' v r ∧ R r mem' clock'

/-- One of two, by a bit. -/
def whenB (b want : Bool) (A C : Prop) : Prop := (b = want → A) ∧ (b = !want → C)

theorem when_split {b want : Bool} {A C : Prop} (h1 : b = want → A) (h2 : b = !want → C) : whenB b want A C := ⟨h1, h2⟩
theorem when_tt {A C : Prop} : whenB true true A C = A := by simp [whenB]
theorem when_ft {A C : Prop} : whenB false true A C = C := by simp [whenB]
theorem when_tf {A C : Prop} : whenB true false A C = C := by simp [whenB]
theorem when_ff {A C : Prop} : whenB false false A C = A := by simp [whenB]

/-- What is there, and what holds of it. -/
def there {α : Type} (o : Option α) (f : α → Prop) : Prop :=
  match o with
  | some e => f e
  | none => False

theorem there_of {α : Type} {o : Option α} {f : α → Prop} (h : there o f) : ∃ e, o = some e ∧ f e := by
  cases o with
  | none => exact h.elim
  | some e => exact ⟨e, rfl, h⟩

theorem there_intro {α : Type} {o : Option α} {f : α → Prop} {e : α} (h : o = some e) (hf : f e) : there o f := by subst h; exact hf
theorem there_some {α : Type} {f : α → Prop} {e : α} : there (some e) f = f e := rfl

def aLoad (σ : St) (t : TypeId) (x : SVal) (V : SVal → Prop) : Prop :=
  match T t with
  | none => False
  | some i => (i.desc.agg = true ∨ i.size = 1) ∧
    match x with
    | .c (.bp r k o) => (match σ.mem[r]? with
      | some (.box k' cs) => k' = k ∧ o + i.size ≤ cs.length ∧ V (oneOr i.desc.agg ((cs.drop o).take i.size))
      | _ => False)
    | .c (.fp e o) => o + i.size ≤ e.length ∧ V (oneOr i.desc.agg (((e.drop o).take i.size).map .d))
    | .c (.ap r k esz n o) => (match σ.mem[r]? with
      | some (.arr k' _ esz' es) => k' = k ∧ esz' = esz ∧ there es[n]? fun e => o + i.size ≤ e.length ∧ V (oneOr i.desc.agg (((e.drop o).take i.size).map .d))
      | _ => False)
    | _ => False

def aStore (σ : St) (t : TypeId) (x v : SVal) (K : St → Prop) : Prop :=
  match T t, v.cells with
  | some i, some cs => cs.length = i.size ∧
    match x with
    | .c (.bp r k o) => (match σ.mem[r]? with
      | some (.box k' cs0) => k' = k ∧ o + i.size ≤ cs0.length ∧ K { σ with mem := σ.mem.set r (.box k (cs0.take o ++ cs ++ cs0.drop (o + i.size))) }
      | _ => False)
    | .c (.ap r k esz n o) => (match σ.mem[r]?, dats cs with
      | some (.arr k' ety esz' es), some ds => k' = k ∧ esz' = esz ∧ o + i.size ≤ esz ∧ there es[n]? fun e =>
          K { σ with mem := σ.mem.set r (.arr k ety esz (es.set n (e.take o ++ ds ++ e.drop (o + i.size)))) }
      | _, _ => False)
    | _ => False
  | _, _ => False

def aField (σ : St) (s : TypeId) (f : Nat) (x : SVal) (V : SVal → Prop) : Prop :=
  match T s with
  | some ⟨_, _, _, .struct fs, _⟩ => (match fs[f]? with
    | some (off, ft) => (match T ft with
      | some j => j.size ≠ 0 ∧ (match x with
        | .c (.bp r k o) => liveAt σ.mem r k ∧ V (.c (.bp r k (o + off)))
        | .c (.fp e o) => V (.c (.fp e (o + off)))
        | .c (.ap r k esz n o) => liveAt σ.mem r k ∧ V (.c (.ap r k esz n (o + off)))
        | _ => False)
      | none => False)
    | none => False)
  | _ => False

def aIndex (σ : St) (t : TypeId) (x i : SVal) (V : SVal → Prop) : Prop :=
  match i with
  | .c (.d (.lit (.int _ n))) => 0 ≤ n ∧ (match T t with
    | some ⟨_, _, _, .slice e, _⟩ => (match T e with
      | some ei => (match x with
        | .c (.d (.sl es)) => there es[n.toNat]? fun el => el.length = ei.size ∧ V (.c (.fp el 0))
        | .c (.arr r k m) => n < (m : Int) ∧ (match σ.mem[r]? with
          | some (.arr k' _ esz es) => k' = k ∧ esz = ei.size ∧ m ≤ es.length ∧ V (.c (.ap r k esz n.toNat 0))
          | _ => False)
        | _ => False)
      | none => False)
    | some ⟨_, _, _, .array m e, _⟩ => n < (m : Int) ∧ (match T e with
      | some ei => (match x with
        | .c (.bp r k o) => liveAt σ.mem r k ∧ V (.c (.bp r k (o + n.toNat * ei.size)))
        | .c (.fp el o) => V (.c (.fp el (o + n.toNat * ei.size)))
        | _ => False)
      | none => False)
    | _ => False)
  | _ => False

def bnd (d : Nat) : Option SVal → Option Int
  | none => some d
  | some (.c (.d (.lit (.int _ n)))) => some n
  | _ => none

def aSlice (σ : St) (t : TypeId) (x : SVal) (lo hi : Option SVal) (V : SVal → Prop) : Prop :=
  match T t, x with
  | some ⟨_, _, _, .str, _⟩, .c (.d (.lit (.string s))) => (match bnd 0 lo, bnd s.size hi with
    | some l, some h => 0 ≤ l ∧ l ≤ h ∧ h ≤ (s.size : Int) ∧ V (lit (.string (s.extract l.toNat h.toNat)))
    | _, _ => False)
  | some ⟨_, _, _, .slice e, _⟩, .c (.d (.sl es)) => (match T e, bnd 0 lo, bnd es.length hi with
    | some ei, some l, some h => (∀ el, el ∈ es → el.length = ei.size) ∧ 0 ≤ l ∧ l ≤ h ∧ h ≤ (es.length : Int) ∧ V (.c (.d (.sl ((es.take h.toNat).drop l.toNat))))
    | _, _, _ => False)
  | some ⟨_, _, _, .slice e, _⟩, .c .emp => (match T e, bnd 0 lo, bnd 0 hi with
    | some _, some l, some h => l = 0 ∧ h = 0 ∧ V (.c .emp)
    | _, _, _ => False)
  | some ⟨_, _, _, .slice e, _⟩, .c (.arr r k m) => (match T e, bnd 0 lo, bnd m hi, σ.mem[r]? with
    | some _, some l, some h, some (.arr k' _ _ es) => k' = k ∧ m ≤ es.length ∧ l = 0 ∧ 0 ≤ h ∧ h ≤ (m : Int) ∧ V (.c (.arr r k h.toNat))
    | _, _, _, _ => False)
  | _, _ => False

def aLen (σ : St) (t : TypeId) (x : SVal) (V : SVal → Prop) : Prop :=
  match T t, x with
  | some ⟨_, _, _, .slice _, _⟩, .c (.d (.sl es)) => V (int es.length)
  | some ⟨_, _, _, .slice _, _⟩, .c .emp => V (int 0)
  | some ⟨_, _, _, .slice _, _⟩, .c (.arr r k n) => liveAt σ.mem r k ∧ V (int n)
  | some ⟨_, _, _, .str, _⟩, .c (.d (.lit (.string s))) => V (int s.size)
  | some ⟨_, _, _, .array n _, _⟩, _ => V (int n)
  | _, _ => False

def srcOf : SVal → Option (List (List Dat))
  | .c (.d (.sl ys)) => some ys
  | .c .emp => some []
  | _ => none

def aAppend (σ : St) (t : TypeId) (s y : SVal) (dst : Option Tmp) (K : St → Prop) : Prop :=
  match T t with
  | some ⟨_, _, _, .slice e, _⟩ => (match T e, srcOf y with
    | some ei, some ys => 0 < ei.size ∧ ei.zero.length = ei.size ∧ (∀ el, el ∈ ys → el.length = ei.size) ∧ (match s with
      | .c .emp => ys.length ≤ maxLen ∧ ys.length * ei.bytes ≤ 140737488355328 ∧
          K ({ σ with mem := σ.mem ++ [Blk.arr (σ.clock + 1) e ei.size ys], clock := σ.clock + 1 }.putO dst (.c (.arr σ.mem.length (σ.clock + 1) ys.length)))
      | .c (.arr r k n) => (match σ.mem[r]? with
        | some (.arr k' e' esz es) => k' = k ∧ e' = e ∧ esz = ei.size ∧ n ≤ es.length ∧ n + ys.length ≤ maxLen ∧ (n + ys.length) * ei.bytes ≤ 140737488355328 ∧
            K ({ σ with mem := σ.mem.set r (.arr (σ.clock + 1) e ei.size (es.take n ++ ys)), clock := σ.clock + 1 }.putO dst (.c (.arr r (σ.clock + 1) (n + ys.length))))
        | _ => False)
      | _ => False)
    | _, _ => False)
  | _ => False

def aMake (σ : St) (t : TypeId) (l c : SVal) (dst : Option Tmp) (K : St → Prop) : Prop :=
  match T t, l, c with
  | some ⟨_, _, _, .slice e, _⟩, .c (.d (.lit (.int _ n))), .c (.d (.lit (.int _ m))) => (match T e with
    | some ei => (match dats (ei.zero.map valCell) with
      | some z => 0 < ei.size ∧ ei.zero.length = ei.size ∧ 0 ≤ n ∧ n ≤ m ∧ m ≤ 9223372036854775807 ∧ (ei.bytes : Int) * m ≤ 281474976710656 ∧
        K ({ σ with mem := σ.mem ++ [Blk.arr (σ.clock + 1) e ei.size (List.replicate n.toNat z)], clock := σ.clock + 1 }.putO dst (.c (.arr σ.mem.length (σ.clock + 1) n.toNat)))
      | none => False)
    | none => False)
  | _, _, _ => False

/-- The parts of a slice's literal: every place, in order. -/
def partsOf (σ : St) (size : Nat) : List (Nat × Operand) → Nat → Option (List (List Dat))
  | [], _ => some []
  | (i, x) :: rest, k => if i = k then (match (σ.ev x).cells with
      | some cs => (match dats cs, partsOf σ size rest (k + 1) with
        | some ds, some r => if ds.length = size then some (ds :: r) else none
        | _, _ => none)
      | none => none) else none

def aBuildSlice (σ : St) (t : TypeId) (len : Nat) (parts : List (Nat × Operand)) (V : SVal → Prop) : Prop :=
  match T t with
  | some ⟨_, _, _, .slice e, _⟩ => (match T e with
    | some ei => (match len with
      | 0 => parts = [] ∧ V (.c .emp)
      | n + 1 => 0 < ei.size ∧ ei.zero.length = ei.size ∧ (n + 1) * ei.size ≤ 16777216 ∧ parts.length = n + 1 ∧ (match partsOf σ ei.size parts 0 with
        | some es => V (.c (.d (.sl es)))
        | none => False))
    | none => False)
  | _ => False

def fillC (σ : St) (fs : List (Nat × TypeId)) : List (Nat × Operand) → List Cell → Option (List Cell)
  | [], cs => some cs
  | (i, x) :: rest, cs => match fs[i]?, (σ.ev x).cells with
    | some (off, ft), some ns => (match T ft with
      | some j => if ns.length = j.size ∧ off + ns.length ≤ cs.length then fillC σ fs rest (cs.take off ++ ns ++ cs.drop (off + ns.length)) else none
      | none => none)
    | _, _ => none

def aBuild (σ : St) (t : TypeId) (parts : List (Nat × Operand)) (V : SVal → Prop) : Prop :=
  match T t with
  | some ⟨_, _, zero, .struct fs, _⟩ => fs.all (fun p => (T p.2).isSome) = true ∧ (match fillC T σ fs parts (zero.map valCell) with
    | some cs => V (.agg cs)
    | none => False)
  | _ => False

def andInt (k : IntKind) (a b : Int) : Int := k.wrap (BitVec.ofInt k.bits a &&& BitVec.ofInt k.bits b).toNat

def aInt (op : BinOp) (k : IntKind) (a b : Int) (V : SVal → Prop) : Prop :=
  match op with
  | .add => V (lit (.int k (k.wrap (a + b))))
  | .sub => V (lit (.int k (k.wrap (a - b))))
  | .mul => V (lit (.int k (k.wrap (a * b))))
  | .quo => b ≠ 0 ∧ V (lit (.int k (k.wrap (a.tdiv b))))
  | .rem => b ≠ 0 ∧ V (lit (.int k (a.tmod b)))
  | .and => V (lit (.int k (andInt k a b)))
  | .eql => V (boo (a == b))
  | .neq => V (boo (a != b))
  | .lss => V (boo (decide (a < b)))
  | .leq => V (boo (decide (a ≤ b)))
  | .gtr => V (boo (decide (a > b)))
  | .geq => V (boo (decide (a ≥ b)))
  | _ => False

def aStr (op : BinOp) (a b : ByteArray) (V : SVal → Prop) : Prop :=
  match op with
  | .add => a.size + b.size ≤ maxLen ∧ V (lit (.string (a ++ b)))
  | .eql => V (boo (a.toList == b.toList))
  | .neq => V (boo !(a.toList == b.toList))
  | .lss => V (boo (Op.bytesLess a.toList b.toList))
  | .leq => V (boo (Op.bytesLess a.toList b.toList || a.toList == b.toList))
  | .gtr => V (boo !(Op.bytesLess a.toList b.toList || a.toList == b.toList))
  | .geq => V (boo !(Op.bytesLess a.toList b.toList))
  | _ => False

def litsOf : List Cell → Option (List Value)
  | [] => some []
  | .d (.lit v) :: cs => (match litsOf cs with
    | some vs => some (v :: vs)
    | none => none)
  | _ => none

def aBin (op : BinOp) (t : TypeId) (x y : SVal) (V : SVal → Prop) : Prop :=
  match x, y with
  | .c (.d (.lit (.int k a))), .c (.d (.lit (.int k' b))) => k = k' ∧ aInt op k a b V
  | .c (.d (.lit (.string a))), .c (.d (.lit (.string b))) => aStr op a b V
  | .c (.d (.lit (.bool a))), .c (.d (.lit (.bool b))) => (match T t with
    | some ⟨_, _, _, .bool, _⟩ => (match op with
      | .eql => V (boo (a == b))
      | .neq => V (boo (!(a == b)))
      | _ => False)
    | _ => False)
  | .agg xs, .agg ys => (match T t, litsOf xs, litsOf ys with
    | some i, some us, some vs => i.eqs = true ∧ alikes i.zero us ∧ alikes i.zero vs ∧ (match op with
      | .eql => V (boo (litsEq us vs))
      | .neq => V (boo (!(litsEq us vs)))
      | _ => False)
    | _, _, _ => False)
  | _, _ => False

def aUn (op : UnOp) (x : SVal) (V : SVal → Prop) : Prop :=
  match op, x with
  | .not, .c (.d (.lit (.bool b))) => V (boo !b)
  | .neg, .c (.d (.lit (.int k n))) => V (lit (.int k (k.wrap (0 - n))))
  | _, _ => False

def aConv (src dst : TypeId) (x : SVal) (V : SVal → Prop) : Prop :=
  match T src, T dst, x with
  | some _, some ⟨_, _, _, .int k, _⟩, .c (.d (.lit (.int _ n))) => V (lit (.int k (k.wrap n)))
  | _, _, _ => False

def capsOf (σ : St) : List Operand → Option (List Cell)
  | [] => some []
  | x :: xs => match σ.ev x, capsOf σ xs with
    | .c c, some cs => some (c :: cs)
    | _, _ => none

def aFunc (σ : St) (fn : Fn) (first captured : List Operand) (V : SVal → Prop) : Prop :=
  match fn, first, captured with
  | .func f, [], [] => V (lit (.func (.func f) #[] #[]))
  | .func f, [], caps => (match capsOf σ caps with
    | some cs => (match dats cs with
      | some ds => V (.c (.d (.clo f ds)))
      | none => V (.c (.clo f cs)))
    | none => False)
  | _, _, _ => False

/-- Which function a value calls, and with what behind the arguments. -/
def calleeOf : SVal → Option (FuncId × List Cell)
  | .c (.d (.lit (.func (.func f) first caps))) => if first.size = 0 ∧ caps.size = 0 then some (f, []) else none
  | .c (.d (.clo f ds)) => some (f, ds.map .d)
  | .c (.clo f cs) => some (f, cs)
  | _ => none

def aCall (σ : St) (c : Call) (dst : Option Tmp) (K : St → Prop) : Prop :=
  match c.callee with
  | .value f => (match calleeOf (σ.ev f) with
    | some (g, caps) => MCall P F0 w0 g (c.args.toList.map σ.ev ++ caps.map .c) σ.mem σ.clock fun r mem' clock' => K ({ σ with mem := mem', clock := clock' }.putO dst r)
    | none => False)
  | .builtin .len => (match c.args.toList, c.argTypes.toList with
    | [x], [t] => aLen T σ t (σ.ev x) fun v => K (σ.putO dst v)
    | _, _ => False)
  | .builtin .append => (match c.args.toList, c.argTypes.toList with
    | [s, y], [t, t'] => t' = t ∧ aAppend T σ t (σ.ev s) (σ.ev y) dst K
    | _, _ => False)
  | .builtin .min => (match c.args.toList with
    | [x, y] => (match σ.ev x, σ.ev y with
      | .c (.d (.lit (.int k a))), .c (.d (.lit (.int k' b))) => k = k' ∧ K (σ.putO dst (lit (.int k (if b < a then b else a))))
      | _, _ => False)
    | _ => False)
  | .builtin .max => (match c.args.toList with
    | [x, y] => (match σ.ev x, σ.ev y with
      | .c (.d (.lit (.int k a))), .c (.d (.lit (.int k' b))) => k = k' ∧ K (σ.putO dst (lit (.int k (if a < b then b else a))))
      | _, _ => False)
    | _ => False)
  | _ => False

def astep (o : Oper) (σ : St) (K : St → Prop) : Prop :=
  match o.op with
  | .move x => K (σ.putO o.dst (σ.ev x))
  | .assign x => K (σ.putO o.dst (σ.ev x))
  | .pick c a b => (match σ.ev c with
    | .c (.d (.lit (.bool t))) => whenB t true (K (σ.putO o.dst (σ.ev a))) (K (σ.putO o.dst (σ.ev b)))
    | _ => False)
  | .alloc t => (match T t with
    | some i => K ({ σ with mem := σ.mem ++ [Blk.box (σ.clock + 1) (i.zero.map valCell)], clock := σ.clock + 1 }.putO o.dst (.c (.bp σ.mem.length (σ.clock + 1) 0)))
    | none => False)
  | .box _ x => (match (σ.ev x).cells with
    | some cs => K ({ σ with mem := σ.mem ++ [Blk.box (σ.clock + 1) cs], clock := σ.clock + 1 }.putO o.dst (.c (.bp σ.mem.length (σ.clock + 1) 0)))
    | none => False)
  | .load t x => aLoad T σ t (σ.ev x) fun v => K (σ.putO o.dst v)
  | .store t x v => aStore T σ t (σ.ev x) (σ.ev v) fun σ' => K (σ'.putO o.dst .junk)
  | .fieldAddr s x f => aField T σ s f (σ.ev x) fun v => K (σ.putO o.dst v)
  | .indexAddr t x i => aIndex T σ t (σ.ev x) (σ.ev i) fun v => K (σ.putO o.dst v)
  | .slice t x lo hi mx => mx.isNone = true ∧ aSlice T σ t (σ.ev x) (lo.map σ.ev) (hi.map σ.ev) fun v => K (σ.putO o.dst v)
  | .binOp op t x y _ => aBin T op t (σ.ev x) (σ.ev y) fun v => K (σ.putO o.dst v)
  | .unOp op _ x => aUn op (σ.ev x) fun v => K (σ.putO o.dst v)
  | .convert s d x => aConv T s d (σ.ev x) fun v => K (σ.putO o.dst v)
  | .build t parts => aBuild T σ t parts.toList fun v => K (σ.putO o.dst v)
  | .buildSlice t len parts => aBuildSlice T σ t len parts.toList fun v => K (σ.putO o.dst v)
  | .makeSlice t l c => aMake T σ t (σ.ev l) (σ.ev c) o.dst K
  | .makeFunc fn first captured => aFunc σ fn first.toList captured.toList fun v => K (σ.putO o.dst v)
  | .extract x i => (match σ.ev x with
    | .tup xs => (match xs[i]? with
      | some v => K (σ.putO o.dst v)
      | none => False)
    | _ => False)
  | .call c => aCall P T F0 w0 σ c o.dst K
  | .defer c => (match c.callee, c.args.toList with
    | .value f, [] => (match calleeOf (σ.ev f) with
      | some (g, caps) => K ({ σ with defers := (g, caps) :: σ.defers }.putO o.dst .junk)
      | none => False)
    | _, _ => False)
  | _ => False
end
end Go.Abs
