/-
  The rules of the walk: one for each kind of operation.
-/
import Derived.Test.YtlacmjfgaehhkaaEngB
namespace Go.Abs
open Go.RowKit

def evS (sl : List (Nat × SVal)) : Operand → SVal
  | .tmp t => look sl t
  | .const v => constVal v
  | .global _ => .junk
  | .func f => .c (.d (.lit (.func (.func f) #[] #[])))

theorem evS_eq {n : Nat} {sl : List (Nat × SVal)} {mem : List Blk} {ck : Nat} {df : List (FuncId × List Cell)} : (St.mk n sl mem ck df).ev = evS sl := by
  funext x; cases x <;> rfl

/-- The guard of an operation lets it by. -/
def GW (ops : List Oper) (g : Option (Nat × Bool)) (sl : List (Nat × SVal)) : Prop :=
  match g with
  | none => True
  | some (j, want) => (match (ops[j]?).bind (·.dst) with
    | some d => look sl d = boo want
    | none => False)

theorem GW.out {ops : List Oper} {o : Oper} {sl : List (Nat × SVal)} (h : GW ops o.guard sl) : ∃ g, guardOf ops o = some g ∧ ∀ n mem ck df, Wants g ⟨n, sl, mem, ck, df⟩ := by
  unfold GW at h
  unfold guardOf
  split at h
  · rename_i e; rw [e]; exact ⟨none, rfl, fun _ _ _ _ => trivial⟩
  · rename_i j want e
    rw [e]
    simp only
    split at h
    · rename_i d hj
      rw [hj]
      exact ⟨_, rfl, fun _ _ _ _ => h⟩
    · exact h.elim

theorem nfNil {α : Type} {l : List α} (h : l = []) : l = [] := h
theorem nfCons {α : Type} {l : List α} {a : α} {t t' : List α} (h : l = a :: t) (h' : t = t') : l = a :: t' := by rw [h, h']

section
variable {P : Program} {T : TypeId → Option TI} {F0 : Nat → Prop} {w0 : World} {dr : Bool} {ops rest : List Oper} {K : St → Prop} {n : Nat} {sl : List (Nat × SVal)} {mem : List Blk} {ck : Nat} {df : List (FuncId × List Cell)} {acc : List Nat}
variable {d : Tmp} {op : Op} {ty : TypeId} {pos : String} {aft : Array Edge} {g : Option (Nat × Bool)}

theorem at0 {v : SVal} (hw : GW ops g sl) (hd : ∀ m c, Does P F0 w0 ⟨some d, op, ty, pos, aft, g⟩ (evS sl) m c (Only v m c [])) (h : Reg P F0 w0 dr ops K rest ⟨n, (d, v) :: sl, mem, ck, df⟩ (0 :: acc)) :
    Reg P F0 w0 dr ops K (⟨some d, op, ty, pos, aft, g⟩ :: rest) ⟨n, sl, mem, ck, df⟩ acc := by
  obtain ⟨g', h1, h2⟩ := GW.out (o := ⟨some d, op, ty, pos, aft, g⟩) hw
  exact .step 0 v mem ck [] h1 (h2 _ _ _ _) (.inr ⟨rfl, rfl, rfl⟩) (by rw [evS_eq]; exact hd mem ck) (fun _ m c => by rw [evS_eq]; exact hd m c) h

theorem at1 {v : SVal} (hw : GW ops g sl) (hd : Does P F0 w0 ⟨some d, op, ty, pos, aft, g⟩ (evS sl) mem ck (Only v mem ck [])) (h : Reg P F0 w0 dr ops K rest ⟨n, (d, v) :: sl, mem, ck, df⟩ (1 :: acc)) :
    Reg P F0 w0 dr ops K (⟨some d, op, ty, pos, aft, g⟩ :: rest) ⟨n, sl, mem, ck, df⟩ acc := by
  obtain ⟨g', h1, h2⟩ := GW.out (o := ⟨some d, op, ty, pos, aft, g⟩) hw
  exact .step 1 v mem ck [] h1 (h2 _ _ _ _) (.inr ⟨rfl, rfl, rfl⟩) (by rw [evS_eq]; exact hd) (fun q => by cases q) h

theorem at2 {v : SVal} {m : List Blk} {c : Nat} {df' : List (FuncId × List Cell)} (hw : GW ops g sl) (hd : Does P F0 w0 ⟨some d, op, ty, pos, aft, g⟩ (evS sl) mem ck (Only v m c df')) (h : Reg P F0 w0 dr ops K rest ⟨n, (d, v) :: sl, m, c, df' ++ df⟩ (2 :: acc)) :
    Reg P F0 w0 dr ops K (⟨some d, op, ty, pos, aft, g⟩ :: rest) ⟨n, sl, mem, ck, df⟩ acc := by
  obtain ⟨g', h1, h2⟩ := GW.out (o := ⟨some d, op, ty, pos, aft, g⟩) hw
  exact .step 2 v m c df' h1 (h2 _ _ _ _) (.inl rfl) (by rw [evS_eq]; exact hd) (fun q => by cases q) h

theorem at2n {v : SVal} {m : List Blk} {c : Nat} {df' : List (FuncId × List Cell)} (hw : GW ops g sl) (hd : Does P F0 w0 ⟨none, op, ty, pos, aft, g⟩ (evS sl) mem ck (Only v m c df')) (h : Reg P F0 w0 dr ops K rest ⟨n, sl, m, c, df' ++ df⟩ (2 :: acc)) :
    Reg P F0 w0 dr ops K (⟨none, op, ty, pos, aft, g⟩ :: rest) ⟨n, sl, mem, ck, df⟩ acc := by
  obtain ⟨g', h1, h2⟩ := GW.out (o := ⟨none, op, ty, pos, aft, g⟩) hw
  exact .step 2 v m c df' h1 (h2 _ _ _ _) (.inl rfl) (by rw [evS_eq]; exact hd) (fun q => by cases q) h

theorem at2r {R : SVal → List Blk → Nat → List (FuncId × List Cell) → Prop} (hdr : dr = false) (hw : GW ops g sl) (hd : Does P F0 w0 ⟨some d, op, ty, pos, aft, g⟩ (evS sl) mem ck R) (h : ∀ v m c df', R v m c df' → Reg P F0 w0 dr ops K rest ⟨n, (d, v) :: sl, m, c, df' ++ df⟩ (2 :: acc)) :
    Reg P F0 w0 dr ops K (⟨some d, op, ty, pos, aft, g⟩ :: rest) ⟨n, sl, mem, ck, df⟩ acc := by
  obtain ⟨g', h1, h2⟩ := GW.out (o := ⟨some d, op, ty, pos, aft, g⟩) hw
  exact .rel R hdr h1 (h2 _ _ _ _) (by rw [evS_eq]; exact hd) h

theorem at2nr {R : SVal → List Blk → Nat → List (FuncId × List Cell) → Prop} (hdr : dr = false) (hw : GW ops g sl) (hd : Does P F0 w0 ⟨none, op, ty, pos, aft, g⟩ (evS sl) mem ck R) (h : ∀ v m c df', R v m c df' → Reg P F0 w0 dr ops K rest ⟨n, sl, m, c, df' ++ df⟩ (2 :: acc)) :
    Reg P F0 w0 dr ops K (⟨none, op, ty, pos, aft, g⟩ :: rest) ⟨n, sl, mem, ck, df⟩ acc := by
  obtain ⟨g', h1, h2⟩ := GW.out (o := ⟨none, op, ty, pos, aft, g⟩) hw
  exact .rel R hdr h1 (h2 _ _ _ _) (by rw [evS_eq]; exact hd) h

/- The end of a region. -/
theorem r_end (h : K ⟨n, sl, mem, ck, df⟩) : Reg P F0 w0 false ops K [] ⟨n, sl, mem, ck, df⟩ acc := .nil (.inl rfl) h
theorem r_endD (hd : drawOkK ops acc.reverse = true) (h : K ⟨n, sl, mem, ck, df⟩) : Reg P F0 w0 true ops K [] ⟨n, sl, mem, ck, df⟩ acc := .nil (.inr hd) h

/- Guards. -/
theorem r_skip {dst : Option Tmp} {j : Nat} {want b : Bool} {dg : Tmp} (hj : (ops[j]?).bind (·.dst) = some dg) (hb : look sl dg = boo b) (hbw : b = !want) (h : Reg P F0 w0 dr ops K rest (upd ⟨n, sl, mem, ck, df⟩ dst .und mem ck []) (0 :: acc)) :
    Reg P F0 w0 dr ops K (⟨dst, op, ty, pos, aft, some (j, want)⟩ :: rest) ⟨n, sl, mem, ck, df⟩ acc :=
  .skip (d := dg) (want := want) (by simp [guardOf, hj]) (.inl (by subst hbw; exact hb)) h
theorem r_skipS {j : Nat} {want : Bool} {dg : Tmp} (hj : (ops[j]?).bind (·.dst) = some dg) (hb : look sl dg = boo !want) (h : Reg P F0 w0 dr ops K rest ⟨n, (d, .und) :: sl, mem, ck, df⟩ (0 :: acc)) :
    Reg P F0 w0 dr ops K (⟨some d, op, ty, pos, aft, some (j, want)⟩ :: rest) ⟨n, sl, mem, ck, df⟩ acc := r_skip hj hb rfl h
theorem r_skipN {j : Nat} {want : Bool} {dg : Tmp} (hj : (ops[j]?).bind (·.dst) = some dg) (hb : look sl dg = boo !want) (h : Reg P F0 w0 dr ops K rest ⟨n, sl, mem, ck, df⟩ (0 :: acc)) :
    Reg P F0 w0 dr ops K (⟨none, op, ty, pos, aft, some (j, want)⟩ :: rest) ⟨n, sl, mem, ck, df⟩ acc := r_skip hj hb rfl h
theorem r_skipU {j : Nat} {want : Bool} {dg : Tmp} (hj : (ops[j]?).bind (·.dst) = some dg) (hb : look sl dg = .und) (h : Reg P F0 w0 dr ops K rest ⟨n, (d, .und) :: sl, mem, ck, df⟩ (0 :: acc)) :
    Reg P F0 w0 dr ops K (⟨some d, op, ty, pos, aft, some (j, want)⟩ :: rest) ⟨n, sl, mem, ck, df⟩ acc :=
  .skip (d := dg) (want := want) (by simp [guardOf, hj]) (.inr hb) h
theorem r_skipUN {j : Nat} {want : Bool} {dg : Tmp} (hj : (ops[j]?).bind (·.dst) = some dg) (hb : look sl dg = .und) (h : Reg P F0 w0 dr ops K rest ⟨n, sl, mem, ck, df⟩ (0 :: acc)) :
    Reg P F0 w0 dr ops K (⟨none, op, ty, pos, aft, some (j, want)⟩ :: rest) ⟨n, sl, mem, ck, df⟩ acc :=
  .skip (d := dg) (want := want) (by simp [guardOf, hj]) (.inr hb) h

theorem same_know {dg : Tmp} {b : Bool} (hb : look sl dg = boo b) : Same ⟨n, sl, mem, ck, df⟩ ⟨n, (dg, boo b) :: sl, mem, ck, df⟩ := by
  refine ⟨rfl, fun t => ?_, rfl, rfl, rfl⟩
  simp only [St.get, look_put]
  by_cases h : dg = t
  · subst h; rw [if_pos rfl, hb]
  · rw [if_neg h]

/-- What is known of a guard's bit. -/
theorem r_know {dst : Option Tmp} {j : Nat} {want b : Bool} {dg : Tmp} (c : Bool) (hj : (ops[j]?).bind (·.dst) = some dg) (hb : look sl dg = boo b) (hc : b = c) (h : Reg P F0 w0 dr ops K (⟨dst, op, ty, pos, aft, some (j, want)⟩ :: rest) ⟨n, (dg, boo c) :: sl, mem, ck, df⟩ acc) :
    Reg P F0 w0 dr ops K (⟨dst, op, ty, pos, aft, some (j, want)⟩ :: rest) ⟨n, sl, mem, ck, df⟩ acc := by
  subst hc
  exact .alike (same_know hb) h

theorem r_split {dst : Option Tmp} {j : Nat} {want b : Bool} {dg : Tmp} (hj : (ops[j]?).bind (·.dst) = some dg) (hb : look sl dg = boo b)
    (h1 : b = true → Reg P F0 w0 dr ops K (⟨dst, op, ty, pos, aft, some (j, want)⟩ :: rest) ⟨n, (dg, boo true) :: sl, mem, ck, df⟩ acc)
    (h2 : b = false → Reg P F0 w0 dr ops K (⟨dst, op, ty, pos, aft, some (j, want)⟩ :: rest) ⟨n, (dg, boo false) :: sl, mem, ck, df⟩ acc) :
    Reg P F0 w0 dr ops K (⟨dst, op, ty, pos, aft, some (j, want)⟩ :: rest) ⟨n, sl, mem, ck, df⟩ acc := by
  cases hc : b with
  | true => exact .alike (same_know hb) (by subst hc; exact h1 rfl)
  | false => exact .alike (same_know hb) (by subst hc; exact h2 rfl)

/- Values. -/
theorem r_move (hT : TypesOk P T) {x : Operand} {v : SVal} (hw : GW ops g sl) (hx : evS sl x = v) (h : Reg P F0 w0 dr ops K rest ⟨n, (d, v) :: sl, mem, ck, df⟩ (0 :: acc)) :
    Reg P F0 w0 dr ops K (⟨some d, .move x, ty, pos, aft, g⟩ :: rest) ⟨n, sl, mem, ck, df⟩ acc :=
  at0 hw (fun m c => Does.of hT fun τ he hm hc Kk hK => by
    subst hm; subst hc
    have ex := he x (by simp [Op.operands])
    rw [hx] at ex
    simp only [astep, ex]
    exact hK _ _ _ _ ⟨rfl, rfl, rfl, rfl⟩) h

theorem r_assign (hT : TypesOk P T) {x : Operand} {v : SVal} (hw : GW ops g sl) (hx : evS sl x = v) (h : Reg P F0 w0 dr ops K rest ⟨n, (d, v) :: sl, mem, ck, df⟩ (0 :: acc)) :
    Reg P F0 w0 dr ops K (⟨some d, .assign x, ty, pos, aft, g⟩ :: rest) ⟨n, sl, mem, ck, df⟩ acc :=
  at0 hw (fun m c => Does.of hT fun τ he hm hc Kk hK => by
    subst hm; subst hc
    have ex := he x (by simp [Op.operands])
    rw [hx] at ex
    simp only [astep, ex]
    exact hK _ _ _ _ ⟨rfl, rfl, rfl, rfl⟩) h

theorem r_pick (hT : TypesOk P T) {cc x y : Operand} {b : Bool} {v : SVal} (hw : GW ops g sl) (hc : evS sl cc = boo b) (hv : (match b with | true => evS sl x | false => evS sl y) = v) (h : Reg P F0 w0 dr ops K rest ⟨n, (d, v) :: sl, mem, ck, df⟩ (0 :: acc)) :
    Reg P F0 w0 dr ops K (⟨some d, .pick cc x y, ty, pos, aft, g⟩ :: rest) ⟨n, sl, mem, ck, df⟩ acc :=
  at0 hw (fun m c => Does.of hT fun τ he hm hcl Kk hK => by
    subst hm; subst hcl
    have ec := he cc (by simp [Op.operands])
    have ex := he x (by simp [Op.operands])
    have ey := he y (by simp [Op.operands])
    rw [hc] at ec
    simp only [astep, ec, boo, lit]
    cases b with
    | true => simp only at hv; rw [hv] at ex; rw [when_tt, ex]; exact hK _ _ _ _ ⟨rfl, rfl, rfl, rfl⟩
    | false => simp only at hv; rw [hv] at ey; rw [when_ft, ey]; exact hK _ _ _ _ ⟨rfl, rfl, rfl, rfl⟩) h

/-- A choice between two bits. -/
theorem r_pickB (hT : TypesOk P T) {cc x y : Operand} {b p q : Bool} (hw : GW ops g sl) (hc : evS sl cc = boo b) (hx : evS sl x = boo p) (hy : evS sl y = boo q) (h : Reg P F0 w0 dr ops K rest ⟨n, (d, boo (bif b then p else q)) :: sl, mem, ck, df⟩ (0 :: acc)) :
    Reg P F0 w0 dr ops K (⟨some d, .pick cc x y, ty, pos, aft, g⟩ :: rest) ⟨n, sl, mem, ck, df⟩ acc := r_pick hT hw hc (by cases b <;> simp [hx, hy]) h

theorem r_alloc (hT : TypesOk P T) {t : TypeId} {i : TI} {r : Nat} {cs : List Cell} {mem' : List Blk} (hw : GW ops g sl) (ht : T t = some i) (hr : mem.length = r) (hcs : i.zero.map valCell = cs) (hm' : mem ++ [Blk.box (ck + 1) cs] = mem')
    (h : Reg P F0 w0 dr ops K rest ⟨n, (d, .c (.bp r (ck + 1) 0)) :: sl, mem', ck + 1, df⟩ (2 :: acc)) : Reg P F0 w0 dr ops K (⟨some d, .alloc t, ty, pos, aft, g⟩ :: rest) ⟨n, sl, mem, ck, df⟩ acc :=
  at2 (df' := []) hw (Does.of hT fun τ he hm hc Kk hK => by
    subst hm; subst hc; subst hr; subst hcs; subst hm'
    simp only [astep, ht]
    exact hK _ _ _ _ ⟨rfl, rfl, rfl, rfl⟩) h

theorem r_box (hT : TypesOk P T) {t : TypeId} {x : Operand} {r : Nat} {v : SVal} {cs : List Cell} {mem' : List Blk} (hw : GW ops g sl) (hx : evS sl x = v) (hc : v.cells = some cs) (hr : mem.length = r) (hm' : mem ++ [Blk.box (ck + 1) cs] = mem')
    (h : Reg P F0 w0 dr ops K rest ⟨n, (d, .c (.bp r (ck + 1) 0)) :: sl, mem', ck + 1, df⟩ (2 :: acc)) : Reg P F0 w0 dr ops K (⟨some d, .box t x, ty, pos, aft, g⟩ :: rest) ⟨n, sl, mem, ck, df⟩ acc :=
  at2 (df' := []) hw (Does.of hT fun τ he hm hck Kk hK => by
    subst hm; subst hck; subst hr; subst hm'
    have ex := he x (by simp [Op.operands])
    rw [hx] at ex
    simp only [astep, ex, hc]
    exact hK _ _ _ _ ⟨rfl, rfl, rfl, rfl⟩) h

theorem r_loadF1 (hT : TypesOk P T) {t : TypeId} {x : Operand} {i : TI} {e : List Dat} {o : Nat} {y : Dat} (hw : GW ops g sl) (hx : evS sl x = .c (.fp e o)) (ht : T t = some i) (ha : i.desc.agg = false) (hs : i.size = 1) (hy : e[o]? = some y)
    (h : Reg P F0 w0 dr ops K rest ⟨n, (d, .c (.d y)) :: sl, mem, ck, df⟩ (0 :: acc)) : Reg P F0 w0 dr ops K (⟨some d, .load t x, ty, pos, aft, g⟩ :: rest) ⟨n, sl, mem, ck, df⟩ acc :=
  at0 hw (fun m c => Does.of hT fun τ he hm hc Kk hK => by
    subst hm; subst hc
    have ex := he x (by simp [Op.operands])
    rw [hx] at ex
    have hlt := lt_of_getElem? hy
    have e1 : (e.drop o).take 1 = [y] := by
      rw [List.drop_eq_getElem_cons hlt]
      rw [List.getElem?_eq_getElem hlt] at hy
      simp at hy
      simp [hy]
    simp only [astep, aLoad, ht, ex, ha, hs]
    refine ⟨.inr trivial, hlt, ?_⟩
    rw [e1]
    exact hK _ _ _ _ ⟨rfl, rfl, rfl, rfl⟩) h

theorem r_loadFA (hT : TypesOk P T) {t : TypeId} {x : Operand} {i : TI} {e : List Dat} {o : Nat} {cs : List Cell} (hw : GW ops g sl) (hx : evS sl x = .c (.fp e o)) (ht : T t = some i) (ha : i.desc.agg = true) (hs : decide (o + i.size ≤ e.length) = true) (hcs : ((e.drop o).take i.size).map Cell.d = cs)
    (h : Reg P F0 w0 dr ops K rest ⟨n, (d, .agg cs) :: sl, mem, ck, df⟩ (0 :: acc)) : Reg P F0 w0 dr ops K (⟨some d, .load t x, ty, pos, aft, g⟩ :: rest) ⟨n, sl, mem, ck, df⟩ acc :=
  at0 hw (fun m c => Does.of hT fun τ he hm hc Kk hK => by
    subst hm; subst hc; subst hcs
    have ex := he x (by simp [Op.operands])
    rw [hx] at ex
    simp only [astep, aLoad, ht, ex, ha]
    refine ⟨.inl trivial, by simpa using hs, ?_⟩
    exact hK _ _ _ _ ⟨rfl, rfl, rfl, rfl⟩) h

theorem r_loadB1 (hT : TypesOk P T) {t : TypeId} {x : Operand} {i : TI} {r k o : Nat} {cs : List Cell} {y : Cell} (hw : GW ops g sl) (hx : evS sl x = .c (.bp r k o)) (ht : T t = some i) (ha : i.desc.agg = false) (hs : i.size = 1) (hm : mem[r]? = some (.box k cs)) (hy : cs[o]? = some y)
    (h : Reg P F0 w0 dr ops K rest ⟨n, (d, .c y) :: sl, mem, ck, df⟩ (1 :: acc)) : Reg P F0 w0 dr ops K (⟨some d, .load t x, ty, pos, aft, g⟩ :: rest) ⟨n, sl, mem, ck, df⟩ acc :=
  at1 hw (Does.of hT fun τ he hmm hc Kk hK => by
    subst hmm; subst hc
    have ex := he x (by simp [Op.operands])
    rw [hx] at ex
    have hlt := lt_of_getElem? hy
    have e1 : (cs.drop o).take 1 = [y] := by
      rw [List.drop_eq_getElem_cons hlt]
      rw [List.getElem?_eq_getElem hlt] at hy
      simp at hy
      simp [hy]
    simp only [astep, aLoad, ht, ex, ha, hs, hm]
    refine ⟨.inr trivial, trivial, hlt, ?_⟩
    rw [e1]
    exact hK _ _ _ _ ⟨rfl, rfl, rfl, rfl⟩) h

theorem r_loadBA (hT : TypesOk P T) {t : TypeId} {x : Operand} {i : TI} {r k o : Nat} {cs cs' : List Cell} (hw : GW ops g sl) (hx : evS sl x = .c (.bp r k o)) (ht : T t = some i) (ha : i.desc.agg = true) (hm : mem[r]? = some (.box k cs)) (hs : decide (o + i.size ≤ cs.length) = true) (hcs : (cs.drop o).take i.size = cs')
    (h : Reg P F0 w0 dr ops K rest ⟨n, (d, .agg cs') :: sl, mem, ck, df⟩ (1 :: acc)) : Reg P F0 w0 dr ops K (⟨some d, .load t x, ty, pos, aft, g⟩ :: rest) ⟨n, sl, mem, ck, df⟩ acc :=
  at1 hw (Does.of hT fun τ he hmm hc Kk hK => by
    subst hmm; subst hc; subst hcs
    have ex := he x (by simp [Op.operands])
    rw [hx] at ex
    simp only [astep, aLoad, ht, ex, ha, hm]
    refine ⟨.inl trivial, trivial, by simpa using hs, ?_⟩
    exact hK _ _ _ _ ⟨rfl, rfl, rfl, rfl⟩) h

theorem r_loadA1 (hT : TypesOk P T) {t : TypeId} {x : Operand} {i : TI} {r k esz j o : Nat} {ety : TypeId} {es : List (List Dat)} {e : List Dat} {y : Dat} (hw : GW ops g sl) (hx : evS sl x = .c (.ap r k esz j o)) (ht : T t = some i) (ha : i.desc.agg = false) (hs : i.size = 1) (hm : mem[r]? = some (.arr k ety esz es)) (he' : es[j]? = some e) (hy : e[o]? = some y)
    (h : Reg P F0 w0 dr ops K rest ⟨n, (d, .c (.d y)) :: sl, mem, ck, df⟩ (1 :: acc)) : Reg P F0 w0 dr ops K (⟨some d, .load t x, ty, pos, aft, g⟩ :: rest) ⟨n, sl, mem, ck, df⟩ acc :=
  at1 hw (Does.of hT fun τ he hmm hc Kk hK => by
    subst hmm; subst hc
    have ex := he x (by simp [Op.operands])
    rw [hx] at ex
    have hlt := lt_of_getElem? hy
    have e1 : (e.drop o).take 1 = [y] := by
      rw [List.drop_eq_getElem_cons hlt]
      rw [List.getElem?_eq_getElem hlt] at hy
      simp at hy
      simp [hy]
    simp only [astep, aLoad, ht, ex, ha, hs, hm]
    refine ⟨.inr trivial, trivial, trivial, there_intro he' ⟨hlt, ?_⟩⟩
    rw [e1]
    exact hK _ _ _ _ ⟨rfl, rfl, rfl, rfl⟩) h

theorem r_loadAA (hT : TypesOk P T) {t : TypeId} {x : Operand} {i : TI} {r k esz j o : Nat} {ety : TypeId} {es : List (List Dat)} {e : List Dat} {cs : List Cell} (hw : GW ops g sl) (hx : evS sl x = .c (.ap r k esz j o)) (ht : T t = some i) (ha : i.desc.agg = true) (hm : mem[r]? = some (.arr k ety esz es)) (he' : es[j]? = some e) (hs : decide (o + i.size ≤ e.length) = true) (hcs : ((e.drop o).take i.size).map Cell.d = cs)
    (h : Reg P F0 w0 dr ops K rest ⟨n, (d, .agg cs) :: sl, mem, ck, df⟩ (1 :: acc)) : Reg P F0 w0 dr ops K (⟨some d, .load t x, ty, pos, aft, g⟩ :: rest) ⟨n, sl, mem, ck, df⟩ acc :=
  at1 hw (Does.of hT fun τ he hmm hc Kk hK => by
    subst hmm; subst hc; subst hcs
    have ex := he x (by simp [Op.operands])
    rw [hx] at ex
    simp only [astep, aLoad, ht, ex, ha, hm]
    refine ⟨.inl trivial, trivial, trivial, there_intro he' ⟨by simpa using hs, ?_⟩⟩
    exact hK _ _ _ _ ⟨rfl, rfl, rfl, rfl⟩) h

theorem r_storeB (hT : TypesOk P T) {t : TypeId} {x y : Operand} {i : TI} {r k o : Nat} {v : SVal} {cs cs0 cs' : List Cell} {mem' : List Blk} (hw : GW ops g sl) (hx : evS sl x = .c (.bp r k o)) (hy : evS sl y = v) (hc : v.cells = some cs) (ht : T t = some i) (hl : cs.length = i.size) (hm : mem[r]? = some (.box k cs0)) (hs : decide (o + i.size ≤ cs0.length) = true)
    (hcs : cs0.take o ++ cs ++ cs0.drop (o + i.size) = cs') (hm' : mem.set r (.box k cs') = mem')
    (h : Reg P F0 w0 dr ops K rest ⟨n, sl, mem', ck, df⟩ (2 :: acc)) : Reg P F0 w0 dr ops K (⟨none, .store t x y, ty, pos, aft, g⟩ :: rest) ⟨n, sl, mem, ck, df⟩ acc :=
  at2n (df' := []) (v := .junk) hw (Does.of hT fun τ he hmm hck Kk hK => by
    subst hmm; subst hck; subst hcs; subst hm'
    have ex := he x (by simp [Op.operands])
    have ey := he y (by simp [Op.operands])
    rw [hx] at ex
    rw [hy] at ey
    simp only [astep, aStore, ht, ex, ey, hc, hm]
    exact ⟨hl, trivial, by simpa using hs, hK _ _ _ _ ⟨rfl, rfl, rfl, rfl⟩⟩) h

theorem r_storeA (hT : TypesOk P T) {t : TypeId} {x y : Operand} {i : TI} {r k esz j o : Nat} {ety : TypeId} {es es' : List (List Dat)} {e e' : List Dat} {v : SVal} {cs : List Cell} {ds : List Dat} {mem' : List Blk} (hw : GW ops g sl) (hx : evS sl x = .c (.ap r k esz j o)) (hy : evS sl y = v) (hc : v.cells = some cs) (hds : dats cs = some ds) (ht : T t = some i) (hl : cs.length = i.size)
    (hm : mem[r]? = some (.arr k ety esz es)) (hs : decide (o + i.size ≤ esz) = true) (hj : es[j]? = some e) (he' : e.take o ++ ds ++ e.drop (o + i.size) = e') (hes : es.set j e' = es') (hm' : mem.set r (.arr k ety esz es') = mem')
    (h : Reg P F0 w0 dr ops K rest ⟨n, sl, mem', ck, df⟩ (2 :: acc)) : Reg P F0 w0 dr ops K (⟨none, .store t x y, ty, pos, aft, g⟩ :: rest) ⟨n, sl, mem, ck, df⟩ acc :=
  at2n (df' := []) (v := .junk) hw (Does.of hT fun τ he hmm hck Kk hK => by
    subst hmm; subst hck; subst he'; subst hes; subst hm'
    have ex := he x (by simp [Op.operands])
    have ey := he y (by simp [Op.operands])
    rw [hx] at ex
    rw [hy] at ey
    simp only [astep, aStore, ht, ex, ey, hc, hm, hds]
    exact ⟨hl, trivial, trivial, by simpa using hs, there_intro hj (hK _ _ _ _ ⟨rfl, rfl, rfl, rfl⟩)⟩) h

theorem r_fieldF (hT : TypesOk P T) {s : TypeId} {f : Nat} {x : Operand} {i j : TI} {fs : List (Nat × TypeId)} {off : Nat} {ft : TypeId} {e : List Dat} {o : Nat} (hw : GW ops g sl) (hx : evS sl x = .c (.fp e o)) (hs : T s = some i) (hi : i.desc = .struct fs) (hf : fs[f]? = some (off, ft)) (hj : T ft = some j) (hz : decide (j.size ≠ 0) = true)
    (h : Reg P F0 w0 dr ops K rest ⟨n, (d, .c (.fp e (o + off))) :: sl, mem, ck, df⟩ (0 :: acc)) : Reg P F0 w0 dr ops K (⟨some d, .fieldAddr s x f, ty, pos, aft, g⟩ :: rest) ⟨n, sl, mem, ck, df⟩ acc :=
  at0 hw (fun m c => Does.of hT fun τ he hm hc Kk hK => by
    subst hm; subst hc
    have ex := he x (by simp [Op.operands])
    rw [hx] at ex
    obtain ⟨a1, a2, a3, a4, a5⟩ := i
    simp only at hi
    subst hi
    simp only [astep, aField, hs, hf, hj, ex]
    exact ⟨by simpa using hz, hK _ _ _ _ ⟨rfl, rfl, rfl, rfl⟩⟩) h

theorem r_fieldB (hT : TypesOk P T) {s : TypeId} {f : Nat} {x : Operand} {i j : TI} {fs : List (Nat × TypeId)} {off : Nat} {ft : TypeId} {r k o : Nat} {cs : List Cell} (hw : GW ops g sl) (hx : evS sl x = .c (.bp r k o)) (hs : T s = some i) (hi : i.desc = .struct fs) (hf : fs[f]? = some (off, ft)) (hj : T ft = some j) (hz : decide (j.size ≠ 0) = true) (hm : mem[r]? = some (.box k cs))
    (h : Reg P F0 w0 dr ops K rest ⟨n, (d, .c (.bp r k (o + off))) :: sl, mem, ck, df⟩ (1 :: acc)) : Reg P F0 w0 dr ops K (⟨some d, .fieldAddr s x f, ty, pos, aft, g⟩ :: rest) ⟨n, sl, mem, ck, df⟩ acc :=
  at1 hw (Does.of hT fun τ he hmm hc Kk hK => by
    subst hmm; subst hc
    have ex := he x (by simp [Op.operands])
    rw [hx] at ex
    obtain ⟨a1, a2, a3, a4, a5⟩ := i
    simp only at hi
    subst hi
    simp only [astep, aField, hs, hf, hj, ex, liveAt, hm]
    exact ⟨by simpa using hz, trivial, hK _ _ _ _ ⟨rfl, rfl, rfl, rfl⟩⟩) h

theorem r_fieldA (hT : TypesOk P T) {s : TypeId} {f : Nat} {x : Operand} {i j : TI} {fs : List (Nat × TypeId)} {off : Nat} {ft : TypeId} {r k esz z o : Nat} {ety : TypeId} {es : List (List Dat)} (hw : GW ops g sl) (hx : evS sl x = .c (.ap r k esz z o)) (hs : T s = some i) (hi : i.desc = .struct fs) (hf : fs[f]? = some (off, ft)) (hj : T ft = some j) (hz : decide (j.size ≠ 0) = true) (hm : mem[r]? = some (.arr k ety esz es))
    (h : Reg P F0 w0 dr ops K rest ⟨n, (d, .c (.ap r k esz z (o + off))) :: sl, mem, ck, df⟩ (1 :: acc)) : Reg P F0 w0 dr ops K (⟨some d, .fieldAddr s x f, ty, pos, aft, g⟩ :: rest) ⟨n, sl, mem, ck, df⟩ acc :=
  at1 hw (Does.of hT fun τ he hmm hc Kk hK => by
    subst hmm; subst hc
    have ex := he x (by simp [Op.operands])
    rw [hx] at ex
    obtain ⟨a1, a2, a3, a4, a5⟩ := i
    simp only at hi
    subst hi
    simp only [astep, aField, hs, hf, hj, ex, liveAt, hm]
    exact ⟨by simpa using hz, trivial, hK _ _ _ _ ⟨rfl, rfl, rfl, rfl⟩⟩) h

theorem r_indexD (hT : TypesOk P T) {t e : TypeId} {x y : Operand} {i ei : TI} {kk : IntKind} {z : Int} {es : List (List Dat)} {el : List Dat} (hw : GW ops g sl) (hx : evS sl x = .c (.d (.sl es))) (hy : evS sl y = .c (.d (.lit (.int kk z)))) (ht : T t = some i) (hi : i.desc = .slice e) (he' : T e = some ei) (hz : 0 ≤ z) (hel : es[z.toNat]? = some el) (hl : el.length = ei.size)
    (h : Reg P F0 w0 dr ops K rest ⟨n, (d, .c (.fp el 0)) :: sl, mem, ck, df⟩ (0 :: acc)) : Reg P F0 w0 dr ops K (⟨some d, .indexAddr t x y, ty, pos, aft, g⟩ :: rest) ⟨n, sl, mem, ck, df⟩ acc :=
  at0 hw (fun m c => Does.of hT fun τ he hm hc Kk hK => by
    subst hm; subst hc
    have ex := he x (by simp [Op.operands])
    have ey := he y (by simp [Op.operands])
    rw [hx] at ex
    rw [hy] at ey
    obtain ⟨a1, a2, a3, a4, a5⟩ := i
    simp only at hi
    subst hi
    simp only [astep, aIndex, ht, he', ex, ey]
    exact ⟨hz, there_intro hel ⟨hl, hK _ _ _ _ ⟨rfl, rfl, rfl, rfl⟩⟩⟩) h

theorem r_indexA (hT : TypesOk P T) {t e : TypeId} {x y : Operand} {i ei : TI} {kk : IntKind} {z : Int} {r k m esz j : Nat} {ety : TypeId} {es : List (List Dat)} (hw : GW ops g sl) (hx : evS sl x = .c (.arr r k m)) (hy : evS sl y = .c (.d (.lit (.int kk z)))) (ht : T t = some i) (hi : i.desc = .slice e) (he' : T e = some ei) (hm : mem[r]? = some (.arr k ety esz es)) (hsz : esz = ei.size) (hz : 0 ≤ z) (hzm : z < (m : Int)) (hml : m ≤ es.length) (hj : z.toNat = j)
    (h : Reg P F0 w0 dr ops K rest ⟨n, (d, .c (.ap r k esz j 0)) :: sl, mem, ck, df⟩ (1 :: acc)) : Reg P F0 w0 dr ops K (⟨some d, .indexAddr t x y, ty, pos, aft, g⟩ :: rest) ⟨n, sl, mem, ck, df⟩ acc :=
  at1 hw (Does.of hT fun τ he hmm hc Kk hK => by
    subst hmm; subst hc; subst hj
    have ex := he x (by simp [Op.operands])
    have ey := he y (by simp [Op.operands])
    rw [hx] at ex
    rw [hy] at ey
    obtain ⟨a1, a2, a3, a4, a5⟩ := i
    simp only at hi
    subst hi
    simp only [astep, aIndex, ht, he', ex, ey, hm]
    exact ⟨hz, hzm, trivial, hsz, hml, hK _ _ _ _ ⟨rfl, rfl, rfl, rfl⟩⟩) h

/- An index into an array that lies in a struct or a variable. -/
theorem r_indexVF (hT : TypesOk P T) {t e : TypeId} {x y : Operand} {i ei : TI} {kk : IntKind} {z : Int} {m o : Nat} {el : List Dat} (hw : GW ops g sl) (hx : evS sl x = .c (.fp el o)) (hy : evS sl y = .c (.d (.lit (.int kk z)))) (ht : T t = some i) (hi : i.desc = .array m e) (he' : T e = some ei) (hz : 0 ≤ z) (hzm : z < (m : Int))
    (h : Reg P F0 w0 dr ops K rest ⟨n, (d, .c (.fp el (o + z.toNat * ei.size))) :: sl, mem, ck, df⟩ (0 :: acc)) : Reg P F0 w0 dr ops K (⟨some d, .indexAddr t x y, ty, pos, aft, g⟩ :: rest) ⟨n, sl, mem, ck, df⟩ acc :=
  at0 hw (fun m c => Does.of hT fun τ he hm hc Kk hK => by
    subst hm; subst hc
    have ex := he x (by simp [Op.operands])
    have ey := he y (by simp [Op.operands])
    rw [hx] at ex
    rw [hy] at ey
    obtain ⟨a1, a2, a3, a4, a5⟩ := i
    simp only at hi
    subst hi
    simp only [astep, aIndex, ht, he', ex, ey]
    exact ⟨hz, hzm, hK _ _ _ _ ⟨rfl, rfl, rfl, rfl⟩⟩) h

theorem r_indexVB (hT : TypesOk P T) {t e : TypeId} {x y : Operand} {i ei : TI} {kk : IntKind} {z : Int} {m r k o : Nat} {cs : List Cell} (hw : GW ops g sl) (hx : evS sl x = .c (.bp r k o)) (hy : evS sl y = .c (.d (.lit (.int kk z)))) (ht : T t = some i) (hi : i.desc = .array m e) (he' : T e = some ei) (hm : mem[r]? = some (.box k cs)) (hz : 0 ≤ z) (hzm : z < (m : Int))
    (h : Reg P F0 w0 dr ops K rest ⟨n, (d, .c (.bp r k (o + z.toNat * ei.size))) :: sl, mem, ck, df⟩ (1 :: acc)) : Reg P F0 w0 dr ops K (⟨some d, .indexAddr t x y, ty, pos, aft, g⟩ :: rest) ⟨n, sl, mem, ck, df⟩ acc :=
  at1 hw (Does.of hT fun τ he hmm hc Kk hK => by
    subst hmm; subst hc
    have ex := he x (by simp [Op.operands])
    have ey := he y (by simp [Op.operands])
    rw [hx] at ex
    rw [hy] at ey
    obtain ⟨a1, a2, a3, a4, a5⟩ := i
    simp only at hi
    subst hi
    simp only [astep, aIndex, ht, he', ex, ey, liveAt, hm]
    exact ⟨hz, hzm, trivial, hK _ _ _ _ ⟨rfl, rfl, rfl, rfl⟩⟩) h
end
end Go.Abs
