/-
  Algebra: the document's join.
-/
import Derived.Test.YtmpgmjlanngkfaaGreatNrm
import Derived.Test.YtmpgmjlanngkfaaGreatTaq
import Derived.Test.YtmpgmjlanngkfaaGreatMpc
import Derived.Test.YtmpgmjlanngkfaaGreatAlc
section
namespace Go.Proofs.YtmpgmjlanngkfaaGreat
open Go.Abs Go.RowKit
attribute [local irreducible] ARun kont MCall PCall HCall resVal SF CF CFs defersOk slotsIn memIn fin finM VLe
set_option linter.unusedSimpArgs false
set_option maxRecDepth 100000
set_option maxHeartbeats 4000000
def sameVal (a b : Val) : Bool := (a.kind == b.kind) && ((a.int == b.int) && (a.text.toList == b.text.toList))
def sameRow : List Val → List Val → Bool
  | [], [] => true
  | a :: x, b :: y => sameVal a b && sameRow x y
  | _, _ => false
theorem sameVal_refl (a : Val) : sameVal a a = true := by simp [sameVal]
theorem sameRow_refl : ∀ r : List Val, sameRow r r = true
  | [] => rfl
  | a :: r => by simp [sameRow, sameVal_refl, sameRow_refl r]
theorem sameRow_len : ∀ {r s : List Val}, sameRow r s = true → r.length = s.length
  | [], [], _ => rfl
  | a :: x, b :: y, h => by simp [sameRow] at h; simp [sameRow_len h.2]
  | [], _ :: _, h => by cases h
  | _ :: _, [], h => by cases h
theorem lits_same (a b : Val) : litsEq [.int .i64 a.kind, .int .i64 a.int, .string a.text] [.int .i64 b.kind, .int .i64 b.int, .string b.text] = sameVal a b := by
  simp [litsEq, litEq, sameVal]
theorem same01_c (r s : List Val) : PCall Tryz.prog 49 [.one (rowD r), .one (rowD s)] (.v (.one (.lit (.bool (sameRow r s))))) := by
  refine pcallN hT Tryz.func49 Tryz.ntmps49 [.tmp 4] fun B => ?_
  refine k_len 0 rfl fun hlr => ?_
  simp only [List.length_map, maxLen] at hlr
  repeat' (first | refine ks ?_ | refine ko ?_ | refine s_if rfl (fun hb => ?_) (fun hb => ?_) | refine s_indexD ?_ (hel := (by first | exact rfl)) | refine kf ?_ | fail)
  · refine congrArg Dat.lit (congrArg Value.bool ?_)
    cases h : sameRow r s with
    | false => rfl
    | true => have := sameRow_len h; omega
  · have hl : r.length = s.length := by omega
    refine s_lp (X := Nat) [4, 5, 11, 12, 13, 14, 15, 16, 17, 18, 19, 20, 21, 22, 23, 24, 25] (fun x => x ≤ r.length ∧ sameRow r s = sameRow (r.drop x) (s.drop x)) (fun x lz => (5, (.c (.d (.lit (.int .i64 x))))) :: lz) (fun x => []) (fun x => r.length - x) (0) ?_ ?_ ?_ ?_
    repeat' (first | exact slots_nil | refine kw ?_ | exact memIn_nil | omega)
    · exact ⟨by simp, by simp⟩
    rintro i c ⟨hi, hinv⟩
    by_cases hlt : i < r.length
    · have hv : r[i]? = some r[i] := List.getElem?_eq_getElem hlt
      generalize r[i] = a at hv
      have hu : s[i]? = some s[i] := List.getElem?_eq_getElem (by omega)
      generalize s[i] = b at hu
      rw [drop_cons hv, drop_cons hu, sameRow] at hinv
      have hls := lits_same a b
      repeat' (first | refine ks ?_ | refine ko ?_ | refine s_if rfl (fun hb => ?_) (fun hb => ?_) | refine s_indexD ?_ (hel := (by first | exact idx_map hv (by omega) | exact idx_map hu (by omega) | exact hv | exact hu | exact rfl)) | refine kf ?_ | fail)
      all_goals first
        | (refine congrArg Dat.lit (congrArg Value.bool ?_); rw [hinv]; simp_all <;> done)
        | ((apply s_round (i + 1); all_goals (try dsimp only); all_goals (try (repeat' (first | exact slots_nil | refine kw ?_ | exact memIn_nil | omega)))); (try exact ⟨by omega, by rw [hinv]; simp_all⟩))
    · repeat' (first | refine ks ?_ | refine ko ?_ | refine s_if rfl (fun hb => ?_) (fun hb => ?_) | refine s_indexD ?_ (hel := (by first | exact rfl)) | refine kf ?_ | fail)
      refine congrArg Dat.lit (congrArg Value.bool ?_)
      rw [List.drop_eq_nil_of_le (by omega), List.drop_eq_nil_of_le (by omega)] at hinv
      rw [hinv]; rfl
def sameBag : List Entry → List Entry → Bool
  | [], [] => true
  | a :: x, b :: y => (a.count == b.count) && sameRow a.row b.row && sameBag x y
  | _, _ => false
theorem sameBag_refl : ∀ r : List Entry, sameBag r r = true
  | [] => rfl
  | a :: r => by simp [sameBag, sameRow_refl, sameBag_refl r]
theorem sameBag_len : ∀ {r s : List Entry}, sameBag r s = true → r.length = s.length
  | [], [], _ => rfl
  | a :: x, b :: y, h => by simp [sameBag] at h; simp [sameBag_len h.2]
  | [], _ :: _, h => by cases h
  | _ :: _, [], h => by cases h
theorem same06_c (r s : List Entry) : PCall Tryz.prog 20 [.one (bagD r), .one (bagD s)] (.v (.one (.lit (.bool (sameBag r s))))) := by
  refine pcallN hT Tryz.func20 Tryz.ntmps20 [.tmp 4] fun B => ?_
  refine k_len 0 rfl fun hlr => ?_
  simp only [List.length_map, maxLen] at hlr
  repeat' (first | refine ks ?_ | refine ko ?_ | refine s_if rfl (fun hb => ?_) (fun hb => ?_) | refine s_indexD ?_ (hel := (by first | exact rfl)) | refine s_split rfl rfl (fun hb => ?_) (fun hb => ?_) | refine kf ?_ | fail)
  · refine congrArg Dat.lit (congrArg Value.bool ?_)
    cases h : sameBag r s with
    | false => rfl
    | true => have := sameBag_len h; omega
  · have hl : r.length = s.length := by omega
    refine s_lp (X := Nat) [4, 5, 11, 12, 13, 14, 15, 16, 17, 18, 19, 20, 21, 22, 23, 24, 25, 26, 27, 28, 29, 30, 31, 32, 33, 34, 35, 36, 37, 38, 39, 40, 41] (fun x => x ≤ r.length ∧ sameBag r s = sameBag (r.drop x) (s.drop x)) (fun x lz => (5, (.c (.d (.lit (.int .i64 x))))) :: lz) (fun x => []) (fun x => r.length - x) (0) ?_ ?_ ?_ ?_
    repeat' (first | exact slots_nil | refine kw ?_ | exact memIn_nil | omega)
    · exact ⟨by simp, by simp⟩
    rintro i c ⟨hi, hinv⟩
    by_cases hlt : i < r.length
    · have hv : r[i]? = some r[i] := List.getElem?_eq_getElem hlt
      generalize r[i] = a at hv
      have hu : s[i]? = some s[i] := List.getElem?_eq_getElem (by omega)
      generalize s[i] = b at hu
      rw [drop_cons hv, drop_cons hu, sameBag] at hinv
      repeat' (first | refine ks ?_ | refine ko ?_ | refine s_if rfl (fun hb => ?_) (fun hb => ?_) | refine s_indexD ?_ (hel := (by first | exact idx_map hv (by omega) | exact idx_map hu (by omega) | exact hv | exact hu | exact rfl)) | refine s_call (same01_c _ _) ?_ | refine s_split rfl rfl (fun hb => ?_) (fun hb => ?_) | refine kf ?_ | fail)
      all_goals first
        | (refine congrArg Dat.lit (congrArg Value.bool ?_); rw [hinv]; simp_all <;> done)
        | ((apply s_round (i + 1); all_goals (try dsimp only); all_goals (try (repeat' (first | exact slots_nil | refine kw ?_ | exact memIn_nil | omega)))); (try exact ⟨by omega, by rw [hinv]; simp_all⟩))
    · repeat' (first | refine ks ?_ | refine ko ?_ | refine s_if rfl (fun hb => ?_) (fun hb => ?_) | refine s_indexD ?_ (hel := (by first | exact rfl)) | refine s_split rfl rfl (fun hb => ?_) (fun hb => ?_) | refine kf ?_ | fail)
      refine congrArg Dat.lit (congrArg Value.bool ?_)
      rw [List.drop_eq_nil_of_le (by omega), List.drop_eq_nil_of_le (by omega)] at hinv
      rw [hinv]; rfl
theorem clone_c (r : List Val) (hr : r.length ≤ 1000000) : PCall Tryz.prog 98 [.one (rowD r)] (.v (.one (rowD r))) := by
  refine pcallN hT Tryz.func98 Tryz.ntmps98 [.tmp 2] fun B => ?_
  repeat' (first | refine ks ?_ | refine ko ?_ | refine s_if rfl (fun hb => ?_) (fun hb => ?_) | refine s_eqNil (fun b hnil => ?_) | refine kf ?_ | refine kg ?_ ?_ | fail)
  · have h := hnil hb
    have : r = [] := by simpa using h
    rw [this]; rfl
  · simp
  · rw [take_ge (by simp)]; rfl
theorem support1_d : DeferOk Tryz.prog 148 0 := by
  refine ⟨⟨_, Tryz.func148, by kernel_rfl, by kernel_rfl⟩, fun vs w hl => ?_⟩
  match vs, hl with
  | [], _ =>
    refine callsD_of_wpS Tryz.func148 rfl fun c₀ cs hu => ?_
    apply wpS_region
    simp [wpOpsS, go_sem, recoverD, hu, Tryz.ntmps148, Exit.thenS]
    cases c₀
    simp_all [bodyPostS, results, Tryz.results148]
def supp (l : List Entry) : List Entry := (l.filter fun e => decide (0 < e.count)).map fun e => ⟨e.row, 1⟩
def supportE (l : List Entry) : List Entry := if bagValid l then supp l else []
theorem supp_snoc {l : List Entry} {i : Nat} {e : Entry} (h : l[i]? = some e) : supp (l.take (i + 1)) = supp (l.take i) ++ (if 0 < e.count then [⟨e.row, 1⟩] else []) := by
  unfold supp
  rw [List.take_add_one, h, List.filter_append, List.map_append]
  congr 1
  by_cases hq : 0 < e.count <;> simp [hq]
theorem good_row : ∀ {l : List Entry} {p : Option Entry}, goodFrom p l = true → ∀ e ∈ l, e.ok = true
  | [], _, _, e, he => by cases he
  | x :: l, p, h, e, he => by
    simp only [goodFrom, Bool.and_eq_true] at h
    rcases List.mem_cons.1 he with rfl | he
    · exact h.1.1
    · exact good_row h.2 e he
theorem valid_mem {l : List Entry} (h : bagValid l = true) : l.length ≤ 4096 ∧ ∀ e ∈ l, rowOK e.row = true ∧ (-262144 ≤ e.count ∧ e.count ≤ 262144) ∧ e.count ≠ 0 := by
  simp only [bagValid, Bool.and_eq_true, decide_eq_true_eq] at h
  refine ⟨h.1, fun e he => ?_⟩
  have := good_row h.2 e he
  simp only [Entry.ok, countOK, Bool.and_eq_true, decide_eq_true_eq] at this
  exact ⟨this.1.1, this.1.2, this.2⟩
theorem rowOK_len {r : List Val} (h : rowOK r = true) : r.length ≤ 16 := by
  simp only [rowOK, Bool.and_eq_true, decide_eq_true_eq] at h; exact h.1
theorem support_c (l : List Entry) : PCall Tryz.prog 92 [.one (bagD l)] (.v (.one (bagD (supportE l)))) := by
  have hvc := bagValid_c l
  cases hb : bagValid l with
  | false =>
    rw [hb] at hvc
    have he : supportE l = [] := by simp [supportE, hb]
    rw [he]
    refine pcallN hT Tryz.func92 Tryz.ntmps92 [.tmp 2] fun B => ?_
    repeat' (first | refine ks ?_ | refine ko ?_ | refine s_if rfl (fun hb => ?_) (fun hb => ?_) | refine s_indexD ?_ (hel := (by first | exact rfl)) | refine s_call (hvc) ?_ | refine f_ret1 (by repeat (first | exact def_nil | refine def_cons support1_d ?_)) ?_ | refine kf ?_ | refine kg ?_ ?_ | fail)
    all_goals rfl
  | true =>
    rw [hb] at hvc
    have he : supportE l = supp l := by simp [supportE, hb]
    obtain ⟨hl, hm⟩ := valid_mem hb
    rw [he]
    refine pcallN hT Tryz.func92 Tryz.ntmps92 [.tmp 2] fun B => ?_
    repeat' (first | refine ks ?_ | refine ko ?_ | refine s_if rfl (fun hb => ?_) (fun hb => ?_) | refine s_indexD ?_ (hel := (by first | exact rfl)) | refine s_call (hvc) ?_ | refine f_ret1 (by repeat (first | exact def_nil | refine def_cons support1_d ?_)) ?_ | refine kf ?_ | refine kg ?_ ?_ | fail)
    refine s_own 3 56 2 ?_
    refine s_lp (X := Nat × Nat) [3, 5, 11, 12, 13, 14, 15, 16, 17, 18, 19, 20, 21, 22, 23, 24, 25] (fun x => x.1 ≤ l.length) (fun x lz => (3, .c (.arr 0 x.2 (supp (l.take x.1)).length)) :: (11, (.c (.d (.lit (.int .i64 x.1))))) :: lz) (fun x => [.arr x.2 56 2 ((supp (l.take x.1)).map Entry.d)]) (fun x => l.length - x.1) ((0, 1)) ?_ ?_ ?_ ?_
    repeat' (first | exact slots_nil | refine kw ?_ | refine kv ?_ ?_ | exact memIn_nil | omega)
    rintro ⟨i, k⟩ c hi
    dsimp only at hi ⊢
    have hsl : (supp (l.take i)).length ≤ i := by
      unfold supp
      rw [List.length_map]
      refine Nat.le_trans (List.length_filter_le ..) (by simp; omega)
    by_cases hlt : i < l.length
    · have hv : l[i]? = some l[i] := List.getElem?_eq_getElem hlt
      have hro := (hm _ (List.getElem_mem hlt)).1
      generalize l[i] = e at hv hro
      have hsn := supp_snoc hv
      have hrl := rowOK_len hro
      have hcl := clone_c e.row (by omega)
      repeat' (first | refine ks ?_ | refine ko ?_ | refine s_if rfl (fun hb => ?_) (fun hb => ?_) | refine s_indexD ?_ (hel := (by first | exact idx_map hv (by omega) | exact hv | exact rfl)) | refine s_call (hcl) ?_ | refine f_ret1 (by repeat (first | exact def_nil | refine def_cons support1_d ?_)) ?_ | refine kf ?_ | refine kg ?_ ?_ | fail)
      · rw [if_pos hb] at hsn
        (apply s_round ((i + 1, _)); all_goals (try dsimp only); all_goals (try (repeat' (first | exact slots_nil | refine w1 ?_ | refine w5 ?_ ?_ | exact memIn_nil | refine memIn_same ?_ | refine m1 ?_ ?_ | omega))))
        · rw [hsn]; simp
        · rw [hsn, List.map_append]; rfl
      · rw [if_neg (by omega), List.append_nil] at hsn
        (apply s_round ((i + 1, _)); all_goals (try dsimp only); all_goals (try (repeat' (first | exact slots_nil | refine w1 ?_ | refine w5 ?_ ?_ | exact memIn_nil | refine memIn_same ?_ | refine m1 ?_ ?_ | omega))))
        all_goals (rw [hsn])
    · rw [take_ge (by omega)]
      repeat' (first | refine ks ?_ | refine ko ?_ | refine s_if rfl (fun hb => ?_) (fun hb => ?_) | refine s_indexD ?_ (hel := (by first | exact rfl)) | refine f_ret1 (by repeat (first | exact def_nil | refine def_cons support1_d ?_)) ?_ | refine kf ?_ | refine kg ?_ ?_ | fail)
      · simp
      · rw [take_ge (by simp)]; rfl
def total (l : List Entry) : Int := l.foldl (fun s e => s + e.count) 0
def sizeE (l : List Entry) : Int := if bagValid l then total l else 0
end Go.Proofs.YtmpgmjlanngkfaaGreat
end
section
namespace Go.Abs
open Go.RowKit
section
variable {P : Program} {T : TypeId → Option TI} {F0 : Nat → Prop} {w0 : World}
variable {dr : Bool} {ops rest : List Oper} {K : St → Prop} {n : Nat} {sl : List (Nat × SVal)} {mem : List Blk} {ck : Nat} {df : List (FuncId × List Cell)} {acc : List Nat}
variable {d : Tmp} {op : Op} {ty : TypeId} {pos : String} {aft : Array Edge} {g : Option (Nat × Bool)}
theorem memIn_rf {m : List Blk} : memIn m m := fun _ _ h _ => h
theorem memIn_d1 : memIn [] [.dead] := fun s x h hl => by
  cases s with
  | zero => simp at h; subst h; exact hl.elim
  | succ s => simp at h
def CFr (r k : Nat) (es : List (List Dat)) (c : Cell) (y : Dat) : Prop := (∃ m, c = .arr r k m ∧ m ≤ es.length ∧ y = .sl (es.take m)) ∨ c.dat = some y
def CFrs (r k : Nat) (es : List (List Dat)) : List Cell → List Dat → Prop
  | [], [] => True
  | c :: cs, y :: ys => CFr r k es c y ∧ CFrs r k es cs ys
  | _, _ => False
theorem CFrs.get {r k : Nat} {es : List (List Dat)} : ∀ {cs : List Cell} {ys : List Dat}, CFrs r k es cs ys → cs.length = ys.length ∧ ∀ (i : Nat) c y, cs[i]? = some c → ys[i]? = some y → CFr r k es c y
  | [], [], _ => ⟨rfl, by simp⟩
  | c :: cs, y :: ys, h => by
    obtain ⟨h1, h2⟩ := CFrs.get h.2
    refine ⟨by simp [h1], fun i c' y' hc hy => ?_⟩
    cases i with
    | zero => simp at hc hy; subst hc; subst hy; exact h.1
    | succ i => exact h2 i c' y' (by simpa using hc) (by simpa using hy)
  | [], _ :: _, h => h.elim
  | _ :: _, [], h => h.elim
theorem s_bsliceF [tc : TC P T] (r : Nat) {t e : TypeId} {x : Tmp} {i ei : TI} {k esz : Nat} {ety : TypeId} {es : List (List Dat)} {cs : List Cell} {ds : List Dat} {mem' : List Blk} (h : Reg P F0 w0 dr ops K rest ⟨n, (d, .c (.d (.sl [ds]))) :: sl, mem', ck, df⟩ (2 :: acc)) (hcs : CFrs r k es cs ds) (hm : mem[r]? = some (.arr k ety esz es) := by exact rfl) (hw : GW ops g sl := by first | exact trivial | exact rfl)
    (hx : evS sl (.tmp x) = .agg cs := by exact rfl) (ht : T t = some i := by exact rfl) (hi : i.desc = .slice e := by exact rfl) (hei : T e = some ei := by exact rfl) (hk : (Nat.blt 0 ei.size && (Nat.beq ei.zero.length ei.size && (Nat.ble ei.size 16777216 && Nat.beq cs.length ei.size))) = true := by exact rfl) (hm' : mem.set r .dead = mem' := by repeat' (first | exact nfNil rfl | apply nfCons rfl)) :
    Reg P F0 w0 dr ops K (⟨some d, .buildSlice t 1 #[(0, .tmp x)], ty, pos, aft, g⟩ :: rest) ⟨n, sl, mem, ck, df⟩ acc := by
  subst hm'
  refine at2 (df' := []) hw (fun B σ E a w hF hw0 he hmm hck hr hB hd next Q hn => ?_) h
  subst hF; subst hw0
  simp only [Bool.and_eq_true, Nat.beq_eq, Nat.ble_eq, Nat.blt, Nat.succ_le_iff] at hk
  have hm2 : σ.mem[r]? = some (.arr k ety esz es) := by rw [hmm]; exact hm
  have hfz := hr.1.freeze r k ety esz es hm2
  have hxv : SRep E w (a.eval (.tmp x)) (.agg cs) := by
    have := hr.ev (.tmp x)
    rw [he (.tmp x) (by simp [Op.operands]), hx] at this
    exact this
  obtain ⟨hcl, hcg⟩ := hcs.get
  have hxd : SRep { E with F := fun i => E.F i ∨ (i = E.blk r ∧ E.cap r ≠ 0) } w (a.eval (.tmp x)) (.agg (ds.map .d)) := by
    generalize a.eval (.tmp x) = v at hxv
    cases hxv with | agg _ vs hl hv =>
    refine .agg _ vs (by rw [hl, hcl]; simp) fun i u y hu hy => ?_
    rw [List.getElem?_map] at hy
    cases hq : ds[i]? with
    | none => rw [hq] at hy; cases hy
    | some z =>
      rw [hq] at hy
      simp only [Option.map_some, Option.some.injEq] at hy
      subst hy
      have hlt : i < cs.length := by rw [hcl]; exact lt_of_getElem? hq
      have hci : cs[i]? = some cs[i] := List.getElem?_eq_getElem hlt
      have hrep := hv i u _ hu hci
      rcases hcg i _ z hci hq with ⟨m, h1, h2, rfl⟩ | h1
      · rw [h1] at hrep
        exact .d (arr_dat hr.1 hm2 h2 hrep (fun b hb => .inl hb) fun hz => .inr ⟨rfl, hz⟩)
      · exact .d ((hrep.dat h1).mono (fun _ hb => .inl hb) (fun _ _ => rfl))
  have hput : a.eval (.tmp x) = a.tmps.getD x undef := rfl
  have hρ : ∀ o, SRep { E with F := fun i => E.F i ∨ (i = E.blk r ∧ E.cap r ≠ 0) } w (a.eval o) (St.ev { σ with mem := σ.mem.set r .dead, slots := (x, .agg (ds.map .d)) :: σ.slots } o) := by
    intro o
    cases o with
    | tmp s =>
      simp only [St.ev, St.get, look_put]
      split
      · rename_i q; subst q; exact hxd
      · exact (hr.ev (.tmp s)).le hfz.2
    | const v => exact (hr.ev (.const v)).le hfz.2
    | global q => exact (hr.ev (.global q)).le hfz.2
    | func q => exact (hr.ev (.func q)).le hfz.2
  obtain ⟨a1, a2, a3, a4, a5⟩ := i
  simp only at hi
  subst hi
  obtain ⟨v, w', E', y, q1, q2, q3, q4, q5⟩ := buildSlice_ok (P := P) tc.ok (σ := { σ with mem := σ.mem.set r .dead, slots := (x, .agg (ds.map .d)) :: σ.slots }) hfz.1 (t := t) (len := 1) (ρ := a.eval) hρ (parts := #[(0, .tmp x)]) (V := fun y => y = .c (.d (.sl [ds]))) (by
    have hdd : dats (ds.map Cell.d) = some ds := by
      have : ∀ l : List Dat, dats (l.map Cell.d) = some l := fun l => by
        induction l with
        | nil => rfl
        | cons z l ih => simp [dats, ih, Cell.dat]
      exact this ds
    simp only [aBuildSlice, ht, hei, partsOf, St.ev, St.get, look_put, if_true, SVal.cells, hdd]
    refine ⟨hk.1, hk.2.1, by omega, rfl, ?_⟩
    rw [if_pos (by rw [← hcl]; exact hk.2.2.2)])
  subst q5
  unfold Oper.wp
  rw [show (execOp a.eval ⟨some d, .buildSlice t 1 #[(0, .tmp x)], ty, pos, aft, g⟩).run P w = .ok (.value v) w' by have q1' := q1; simp at q1'; simp [execOp, q1']]
  refine hn _ _ _ [] _ _ ⟨rfl, rfl, rfl, rfl⟩ ⟨E', ?_, hB.trans (hfz.2.trans q2)⟩
  rw [upd_putO, ← hmm, ← hck]
  exact hr.putOE (hfz.2.trans q2) q3 hd q4
end
end Go.Abs
end
section
namespace Go.Proofs.YtmpgmjlanngkfaaGreat
open Go.Abs Go.RowKit
set_option linter.unusedSimpArgs false
set_option maxRecDepth 100000
theorem all_clean {l : List Entry} (h : l.all entryIn = true) : ∀ e ∈ l, rowClean e.row := fun e he => by
  have := List.all_eq_true.1 h e he
  simp only [entryIn, Bool.and_eq_true] at this
  exact rowOK_clean this.1
theorem mem_sortE (l : List Entry) : ∀ e, e ∈ sortE l → ∃ x ∈ l, x.row = e.row := by
  induction l using sortE.induct with
  | case1 l h => intro e he; rw [sortE, dif_pos h] at he; exact ⟨e, (List.mem_filter.1 he).1, rfl⟩
  | case2 l h ih1 ih2 =>
    intro e he
    rw [sortE, dif_neg h] at he
    obtain ⟨x, hx, hr⟩ := mem_mergeE _ _ e he
    rcases hx with hx | hx
    · obtain ⟨y, hy, hq⟩ := ih1 x hx
      exact ⟨y, List.mem_of_mem_take hy, hq.trans hr⟩
    · obtain ⟨y, hy, hq⟩ := ih2 x hx
      exact ⟨y, List.mem_of_mem_drop hy, hq.trans hr⟩
theorem good_of : ∀ {l : List Entry} {p : Option Entry}, (∀ e ∈ l, e.ok = true) → l.Pairwise eR → (∀ q, p = some q → ∀ e ∈ l, eR q e) → goodFrom p l = true
  | [], _, _, _, _ => rfl
  | x :: l, p, h, hs, hp => by
    obtain ⟨h1, h2⟩ := List.pairwise_cons.1 hs
    have ih := good_of (p := some x) (fun e he => h e (by simp [he])) h2 (fun q hq => by cases hq; exact h1)
    simp only [goodFrom, Bool.and_eq_true]
    refine ⟨⟨h x (by simp), ?_⟩, ih⟩
    cases p with
    | none => rfl
    | some q => exact decide_eq_true (hp q rfl x (by simp))
theorem norm_good {l : List Entry} (h : (normE l).2 = 0) : (normE l).1 = sortE l ∧ Sorted (sortE l) ∧ bagValid (sortE l) = true ∧ ∀ r, sumK (sortE l) r = sumK l r := by
  unfold normE at *
  split at h
  · rename_i hall
    rw [if_pos hall]
    obtain ⟨p1, p2⟩ := sortE_says l (all_clean hall)
    refine ⟨fits_ok h, p1, ?_, p2⟩
    unfold fitsE at h
    split at h
    · cases h
    · split at h
      · rename_i hl hc
        simp only [bagValid, Bool.and_eq_true, decide_eq_true_eq]
        refine ⟨by omega, good_of (fun e he => ?_) p1.up (by simp)⟩
        have h1 := List.all_eq_true.1 hc e he
        obtain ⟨x, hx, hr⟩ := mem_sortE l e he
        have h2 := List.all_eq_true.1 hall x hx
        simp only [entryIn, Bool.and_eq_true] at h2
        simp only [Entry.ok, Bool.and_eq_true, decide_eq_true_eq]
        rw [← hr]
        exact ⟨⟨h2.1, h1⟩, p1.nz e he⟩
      · cases h
  · cases h
theorem sorted_of_valid {l : List Entry} (h : bagValid l = true) : Sorted l := by
  obtain ⟨_, hm⟩ := valid_mem h
  refine ⟨?_, fun e he => (hm e he).2.2, fun e he => rowOK_clean (hm e he).1⟩
  simp only [bagValid, Bool.and_eq_true] at h
  have key : ∀ {l : List Entry} {p : Option Entry}, goodFrom p l = true → l.Pairwise eR ∧ ∀ q, p = some q → ∀ e ∈ l, eR q e := by
    intro l
    induction l with
    | nil => intro p _; exact ⟨.nil, by simp⟩
    | cons x l ih =>
      intro p hp
      simp only [goodFrom, Bool.and_eq_true] at hp
      obtain ⟨i1, i2⟩ := ih hp.2
      refine ⟨List.pairwise_cons.2 ⟨i2 x rfl, i1⟩, fun q hq e he => ?_⟩
      subst hq
      have hqx : eR q x := by simpa [eR] using hp.1.2
      rcases List.mem_cons.1 he with rfl | he
      · exact hqx
      · exact eR_tr _ _ _ hqx (i2 x rfl e he)
  exact (key h.2).1
theorem norm_valid {l : List Entry} (h : bagValid l = true) : normE l = (l, 0) := by
  have hs := sorted_of_valid h
  obtain ⟨hlen, hm⟩ := valid_mem h
  have hall : l.all entryIn = true := List.all_eq_true.2 fun e he => by
    obtain ⟨h1, h2, _⟩ := hm e he
    simp only [entryIn, countOK, Bool.and_eq_true, decide_eq_true_eq]
    exact ⟨h1, h2.1, h2.2⟩
  obtain ⟨p1, p2⟩ := sortE_says l (all_clean hall)
  have : sortE l = l := p1.unique hs p2
  rw [normE, if_pos hall, this, fitsE, if_neg (by omega), if_pos]
  refine List.all_eq_true.2 fun e he => ?_
  obtain ⟨_, h2, _⟩ := hm e he
  simp only [countOK, Bool.and_eq_true, decide_eq_true_eq]
  exact h2
end Go.Proofs.YtmpgmjlanngkfaaGreat
end
section
namespace Go.Proofs.YtmpgmjlanngkfaaGreat
open Go.Abs Go.RowKit
attribute [local irreducible] ARun kont MCall PCall HCall resVal SF CF CFs defersOk slotsIn memIn fin finM VLe
set_option linter.unusedSimpArgs false
set_option maxRecDepth 100000
set_option maxHeartbeats 4000000
def sumR (l : List Entry) : List Entry :=
  if h : l.length < 2 then l
  else mergeE (sumR (l.take (l.length / 2))) (sumR (l.drop (l.length / 2)))
  termination_by l.length
  decreasing_by
    · simp; omega
    · simp; omega
theorem sumR_sort (l : List Entry) : (∀ e ∈ l, e.count ≠ 0) → sumR l = sortE l := by
  induction l using sumR.induct with
  | case1 l h =>
    intro hn
    rw [sumR, dif_pos h, sortE, dif_pos (by omega)]
    exact (List.filter_eq_self.2 fun e he => by simp [hn e he]).symm
  | case2 l h ih1 ih2 =>
    intro hn
    rw [sumR, dif_neg h, sortE, dif_neg (by omega), ih1 (fun e he => hn e (List.mem_of_mem_take he)), ih2 (fun e he => hn e (List.mem_of_mem_drop he))]
def meetsE (x y : List Val) (on : List (Int × Int)) : Bool := on.all fun p => decide ((atE x p.1).kind ≠ 0) && sameVal (atE x p.1) (atE y p.2)
def narrowE (b : List Entry) : Bool := b.all (fun e => decide (e.row.length ≤ 8)) && bagValid b
def pairE (x y : Entry) : Entry := ⟨x.row ++ y.row, x.count * y.count⟩
def pairs1 (x : Entry) (b : List Entry) (on : List (Int × Int)) : List Entry := (b.filter fun y => meetsE x.row y.row on).map (pairE x)
def pairsE (a b : List Entry) (on : List (Int × Int)) : List Entry := a.flatMap fun x => pairs1 x b on
theorem pairs_mem {a b : List Entry} {on : List (Int × Int)} {e : Entry} (h : e ∈ pairsE a b on) : ∃ x ∈ a, ∃ y ∈ b, meetsE x.row y.row on = true ∧ e = pairE x y := by
  obtain ⟨x, hx, he⟩ := List.mem_flatMap.1 h
  obtain ⟨y, hy, rfl⟩ := List.mem_map.1 he
  obtain ⟨h1, h2⟩ := List.mem_filter.1 hy
  exact ⟨x, hx, y, h1, h2, rfl⟩
theorem narrow_mem {l : List Entry} (h : narrowE l = true) : l.length ≤ 4096 ∧ ∀ e ∈ l, rowOK e.row = true ∧ (-262144 ≤ e.count ∧ e.count ≤ 262144) ∧ e.row.length ≤ 8 ∧ e.count ≠ 0 := by
  unfold narrowE at h
  simp only [Bool.and_eq_true] at h
  obtain ⟨h1, h2⟩ := valid_mem h.2
  refine ⟨h1, fun e he => ⟨(h2 e he).1, (h2 e he).2.1, ?_, (h2 e he).2.2⟩⟩
  have := List.all_eq_true.1 h.1 e he
  simpa using this
def boundE (l : List Entry) : List Entry × Nat :=
  if 4096 < l.length then ([], 8)
  else if l.all (fun e => decide (-262144 ≤ e.count ∧ e.count ≤ 262144)) then (l, 0)
  else ([], 9)
def refJoinE (a b : List Entry) (on : List (Int × Int)) : List Entry × Nat :=
  if narrowE a && narrowE b then boundE (sumR (pairsE a b on)) else ([], 1)
def bagR (q : List Entry × Nat) : PRes := .tup [.one (bagD q.1), .one (.lit (.int .i64 q.2))]
end Go.Proofs.YtmpgmjlanngkfaaGreat
end
