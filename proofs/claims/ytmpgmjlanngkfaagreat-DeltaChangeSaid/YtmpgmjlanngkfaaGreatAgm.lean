/-
  Aggregates: the state of a group.
-/
import Derived.Test.YtmpgmjlanngkfaaGreatRga
import Derived.Test.YtmpgmjlanngkfaaGreatCmf
import Derived.Test.YtmpgmjlanngkfaaGreatNrm
import Derived.Test.YtmpgmjlanngkfaaGreatAgi
import Derived.Test.YtmpgmjlanngkfaaGreatTap
import Derived.Test.YtmpgmjlanngkfaaGreatLaid
import Derived.Test.YtmpgmjlanngkfaaGreatAgh
section
namespace Go.Proofs.YtmpgmjlanngkfaaGreat
open Go.Abs Go.RowKit
attribute [local irreducible] ARun Av MCall PCall HCall Ap SF CF CFs Ag Ai As fin AY VLe
set_option linter.unusedSimpArgs false
set_option maxRecDepth 100000
set_option maxHeartbeats 4000000
theorem I6 (b : List Entry) (kf : List Val → List Val) (hk : D9 b kf) : (Dg b kf).length ≤ b.length := by
 have jz : ∀ e ∈ b.map fun e : Entry => (⟨kf e.row, 1⟩ : Entry), AE e.row := fun e he => by
  obtain ⟨x, hx, rfl⟩ := List.mem_map.1 he
  exact hk x hx
 obtain ⟨h1, hx⟩ := B5 _ jz
 have h2 := LQ h1.nz
 have h3 := LP (b.map fun e : Entry => (⟨kf e.row, 1⟩ : Entry))
 have h4 : Cq (b.map fun e : Entry => (⟨kf e.row, 1⟩ : Entry)) = b.length := by
  clear jz h1 h2 h3 hk hx
  induction b with
  | nil => rfl
  | cons e b ih => rw [List.map_cons, Cq, ih, List.length_cons]; simp; omega
 unfold Dg
 rw [BR]; omega
theorem Vu (b : List Entry) (kf : List Val → List Val) (hk : D9 b kf) : (Iv b kf).length ≤ b.length := by
 unfold Iv; rw [BR]; exact I6 b kf hk
theorem Vv {b : List Entry} {kf : List Val → List Val} (hk : D9 b kf) {g : List Val × List Entry} (h : g ∈ Iv b kf) : (∃ e ∈ b, kf e.row = g.1) ∧ g.2 = b.filter (Re kf g.1) := by
 obtain ⟨k, th, rfl⟩ := List.mem_map.1 h
 exact ⟨((Hf hk).2.2 k).1 th, rfl⟩
theorem Mn {v : Val} (h : v.valid = true) : -4294967296 ≤ v.int ∧ v.int ≤ 4294967296 := by
 unfold Val.valid at h
 split at h
 ·simp at h; omega
 ·split at h
  ·simp at h; omega
  ·split at h
   ·simp at h; omega
   ·cases h
theorem TA (x : Agg) (e : Entry) : (X7 x e).1.valid = true := by
 unfold X7
 dsimp only
 split
 ·exact IJ
 ·exact Ho ..
theorem Vx {x : Agg} {es : List Entry} (hl : es.length ≤ 4096) (hc : ∀ e ∈ es, -262144 ≤ e.count ∧ e.count ≤ 262144) : Nv (CG x es) := by
 refine ⟨by rw [I5]; exact hl, fun y hy => ?_⟩
 obtain ⟨e, he, rfl⟩ := List.mem_map.1 hy
 exact ⟨Mn (TA x e), hc e he⟩
theorem Vy {x : Agg} {es : List Entry} (hc : ∀ e ∈ es, 0 < e.count) : Ea (CG x es) := fun y hy => by
 obtain ⟨e, he, rfl⟩ := List.mem_map.1 hy
 exact hc e he
theorem Sj {l : List Entry} (h : Ay l = true) : Am l = true ∧ ∀ e ∈ l, 0 < e.count := by
 simp only [Ay, BM] at h
 refine ⟨h.1, fun e he => ?_⟩
 have h1 := ((AP h.1).2 e he).2.2
 have h2 := Eg.1 h.2 e he
 simp at h2; omega
noncomputable def grpRow (ag : List Agg) (g : List Val × List Entry) : List Val := g.1 ++ ag.map fun x => foldE x.func (CG x g.2)
noncomputable def groupE (b : List Entry) (keys : List Itm) (ag : List Agg) : List Entry × Int :=
 if Ay b = true ∧ keys.length + ag.length ≤ 8 then Bh ((Iv b (AQ keys)).map fun g => ⟨grpRow ag g, 1⟩) else ([], 1)
theorem HW (g : List Val × List Entry) : grpRow [] g = g.1 := by simp [grpRow]
theorem JL {ag : List Agg} {g : List Val × List Entry} {k : Nat} {x : Agg} (h : ag[k]? = some x) : grpRow (ag.take (k + 1)) g = grpRow (ag.take k) g ++ [foldE x.func (CG x g.2)] := by
 unfold grpRow; rw [Bp h]; simp
theorem FT (ag : List Agg) (g : List Val × List Entry) : (grpRow ag g).length = g.1.length + ag.length := by simp [grpRow]
def eB (k v m : Nat) (key : List Val) : SVal := match k with
 | 0 => .c (.d (Fq key))
 | _ + 1 => .c (.arr 3 v m)
noncomputable def grM (k v : Nat) (ag : List Agg) (g : List Val × List Entry) : List Blk := match k with
 | 0 => []
 | k + 1 => [.arr v 73 3 ((grpRow (ag.take (k + 1)) g).map Val.d)]
theorem E2 : DeferOk Tryz.prog 144 0 := by
 refine ⟨⟨_, Tryz.func144, by kernel_rfl, by kernel_rfl⟩, fun vs w hl => ?_⟩
 match vs, hl with
 | [], _ =>
   refine callsD_of_wpS Tryz.func144 rfl fun c₀ cs hu => ?_
   apply wpS_region
   simp [wpOpsS, go_sem, recoverD, hu, Tryz.ntmps144, Exit.thenS]
   cases c₀
   simp_all [bodyPostS, results, Tryz.results144]
theorem X8 (b : List Entry) (keys : List Itm) (ag : List Agg) (nZ : keys.length ≤ 10000) (jM : ag.length ≤ 10000) : PC 90 [.one (Ak b), .one (J8 keys), .one (Tz ag)] (.tup [.one (Ak (groupE b keys ag).1), .one (.lit (.int .i64 (groupE b keys ag).2))]) := by
 by_cases hc : Ay b = true ∧ keys.length + ag.length ≤ 8
 ·have hK : D9 b (AQ keys) := fun e _ => B4 keys e.row
  obtain ⟨lS, lC⟩ := hc
  obtain ⟨uX, uY⟩ := Sj lS
  obtain ⟨oI, ua⟩ := AP uX
  have he : groupE b keys ag = Bh ((Iv b (AQ keys)).map fun g => ⟨grpRow ag g, 1⟩) := if_pos ⟨lS, lC⟩
  rw [he]
  have hp := ET b
  rw [lS] at hp
  have hg := VH b keys oI (by omega)
  have sk := Vu b _ hK
  have l5 := IT ((Iv b (AQ keys)).map fun g => ⟨grpRow ag g, 1⟩) (by rw [BR]; omega)
  have nc : ∀ g ∈ Iv b (AQ keys), g.1.length = keys.length ∧ g.2.length ≤ 4096 ∧ (∀ e ∈ g.2, e ∈ b) := fun g hg => by
   obtain ⟨⟨e, _, h1⟩, h2⟩ := Vv hK hg
   refine ⟨by rw [← h1, DU], ?_, fun e he => ?_⟩
   ·have := Q1 (Re (AQ keys) g.1) b
    rw [h2]; omega
   ·rw [h2] at he; exact (L1.1 he).1
  clear he
  generalize Iv b (AQ keys) = G at hg sk l5 nc
  generalize Bh (G.map fun g => ⟨grpRow ag g, 1⟩) = R at l5
  refine Ac hT Tryz.func90 Tryz.ntmps90 [.tmp 6, .tmp 7] fun B => ?_
  repeat' first | refine kz ?_ | refine Ao ?_ | refine Aa (hp) ?_ | refine Aa (hg) ?_ | refine kf ?_ | refine Aw (by repeat (first | exact Ad | refine Aq E2 ?_)) ?_ ?_
  refine Bv 8 56 2 ?_
  refine AK (X := Nat × Nat) ([8, 10, 11, 13] ++ List.range' 29 28) (fun x => x.1 ≤ G.length) (fun x lz => (29, (iC x.1)) :: (8, .c (.arr 0 x.2 x.1)) :: lz) (fun x => [.arr x.2 56 2 (((G.take x.1).map fun g => (⟨grpRow ag g, 1⟩ : Entry)).map Entry.d)]) (fun x => G.length - x.1) ((0, 1)) ?_ ?_ ?_ ?_
  repeat' first | exact k0 | refine kw ?_ | refine kv ?_ ?_ | omega
  rintro ⟨i, v⟩ c0 hi
  dsimp only at hi ⊢
  by_cases i7 : i < G.length
  ·have hx : G[i]? = some G[i] := Bo i7
   have wW := nc _ (Fo i7)
   generalize G[i] = g at hx wW
   have rk : (G.map U5)[i]? = some (U5 g) := by rw [BU, hx]; rfl
   obtain ⟨mv, nA, wX⟩ := wW
   have jc : ((G.take i).map fun g => (⟨grpRow ag g, 1⟩ : Entry)).map Entry.d ++ [[A0 (grpRow ag g), .lit (.int .i64 1)]] = ((G.take (i + 1)).map fun g => (⟨grpRow ag g, 1⟩ : Entry)).map Entry.d := by
    rw [Bp hx]; simp [Entry.d]
   have nD : (((G.take i).map fun g => (⟨grpRow ag g, 1⟩ : Entry)).map Entry.d).length = i := by simp; omega
   generalize ((G.take i).map fun g => (⟨grpRow ag g, 1⟩ : Entry)).map Entry.d = A at jc nD ⊢
   repeat' first | refine kz ?_ | refine AF rk ?_ | refine Ao ?_ | refine kh ?_ ?_ | exact ⟨⟩ | fail
   refine AK (X := Nat × Nat) ([11, 13] ++ List.range' 37 14) (fun x => x.1 ≤ ag.length) (fun x lz => (37, (iC x.1)) :: (11, eB x.1 x.2 (g.1.length + x.1) g.1) :: lz) (fun x => .arr v 56 2 A :: .box (c0 + 1) ((U5 g).map .d) :: .dead :: grM x.1 x.2 ag g) (fun x => ag.length - x.1) ((0, 0)) ?_ ?_ ?_ ?_
   repeat' first | exact k0 | refine kw ?_ | refine kv ?_ ?_ | omega
   ·exact Qm
   rintro ⟨k, r⟩ c1 hk
   dsimp only at hk ⊢
   have mG : (g.1.map Val.d).length = g.1.length := by simp
   by_cases rm : k < ag.length
   ·obtain ⟨y, hy⟩ := gx rm
    have pJ : (ag.map Agg.d)[k]? = some y.d := by rw [BU, hy]; rfl
    have l6 := Vt g y nA
    have rn := bt y.func (CG y g.2) (Vx nA fun e he => (ua e (wX e he)).2.1) (Vy fun e he => uY e (wX e he))
    have kZ := congrArg (List.map Val.d) (JL (g := g) hy)
    rw [Ag', List.map_singleton] at kZ
    have nG : ((grpRow (ag.take k) g).map Val.d).length = g.1.length + k := by rw [BR, FT, Gu]; omega
    cases k with
    | zero =>
      rw [List.take_zero, HW] at kZ
      dsimp only [eB, grM]
      repeat' first | refine DI 2 (f' := _ :: _ :: _ :: _) ?_ (iZ := rfl) | (refine Yq (ei := UY) (r := 3) (m := g.1.length + 1) (es := g.1.map Val.d) (ys := [(foldE y.func (CG y g.2)).d]) ?_ (by exact Nat.zero_lt_one) (by rw [mG]; rfl) (fun el jo => by obtain ⟨z, _, rfl⟩ := List.mem_map.1 jo; rfl) (fun el jo => by rw [Ke] at jo; subst jo; rfl) (by simp only [maxLen]; omega) (by simp only [UY]; omega)) | refine kz ?_ | refine AF pJ ?_ | refine Ao ?_ | refine Aa (l6) ?_ | refine Aa (rn) ?_ | refine H6 ?_ | refine EW ?_ | refine Aw Ad ?_ ?_ | refine Bq ?_ | refine BC ?_
      apply Af ((1, c1 + 2)) <;> (try dsimp only) <;> try repeat' first | exact k0 | refine kw ?_ | refine kv ?_ ?_ | omega
      all_goals exact kZ.symm
    | succ k =>
      dsimp only [eB, grM]
      generalize (grpRow (ag.take (k + 1)) g).map Val.d = Z at kZ nG
      repeat' first | refine DI 2 (f' := _ :: _ :: _ :: _) ?_ (iZ := rfl) | refine kz ?_ | refine AF pJ ?_ | refine Ao ?_ | refine Aa (l6) ?_ | refine Aa (rn) ?_ | refine H6 ?_ | refine EW ?_ | refine Aw Ad ?_ ?_ | refine Bq ?_ | refine BC ?_
      apply Af ((k + 2, c1 + 2)) <;> (try dsimp only) <;> try repeat' first | exact k0 | refine kw ?_ | refine kv ?_ ?_ | omega
      all_goals (rw [Ah (by omega)]; exact kZ.symm)
   ·have qa : k = ag.length := by omega
    cases k with
    | zero =>
      have pO : ag = [] := XP qa.symm
      have oE : grpRow ag g = g.1 := by rw [pO, HW]
      rw [oE] at jc
      dsimp only [eB, grM]
      repeat' first | refine Yo ?_ | refine kz ?_ | refine Ao ?_ | refine H6 ?_ | refine EW ?_ | refine Aw Ad ?_ ?_ | refine Bq ?_ | refine BC ?_
      apply Af ((i + 1, _)) <;> (try dsimp only) <;> try repeat' first | exact k0 | refine w1 ?_ | refine Ab ?_ | refine m1 ?_ ?_ | refine AJ ?_ | omega
      all_goals (rw [Ah (by omega)]; exact jc)
    | succ k =>
      dsimp only [eB, grM]
      rw [qa, Ah (Nat.le_refl _)]
      have nG : ((grpRow ag g).map Val.d).length = g.1.length + ag.length := by rw [BR, FT]
      refine Ax (r := 3) (m := g.1.length + ag.length) (es := (grpRow ag g).map Val.d) 11 ?_ (hl := by omega) (j6 := Ah (by omega))
      repeat' first | refine kz ?_ | refine Ao ?_ | refine kh ?_ ?_ | exact ⟨⟩ | fail
      apply Af ((i + 1, _)) <;> (try dsimp only) <;> try repeat' first | exact k0 | refine w1 ?_ | refine Ab ?_ | refine m1 ?_ ?_ | refine AJ ?_ | omega
      all_goals (rw [Ah (by omega)]; exact jc)
  ·obtain rfl : i = G.length := by omega
   rw [Ah (Nat.le_refl _)]
   refine Ax (r := 0) (m := G.length) (es := (G.map fun g => (⟨grpRow ag g, 1⟩ : Entry)).map Entry.d) 8 ?_ (hl := by simp) (j6 := Ah (by simp))
   repeat' first | refine kz ?_ | refine Ao ?_ | refine Aa (l5) ?_ | refine kf ?_ | refine Aw (by repeat (first | exact Ad | refine Aq E2 ?_)) ?_ ?_
   all_goals rfl
 ·have he : groupE b keys ag = ([], 1) := if_neg hc
  rw [he]
  have hp := ET b
  by_cases uZ : keys.length + ag.length ≤ 8
  ·have hb : Ay b = false := by
    cases h : Ay b with
    | false => rfl
    | true => exact absurd ⟨h, uZ⟩ hc
   rw [hb] at hp
   refine Ac hT Tryz.func90 Tryz.ntmps90 [.tmp 6, .tmp 7] fun B => ?_
   repeat' first | refine kz ?_ | refine Ao ?_ | refine Aa (hp) ?_ | refine kf ?_ | refine Aw (by repeat (first | exact Ad | refine Aq E2 ?_)) ?_ ?_
   all_goals rfl
  ·refine Ac hT Tryz.func90 Tryz.ntmps90 [.tmp 6, .tmp 7] fun B => ?_
   repeat' first | refine kz ?_ | refine Ao ?_ | refine kf ?_ | refine Aw (by repeat (first | exact Ad | refine Aq E2 ?_)) ?_ ?_
   all_goals rfl
def txts : List ByteArray := [⟨#[97]⟩, ⟨#[98]⟩, ⟨#[]⟩, ⟨#[97, 98]⟩, ⟨#[97, 32, 98]⟩, ⟨#[120, 0, 121]⟩, ⟨#[255, 34, 92]⟩, ⟨#[98, 32, 97, 32, 98]⟩, ⟨#[108, 111, 110, 103, 32, 116, 101, 120, 116, 32, 111, 102, 32, 116, 104, 105, 114, 116, 121, 45, 116, 119, 111, 32, 98, 121, 116, 101, 115, 32, 105, 116]⟩, ⟨#[66]⟩]
def sD (s : ByteArray) : List Dat := [.lit (.string s)]
def ints : List Int := [0, 1, 2, 3, -1, -2, 7, 100, 4294967296, -4294967296, 5, 4]
def Tape.text (t : Tape) : Val := Val.ofText (txts.getD (t.nx 10).toNat ⟨#[]⟩)
def Tape.int (t : Tape) : Val := Val.ofInt (ints.getD (t.nx 12).toNat 0)
theorem Xz (t : Tape) (ht : t.ok) : HC 127 [.c (.bp 0 0 0)] [(tB t)] (.agg (t.text.d.map .d)) [(tB (t.go 10))] := by
 have hn := Ee t 10 ht (by omega) (by omega)
 obtain ⟨b1, b2⟩ := t.nx_bd 10
 have hv : txts[(t.nx 10).toNat]? = some (txts.getD (t.nx 10).toNat ⟨#[]⟩) := by
  rw [QW, Bo (by simp [txts]; omega)]; rfl
 have jN : (txts.map sD)[(t.nx 10).toNat]? = some (sD (txts.getD (t.nx 10).toNat ⟨#[]⟩)) := by rw [BU, hv]; rfl
 have hr := HA (txts.getD (t.nx 10).toNat ⟨#[]⟩)
 change PCall _ _ _ (.v (.agg t.text.d)) at hr
 generalize txts.getD (t.nx 10).toNat ⟨#[]⟩ = s at hv jN hr
 generalize t.nx 10 = z at hn b1 b2 hv jN
 generalize t.go 10 = t' at hn
 refine Au hT Tryz.func127 Tryz.ntmps127 [.cell 2 73] fun B => ?_
 repeat' first | refine kz ?_ | refine AF jN ?_ | refine Ao ?_ | refine Aa (hr) ?_ | refine Ae [0] (hn) ?_ | refine CM Ad ?_ ?_ | exact k0 | refine Ab ?_
theorem ao (t : Tape) (ht : t.ok) : HC 128 [.c (.bp 0 0 0)] [(tB t)] (.agg (t.int.d.map .d)) [(tB (t.go 12))] := by
 have hn := Ee t 12 ht (by omega) (by omega)
 obtain ⟨b1, b2⟩ := t.nx_bd 12
 have hv : ints[(t.nx 12).toNat]? = some (ints.getD (t.nx 12).toNat 0) := by
  rw [QW, Bo (by simp [ints]; omega)]; rfl
 have jN : (ints.map iD)[(t.nx 12).toNat]? = some (iD (ints.getD (t.nx 12).toNat 0)) := by rw [BU, hv]; rfl
 have hr := Bw (ints.getD (t.nx 12).toNat 0)
 change PCall _ _ _ (.v (.agg t.int.d)) at hr
 generalize ints.getD (t.nx 12).toNat 0 = s at hv jN hr
 generalize t.nx 12 = z at hn b1 b2 hv jN
 generalize t.go 12 = t' at hn
 refine Au hT Tryz.func128 Tryz.ntmps128 [.cell 2 73] fun B => ?_
 repeat' first | refine kz ?_ | refine AF jN ?_ | refine Ao ?_ | refine Aa (hr) ?_ | refine Ae [0] (hn) ?_ | refine CM Ad ?_ ?_ | exact k0 | refine Ab ?_
def Tape.val (t : Tape) : Val × Tape :=
 if t.nx 5 = 0 then (Val.null, t.go 5)
 else if t.nx 5 = 1 ∨ t.nx 5 = 2 then ((t.go 5).text, (t.go 5).go 10)
 else ((t.go 5).int, (t.go 5).go 12)
theorem Th (t : Tape) (ht : t.ok) : HC 78 [.c (.bp 0 0 0)] [(tB t)] (.agg (t.val.1.d.map .d)) [(tB t.val.2)] := by
 have hn := Ee t 5 ht (by omega) (by omega)
 obtain ⟨b1, b2⟩ := t.nx_bd 5
 have h1 := Xz (t.go 5) (ht.go 5)
 have h2 := ao (t.go 5) (ht.go 5)
 by_cases hz : t.nx 5 = 0
 ·have e : t.val = (Val.null, t.go 5) := if_pos hz
  rw [e]
  rw [hz] at hn
  generalize t.go 5 = t' at hn
  refine Au hT Tryz.func78 Tryz.ntmps78 [.cell 2 73] fun B => ?_
  repeat' first | refine kz ?_ | refine Az rfl (fun hb => ?_) (fun hb => ?_) | refine Ae [0] (hn) ?_ | refine CM Ad ?_ ?_ | exact k0 | refine Ab ?_
 ·by_cases ho : t.nx 5 = 1 ∨ t.nx 5 = 2
  ·have e : t.val = ((t.go 5).text, (t.go 5).go 10) := by rw [Tape.val, if_neg hz, if_pos ho]
   rw [e]
   generalize t.nx 5 = z at hn hz ho b1 b2
   generalize t.go 5 = t' at hn h1
   refine Au hT Tryz.func78 Tryz.ntmps78 [.cell 2 73] fun B => ?_
   repeat' first | refine kz ?_ | refine Az rfl (fun hb => ?_) (fun hb => ?_) | refine Ae [0] (hn) ?_ | refine Ae [0] (h1) ?_ | refine CM Ad ?_ ?_ | exact k0 | refine Ab ?_
  ·have e : t.val = ((t.go 5).int, (t.go 5).go 12) := by rw [Tape.val, if_neg hz, if_neg ho]
   rw [e]
   generalize t.nx 5 = z at hn hz ho b1 b2
   generalize t.go 5 = t' at hn h2
   refine Au hT Tryz.func78 Tryz.ntmps78 [.cell 2 73] fun B => ?_
   repeat' first | refine kz ?_ | refine Az rfl (fun hb => ?_) (fun hb => ?_) | refine Ae [0] (hn) ?_ | refine Ae [0] (h2) ?_ | refine CM Ad ?_ ?_ | exact k0 | refine Ab ?_
def iE (l : List Int) : Dat := .sl (l.map fun n => [.lit (.int .i64 n)])
theorem bG (g : FuncId) (p : Entry → Bool) (hg : ∀ e : Entry, PC g [.agg e.d] (.v (.one (.lit (.bool (p e)))))) (b : List Entry) :
   ∃ k : Int, (0 ≤ k ↔ b.any p = true) ∧ PC 230 [.one (Ak b), .one (.lit (.func (.func g) #[] #[]))] (.v (.one (.lit (.int .i64 k)))) := by
 have key : ∀ K : Int, (∀ i e, b[i]? = some e → p e = true → (b.take i).all (fun e => !p e) = true → K = i) → (b.all (fun e => !p e) = true → K = -1) →
    PC 230 [.one (Ak b), .one (.lit (.func (.func g) #[] #[]))] (.v (.one (.lit (.int .i64 K)))) := by
   intro K yv yw
   refine Ac hT Tryz.func230 Tryz.ntmps230 [.tmp 4] fun B => ?_
   refine GM 0 rfl fun mI => ?_
   simp only [BR, maxLen] at mI
   repeat' first | refine kz ?_ | refine Ao ?_ | refine kf ?_ | fail
   refine AK (X := Nat) ([4, 5] ++ List.range' 8 11) (fun x => x ≤ b.length ∧ (b.take x).all (fun e => !p e) = true) (fun x lz => (8, (iC x)) :: lz) (fun x => []) (fun x => b.length - x) (0) ?_ ?_ ?_ ?_
   repeat' first | exact k0 | refine kw ?_ | omega
   ·exact ⟨by simp, by simp⟩
   rintro i c ⟨hi, hinv⟩
   by_cases i7 : i < b.length
   ·obtain ⟨e, hv⟩ := gx i7
    have ju : ∀ f : Entry → Bool, (b.take (i + 1)).all f = ((b.take i).all f && f e) := fun f => by rw [Gm, hv, dJ]; simp
    have mD := hg e
    have mZ := yv i e hv
    cases hp : p e
    ·rw [hp] at mD
     repeat' first | refine kz ?_ | refine AF hv ?_ | refine Ao ?_ | refine Aa (mD) ?_ | refine kf ?_ | fail
     apply Af (i + 1) <;> (try dsimp only) <;> try repeat' first | exact k0 | refine kw ?_ | omega
     exact ⟨by omega, by rw [ju, hinv, hp]; rfl⟩
    ·rw [hp] at mD
     rw [mZ hp hinv]
     repeat' first | refine kz ?_ | refine AF hv ?_ | refine Ao ?_ | refine Aa (mD) ?_ | refine kf ?_ | fail
     all_goals rfl
   ·have k8 : i = b.length := by omega
    subst k8
    rw [Ir] at hinv
    rw [yw hinv]
    repeat' first | refine kz ?_ | refine Ao ?_ | refine kf ?_ | fail
    all_goals rfl
 cases hf : b.findIdx? p with
 | none =>
   refine ⟨-1, ?_, key (-1) (fun i e he hp _ => ?_) (fun _ => rfl)⟩
   ·have : b.any p = false := by
     rw [List.any_eq_false]
     intro x hx
     have := List.findIdx?_eq_none_iff.1 hf x hx
     simpa using this
    rw [this]; simp
   ·have := List.findIdx?_eq_none_iff.1 hf e (Cb he)
    rw [hp] at this; cases this
 | some j =>
   obtain ⟨hj, v7, i7⟩ := List.findIdx?_eq_some_iff_getElem.1 hf
   refine ⟨j, ?_, key j (fun i e he hp j9 => ?_) (fun j9 => ?_)⟩
   ·have : b.any p = true := List.any_eq_true.2 ⟨_, Fo hj, v7⟩
    rw [this]; simp
   ·obtain ⟨kJ, k8⟩ := dA.1 he
    rcases Nat.lt_trichotomy i j with h | h | h
    ·exact absurd (by rw [k8]; exact hp) (i7 i h)
    ·rw [h]
    ·have hm : b[j] ∈ b.take i := by
      rw [List.mem_take_iff_getElem]
      exact ⟨j, by omega, rfl⟩
     have := Eg.1 j9 _ hm
     rw [v7] at this; cases this
   ·have := Eg.1 j9 _ (Fo hj)
    rw [v7] at this; cases this
theorem O9 (g : FuncId) (p : Entry → Bool) (hg : ∀ e : Entry, PC g [.agg e.d] (.v (.one (.lit (.bool (p e)))))) (b : List Entry) :
  PC 191 [.one (Ak b), .one (.lit (.func (.func g) #[] #[]))] (.v (.one (.lit (.bool (b.any p))))) := by
 obtain ⟨k, hk, hc⟩ := bG g p hg b
 refine Ac hT Tryz.func191 Tryz.ntmps191 [.tmp 4] fun B => ?_
 repeat' first | refine kz ?_ | refine Aa (hc) ?_ | refine kf ?_ | fail
 refine congrArg Dat.lit (congrArg Value.bool ?_)
 rw [Q2, decide_eq_true_eq]
 exact hk
theorem XA {t : Tape} (h : t.ok) : t.val.2.ok := by
 unfold Tape.val
 split
 ·exact h.go 5
 ·split
  ·exact (h.go 5).go 10
  ·exact (h.go 5).go 12
def Jz (t : Tape) : Nat → List Val × Tape
 | 0 => ([], t)
 | j + 1 => ((Jz t j).1 ++ [(Jz t j).2.val.1], (Jz t j).2.val.2)
theorem Om {t : Tape} (h : t.ok) : ∀ j, (Jz t j).2.ok ∧ (Jz t j).1.length = j
 | 0 => ⟨h, rfl⟩
 | j + 1 => by
   obtain ⟨h1, h2⟩ := Om h j
   exact ⟨XA h1, by rw [Jz]; simp [h2]⟩
theorem ff (t : Tape) (n : Nat) (ht : t.ok) (hn : n ≤ 1000) : ∃ (r : List Val) (t' : Tape), t'.ok ∧ r.length ≤ n ∧ HC 34 [.c (.bp 0 0 0), (iC (n : Int))] [(tB t)] (.c (.arr 1 1 r.length)) [(tB t'), .arr 1 73 3 (r.map Val.d)] := by
 have mY := Ee t ((n : Int) + 1) ht (by omega) (by omega)
 obtain ⟨b1, b2⟩ := t.nx_bd ((n : Int) + 1)
 have rf := ht.go ((n : Int) + 1)
 obtain ⟨i, hi⟩ := R8 b1
 rw [hi] at mY b1 b2
 generalize t.go ((n : Int) + 1) = t1 at mY rf
 obtain ⟨o1, o2⟩ := Om rf i
 refine ⟨(Jz t1 i).1, (Jz t1 i).2, o1, by omega, ?_⟩
 rw [o2]
 have jG : i ≤ 1000 := by omega
 refine Au hT Tryz.func34 Tryz.ntmps34 [.tmp 4] fun B => ?_
 repeat' first | refine kz ?_ | refine Ae [0] (mY) ?_ | refine kg ?_ ?_ | exact k0 | refine Ab ?_ | refine m1 ?_ ?_
 refine Bv 5 73 3 ?_
 refine AK (X := Nat × Nat) ([5, 6] ++ List.range' 11 9) (fun x => x.1 ≤ i) (fun x lz => (5, .c (.arr 1 x.2 x.1)) :: (6, (iC ((i - x.1 : Nat) : Int))) :: lz) (fun x => [(.box 0 [.d (Ds ((Jz t1 x.1).2).l), .d (.lit (.int .i64 ((Jz t1 x.1).2).at_))]), .arr x.2 73 3 ((Jz t1 x.1).1.map Val.d)]) (fun x => i - x.1) ((0, 2)) ?_ ?_ ?_ ?_
 repeat' first | exact k0 | refine kw ?_ | refine kv ?_ ?_ | omega
 rintro ⟨m, k⟩ c hm
 dsimp only at hm ⊢
 obtain ⟨ll, hlen⟩ := Om rf m
 by_cases i7 : m < i
 ·have hv := Th (Jz t1 m).2 ll
  repeat' first | refine kz ?_ | refine Ae [0] (hv) ?_ | refine kg ?_ ?_ | exact k0 | refine Ab ?_ | refine m1 ?_ ?_
  apply Af ((m + 1, _)) <;> (try dsimp only) <;> try repeat' first | exact k0 | refine w1 ?_ | refine Ab ?_ | refine m1 ?_ ?_ | omega
  rw [Jz, Ag']; rfl
 ·obtain rfl : m = i := by omega
  repeat' first | refine kz ?_ | refine kg ?_ ?_ | exact k0 | refine Ab ?_ | refine m1 ?_ ?_
def Sk (l : List Int) : Dat := .sl (l.map fun n => [.lit (.int .i64 n)])
structure Sta where
 key : List Val
 count : Int
 sums : List Int
 some : List Int
def Sta.d (s : Sta) : List Dat := [A0 s.key, .lit (.int .i64 s.count), Sk s.sums, Sk s.some]
def Sta.x (s : Sta) : List Dat := [Fq s.key, .lit (.int .i64 s.count), Sk s.sums, Sk s.some]
def iw (l : List Sta) : Dat := .sl (l.map Sta.d)
def Sta.zero (s : Sta) : Bool := decide (s.count = 0) && !(s.sums.any fun n => decide (n ≠ 0)) && !(s.some.any fun n => decide (n ≠ 0))
def bu (l : List Agg) : Bool := l.all fun x => decide (x.func = 0 ∨ x.func = 1)
def gy (n m : Int) : Bool := decide (-m ≤ n) && decide (n ≤ m)
def gV (ag : List Agg) (s : Sta) : List (Agg × Int × Int) := ag.zip (s.sums.zip s.some)
def eF (t : Agg × Int × Int) : Bool := gy t.2.2 1073741824 && gy t.2.1 4611686018427387904 && (!decide (t.1.func = 0) || (decide (t.2.2 = 0) && decide (t.2.1 = 0)))
def bA (ag : List Agg) (s : Sta) : Bool := decide (s.sums.length = ag.length) && decide (s.some.length = ag.length) && gy s.count 1073741824 && !s.zero && (gV ag s).all eF
def eG (ag : List Agg) (s : Sta) : Bool := decide (s.key.length ≤ 8) && AR s.key && bA ag s
def ZO (ag : List Agg) : Option Sta → List Sta → Bool
 | _, [] => true
 | p, e :: l => eG ag e && (match p with | none => true | some q => decide (Aj q.key e.key < 0)) && ZO ag (some e) l
def ZP (ag : List Agg) (l : List Sta) : Bool := decide (l.length ≤ 4096) && ZO ag none l
def gW (l : List Sta) (i : Nat) : Option Sta := if i = 0 then none else l[i - 1]?
end Go.Proofs.YtmpgmjlanngkfaaGreat
end
section
namespace Go.Proofs.YtmpgmjlanngkfaaGreat
open Go.Abs Go.RowKit
set_option linter.unusedSimpArgs false
set_option maxRecDepth 100000
theorem US {a b : ByteArray} (h : a.toList = b.toList) : a = b := by
 rw [ByteArray.toList_eq, ByteArray.toList_eq] at h
 cases a; cases b
 simp only at h
 congr
 exact Array.toList_inj.1 h
theorem cA {a b : Val} : CP a b = true ↔ a = b := by
 refine ⟨fun h => ?_, fun h => by rw [h]; exact F9 _⟩
 simp only [CP, BM, beq_iff_eq] at h
 obtain ⟨h1, h2, h3⟩ := h
 have := US h3
 cases a; cases b; simp_all
theorem R3 : ∀ {r s : List Val}, B1 r s = true ↔ r = s
 | [], [] => by simp [B1]
 | a :: x, b :: y => by simp [B1, cA, R3 (r := x) (s := y)]
 | [], _ :: _ => by simp [B1]
 | _ :: _, [] => by simp [B1]
end Go.Proofs.YtmpgmjlanngkfaaGreat
end
section
namespace Go.Proofs.YtmpgmjlanngkfaaGreat
open Go.Abs Go.RowKit
attribute [local irreducible] ARun Av MCall PCall HCall Ap SF CF CFs Ag Ai As fin AY VLe
set_option linter.unusedSimpArgs false
set_option maxRecDepth 100000
set_option maxHeartbeats 4000000
def ix (es : List Entry) (x : Agg) : Int := if x.func = 1 then Gz (CG x es) else 0
def iy (es : List Entry) (x : Agg) : Int := if x.func = 1 then Gn (CG x es) else 0
def nE (es : List Entry) : Int := (es.map Entry.count).sum
def iz (ag : List Agg) (g : List Val × List Entry) : Sta := ⟨g.1, nE g.2, ag.map (ix g.2), ag.map (iy g.2)⟩
def iA (f : Agg → Int) (ag : List Agg) (k : Nat) : List (List Dat) := ((ag.take k).map fun x => [Dat.lit (.int .i64 (f x))]) ++ List.replicate (ag.length - k) [Dat.lit (.int .i64 0)]
end Go.Proofs.YtmpgmjlanngkfaaGreat
end
