/-
  Aggregates: Exact, Group.
-/
import Derived.Test.YtmpgmjlanngkfaaGreatAgi
import Derived.Test.YtmpgmjlanngkfaaGreatPos
import Derived.Test.YtmpgmjlanngkfaaGreatNrm
import Derived.Test.YtmpgmjlanngkfaaGreatMrg
section
namespace Go.Proofs.YtmpgmjlanngkfaaGreat
open Go.Abs Go.RowKit
attribute [local irreducible] ARun Au MCall PCall HCall Ak SF CF CFs Af Ag Ar fin AP VLe
set_option linter.unusedSimpArgs false
set_option maxRecDepth 100000
set_option maxHeartbeats 4000000
variable {es : List Entry}
theorem Vp (f : Int) (L : List (Val × Int)) (hf : f = 2 ∨ f = 3 ∨ f = 4) : foldE f L = rkE f L := by
 unfold foldE rkE
 rcases hf with rfl | rfl | rfl
 ·rw [if_neg (by decide), if_neg (by decide), if_pos rfl]; simp
 ·rw [if_neg (by decide), if_neg (by decide), if_neg (by decide), if_pos rfl]; simp
 ·rw [if_neg (by decide), if_neg (by decide), if_neg (by decide), if_neg (by decide), if_pos rfl]; simp
theorem X7 (f : Int) (L : List (Val × Int)) (hb : U8 L) (hp : MR L) : PC 145 [.one (.lit (.int .i64 f)), .one (D4 L)] (.v (.agg (foldE f L).d)) := by
 have hl := hb.1
 by_cases h0 : f = 0
 ·subst h0
  have hn := Io (GZ L)
  have he : foldE 0 L = Val.ofInt (GZ L) := by unfold foldE; rw [if_pos rfl]
  rw [he]
  refine Ac hT Tryz.func145 Tryz.ntmps145 [.cell 4 73] fun B => ?_
  repeat' first | refine kz ?_ | refine Aw ?_ | refine kh ?_ ?_ | exact ⟨⟩ | fail
  refine A0 (X := Nat × Int) ([5, 7] ++ List.range' 15 9) (fun x => x.1 ≤ L.length ∧ x.2 = GZ (L.take x.1)) (fun x lz => (15, (iC x.1)) :: (5, .c (.d (.lit (.int .i64 x.2)))) :: lz) (fun x => [.box 1 (Val.null.d.map .d)]) (fun x => L.length - x.1) ((0, 0)) ?_ ?_ ?_ ?_
  repeat' first | exact k0 | refine kw ?_ | omega
  ·exact ⟨by simp, rfl⟩
  rintro ⟨k, m⟩ c ⟨hk, hm⟩
  dsimp only at hk hm ⊢
  by_cases hkl : k < L.length
  ·obtain ⟨x, hv⟩ := gx (l := L) (i := k) (by omega)
   have hv2 : (L.map Cp)[k]? = some (Cp x) := by rw [B2, hv]; rfl
   have e1 := MK hv
   have b1 := LM hb (k + 1)
   rw [← hm] at e1
   repeat' first | refine kz ?_ | refine AX hv2 ?_ | refine Aw ?_ | refine kh ?_ ?_ | exact ⟨⟩ | fail
   apply Ad ((k + 1, m + x.2)) <;> (try dsimp only) <;> try repeat' first | exact k0 | refine kw ?_ | omega
   all_goals exact ⟨by omega, e1.symm⟩
  ·rw [Ao (show L.length ≤ k by omega)] at hm
   rw [← hm] at hn ⊢
   repeat' first | refine kz ?_ | refine Aw ?_ | refine Aa (hn) ?_ | refine kh ?_ ?_ | exact ⟨⟩ | fail
   all_goals rfl
 by_cases h1 : f = 1
 ·subst h1
  have hs := Sz L hb
  have hn := Io (IJ L)
  by_cases hc : IK L = 0
  ·have he : foldE 1 L = Val.null := by unfold foldE; rw [if_neg (by decide), if_pos rfl, if_pos hc]
   rw [he]
   rw [hc] at hs
   refine Ac hT Tryz.func145 Tryz.ntmps145 [.cell 4 73] fun B => ?_
   repeat' first | refine kz ?_ | refine Aw ?_ | refine Aa (hs) ?_ | refine kh ?_ ?_ | exact ⟨⟩ | fail
   all_goals rfl
  ·have he : foldE 1 L = Val.ofInt (IJ L) := by unfold foldE; rw [if_neg (by decide), if_pos rfl, if_neg hc]
   rw [he]
   generalize IK L = n at hs hc
   refine Ac hT Tryz.func145 Tryz.ntmps145 [.cell 4 73] fun B => ?_
   repeat' first | refine kz ?_ | refine Aw ?_ | refine Aa (hs) ?_ | refine Aa (hn) ?_ | refine kh ?_ ?_ | exact ⟨⟩ | fail
   all_goals rfl
 by_cases h2 : f = 2 ∨ f = 3 ∨ f = 4
 ·have hr := SH L hb hp f h2
  rw [Vp f L h2]
  rcases h2 with rfl | rfl | rfl
  all_goals
   refine Ac hT Tryz.func145 Tryz.ntmps145 [.cell 4 73] fun B => ?_
   repeat' first | refine kz ?_ | refine Aw ?_ | refine Aa (hr) ?_ | refine kh ?_ ?_ | exact ⟨⟩ | fail
   all_goals rfl
 ·have he : foldE f L = Val.null := by unfold foldE; rw [if_neg h0, if_neg h1, if_neg (by omega), if_neg (by omega), if_neg (by omega)]
  rw [he]
  refine Ac hT Tryz.func145 Tryz.ntmps145 [.cell 4 73] fun B => ?_
  repeat' first | refine kz ?_ | refine Aw ?_ | refine kh ?_ ?_ | exact ⟨⟩ | fail
  all_goals first
   | rfl
   | (exfalso; simp at hb; omega)
structure Agg where
 name : ByteArray
 func : Int
 expr : List Trm
def Agg.d (x : Agg) : List Dat := [.lit (.string x.name), .lit (.int .i64 x.func), Bw x.expr]
def SI (l : List Agg) : Dat := .sl (l.map Agg.d)
def W0 (x : Agg) (e : Entry) : Val × Int := (if x.func = 0 then Val.null else Gc x.expr e.row, e.count)
def CE (x : Agg) (es : List Entry) : List (Val × Int) := es.map (W0 x)
theorem OY {ag : Agg} {i : Nat} {y : Entry} (h : es[i]? = some y) : (CE ag (es.take i)).map Cp ++ [Cp (W0 ag y)] = (CE ag (es.take (i + 1))).map Cp := by
 rw [BS h]; simp [CE]
theorem HB (ag : Agg) (es : List Entry) : (CE ag es).length = es.length := by simp [CE]
theorem SJ (g : List Val × List Entry) (ag : Agg) (hl : g.2.length ≤ 4096) : PC 118 [.agg (Si g), .agg ag.d] (.v (.one (D4 (CE ag g.2)))) := by
 obtain ⟨key, es⟩ := g
 dsimp only at hl ⊢
 refine Ac hT Tryz.func118 Tryz.ntmps118 [.tmp 4] fun B => ?_
 repeat' first | refine kz ?_ | refine Aw ?_ | refine kf ?_ | fail
 refine Cr 5 186 4 ?_
 refine A0 (X := Nat × Nat) ([5, 7, 8] ++ List.range' 12 20) (fun x => x.1 ≤ es.length) (fun x lz => (12, (iC x.1)) :: (5, .c (.arr 2 x.2 x.1)) :: lz) (fun x => [.box 1 [.d (Ez key), .d (Am es)], .box 2 (ag.d.map .d), .arr x.2 186 4 ((CE ag (es.take x.1)).map Cp)]) (fun x => es.length - x.1) ((0, 3)) ?_ ?_ ?_ ?_
 repeat' first | exact k0 | refine kw ?_ | refine kv ?_ ?_ | omega
 rintro ⟨i, k⟩ c hi
 dsimp only at hi ⊢
 by_cases hlt : i < es.length
 ·obtain ⟨y, hv⟩ := gx hlt
  have hs := OY (ag := ag) hv
  have hal : ((CE ag (es.take i)).map Cp).length = i := by simp [CE]; omega
  have hv2 : (es.map Entry.d)[i]? = some y.d := by rw [B2, hv]; rfl
  generalize (CE ag (es.take i)).map Cp = A at hs hal ⊢
  by_cases hf : ag.func = 0
  ·have hy : Cp (W0 ag y) = Val.null.d ++ [.lit (.int .i64 y.count)] := by unfold W0 Cp; rw [if_pos hf]; rfl
   rw [hy] at hs
   repeat' first | refine kz ?_ | refine AX hv2 ?_ | refine Aw ?_ | refine kf ?_ | fail
   apply Ad ((i + 1, c + 3)) <;> (try dsimp only) <;> try repeat' first | exact k0 | refine kw ?_ | refine kv ?_ ?_ | omega
   all_goals first
    | omega
    | (rw [Ao (by omega)]; exact hs)
  ·have hev := Hc ag.expr y.row
   have hy : Cp (W0 ag y) = (Gc ag.expr y.row).d ++ [.lit (.int .i64 y.count)] := by unfold W0 Cp; rw [if_neg hf]; rfl
   rw [hy] at hs
   repeat' first | refine kz ?_ | refine AX hv2 ?_ | refine Aw ?_ | refine Aa (hev) ?_ | refine kf ?_ | fail
   apply Ad ((i + 1, c + 3)) <;> (try dsimp only) <;> try repeat' first | exact k0 | refine kw ?_ | refine kv ?_ ?_ | omega
   all_goals first
    | omega
    | (rw [Ao (by omega)]; exact hs)
 ·obtain rfl : i = es.length := by omega
  rw [Ao (Nat.le_refl _)]
  refine Bc (m := es.length) (r := 2) (es := (CE ag es).map Cp) 5 ?_ (hl := by rw [BQ, HB]; omega) (hes := Ao (by rw [BQ, HB]; omega))
  repeat' first | refine kz ?_ | refine Aw ?_ | refine kf ?_ | fail
  all_goals rfl
theorem HD (b : List Entry) (kf : List Val → List Val) (hk : CS b kf) : (Dp b kf).length ≤ b.length := by
 have hcl : ∀ e ∈ b.map fun e : Entry => (⟨kf e.row, 1⟩ : Entry), AG e.row := fun e he => by
  obtain ⟨x, hx, rfl⟩ := List.mem_map.1 he
  exact hk x hx
 obtain ⟨h1, hx⟩ := BX _ hcl
 have h2 := Kg h1.nz
 have h3 := Kf (b.map fun e : Entry => (⟨kf e.row, 1⟩ : Entry))
 have h4 : A9 (b.map fun e : Entry => (⟨kf e.row, 1⟩ : Entry)) = b.length := by
  clear hcl h1 h2 h3 hk hx
  induction b with
  | nil => rfl
  | cons e b ih => rw [List.map_cons, A9, ih, List.length_cons]; simp; omega
 unfold Dp
 rw [BQ]; omega
theorem SK (b : List Entry) (kf : List Val → List Val) (hk : CS b kf) : (GX b kf).length ≤ b.length := by
 unfold GX; rw [BQ]; exact HD b kf hk
theorem SL {b : List Entry} {kf : List Val → List Val} (hk : CS b kf) {g : List Val × List Entry} (h : g ∈ GX b kf) : (∃ e ∈ b, kf e.row = g.1) ∧ g.2 = b.filter (Vr kf g.1) := by
 obtain ⟨k, hkm, rfl⟩ := List.mem_map.1 h
 exact ⟨((Ew hk).2.2 k).1 hkm, rfl⟩
theorem QY {v : Val} (h : v.valid = true) : -4294967296 ≤ v.int ∧ v.int ≤ 4294967296 := by
 unfold Val.valid at h
 split at h
 ·simp at h; omega
 ·split at h
  ·simp at h; omega
  ·split at h
   ·simp at h; omega
   ·cases h
theorem KK (x : Agg) (e : Entry) : (W0 x e).1.valid = true := by
 unfold W0
 dsimp only
 split
 ·exact FG
 ·exact F1 ..
theorem SM {x : Agg} (hl : es.length ≤ 4096) (hc : ∀ e ∈ es, -262144 ≤ e.count ∧ e.count ≤ 262144) : U8 (CE x es) := by
 refine ⟨by rw [HB]; exact hl, fun y hy => ?_⟩
 obtain ⟨e, he, rfl⟩ := List.mem_map.1 hy
 exact ⟨QY (KK x e), hc e he⟩
theorem SN {x : Agg} (hc : ∀ e ∈ es, 0 < e.count) : MR (CE x es) := fun y hy => by
 obtain ⟨e, he, rfl⟩ := List.mem_map.1 hy
 exact hc e he
theorem LN {l : List Entry} (h : Ap l = true) : Aj l = true ∧ ∀ e ∈ l, 0 < e.count := by
 simp only [Ap, Bi] at h
 refine ⟨h.1, fun e he => ?_⟩
 have h1 := ((AF h.1).2 e he).2.2
 have h2 := CN.1 h.2 e he
 simp at h2; omega
noncomputable def grpRow (ag : List Agg) (g : List Val × List Entry) : List Val := g.1 ++ ag.map fun x => foldE x.func (CE x g.2)
noncomputable def groupE (b : List Entry) (keys : List Itm) (ag : List Agg) : List Entry × Int :=
 if Ap b = true ∧ keys.length + ag.length ≤ 8 then A4 ((GX b (Bm keys)).map fun g => ⟨grpRow ag g, 1⟩) else ([], 1)
theorem Jn (g : List Val × List Entry) : grpRow [] g = g.1 := by simp [grpRow]
theorem MP {ag : List Agg} {g : List Val × List Entry} {k : Nat} {x : Agg} (h : ag[k]? = some x) : grpRow (ag.take (k + 1)) g = grpRow (ag.take k) g ++ [foldE x.func (CE x g.2)] := by
 unfold grpRow; rw [BS h]; simp
theorem EW (ag : List Agg) (g : List Val × List Entry) : (grpRow ag g).length = g.1.length + ag.length := by simp [grpRow]
def Z1 (k v m : Nat) (key : List Val) : SVal := match k with
 | 0 => .c (.d (Ez key))
 | _ + 1 => .c (.arr 3 v m)
noncomputable def grM (k v : Nat) (ag : List Agg) (g : List Val × List Entry) : List Blk := match k with
 | 0 => []
 | k + 1 => [.arr v 73 3 ((grpRow (ag.take (k + 1)) g).map Val.d)]
theorem D5 : DeferOk Tryz.prog 144 0 := by
 refine ⟨⟨_, Tryz.func144, by kernel_rfl, by kernel_rfl⟩, fun vs w hl => ?_⟩
 match vs, hl with
 | [], _ =>
   refine callsD_of_wpS Tryz.func144 rfl fun c₀ cs hu => ?_
   apply wpS_region
   simp [wpOpsS, go_sem, recoverD, hu, Tryz.ntmps144, Exit.thenS]
   cases c₀
   simp_all [bodyPostS, results, Tryz.results144]
theorem Vq (b : List Entry) (keys : List Itm) (ag : List Agg) (hkl : keys.length ≤ 10000) (hal : ag.length ≤ 10000) : PC 90 [.one (Am b), .one (MU keys), .one (SI ag)] (.tup [.one (Am (groupE b keys ag).1), .one (.lit (.int .i64 (groupE b keys ag).2))]) := by
 by_cases hc : Ap b = true ∧ keys.length + ag.length ≤ 8
 ·have hK : CS b (Bm keys) := fun e _ => Ce keys e.row
  obtain ⟨hb1, hb2⟩ := hc
  obtain ⟨hbv, hbp⟩ := LN hb1
  obtain ⟨hbl, hbm⟩ := AF hbv
  have he : groupE b keys ag = A4 ((GX b (Bm keys)).map fun g => ⟨grpRow ag g, 1⟩) := if_pos ⟨hb1, hb2⟩
  rw [he]
  have hp := DY b
  rw [hb1] at hp
  have hg := SZ b keys hbl (by omega)
  have hgl := SK b _ hK
  have hno := Hj ((GX b (Bm keys)).map fun g => ⟨grpRow ag g, 1⟩) (by rw [BQ]; omega)
  have hgm : ∀ g ∈ GX b (Bm keys), g.1.length = keys.length ∧ g.2.length ≤ 4096 ∧ (∀ e ∈ g.2, e ∈ b) := fun g hg => by
   obtain ⟨⟨e, _, h1⟩, h2⟩ := SL hK hg
   refine ⟨by rw [← h1, G0], ?_, fun e he => ?_⟩
   ·have := Sl (Vr (Bm keys) g.1) b
    rw [h2]; omega
   ·rw [h2] at he; exact (Ms.1 he).1
  clear he
  generalize GX b (Bm keys) = G at hg hgl hno hgm
  generalize A4 (G.map fun g => ⟨grpRow ag g, 1⟩) = R at hno
  refine Ac hT Tryz.func90 Tryz.ntmps90 [.tmp 6, .tmp 7] fun B => ?_
  repeat' first | refine kz ?_ | refine Aw ?_ | refine Aa (hp) ?_ | refine Aa (hg) ?_ | refine kf ?_ | refine AA (by repeat (first | exact Ae | refine As D5 ?_)) ?_ ?_
  refine Cr 8 56 2 ?_
  refine A0 (X := Nat × Nat) ([8, 10, 11, 13] ++ List.range' 29 28) (fun x => x.1 ≤ G.length) (fun x lz => (29, (iC x.1)) :: (8, .c (.arr 0 x.2 x.1)) :: lz) (fun x => [.arr x.2 56 2 (((G.take x.1).map fun g => (⟨grpRow ag g, 1⟩ : Entry)).map Entry.d)]) (fun x => G.length - x.1) ((0, 1)) ?_ ?_ ?_ ?_
  repeat' first | exact k0 | refine kw ?_ | refine kv ?_ ?_ | omega
  rintro ⟨i, v⟩ c0 hi
  dsimp only at hi ⊢
  by_cases hlt : i < G.length
  ·have hx : G[i]? = some G[i] := Bh hlt
   have hgi := hgm _ (Fp hlt)
   generalize G[i] = g at hx hgi
   have hx2 : (G.map Si)[i]? = some (Si g) := by rw [B2, hx]; rfl
   obtain ⟨hg1, hg2, hg3⟩ := hgi
   have hsn : ((G.take i).map fun g => (⟨grpRow ag g, 1⟩ : Entry)).map Entry.d ++ [[BP (grpRow ag g), .lit (.int .i64 1)]] = ((G.take (i + 1)).map fun g => (⟨grpRow ag g, 1⟩ : Entry)).map Entry.d := by
    rw [BS hx]; simp [Entry.d]
   have hAl : (((G.take i).map fun g => (⟨grpRow ag g, 1⟩ : Entry)).map Entry.d).length = i := by simp; omega
   generalize ((G.take i).map fun g => (⟨grpRow ag g, 1⟩ : Entry)).map Entry.d = A at hsn hAl ⊢
   repeat' first | refine kz ?_ | refine AX hx2 ?_ | refine Aw ?_ | refine kh ?_ ?_ | exact ⟨⟩ | fail
   refine A0 (X := Nat × Nat) ([11, 13] ++ List.range' 37 14) (fun x => x.1 ≤ ag.length) (fun x lz => (37, (iC x.1)) :: (11, Z1 x.1 x.2 (g.1.length + x.1) g.1) :: lz) (fun x => .arr v 56 2 A :: .box (c0 + 1) ((Si g).map .d) :: .dead :: grM x.1 x.2 ag g) (fun x => ag.length - x.1) ((0, 0)) ?_ ?_ ?_ ?_
   repeat' first | exact k0 | refine kw ?_ | refine kv ?_ ?_ | omega
   ·exact Of
   rintro ⟨k, r⟩ c1 hk
   dsimp only at hk ⊢
   have hmx : (g.1.map Val.d).length = g.1.length := by simp
   by_cases hkl3 : k < ag.length
   ·obtain ⟨y, hy⟩ := gx hkl3
    have hy2 : (ag.map Agg.d)[k]? = some y.d := by rw [B2, hy]; rfl
    have hvc := SJ g y hg2
    have hfc := X7 y.func (CE y g.2) (SM hg2 fun e he => (hbm e (hg3 e he)).2.1) (SN fun e he => hbp e (hg3 e he))
    have hrs := congrArg (List.map Val.d) (MP (g := g) hy)
    rw [Ah', List.map_singleton] at hrs
    have hrl : ((grpRow (ag.take k) g).map Val.d).length = g.1.length + k := by rw [BQ, EW, GN]; omega
    cases k with
    | zero =>
      rw [List.take_zero, Jn] at hrs
      dsimp only [Z1, grM]
      repeat' first | refine C0 2 (mem' := _ :: _ :: _ :: _) ?_ (hm' := rfl) | (refine VL (ei := R4) (r := 3) (m := g.1.length + 1) (es := g.1.map Val.d) (ys := [(foldE y.func (CE y g.2)).d]) ?_ (by exact Nat.zero_lt_one) (by rw [hmx]; rfl) (fun el hel => by obtain ⟨z, _, rfl⟩ := List.mem_map.1 hel; rfl) (fun el hel => by rw [IT] at hel; subst hel; rfl) (by simp only [maxLen]; omega) (by simp only [R4]; omega)) | refine kz ?_ | refine AX hy2 ?_ | refine Aw ?_ | refine Aa (hvc) ?_ | refine Aa (hfc) ?_ | refine O5 ?_ | refine JH ?_ | refine AA Ae ?_ ?_ | refine B7 ?_ | refine Cv ?_
      apply Ad ((1, c1 + 2)) <;> (try dsimp only) <;> try repeat' first | exact k0 | refine kw ?_ | refine kv ?_ ?_ | omega
      all_goals exact hrs.symm
    | succ k =>
      dsimp only [Z1, grM]
      generalize (grpRow (ag.take (k + 1)) g).map Val.d = Z at hrs hrl
      repeat' first | refine C0 2 (mem' := _ :: _ :: _ :: _) ?_ (hm' := rfl) | refine kz ?_ | refine AX hy2 ?_ | refine Aw ?_ | refine Aa (hvc) ?_ | refine Aa (hfc) ?_ | refine O5 ?_ | refine JH ?_ | refine AA Ae ?_ ?_ | refine B7 ?_ | refine Cv ?_
      apply Ad ((k + 2, c1 + 2)) <;> (try dsimp only) <;> try repeat' first | exact k0 | refine kw ?_ | refine kv ?_ ?_ | omega
      all_goals (rw [Ao (by omega)]; exact hrs.symm)
   ·have hke : k = ag.length := by omega
    cases k with
    | zero =>
      have hag : ag = [] := WK hke.symm
      have hgr : grpRow ag g = g.1 := by rw [hag, Jn]
      rw [hgr] at hsn
      dsimp only [Z1, grM]
      repeat' first | refine VJ ?_ | refine kz ?_ | refine Aw ?_ | refine O5 ?_ | refine JH ?_ | refine AA Ae ?_ ?_ | refine B7 ?_ | refine Cv ?_
      apply Ad ((i + 1, _)) <;> (try dsimp only) <;> try repeat' first | exact k0 | refine w1 ?_ | refine Ab ?_ | refine m1 ?_ ?_ | refine AB ?_ | omega
      all_goals (rw [Ao (by omega)]; exact hsn)
    | succ k =>
      dsimp only [Z1, grM]
      rw [hke, Ao (Nat.le_refl _)]
      have hrl : ((grpRow ag g).map Val.d).length = g.1.length + ag.length := by rw [BQ, EW]
      refine Bc (r := 3) (m := g.1.length + ag.length) (es := (grpRow ag g).map Val.d) 11 ?_ (hl := by omega) (hes := Ao (by omega))
      repeat' first | refine kz ?_ | refine Aw ?_ | refine kh ?_ ?_ | exact ⟨⟩ | fail
      apply Ad ((i + 1, _)) <;> (try dsimp only) <;> try repeat' first | exact k0 | refine w1 ?_ | refine Ab ?_ | refine m1 ?_ ?_ | refine AB ?_ | omega
      all_goals (rw [Ao (by omega)]; exact hsn)
  ·obtain rfl : i = G.length := by omega
   rw [Ao (Nat.le_refl _)]
   refine Bc (r := 0) (m := G.length) (es := (G.map fun g => (⟨grpRow ag g, 1⟩ : Entry)).map Entry.d) 8 ?_ (hl := by simp) (hes := Ao (by simp))
   repeat' first | refine kz ?_ | refine Aw ?_ | refine Aa (hno) ?_ | refine kf ?_ | refine AA (by repeat (first | exact Ae | refine As D5 ?_)) ?_ ?_
   all_goals rfl
 ·have he : groupE b keys ag = ([], 1) := if_neg hc
  rw [he]
  have hp := DY b
  by_cases hkl2 : keys.length + ag.length ≤ 8
  ·have hb : Ap b = false := by
    cases h : Ap b with
    | false => rfl
    | true => exact absurd ⟨h, hkl2⟩ hc
   rw [hb] at hp
   refine Ac hT Tryz.func90 Tryz.ntmps90 [.tmp 6, .tmp 7] fun B => ?_
   repeat' first | refine kz ?_ | refine Aw ?_ | refine Aa (hp) ?_ | refine kf ?_ | refine AA (by repeat (first | exact Ae | refine As D5 ?_)) ?_ ?_
   all_goals rfl
  ·refine Ac hT Tryz.func90 Tryz.ntmps90 [.tmp 6, .tmp 7] fun B => ?_
   repeat' first | refine kz ?_ | refine Aw ?_ | refine kf ?_ | refine AA (by repeat (first | exact Ae | refine As D5 ?_)) ?_ ?_
   all_goals rfl
end Go.Proofs.YtmpgmjlanngkfaaGreat
end
