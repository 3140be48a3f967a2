/-
  Small bags, plain: sums and differences.
-/
import Derived.Test.YtmpgmjlanngkfaaGreatAgm
import Derived.Test.YtmpgmjlanngkfaaGreatSam
import Derived.Test.YtmpgmjlanngkfaaGreatTab
import Derived.Test.YtmpgmjlanngkfaaGreatTny
section
namespace Go.Proofs.YtmpgmjlanngkfaaGreat
open Go.Abs Go.RowKit
attribute [local irreducible] ARun Aq MCall PCall HCall Am SF CF CFs Af Al Ap B5 AW VLe
set_option linter.unusedSimpArgs false
set_option maxRecDepth 100000
set_option maxHeartbeats 4000000
theorem Uz (g : List Val × List Entry) (ag : List Agg) (hl : g.2.length ≤ 4096) (hc : ∀ e ∈ g.2, -262144 ≤ e.count ∧ e.count ≤ 262144) (hal : ag.length ≤ 10000) : PC 65 [.agg (OR g), .one (HW ag)] (.v (.agg (IG ag g).d)) :=
 (Uy g ag hl hc hal).res ⟨Ja _, .rfl, .rfl, .rfl, trivial⟩
def DR (s : Sta) : Bool := !s.zero
def Bc (b : List Entry) (keys : List Itm) (ag : List Agg) : List Sta × Int :=
 if Aj b = true ∧ keys.length + ag.length ≤ 8 ∧ EP ag = true then (((EY b (Ax keys)).map (IG ag)).filter DR, 0) else ([], 1)
theorem Dk : DeferOk Tryz.prog 62 0 := by
 refine ⟨⟨_, Tryz.func62, by kernel_rfl, by kernel_rfl⟩, fun vs w hl => ?_⟩
 match vs, hl with
 | [], _ =>
   refine callsD_of_wpS Tryz.func62 rfl fun c₀ cs hu => ?_
   apply wpS_region
   simp [wpOpsS, go_sem, recoverD, hu, Tryz.ntmps62, Exit.thenS]
   cases c₀
   simp_all [bodyPostS, results, Tryz.results62]
theorem JG (b : List Entry) (keys : List Itm) (ag : List Agg) (hkl : keys.length ≤ 10000) (hal : ag.length ≤ 10000) : PC 27 [.one (Ao b), .one (KC keys), .one (HW ag)] (.tup [.one (I1 (Bc b keys ag).1), .one (.lit (.int .i64 (Bc b keys ag).2))]) := by
 have hx := Uw ag (by omega)
 have hv := Cb b
 by_cases hkl2 : keys.length + ag.length ≤ 8
 ·by_cases hxa : EP ag = true
  ·rw [hxa] at hx
   by_cases hbv : Aj b = true
   ·rw [hbv] at hv
    have hK : BG b (Ax keys) := fun e _ => AR keys e.row
    obtain ⟨hbl, hbm⟩ := AG hbv
    have he : Bc b keys ag = (((EY b (Ax keys)).map (IG ag)).filter DR, 0) := if_pos ⟨hbv, hkl2, hxa⟩
    rw [he]
    have hg := Nb b keys hbl (by omega)
    have hgl := JA b _ hK
    have hgm : ∀ g ∈ EY b (Ax keys), g.2.length ≤ 4096 ∧ (∀ e ∈ g.2, -262144 ≤ e.count ∧ e.count ≤ 262144) := fun g hg => by
     obtain ⟨_, h2⟩ := JB hK hg
     refine ⟨?_, fun e he => ?_⟩
     · have := PN (I2 (Ax keys) g.1) b
       rw [h2]; omega
     · rw [h2] at he; exact (hbm e (KB.1 he).1).2.1
    clear he
    generalize EY b (Ax keys) = G at hg hgl hgm
    refine Ad hT Tryz.func27 Tryz.ntmps27 [.tmp 6, .tmp 7] fun B => ?_
    repeat' first | refine kz ?_ | refine As ?_ | refine Aa (hx) ?_ | refine Aa (hv) ?_ | refine Aa (hg) ?_ | refine kf ?_ | refine Ar (by repeat (first | exact Ac | refine Ah Dk ?_)) ?_ ?_
    refine CN 8 100 4 ?_
    refine AY (X := Nat × Nat) ([8, 10, 11] ++ List.range' 32 15) (fun x => x.1 ≤ G.length) (fun x lz => (32, (iC x.1)) :: (8, .c (.arr 0 x.2 (((G.take x.1).map (IG ag)).filter DR).length)) :: lz) (fun x => [.arr x.2 100 4 ((((G.take x.1).map (IG ag)).filter DR).map Sta.d)]) (fun x => G.length - x.1) ((0, 1)) ?_ ?_ ?_ ?_
    repeat' first | exact k0 | refine kw ?_ | refine kv ?_ ?_ | omega
    rintro ⟨i, v⟩ c0 hi
    dsimp only at hi ⊢
    by_cases hlt : i < G.length
    ·have hg1 : G[i]? = some G[i] := Bi hlt
     have hgi := hgm _ (Gl hlt)
     generalize G[i] = g at hg1 hgi
     have hg2 : (G.map OR)[i]? = some (OR g) := by rw [Ci, hg1]; rfl
     have hsc := Uz g ag hgi.1 hgi.2 hal
     have hz := Hr (IG ag g)
     have hsn : ((G.take (i + 1)).map (IG ag)).filter DR = ((G.take i).map (IG ag)).filter DR ++ if DR (IG ag g) = true then [IG ag g] else [] := by
       rw [Ba hg1, As', Ue]
       congr 1
       rw [List.map_singleton, Ug]; rfl
     have hAl : (((G.take i).map (IG ag)).filter DR).length ≤ i := OQ (PN _ _) (by simp; omega)
     generalize ((G.take i).map (IG ag)).filter DR = A at hsn hAl ⊢
     cases hq : (IG ag g).zero with
     | true =>
       rw [hq] at hz
       rw [show DR (IG ag g) = false by unfold DR; rw [hq]; rfl, if_neg (by decide), List.append_nil] at hsn
       rw [← hsn]
       repeat' first | refine kz ?_ | refine AT hg2 ?_ | refine As ?_ | refine Aa (hsc) ?_ | refine Aa (hz) ?_ | refine kh ?_ ?_ | exact ⟨⟩ | fail
       apply Ae ((i + 1, v)) <;> (try dsimp only) <;> try repeat' first | exact k0 | refine kw ?_ | refine kv ?_ ?_ | omega
     | false =>
       rw [hq] at hz
       rw [show DR (IG ag g) = true by unfold DR; rw [hq]; rfl, if_pos rfl] at hsn
       have hl2 : (A ++ [IG ag g]).length = A.length + 1 := by simp
       have hm2 : (A ++ [IG ag g]).map Sta.d = A.map Sta.d ++ [(IG ag g).d] := by simp
       repeat' first | refine kz ?_ | refine AT hg2 ?_ | refine As ?_ | refine Aa (hsc) ?_ | refine Aa (hz) ?_ | refine kh ?_ ?_ | exact ⟨⟩ | fail
       apply Ae ((i + 1, c0 + 3)) <;> (try dsimp only) <;> try repeat' first | exact k0 | refine kw ?_ | refine kv ?_ ?_ | omega
       all_goals rw [hsn]
       all_goals first
        | (rw [hm2]; rfl)
        | (rw [hl2]; rfl)
    ·obtain rfl : i = G.length := by omega
     rw [Ag (Nat.le_refl _)]
     generalize (G.map (IG ag)).filter DR = A
     refine A8 (r := 0) (m := A.length) (es := A.map Sta.d) 8 ?_
     repeat' first | refine kz ?_ | refine As ?_ | refine kf ?_ | refine Ar (by repeat (first | exact Ac | refine Ah Dk ?_)) ?_ ?_
     all_goals rfl
   ·have he : Bc b keys ag = ([], 1) := if_neg fun h => hbv h.1
    rw [he]
    rw [show Aj b = false by simpa using hbv] at hv
    refine Ad hT Tryz.func27 Tryz.ntmps27 [.tmp 6, .tmp 7] fun B => ?_
    repeat' first | refine kz ?_ | refine As ?_ | refine Aa (hx) ?_ | refine Aa (hv) ?_ | refine kf ?_ | refine Ar (by repeat (first | exact Ac | refine Ah Dk ?_)) ?_ ?_
    all_goals rfl
  ·have he : Bc b keys ag = ([], 1) := if_neg fun h => hxa h.2.2
   rw [he]
   rw [show EP ag = false by simpa using hxa] at hx
   refine Ad hT Tryz.func27 Tryz.ntmps27 [.tmp 6, .tmp 7] fun B => ?_
   repeat' first | refine kz ?_ | refine As ?_ | refine Aa (hx) ?_ | refine Aa (hv) ?_ | refine kf ?_ | refine Ar (by repeat (first | exact Ac | refine Ah Dk ?_)) ?_ ?_
   all_goals rfl
 ·have he : Bc b keys ag = ([], 1) := if_neg fun h => hkl2 h.2.1
  rw [he]
  refine Ad hT Tryz.func27 Tryz.ntmps27 [.tmp 6, .tmp 7] fun B => ?_
  repeat' first | refine kz ?_ | refine As ?_ | refine Aa (hx) ?_ | refine Aa (hv) ?_ | refine kf ?_ | refine Ar (by repeat (first | exact Ac | refine Ah Dk ?_)) ?_ ?_
  all_goals rfl
def BF (l : List Int) : List (List Dat) := l.map fun n => [.lit (.int .i64 n)]
theorem K1 (l : List Int) (hl : l.length ≤ 100000) : HC 181 [.c (.d (FD l))] [] (.c (.arr 0 1 l.length)) [.arr 1 2 1 (BF l)] := by
 by_cases hne : l = []
 ·subst hne
  refine AF hT Tryz.func181 Tryz.ntmps181 [.tmp 2] fun B => ?_
  repeat' first | ((with_reducible (refine Hv ?_)); refine CN 2 2 1 ?_) | refine kz ?_ | refine AE rfl (fun hb => ?_) (fun hb => ?_) | refine CH (fun b hnil => ?_) | refine Bd Ac ?_ ?_ | exact k0 | refine Ab ?_
  all_goals first
   | (simp; done)
   | rfl
 ·have hpos : 0 < l.length := VM.2 hne
  refine AF hT Tryz.func181 Tryz.ntmps181 [.tmp 2] fun B => ?_
  repeat' first | refine kz ?_ | refine AE rfl (fun hb => ?_) (fun hb => ?_) | refine CH (fun b hnil => ?_) | refine kg ?_ ?_ | exact k0 | refine Ab ?_
  all_goals first
   | (exfalso; exact hne (by simpa using hnil hb))
   | (simp; done)
   | rfl
theorem Sd (s : Sta) (hk : s.key.length ≤ 1000000) (h1 : s.sums.length ≤ 100000) (h2 : s.some.length ≤ 100000) : HC 125 [.agg (s.d.map .d)] [] (.agg [.d (BS s.key), .d (.lit (.int .i64 s.count)), .arr 2 1 s.sums.length, .arr 3 1 s.some.length]) [.dead, .dead, .arr 1 2 1 (BF s.sums), .arr 1 2 1 (BF s.some)] := by
 have hc := HM s.key hk
 have c1 := K1 s.sums h1
 have c2 := K1 s.some h2
 refine AF hT Tryz.func125 Tryz.ntmps125 [.cell 2 100] fun B => ?_
 repeat' first | refine Rp 1 ?_ | refine kz ?_ | refine Aa (hc) ?_ | refine Ak [] (c1) ?_ | refine Ak [] (c2) ?_ | exact k0 | refine Ab ?_ | refine El ?_
 refine Ts (m1 := [.dead, .dead, .arr (0 + 1 + 1 + 1) 2 1 (BF s.sums), .arr (0 + 1 + 1 + 1 + 1) 2 1 (BF s.some)]) Ac ?_ EI (by repeat' (first | exact trivial | refine And.intro rfl ?_ | refine And.intro trivial ?_)) rfl rfl rfl rfl rfl rfl rfl
 repeat' first | exact k0 | refine Ab ?_ | refine El ?_ | omega
end Go.Proofs.YtmpgmjlanngkfaaGreat
end
section
namespace Go.Proofs.YtmpgmjlanngkfaaGreat
open Go.Abs Go.RowKit
set_option linter.unusedSimpArgs false
set_option maxRecDepth 100000
variable {A B n w : Nat} {a b : List Entry}
theorem OK (h : (AQ a).2 = 0) : (AQ a).1 = a := by
 unfold AQ at *
 split at h
 ·cases h
 ·split at h
  ·rename_i h1 h2; rw [if_neg h1, if_pos h2]
  ·cases h
theorem KA (l : List Entry) : l.map (sc 1) = l := by
 conv => rhs; rw [← List.map_id l]
 refine RU fun e _ => ?_
 show (⟨e.row, 1 * e.count⟩ : Entry) = e
 rw [Int.one_mul]
structure TinV (n : Nat) (b : List Entry) : Prop where
 v : Aj b = true
 s : BE b ≤ n
theorem Tiny.tv (h : Tiny n w b) : TinV n b := ⟨h.v, h.s⟩
theorem TinV.cl (h : TinV n b) : ∀ e ∈ b, Au e.row := fun e he => B7 ((AG h.v).2 e he).1
theorem TinV.win (h : TinV n b) : A6 (n : Int) b := fun e he => by
 have h1 := Gj he
 have h2 := h.s
 omega
theorem TinV.len9 (h : TinV n b) : b.length ≤ n :=
 OQ (Kw (A3 h.v).nz) h.s
theorem Tiny.win (h : Tiny n w b) : A6 (n : Int) b := h.tv.win
theorem Tiny.len9 (h : Tiny n w b) : b.length ≤ n := h.tv.len9
theorem Wq (ha : TinV A a) (hb : TinV B b) (hn : A + B ≤ 4096) : ∃ s, Bj 1 a b = (s, 0) ∧ TinV (A + B) s ∧ (∀ e ∈ s, ∃ x, (x ∈ a ∨ x ∈ b) ∧ x.row = e.row) ∧ ∀ g, wS g s = wS g a + wS g b := by
 have la := ha.len9
 have lb := hb.len9
 obtain ⟨h1, h2, _⟩ := Jx (s := 1) (.inl rfl) ha.v hb.v ha.win hb.win (by omega) (by omega) (by omega) (by omega)
 have he : Bj 1 a b = AQ (mergeE a b) := by rw [Bj, if_pos ⟨ha.v, hb.v⟩, KA]
 rw [he] at h1 h2 ⊢
 have hf := OK h1
 rw [hf] at h2
 refine ⟨mergeE a b, Prod.ext hf h1, ⟨h2, ?_⟩, fun e hm => Dz a b e hm, fun g => LC g a b ha.cl hb.cl⟩
 have := IX a b
 have h3 := ha.s
 have h4 := hb.s
 omega
theorem ZB (ha : Tiny A w a) (hb : Tiny B w b) (hn : A + B ≤ 4096) : ∃ s, Bj 1 a b = (s, 0) ∧ Tiny (A + B) w s ∧ ∀ g, wS g s = wS g a + wS g b := by
 obtain ⟨s, h1, h2, h3, h4⟩ := Wq ha.tv hb.tv hn
 refine ⟨s, h1, ⟨h2.v, fun e hm => ?_, h2.s⟩, h4⟩
 obtain ⟨x, hx, hr⟩ := h3 e hm
 rw [← hr]
 rcases hx with hx | hx
 ·exact ha.w x hx
 ·exact hb.w x hx
theorem RP (g : List Val → Int) (b : List Entry) : wS g (b.map (sc (-1))) = - wS g b := by
 induction b with
 | nil => rfl
 | cons e b ih =>
   rw [List.map_cons, wS, wS, ih]
   show (-1 * e.count) * g e.row + _ = _
   rw [show (-1 : Int) * e.count = -e.count by omega, Int.neg_mul]
   omega
theorem ZC (hb : TinV B b) (hn : B ≤ 4096) : Bj (-1) [] b = (b.map (sc (-1)), 0) ∧ TinV B (b.map (sc (-1))) := by
 have lb := hb.len9
 have ev : Aj [] = true := rfl
 obtain ⟨h1, h2, _⟩ := Jx (s := -1) (.inr rfl) (M := 0) ev hb.v (fun e he => by cases he) hb.win (by omega) (by omega) (by omega) (by simp; omega)
 have he : Bj (-1) [] b = AQ (b.map (sc (-1))) := by rw [Bj, if_pos ⟨ev, hb.v⟩, IP]
 rw [he] at h1 h2 ⊢
 have hf := OK h1
 rw [hf] at h2
 refine ⟨Prod.ext hf h1, h2, ?_⟩
 have h3 := hb.s
 have : ∀ l : List Entry, BE (l.map (sc (-1))) = BE l := fun l => by
  induction l with
  | nil => rfl
  | cons e l ih => rw [List.map_cons, BE, BE, ih]; show (-1 * e.count).natAbs + _ = _; omega
 rw [this]; exact h3
theorem QB {s t : List Entry} (hs : Aj s = true) (ht : Aj t = true) (h : ∀ g, wS g s = wS g t) : s = t :=
 (A3 hs).unique (A3 ht) fun r => by rw [Iy, Iy, h]
theorem G0 {l : List Entry} (p : Entry → Bool) (h : Aj l = true) : Aj (l.filter p) = true := by
 obtain ⟨h1, h2⟩ := AG h
 have hs := A3 h
 have hl := PN p l
 rw [Aj, Gr (fun e he => ?_) (ZF ZI hs.up) (by simp), Bool.and_true]
 ·simp only [decide_eq_true_eq]; omega
 ·obtain ⟨q1, q2, q3⟩ := h2 e (KB.1 he).1
  simp only [Entry.ok, q1, AH, Bool.true_and, BO, decide_eq_true_eq]
  omega
theorem ZD (ha : TinV A a) (hb : TinV B b) (hn : A + B ≤ 4096) : ∃ s, Bj (-1) a b = (s, 0) ∧ TinV (A + B) s ∧ (∀ e ∈ s, ∃ x, (x ∈ a ∨ x ∈ b) ∧ x.row = e.row) ∧ ∀ g, wS g s = wS g a - wS g b := by
 obtain ⟨h1, h2⟩ := ZC hb (by omega)
 obtain ⟨s, g1, g2, g3, g4⟩ := Wq ha h2 hn
 refine ⟨s, ?_, g2, fun e he => ?_, fun g => by rw [g4, RP]; omega⟩
 ·rw [Bj, if_pos ⟨ha.v, h2.v⟩, KA] at g1
  rw [Bj, if_pos ⟨ha.v, hb.v⟩]; exact g1
 ·obtain ⟨x, hx, hr⟩ := g3 e he
  rcases hx with hx | hx
  ·exact ⟨x, .inl hx, hr⟩
  ·obtain ⟨y, hy, rfl⟩ := List.mem_map.1 hx
   exact ⟨y, .inr hy, hr⟩
theorem Wr (ha : Tiny A w a) (hb : Tiny B w b) (hn : A + B ≤ 4096) : ∃ s, Bj (-1) a b = (s, 0) ∧ Tiny (A + B) w s ∧ ∀ g, wS g s = wS g a - wS g b := by
 obtain ⟨s, h1, h2, h3, h4⟩ := ZD ha.tv hb.tv hn
 refine ⟨s, h1, ⟨h2.v, fun e hm => ?_, h2.s⟩, h4⟩
 obtain ⟨x, hx, hr⟩ := h3 e hm
 rw [← hr]
 rcases hx with hx | hx
 ·exact ha.w x hx
 ·exact hb.w x hx
end Go.Proofs.YtmpgmjlanngkfaaGreat
end
