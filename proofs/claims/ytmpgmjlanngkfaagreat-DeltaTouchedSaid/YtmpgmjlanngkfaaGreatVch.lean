/-
  Views: the contents before and after a change, and the change of the content.
-/
import Derived.Test.YtmpgmjlanngkfaaGreatAgt
import Derived.Test.YtmpgmjlanngkfaaGreatXct
section
namespace Go.Proofs.YtmpgmjlanngkfaaGreat
open Go.Abs Go.RowKit
set_option linter.unusedSimpArgs false
set_option maxRecDepth 100000
set_option maxHeartbeats 4000000
variable {ag : List Agg} {b : List Entry} {keys : List Itm}
theorem Of : ∀ (S : List (Val × Int)) (i : Int), Ey S i = Val.null ∨ ∃ x ∈ S, x.1 = Ey S i
 | [], _ => .inl rfl
 | x :: S, i => by
   rw [Ey]
   split
   ·exact .inr ⟨x, by simp, rfl⟩
   ·rcases Of S (i - x.2) with h | ⟨y, hy, h⟩
    ·exact .inl h
    ·exact .inr ⟨y, by simp [hy], h⟩
theorem Og (f : Int) {L : List (Val × Int)} (h : ∀ x ∈ L, x.1.valid = true) : (foldE f L).valid = true := by
 have hA : ∀ i, (Ey (ascE L) i).valid = true := fun i => by
  rcases Of (ascE L) i with h1 | ⟨x, hx, h1⟩
  · rw [h1]; exact F7
  · rw [← h1]; exact h x (KB.1 ((EZ L).mem_iff.1 hx)).1
 have hI : ∀ n, (Val.ofInt n).valid = true := fun n => by unfold Val.ofInt; exact D2 _
 unfold foldE
 repeat' split
 all_goals first
  | exact hI _
  | exact F7
  | exact hA _
theorem Kb : ∀ {a b x y : List Val}, a.length = b.length → Ai a b < 0 → Ai (a ++ x) (b ++ y) < 0
 | [], [], _, _, _, h => by simp [Ai] at h
 | u :: a, v :: b, x, y, hl, h => by
   rw [List.cons_append, List.cons_append, Ai]
   rw [Ai] at h
   split
   ·rename_i q
    rw [if_pos q] at h
    exact Kb (by simpa using hl) h
   ·rename_i q
    rw [if_neg q] at h; exact h
 | [], _ :: _, _, _, hl, _ => by simp at hl
 | _ :: _, [], _, _, hl, _ => by simp at hl
theorem Tw (keys : List Itm) (row : List Val) : ∀ v ∈ Ax keys row, v.valid = true := fun v hv => by
 obtain ⟨it, _, rfl⟩ := List.mem_map.1 hv
 exact E5 ..
theorem Pz {k : List Val} (hk : k ∈ CU b (Ax keys)) (es : List Entry) : ∀ v ∈ grpRow ag (k, es), v.valid = true := fun v hv => by
 obtain ⟨_, _, h3⟩ := B2 (b := b) (kf := Ax keys) fun e _ => AR keys e.row
 rcases Gn.1 hv with hv | hv
 ·obtain ⟨e, _, rfl⟩ := (h3 k).1 hk
  exact Tw keys e.row v hv
 ·obtain ⟨x, _, rfl⟩ := List.mem_map.1 hv
  refine Og _ fun y hy => ?_
  obtain ⟨e, _, rfl⟩ := List.mem_map.1 hy
  exact KW x e
theorem Hg (hl : b.length ≤ 4096) (h8 : keys.length + ag.length ≤ 8) : Aj ((CU b (Ax keys)).map (grE ag keys b)) = true := by
 have hK : BG b (Ax keys) := fun e _ => AR keys e.row
 obtain ⟨h1, _, _⟩ := B2 hK
 have hlen := Gq b _ hK
 rw [Aj, Gr (fun e he => ?_) ?_ (by simp), Bool.and_true]
 ·simp only [decide_eq_true_eq, BT]; omega
 ·rw [X3]
  refine List.Pairwise.imp_of_mem (fun {x y} hx hy h => ?_) h1
  exact Kb (by rw [(Dd hx).2, (Dd hy).2]) h
 ·obtain ⟨k, hk, rfl⟩ := List.mem_map.1 he
  have q1 : A7 (grE ag keys b k).row = true := by
   simp only [A7, BO, decide_eq_true_eq, Ec]
   refine ⟨?_, Pz hk _⟩
   show (grpRow ag (k, _)).length ≤ _
   rw [Fm, (Dd hk).2]
   omega
  simp only [Entry.ok, q1, Bool.true_and]
  show (AH 1 && decide ((1 : Int) ≠ 0)) = true
  decide
theorem PA (hp : AA b = true) (h8 : keys.length + ag.length ≤ 8) : groupE b keys ag = ((CU b (Ax keys)).map (grE ag keys b), 0) := by
 rw [Ow ⟨hp, h8⟩]
 exact JQ (Hg (AG (P0 hp).1).1 h8)
end Go.Proofs.YtmpgmjlanngkfaaGreat
end
section
namespace Go.Proofs.YtmpgmjlanngkfaaGreat
open Go.Abs Go.RowKit
set_option linter.unusedSimpArgs false
set_option maxRecDepth 100000
variable {ag : List Agg} {b : List Entry} {keys : List Itm}
theorem VT (kf : List Val → List Val) (k : List Val) (g : List Val → Int) (l : List Entry) : wS g (l.filter (I2 kf k)) = wS (fun r => if Ai (kf r) k = 0 then g r else 0) l := by
 induction l with
 | nil => rfl
 | cons e l ih =>
   rw [Ug]
   by_cases h : Ai (kf e.row) k = 0
   ·rw [if_pos (show I2 kf k e = true from decide_eq_true h), wS, wS, ih]
    rw [if_pos h]
   ·rw [if_neg (show ¬ I2 kf k e = true by simpa [I2] using h), wS, ih]
    rw [if_neg h]; omega
noncomputable def GrE (ag : List Agg) (keys : List Itm) (b : List Entry) : List Entry := (CU b (Ax keys)).map (grE ag keys b)
theorem Nx {n w : Nat} (h : Tiny n w b) (hn : n ≤ 4096) (h8 : keys.length + ag.length ≤ 8) : Tiny n (keys.length + ag.length) (GrE ag keys b) := by
 have hl := h.len9
 have hK : BG b (Ax keys) := fun e _ => AR keys e.row
 refine ⟨Hg (by omega) h8, fun e he => ?_, ?_⟩
 ·obtain ⟨k, hk, rfl⟩ := List.mem_map.1 he
  show (grpRow ag (k, _)).length = _
  rw [Fm, (Dd hk).2]
 ·have h1 : BE (GrE ag keys b) ≤ 1 * (GrE ag keys b).length := Mu fun e he => by
   obtain ⟨k, hk, rfl⟩ := List.mem_map.1 he
   exact Nat.le_refl _
  have h2 := Gq b _ hK
  have h3 : (GrE ag keys b).length = (CU b (Ax keys)).length := BT ..
  omega
theorem UQ {a s D : List Entry} {k : List Val} (va : Aj a = true) (vs : Aj s = true) (hD : ∀ g, wS g D = wS g s - wS g a) (hk : k ∉ CU D (Ax keys)) (hc : Au k) : s.filter (I2 (Ax keys) k) = a.filter (I2 (Ax keys) k) := by
 refine QB (G0 _ vs) (G0 _ va) fun g => ?_
 rw [VT, VT]
 have h1 := hD fun r => if Ai (Ax keys r) k = 0 then g r else 0
 have h2 : wS (fun r => if Ai (Ax keys r) k = 0 then g r else 0) D = wS (fun _ => 0) D := Fb fun e he => by
  refine if_neg fun h => hk ?_
  exact ((B2 (fun e _ => AR keys e.row)).2.2 k).2 ⟨e, he, Ck (AR ..) hc h⟩
 rw [h2, GH] at h1
 omega
theorem Ph {k : List Val} (hc : Au k) : k ∈ CU b (Ax keys) ↔ b.filter (I2 (Ax keys) k) ≠ [] := by
 have hK : BG b (Ax keys) := fun e _ => AR keys e.row
 rw [(B2 hK).2.2 k]
 constructor
 ·rintro ⟨e, he, rfl⟩ h
  have := KB.2 ⟨he, (Fo hK he hc).2 rfl⟩
  rw [h] at this; cases this
 ·intro h
  obtain ⟨e, he⟩ := ZU _ h
  obtain ⟨h1, h2⟩ := KB.1 he
  exact ⟨e, h1, (Fo hK h1 hc).1 h2⟩
open Classical in
theorem LW {r : List Val} (hl : b.length ≤ 4096) (h8 : keys.length + ag.length ≤ 8) (hr : Au r) (hc : Au (r.take keys.length)) :
  AZ (GrE ag keys b) r = if b.filter (I2 (Ax keys) (r.take keys.length)) ≠ [] ∧ grpRow ag (r.take keys.length, b.filter (I2 (Ax keys) (r.take keys.length))) = r then 1 else 0 := by
 have hv : Aj (GrE ag keys b) = true := Hg (ag := ag) (keys := keys) hl h8
 have hs := A3 hv
 split
 ·rename_i h
  have hm : grE ag keys b (r.take keys.length) ∈ GrE ag keys b := List.mem_map.2 ⟨_, (Ph hc).2 h.1, rfl⟩
  rw [DP (Bh hs.up) hm (by show Ai (grpRow ag _) r = 0; rw [h.2]; exact rowCmp_ok.refl _)]
  rfl
 ·rename_i h
  refine Iv fun e he h0 => h ?_
  have h1 := Ck (hs.cl e he) hr h0
  obtain ⟨k, hk, rfl⟩ := List.mem_map.1 he
  have h2 : k ++ ag.map (fun x => foldE x.func (BU x (b.filter (I2 (Ax keys) k)))) = r := h1
  have h3 : r.take keys.length = k := by rw [← h2, ← (Dd hk).2, List.take_left]
  rw [h3]
  exact ⟨(Ph (Dd hk).1).1 hk, h1⟩
theorem Pj {r : List Val} (n : Nat) (h : Au r) : Au (r.take n) := by
 unfold Au at h ⊢
 rw [List.map_take, h]
theorem Q6 {a s D X : List Entry} (va : Aj a = true) (vs : Aj s = true) (hD : ∀ g, wS g D = wS g s - wS g a) (h8 : keys.length + ag.length ≤ 8) (vX : Aj X = true) (hX : ∀ g, wS g X = wS g (GrE ag keys s) - wS g (GrE ag keys a)) : ∀ e ∈ X, keys.length ≤ e.row.length ∧ e.row.take keys.length ∈ CU D (Ax keys) := by
 intro e he
 have sX := A3 vX
 have hc := sX.cl e he
 have h1 : AZ X e.row = e.count := DP (Bh sX.up) he (rowCmp_ok.refl _)
 have h2 : AZ X e.row = AZ (GrE ag keys s) e.row - AZ (GrE ag keys a) e.row := by rw [Iy, Iy, Iy, hX]
 have h3 := sX.nz e he
 have hk := Pj keys.length hc
 refine ⟨?_, ?_⟩
 ·have h4 : AZ (GrE ag keys s) e.row ≠ 0 ∨ AZ (GrE ag keys a) e.row ≠ 0 := by omega
  have h5 : ∀ b : List Entry, AZ (GrE ag keys b) e.row ≠ 0 → b.length ≤ 4096 → keys.length ≤ e.row.length := fun b hb hl => by
   rw [LW hl h8 hc hk] at hb
   have h6 : b.filter (I2 (Ax keys) (e.row.take keys.length)) ≠ [] ∧ grpRow ag (e.row.take keys.length, b.filter (I2 (Ax keys) (e.row.take keys.length))) = e.row := T8 fun h => hb (if_neg h)
   have h7 := (Dd ((Ph hk).2 h6.1)).2
   rw [Hn] at h7
   omega
  rcases h4 with h4 | h4
  ·exact h5 s h4 (AG vs).1
  ·exact h5 a h4 (AG va).1
 ·refine T8 fun hn => h3 ?_
  rw [← h1, h2, LW (AG vs).1 h8 hc hk, LW (AG va).1 h8 hc hk, UQ va vs hD hn hk]
  omega
end Go.Proofs.YtmpgmjlanngkfaaGreat
end
section
namespace Go.Proofs.YtmpgmjlanngkfaaGreat
open Go.Abs Go.RowKit
attribute [local irreducible] ARun Aq MCall PCall HCall Am SF CF CFs Af Al Ap B5 AW VLe
set_option linter.unusedSimpArgs false
set_option maxRecDepth 100000
set_option maxHeartbeats 4000000
def VG (J : List Entry → List Entry → List (Int × Int) → List Entry × Int) (C : List Entry × Int) (v : Vw) (j l r dl dr : List Entry) : List Entry × Int :=
 if (EA v l r dl dr).2.2 = 0 ∧ Cn v = false then
  (if C.2 = 0 then Bj 1 j C.1 else J (EA v l r dl dr).1 (EA v l r dl dr).2.1 v.on)
 else ((EA v l r dl dr).1, (EA v l r dl dr).2.2)
theorem GZ (J : List Entry → List Entry → List (Int × Int) → List Entry × Int) (C : List Entry × Int) (v : Vw) (j l r dl dr : List Entry)
  (hj : Cn v = false → PC 89 [.one (Ao (EA v l r dl dr).1), .one (Ao (EA v l r dl dr).2.1), .one (ZZ v.on)] (B4 (J (EA v l r dl dr).1 (EA v l r dl dr).2.1 v.on)))
  (hc : Cn v = false → PC 103 [.agg v.d, .one (Ao l), .one (Ao r), .one (Ao dl), .one (Ao dr)] (B4 C)) :
  PC 55 [.agg v.d, .one (Ao j), .one (Ao l), .one (Ao r), .one (Ao dl), .one (Ao dr)] (B4 (VG J C v j l r dl dr)) := by
 have hs := IB v l r dl dr
 unfold VG
 generalize EA v l r dl dr = s at hs hj ⊢
 obtain ⟨x, y, e⟩ := s
 dsimp only [B4] at hs hj hc ⊢
 by_cases he : e = 0
 ·subst he
  cases hr : Cn v
  · have h1 := Kz hr
    have hj := hj hr
    have hc := hc hr
    rw [if_pos ⟨rfl, rfl⟩]
    have ha := PW j C.1
    generalize J x y v.on = q at hj ⊢
    generalize Bj 1 j C.1 = a at ha ⊢
    obtain ⟨C, f⟩ := C
    dsimp only at hc ha ⊢
    by_cases hf : f = 0
    ·subst hf
     rw [if_pos rfl]
     refine Ad hT Tryz.func55 Tryz.ntmps55 [.tmp 12, .tmp 13] fun B => ?_
     repeat' first | refine kz ?_ | refine Aa (hs) ?_ | refine Aa (hc) ?_ | refine Aa (ha) ?_ | refine kh ?_ ?_ | exact ⟨⟩ | fail
     all_goals rfl
    ·rw [if_neg hf]
     refine Ad hT Tryz.func55 Tryz.ntmps55 [.tmp 12, .tmp 13] fun B => ?_
     repeat' first | refine kz ?_ | refine Aa (hs) ?_ | refine Aa (hc) ?_ | refine Aa (hj) ?_ | refine kh ?_ ?_ | exact ⟨⟩ | fail
     all_goals rfl
  · have h1 := Ky hr
    rw [if_neg (by simp)]
    refine Ad hT Tryz.func55 Tryz.ntmps55 [.tmp 12, .tmp 13] fun B => ?_
    repeat' first | refine kz ?_ | refine Aa (hs) ?_ | refine kh ?_ ?_ | exact ⟨⟩ | fail
    all_goals rfl
 ·rw [if_neg fun h => he h.1]
  refine Ad hT Tryz.func55 Tryz.ntmps55 [.tmp 12, .tmp 13] fun B => ?_
  repeat' first | refine kz ?_ | refine Aa (hs) ?_ | refine kh ?_ ?_ | exact ⟨⟩ | fail
  all_goals rfl
def aN (v : Vw) (l r dl dr : List Entry) : List Entry × List Entry × Int :=
 if (Bj 1 l r).2 = 0 then
  (if (EA v l r dl dr).2.2 = 0 then ((Bj 1 l r).1, (Bj 1 (EA v l r dl dr).1 (EA v l r dl dr).2.1).1, (Bj 1 (EA v l r dl dr).1 (EA v l r dl dr).2.1).2)
  else ([], [], (EA v l r dl dr).2.2))
 else ([], [], (Bj 1 l r).2)
def PM (q : List Entry × List Entry × Int) : PRes := .tup [.one (Ao q.1), .one (Ao q.2.1), .one (.lit (.int .i64 q.2.2))]
def LF (s o j p : List Entry × Int) : List Entry × List Entry × Int :=
 if s.2 = 0 then (if o.2 = 0 then (if j.2 = 0 then (o.1, p.1, p.2) else ([], [], j.2)) else ([], [], o.2)) else ([], [], s.2)
theorem IY (v : Vw) (l r dl dr : List Entry) (s o j p : List Entry × Int) (hk : v.kind ≠ 2)
  (hs : PC 41 [.agg v.d, .one (Ao l), .one (Ao r)] (B4 s))
  (ho : PC 42 [.agg v.d, .one (Ao s.1)] (B4 o))
  (hj : PC 55 [.agg v.d, .one (Ao s.1), .one (Ao l), .one (Ao r), .one (Ao dl), .one (Ao dr)] (B4 j))
  (hp : PC 42 [.agg v.d, .one (Ao j.1)] (B4 p)) :
  PC 44 [.agg v.d, .one (Ao l), .one (Ao r), .one (Ao dl), .one (Ao dr)] (PM (LF s o j p)) := by
 unfold LF
 obtain ⟨s, e1⟩ := s
 obtain ⟨o, e2⟩ := o
 obtain ⟨j, e3⟩ := j
 dsimp only [B4] at hs ho hj hp ⊢
 by_cases h1 : e1 = 0
 ·subst h1
  rw [if_pos rfl]
  by_cases h2 : e2 = 0
  · subst h2
    rw [if_pos rfl]
    by_cases h3 : e3 = 0
    ·subst h3
     rw [if_pos rfl]
     dsimp only [PM]
     refine Ad hT Tryz.func44 Tryz.ntmps44 [.tmp 10, .tmp 11, .tmp 12] fun B => ?_
     repeat' first | refine Aa (ha := by exact And.intro rfl (And.intro rfl (And.intro rfl (And.intro rfl (And.intro rfl (And.intro rfl trivial)))))) hj ?_ | refine kz ?_ | refine Aa (hs) ?_ | refine Aa (ho) ?_ | refine Aa (hp) ?_ | refine G9 Ac ?_ ?_ ?_ | refine BB ?_ | refine Cf ?_
     all_goals rfl
    ·rw [if_neg h3]
     dsimp only [PM]
     refine Ad hT Tryz.func44 Tryz.ntmps44 [.tmp 10, .tmp 11, .tmp 12] fun B => ?_
     repeat' first | refine Aa (ha := by exact And.intro rfl (And.intro rfl (And.intro rfl (And.intro rfl (And.intro rfl (And.intro rfl trivial)))))) hj ?_ | refine kz ?_ | refine Aa (hs) ?_ | refine Aa (ho) ?_ | refine G9 Ac ?_ ?_ ?_ | refine BB ?_ | refine Cf ?_
     all_goals rfl
  · rw [if_neg h2]
    dsimp only [PM]
    refine Ad hT Tryz.func44 Tryz.ntmps44 [.tmp 10, .tmp 11, .tmp 12] fun B => ?_
    repeat' first | refine kz ?_ | refine Aa (hs) ?_ | refine Aa (ho) ?_ | refine G9 Ac ?_ ?_ ?_ | refine kf ?_ | fail
    all_goals rfl
 ·rw [if_neg h1]
  dsimp only [PM]
  refine Ad hT Tryz.func44 Tryz.ntmps44 [.tmp 10, .tmp 11, .tmp 12] fun B => ?_
  repeat' first | refine kz ?_ | refine Aa (hs) ?_ | refine G9 Ac ?_ ?_ ?_ | refine kf ?_ | fail
  all_goals rfl
theorem Iz : DeferOk Tryz.prog 43 0 := by
 refine ⟨⟨_, Tryz.func43, by kernel_rfl, by kernel_rfl⟩, fun vs w hl => ?_⟩
 match vs, hl with
 | [], _ =>
   refine callsD_of_wpS Tryz.func43 rfl fun c₀ cs hu => ?_
   apply wpS_region
   simp [wpOpsS, go_sem, recoverD, hu, Tryz.ntmps43, Exit.thenS]
   cases c₀
   simp_all [bodyPostS, results, Tryz.results43]
def RN (ok : Bool) (q : List Entry × List Entry × Int) : List Entry × Int := if ok = true then (if q.2.2 = 0 then Bj (-1) q.2.1 q.1 else ([], q.2.2)) else ([], 1)
theorem OH (v : Vw) (l r dl dr : List Entry) (q : List Entry × List Entry × Int)
  (hq : Co v l r = true → PC 44 [.agg v.d, .one (Ao l), .one (Ao r), .one (Ao dl), .one (Ao dr)] (PM q)) :
  PC 18 [.agg v.d, .one (Ao l), .one (Ao r), .one (Ao dl), .one (Ao dr)] (B4 (RN (Co v l r) q)) := by
 have hd := Gk v l r
 unfold RN
 cases h : Co v l r
 ·rw [h] at hd
  rw [if_neg (by simp)]
  dsimp only [B4]
  refine Ad hT Tryz.func18 Tryz.ntmps18 [.tmp 10, .tmp 11] fun B => ?_
  repeat' first | refine kz ?_ | refine Aa (hd) ?_ | refine Ar (by repeat (first | exact Ac | refine Ah Iz ?_)) ?_ ?_ | refine kf ?_ | fail
  all_goals rfl
 ·rw [h] at hd
  have hq := hq h
  rw [if_pos rfl]
  obtain ⟨x, y, e⟩ := q
  dsimp only [PM] at hq ⊢
  by_cases he : e = 0
  · subst he
    have ha := Jw y x
    rw [if_pos rfl]
    generalize Bj (-1) y x = a at ha ⊢
    dsimp only [B4]
    refine Ad hT Tryz.func18 Tryz.ntmps18 [.tmp 10, .tmp 11] fun B => ?_
    repeat' first | refine kz ?_ | refine Aa (hd) ?_ | refine Aa (hq) ?_ | refine Aa (ha) ?_ | refine Ar (by repeat (first | exact Ac | refine Ah Iz ?_)) ?_ ?_ | refine kf ?_ | fail
    all_goals rfl
  · rw [if_neg he]
    dsimp only [B4]
    refine Ad hT Tryz.func18 Tryz.ntmps18 [.tmp 10, .tmp 11] fun B => ?_
    repeat' first | refine kz ?_ | refine Aa (hd) ?_ | refine Aa (hq) ?_ | refine Ar (by repeat (first | exact Ac | refine Ah Iz ?_)) ?_ ?_ | refine kf ?_ | fail
    all_goals rfl
end Go.Proofs.YtmpgmjlanngkfaaGreat
end
