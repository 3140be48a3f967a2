/-
  Algebra: the joiner's sums are made final: up to a row, without room.
-/
import Derived.Test.YtmpgmjlanngkfaaGreatAlc
import Derived.Test.YtmpgmjlanngkfaaGreatMpc
import Derived.Test.YtmpgmjlanngkfaaGreatExn
import Derived.Test.YtmpgmjlanngkfaaGreatNrm
section
namespace Go.Proofs.YtmpgmjlanngkfaaGreat
open Go.Abs Go.RowKit
attribute [local irreducible] ARun At MCall PCall HCall Am SF CF CFs Ah Aj Ar fin AW VLe
set_option linter.unusedSimpArgs false
set_option maxRecDepth 100000
set_option maxHeartbeats 4000000
abbrev Bs := List UInt8
structure Lev where
 code : Bs
 opened : List Bs
def Lev.d (l : Lev) : List Dat := [CY l.code, .sl (l.opened.map fun c => [CY c])]
def Gr (x : Bs × Int) : List Dat := [CY x.1, .lit (.int .i64 x.2)]
def JP (x : Bs × Int) : Value × Dat := (.string ⟨x.1.toArray⟩, .lit (.int .i64 x.2))
def JQ (c : Bs) : List (Bs × Int) → Int
 | [] => 0
 | e :: l => if e.1 = c then e.2 else JQ c l
def Pg (c : Bs) : List (Bs × Int) → Bool
 | [] => false
 | e :: l => if e.1 = c then true else Pg c l
def Ph (c : Bs) (v : Int) : List (Bs × Int) → List (Bs × Int)
 | [] => [(c, v)]
 | e :: l => if e.1 = c then (c, v) :: l else e :: Ph c v l
def NJ (c : Bs) : List (Bs × Int) → List (Bs × Int)
 | [] => []
 | e :: l => if e.1 = c then l else e :: NJ c l
theorem JR {a b : Bs} (h : Value.string ⟨a.toArray⟩ = Value.string ⟨b.toArray⟩) : a = b := by
 injection h with h; injection h with h
 simpa using congrArg Array.toList h
theorem AH (l : List (Bs × Int)) : ∀ e ∈ l.map JP, IK e.1 := fun e he => by
 obtain ⟨x, _, rfl⟩ := List.mem_map.1 he
 exact ⟨_, rfl⟩
theorem BT (c : Bs) : ∀ l : List (Bs × Int), (∃ i v, l[i]? = some (c, v) ∧ JQ c l = v ∧ Pg c l = true ∧ NJ c l = l.eraseIdx i ∧ ∀ w, Ph c w l = l.set i (c, w)) ∨
   ((∀ e ∈ l, e.1 ≠ c) ∧ JQ c l = 0 ∧ Pg c l = false ∧ NJ c l = l ∧ ∀ w, Ph c w l = l ++ [(c, w)])
 | [] => .inr ⟨by simp, rfl, rfl, rfl, fun _ => rfl⟩
 | e :: l => by
   by_cases h : e.1 = c
   · exact .inl ⟨0, e.2, by rw [← h]; rfl, by simp [JQ, h], by simp [Pg, h], by simp [NJ, h], fun w => by simp [Ph, h]⟩
   · rcases BT c l with ⟨i, v, h1, h2, h3, h4, h5⟩ | ⟨h1, h2, h3, h4, h5⟩
     ·exact .inl ⟨i + 1, v, by simpa using h1, by simp [JQ, h, h2], by simp [Pg, h, h3], by simp [NJ, h, h4], fun w => by simp [Ph, h, h5]⟩
     ·refine .inr ⟨fun x hx => ?_, by simp [JQ, h, h2], by simp [Pg, h, h3], by simp [NJ, h, h4], fun w => by simp [Ph, h, h5]⟩
      rcases List.mem_cons.1 hx with rfl | hx
      ·exact h
      ·exact h1 x hx
theorem Bd {l : List (Bs × Int)} {i : Nat} {c : Bs} {v : Int} (h : l[i]? = some (c, v)) : (l.map JP)[i]? = some (.string ⟨c.toArray⟩, .lit (.int .i64 v)) := by rw [List.getElem?_map, h]; rfl
theorem DL {l : List (Bs × Int)} {c : Bs} (h : ∀ e ∈ l, e.1 ≠ c) : ∀ e ∈ l.map JP, e.1 ≠ Value.string ⟨c.toArray⟩ := fun e he q => by
 obtain ⟨x, hx, rfl⟩ := List.mem_map.1 he
 exact h x hx (JR q)
theorem Vt (l : List (Bs × Int)) (i : Nat) (c : Bs) (v : Int) : (l.map JP).set i (.string ⟨c.toArray⟩, .lit (.int .i64 v)) = (l.set i (c, v)).map JP := by rw [List.map_set]; rfl
theorem Eo (l : List (Bs × Int)) (i : Nat) : (l.map JP).eraseIdx i = (l.eraseIdx i).map JP := by
 induction l generalizing i with
 | nil => rfl
 | cons e l ih => cases i with
   | zero => rfl
   | succ i => simp [ih]
theorem TJ (l : List (Bs × Int)) (c : Bs) (v : Int) : l.map JP ++ [(.string ⟨c.toArray⟩, .lit (.int .i64 v))] = (l ++ [(c, v)]).map JP := by rw [List.map_append]; rfl
def BO (c : Bs) (s r : List (Bs × Int)) : List (Bs × Int) := if JQ c s = 0 then r else r ++ [(c, JQ c s)]
def closeLev : List Bs → List (Bs × Int) → List (Bs × Int) → Option (List (Bs × Int) × List (Bs × Int))
 | [], s, r => some (s, r)
 | c :: cs, s, r => if 4096 < (BO c s r).length then none else closeLev cs (NJ c s) (BO c s r)
def closeE (code : Bs) : List Lev → List (Bs × Int) → List (Bs × Int) → Option (List Lev × List (Bs × Int) × List (Bs × Int))
 | [], s, r => some ([], s, r)
 | l :: st, s, r =>
   if code ≠ [] ∧ l.code.isPrefixOf code = true then some (l :: st, s, r)
   else match closeLev l.opened s r with
    | none => none
    | some (s', r') => closeE code st s' r'
theorem DM : ∀ {cs : List Bs} {s r s' r' : List (Bs × Int)}, closeLev cs s r = some (s', r') → r.length ≤ 4096 → r'.length ≤ 4096
 | [], s, r, s', r', h, hr => by simp [closeLev] at h; rw [← h.2]; exact hr
 | c :: cs, s, r, s', r', h, hr => by
   rw [closeLev] at h
   split at h
   ·cases h
   ·exact DM h (by omega)
def jm (st : List Lev) (s r : List (Bs × Int)) : List Blk := [.box 0 [.arr 1 0 st.length, .mp 2 0, .arr 3 0 r.length], .arr 0 232 2 (st.map Lev.d), .mapb 0 9 2 (s.map JP), .arr 0 200 2 (r.map Gr)]
def ZK (st : List Lev) (s r : List (Bs × Int)) : List Blk := [.box 0 [.arr 1 1 st.length, .mp 2 0, .arr 3 1 r.length], .arr 1 232 2 (st.map Lev.d), .mapb 0 9 2 (s.map JP), .arr 1 200 2 (r.map Gr)]
theorem Fd (a : Bs) : ((⟨a.toArray⟩ : ByteArray).toList == ({ data := #[] } : ByteArray).toList) = decide (a = []) := by
 rw [ByteArray.toList_eq, ByteArray.toList_eq]
 cases a <;> simp
theorem Ep {α : Type} (l : List α) : l = [] ∨ ∃ a b, l = a ++ [b] := by
 rcases List.eq_nil_or_concat l with h | ⟨a, b, h⟩
 ·exact .inl h
 ·exact .inr ⟨a, b, by rw [h, List.concat_eq_append]⟩
theorem HA {α : Type} (l : List α) (x : α) {n : Nat} (h : n = l.length) : (l ++ [x])[n]? = some x := by subst h; simp
def BQ (e : Entry) : Bs × Int := (Ao e.row, e.count)
def XG (e : Entry) : List Dat := [CY (Ao e.row), .lit (.int .i64 e.count)]
theorem Qh (rs : List Entry) : (rs.map BQ).map Gr = rs.map XG := by rw [List.map_map]; rfl
theorem Re (a b : Entry) : PCall Tryz.prog 233 [.agg a.d, .agg b.d] (.v (.one (.lit (.int .i64 (DB a b))))) := by
 refine Ac hT Tryz.func233 Tryz.ntmps233 [.tmp 4] fun B => ?_
 repeat' (first | refine kz ?_ | refine Aa (Bf _ _) ?_ | refine kf ?_ | fail)
 all_goals rfl
theorem Pe (st : List Lev) (s : List (Bs × Int)) (rs : List Entry) (hrl : rs.length ≤ 4096) (hok : ∀ e ∈ rs, AQ e.row = true) (hco : rs.all (fun e => Az e.count) = false) :
  HCall Tryz.prog 196 [.c (.bp 0 0 0)] (jm st s (rs.map BQ)) (.tup [.c .emp, .c (.d (.lit (.int .i64 9)))]) [.dead, .dead, .dead, .dead] := by
 refine As hT Tryz.func196 Tryz.ntmps196 [.tmp 2, .tmp 3] fun B => ?_
 repeat' (first | refine kz ?_ | refine kf ?_ | refine Ai rfl rfl (fun hb => ?_) (fun hb => ?_) | refine kg ?_ ?_ | exact k0 | refine Ab ?_ | refine m1 ?_ ?_ | refine AB ?_)
 refine BA 4 56 2 ?_
 refine AO (X := Nat × Nat) [2, 3, 4, 6, 7, 8, 14, 15, 16, 17, 18, 19, 20, 21, 22, 23, 24, 25, 26, 27, 28, 29, 30, 31, 32, 33, 34, 35, 36, 37, 38, 39, 40, 41, 42] (fun x => x.1 ≤ rs.length ∧ (rs.take x.1).all (fun e => Az e.count) = true) (fun x lz => (4, .c (.arr 4 x.2 (rs.take x.1).length)) :: (14, (.c (.d (.lit (.int .i64 x.1))))) :: lz) (fun x => [.box 0 [.arr 1 0 st.length, .mp 2 0, .arr 3 0 (rs.map BQ).length], .arr 0 232 2 (st.map Lev.d), .mapb 0 9 2 (s.map JP), .arr 0 200 2 (rs.map XG), .arr x.2 56 2 ((rs.take x.1).map Entry.d)]) (fun x => rs.length - x.1) ((0, 1)) ?_ ?_ ?_ ?_
 repeat' (first | exact k0 | refine kw ?_ | refine kv ?_ ?_ | omega)
 ·exact Qh rs
 ·exact ⟨by simp, by simp⟩
 rintro ⟨i, k⟩ c ⟨hi, hinv⟩
 dsimp only at hi hinv ⊢
 by_cases hlt : i < rs.length
 ·have hv : rs[i]? = some rs[i] := List.getElem?_eq_getElem hlt
  have hro := hok _ (List.getElem_mem hlt)
  generalize rs[i] = e at hv hro
  have hv2 : (rs.map XG)[i]? = some (XG e) := by rw [List.getElem?_map, hv]; rfl
  have hml : (rs.map BQ).length = rs.length := by simp
  have htk : rs.take (i + 1) = rs.take i ++ [e] := by rw [List.take_add_one, hv]; rfl
  have htl : (rs.take i).length = i := by simp; omega
  have hdec := FP _ hro
  by_cases hc : Az e.count = true
  ·have hcb : -262144 ≤ e.count ∧ e.count ≤ 262144 := by simpa [Az] using hc
   repeat' (first | refine kz ?_ | refine kx hv2 ?_ | refine ki ?_ | refine Aa (hdec) ?_ | refine kf ?_ | refine Ai rfl rfl (fun hb => ?_) (fun hb => ?_) | refine kg ?_ ?_ | exact k0 | refine Ab ?_ | refine m1 ?_ ?_ | refine AB ?_)
   (apply Ae ((i + 1, _)); all_goals (try dsimp only); all_goals (try (repeat' (first | exact k0 | refine w1 ?_ | refine Ab ?_ | refine m1 ?_ ?_ | refine AB ?_ | omega))))
   · rw [htk, List.map_append]; rfl
   · exact ⟨by omega, Cw (fun e : Entry => Az e.count) hv hinv hc⟩
  ·have hcb : e.count < -262144 ∨ 262144 < e.count := by simp [Az] at hc; omega
   repeat' (first | refine kz ?_ | refine kx hv2 ?_ | refine ki ?_ | refine Aa (hdec) ?_ | refine kf ?_ | refine Ai rfl rfl (fun hb => ?_) (fun hb => ?_) | refine kg ?_ ?_ | exact k0 | refine Ab ?_ | refine m1 ?_ ?_ | refine AB ?_)
 ·rw [Ag (by omega)] at hinv
  rw [hinv] at hco
  cases hco
theorem Pf (st : List Lev) (s : List (Bs × Int)) (rs : List Entry) (hrl : rs.length ≤ 4096) (hok : ∀ e ∈ rs, AQ e.row = true) (hco : ∀ e ∈ rs, Az e.count = true) :
  HCall Tryz.prog 196 [.c (.bp 0 0 0)] (jm st s (rs.map BQ)) (.tup [.c (.arr 4 1 rs.length), .c (.d (.lit (.int .i64 0)))]) [.dead, .dead, .dead, .dead, .arr 1 56 2 ((sortF DB rs).map Entry.d)] := by
 have hS := JX Entry.d (fun _ => rfl) DB entCmp_ok.swo 233 rs (by omega) (fun x _ y _ => Re x y)
 refine As hT Tryz.func196 Tryz.ntmps196 [.tmp 2, .tmp 3] fun B => ?_
 repeat' (first | refine kz ?_ | refine kf ?_ | refine kg ?_ ?_ | exact k0 | refine Ab ?_ | refine m1 ?_ ?_ | refine AB ?_)
 refine BA 4 56 2 ?_
 refine AO (X := Nat × Nat) [2, 3, 4, 6, 7, 8, 14, 15, 16, 17, 18, 19, 20, 21, 22, 23, 24, 25, 26, 27, 28, 29, 30, 31, 32, 33, 34, 35, 36, 37, 38, 39, 40, 41, 42] (fun x => x.1 ≤ rs.length) (fun x lz => (4, .c (.arr 4 x.2 (rs.take x.1).length)) :: (14, (.c (.d (.lit (.int .i64 x.1))))) :: lz) (fun x => [.box 0 [.arr 1 0 st.length, .mp 2 0, .arr 3 0 (rs.map BQ).length], .arr 0 232 2 (st.map Lev.d), .mapb 0 9 2 (s.map JP), .arr 0 200 2 (rs.map XG), .arr x.2 56 2 ((rs.take x.1).map Entry.d)]) (fun x => rs.length - x.1) ((0, 1)) ?_ ?_ ?_ ?_
 repeat' (first | exact k0 | refine kw ?_ | refine kv ?_ ?_ | omega)
 ·exact Qh rs
 rintro ⟨i, k⟩ c hi
 dsimp only at hi ⊢
 by_cases hlt : i < rs.length
 ·have hv : rs[i]? = some rs[i] := List.getElem?_eq_getElem hlt
  have hro := hok _ (List.getElem_mem hlt)
  have hc := hco _ (List.getElem_mem hlt)
  generalize rs[i] = e at hv hro hc
  have hv2 : (rs.map XG)[i]? = some (XG e) := by rw [List.getElem?_map, hv]; rfl
  have hml : (rs.map BQ).length = rs.length := by simp
  have htk : rs.take (i + 1) = rs.take i ++ [e] := by rw [List.take_add_one, hv]; rfl
  have htl : (rs.take i).length = i := by simp; omega
  have hdec := FP _ hro
  have hcb : -262144 ≤ e.count ∧ e.count ≤ 262144 := by simpa [Az] using hc
  repeat' (first | refine kz ?_ | refine kx hv2 ?_ | refine ki ?_ | refine Aa (hdec) ?_ | refine kf ?_ | refine kg ?_ ?_ | exact k0 | refine Ab ?_ | refine m1 ?_ ?_ | refine AB ?_)
  (apply Ae ((i + 1, _)); all_goals (try dsimp only); all_goals (try (repeat' (first | exact k0 | refine w1 ?_ | refine Ab ?_ | refine m1 ?_ ?_ | refine AB ?_ | omega))))
  · rw [htk, List.map_append]; rfl
 ·rw [Ag (show rs.length ≤ i by omega)]
  have hml : (rs.map BQ).length = rs.length := by simp
  repeat' (first | refine kz ?_ | refine Ad [4] (hS) ?_ | refine kf ?_ | refine kg ?_ ?_ | exact k0 | refine Ab ?_ | refine m1 ?_ ?_ | refine AB ?_)
theorem TG (code : Bs) (hc : code ≠ []) (st : List Lev) (s r : List (Bs × Int)) (h : closeE code st.reverse s r = none) (hst : st.length ≤ 100000) (hop : ∀ l ∈ st, l.opened.length ≤ 100000) (hr : r.length ≤ 4096) :
  HCall Tryz.prog 195 [.c (.bp 0 0 0), .c (.d (CY code))] (jm st s r) (.c (.d (.lit (.bool false)))) [.dead, .dead, .dead, .dead] := by
 have hcn : ((⟨(code : Bs).toArray⟩ : ByteArray).toList == ({ data := #[] } : ByteArray).toList) = false := by rw [Fd]; simp [hc]
 refine As hT Tryz.func195 Tryz.ntmps195 [.tmp 4] fun B => ?_
 repeat' (first | refine kz ?_ | refine ki ?_ | refine Ai rfl rfl (fun hb => ?_) (fun hb => ?_) | refine kg ?_ ?_ | exact k0 | refine Ab ?_ | refine m1 ?_ ?_ | refine AB ?_)
 refine AO (X := List Lev × List (Bs × Int) × List (Bs × Int) × List (List Dat) × Nat × Nat) [4, 5, 7, 8, 9, 10, 11, 12, 13, 14, 15, 16, 17, 18, 19, 20, 21, 22, 23, 24, 25, 26, 27, 28, 29, 30, 31, 32, 33, 34, 35, 36, 37, 38, 39, 40, 41, 42, 43, 44, 45, 46, 47, 48, 49, 50, 51, 52, 53, 54, 55, 56, 57, 58, 59, 60, 61, 62, 63, 64, 65, 66, 67, 68, 69, 70, 71, 72, 73, 74, 75, 76, 77, 78, 79, 80, 81, 82, 83, 84, 85, 86, 87] (fun x => closeE code x.1.reverse x.2.1 x.2.2.1 = none ∧ x.1.length ≤ 100000 ∧ (∀ l ∈ x.1, l.opened.length ≤ 100000) ∧ x.2.2.1.length ≤ 4096) (fun x lz => lz) (fun x => [.box 0 [.arr 1 x.2.2.2.2.1 x.1.length, .mp 2 0, .arr 3 x.2.2.2.2.2 x.2.2.1.length], .arr x.2.2.2.2.1 232 2 (x.1.map Lev.d ++ x.2.2.2.1), .mapb 0 9 2 (x.2.1.map JP), .arr x.2.2.2.2.2 200 2 (x.2.2.1.map Gr)]) (fun x => x.1.length) ((st, s, r, [], 0, 0)) ?_ ?_ ?_ ?_
 repeat' (first | exact k0 | refine kw ?_ | refine kv ?_ ?_ | omega)
 ·simp
 ·exact ⟨h, hst, hop, hr⟩
 rintro ⟨st1, s1, r1, tl, k1, k3⟩ c ⟨hinv, hl1, hop1, hr1⟩
 dsimp only at hinv hl1 hop1 hr1 ⊢
 refine Qo 1 st1.length ?_ (show (st1.map Lev.d ++ tl).take st1.length = st1.map Lev.d by rw [List.take_append_of_le_length (by simp)]; exact List.take_of_length_le (by simp))
 rcases Ep st1 with rfl | ⟨st2, l, rfl⟩
 ·simp only [List.reverse_nil, closeE] at hinv
  cases hinv
 ·have hl2 : st2.length + 1 ≤ 100000 := by simpa using hl1
  have hlen : (st2 ++ [l]).length = st2.length + 1 := by simp
  have he : ((st2 ++ [l]).map Lev.d)[(((st2 ++ [l]).length : Int) - 1).toNat]? = some l.d := by
   rw [hlen, show (((st2.length + 1 : Nat) : Int) - 1).toNat = st2.length by omega, List.map_append]; exact HA _ _ (by simp)
  have hop2 : ∀ l ∈ st2, l.opened.length ≤ 100000 := fun l hl => hop1 l (by simp [hl])
  have hlo := hop1 l (by simp)
  rw [List.reverse_append, List.reverse_singleton, List.singleton_append, closeE] at hinv
  have hp := MC ⟨code.toArray⟩ ⟨l.code.toArray⟩
  rw [IB] at hp
  by_cases hcp : l.code.isPrefixOf code = true
  ·rw [if_pos ⟨hc, hcp⟩] at hinv
   cases hinv
  ·rw [if_neg (fun q => hcp q.2)] at hinv
   have hcp : l.code.isPrefixOf code = false := Bool.eq_false_iff.2 hcp
   rw [hcp] at hp
   generalize hcl : closeLev l.opened s1 r1 = q at hinv
   repeat' (first | (exfalso; rw [hcn] at hb; cases hb; done) | refine D5 (m' := st2.length) ?_ (hm' := by omega) | refine kz ?_ | refine kx he ?_ | refine ki ?_ | refine Aa (hp) ?_ | refine Ai rfl rfl (fun hb => ?_) (fun hb => ?_) | refine AX Af ?_ ?_ | exact k0 | refine Ab ?_ | refine m1 ?_ ?_ | refine AB ?_)
   refine AO (X := Nat × List (Bs × Int) × List (Bs × Int) × Nat) [4, 7, 8, 52, 53, 54, 55, 56, 57, 58, 59, 60, 61, 62, 63, 64, 65, 66, 67, 68, 69, 70, 71, 72, 73, 74, 75, 76, 77, 78, 79, 80, 81, 82, 83, 84, 85, 86, 87] (fun x => closeLev (l.opened.drop x.1) x.2.1 x.2.2.1 = q ∧ x.1 ≤ l.opened.length ∧ x.2.2.1.length ≤ 4096) (fun x lz => (52, (.c (.d (.lit (.int .i64 x.1))))) :: lz) (fun x => [.box 0 [.arr 1 k1 st2.length, .mp 2 0, .arr 3 x.2.2.2 x.2.2.1.length], .arr k1 232 2 ((st2 ++ [l]).map Lev.d), .mapb 0 9 2 (x.2.1.map JP), .arr x.2.2.2 200 2 (x.2.2.1.map Gr)]) (fun x => l.opened.length - x.1) ((0, s1, r1, k3)) ?_ ?_ ?_ ?_
   repeat' (first | exact k0 | refine kw ?_ | refine kv ?_ ?_ | omega)
   ·exact ⟨by simpa using hcl, by simp, hr1⟩
   rintro ⟨i, s3, r3, k4⟩ c4 ⟨hi3, hin, hr3⟩
   dsimp only at hi3 hin hr3 ⊢
   by_cases hlt : i < l.opened.length
   ·have hv : l.opened[i]? = some l.opened[i] := List.getElem?_eq_getElem hlt
    generalize l.opened[i] = cc at hv
    rw [AD hv, closeLev] at hi3
    rcases BT cc s3 with ⟨i0, v, g1, g2, _, g4, _⟩ | ⟨g1, g2, _, g4, _⟩
    · rw [g4] at hi3
      by_cases hz : v = 0
      · have hn : BO cc s3 r3 = r3 := by rw [BO, g2, if_pos hz]
        rw [hn, if_neg (by omega)] at hi3
        repeat' (first | refine kz ?_ | refine kx hv ?_ | refine ki ?_ | refine Cx (Bd g1) ⟨_, rfl⟩ (AH _) ?_ | refine Ca (Bd g1) ⟨_, rfl⟩ (AH _) ?_ | refine Ai rfl rfl (fun hb => ?_) (fun hb => ?_) | refine kg ?_ ?_ | exact k0 | refine Ab ?_ | refine m1 ?_ ?_ | refine AB ?_)
        rw [Eo]
        generalize s3.eraseIdx i0 = s4 at hi3 ⊢
        (apply Ae ((i + 1, s4, r3, k4)); all_goals (try dsimp only); all_goals (try (repeat' (first | exact k0 | refine kw ?_ | refine kv ?_ ?_ | omega))))
        exact ⟨hi3, by omega, hr3⟩
      · have hn : BO cc s3 r3 = r3 ++ [(cc, v)] := by rw [BO, g2, if_neg hz]
        rw [hn] at hi3
        have hl4 : (r3 ++ [(cc, v)]).length = r3.length + 1 := by simp
        have hl5 : r3.length + [[CY cc, Dat.lit (Value.int .i64 v)]].length = (r3 ++ [(cc, v)]).length := by simp
        have hm4 : r3.map Gr ++ [[CY cc, Dat.lit (Value.int .i64 v)]] = (r3 ++ [(cc, v)]).map Gr := by rw [List.map_append]; rfl
        by_cases hlen3 : 4096 < (r3 ++ [(cc, v)]).length
        · repeat' (first | refine kz ?_ | refine kx hv ?_ | refine ki ?_ | refine Cx (Bd g1) ⟨_, rfl⟩ (AH _) ?_ | refine Ca (Bd g1) ⟨_, rfl⟩ (AH _) ?_ | refine Ai rfl rfl (fun hb => ?_) (fun hb => ?_) | refine kg ?_ ?_ | exact k0 | refine Ab ?_ | refine m1 ?_ ?_ | refine AB ?_)
        rw [if_neg hlen3] at hi3
        repeat' (first | refine kz ?_ | refine kx hv ?_ | refine ki ?_ | refine Cx (Bd g1) ⟨_, rfl⟩ (AH _) ?_ | refine Ca (Bd g1) ⟨_, rfl⟩ (AH _) ?_ | refine Ai rfl rfl (fun hb => ?_) (fun hb => ?_) | refine kg ?_ ?_ | exact k0 | refine Ab ?_ | refine m1 ?_ ?_ | refine AB ?_)
        rw [Eo, hm4, hl5]
        generalize s3.eraseIdx i0 = s4 at hi3 ⊢
        generalize r3 ++ [(cc, v)] = r4 at hi3 hl4 hlen3 ⊢
        (apply Ae ((i + 1, s4, r4, c4 + 1)); all_goals (try dsimp only); all_goals (try (repeat' (first | exact k0 | refine kw ?_ | refine kv ?_ ?_ | omega))))
        exact ⟨hi3, by omega, by omega⟩
    · rw [g4] at hi3
      have hn : BO cc s3 r3 = r3 := by rw [BO, g2, if_pos rfl]
      rw [hn, if_neg (by omega)] at hi3
      repeat' (first | refine kz ?_ | refine kx hv ?_ | refine ki ?_ | refine F3 (DL g1) ⟨_, rfl⟩ (AH _) ?_ | refine Ff (DL g1) ⟨_, rfl⟩ (AH _) ?_ | refine Ai rfl rfl (fun hb => ?_) (fun hb => ?_) | refine kg ?_ ?_ | exact k0 | refine Ab ?_ | refine m1 ?_ ?_ | refine AB ?_)
      (apply Ae ((i + 1, s3, r3, k4)); all_goals (try dsimp only); all_goals (try (repeat' (first | exact k0 | refine kw ?_ | refine kv ?_ ?_ | omega))))
      exact ⟨hi3, by omega, hr3⟩
   ·have hie : i = l.opened.length := by omega
    subst hie
    rw [List.drop_length, closeLev] at hi3
    subst hi3
    dsimp only at hinv
    repeat' (first | refine kz ?_ | refine ki ?_ | refine Ai rfl rfl (fun hb => ?_) (fun hb => ?_) | refine kg ?_ ?_ | exact k0 | refine Ab ?_ | refine m1 ?_ ?_ | refine AB ?_)
    (apply Ae ((st2, s3, r3, [l.d], k1, k4)); all_goals (try dsimp only); all_goals (try (repeat' (first | exact k0 | refine kw ?_ | refine kv ?_ ?_ | omega))))
    · rw [List.map_append]; rfl
    · exact ⟨hinv, by omega, hop2, hr3⟩
end Go.Proofs.YtmpgmjlanngkfaaGreat
end
