/-
  AggregateLocal: the law returns true.
-/
import Derived.Test.YtojfhaoleedmkaaGreatLga
import Derived.Test.YtojfhaoleedmkaaGreatLgp
import Derived.Test.YtojfhaoleedmkaaGreatTpo
namespace Go.Proofs.YtojfhaoleedmkaaGreat
open Go.Abs Go.RowKit
attribute [local irreducible] ARun kont MCall PCall HCall resVal SF CF CFs defersOk slotsIn memIn fin finM VLe
set_option linter.unusedSimpArgs false
set_option maxRecDepth 100000
set_option maxHeartbeats 4000000
theorem total_from : ∀ (l : List Entry) (a : Int), l.foldl (fun n e => n + e.count) a = a + nE l
  | [], a => by simp [nE]
  | e :: l, a => by rw [List.foldl_cons, total_from l, nE_cons]; omega
theorem size_nE {b : List Entry} (h : bagValid b = true) : sizeE b = nE b := by
  unfold sizeE
  rw [if_pos h]
  unfold total
  rw [total_from]; omega
theorem ofInt_int {n : Int} (h : -4294967296 ≤ n ∧ n ≤ 4294967296) : (Val.ofInt n).int = n := by
  have hv : (⟨1, n, ⟨#[]⟩⟩ : Val).valid = true := by
    unfold Val.valid
    dsimp only
    rw [if_neg (by decide), if_pos rfl]
    simp only [Bool.and_eq_true, decide_eq_true_eq]
    exact ⟨⟨h.1, h.2⟩, by decide +kernel⟩
  unfold Val.ofInt Val.clean
  rw [if_pos hv]
theorem lawLocal_c (t : List Int) (ht : t.length ≤ 17592186044416) : PCall Tryz.prog 6 [.one (numD t)] (.v (.one (.lit (.bool true)))) := by
  have hnew := new_h t ht
  have hok := newTape9_ok ht
  obtain ⟨b, t1, ok1, vb, -, lb, -, pb, c1⟩ := bagP_h ⟨t, 0⟩ 3 10 hok (by omega) (by omega)
  obtain ⟨ks, t2, ok2, lk, c2⟩ := keys_h t1 2 3 ok1 (by omega) (by omega) (by omega)
  obtain ⟨ag, t3, ok3, la, -, c3⟩ := aggs_h t2 3 2 ok2 (by omega) (by omega) (by omega)
  have hpe : positiveE b = true := by
    unfold positiveE
    rw [vb, Bool.true_and, List.all_eq_true]
    intro e he
    have := pb e he
    simp; omega
  obtain ⟨hbl, hbm⟩ := valid_mem vb
  have hK : CleanK b (keyE ks) := fun e _ => keyE_clean ks e.row
  have h8 : ks.length + ((⟨⟨#[110]⟩, 0, []⟩ : Agg) :: ag).length ≤ 8 := by rw [List.length_cons]; omega
  have hagd : ((⟨⟨#[110]⟩, 0, []⟩ : Agg) :: ag).map Agg.d = [[Dat.lit (.string ⟨#[110]⟩), .lit (.int .i64 0), .sl []]] ++ ag.map Agg.d := rfl
  have hagl : ((⟨⟨#[110]⟩, 0, []⟩ : Agg) :: ag).length = 1 + ag.length := by rw [List.length_cons]; omega
  have hf0 : ∀ k, k ∈ keysE b (keyE ks) → (grE ((⟨⟨#[110]⟩, 0, []⟩ : Agg) :: ag) ks b k).row[ks.length]? = some (Val.ofInt (nE (b.filter (atK (keyE ks) k)))) := fun k hk => by
    show (k ++ _)[ks.length]? = _
    rw [List.getElem?_append_right (by rw [(keysE_mem hk).2]; exact Nat.le_refl _), (keysE_mem hk).2, Nat.sub_self]
    show some (foldE 0 (valsE ⟨⟨#[110]⟩, 0, []⟩ (b.filter (atK (keyE ks) k)))) = _
    unfold foldE
    rw [if_pos rfl]
    unfold ttl valsE nE
    rw [List.map_map]; rfl
  have hrow : ∀ k, k ∈ keysE b (keyE ks) → (grE ((⟨⟨#[110]⟩, 0, []⟩ : Agg) :: ag) ks b k).row.take ks.length = k ∧ (grE ((⟨⟨#[110]⟩, 0, []⟩ : Agg) :: ag) ks b k).row.length = ks.length + (1 + ag.length) := fun k hk => by
    refine ⟨?_, ?_⟩
    · show (k ++ _).take ks.length = k
      rw [← (keysE_mem hk).2, List.take_left]
    · show (grpRow _ (k, _)).length = _
      rw [grpRow_len, (keysE_mem hk).2, hagl]
  have hpart : ∀ k, k ∈ keysE b (keyE ks) → groupE (b.filter (kP ks k)) ks ((⟨⟨#[110]⟩, 0, []⟩ : Agg) :: ag) = ([grE ((⟨⟨#[110]⟩, 0, []⟩ : Agg) :: ag) ks b k], 0) := fun k hk => group_part hpe h8 hk
  have gAll := group_c b ks ((⟨⟨#[110]⟩, 0, []⟩ : Agg) :: ag) (by omega) (by omega)
  rw [group_rows hpe h8] at gAll
  have hsum := sum_parts (kf := keyE ks) (keys_says hK).1 (keys_says hK).2.1 hK fun e he => ((keys_says hK).2.2 _).2 ⟨e, he, rfl⟩
  have hsz := size_c b
  rw [size_nE vb, ← hsum] at hsz
  have hKl := keysE_len b _ hK
  have hbd : ∀ k, -1073741824 ≤ nE (b.filter (atK (keyE ks) k)) ∧ nE (b.filter (atK (keyE ks) k)) ≤ 1073741824 := fun k => by
    have h1 : (b.filter (atK (keyE ks) k)).length ≤ 4096 := Nat.le_trans (List.length_filter_le _ _) hbl
    have := nE_bd h1 (fun e he => (hbm e (List.mem_filter.1 he).1).2.1) (b.filter (atK (keyE ks) k)).length
    rw [List.take_length] at this
    exact this
  clear hsum
  generalize hKK : keysE b (keyE ks) = K at gAll hsz hKl hf0 hrow hpart
  clear hKK
  have gP : ∀ l : List Entry, PCall Tryz.prog 16 [.one (bagD l), .one (itmD ks), .one (aggD ((⟨⟨#[110]⟩, 0, []⟩ : Agg) :: ag))] (.tup [.one (bagD (groupE l ks ((⟨⟨#[110]⟩, 0, []⟩ : Agg) :: ag)).1), .one (.lit (.int .i64 (groupE l ks ((⟨⟨#[110]⟩, 0, []⟩ : Agg) :: ag)).2))]) := fun l => group_c l ks _ (by omega) (by omega)
  generalize ((⟨⟨#[110]⟩, 0, []⟩ : Agg) :: ag) = AG at hagd hagl hf0 hrow hpart gAll gP
  have hagl2 : (AG.map Agg.d).length = 1 + ag.length := by rw [List.length_map, hagl]
  refine pcallN hT Tryz.func6 Tryz.ntmps6 [.tmp 2] fun B => ?_
  repeat' (first | refine s_bsliceO (r := 2) ?_ | (refine s_freeze (r := 2) (m := 1 + (ag.map Agg.d).length) (es1 := AG.map Agg.d) 6 ?_ (hl := by simp; omega) (hes := by rw [hagd]; exact take_ge (by simp; omega))) | refine Go.Abs.ks ?_ | refine ko ?_ | refine s_indexD ?_ (hel := (by first | exact rfl)) | refine s_call (gAll) ?_ | refine s_callH [] (hnew) ?_ | refine s_callH [1] (c1) ?_ | refine s_callH [1] (c2) ?_ | refine s_callH [1] (c3) ?_ | refine s_kT ?_ | refine f_ret1 def_nil ?_ | refine t_tmp ?_)
  refine s_lp (X := Nat × Int) [2, 9, 10, 11, 12, 13, 14, 15, 36, 37, 38, 39, 40, 41, 42, 43, 44, 45, 46, 47, 48, 49, 50, 51, 52, 53, 54, 55, 56, 57, 58, 59, 60, 61, 62, 63, 64, 65, 66, 67, 68, 69, 70, 71, 72, 73, 74, 75, 76, 77, 78, 79, 80, 81, 82, 83, 84, 85, 86, 87, 88, 89, 90, 91, 92, 93, 94, 95, 96, 97, 98, 99, 100, 101, 102, 103, 104, 105, 106, 107, 108, 109, 110, 111, 112, 113, 114, 115, 116, 117, 118, 119, 120, 121, 122] (fun x => x.1 ≤ K.length ∧ x.2 = ((K.take x.1).map fun k => nE (b.filter (atK (keyE ks) k))).sum) (fun x lz => (10, (.c (.d (.lit (.int .i64 x.1))))) :: (9, .c (.d (.lit (.int .i64 x.2)))) :: lz) (fun x => []) (fun x => K.length - x.1) ((0, 0)) ?_ ?_ ?_ ?_
  repeat' (first | exact slots_nil | refine kw ?_ | refine kv ?_ ?_ | exact memIn_nil | omega)
  all_goals try (exact ⟨by simp, rfl⟩)
  rintro ⟨i, n⟩ c ⟨hi, hn⟩
  dsimp only at hi hn ⊢
  have hml : (K.map (grE AG ks b)).length = K.length := by simp
  by_cases hlt : i < K.length
  · have hx : K[i]? = some K[i] := List.getElem?_eq_getElem hlt
    have hkm := List.getElem_mem hlt
    generalize K[i] = k at hx hkm
    have hn1 : ((K.take (i + 1)).map fun k => nE (b.filter (atK (keyE ks) k))).sum = n + nE (b.filter (atK (keyE ks) k)) := by
      rw [take_snoc' hx, List.map_append, List.sum_append, ← hn]; simp
    have hb1 := sum_bd (f := fun k => nE (b.filter (atK (keyE ks) k))) (M := 1073741824) (l := K.take i) fun x _ => hbd x
    rw [← hn] at hb1
    have hb2 := hbd k
    have hb3 : (K.take i).length ≤ 10 := by rw [List.length_take]; omega
    have hv := ofInt_int (n := nE (b.filter (atK (keyE ks) k))) (by omega)
    have h0 := hf0 k hkm
    obtain ⟨ht, hrl⟩ := hrow k hkm
    have hgp := hpart k hkm
    have hx2 : ((K.map (grE AG ks b)).map Entry.d)[i]? = some (grE AG ks b k).d := by rw [List.map_map, List.getElem?_map, hx]; rfl
    have gK := gP (b.filter (kP ks k))
    rw [hgp] at gK
    dsimp only at gK
    have sR := same01_c (grE AG ks b k).row (grE AG ks b k).row
    rw [show sameRow (grE AG ks b k).row (grE AG ks b k).row = true from sr_iff.2 rfl] at sR
    have hG : (grE AG ks b k).d = [rowD (grE AG ks b k).row, .lit (.int .i64 1)] := rfl
    rw [hG] at hx2
    have hGd : bagD [grE AG ks b k] = .sl [[rowD (grE AG ks b k).row, .lit (.int .i64 1)]] := rfl
    rw [hGd] at gK
    generalize (grE AG ks b k).row = row at *
    have hcell : (row.map Val.d)[ks.length]? = some (Val.ofInt (nE (b.filter (atK (keyE ks) k)))).d := by rw [List.getElem?_map, h0]; rfl
    have hrl2 : (row.map Val.d).length = ks.length + (1 + ag.length) := by rw [List.length_map, hrl]
    have hcut : List.drop (0 : Int).toNat (List.take ((ks.length : Int)).toNat (row.map Val.d)) = k.map Val.d := by
      show List.drop 0 (List.take ks.length (row.map Val.d)) = _
      rw [List.drop_zero, ← List.map_take, ht]
    have hvd : (Val.ofInt (nE (b.filter (atK (keyE ks) k)))).d = [.lit (.int .i64 (Val.ofInt (nE (b.filter (atK (keyE ks) k)))).kind), .lit (.int .i64 (nE (b.filter (atK (keyE ks) k)))), .lit (.string (Val.ofInt (nE (b.filter (atK (keyE ks) k)))).text)] := by
      show [Dat.lit _, Dat.lit (.int .i64 (Val.ofInt _).int), _] = _
      rw [hv]
    rw [hvd] at hcell
    generalize (Val.ofInt (nE (b.filter (atK (keyE ks) k)))).kind = vk at hcell
    generalize (Val.ofInt (nE (b.filter (atK (keyE ks) k)))).text = vt at hcell
    generalize nE (b.filter (atK (keyE ks) k)) = cn at *
    repeat' (first | refine s_sliceD ?_ (hes := hcut) | refine Go.Abs.ks ?_ | refine ko ?_ | refine s_indexD ?_ (hel := (by first | exact idx_map hx2 (by omega) | exact hx2 | exact rfl)) | refine s_kT ?_ | refine f_ret1 def_nil ?_ | refine t_tmp ?_)
    refine s_own 12 49 2 ?_
    refine s_lp (X := Nat × Nat) [12, 13, 62, 63, 64, 65, 66, 67, 68, 69, 70, 71, 72, 73, 74, 75, 76, 77, 78, 79, 80, 81, 82, 83] (fun x => x.1 ≤ b.length) (fun x lz => (13, (.c (.d (.lit (.int .i64 x.1))))) :: (12, .c (.arr 0 x.2 ((b.take x.1).filter (kP ks k)).length)) :: lz) (fun x => [.arr x.2 49 2 (((b.take x.1).filter (kP ks k)).map Entry.d)]) (fun x => b.length - x.1) ((0, c + 1)) ?_ ?_ ?_ ?_
    repeat' (first | exact slots_nil | refine kw ?_ | refine kv ?_ ?_ | exact memIn_nil | omega)
    all_goals try rfl
    rintro ⟨j, v⟩ c2 hj
    dsimp only at hj ⊢
    by_cases hjl : j < b.length
    · have hw : b[j]? = some b[j] := List.getElem?_eq_getElem hjl
      generalize b[j] = e at hw
      have hw2 : (b.map Entry.d)[j]? = some e.d := by rw [List.getElem?_map, hw]; rfl
      have hke := refKey_c ks e.row (by omega)
      have hsm := same01_c (keyE ks e.row) k
      have hs : (b.take (j + 1)).filter (kP ks k) = (b.take j).filter (kP ks k) ++ if kP ks k e = true then [e] else [] := by
        rw [take_snoc' hw, List.filter_append, List.filter_cons]; rfl
      have hal : ((b.take j).filter (kP ks k)).length ≤ j := Nat.le_trans (List.length_filter_le _ _) (by simp; omega)
      generalize (b.take j).filter (kP ks k) = A at hs hal ⊢
      cases hp : kP ks k e with
      | false =>
        rw [hp, if_neg (by decide), List.append_nil] at hs
        unfold kP at hp
        rw [hp] at hsm
        rw [← hs]
        repeat' (first | refine Go.Abs.ks ?_ | refine ko ?_ | refine s_indexD ?_ (hel := (by first | exact idx_map hw2 (by omega) | exact hw2 | exact rfl)) | refine s_call (hke) ?_ | refine s_call (hsm) ?_ | refine s_kT ?_ | refine f_ret1 def_nil ?_ | refine t_tmp ?_)
        (apply s_round ((j + 1, v)); all_goals (try dsimp only); all_goals (try (repeat' (first | exact slots_nil | refine kw ?_ | refine kv ?_ ?_ | exact memIn_nil | omega))))
      | true =>
        rw [hp, if_pos rfl] at hs
        unfold kP at hp
        rw [hp] at hsm
        have hl2 : (A ++ [e]).length = A.length + 1 := by simp
        have hm2 : (A ++ [e]).map Entry.d = A.map Entry.d ++ [e.d] := by simp
        repeat' (first | refine Go.Abs.ks ?_ | refine ko ?_ | refine s_indexD ?_ (hel := (by first | exact idx_map hw2 (by omega) | exact hw2 | exact rfl)) | refine s_call (hke) ?_ | refine s_call (hsm) ?_ | refine s_kT ?_ | refine f_ret1 def_nil ?_ | refine t_tmp ?_)
        (apply s_round ((j + 1, _)); all_goals (try dsimp only); all_goals (try (repeat' (first | exact slots_nil | refine w1 ?_ | refine w5 ?_ ?_ | exact memIn_nil | refine memIn_same ?_ | refine m1 ?_ ?_ | omega))))
        all_goals rw [hs]
        all_goals first
          | (rw [hm2]; rfl)
          | (rw [hl2]; rfl)
    · obtain rfl : j = b.length := by omega
      rw [take_ge (Nat.le_refl _)]
      have hone : ([[rowD row, Dat.lit (.int .i64 1)]] : List (List Dat))[0]? = some [rowD row, .lit (.int .i64 1)] := rfl
      generalize b.filter (kP ks k) = A at gK ⊢
      refine s_freeze (r := 0) (m := A.length) (es1 := A.map Entry.d) 12 ?_
      repeat' (first | refine Go.Abs.ks ?_ | refine ko ?_ | refine s_indexD ?_ (hel := (by first | exact idx_map hx2 (by omega) | exact idx_map hcell (by omega) | exact idx_map hone (by omega) | exact hx2 | exact hcell | exact hone | exact rfl)) | refine s_call (gK) ?_ | refine s_call (sR) ?_ | refine s_kT ?_ | refine f_ret1 def_nil ?_ | refine t_tmp ?_)
      (apply s_round ((i + 1, n + cn)); all_goals (try dsimp only); all_goals (try (repeat' (first | exact slots_nil | refine kw ?_ | refine kv ?_ ?_ | exact memIn_nil | omega))))
      all_goals first
        | exact ⟨by omega, hn1.symm⟩
        | skip
  · rw [take_ge (show K.length ≤ i by omega)] at hn
    rw [← hn] at hsz
    repeat' (first | refine Go.Abs.ks ?_ | refine ko ?_ | refine s_indexD ?_ (hel := (by first | exact rfl)) | refine s_call (hsz) ?_ | refine s_call (awake09_c) ?_ | refine s_kT ?_ | refine f_ret1 def_nil ?_ | refine t_tmp ?_)
    all_goals rfl
end Go.Proofs.YtojfhaoleedmkaaGreat
