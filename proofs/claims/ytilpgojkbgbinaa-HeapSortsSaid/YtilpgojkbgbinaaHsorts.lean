/- HeapSorts: the least ones of a row, and all of them, in order, those that are alike as they stood. -/
import Derived.Test.YtilpgojkbgbinaaSrt
import Derived.Test.YtilpgojkbgbinaaApp
import Derived.Deep.RegionHeld3
import Derived.Laws.AppendOwnNone
set_option maxRecDepth 100000
set_option linter.unusedVariables false
set_option linter.unusedSimpArgs false
namespace Go.Proofs.Ytilpgojkbgbinaa
open Go.RowKit
attribute [local go_sem] run_frombits run_tobits more_more more_drew more_drewN more_size more_cell more_frozen run_store_float lt_c1 le_c1 lt_s1 le_s1 lt_c2 le_c2 lt_s2 le_s2 lt_c3 le_c3 lt_s3 le_s3 lt_c4 le_c4 lt_s4 le_s4 lt_c5 le_c5 lt_s5 le_s5 lt_c6 le_c6 lt_s6 le_s6 lt_c7 le_c7 lt_s7 le_s7 lt_c8 le_c8 lt_s8 le_s8 lt_c9 le_c9 lt_s9 le_s9 lt_c10 le_c10 lt_s10 le_s10 lt_c11 le_c11 lt_s11 le_s11 lt_c12 le_c12 lt_s12 le_s12 le_c0
/-- items in their order, their values: a row in order by number and place -/
theorem sortedS_NI {l : List Itm} {S : List (It Itm)} (hp : S.Perm (itsF 0 l)) (hs : Sorted (ltS ltItm) S) (hid : l.Pairwise (fun a b => a.id < b.id)) : Sorted ltNI (S.map (·.v)) := by
  unfold Sorted
  rw [List.pairwise_map]
  have hmem : ∀ x ∈ S, ∃ (i : Nat) (h : i < l.length), x = ⟨l[i], 0, (i : Int)⟩ := fun x hx => by
    obtain ⟨i, hi, e⟩ := List.getElem_of_mem (hp.mem_iff.1 hx)
    rw [itsF_at] at e
    exact ⟨i, by rw [itsF_length] at hi; exact hi, e.symm⟩
  refine List.Pairwise.imp_of_mem (fun {a b} ha hb hab => ?_) hs
  obtain ⟨i, hi, rfl⟩ := hmem a ha
  obtain ⟨j, hj, rfl⟩ := hmem b hb
  rw [ltS_iff] at hab
  rw [ltNI_iff]
  simp only [ltItm, decide_eq_true_eq, decide_eq_false_iff_not] at hab
  simp only
  rcases hab with h | ⟨h1, h2⟩
  · exact .inl h
  · by_cases h3 : l[i].n < l[j].n
    · exact .inl h3
    · right
      refine ⟨by omega, ?_⟩
      have hij : i < j := by omega
      exact List.pairwise_iff_getElem.1 hid i j hi hj hij
theorem sorted_same {l O : List Itm} {S : List (It Itm)} (hp : S.Perm (itsF 0 l)) (hs : Sorted (ltS ltItm) S) (hid : l.Pairwise (fun a b => a.id < b.id)) (hO : SortedOf l O) : S.map (·.v) = O := by
  refine sorted_unique ltNI_swo _ _ ?_ (sortedS_NI hp hs hid) (hO.2.2 hid)
  refine ((hp.map (·.v)).trans ?_).trans hO.1.symm
  rw [itsF_map]
set_option maxHeartbeats 1000000 in
theorem walk_HeapSorts (A : Option Addr) (ca : Nat) (l : List Int) (hl : ∀ n ∈ l, -128 ≤ n ∧ n ≤ 127) (n : Int) (n1 : -9223372036854775808 ≤ n) (n2 : n < 9223372036854775808) (w : World) (la : l.length ≤ 9223372036854775807) (ha : RowIn i8C 1 w A l) :
    Calls Try.prog 8 #[.slice A l.length ca, .int .i64 n] w fun e w' => e = .returned (.bool true) ∧ ∃ x, w' = more w x := by
  rcases Nat.lt_or_ge 150 l.length with h150 | h150
  · have h1 : (150 : Int) < (l.length : Int) := by omega
    go_enter Try.func8, Try.ntmps8
    go_wp2_with fail
    refine (known8 _).mono' ?_; intro x
    go_wp2
    go_ret
    exact ⟨rfl, (more_of_below (by repeat (first | (with_reducible exact Below.refl _ _) | (with_reducible refine Below.drew ?_) | (with_reducible refine Below.alloc ?_ (by simp [more_size]; try omega) _) | (with_reducible refine Below.setCell ?_ (by simp [more_size]; try omega) _) | (with_reducible refine below_more ?_ _ (by simp [more_size]; try omega)))))⟩
  · have h1 : (l.length : Int) ≤ 150 := by omega
    obtain ⟨i0, hi, hz0, hz1, hz2⟩ := info_parts info_Itm
    have IT := Lib.hid (fun W h => items_any A ca l hl W (by omega) h)
    have hA := Lib.hid ha
    clear la ha
    go_enter Try.func8, Try.ntmps8
    go_wp2_with fail
    refine (known8 _).mono' ?_; intro x
    go_wp2_with fail
    refine (IT.out _ (hA.out.more x)).mono ?_
    rintro e w1 ⟨v, rfl, own, bel⟩
    obtain ⟨S, hS1, hS2⟩ := its_ex ltItm_swo 0 (itemsL l)
    have hid := itemsL_ids l
    have hxl := itemsL_length l
    have hB1 := Lib.hid ((more_below w x).trans (bel.mono (by rw [more_size]; omega)))
    obtain ⟨A1, cap1, rfl, q1, q2, q3, q4⟩ := own_row cItm_len hxl own
    have hxs := Lib.hid q3
    generalize itemsL l = X at *
    generalize hN : l.length = N at *
    have news := Lib.hid (rowIn_news cItm_len (by decide) q3)
    have newl := Lib.hid (show (rowC cItm X).length = N * 2 by rw [rowC_length cItm_len, hxl])
    have hone := Lib.hid (rowC_one cItm_one X)
    replace q4 := Lib.hid q4
    clear own bel IT q3 hA hl
    go_wp2_with (at_builtin; refine wpList_append_row rfl _ _ 74 rfl w1.heap.size 80 i0 _ 2 16 Try.underlying74 hi hz0 hz1 hz2 rfl (by decide) (.slice none 0 0) 0 [] rfl (World.ownsRow_nil _ _ _ _) A1 N cap1 (rowC cItm X) rfl q4.out newl.out news.out hone.out (by unfold maxLen; omega) (by omega) (Nat.le_refl _) ?_; intro v2 w2 own2 grow2 _)
    rw [Nat.zero_add, List.nil_append] at own2
    have hB12 : Below w1.heap.size w1 w2 := grown_below grow2 (Nat.le_refl _) (fun g h => by simp [Value.ownBlock] at h)
    have hB2 := Lib.hid (hB1.out.trans (hB12.mono hB1.out.size))
    have hx2 := Lib.hid (hxs.out.below hB12)
    obtain ⟨A2, cap2, rfl, _, _, hw2, _⟩ := own_row cItm_len hxl own2
    replace hw2 := Lib.hid hw2
    have SR := Lib.hid (hxl ▸ sorted_any A1 cap1 X w2 (by omega) hx2.out : Calls Try.prog 45 #[.slice A1 N cap1] w2 fun e w' => ∃ v O, e = .returned v ∧ SortedOf X O ∧ w'.ownsRow w2.heap.size 80 2 v N (rowC cItm O) ∧ Below w2.heap.size w2 w')
    clear own2 grow2 hB12 hxs hB1 news newl hone
    go_wp2_with fail
    refine SR.out.mono ?_
    rintro e w3 ⟨v3, O, rfl, hO, own3, bel3⟩
    have hOl : O.length = N := by rw [hO.1.length_eq, hxl]
    obtain ⟨A3, cap3, rfl, _, _, hw3, _⟩ := own_row cItm_len hOl own3
    have hh3 := own_head own3
    have hB3 := Lib.hid (hB2.out.trans (bel3.mono hB2.out.size))
    have hx3 := Lib.hid (hx2.out.below bel3)
    have ha3 := Lib.hid (hw2.out.below bel3)
    have hSO := sorted_same hS1 hS2 hid hO
    have ST := Lib.hid (hxl ▸ sort_It3 ltItm_swo tells_less A1 cap1 X w3 (by omega) hx3.out S hS1 hS2 : Calls Try.prog 47 #[.slice A1 N cap1, .func (.func 48) #[] #[]] w3 fun e w' => ∃ v, e = .returned v ∧ w'.ownsRow w3.heap.size 80 2 v N (rowC cItm (S.map (·.v))) ∧ Below w3.heap.size w3 w')
    rw [hSO] at ST
    replace hw3 := Lib.hid hw3
    replace hO := Lib.hid hO
    replace hS1 := Lib.hid hS1
    replace hS2 := Lib.hid hS2
    replace hid := Lib.hid hid
    clear own3 bel3 hx2 hw2 hB2 SR
    go_wp2_with fail
    refine ST.out.mono ?_
    rintro e w4 ⟨v4, rfl, own4, bel4⟩
    obtain ⟨A4, cap4, rfl, _, _, hw4, _⟩ := own_row cItm_len hOl own4
    have hB4 := Lib.hid (hB3.out.trans (bel4.mono hB3.out.size))
    have hx4 := Lib.hid (hx3.out.below bel4)
    have ha4 := Lib.hid (ha3.out.below bel4)
    have ho4 := Lib.hid (hw3.out.below bel4)
    have SM1 := same_any8 A4 A3 cap4 cap3 O O w4 (by omega) (by omega) hw4 ho4.out
    rw [hOl, decide_eq_true rfl] at SM1
    have SM2 := fun z => same_any8 A1 A2 cap1 cap2 X X (more w4 z) (by omega) (by omega) (hx4.out.more z) (ha4.out.more z)
    rw [hxl, decide_eq_true rfl] at SM2
    replace SM1 := Lib.hid SM1
    replace SM2 := Lib.hid SM2
    clear own4 bel4 hw4 ST hx3 ha3 hw3 hB3
    go_wp2_with fail
    refine SM1.out.mono' ?_; intro z1
    go_wp2_with fail
    refine (SM2.out z1).mono' ?_; intro z2
    go_wp2_with fail
    refine wp_called (R := fun W => RowIn cItm 2 W A1 X ∧ RowIn cItm 2 W A2 X ∧ RowIn cItm 2 W A3 O ∧ Below w.heap.size w W) ⟨hx4.out.more _, ha4.out.more _, ho4.out.more _, below_more hB4.out _ hB4.out.size⟩ ?_
    rintro W ⟨hx5, ha5, ho5, hB5⟩
    have hS0 : RowIn cItm 2 W.drew A1 X ∧ RowIn cItm 2 W.drew A2 X ∧ RowIn cItm 2 W.drew A3 O ∧ Below w.heap.size w W.drew := ⟨hx5, ha5, ho5, hB5.drew⟩
    clear SM1 SM2 hx4 ha4 ho4 hB4 hx5 ha5 ho5 hB5
    obtain ⟨K, hK⟩ : ∃ K, K = min n.toNat N := ⟨_, rfl⟩
    have hOK : (O.take n.toNat).length = K := by rw [List.length_take, hOl, hK]
    have KEEP : ∀ W W', Below W.heap.size W W' → (RowIn cItm 2 W A1 X ∧ RowIn cItm 2 W A2 X ∧ RowIn cItm 2 W A3 O ∧ Below w.heap.size w W) → (RowIn cItm 2 W' A1 X ∧ RowIn cItm 2 W' A2 X ∧ RowIn cItm 2 W' A3 O ∧ Below w.heap.size w W') := fun W W' hb h => ⟨h.1.below hb, h.2.1.below hb, h.2.2.1.below hb, below_then h.2.2.2 hb⟩
    have LS := Lib.hid (show ∀ W', (RowIn cItm 2 W' A1 X ∧ RowIn cItm 2 W' A2 X ∧ RowIn cItm 2 W' A3 O ∧ Below w.heap.size w W') → Calls Try.prog 49 #[.slice A1 N cap1, .int .i64 n, .func (.func 48) #[] #[]] W' (fun e w' => ∃ B cb, e = .returned (.slice B K cb) ∧ RowIn cItm 2 w' B (O.take n.toNat) ∧ (RowIn cItm 2 w' A1 X ∧ RowIn cItm 2 w' A2 X ∧ RowIn cItm 2 w' A3 O ∧ Below w.heap.size w w')) from fun W' h => by
      have h2 := least_It3 ltItm_swo tells_less A1 cap1 X n W' (by omega) h.1 S hS1.out hS2.out
      rw [List.map_take, hSO, hxl, ← hK] at h2
      refine h2.mono ?_
      rintro e w' ⟨v, rfl, own, bel⟩
      obtain ⟨B, cb, rfl, _, _, hB, _⟩ := own_row cItm_len hOK own
      exact ⟨B, cb, rfl, hB, KEEP _ _ bel h⟩)
    have SMK := Lib.hid (show ∀ W' B cb cb3, RowIn cItm 2 W' B (O.take n.toNat) → (RowIn cItm 2 W' A1 X ∧ RowIn cItm 2 W' A2 X ∧ RowIn cItm 2 W' A3 O ∧ Below w.heap.size w W') → Calls Try.prog 46 #[.slice B K cb, .slice A3 K cb3] W' (fun e w' => e = .returned (.bool true) ∧ (RowIn cItm 2 w' A1 X ∧ RowIn cItm 2 w' A2 X ∧ RowIn cItm 2 w' A3 O ∧ Below w.heap.size w w')) from fun W' B cb cb3 h1 h => by
      have h3 := same_any8 B A3 cb cb3 _ _ W' (by omega) (by omega) h1 (h.2.2.1.take n.toNat)
      rw [hOK, decide_eq_true rfl] at h3
      exact h3.mono' fun x => ⟨rfl, KEEP _ _ (more_below W' x) h⟩)
    have SMX := Lib.hid (show ∀ W', (RowIn cItm 2 W' A1 X ∧ RowIn cItm 2 W' A2 X ∧ RowIn cItm 2 W' A3 O ∧ Below w.heap.size w W') → Calls Try.prog 46 #[.slice A1 N cap1, .slice A2 N cap2] W' (fun e w' => e = .returned (.bool true) ∧ (RowIn cItm 2 w' A1 X ∧ RowIn cItm 2 w' A2 X ∧ RowIn cItm 2 w' A3 O ∧ Below w.heap.size w w')) from fun W' h => by
      have h3 := same_any8 A1 A2 cap1 cap2 X X W' (by omega) (by omega) h.1 h.2.1
      rw [hxl, decide_eq_true rfl] at h3
      exact h3.mono' fun x => ⟨rfl, KEEP _ _ (more_below W' x) h⟩)
    obtain ⟨m, hm⟩ : ∃ m : Int, (if (N : Int) < n then (N : Int) else n) = m := ⟨_, rfl⟩
    have hmm : (if (0 : Int) < m then m else 0) = (K : Int) := by
      subst hm; split <;> split <;> omega
    have hK1 : (0 : Int) ≤ (K : Int) := by omega
    have hK2 : (K : Int) ≤ (N : Int) := by omega
    have hNc : N ≤ cap3 := by assumption
    have hK3 : (K : Int) ≤ (cap3 : Int) := by omega
    have hK4 : K ≤ cap3 := by omega
    have hq3 : A3 = none → cap3 = 0 ∧ N = 0 := by assumption
    have hKN : K ≤ N := by omega
    clear hS1 hS2 hSO hO hid KEEP hK hOK q4 hOl hxl h150 h1 q1 q2
    rcases hh3 with rfl | ⟨g3, rfl⟩
    ·
      obtain ⟨rfl, rfl⟩ := hq3 rfl
      obtain rfl : K = 0 := by omega
      have hm' : (if (0 : Int) < n then (0 : Int) else n) = m := hm
      have hmm' : (if (0 : Int) < m then m else 0) = 0 := hmm
      clear hm hmm
      clear hq3
      go_region_held3 (fun w' => RowIn cItm 2 w' A1 X ∧ RowIn cItm 2 w' A2 X ∧ RowIn cItm 2 w' none O ∧ Below w.heap.size w w') (first | assumption | go_keep) ((first | (go_at_call 49; refine (LS.out _ (by assumption)).mono ?_; rintro e w5 ⟨B, cb, rfl, hB5, hS5⟩) | (go_at_call 46; with_reducible refine Calls.mono (SMX.out _ (by assumption)) ?_; rintro e w7 ⟨rfl, hS7⟩) | (go_at_call 46; with_reducible refine Calls.mono (SMK.out _ _ _ _ (by assumption) (by assumption)) ?_; rintro e w6 ⟨rfl, hS6⟩)))
      all_goals
        go_wp2
        go_ret
        exact ⟨rfl, more_of_below (by first | exact hS7.2.2.2 | exact hS6.2.2.2)⟩
    ·
      clear hq3
      go_region_held3 (fun w' => RowIn cItm 2 w' A1 X ∧ RowIn cItm 2 w' A2 X ∧ RowIn cItm 2 w' (some ⟨g3, 0, none⟩) O ∧ Below w.heap.size w w') (first | assumption | go_keep) ((first | (go_at_call 49; refine (LS.out _ (by assumption)).mono ?_; rintro e w5 ⟨B, cb, rfl, hB5, hS5⟩) | (go_at_call 46; with_reducible refine Calls.mono (SMX.out _ (by assumption)) ?_; rintro e w7 ⟨rfl, hS7⟩) | (go_at_call 46; with_reducible refine Calls.mono (SMK.out _ _ _ _ (by assumption) (by assumption)) ?_; rintro e w6 ⟨rfl, hS6⟩)))
      all_goals
        go_wp2
        go_ret
        exact ⟨rfl, more_of_below (by first | exact hS7.2.2.2 | exact hS6.2.2.2)⟩
theorem law_HeapSorts (v0 v1 : Value) (w : World) (h0 : IsRow i8C 1 (fun n => -128 ≤ n ∧ n ≤ 127) w v0) (h1 : IsI64 v1) :
    Calls Try.prog 8 #[v0, v1] w fun e w' => e = .returned (.bool true) ∧ Below w.heap.size w w' := by
  obtain ⟨A, ca, l, rfl, q1, q2, q3, ql, qa⟩ := h0
  obtain ⟨n, rfl, k1, k2⟩ := h1
  exact law_of (walk_HeapSorts A ca l ql n k1 k2 w (by omega) qa)
end Go.Proofs.Ytilpgojkbgbinaa
