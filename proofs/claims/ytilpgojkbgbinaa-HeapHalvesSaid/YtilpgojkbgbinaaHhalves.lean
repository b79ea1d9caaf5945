/- HeapHalves: a row that is parted anywhere, both parts sorted and merged, is the row sorted. -/
import Derived.Test.YtilpgojkbgbinaaMrg
import Derived.Test.YtilpgojkbgbinaaSrt
import Derived.Deep.RegionHeld3
import Derived.Test.YtilpgojkbgbinaaOrder8
set_option maxRecDepth 100000
set_option linter.unusedVariables false
set_option linter.unusedSimpArgs false
namespace Go.Proofs.Ytilpgojkbgbinaa
open Go.RowKit
attribute [local go_sem] run_frombits run_tobits more_more more_drew more_drewN more_size more_cell more_frozen run_store_float lt_c1 le_c1 lt_s1 le_s1 lt_c2 le_c2 lt_s2 le_s2 lt_c3 le_c3 lt_s3 le_s3 lt_c4 le_c4 lt_s4 le_s4 lt_c5 le_c5 lt_s5 le_s5 lt_c6 le_c6 lt_s6 le_s6 lt_c7 le_c7 lt_s7 le_s7 lt_c8 le_c8 lt_s8 le_s8 lt_c9 le_c9 lt_s9 le_s9 lt_c10 le_c10 lt_s10 le_s10 lt_c11 le_c11 lt_s11 le_s11 lt_c12 le_c12 lt_s12 le_s12 le_c0
theorem cut_bd (at_ : Int) (N : Nat) (hN : 0 < N) : ∃ k : Nat, k < N ∧ ((at_.tmod (N : Int)) + (N : Int)).tmod (N : Int) = (k : Int) ∧ -(N : Int) < at_.tmod (N : Int) ∧ at_.tmod (N : Int) < (N : Int) := by
  have hN' : (0 : Int) < (N : Int) := by omega
  have h1 : -(N : Int) < at_.tmod (N : Int) := by have := Int.lt_tmod_of_pos at_ hN'; omega
  have h2 : at_.tmod (N : Int) < (N : Int) := Int.tmod_lt_of_pos at_ hN'
  have h3 : 0 ≤ (at_.tmod (N : Int)) + (N : Int) := by omega
  have h4 := Int.tmod_lt_of_pos ((at_.tmod (N : Int)) + (N : Int)) hN'
  have h5 := Int.tmod_nonneg (N : Int) h3
  exact ⟨(((at_.tmod (N : Int)) + (N : Int)).tmod (N : Int)).toNat, by omega, by omega, h1, h2⟩
set_option maxHeartbeats 2000000 in
theorem walk_HeapHalves (A : Option Addr) (ca : Nat) (l : List Int) (hl : ∀ n ∈ l, -128 ≤ n ∧ n ≤ 127) (n : Int) (n1 : -9223372036854775808 ≤ n) (n2 : n < 9223372036854775808) (w : World) (la : l.length ≤ 9223372036854775807) (ha : RowIn i8C 1 w A l) :
    Calls Try.prog 12 #[.slice A l.length ca, .int .i64 n] w fun e w' => e = .returned (.bool true) ∧ ∃ x, w' = more w x := by
  rcases Nat.lt_or_ge 120 l.length with h150 | h150
  · have h1 : (120 : Int) < (l.length : Int) := by omega
    go_enter Try.func12, Try.ntmps12
    go_wp2_with fail
    refine (known8 _).mono' ?_; intro x
    go_wp2
    go_ret
    exact ⟨rfl, (more_of_below (by repeat (first | (with_reducible exact Below.refl _ _) | (with_reducible refine Below.drew ?_) | (with_reducible refine Below.alloc ?_ (by simp [more_size]; try omega) _) | (with_reducible refine Below.setCell ?_ (by simp [more_size]; try omega) _) | (with_reducible refine below_more ?_ _ (by simp [more_size]; try omega)))))⟩
  · have h1 : (l.length : Int) ≤ 120 := by omega
    have IT := Lib.hid (fun W h => items_any A ca l hl W (by omega) h)
    have hA := Lib.hid ha
    clear la ha
    go_enter Try.func12, Try.ntmps12
    go_wp2_with fail
    refine (known8 _).mono' ?_; intro x
    go_wp2_with fail
    refine (IT.out _ (hA.out.more x)).mono ?_
    rintro e w1 ⟨v, rfl, own, bel⟩
    have hid := itemsL_ids l
    have hxl := itemsL_length l
    have hB1 := Lib.hid ((more_below w x).trans (bel.mono (by rw [more_size]; omega)))
    obtain ⟨A1, cap1, rfl, q1, q2, q3, q4⟩ := own_row cItm_len hxl own
    have hh := own_head own
    generalize itemsL l = X at *
    generalize hN : l.length = N at *
    clear own bel IT hA hl
    -- the parts, sorted
    obtain ⟨S, hS1, hS2⟩ := its_ex ltItm_swo 0 X
    have SS0 : RowIn cItm 2 w1 A1 X ∧ Below w.heap.size w w1 := ⟨q3, hB1.out⟩
    have KEEP : ∀ W W', Below W.heap.size W W' → (RowIn cItm 2 W A1 X ∧ Below w.heap.size w W) → (RowIn cItm 2 W' A1 X ∧ Below w.heap.size w W') := fun W W' hb h => ⟨h.1.below hb, below_then h.2 hb⟩
    have SX := Lib.hid (show ∀ W', (RowIn cItm 2 W' A1 X ∧ Below w.heap.size w W') → Calls Try.prog 47 #[.slice A1 N cap1, .func (.func 48) #[] #[]] W' (fun e w' => ∃ B cb, e = .returned (.slice B N cb) ∧ RowIn cItm 2 w' B (S.map (·.v)) ∧ (RowIn cItm 2 w' A1 X ∧ Below w.heap.size w w') ∧ Below W'.heap.size W' w') from fun W' h => by
      have h2 := sort_It3 ltItm_swo tells_less A1 cap1 X W' (by omega) h.1 S hS1 hS2
      rw [hxl] at h2
      refine h2.mono ?_
      rintro e w' ⟨v, rfl, own, bel⟩
      obtain ⟨B, cb, rfl, _, _, hB, _⟩ := own_row cItm_len (by rw [List.length_map, hS1.length_eq, itsF_length, hxl]) own
      exact ⟨B, cb, rfl, hB, KEEP _ _ bel h, bel⟩)
    have PARTS := Lib.hid (show ∀ k, k ≤ N → ∃ O1 O2 : List Itm, O1.length = k ∧ O2.length = N - k ∧
        (∀ W' B cb, RowIn cItm 2 W' B (X.take k) → (RowIn cItm 2 W' A1 X ∧ Below w.heap.size w W') → Calls Try.prog 47 #[.slice B k cb, .func (.func 48) #[] #[]] W' (fun e w' => ∃ B cb, e = .returned (.slice B k cb) ∧ RowIn cItm 2 w' B O1 ∧ (RowIn cItm 2 w' A1 X ∧ Below w.heap.size w w') ∧ Below W'.heap.size W' w')) ∧
        (∀ W' B cb, RowIn cItm 2 W' B (X.drop k) → (RowIn cItm 2 W' A1 X ∧ Below w.heap.size w W') → Calls Try.prog 47 #[.slice B (N - k) cb, .func (.func 48) #[] #[]] W' (fun e w' => ∃ B cb, e = .returned (.slice B (N - k) cb) ∧ RowIn cItm 2 w' B O2 ∧ (RowIn cItm 2 w' A1 X ∧ Below w.heap.size w w') ∧ Below W'.heap.size W' w')) ∧
        (∀ W' g t B1 c1 B2 c2, Blk W' g #[.slice B1 k c1, .slice B2 (N - k) c2] t → RowIn cItm 2 W' B1 O1 → RowIn cItm 2 W' B2 O2 → (RowIn cItm 2 W' A1 X ∧ Below w.heap.size w W') → Calls Try.prog 57 #[.slice (some ⟨g, 0, none⟩) 2 2, .func (.func 48) #[] #[]] W' (fun e w' => ∃ B cb, e = .returned (.slice B N cb) ∧ RowIn cItm 2 w' B (S.map (·.v)) ∧ (RowIn cItm 2 w' A1 X ∧ Below w.heap.size w w') ∧ Below W'.heap.size W' w')) from fun k hk => by
      obtain ⟨S1, p1, s1⟩ := its_ex ltItm_swo 0 (X.take k)
      obtain ⟨S2, p2, s2⟩ := its_ex ltItm_swo 0 (X.drop k)
      have l1 : (X.take k).length = k := by rw [List.length_take, hxl]; omega
      have l2 : (X.drop k).length = N - k := by rw [List.length_drop, hxl]
      have e1 : (S1.map (·.v)).length = k := by rw [List.length_map, p1.length_eq, itsF_length, l1]
      have e2 : (S2.map (·.v)).length = N - k := by rw [List.length_map, p2.length_eq, itsF_length, l2]
      have m1 : (S1.map (·.v)).Perm (X.take k) := by have := p1.map (·.v); rwa [itsF_map] at this
      have m2 : (S2.map (·.v)).Perm (X.drop k) := by have := p2.map (·.v); rwa [itsF_map] at this
      have hidt : (X.take k).Pairwise (fun a b => a.id < b.id) := List.Pairwise.sublist (List.take_sublist k X) hid
      have hidd : (X.drop k).Pairwise (fun a b => a.id < b.id) := List.Pairwise.sublist (List.drop_sublist k X) hid
      have n1' := sortedS_NI p1 s1 hidt
      have n2' := sortedS_NI p2 s2 hidd
      refine ⟨S1.map (·.v), S2.map (·.v), e1, e2, fun W' B cb hB h => ?_, fun W' B cb hB h => ?_, fun W' g t B1 c1 B2 c2 hblk r1 r2 h => ?_⟩
      · have h2 := sort_It3 ltItm_swo tells_less B cb (X.take k) W' (by omega) hB S1 p1 s1
        rw [l1] at h2
        refine h2.mono ?_
        rintro e w' ⟨v, rfl, own, bel⟩
        obtain ⟨B, cb, rfl, _, _, hB, _⟩ := own_row cItm_len e1 own
        exact ⟨B, cb, rfl, hB, KEEP _ _ bel h, bel⟩
      · have h2 := sort_It3 ltItm_swo tells_less B cb (X.drop k) W' (by omega) hB S2 p2 s2
        rw [l2] at h2
        refine h2.mono ?_
        rintro e w' ⟨v, rfl, own, bel⟩
        obtain ⟨B, cb, rfl, _, _, hB, _⟩ := own_row cItm_len e2 own
        exact ⟨B, cb, rfl, hB, KEEP _ _ bel h, bel⟩
      · obtain ⟨T, t1, t2⟩ := itsR_ex ltItm_swo [S1.map (·.v), S2.map (·.v)]
        have hflat : [S1.map (·.v), S2.map (·.v)].flatten.Perm X := by
          simp only [List.flatten_cons, List.flatten_nil, List.append_nil]
          have := m1.append m2
          rwa [List.take_append_drop] at this
        have hTot : (itsR [S1.map (·.v), S2.map (·.v)]).flatten.length = N := by
          have := congrArg List.length (itsR_vals [S1.map (·.v), S2.map (·.v)])
          rw [List.length_map] at this
          rw [this, hflat.length_eq, hxl]
        have h2 := merge_It3 ltItm_swo tells_less (some ⟨g, 0, none⟩) 2 [⟨B1, c1, S1.map (·.v)⟩, ⟨B2, c2, S2.map (·.v)⟩] W' (by simp) (fun r hr => by
            simp only [List.mem_cons, List.not_mem_nil, or_false] at hr
            rcases hr with rfl | rfl
            · rw [e1]; omega
            · rw [e2]; omega) (by show (itsR [S1.map (·.v), S2.map (·.v)]).flatten.length ≤ 100000; rw [hTot]; omega) (rowIn_blk cRw_len hblk (by simp only [rowC, List.flatMap_cons, List.flatMap_nil, cRw, e1, e2]; rfl)) (fun r hr => by
            simp only [List.mem_cons, List.not_mem_nil, or_false] at hr
            rcases hr with rfl | rfl
            · exact r1
            · exact r2)
        refine h2.mono ?_
        rintro e w' ⟨v, D, rfl, own, bel, hD1, hD2⟩
        have hDT := hD2 T t1 t2 (fun r hr => by
          simp only [List.map_cons, List.map_nil, List.mem_cons, List.not_mem_nil, or_false] at hr
          rcases hr with rfl | rfl
          · exact NI_le n1'
          · exact NI_le n2')
        subst hDT
        have hNI : Sorted ltNI (D.map (·.v)) := merge_NI t1 t2 (fun r hr => by
          simp only [List.mem_cons, List.not_mem_nil, or_false] at hr
          rcases hr with rfl | rfl
          · exact n1'
          · exact n2') (fun i j hi hj hij a ha b hb => by
          simp only [List.length_cons, List.length_nil] at hi hj
          obtain rfl : i = 0 := by omega
          obtain rfl : j = 1 := by omega
          have ha' := m1.mem_iff.1 ha
          have hb' := m2.mem_iff.1 hb
          have hX := hid
          rw [← List.take_append_drop k X, List.pairwise_append] at hX
          exact hX.2.2 a ha' b hb')
        have hDX : D.map (·.v) = S.map (·.v) := by
          refine sorted_unique ltNI_swo _ _ ?_ hNI (sortedS_NI hS1 hS2 hid)
          have h3 := t1.map (·.v)
          rw [itsR_vals] at h3
          have h4 := hS1.map (·.v)
          rw [itsF_map] at h4
          exact (h3.trans hflat).trans h4.symm
        have hDl : D.length = N := by rw [t1.length_eq]; exact hTot
        rw [hDX, hDl] at own
        obtain ⟨B, cb, rfl, _, _, hB, _⟩ := own_row cItm_len (by rw [← hDX, List.length_map, hDl]) own
        exact ⟨B, cb, rfl, hB, KEEP _ _ bel h, bel⟩)
    have SMS := Lib.hid (show ∀ W' B1 c1 B2 c2, RowIn cItm 2 W' B1 (S.map (·.v)) → RowIn cItm 2 W' B2 (S.map (·.v)) → (RowIn cItm 2 W' A1 X ∧ Below w.heap.size w W') → Calls Try.prog 46 #[.slice B1 N c1, .slice B2 N c2] W' (fun e w' => e = .returned (.bool true) ∧ ∃ x, w' = more w x) from fun W' B1 c1 B2 c2 h1 h2 h => by
      have hSl : (S.map (·.v)).length = N := by rw [List.length_map, hS1.length_eq, itsF_length, hxl]
      have h3 := same_any8 B1 B2 c1 c2 _ _ W' (by omega) (by omega) h1 h2
      rw [hSl, decide_eq_true rfl] at h3
      exact h3.mono' fun x => ⟨rfl, more_of_below (below_more h.2 _ h.2.size)⟩)
    have hN2 : N ≤ 120 := h150
    replace SS0 := Lib.hid SS0
    replace KEEP := Lib.hid KEEP
    clear hS1 hS2 hid hxl hB1 q3
    rcases Nat.eq_zero_or_pos N with hN0 | hN0
    · subst hN0
      obtain ⟨O1, O2, ho1, ho2, P1, P2, P3⟩ := PARTS.out 0 (Nat.le_refl _)
      have hO1n := List.eq_nil_of_length_eq_zero ho1
      have hO2n := List.eq_nil_of_length_eq_zero ho2
      subst hO1n hO2n
      have Q1 := Lib.hid (fun W' B cb h => P1 W' B cb (by rw [List.take_zero]; exact RowIn.nil) h)
      have KEEPA := Lib.hid (fun W o h => KEEP.out W (W.alloc o) (Below.alloc (Below.refl _ _) (Nat.le_refl _) _) h)
      replace P3 := Lib.hid P3
      clear PARTS P1 P2 ho1 ho2 KEEP
      rcases hh with rfl | ⟨g, rfl⟩
      · obtain ⟨rfl, _⟩ := q4 rfl
        go_wp2_with fail
        have hS0 : RowIn cItm 2 w1.drew none X ∧ Below w.heap.size w w1.drew := ⟨SS0.out.1, SS0.out.2.drew⟩
        go_region_held3 (fun w' => RowIn cItm 2 w' none X ∧ Below w.heap.size w w') (first | assumption | exact KEEPA.out _ _ (by assumption)) ((first | (go_at_call 47; with_reducible refine Calls.mono (Q1.out _ _ _ (by assumption)) ?_; rintro e w5 ⟨B1, cb1, rfl, _, hS5, bel5⟩) | (go_at_call 57; with_reducible refine Calls.mono (P3.out _ _ _ _ _ _ _ (Blk.new _ _ _ rfl) RowIn.nil RowIn.nil (by assumption)) ?_; rintro e w7 ⟨B3, cb3, rfl, hO3, hS7, bel7⟩)))
        all_goals
          go_wp2_with fail
          refine (SX.out _ (by assumption)).mono ?_
          rintro e w8 ⟨B4, cb4, rfl, hO4, hS8, bel8⟩
          have hO3' := hO3.below bel8
          go_wp2_with fail
          refine (SMS.out _ _ _ _ _ hO3' hO4 hS8).mono ?_
          rintro e w9 ⟨rfl, hx9⟩
          go_wp2
          go_ret
          exact ⟨rfl, hx9⟩
      · go_wp2_with fail
        have hS0 : RowIn cItm 2 w1.drew (some ⟨g, 0, none⟩) X ∧ Below w.heap.size w w1.drew := ⟨SS0.out.1, SS0.out.2.drew⟩
        go_region_held3 (fun w' => RowIn cItm 2 w' (some ⟨g, 0, none⟩) X ∧ Below w.heap.size w w') (first | assumption | exact KEEPA.out _ _ (by assumption)) ((first | (go_at_call 47; with_reducible refine Calls.mono (Q1.out _ _ _ (by assumption)) ?_; rintro e w5 ⟨B1, cb1, rfl, _, hS5, bel5⟩) | (go_at_call 57; with_reducible refine Calls.mono (P3.out _ _ _ _ _ _ _ (Blk.new _ _ _ rfl) RowIn.nil RowIn.nil (by assumption)) ?_; rintro e w7 ⟨B3, cb3, rfl, hO3, hS7, bel7⟩)))
        all_goals
          go_wp2_with fail
          refine (SX.out _ (by assumption)).mono ?_
          rintro e w8 ⟨B4, cb4, rfl, hO4, hS8, bel8⟩
          have hO3' := hO3.below bel8
          go_wp2_with fail
          refine (SMS.out _ _ _ _ _ hO3' hO4 hS8).mono ?_
          rintro e w9 ⟨rfl, hx9⟩
          go_wp2
          go_ret
          exact ⟨rfl, hx9⟩
    · obtain ⟨k, hkN, hk, b1, b2⟩ := cut_bd n N hN0
      rcases hh with rfl | ⟨g, rfl⟩
      · exact absurd (q4 rfl).2 (by omega)
      · obtain ⟨O1, O2, _, _, P1, P2, P3⟩ := PARTS.out k (by omega)
        have Q1 := Lib.hid (fun W' cb (h : RowIn cItm 2 W' (some ⟨g, 0, none⟩) X ∧ Below w.heap.size w W') => P1 W' _ cb (h.1.take k) h)
        have Q2 := Lib.hid (fun W' cb (h : RowIn cItm 2 W' (some ⟨g, 0, none⟩) X ∧ Below w.heap.size w W') => P2 W' (some ⟨g, k * 2, none⟩) cb (by have := h.1.drop k; rwa [Nat.zero_add] at this) h)
        have KEEPA := Lib.hid (fun W o h => KEEP.out W (W.alloc o) (Below.alloc (Below.refl _ _) (Nat.le_refl _) _) h)
        replace P3 := Lib.hid P3
        have hN1 : (0 : Int) < (N : Int) := by omega
        have hNz : ((N : Int) == 0) = false := by rw [beq_eq_false_iff_ne]; omega
        have hNz2 : ¬ ((N : Int) = 0) := by omega
        have hwr : IntKind.i64.wrap (n.tmod (N : Int)) = n.tmod (N : Int) := IntWalk.i64_in _ (by omega)
        have hws : IntKind.i64.wrap (n.tmod (N : Int) + (N : Int)) = n.tmod (N : Int) + (N : Int) := IntWalk.i64_in _ (by omega)
        have hwk : IntKind.i64.wrap (k : Int) = (k : Int) := IntWalk.i64_in _ (by omega)
        have hk1 : (k : Int) ≤ (N : Int) := by omega
        have hk2 : (k : Int) ≤ (cap1 : Int) := by omega
        have hk3 : k ≤ cap1 := by omega
        have hk4 : k ≤ N := by omega
        have hk5 : (cap1 = k) = False := eq_false (by omega)
        clear PARTS P1 P2 KEEP q4
        go_wp2_with fail
        have hS0 : RowIn cItm 2 w1.drew (some ⟨g, 0, none⟩) X ∧ Below w.heap.size w w1.drew := ⟨SS0.out.1, SS0.out.2.drew⟩
        go_region_held3 (fun w' => RowIn cItm 2 w' (some ⟨g, 0, none⟩) X ∧ Below w.heap.size w w') (first | assumption | exact KEEPA.out _ _ (by assumption)) ((first | (go_at_call 47; with_reducible refine Calls.mono (Q1.out _ _ (by assumption)) ?_; rintro e w5 ⟨B1, cb1, rfl, hO1, hS5, bel5⟩; (try replace hO2 := hO2.below bel5)) | (go_at_call 47; with_reducible refine Calls.mono (Q2.out _ _ (by assumption)) ?_; rintro e w6 ⟨B2, cb2, rfl, hO2, hS6, bel6⟩; (try replace hO1 := hO1.below bel6)) | (go_at_call 57; with_reducible refine Calls.mono (P3.out _ _ _ _ _ _ _ (Blk.new _ _ _ rfl) (RowIn.below hO1 (Below.alloc (Below.refl _ _) (Nat.le_refl _) _)) (RowIn.below hO2 (Below.alloc (Below.refl _ _) (Nat.le_refl _) _)) (by assumption)) ?_; rintro e w7 ⟨B3, cb3, rfl, hO3, hS7, bel7⟩)))
        all_goals
          go_wp2_with fail
          refine (SX.out _ (by assumption)).mono ?_
          rintro e w8 ⟨B4, cb4, rfl, hO4, hS8, bel8⟩
          have hO3' := hO3.below bel8
          go_wp2_with fail
          refine (SMS.out _ _ _ _ _ hO3' hO4 hS8).mono ?_
          rintro e w9 ⟨rfl, hx9⟩
          go_wp2
          go_ret
          exact ⟨rfl, hx9⟩
theorem law_HeapHalves (v0 v1 : Value) (w : World) (h0 : IsRow i8C 1 (fun n => -128 ≤ n ∧ n ≤ 127) w v0) (h1 : IsI64 v1) :
    Calls Try.prog 12 #[v0, v1] w fun e w' => e = .returned (.bool true) ∧ Below w.heap.size w w' := by
  obtain ⟨A, ca, l, rfl, q1, q2, q3, ql, qa⟩ := h0
  obtain ⟨n, rfl, k1, k2⟩ := h1
  exact law_of (walk_HeapHalves A ca l ql n k1 k2 w (by omega) qa)
end Go.Proofs.Ytilpgojkbgbinaa
