/- Layer 8: the row of items, in order, those that are alike as they stood. -/
import Derived.Test.YtilpgojkbgbinaaItm
set_option maxRecDepth 100000
set_option linter.unusedVariables false
set_option linter.unusedSimpArgs false
namespace Go.Proofs.Ytilpgojkbgbinaa
open Go.RowKit
attribute [local go_sem] run_frombits run_tobits more_more more_drew more_drewN more_size more_cell more_frozen run_store_float lt_c1 le_c1 lt_s1 le_s1 lt_c2 le_c2 lt_s2 le_s2 lt_c3 le_c3 lt_s3 le_s3 lt_c4 le_c4 lt_s4 le_s4 lt_c5 le_c5 lt_s5 le_s5 lt_c6 le_c6 lt_s6 le_s6 lt_c7 le_c7 lt_s7 le_s7 lt_c8 le_c8 lt_s8 le_s8 lt_c9 le_c9 lt_s9 le_s9 lt_c10 le_c10 lt_s10 le_s10 lt_c11 le_c11 lt_s11 le_s11 lt_c12 le_c12 lt_s12 le_s12 le_c0
/-- items by number, those that are alike by which one they are -/
def ltNI (a b : Itm) : Bool := decide (a.n < b.n ∨ (a.n = b.n ∧ a.id < b.id))
theorem ltNI_iff (a b : Itm) : ltNI a b = true ↔ (a.n < b.n ∨ (a.n = b.n ∧ a.id < b.id)) := by unfold ltNI; simp
theorem ltNI_swo : Swo ltNI := by
  refine ⟨fun a b h => ?_, fun a b c h1 h2 => ?_⟩
  · rw [ltNI_iff] at h; unfold ltNI; rw [decide_eq_false_iff_not]; omega
  · unfold ltNI at *; rw [decide_eq_false_iff_not] at *; omega
/-- what sorting makes of a row -/
def SortedOf (l O : List Itm) : Prop := O.Perm l ∧ O.Pairwise (fun a b => a.n ≤ b.n) ∧ (l.Pairwise (fun a b => a.id < b.id) → Sorted ltNI O)
theorem sortedOf_nil : SortedOf [] [] := ⟨List.Perm.refl _, by simp, fun _ => by simp [Sorted]⟩
theorem sortedOf_ins {l O : List Itm} {x : Itm} {k : Nat} (h : SortedOf l O) (hk : k ≤ O.length) (h1 : ∀ j (h : j < O.length), k ≤ j → x.n < O[j].n) (h2 : ∀ (h : 0 < k), O[k - 1].n ≤ x.n) : SortedOf (l ++ [x]) (insAt O k x) := by
  obtain ⟨hp, hs, hi⟩ := h
  have t1 : ∀ y ∈ O.take k, y.n ≤ x.n := fun y hy => by
    obtain ⟨j, hj, rfl⟩ := List.getElem_of_mem hy
    rw [List.length_take] at hj
    rw [List.getElem_take]
    have hl := h2 (by omega)
    rcases Nat.lt_or_ge j (k - 1) with q | q
    · have := List.pairwise_iff_getElem.1 hs j (k - 1) (by omega) (by omega) q; omega
    · have : j = k - 1 := by omega
      subst this; exact hl
  have t2 : ∀ y ∈ O.drop k, x.n < y.n := fun y hy => by
    obtain ⟨j, hj, rfl⟩ := List.getElem_of_mem hy
    rw [List.length_drop] at hj
    rw [List.getElem_drop]
    exact h1 (k + j) (by omega) (by omega)
  refine ⟨?_, insAt_pairwise hs t1 (fun y hy => by have := t2 y hy; omega), fun hid => ?_⟩
  · exact (insAt_perm O k x).trans ((hp.cons x).trans (List.perm_append_singleton x l).symm)
  · rw [List.pairwise_append] at hid
    refine insAt_pairwise (hi hid.1) (fun y hy => ?_) (fun y hy => ?_)
    · rw [ltNI_iff]
      have := t1 y hy
      have := hid.2.2 y (hp.mem_iff.1 (List.mem_of_mem_take hy)) x (by simp)
      omega
    · rw [ltNI_iff]; exact .inl (t2 y hy)
set_option maxHeartbeats 4000000 in
theorem sorted_any (A : Option Addr) (ca : Nat) (l : List Itm) (w : World) (la : l.length ≤ 100000) (ha : RowIn cItm 2 w A l) :
    Calls Try.prog 45 #[.slice A l.length ca] w fun e w' => ∃ v O, e = .returned v ∧ SortedOf l O ∧ w'.ownsRow w.heap.size 80 2 v l.length (rowC cItm O) ∧ Below w.heap.size w w' := by
  obtain ⟨i0, hi, hz0, hz1, hz2⟩ := info_parts info_Itm
  have hA := Lib.hid ha
  have own0 := Lib.hid (World.ownsRow_nil w w.heap.size 80 2)
  have hszi : (Try.prog.info? 80).map (·.size) = some 2 := by rw [hi, Option.map_some, hz1]
  clear ha
  go_enter Try.func45, Try.ntmps45
  go_wp2
  go_loopw [3, 4, 5] (fun t3 t4 _ wr => ∃ (i : Nat) (A3 : Option Addr) (cap3 : Nat) (O : List Itm), t4 = .int .i64 i ∧ t3 = .slice A3 i cap3 ∧ i ≤ l.length ∧ Hid (O.length = i) ∧ Hid (SortedOf (l.take i) O) ∧ Hid (wr.ownsRow w.heap.size 80 2 (.slice A3 i cap3) i (rowC cItm O)) ∧ Hid (Below w.heap.size w wr)) (fun _ t _ _ => l.length - (intOf t).toNat)
  case atStart => exact ⟨0, none, 0, [], rfl, rfl, Nat.zero_le _, Lib.hid rfl, Lib.hid sortedOf_nil, own0, Lib.hid (Below.refl _ _)⟩
  case round =>
    obtain ⟨i, A3, cap3, O, rfl, rfl, hi1, hO, hS, own, hB⟩ := hrel
    clear own0
    rcases Nat.lt_or_ge i l.length with hil | hil
    · have hil' : (i : Int) < (l.length : Int) := by omega
      obtain ⟨b1, off, rfl, hb1, hcells⟩ := hA.out i hil
      have x0 := fun y => (more_cell w y _ hb1).trans (hcells i hil 0 _ rfl)
      have x1 := fun y => (more_cell w y _ hb1).trans (hcells i hil 1 _ rfl)
      simp only [Nat.add_zero] at x0
      have htk := List.take_succ_eq_append_getElem hil
      generalize l[i] = x at *
      obtain ⟨xn, xi⟩ := x
      dsimp only at x0 x1
      have hfin : ∀ k, k ≤ O.length → (∀ j (h : j < O.length), k ≤ j → xn < O[j].n) → (∀ (h : 0 < k) (h2 : k - 1 < O.length), O[k - 1].n ≤ xn) → Hid (SortedOf (l.take (i + 1)) (insAt O k ⟨xn, xi⟩)) := fun k h1 h2 h3 => Lib.hid (by
        rw [htk]; exact sortedOf_ins hS.out h1 h2 (fun h => h3 h (by omega)))
      clear hcells htk hS
      obtain ⟨A5, cap5, e5, q1, q2, q3, q4⟩ := own_open own.out
      injection e5 with e51 e52 e53
      subst e51 e53
      -- all later worlds are the first one, grown
      obtain ⟨z0, hz⟩ := more_of_below hB.out
      subst hz
      have q4' := Lib.hid (fun (h : 0 < i) => by
        obtain ⟨g, h1, h2, h3, h4⟩ := q4 h
        exact (⟨g, h1, h2, fun y j u hu => (more_cell (more w z0) y _ h3).trans (h4 j u hu)⟩ : ∃ g, A3 = some ⟨g, 0, none⟩ ∧ w.heap.size ≤ g ∧ ∀ y j u, (rowC cItm O)[j]? = some u → (more (more w z0) y).cell? ⟨g, j, none⟩ = some u))
      have x0' := fun y => (by rw [more_more]; exact x0 _ : (more (more w z0) y).cell? ⟨b1, off + i * 2, none⟩ = some (.int .i64 xn))
      have x1' := fun y => (by rw [more_more]; exact x1 _ : (more (more w z0) y).cell? ⟨b1, off + i * 2 + 1, none⟩ = some (.int .i64 xi))
      have hWs : w.heap.size ≤ (more w z0).heap.size := by rw [more_size]; omega
      generalize more w z0 = W at *
      clear q4 x0 x1 e52
      go_wp2
      go_loopw [5] (fun t5 wr => ∃ (k : Nat) (y : Ext), t5 = .int .i64 k ∧ wr = more W y ∧ k ≤ i ∧ Hid (∀ j (h : j < O.length), k ≤ j → xn < O[j].n)) (fun t _ => (intOf t).toNat)
      case atStart => exact ⟨i, ⟨#[], W.drawn⟩, rfl, (more_self W).symm, Nat.le_refl _, Lib.hid (fun j h h1 => by have := hO.out; omega)⟩
      case round =>
        obtain ⟨k, y, rfl, rfl, hk, hbig⟩ := hrel
        rcases Nat.eq_zero_or_pos k with h0 | h0
        · subst h0
          have hins := hfin 0 (Nat.zero_le _) hbig.out (fun h => absurd h (Nat.lt_irrefl _))
          go_wp2_with fail
          refine wp_region_more2 (by kernel_rfl) (by kernel_rfl) ?_
          repeat (go_big_quiet_step (fail))
          refine wpQuiet_nil ?_
          rintro _ ⟨y2, rfl⟩
          generalize hWW : more W y2 = W2 at *
          have hB2 : Below w.heap.size w W2 := by rw [← hWW]; exact below_more hB.out _ hWs
          have own2 := Lib.hid (show W2.ownsRow w.heap.size 80 2 (.slice A3 i cap3) i (rowC cItm O) from hWW ▸ own_more own.out y2)
          have w0 : W2.cell? ⟨b1, off + i * 2, none⟩ = some (.int .i64 xn) := hWW ▸ x0' y2
          have w1 : W2.cell? ⟨b1, off + i * 2 + 1, none⟩ = some (.int .i64 xi) := hWW ▸ x1' y2
          have hW2 : w.heap.size ≤ W2.heap.size := hB2.size
          replace hB2 := Lib.hid hB2
          clear x0' x1' own hB hWW hfin
          go_wp2_with (at_builtin; refine wpList_append_own_at _ rfl _ _ 74 rfl w.heap.size 80 i0 _ 2 16 Try.underlying74 hi hz0 hz1 hz2 rfl (by decide) _ i (rowC cItm O) rfl (own_below own2.out (by repeat (first | (with_reducible exact Below.refl _ _) | (with_reducible refine Below.drew ?_) | (with_reducible refine Below.alloc ?_ (by simp [more_size]; try omega) _) | (with_reducible refine Below.setCell ?_ (by simp [more_size]; try omega) _) | (with_reducible refine below_more ?_ _ (by simp [more_size]; try omega))))) _ 1 1 (cItm ⟨0, 0⟩) rfl rfl (cells_at _ (cItm ⟨0, 0⟩) _ rfl) (cItm_one ⟨0, 0⟩) (by unfold maxLen; omega) (by omega) (by simp; omega) ?_; intro v3 w3 own3 grow3 _ hat3; obtain ⟨g3, cap4, rfl⟩ := own_some own3 (by omega))
          have e3 : rowC cItm O ++ cItm ⟨0, 0⟩ = rowC cItm (O ++ [⟨0, 0⟩]) := by rw [rowC_append, rowC_single]
          rw [e3] at own3
          have grow3' : W2.grownBy w3 (Value.slice A3 i cap3).ownBlock := grown_after grow3
          have own2ge := own_ge own2.out
          have hB3 := Lib.hid (hB2.out.trans (grown_below grow3' hW2 own2ge))
          have hne1 : ∀ q, (Value.slice A3 i cap3).ownBlock = some q → b1 ≠ q := fun q h => by have := own2ge q h; omega
          have xx0 : w3.cell? ⟨b1, off + i * 2, none⟩ = some (.int .i64 xn) := (World.cell?_of_block (w := W2) (w' := w3) (a := ⟨b1, off + i * 2, none⟩) (grow3'.block b1 (show b1 < W2.heap.size by omega) (fun h => hne1 b1 h.symm rfl))).trans w0
          have xx1 : w3.cell? ⟨b1, off + i * 2 + 1, none⟩ = some (.int .i64 xi) := (World.cell?_of_block (w := W2) (w' := w3) (a := ⟨b1, off + i * 2 + 1, none⟩) (grow3'.block b1 (show b1 < W2.heap.size by omega) (fun h => hne1 b1 h.symm rfl))).trans w1
          obtain ⟨r1, r2, r5, r6, _, _⟩ := own_at own3
          have own3' := Lib.hid (show w3.drew.ownsRow w.heap.size 80 2 (.slice (some ⟨g3, 0, none⟩) (i + 1) cap4) (i + 1) (rowC cItm (O ++ [⟨0, 0⟩])) from own_below own3 (Below.drew (Below.refl _ _)))
          obtain ⟨news, hcl, hcl2, hc1, hfin3⟩ := ins_pack (z := ⟨0, 0⟩) cItm_len (by decide) cItm_one hO.out (0) (by omega) own3'.out
          have hwr : IntKind.i64.wrap 1 = 1 := by decide
          have hle1 : (1 : Int) ≤ (i : Int) + 1 := by omega
          have hle2 : (0 : Int) ≤ (i : Int) + 1 := by omega
          simp only [Nat.zero_mul] at news hfin3
          replace news := Lib.hid news
          replace hcl := Lib.hid hcl
          replace hcl2 := Lib.hid hcl2
          replace hc1 := Lib.hid hc1
          replace hfin3 := Lib.hid hfin3
          clear own3 grow3 hat3 own2 hB2 grow3' e3 w0 w1 hne1 own2ge
          by_cases hcap : cap4 = 0 + 1
          · obtain rfl : cap4 = 1 := hcap
            go_region_law ((refine step_copy_own (by rfl) (.tmp 39) (.tmp 42) 74 74 (by rfl) 80 2 Try.underlying74 hszi (some ⟨g3, 0, none⟩) (some ⟨g3, 0, none⟩) (0) (0) (i + 1) (1) (by kernel_rfl) (by kernel_rfl) w.heap.size 80 (.slice (some ⟨g3, 0, none⟩) (i + 1) 1) (i + 1) _ g3 1 rfl own3'.out ((0 + 1) * 2) (i - (0)) (show _ = min _ _ by omega) _ hcl.out (fun h => absurd h (by omega)) hcl2.out hc1.out ?_; intro w4 own4 grow4; obtain ⟨f1, f2, f3, f4⟩ := hfin3.out ⟨xn, xi⟩ w4 own4 grow4; have f10 := f1 0 (by decide); have f11 := f1 1 (by decide); obtain ⟨u40, f10⟩ := f10; obtain ⟨u41, f11⟩ := f11; rw [Nat.add_zero] at f10))
            replace f4 := grown_drew f4
            have hB5 := Lib.hid (hB3.out.trans (grown_below f4 (by have := hB3.out.size; omega) (fun g h => by injection h with h; omega)))
            have hn5 : Hid ((insAt O (0) ⟨xn, xi⟩).length = i + 1) := Lib.hid (by rw [insAt_length, hO.out])
            have z0 : w4.cell? ⟨b1, off + i * 2, none⟩ = some (.int .i64 xn) := (World.cell?_of_block (w := w3) (w' := w4) (a := ⟨b1, off + i * 2, none⟩) (grow4.block b1 (show b1 < w3.drew.heap.size from by have := hB3.out.size; show b1 < w3.heap.size; omega) (fun h => by injection h with h; omega))).trans xx0
            have z1 : w4.cell? ⟨b1, off + i * 2 + 1, none⟩ = some (.int .i64 xi) := (World.cell?_of_block (w := w3) (w' := w4) (a := ⟨b1, off + i * 2 + 1, none⟩) (grow4.block b1 (show b1 < w3.drew.heap.size from by have := hB3.out.size; show b1 < w3.heap.size; omega) (fun h => by injection h with h; omega))).trans xx1
            have f2a := f2 ((0) * 2)
            have f2b := f2 ((0) * 2 + 1)
            replace f3 := Lib.hid f3
            clear f4 hB3 hfin3 news hcl hcl2 hc1 own3' own4 grow4 f1 f2 xx0 xx1
            go_wp2
            exact ⟨⟨i + 1, _, _, _, by go_num, rfl, by omega, hn5, hins, f3, hB5⟩, by simp [intOf]; omega⟩
          · have hcap2 : (1 : Int) < (cap4 : Int) := by omega
            go_region_law ((refine step_copy_own (by rfl) (.tmp 39) (.tmp 42) 74 74 (by rfl) 80 2 Try.underlying74 hszi (some ⟨g3, 2, none⟩) (some ⟨g3, 0, none⟩) (i) (cap4 - 1) (i + 1) (cap4) (by kernel_rfl) (by kernel_rfl) w.heap.size 80 (.slice (some ⟨g3, 0, none⟩) (i + 1) cap4) (i + 1) _ g3 cap4 rfl own3'.out ((0 + 1) * 2) (i - (0)) (show _ = min _ _ by omega) _ hcl.out (fun h => ⟨rfl, _, rfl, news.out⟩) hcl2.out hc1.out ?_; intro w4 own4 grow4; obtain ⟨f1, f2, f3, f4⟩ := hfin3.out ⟨xn, xi⟩ w4 own4 grow4; have f10 := f1 0 (by decide); have f11 := f1 1 (by decide); obtain ⟨u40, f10⟩ := f10; obtain ⟨u41, f11⟩ := f11; rw [Nat.add_zero] at f10))
            replace f4 := grown_drew f4
            have hB5 := Lib.hid (hB3.out.trans (grown_below f4 (by have := hB3.out.size; omega) (fun g h => by injection h with h; omega)))
            have hn5 : Hid ((insAt O (0) ⟨xn, xi⟩).length = i + 1) := Lib.hid (by rw [insAt_length, hO.out])
            have z0 : w4.cell? ⟨b1, off + i * 2, none⟩ = some (.int .i64 xn) := (World.cell?_of_block (w := w3) (w' := w4) (a := ⟨b1, off + i * 2, none⟩) (grow4.block b1 (show b1 < w3.drew.heap.size from by have := hB3.out.size; show b1 < w3.heap.size; omega) (fun h => by injection h with h; omega))).trans xx0
            have z1 : w4.cell? ⟨b1, off + i * 2 + 1, none⟩ = some (.int .i64 xi) := (World.cell?_of_block (w := w3) (w' := w4) (a := ⟨b1, off + i * 2 + 1, none⟩) (grow4.block b1 (show b1 < w3.drew.heap.size from by have := hB3.out.size; show b1 < w3.heap.size; omega) (fun h => by injection h with h; omega))).trans xx1
            have f2a := f2 ((0) * 2)
            have f2b := f2 ((0) * 2 + 1)
            replace f3 := Lib.hid f3
            clear f4 hB3 hfin3 news hcl hcl2 hc1 own3' own4 grow4 f1 f2 xx0 xx1
            go_wp2
            exact ⟨⟨i + 1, _, _, _, by go_num, rfl, by omega, hn5, hins, f3, hB5⟩, by simp [intOf]; omega⟩
        · obtain ⟨k', rfl⟩ : ∃ k', k = k' + 1 := ⟨k - 1, by omega⟩
          obtain ⟨g, rfl, q5, q7⟩ := q4'.out (by omega)
          have hkO : k' < O.length := by have := hO.out; omega
          have ck := fun y => q7 y (k' * 2) _ (item_n O k' hkO)
          have hk1 : (((k' + 1 : Nat) : Int) - 1) = (k' : Int) := by omega
          have hk2 : (0 : Int) < ((k' + 1 : Nat) : Int) := by omega
          have hk3 : (k' : Int) < (i : Int) := by omega
          have hstop : O[k'].n ≤ xn → Hid (SortedOf (l.take (i + 1)) (insAt O (k' + 1) ⟨xn, xi⟩)) := fun h => hfin (k' + 1) (by omega) hbig.out (fun _ _ => h)
          have hgo : xn < O[k'].n → Hid (∀ j (h : j < O.length), k' ≤ j → xn < O[j].n) := fun h => Lib.hid (fun j hj hj2 => by
            rcases Nat.lt_or_ge k' j with q | q
            · exact hbig.out j hj q
            · have : j = k' := by omega
              subst this; exact h)
          generalize O[k'].n = yn at *
          clear q7
          by_cases hy : xn < yn
          · replace hgo := hgo hy
            clear hstop hfin
            go_wp2_with fail
            refine wp_region_more2 (by kernel_rfl) (by kernel_rfl) ?_
            repeat (go_big_quiet_step (fail))
            refine wpQuiet_nil ?_
            rintro _ ⟨y2, rfl⟩
            go_wp2
            exact ⟨⟨k', _, by go_num, rfl, by omega, hgo⟩, by simp [intOf]⟩
          · have hins := hstop (by omega)
            have hy' : ¬ xn < yn := hy
            clear hgo hstop
            go_wp2_with fail
            refine wp_region_more2 (by kernel_rfl) (by kernel_rfl) ?_
            repeat (go_big_quiet_step (fail))
            refine wpQuiet_nil ?_
            rintro _ ⟨y2, rfl⟩
            generalize hWW : more W y2 = W2 at *
            have hB2 : Below w.heap.size w W2 := by rw [← hWW]; exact below_more hB.out _ hWs
            have own2 := Lib.hid (show W2.ownsRow w.heap.size 80 2 (.slice (some ⟨g, 0, none⟩) i cap3) i (rowC cItm O) from hWW ▸ own_more own.out y2)
            have w0 : W2.cell? ⟨b1, off + i * 2, none⟩ = some (.int .i64 xn) := hWW ▸ x0' y2
            have w1 : W2.cell? ⟨b1, off + i * 2 + 1, none⟩ = some (.int .i64 xi) := hWW ▸ x1' y2
            have hW2 : w.heap.size ≤ W2.heap.size := hB2.size
            replace hB2 := Lib.hid hB2
            clear x0' x1' own hB hWW hfin
            go_wp2_with (at_builtin; refine wpList_append_own_at _ rfl _ _ 74 rfl w.heap.size 80 i0 _ 2 16 Try.underlying74 hi hz0 hz1 hz2 rfl (by decide) _ i (rowC cItm O) rfl (own_below own2.out (by repeat (first | (with_reducible exact Below.refl _ _) | (with_reducible refine Below.drew ?_) | (with_reducible refine Below.alloc ?_ (by simp [more_size]; try omega) _) | (with_reducible refine Below.setCell ?_ (by simp [more_size]; try omega) _) | (with_reducible refine below_more ?_ _ (by simp [more_size]; try omega))))) _ 1 1 (cItm ⟨0, 0⟩) rfl rfl (cells_at _ (cItm ⟨0, 0⟩) _ rfl) (cItm_one ⟨0, 0⟩) (by unfold maxLen; omega) (by omega) (by simp; omega) ?_; intro v3 w3 own3 grow3 _ hat3; obtain ⟨g3, cap4, rfl⟩ := own_some own3 (by omega))
            have e3 : rowC cItm O ++ cItm ⟨0, 0⟩ = rowC cItm (O ++ [⟨0, 0⟩]) := by rw [rowC_append, rowC_single]
            rw [e3] at own3
            have grow3' : W2.grownBy w3 (Value.slice (some ⟨g, 0, none⟩) i cap3).ownBlock := grown_after grow3
            have own2ge := own_ge own2.out
            have hB3 := Lib.hid (hB2.out.trans (grown_below grow3' hW2 own2ge))
            have hne1 : ∀ q, (Value.slice (some ⟨g, 0, none⟩) i cap3).ownBlock = some q → b1 ≠ q := fun q h => by have := own2ge q h; omega
            have xx0 : w3.cell? ⟨b1, off + i * 2, none⟩ = some (.int .i64 xn) := (World.cell?_of_block (w := W2) (w' := w3) (a := ⟨b1, off + i * 2, none⟩) (grow3'.block b1 (show b1 < W2.heap.size by omega) (fun h => hne1 b1 h.symm rfl))).trans w0
            have xx1 : w3.cell? ⟨b1, off + i * 2 + 1, none⟩ = some (.int .i64 xi) := (World.cell?_of_block (w := W2) (w' := w3) (a := ⟨b1, off + i * 2 + 1, none⟩) (grow3'.block b1 (show b1 < W2.heap.size by omega) (fun h => hne1 b1 h.symm rfl))).trans w1
            obtain ⟨r1, r2, r5, r6, _, _⟩ := own_at own3
            have own3' := Lib.hid (show w3.drew.ownsRow w.heap.size 80 2 (.slice (some ⟨g3, 0, none⟩) (i + 1) cap4) (i + 1) (rowC cItm (O ++ [⟨0, 0⟩])) from own_below own3 (Below.drew (Below.refl _ _)))
            obtain ⟨news, hcl, hcl2, hc1, hfin3⟩ := ins_pack (z := ⟨0, 0⟩) cItm_len (by decide) cItm_one hO.out (k' + 1) (by omega) own3'.out
            have hwr : IntKind.i64.wrap ((k' : Int) + 1 + 1) = (k' : Int) + 1 + 1 := IntWalk.i64_in _ (by omega)
            have hle0 : (0 : Int) ≤ (k' : Int) + 1 + 1 := by omega
            have hle1 : (k' : Int) + 1 + 1 ≤ (i : Int) + 1 := by omega
            have hle2 : (0 : Int) ≤ (k' : Int) + 1 := by omega
            have hle3 : k' ≤ i := by omega
            have hK2 : ((k' : Int) + 1 + 1).toNat = k' + 1 + 1 := by omega
            have hK3 : i + 1 - (k' + 1 + 1) = i - (k' + 1) := by omega
            have hK4 : (cap4 = k' + 1) = False := by simp; omega
            replace news := Lib.hid news
            replace hcl := Lib.hid hcl
            replace hcl2 := Lib.hid hcl2
            replace hc1 := Lib.hid hc1
            replace hfin3 := Lib.hid hfin3
            clear own3 grow3 hat3 own2 hB2 grow3' e3 w0 w1 hne1 own2ge
            by_cases hcap : cap4 = k' + 1 + 1
            · subst hcap
              go_region_law ((refine step_copy_own (by rfl) (.tmp 39) (.tmp 42) 74 74 (by rfl) 80 2 Try.underlying74 hszi (some ⟨g3, 0, none⟩) (some ⟨g3, (k' + 1) * 2, none⟩) (i - (k' + 1)) (0) (i - k') (1) (by kernel_rfl) (by kernel_rfl) w.heap.size 80 (.slice (some ⟨g3, 0, none⟩) (i + 1) (k' + 1 + 1)) (i + 1) _ g3 (k' + 1 + 1) rfl own3'.out ((k' + 1 + 1) * 2) (i - (k' + 1)) (show _ = min _ _ by omega) _ hcl.out (fun h => absurd h (by omega)) hcl2.out hc1.out ?_; intro w4 own4 grow4; obtain ⟨f1, f2, f3, f4⟩ := hfin3.out ⟨xn, xi⟩ w4 own4 grow4; have f10 := f1 0 (by decide); have f11 := f1 1 (by decide); obtain ⟨u40, f10⟩ := f10; obtain ⟨u41, f11⟩ := f11; rw [Nat.add_zero] at f10))
              replace f4 := grown_drew f4
              have hB5 := Lib.hid (hB3.out.trans (grown_below f4 (by have := hB3.out.size; omega) (fun g h => by injection h with h; omega)))
              have hn5 : Hid ((insAt O (k' + 1) ⟨xn, xi⟩).length = i + 1) := Lib.hid (by rw [insAt_length, hO.out])
              have z0 : w4.cell? ⟨b1, off + i * 2, none⟩ = some (.int .i64 xn) := (World.cell?_of_block (w := w3) (w' := w4) (a := ⟨b1, off + i * 2, none⟩) (grow4.block b1 (show b1 < w3.drew.heap.size from by have := hB3.out.size; show b1 < w3.heap.size; omega) (fun h => by injection h with h; omega))).trans xx0
              have z1 : w4.cell? ⟨b1, off + i * 2 + 1, none⟩ = some (.int .i64 xi) := (World.cell?_of_block (w := w3) (w' := w4) (a := ⟨b1, off + i * 2 + 1, none⟩) (grow4.block b1 (show b1 < w3.drew.heap.size from by have := hB3.out.size; show b1 < w3.heap.size; omega) (fun h => by injection h with h; omega))).trans xx1
              have f2a := f2 ((k' + 1) * 2)
              have f2b := f2 ((k' + 1) * 2 + 1)
              replace f3 := Lib.hid f3
              clear f4 hB3 hfin3 news hcl hcl2 hc1 own3' own4 grow4 f1 f2 xx0 xx1
              go_wp2
              exact ⟨⟨i + 1, _, _, _, by go_num, rfl, by omega, hn5, hins, f3, hB5⟩, by simp [intOf]; omega⟩
            · have hcap2 : (cap4 = k' + 1 + 1) = False := by simp; omega
              go_region_law ((refine step_copy_own (by rfl) (.tmp 39) (.tmp 42) 74 74 (by rfl) 80 2 Try.underlying74 hszi (some ⟨g3, (k' + 1 + 1) * 2, none⟩) (some ⟨g3, (k' + 1) * 2, none⟩) (i - (k' + 1)) (cap4 - (k' + 1 + 1)) (i - k') (cap4 - (k' + 1)) (by kernel_rfl) (by kernel_rfl) w.heap.size 80 (.slice (some ⟨g3, 0, none⟩) (i + 1) cap4) (i + 1) _ g3 cap4 rfl own3'.out ((k' + 1 + 1) * 2) (i - (k' + 1)) (show _ = min _ _ by omega) _ hcl.out (fun h => ⟨rfl, _, rfl, news.out⟩) hcl2.out hc1.out ?_; intro w4 own4 grow4; obtain ⟨f1, f2, f3, f4⟩ := hfin3.out ⟨xn, xi⟩ w4 own4 grow4; have f10 := f1 0 (by decide); have f11 := f1 1 (by decide); obtain ⟨u40, f10⟩ := f10; obtain ⟨u41, f11⟩ := f11; rw [Nat.add_zero] at f10))
              replace f4 := grown_drew f4
              have hB5 := Lib.hid (hB3.out.trans (grown_below f4 (by have := hB3.out.size; omega) (fun g h => by injection h with h; omega)))
              have hn5 : Hid ((insAt O (k' + 1) ⟨xn, xi⟩).length = i + 1) := Lib.hid (by rw [insAt_length, hO.out])
              have z0 : w4.cell? ⟨b1, off + i * 2, none⟩ = some (.int .i64 xn) := (World.cell?_of_block (w := w3) (w' := w4) (a := ⟨b1, off + i * 2, none⟩) (grow4.block b1 (show b1 < w3.drew.heap.size from by have := hB3.out.size; show b1 < w3.heap.size; omega) (fun h => by injection h with h; omega))).trans xx0
              have z1 : w4.cell? ⟨b1, off + i * 2 + 1, none⟩ = some (.int .i64 xi) := (World.cell?_of_block (w := w3) (w' := w4) (a := ⟨b1, off + i * 2 + 1, none⟩) (grow4.block b1 (show b1 < w3.drew.heap.size from by have := hB3.out.size; show b1 < w3.heap.size; omega) (fun h => by injection h with h; omega))).trans xx1
              have f2a := f2 ((k' + 1) * 2)
              have f2b := f2 ((k' + 1) * 2 + 1)
              replace f3 := Lib.hid f3
              clear f4 hB3 hfin3 news hcl hcl2 hc1 own3' own4 grow4 f1 f2 xx0 xx1
              go_wp2
              exact ⟨⟨i + 1, _, _, _, by go_num, rfl, by omega, hn5, hins, f3, hB5⟩, by simp [intOf]; omega⟩
    · obtain rfl : i = l.length := by omega
      have F := hS.out
      rw [List.take_of_length_le (Nat.le_refl _)] at F
      go_wp2
      go_ret
      exact ⟨_, O, rfl, F, own.out, hB.out⟩
end Go.Proofs.Ytilpgojkbgbinaa
