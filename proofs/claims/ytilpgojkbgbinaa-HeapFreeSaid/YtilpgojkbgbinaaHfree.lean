/- HeapFree: numbers are taken least first, each as often as it was put. -/
import Derived.Test.YtilpgojkbgbinaaKnown8
import Derived.Test.YtilpgojkbgbinaaOpenN
import Derived.RegionTactic
import Derived.BigRegion
import Derived.Deep.RegionLaw
set_option maxRecDepth 100000
set_option linter.unusedVariables false
set_option linter.unusedSimpArgs false
namespace Go.Proofs.Ytilpgojkbgbinaa
open Go.RowKit
attribute [local go_sem] run_frombits run_tobits more_more more_drew more_drewN more_size more_cell more_frozen run_store_float lt_c1 le_c1 lt_s1 le_s1 lt_c2 le_c2 lt_s2 le_s2 lt_c3 le_c3 lt_s3 le_s3 lt_c4 le_c4 lt_s4 le_s4 lt_c5 le_c5 lt_s5 le_s5 lt_c6 le_c6 lt_s6 le_s6 lt_c7 le_c7 lt_s7 le_s7 lt_c8 le_c8 lt_s8 le_s8 lt_c9 le_c9 lt_s9 le_s9 lt_c10 le_c10 lt_s10 le_s10 lt_c11 le_c11 lt_s11 le_s11 lt_c12 le_c12 lt_s12 le_s12 le_c0
theorem FreeAt.perm {w : World} {p : Nat} {a : Option Nat} {m m' : List Int} (h : FreeAt w p a m) (hp : m.Perm m') : FreeAt w p a m' := by
  obtain ⟨l, h1, h2, h3⟩ := h
  exact ⟨l, h1, h2, h3.trans hp⟩
theorem FreeAt.beside {w w' : World} {p : Nat} {a : Option Nat} {m : List Int} (h : FreeAt w p a m) {r : Option Nat} (hg : w.grownBy w' r) (hp : some p ≠ r) (ha : a ≠ none → a ≠ r) : FreeAt w' p a m := by
  obtain ⟨l, h1, h2, h3⟩ := h
  exact ⟨l, h1.beside hg hp ha (fun b o hm => by simp at hm), h2, h3⟩
theorem FreeAt.p_lt {w : World} {p : Nat} {a : Option Nat} {m : List Int} (h : FreeAt w p a m) : p < w.heap.size := by
  obtain ⟨l, h1, h2, h3⟩ := h; exact h1.p_lt
theorem FreeAt.a_lt {w : World} {p : Nat} {a : Option Nat} {m : List Int} (h : FreeAt w p a m) : ∀ g, a = some g → g < w.heap.size := by
  obtain ⟨l, h1, h2, h3⟩ := h; exact h1.a_lt
/-- numbers: the place that a search from the right comes to -/
theorem insAt_le {M : List Int} {n : Int} {k : Nat} (hk : k ≤ M.length) (hs : M.Pairwise (· ≤ ·)) (h1 : ∀ j (h : j < M.length), k ≤ j → n < M[j]) (h2 : ∀ (h : 0 < k), M[k - 1] ≤ n) : (insAt M k n).Pairwise (· ≤ ·) := by
  refine insAt_pairwise hs (fun y hy => ?_) (fun y hy => ?_)
  · obtain ⟨j, hj, rfl⟩ := List.getElem_of_mem hy
    rw [List.length_take] at hj
    rw [List.getElem_take]
    have hp := List.pairwise_iff_getElem.1 hs
    have hl := h2 (by omega)
    rcases Nat.lt_or_ge j (k - 1) with q | q
    · have := hp j (k - 1) (by omega) (by omega) q; omega
    · have : j = k - 1 := by omega
      subst this; exact hl
  · obtain ⟨j, hj, rfl⟩ := List.getElem_of_mem hy
    rw [List.length_drop] at hj
    rw [List.getElem_drop]
    have := h1 (k + j) (by omega) (by omega); omega
set_option maxHeartbeats 1000000 in
theorem walk_HeapFree (A : Option Addr) (ca : Nat) (l : List Int) (hl : ∀ n ∈ l, -32768 ≤ n ∧ n ≤ 32767) (w : World) (la : l.length ≤ 9223372036854775807) (ha : RowIn i16C 1 w A l) :
    Calls Try.prog 7 #[.slice A l.length ca] w fun e w' => e = .returned (.bool true) ∧ ∃ x, w' = more w x := by
  rcases Nat.lt_or_ge 150 l.length with h150 | h150
  · have h1 : (150 : Int) < (l.length : Int) := by omega
    go_enter Try.func7, Try.ntmps7
    go_wp2_with fail
    refine (known8 _).mono' ?_; intro x
    go_wp2
    go_ret
    exact ⟨rfl, (more_of_below (by repeat (first | (with_reducible exact Below.refl _ _) | (with_reducible refine Below.drew ?_) | (with_reducible refine Below.alloc ?_ (by simp [more_size]; try omega) _) | (with_reducible refine Below.setCell ?_ (by simp [more_size]; try omega) _) | (with_reducible refine below_more ?_ _ (by simp [more_size]; try omega)))))⟩
  · have h1 : (l.length : Int) ≤ 150 := by omega
    obtain ⟨i0, hi, hz0, hz1, hz2⟩ := info_parts info_int
    clear la
    go_enter Try.func7, Try.ntmps7
    go_wp2_with fail
    refine (known8 _).mono' ?_; intro x
    go_wp2_with fail
    refine (newfree_any _).mono ?_
    rintro e w1 ⟨rfl, hF, hB⟩
    have hB1 := Lib.hid ((more_below w x).trans (hB.mono (by rw [more_size]; omega)))
    have hA := Lib.hid ha
    have hp1 : w.heap.size ≤ (more w x).heap.size := by rw [more_size]; omega
    generalize (more w x).heap.size = p at *
    have hpl := hF.p_lt
    replace hF := Lib.hid hF
    have own0 := Lib.hid (World.ownsRow_nil w1 (p + 1) 3 1)
    clear hB ha
    go_wp2
    go_loopw [4, 5, 6, 7, 8, 9] (fun t4 t5 _ _ _ _ wr => ∃ (i n4 : Nat) (M : List Int) (A4 : Option Addr) (cap4 : Nat) (a : Option Nat), t5 = .int .i64 i ∧ t4 = .slice A4 n4 cap4 ∧ i ≤ l.length ∧ Hid (M.length = n4) ∧ n4 ≤ i ∧ p < wr.heap.size ∧ Hid (M.Pairwise (· ≤ ·)) ∧ Hid (FreeAt wr p a M) ∧ Hid (wr.ownsRow (p + 1) 3 1 (.slice A4 n4 cap4) n4 (rowC intC M)) ∧ Hid (∀ g, (Value.slice A4 n4 cap4).ownBlock = some g → some g ≠ a) ∧ Hid (∀ g, a = some g → p < g) ∧ Hid (Below w.heap.size w wr)) (fun _ t _ _ _ _ _ => l.length - (intOf t).toNat)
    case atStart =>
      exact ⟨0, 0, [], none, 0, none, rfl, rfl, by omega, Lib.hid rfl, by omega, hpl, Lib.hid (by simp), hF, own0, Lib.hid (fun g e => by simp [Value.ownBlock] at e), Lib.hid (fun g e => by cases e), hB1⟩
    case round =>
      obtain ⟨i, n4, M, A4, cap4, a, rfl, rfl, hi1, hn4, hM, hpl', hS, hF', own, sep, hpa, hB⟩ := hrel
      clear own0 hB1 hF hpl
      rcases Nat.lt_or_ge i l.length with hil | hil
      · have hil' : (i : Int) < (l.length : Int) := by omega
        obtain ⟨b1, off, rfl, hb1, hcells⟩ := hA.out i hil
        have x0 := hcells i hil 0 _ rfl
        have y0 := (hB.out.cell (p := ⟨b1, off + i * 1 + 0, none⟩) hb1).trans x0
        rw [Nat.add_zero, Nat.mul_one] at y0
        have hxr := hl _ (List.getElem_mem hil)
        generalize l[i] = xi at *
        clear hcells x0
        by_cases hput : (-8000 : Int) ≤ xi
        · have P := Lib.hid (free_put wr p a M (xi.tdiv 1000) (by have := hn4.out; omega) hF'.out)
          have hal := hF'.out.a_lt
          have hol := own_lt own.out
          go_wp2_with fail
          refine P.out.mono ?_
          rintro e w2 ⟨rfl, a2, hF2, f2, k2⟩
          generalize xi.tdiv 1000 = n at *
          have own2 := k2.own own.out (fun g' h => ⟨by have := own_ge own.out g' h; omega, sep.out g' h⟩)
          have hB2 := Lib.hid (hB.out.trans (k2.below (B := w.heap.size) (by have := hB.out.size; omega) (by omega) (fun g h => by have := hpa.out g h; omega)))
          have sep2 := Lib.hid (show ∀ g, (Value.slice A4 n4 cap4).ownBlock = some g → some g ≠ a2 from fun g hg e => by
            rcases f2 with h | ⟨q, h, hq⟩
            · exact sep.out g hg (h ▸ e)
            · have := hol g hg; rw [h] at e; injection e with e; omega)
          have hpa2 := Lib.hid (show ∀ g, a2 = some g → p < g from fun g hg => by
            rcases f2 with h | ⟨q, h, hq⟩
            · exact hpa.out g (h ▸ hg)
            · rw [h] at hg; injection hg with hg; omega)
          have hpl2 : p < w2.heap.size := Nat.lt_of_lt_of_le hpl' k2.size
          have hal2 := Lib.hid hF2.a_lt
          replace hF2 := Lib.hid hF2
          obtain ⟨A5, cap5, e5, q1, q2, q3, q4⟩ := own_open own2
          injection e5 with e51 e52 e53
          subst e51 e53
          replace own2 := Lib.hid own2
          replace q4 := Lib.hid q4
          clear own hF' P f2 k2 hB hal hol sep hpa hput y0 hpl' e52
          go_wp2
          go_loop [7] (fun t7 => ∃ k : Nat, t7 = .int .i64 k ∧ k ≤ n4 ∧ Hid (∀ j (h : j < M.length), k ≤ j → n < M[j])) (fun t => (intOf t).toNat)
          case atStart => exact ⟨n4, rfl, Nat.le_refl _, Lib.hid (fun j h h1 => by have := hn4.out; omega)⟩
          case round =>
            obtain ⟨k, rfl, hk, hbig⟩ := hrel
            rcases Nat.eq_zero_or_pos k with h0 | h0
            · subst h0
              have hins : Hid ((insAt M 0 n).Pairwise (· ≤ ·)) := Lib.hid (insAt_le (Nat.zero_le _) hS.out hbig.out (fun h => absurd h (Nat.lt_irrefl _)))
              have hkn : ((0 : Nat) : Int) < (n4 : Int) + 1 := by omega
              go_wp2_with (at_builtin; refine wpList_append_own_at _ rfl _ _ 68 rfl (p + 1) 3 i0 _ 1 8 Try.underlying68 hi hz0 hz1 hz2 rfl (by decide) _ n4 (rowC intC M) rfl (own_below own2.out (by repeat (first | (with_reducible exact Below.refl _ _) | (with_reducible refine Below.drew ?_) | (with_reducible refine Below.alloc ?_ (by simp [more_size]; try omega) _) | (with_reducible refine Below.setCell ?_ (by simp [more_size]; try omega) _) | (with_reducible refine below_more ?_ _ (by simp [more_size]; try omega))))) _ 1 1 (intC 0) rfl rfl (cells_at _ (intC 0) _ rfl) (intC_one 0) (by unfold maxLen; omega) (by omega) (by simp; omega) ?_; intro v3 w3 own3 grow3 _ hat3; obtain ⟨g3, cap3, rfl⟩ := own_some own3 (by omega))
              have e3 : rowC intC M ++ intC 0 = rowC intC (M ++ [0]) := by rw [rowC_append, rowC_single]
              rw [e3] at own3
              have grow3' : w2.grownBy w3 (Value.slice A4 n4 cap4).ownBlock := grown_after grow3
              obtain ⟨r1, r2, r5, r6, _, _⟩ := own_at own3
              have own3' := Lib.hid (show w3.drew.ownsRow (p + 1) 3 1 (.slice (some ⟨g3, 0, none⟩) (n4 + 1) cap3) (n4 + 1) (rowC intC (M ++ [0])) from own_below own3 (Below.drew (Below.refl _ _)))
              obtain ⟨news, hcl, hcl2, hc1, hfin⟩ := ins_pack (z := 0) intC_len (by decide) intC_one hn4.out (0) (by omega) own3'.out
              simp only [Nat.mul_one] at news hcl2 hfin
              have hF3 := Lib.hid (hF2.out.beside grow3' (fun h => by have := own_ge own2.out p h.symm; omega) (fun h h2 => by
                cases ha : a2 with
                | none => exact h ha
                | some q => exact sep2.out q (h2 ▸ ha) ha.symm))
              have hB3 := Lib.hid (hB2.out.trans (grown_below grow3' (by have := hB2.out.size; omega) (fun g h => by have := own_ge own2.out g h; omega)))
              have hpl3 : p < w3.heap.size := Nat.lt_of_lt_of_le hpl2 grow3'.size
              have hg3a := Lib.hid (show some g3 ≠ a2 from fun e => by
                rcases hat3 with h | h
                · exact sep2.out g3 (h ▸ rfl) e
                · have := hal2.out g3 e.symm; simp [Value.ownBlock] at h; omega)
              have hszi : (Try.prog.info? 3).map (·.size) = some 1 := by rw [hi, Option.map_some, hz1]
              have hwr : IntKind.i64.wrap 1 = 1 := by decide
              have hle1 : (1 : Int) ≤ (n4 : Int) + 1 := by omega
              have hle2 : (0 : Int) ≤ (n4 : Int) + 1 := by omega
              replace news := Lib.hid news
              replace hcl := Lib.hid hcl
              replace hcl2 := Lib.hid hcl2
              replace hc1 := Lib.hid hc1
              replace hfin := Lib.hid hfin
              clear own3 grow3 hat3 own2 hF2 hB2 sep2 grow3' e3 hal2
              by_cases hcap : cap3 = 0 + 1
              · obtain rfl : cap3 = 1 := hcap
                go_region_law ((refine step_copy_own (by rfl) (.tmp 57) (.tmp 60) 68 68 (by rfl) 3 1 Try.underlying68 hszi (some ⟨g3, 0, none⟩) (some ⟨g3, 0, none⟩) (0) (0) (n4 + 1) (1) (by kernel_rfl) (by kernel_rfl) (p + 1) 3 (.slice (some ⟨g3, 0, none⟩) (n4 + 1) 1) (n4 + 1) _ g3 1 rfl own3'.out 1 (n4 - (0)) (show _ = min _ _ by omega) _ hcl.out (fun h => absurd h (by omega)) hcl2.out hc1.out ?_; intro w4 own4 grow4; obtain ⟨f1, f2, f3, f4⟩ := hfin.out n w4 own4 grow4; obtain ⟨u4, f1⟩ := f1 0 (by decide); have f2 := f2 (0); rw [Nat.add_zero] at f1))
                replace f4 := grown_drew f4
                have f5 := Lib.hid ((hF3.out.beside f4 (fun h => by injection h with h; omega) (fun h => Ne.symm hg3a.out)).perm (insAt_perm M (0) n).symm)
                have LN := Lib.hid (show Calls Try.prog 43 #[.pointer (some ⟨p, 0, none⟩)] (w4.setCell ⟨g3, 0, none⟩ (.int .i64 n)) (fun e w' => e = .returned (.int .i64 ((n4 + 1 : Nat) : Int)) ∧ w4.setCell ⟨g3, 0, none⟩ (.int .i64 n) = w') from by
                  have h := free_len _ p a2 _ f5.out
                  rw [insAt_length, hn4.out] at h
                  exact h)
                have hB5 := Lib.hid (hB3.out.trans (grown_below f4 (by have := hB3.out.size; omega) (fun g h => by injection h with h; omega)))
                have hpl5 : p < (w4.setCell ⟨g3, 0, none⟩ (.int .i64 n)).heap.size := Nat.lt_of_lt_of_le hpl3 f4.size
                have hn5 : Hid ((insAt M (0) n).length = n4 + 1) := Lib.hid (by rw [insAt_length, hn4.out])
                have hsep5 : Hid (∀ g, (Value.slice (some ⟨g3, 0, none⟩) (n4 + 1) 1).ownBlock = some g → some g ≠ a2) := Lib.hid (fun g h => by
                  have h2 : g3 = g := by injection h
                  subst h2; exact hg3a.out)
                replace f3 := Lib.hid f3
                clear f4 hF3 hB3 hpl3 hfin news hcl hcl2 hc1 own3' own4 grow4
                go_wp2_with fail
                refine LN.out.mono ?_; rintro e w' ⟨rfl, rfl⟩
                go_wp2
                exact ⟨⟨i + 1, n4 + 1, _, _, 1, a2, by go_num, rfl, by omega, hn5, by omega, hpl5, hins, f5, f3, hsep5, hpa2, hB5⟩, by simp [intOf]; omega⟩
              · have hcap2 : 1 < (cap3 : Int) := by omega
                go_region_law ((refine step_copy_own (by rfl) (.tmp 57) (.tmp 60) 68 68 (by rfl) 3 1 Try.underlying68 hszi (some ⟨g3, 1, none⟩) (some ⟨g3, 0, none⟩) (n4) (cap3 - 1) (n4 + 1) (cap3) (by kernel_rfl) (by kernel_rfl) (p + 1) 3 (.slice (some ⟨g3, 0, none⟩) (n4 + 1) cap3) (n4 + 1) _ g3 cap3 rfl own3'.out (0 + 1) (n4 - (0)) (show _ = min _ _ by omega) _ hcl.out (fun h => ⟨rfl, _, rfl, news.out⟩) hcl2.out hc1.out ?_; intro w4 own4 grow4; obtain ⟨f1, f2, f3, f4⟩ := hfin.out n w4 own4 grow4; obtain ⟨u4, f1⟩ := f1 0 (by decide); have f2 := f2 (0); rw [Nat.add_zero] at f1))
                replace f4 := grown_drew f4
                have f5 := Lib.hid ((hF3.out.beside f4 (fun h => by injection h with h; omega) (fun h => Ne.symm hg3a.out)).perm (insAt_perm M (0) n).symm)
                have LN := Lib.hid (show Calls Try.prog 43 #[.pointer (some ⟨p, 0, none⟩)] (w4.setCell ⟨g3, 0, none⟩ (.int .i64 n)) (fun e w' => e = .returned (.int .i64 ((n4 + 1 : Nat) : Int)) ∧ w4.setCell ⟨g3, 0, none⟩ (.int .i64 n) = w') from by
                  have h := free_len _ p a2 _ f5.out
                  rw [insAt_length, hn4.out] at h
                  exact h)
                have hB5 := Lib.hid (hB3.out.trans (grown_below f4 (by have := hB3.out.size; omega) (fun g h => by injection h with h; omega)))
                have hpl5 : p < (w4.setCell ⟨g3, 0, none⟩ (.int .i64 n)).heap.size := Nat.lt_of_lt_of_le hpl3 f4.size
                have hn5 : Hid ((insAt M (0) n).length = n4 + 1) := Lib.hid (by rw [insAt_length, hn4.out])
                have hsep5 : Hid (∀ g, (Value.slice (some ⟨g3, 0, none⟩) (n4 + 1) cap3).ownBlock = some g → some g ≠ a2) := Lib.hid (fun g h => by
                  have h2 : g3 = g := by injection h
                  subst h2; exact hg3a.out)
                replace f3 := Lib.hid f3
                clear f4 hF3 hB3 hpl3 hfin news hcl hcl2 hc1 own3' own4 grow4
                go_wp2_with fail
                refine LN.out.mono ?_; rintro e w' ⟨rfl, rfl⟩
                go_wp2
                exact ⟨⟨i + 1, n4 + 1, _, _, cap3, a2, by go_num, rfl, by omega, hn5, by omega, hpl5, hins, f5, f3, hsep5, hpa2, hB5⟩, by simp [intOf]; omega⟩
            · obtain ⟨k', rfl⟩ : ∃ k', k = k' + 1 := ⟨k - 1, by omega⟩
              obtain ⟨g, rfl, q5, q6, q7⟩ := q4.out (by omega)
              have hkM : k' < M.length := by have := hn4.out; omega
              have ck : w2.cell? ⟨g, k', none⟩ = some (.int .i64 M[k']) := q7 k' _ (int_cell M k' hkM)
              have hk1 : (((k' + 1 : Nat) : Int) - 1) = (k' : Int) := by omega
              have hk2 : (0 : Int) < ((k' + 1 : Nat) : Int) := by omega
              have hk3 : (k' : Int) < (n4 : Int) := by omega
              have hstop : M[k'] ≤ n → Hid ((insAt M (k' + 1) n).Pairwise (· ≤ ·)) := fun h => Lib.hid (insAt_le (by omega) hS.out hbig.out (fun _ => h))
              have hgo : n < M[k'] → Hid (∀ j (h : j < M.length), k' ≤ j → n < M[j]) := fun h => Lib.hid (fun j hj hj2 => by
                rcases Nat.lt_or_ge k' j with q | q
                · exact hbig.out j hj q
                · have : j = k' := by omega
                  subst this; exact h)
              generalize M[k'] = y at *
              clear q7
              by_cases hy : n < y
              · replace hgo := hgo hy
                clear hstop
                go_wp2
                exact ⟨⟨k', by go_num, by omega, hgo⟩, by simp [intOf]⟩
              · have hins := hstop (by omega)
                have hy' : ¬ n < y := hy
                clear hgo hstop
                have hkn : ((k' + 1 : Nat) : Int) < (n4 : Int) + 1 := by omega
                go_wp2_with (at_builtin; refine wpList_append_own_at _ rfl _ _ 68 rfl (p + 1) 3 i0 _ 1 8 Try.underlying68 hi hz0 hz1 hz2 rfl (by decide) _ n4 (rowC intC M) rfl (own_below own2.out (by repeat (first | (with_reducible exact Below.refl _ _) | (with_reducible refine Below.drew ?_) | (with_reducible refine Below.alloc ?_ (by simp [more_size]; try omega) _) | (with_reducible refine Below.setCell ?_ (by simp [more_size]; try omega) _) | (with_reducible refine below_more ?_ _ (by simp [more_size]; try omega))))) _ 1 1 (intC 0) rfl rfl (cells_at _ (intC 0) _ rfl) (intC_one 0) (by unfold maxLen; omega) (by omega) (by simp; omega) ?_; intro v3 w3 own3 grow3 _ hat3; obtain ⟨g3, cap3, rfl⟩ := own_some own3 (by omega))
                have e3 : rowC intC M ++ intC 0 = rowC intC (M ++ [0]) := by rw [rowC_append, rowC_single]
                rw [e3] at own3
                have grow3' : w2.grownBy w3 (Value.slice (some ⟨g, 0, none⟩) n4 cap4).ownBlock := grown_after grow3
                obtain ⟨r1, r2, r5, r6, _, _⟩ := own_at own3
                have own3' := Lib.hid (show w3.drew.ownsRow (p + 1) 3 1 (.slice (some ⟨g3, 0, none⟩) (n4 + 1) cap3) (n4 + 1) (rowC intC (M ++ [0])) from own_below own3 (Below.drew (Below.refl _ _)))
                obtain ⟨news, hcl, hcl2, hc1, hfin⟩ := ins_pack (z := 0) intC_len (by decide) intC_one hn4.out (k' + 1) (by omega) own3'.out
                simp only [Nat.mul_one] at news hcl2 hfin
                have hF3 := Lib.hid (hF2.out.beside grow3' (fun h => by have := own_ge own2.out p h.symm; omega) (fun h h2 => by
                  cases ha : a2 with
                  | none => exact h ha
                  | some q => exact sep2.out q (h2 ▸ ha) ha.symm))
                have hB3 := Lib.hid (hB2.out.trans (grown_below grow3' (by have := hB2.out.size; omega) (fun g h => by have := own_ge own2.out g h; omega)))
                have hpl3 : p < w3.heap.size := Nat.lt_of_lt_of_le hpl2 grow3'.size
                have hg3a := Lib.hid (show some g3 ≠ a2 from fun e => by
                  rcases hat3 with h | h
                  · exact sep2.out g3 (h ▸ rfl) e
                  · have := hal2.out g3 e.symm; simp [Value.ownBlock] at h; omega)
                have hszi : (Try.prog.info? 3).map (·.size) = some 1 := by rw [hi, Option.map_some, hz1]
                have hwr : IntKind.i64.wrap ((k' : Int) + 1 + 1) = (k' : Int) + 1 + 1 := IntWalk.i64_in _ (by omega)
                have hle0 : (0 : Int) ≤ (k' : Int) + 1 + 1 := by omega
                have hle1 : (k' : Int) + 1 + 1 ≤ (n4 : Int) + 1 := by omega
                have hle2 : (0 : Int) ≤ (k' : Int) + 1 := by omega
                have hle3 : k' ≤ n4 := by omega
                have hK2 : ((k' : Int) + 1 + 1).toNat = k' + 1 + 1 := by omega
                have hK3 : n4 + 1 - (k' + 1 + 1) = n4 - (k' + 1) := by omega
                have hK4 : (cap3 = k' + 1) = False := by simp; omega
                replace news := Lib.hid news
                replace hcl := Lib.hid hcl
                replace hcl2 := Lib.hid hcl2
                replace hc1 := Lib.hid hc1
                replace hfin := Lib.hid hfin
                clear own3 grow3 hat3 own2 hF2 hB2 sep2 grow3' e3 hal2
                by_cases hcap : cap3 = k' + 1 + 1
                · subst hcap
                  go_region_law ((refine step_copy_own (by rfl) (.tmp 57) (.tmp 60) 68 68 (by rfl) 3 1 Try.underlying68 hszi (some ⟨g3, 0, none⟩) (some ⟨g3, k' + 1, none⟩) (n4 - (k' + 1)) (0) (n4 - k') (1) (by kernel_rfl) (by kernel_rfl) (p + 1) 3 (.slice (some ⟨g3, 0, none⟩) (n4 + 1) (k' + 1 + 1)) (n4 + 1) _ g3 (k' + 1 + 1) rfl own3'.out (k' + 1 + 1) (n4 - (k' + 1)) (show _ = min _ _ by omega) _ hcl.out (fun h => absurd h (by omega)) hcl2.out hc1.out ?_; intro w4 own4 grow4; obtain ⟨f1, f2, f3, f4⟩ := hfin.out n w4 own4 grow4; obtain ⟨u4, f1⟩ := f1 0 (by decide); have f2 := f2 (k' + 1); rw [Nat.add_zero] at f1))
                  replace f4 := grown_drew f4
                  have f5 := Lib.hid ((hF3.out.beside f4 (fun h => by injection h with h; omega) (fun h => Ne.symm hg3a.out)).perm (insAt_perm M (k' + 1) n).symm)
                  have LN := Lib.hid (show Calls Try.prog 43 #[.pointer (some ⟨p, 0, none⟩)] (w4.setCell ⟨g3, k' + 1, none⟩ (.int .i64 n)) (fun e w' => e = .returned (.int .i64 ((n4 + 1 : Nat) : Int)) ∧ w4.setCell ⟨g3, k' + 1, none⟩ (.int .i64 n) = w') from by
                    have h := free_len _ p a2 _ f5.out
                    rw [insAt_length, hn4.out] at h
                    exact h)
                  have hB5 := Lib.hid (hB3.out.trans (grown_below f4 (by have := hB3.out.size; omega) (fun g h => by injection h with h; omega)))
                  have hpl5 : p < (w4.setCell ⟨g3, k' + 1, none⟩ (.int .i64 n)).heap.size := Nat.lt_of_lt_of_le hpl3 f4.size
                  have hn5 : Hid ((insAt M (k' + 1) n).length = n4 + 1) := Lib.hid (by rw [insAt_length, hn4.out])
                  have hsep5 : Hid (∀ g, (Value.slice (some ⟨g3, 0, none⟩) (n4 + 1) (k' + 1 + 1)).ownBlock = some g → some g ≠ a2) := Lib.hid (fun g h => by
                    have h2 : g3 = g := by injection h
                    subst h2; exact hg3a.out)
                  replace f3 := Lib.hid f3
                  clear f4 hF3 hB3 hpl3 hfin news hcl hcl2 hc1 own3' own4 grow4
                  go_wp2_with fail
                  refine LN.out.mono ?_; rintro e w' ⟨rfl, rfl⟩
                  go_wp2
                  exact ⟨⟨i + 1, n4 + 1, _, _, (k' + 1 + 1), a2, by go_num, rfl, by omega, hn5, by omega, hpl5, hins, f5, f3, hsep5, hpa2, hB5⟩, by simp [intOf]; omega⟩
                · have hcap2 : (cap3 = k' + 1 + 1) = False := by simp; omega
                  go_region_law ((refine step_copy_own (by rfl) (.tmp 57) (.tmp 60) 68 68 (by rfl) 3 1 Try.underlying68 hszi (some ⟨g3, k' + 1 + 1, none⟩) (some ⟨g3, k' + 1, none⟩) (n4 - (k' + 1)) (cap3 - (k' + 1 + 1)) (n4 - k') (cap3 - (k' + 1)) (by kernel_rfl) (by kernel_rfl) (p + 1) 3 (.slice (some ⟨g3, 0, none⟩) (n4 + 1) cap3) (n4 + 1) _ g3 cap3 rfl own3'.out (k' + 1 + 1) (n4 - (k' + 1)) (show _ = min _ _ by omega) _ hcl.out (fun h => ⟨rfl, _, rfl, news.out⟩) hcl2.out hc1.out ?_; intro w4 own4 grow4; obtain ⟨f1, f2, f3, f4⟩ := hfin.out n w4 own4 grow4; obtain ⟨u4, f1⟩ := f1 0 (by decide); have f2 := f2 (k' + 1); rw [Nat.add_zero] at f1))
                  replace f4 := grown_drew f4
                  have f5 := Lib.hid ((hF3.out.beside f4 (fun h => by injection h with h; omega) (fun h => Ne.symm hg3a.out)).perm (insAt_perm M (k' + 1) n).symm)
                  have LN := Lib.hid (show Calls Try.prog 43 #[.pointer (some ⟨p, 0, none⟩)] (w4.setCell ⟨g3, k' + 1, none⟩ (.int .i64 n)) (fun e w' => e = .returned (.int .i64 ((n4 + 1 : Nat) : Int)) ∧ w4.setCell ⟨g3, k' + 1, none⟩ (.int .i64 n) = w') from by
                    have h := free_len _ p a2 _ f5.out
                    rw [insAt_length, hn4.out] at h
                    exact h)
                  have hB5 := Lib.hid (hB3.out.trans (grown_below f4 (by have := hB3.out.size; omega) (fun g h => by injection h with h; omega)))
                  have hpl5 : p < (w4.setCell ⟨g3, k' + 1, none⟩ (.int .i64 n)).heap.size := Nat.lt_of_lt_of_le hpl3 f4.size
                  have hn5 : Hid ((insAt M (k' + 1) n).length = n4 + 1) := Lib.hid (by rw [insAt_length, hn4.out])
                  have hsep5 : Hid (∀ g, (Value.slice (some ⟨g3, 0, none⟩) (n4 + 1) cap3).ownBlock = some g → some g ≠ a2) := Lib.hid (fun g h => by
                    have h2 : g3 = g := by injection h
                    subst h2; exact hg3a.out)
                  replace f3 := Lib.hid f3
                  clear f4 hF3 hB3 hpl3 hfin news hcl hcl2 hc1 own3' own4 grow4
                  go_wp2_with fail
                  refine LN.out.mono ?_; rintro e w' ⟨rfl, rfl⟩
                  go_wp2
                  exact ⟨⟨i + 1, n4 + 1, _, _, cap3, a2, by go_num, rfl, by omega, hn5, by omega, hpl5, hins, f5, f3, hsep5, hpa2, hB5⟩, by simp [intOf]; omega⟩
        · rcases M with _ | ⟨m0, M⟩
          · have T := Lib.hid (free_take_none wr p a hF'.out)
            have LN := Lib.hid (free_len wr p a [] hF'.out)
            obtain rfl : 0 = n4 := hn4.out
            go_wp2_with fail
            refine T.out.mono ?_; rintro e w' ⟨rfl, rfl⟩
            go_wp2_with fail
            refine LN.out.mono ?_; rintro e w' ⟨rfl, rfl⟩
            go_wp2
            exact ⟨⟨i + 1, 0, [], A4, cap4, a, by go_num, rfl, by omega, hn4, by omega, hpl', hS, hF', own, sep, hpa, hB⟩, by simp [intOf]; omega⟩
          · have T := Lib.hid (free_take wr p a (m0 :: M) (by simp) hF'.out)
            have hS' := List.pairwise_cons.1 hS.out
            have hal := hF'.out.a_lt
            obtain ⟨N, rfl⟩ : ∃ N, n4 = N + 1 := ⟨M.length, hn4.out.symm⟩
            have hN : Hid (M.length = N) := Lib.hid (by have := hn4.out; simp at this; exact this)
            obtain ⟨A5, cap5, e5, q1, q2, q3, q4⟩ := own_open own.out
            injection e5 with e51 e52 e53
            subst e51 e53
            obtain ⟨g, rfl, q5, q6, q7⟩ := q4 (by omega)
            have hgp : g ≠ p := by omega
            have hga : some g ≠ a := sep.out g rfl
            have hn0 : (0 : Int) < (N : Int) + 1 := by omega
            go_wp2_with fail
            refine T.out.mono ?_
            rintro e w2 ⟨k, rfl, hk, hle, hF2, k2⟩
            have hk0 : k = m0 := by
              have h1 := hle m0 (List.mem_cons_self ..)
              rcases List.mem_cons.1 hk with h2 | h2
              · exact h2
              · have := hS'.1 k h2; omega
            subst hk0
            rw [List.erase_cons_head] at hF2
            have own2 := Lib.hid (k2.own own.out (fun g' h => by simp [Value.ownBlock] at h; subst h; exact ⟨hgp, hga⟩))
            have hB2 := Lib.hid (hB.out.trans (k2.below (B := w.heap.size) (by have := hB.out.size; omega) (by omega) (fun g h => by have := hpa.out g h; omega)))
            have c0 : w2.cell? ⟨g, 0, none⟩ = some (.int .i64 k) := (World.cell?_of_block (w := wr) (w' := w2) (a := ⟨g, 0, none⟩) (k2.block g q6 hgp hga)).trans (q7 0 _ rfl)
            have news : ∀ j u, (rowC intC M)[j]? = some u → w2.cell? ((⟨g, 1, none⟩ : Addr).add j) = some u := fun j u hu => by
              rw [Go.WideShapes.add_plain]
              refine (World.cell?_of_block (w := wr) (w' := w2) (a := ⟨g, 1 + j, none⟩) (k2.block g q6 hgp hga)).trans (q7 (1 + j) u ?_)
              have e : rowC intC (k :: M) = .int .i64 k :: rowC intC M := rfl
              rw [e, Nat.add_comm, List.getElem?_cons_succ, hu]
            have news' : N = 0 → ∀ ad : Addr, ∀ j u, (rowC intC M)[j]? = some u → w2.cell? (ad.add j) = some u := fun h0 ad j u hu => by
              have : M = [] := List.eq_nil_of_length_eq_zero (by rw [hN.out, h0])
              rw [this] at hu; simp [rowC] at hu
            have hpl2 : p < w2.heap.size := Nat.lt_of_lt_of_le hpl' k2.size
            have hrl : (rowC intC M).length = N * 1 := by rw [rowC_length intC_len, hN.out]
            have hro := rowC_one intC_one M
            have LNs := Lib.hid (fun w3 (h : FreeAt w3 p a M) => (hN.out ▸ free_len w3 p a M h : Calls Try.prog 43 #[.pointer (some ⟨p, 0, none⟩)] w3 fun e w' => e = .returned (.int .i64 N) ∧ w3 = w'))
            have hal2 := Lib.hid hF2.a_lt
            replace hF2 := Lib.hid hF2
            replace news := Lib.hid news
            replace news' := Lib.hid news'
            replace hro := Lib.hid hro
            replace hrl := Lib.hid hrl
            clear own hF' T q4 q7 k2 hB q3 hal hk hle e52
            have hfin : ∀ v3 w3, w3.ownsRow (p + 1) 3 1 v3 (0 + N) ([] ++ rowC intC M) → w2.grownBy w3 (Value.slice none 0 0).ownBlock → (v3.ownBlock = (Value.slice none 0 0).ownBlock ∨ v3.ownBlock = some w2.heap.size) →
                FreeAt w3 p a M ∧ p < w3.heap.size ∧ Below w.heap.size w w3 ∧ ∃ A5 cap5, v3 = .slice A5 N cap5 ∧ w3.ownsRow (p + 1) 3 1 (.slice A5 N cap5) N (rowC intC M) ∧ (∀ g, (Value.slice A5 N cap5).ownBlock = some g → some g ≠ a) := fun v3 w3 own3 grow3 hat3 => by
              rw [Nat.zero_add, List.nil_append] at own3
              obtain ⟨A5, cap5, rfl, _⟩ := own_open own3
              refine ⟨hF2.out.beside grow3 (by simp [Value.ownBlock]) (fun h e => h (by rw [e]; rfl)), Nat.lt_of_lt_of_le hpl2 grow3.size, hB2.out.trans ((Below.refl _ w2).grown grow3 (by have := hB2.out.size; omega) (fun g h => by simp [Value.ownBlock] at h)), A5, cap5, rfl, own3, fun g hg e => ?_⟩
              rcases hat3 with h | h
              · rw [hg] at h; simp [Value.ownBlock] at h
              · rw [hg] at h; injection h with h; have := hal2.out g e.symm; omega
            replace hfin := Lib.hid hfin
            by_cases hc : cap4 = 1
            · subst hc
              obtain rfl : N = 0 := by omega
              have news0 := Lib.hid (news'.out rfl)
              clear news'
              go_wp2_with (at_builtin; refine wpList_append_own_at _ rfl _ _ 68 rfl (p + 1) 3 i0 _ 1 8 Try.underlying68 hi hz0 hz1 hz2 rfl (by decide) (.slice none 0 0) 0 [] rfl (World.ownsRow_nil _ _ _ _) _ 0 _ (rowC intC M) rfl hrl.out (news0.out _) hro.out (by unfold maxLen; omega) (by omega) (by omega) ?_; intro v3 w3 own3 grow3 _ hat3)
              obtain ⟨f1, f2, f3, A5, cap5, rfl, f4, f5⟩ := hfin.out v3 w3 own3 grow3 hat3
              have LN := Lib.hid (LNs.out w3 f1)
              replace f1 := Lib.hid f1
              replace f3 := Lib.hid f3
              replace f4 := Lib.hid f4
              replace f5 := Lib.hid f5
              go_wp2_with fail
              refine LN.out.mono ?_; rintro e w' ⟨rfl, rfl⟩
              go_wp2
              exact ⟨⟨i + 1, 0, M, A5, cap5, a, by go_num, rfl, by omega, hN, by omega, f2, Lib.hid hS'.2, f1, f4, f5, hpa, f3⟩, by simp [intOf]; omega⟩
            · have hc1 : (1 : Int) < (cap4 : Int) := by omega
              go_wp2_with (at_builtin; refine wpList_append_own_at _ rfl _ _ 68 rfl (p + 1) 3 i0 _ 1 8 Try.underlying68 hi hz0 hz1 hz2 rfl (by decide) (.slice none 0 0) 0 [] rfl (World.ownsRow_nil _ _ _ _) ⟨g, 1, none⟩ N _ (rowC intC M) rfl hrl.out news.out hro.out (by unfold maxLen; omega) (by omega) (by omega) ?_; intro v3 w3 own3 grow3 _ hat3)
              obtain ⟨f1, f2, f3, A5, cap5, rfl, f4, f5⟩ := hfin.out v3 w3 own3 grow3 hat3
              have LN := Lib.hid (LNs.out w3 f1)
              replace f1 := Lib.hid f1
              replace f3 := Lib.hid f3
              replace f4 := Lib.hid f4
              replace f5 := Lib.hid f5
              go_wp2_with fail
              refine LN.out.mono ?_; rintro e w' ⟨rfl, rfl⟩
              go_wp2
              exact ⟨⟨i + 1, N, M, A5, cap5, a, by go_num, rfl, by omega, hN, by omega, f2, Lib.hid hS'.2, f1, f4, f5, hpa, f3⟩, by simp [intOf]; omega⟩
      · go_wp2
        go_ret
        exact ⟨rfl, more_of_below hB.out⟩
theorem law_HeapFree (v0 : Value) (w : World) (h0 : IsRow i16C 1 (fun n => -32768 ≤ n ∧ n ≤ 32767) w v0) :
    Calls Try.prog 7 #[v0] w fun e w' => e = .returned (.bool true) ∧ Below w.heap.size w w' := by
  obtain ⟨A, ca, l, rfl, q1, q2, q3, ql, qa⟩ := h0
  exact law_of (walk_HeapFree A ca l ql w (by omega) qa)
end Go.Proofs.Ytilpgojkbgbinaa
