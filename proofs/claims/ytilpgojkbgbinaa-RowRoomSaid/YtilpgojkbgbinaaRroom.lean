/- RowRoom: so many rows there is room for, two hundred at most; one that goes makes room. -/
import Derived.Test.YtilpgojkbgbinaaStoI
import Derived.Test.YtilpgojkbgbinaaOpen
set_option maxRecDepth 100000
set_option linter.unusedVariables false
set_option linter.unusedSimpArgs false
namespace Go.Proofs.Ytilpgojkbgbinaa
open Go.RowKit
open Go.Maps (has size Keyed int_keyed keyOf_int_mk)
attribute [local go_sem] run_frombits run_tobits more_more more_drew more_drewN more_size more_cell more_frozen run_store_float lt_c1 le_c1 lt_s1 le_s1 lt_c2 le_c2 lt_s2 le_s2 lt_c3 le_c3 lt_s3 le_s3 lt_c4 le_c4 lt_s4 le_s4 lt_c5 le_c5 lt_s5 le_s5 lt_c6 le_c6 lt_s6 le_s6 lt_c7 le_c7 lt_s7 le_s7 lt_c8 le_c8 lt_s8 le_s8 lt_c9 le_c9 lt_s9 le_s9 lt_c10 le_c10 lt_s10 le_s10 lt_c11 le_c11 lt_s11 le_s11 lt_c12 le_c12 lt_s12 le_s12 le_c0
theorem putI_full {X : Nat → Prop} {w0 w : World} {p : Nat} {g : Int → Option Row9} {n : Nat} {mx nx wr : Int} (h : StI X w0 w p g n mx nx wr) {id : Int} (hid : (Lit.int .i64 id).wf = true) (hg : g id = none) (hlow : 1 ≤ id) (hhigh : id < nx) (hn : mx ≤ (n : Int)) :
    Calls Try.prog 38 #[.pointer (some ⟨p, 0, none⟩), .agg #[.int .i64 id, .int .i64 0, .slice none 0 0]] w fun e w' => e = .returned (.int .i64 70) ∧ StI X w0 w' p g n mx nx wr := by
  have h0 := h
  obtain ⟨F, h1, h2, h3, h4⟩ := h
  refine (put_full h1 (ver := 0) hid none 0 [] (by simp) (fun _ => ⟨rfl, rfl⟩) (fun j hj => by simp at hj) (fun x e => by cases e) hg hlow hhigh hn).mono ?_
  rintro e w' ⟨rfl, hB⟩
  exact ⟨rfl, h0.below hB⟩
theorem upd_ne {α : Type} {g : Int → Option α} {id : Int} {v : Option α} (x : Int) : upd g id v x ≠ none ↔ (x = id ∧ v ≠ none) ∨ (x ≠ id ∧ g x ≠ none) := by
  unfold upd
  by_cases h : x = id
  · simp [h]
  · simp [h]
set_option maxHeartbeats 8000000 in
theorem walk_RowRoom (most : Int) (m : Nat) (hm : m < 256) (h1 : -9223372036854775808 ≤ most) (h2 : most < 9223372036854775808) (w : World) :
    Gives Try.prog 6 #[.int .i64 most, .int .u8 m] w (.bool true) := by
  clear h1 h2
  by_cases hb : 1000 < most
  · go_enter Try.func6, Try.ntmps6
    go_wp2_with fail
    refine (known9 _).mono' ?_; intro x
    go_wp2
    go_ret
    exact ⟨rfl, (more_of_below (by repeat (first | (with_reducible exact Below.refl _ _) | (with_reducible refine Below.drew ?_) | (with_reducible refine Below.alloc ?_ (by simp [more_size]; try omega) _) | (with_reducible refine Below.setCell ?_ (by simp [more_size]; try omega) _) | (with_reducible refine below_more ?_ _ (by simp [more_size]; try omega)))))⟩
  by_cases hc : most < -1000
  · have hb' : (1000 < most) = False := eq_false hb
    go_enter Try.func6, Try.ntmps6
    go_wp2_with fail
    refine (known9 _).mono' ?_; intro x
    go_wp2
    go_ret
    exact ⟨rfl, (more_of_below (by repeat (first | (with_reducible exact Below.refl _ _) | (with_reducible refine Below.drew ?_) | (with_reducible refine Below.alloc ?_ (by simp [more_size]; try omega) _) | (with_reducible refine Below.setCell ?_ (by simp [more_size]; try omega) _) | (with_reducible refine below_more ?_ _ (by simp [more_size]; try omega)))))⟩
  have hb' : (1000 < most) = False := eq_false hb
  have hc' : (most < -1000) = False := eq_false hc
  clear hb hc
  rcases (show most ≤ 0 ∨ 200 < most ∨ (0 < most ∧ most ≤ 200) by omega) with h0 | h0 | ⟨h0, h200⟩
  · go_enter Try.func6, Try.ntmps6
    go_wp2_with fail
    refine (known9 _).mono' ?_; intro x
    go_wp2_with fail
    refine (newI (X := fun _ => False) (w0 := w) most _ (by repeat (first | (with_reducible exact Below.refl _ _) | (with_reducible refine Below.drew ?_) | (with_reducible refine Below.alloc ?_ (by simp [more_size]; try omega) _) | (with_reducible refine Below.setCell ?_ (by simp [more_size]; try omega) _) | (with_reducible refine below_more ?_ _ (by simp [more_size]; try omega)))) (fun k h => h.elim)).mono ?_
    rintro e w1 ⟨p, rfl, hS, _⟩
    rw [show min (max most 0) 200 = (0 : Int) by omega] at hS
    replace hS := Lib.hid hS
    go_wp2_with fail
    go_loopw [7] (fun t7 wr => ∃ (i : Nat) (g : Int → Option Row9), t7 = .int .i64 i ∧ (i : Int) ≤ (0 : Int) ∧ Hid (StI (fun _ => False) w wr p g i (0 : Int) (i + 1) i) ∧ Hid (∀ id, g id ≠ none ↔ 1 ≤ id ∧ id ≤ (i : Int))) (fun t7 _ => ((0 : Int) - (intOf t7)).toNat)
    case atStart => exact ⟨0, _, rfl, by omega, hS, Lib.hid (fun id => by simp; omega)⟩
    case round =>
      obtain ⟨i, g, rfl, hi, hS1, hg⟩ := hrel
      clear hS
      by_cases hlt : (i : Int) < (0 : Int)
      · have hi2 : (i : Int) < 200 := by omega
        go_wp2_with fail
        refine (num9_any _ _).mono ?_; rintro e w' ⟨rfl, rfl⟩
        go_wp2_with fail
        refine (insertI hS1.out i (by omega) (by omega) hlt).mono ?_
        rintro e w2 ⟨rfl, hS2, _⟩
        have hg2 := Lib.hid (show ∀ id, upd g ((i : Int) + 1) (some (1, numL i)) id ≠ none ↔ 1 ≤ id ∧ id ≤ ((i + 1 : Nat) : Int) from fun id => by
          have := hg.out id
          rw [upd_ne]
          constructor
          · rintro (⟨h, _⟩ | ⟨h1, h2⟩)
            · omega
            · have := this.1 h2; omega
          · intro h
            by_cases e : id = (i : Int) + 1
            · exact .inl ⟨e, by simp⟩
            · exact .inr ⟨e, this.2 (by omega)⟩)
        have hS2' : Hid (StI (fun _ => False) w w2 p (upd g ((i : Int) + 1) (some (1, numL i))) (i + 1) (0 : Int) (((i + 1 : Nat) : Int) + 1) ((i + 1 : Nat) : Int)) := Lib.hid hS2
        clear hS1 hS2 hg
        go_wp2
        exact ⟨⟨i + 1, _, by go_num, by omega, hS2', hg2⟩, by simp [intOf]; omega⟩
      · have hlt' : ((i : Int) < (0 : Int)) = False := eq_false hlt
        have hKi : Hid ((i : Int) = (0 : Int)) := Lib.hid (by omega)
        clear hi hlt
        go_wp2_with fail
        refine (num9_any _ _).mono ?_; rintro e w' ⟨rfl, rfl⟩
        go_wp2_with fail
        refine (insertI_no hS1.out 7 (by have := hKi.out; omega) (by have := hKi.out; omega)).mono ?_
        rintro e w2 ⟨rfl, hS2, _⟩
        have LN := Lib.hid (lenI hS2)
        rw [hKi.out] at LN
        have hS2' : Hid (StI (fun _ => False) w w2 p g i (0 : Int) ((0 : Int) + ((0 : Nat) : Int) + 1) (i + 2 * ((0 : Nat) : Int))) := Lib.hid (by have := hS2; rw [show (0 : Int) + ((0 : Nat) : Int) + 1 = (i : Int) + 1 by have := hKi.out; omega, show (i : Int) + 2 * ((0 : Nat) : Int) = i by omega]; exact this)
        have hg0 : Hid (∀ id, g id ≠ none ↔ ((0 : Nat) : Int) + 1 ≤ id ∧ id ≤ (i : Int) + ((0 : Nat) : Int)) := Lib.hid (fun id => by have := hg.out id; rw [this]; omega)
        clear hS1 hS2 hg
        go_wp2_with fail
        refine LN.out.mono ?_; rintro e w' ⟨rfl, rfl⟩
        clear LN
        go_wp2
        go_loopw [12, 13, 14] (fun t12 _ _ wr => ∃ (j : Nat) (g : Int → Option Row9), t12 = .int .i64 j ∧ j ≤ i ∧ Hid (StI (fun _ => False) w wr p g i (0 : Int) ((0 : Int) + j + 1) (i + 2 * j)) ∧ Hid (∀ id, g id ≠ none ↔ (j : Int) + 1 ≤ id ∧ id ≤ (i : Int) + j)) (fun t12 _ _ _ => i - (intOf t12).toNat)
        case atStart =>
          exact ⟨0, g, rfl, by omega, hS2', hg0⟩
        case round =>
          obtain ⟨j, g, rfl, hj, hS3, hg3⟩ := hrel
          clear hS2' hg0
          have LN := Lib.hid (lenI hS3.out)
          rw [hKi.out] at LN
          by_cases q1 : (j : Int) < (m : Int) % 10
          · by_cases q2 : (j : Int) < (0 : Int)
            · exact absurd q2 (by omega)
            · have q2' : ((j : Int) < (0 : Int)) = False := eq_false q2
              have fin := Lib.hid (more_of_below hS3.out.bel)
              clear hS3 q2
              go_wp2_with fail
              refine LN.out.mono ?_; rintro e w' ⟨rfl, rfl⟩
              go_wp2
              go_ret
              exact ⟨rfl, fin.out⟩
          · have q1' : ((j : Int) < (m : Int) % 10) = False := eq_false q1
            have fin := Lib.hid (more_of_below hS3.out.bel)
            clear hS3 q1
            go_wp2_with fail
            refine LN.out.mono ?_; rintro e w' ⟨rfl, rfl⟩
            go_wp2
            go_ret
            exact ⟨rfl, fin.out⟩
  · go_enter Try.func6, Try.ntmps6
    go_wp2_with fail
    refine (known9 _).mono' ?_; intro x
    go_wp2_with fail
    refine (newI (X := fun _ => False) (w0 := w) most _ (by repeat (first | (with_reducible exact Below.refl _ _) | (with_reducible refine Below.drew ?_) | (with_reducible refine Below.alloc ?_ (by simp [more_size]; try omega) _) | (with_reducible refine Below.setCell ?_ (by simp [more_size]; try omega) _) | (with_reducible refine below_more ?_ _ (by simp [more_size]; try omega)))) (fun k h => h.elim)).mono ?_
    rintro e w1 ⟨p, rfl, hS, _⟩
    rw [show min (max most 0) 200 = (200 : Int) by omega] at hS
    replace hS := Lib.hid hS
    go_wp2_with fail
    go_loopw [7] (fun t7 wr => ∃ (i : Nat) (g : Int → Option Row9), t7 = .int .i64 i ∧ (i : Int) ≤ (200 : Int) ∧ Hid (StI (fun _ => False) w wr p g i (200 : Int) (i + 1) i) ∧ Hid (∀ id, g id ≠ none ↔ 1 ≤ id ∧ id ≤ (i : Int))) (fun t7 _ => ((200 : Int) - (intOf t7)).toNat)
    case atStart => exact ⟨0, _, rfl, by omega, hS, Lib.hid (fun id => by simp; omega)⟩
    case round =>
      obtain ⟨i, g, rfl, hi, hS1, hg⟩ := hrel
      clear hS
      by_cases hlt : (i : Int) < (200 : Int)
      · have hi2 : (i : Int) < 200 := by omega
        go_wp2_with fail
        refine (num9_any _ _).mono ?_; rintro e w' ⟨rfl, rfl⟩
        go_wp2_with fail
        refine (insertI hS1.out i (by omega) (by omega) hlt).mono ?_
        rintro e w2 ⟨rfl, hS2, _⟩
        have hg2 := Lib.hid (show ∀ id, upd g ((i : Int) + 1) (some (1, numL i)) id ≠ none ↔ 1 ≤ id ∧ id ≤ ((i + 1 : Nat) : Int) from fun id => by
          have := hg.out id
          rw [upd_ne]
          constructor
          · rintro (⟨h, _⟩ | ⟨h1, h2⟩)
            · omega
            · have := this.1 h2; omega
          · intro h
            by_cases e : id = (i : Int) + 1
            · exact .inl ⟨e, by simp⟩
            · exact .inr ⟨e, this.2 (by omega)⟩)
        have hS2' : Hid (StI (fun _ => False) w w2 p (upd g ((i : Int) + 1) (some (1, numL i))) (i + 1) (200 : Int) (((i + 1 : Nat) : Int) + 1) ((i + 1 : Nat) : Int)) := Lib.hid hS2
        clear hS1 hS2 hg
        go_wp2
        exact ⟨⟨i + 1, _, by go_num, by omega, hS2', hg2⟩, by simp [intOf]; omega⟩
      · have hlt' : ((i : Int) < (200 : Int)) = False := eq_false hlt
        have hKi : Hid ((i : Int) = (200 : Int)) := Lib.hid (by omega)
        clear hi hlt
        go_wp2_with fail
        refine (num9_any _ _).mono ?_; rintro e w' ⟨rfl, rfl⟩
        go_wp2_with fail
        refine (insertI_no hS1.out 7 (by have := hKi.out; omega) (by have := hKi.out; omega)).mono ?_
        rintro e w2 ⟨rfl, hS2, _⟩
        have LN := Lib.hid (lenI hS2)
        rw [hKi.out] at LN
        have hS2' : Hid (StI (fun _ => False) w w2 p g i (200 : Int) ((200 : Int) + ((0 : Nat) : Int) + 1) (i + 2 * ((0 : Nat) : Int))) := Lib.hid (by have := hS2; rw [show (200 : Int) + ((0 : Nat) : Int) + 1 = (i : Int) + 1 by have := hKi.out; omega, show (i : Int) + 2 * ((0 : Nat) : Int) = i by omega]; exact this)
        have hg0 : Hid (∀ id, g id ≠ none ↔ ((0 : Nat) : Int) + 1 ≤ id ∧ id ≤ (i : Int) + ((0 : Nat) : Int)) := Lib.hid (fun id => by have := hg.out id; rw [this]; omega)
        clear hS1 hS2 hg
        go_wp2_with fail
        refine LN.out.mono ?_; rintro e w' ⟨rfl, rfl⟩
        clear LN
        go_wp2
        go_loopw [12, 13, 14] (fun t12 _ _ wr => ∃ (j : Nat) (g : Int → Option Row9), t12 = .int .i64 j ∧ j ≤ i ∧ Hid (StI (fun _ => False) w wr p g i (200 : Int) ((200 : Int) + j + 1) (i + 2 * j)) ∧ Hid (∀ id, g id ≠ none ↔ (j : Int) + 1 ≤ id ∧ id ≤ (i : Int) + j)) (fun t12 _ _ _ => i - (intOf t12).toNat)
        case atStart =>
          exact ⟨0, g, rfl, by omega, hS2', hg0⟩
        case round =>
          obtain ⟨j, g, rfl, hj, hS3, hg3⟩ := hrel
          clear hS2' hg0
          have LN := Lib.hid (lenI hS3.out)
          rw [hKi.out] at LN
          by_cases q1 : (j : Int) < (m : Int) % 10
          · by_cases q2 : (j : Int) < (200 : Int)
            · have hK2 : (200 : Int) ≤ 200 := by omega
              have hjn : j < i := by have := hKi.out; omega
              clear LN
              have hge : g ((j : Int) + 1) ≠ none := (hg3.out _).2 ⟨by omega, by omega⟩
              have ER := Lib.hid (eraseI hS3.out (id := (j : Int) + 1) (WalkArith.wf_i64 (by omega)) (by have := hKi.out; omega) hge)
              clear hS3 hge
              go_wp2_with fail
              refine ER.out.mono ?_
              rintro e w3 ⟨rfl, hS4, h0n, _⟩
              clear ER
              go_wp2_with fail
              refine (num9_any _ _).mono ?_; rintro e w' ⟨rfl, rfl⟩
              have IN := Lib.hid (insertI hS4 9 (by have := hKi.out; omega) (by have := hKi.out; omega) (by have := hKi.out; omega))
              clear hS4
              go_wp2_with fail
              refine IN.out.mono ?_
              rintro e w4 ⟨rfl, hS5, _⟩
              have hg5 := Lib.hid (show ∀ id, upd (upd g ((j : Int) + 1) none) ((200 : Int) + (j : Int) + 1) (some (1, numL 9)) id ≠ none ↔ ((j + 1 : Nat) : Int) + 1 ≤ id ∧ id ≤ (i : Int) + ((j + 1 : Nat) : Int) from fun id => by
                have := hg3.out id
                have hk := hKi.out
                rw [upd_ne, upd_ne]
                constructor
                · rintro (⟨h, _⟩ | ⟨h1, (⟨_, h⟩ | ⟨h2, h3⟩)⟩)
                  · omega
                  · exact absurd rfl h
                  · have := this.1 h3; omega
                · intro h
                  by_cases e : id = (200 : Int) + (j : Int) + 1
                  · exact .inl ⟨e, by simp⟩
                  · exact .inr ⟨e, .inr ⟨by omega, this.2 (by omega)⟩⟩)
              have hno : upd (upd g ((j : Int) + 1) none) ((200 : Int) + (j : Int) + 1) (some (1, numL 9)) ((j : Int) + 1) = none := by
                cases hc : upd (upd g ((j : Int) + 1) none) ((200 : Int) + (j : Int) + 1) (some (1, numL 9)) ((j : Int) + 1) with
                | none => rfl
                | some r => exact absurd ((hg5.out ((j : Int) + 1)).1 (by rw [hc]; simp)) (by omega)
              have PT := Lib.hid (putI_full hS5 (id := (j : Int) + 1) (WalkArith.wf_i64 (by omega)) hno (by omega) (by omega) (by have := hKi.out; omega))
              clear hno hS5 IN hg3
              generalize upd (upd g ((j : Int) + 1) none) ((200 : Int) + (j : Int) + 1) (some (1, numL 9)) = g5 at *
              go_wp2_with fail
              refine PT.out.mono ?_
              rintro e w5 ⟨rfl, hS6⟩
              have hS7 : Hid (StI (fun _ => False) w w5 p g5 i (200 : Int) ((200 : Int) + ((j + 1 : Nat) : Int) + 1) (i + 2 * ((j + 1 : Nat) : Int))) := Lib.hid (by
                have := hS6
                rw [show i - 1 + 1 = i by omega, show (200 : Int) + (j : Int) + 1 + 1 = (200 : Int) + ((j + 1 : Nat) : Int) + 1 by omega, show (i : Int) + 2 * (j : Int) + 1 + 1 = i + 2 * ((j + 1 : Nat) : Int) by omega] at this
                exact this)
              clear hS6 PT
              go_wp2
              exact ⟨⟨j + 1, g5, by go_num, by omega, hS7, hg5⟩, by simp [intOf]; omega⟩
            · have q2' : ((j : Int) < (200 : Int)) = False := eq_false q2
              have fin := Lib.hid (more_of_below hS3.out.bel)
              clear hS3 q2
              go_wp2_with fail
              refine LN.out.mono ?_; rintro e w' ⟨rfl, rfl⟩
              go_wp2
              go_ret
              exact ⟨rfl, fin.out⟩
          · have q1' : ((j : Int) < (m : Int) % 10) = False := eq_false q1
            have fin := Lib.hid (more_of_below hS3.out.bel)
            clear hS3 q1
            go_wp2_with fail
            refine LN.out.mono ?_; rintro e w' ⟨rfl, rfl⟩
            go_wp2
            go_ret
            exact ⟨rfl, fin.out⟩
  · go_enter Try.func6, Try.ntmps6
    go_wp2_with fail
    refine (known9 _).mono' ?_; intro x
    go_wp2_with fail
    refine (newI (X := fun _ => False) (w0 := w) most _ (by repeat (first | (with_reducible exact Below.refl _ _) | (with_reducible refine Below.drew ?_) | (with_reducible refine Below.alloc ?_ (by simp [more_size]; try omega) _) | (with_reducible refine Below.setCell ?_ (by simp [more_size]; try omega) _) | (with_reducible refine below_more ?_ _ (by simp [more_size]; try omega)))) (fun k h => h.elim)).mono ?_
    rintro e w1 ⟨p, rfl, hS, _⟩
    rw [show min (max most 0) 200 = most by omega] at hS
    replace hS := Lib.hid hS
    go_wp2_with fail
    go_loopw [7] (fun t7 wr => ∃ (i : Nat) (g : Int → Option Row9), t7 = .int .i64 i ∧ (i : Int) ≤ most ∧ Hid (StI (fun _ => False) w wr p g i most (i + 1) i) ∧ Hid (∀ id, g id ≠ none ↔ 1 ≤ id ∧ id ≤ (i : Int))) (fun t7 _ => (most - (intOf t7)).toNat)
    case atStart => exact ⟨0, _, rfl, by omega, hS, Lib.hid (fun id => by simp; omega)⟩
    case round =>
      obtain ⟨i, g, rfl, hi, hS1, hg⟩ := hrel
      clear hS
      by_cases hlt : (i : Int) < most
      · have hi2 : (i : Int) < 200 := by omega
        go_wp2_with fail
        refine (num9_any _ _).mono ?_; rintro e w' ⟨rfl, rfl⟩
        go_wp2_with fail
        refine (insertI hS1.out i (by omega) (by omega) hlt).mono ?_
        rintro e w2 ⟨rfl, hS2, _⟩
        have hg2 := Lib.hid (show ∀ id, upd g ((i : Int) + 1) (some (1, numL i)) id ≠ none ↔ 1 ≤ id ∧ id ≤ ((i + 1 : Nat) : Int) from fun id => by
          have := hg.out id
          rw [upd_ne]
          constructor
          · rintro (⟨h, _⟩ | ⟨h1, h2⟩)
            · omega
            · have := this.1 h2; omega
          · intro h
            by_cases e : id = (i : Int) + 1
            · exact .inl ⟨e, by simp⟩
            · exact .inr ⟨e, this.2 (by omega)⟩)
        have hS2' : Hid (StI (fun _ => False) w w2 p (upd g ((i : Int) + 1) (some (1, numL i))) (i + 1) most (((i + 1 : Nat) : Int) + 1) ((i + 1 : Nat) : Int)) := Lib.hid hS2
        clear hS1 hS2 hg
        go_wp2
        exact ⟨⟨i + 1, _, by go_num, by omega, hS2', hg2⟩, by simp [intOf]; omega⟩
      · have hlt' : ((i : Int) < most) = False := eq_false hlt
        have hKi : Hid ((i : Int) = most) := Lib.hid (by omega)
        clear hi hlt
        go_wp2_with fail
        refine (num9_any _ _).mono ?_; rintro e w' ⟨rfl, rfl⟩
        go_wp2_with fail
        refine (insertI_no hS1.out 7 (by have := hKi.out; omega) (by have := hKi.out; omega)).mono ?_
        rintro e w2 ⟨rfl, hS2, _⟩
        have LN := Lib.hid (lenI hS2)
        rw [hKi.out] at LN
        have hS2' : Hid (StI (fun _ => False) w w2 p g i most (most + ((0 : Nat) : Int) + 1) (i + 2 * ((0 : Nat) : Int))) := Lib.hid (by have := hS2; rw [show most + ((0 : Nat) : Int) + 1 = (i : Int) + 1 by have := hKi.out; omega, show (i : Int) + 2 * ((0 : Nat) : Int) = i by omega]; exact this)
        have hg0 : Hid (∀ id, g id ≠ none ↔ ((0 : Nat) : Int) + 1 ≤ id ∧ id ≤ (i : Int) + ((0 : Nat) : Int)) := Lib.hid (fun id => by have := hg.out id; rw [this]; omega)
        clear hS1 hS2 hg
        go_wp2_with fail
        refine LN.out.mono ?_; rintro e w' ⟨rfl, rfl⟩
        clear LN
        go_wp2
        go_loopw [12, 13, 14] (fun t12 _ _ wr => ∃ (j : Nat) (g : Int → Option Row9), t12 = .int .i64 j ∧ j ≤ i ∧ Hid (StI (fun _ => False) w wr p g i most (most + j + 1) (i + 2 * j)) ∧ Hid (∀ id, g id ≠ none ↔ (j : Int) + 1 ≤ id ∧ id ≤ (i : Int) + j)) (fun t12 _ _ _ => i - (intOf t12).toNat)
        case atStart =>
          exact ⟨0, g, rfl, by omega, hS2', hg0⟩
        case round =>
          obtain ⟨j, g, rfl, hj, hS3, hg3⟩ := hrel
          clear hS2' hg0
          have LN := Lib.hid (lenI hS3.out)
          rw [hKi.out] at LN
          by_cases q1 : (j : Int) < (m : Int) % 10
          · by_cases q2 : (j : Int) < most
            · have hK2 : most ≤ 200 := by omega
              have hjn : j < i := by have := hKi.out; omega
              clear LN
              have hge : g ((j : Int) + 1) ≠ none := (hg3.out _).2 ⟨by omega, by omega⟩
              have ER := Lib.hid (eraseI hS3.out (id := (j : Int) + 1) (WalkArith.wf_i64 (by omega)) (by have := hKi.out; omega) hge)
              clear hS3 hge
              go_wp2_with fail
              refine ER.out.mono ?_
              rintro e w3 ⟨rfl, hS4, h0n, _⟩
              clear ER
              go_wp2_with fail
              refine (num9_any _ _).mono ?_; rintro e w' ⟨rfl, rfl⟩
              have IN := Lib.hid (insertI hS4 9 (by have := hKi.out; omega) (by have := hKi.out; omega) (by have := hKi.out; omega))
              clear hS4
              go_wp2_with fail
              refine IN.out.mono ?_
              rintro e w4 ⟨rfl, hS5, _⟩
              have hg5 := Lib.hid (show ∀ id, upd (upd g ((j : Int) + 1) none) (most + (j : Int) + 1) (some (1, numL 9)) id ≠ none ↔ ((j + 1 : Nat) : Int) + 1 ≤ id ∧ id ≤ (i : Int) + ((j + 1 : Nat) : Int) from fun id => by
                have := hg3.out id
                have hk := hKi.out
                rw [upd_ne, upd_ne]
                constructor
                · rintro (⟨h, _⟩ | ⟨h1, (⟨_, h⟩ | ⟨h2, h3⟩)⟩)
                  · omega
                  · exact absurd rfl h
                  · have := this.1 h3; omega
                · intro h
                  by_cases e : id = most + (j : Int) + 1
                  · exact .inl ⟨e, by simp⟩
                  · exact .inr ⟨e, .inr ⟨by omega, this.2 (by omega)⟩⟩)
              have hno : upd (upd g ((j : Int) + 1) none) (most + (j : Int) + 1) (some (1, numL 9)) ((j : Int) + 1) = none := by
                cases hc : upd (upd g ((j : Int) + 1) none) (most + (j : Int) + 1) (some (1, numL 9)) ((j : Int) + 1) with
                | none => rfl
                | some r => exact absurd ((hg5.out ((j : Int) + 1)).1 (by rw [hc]; simp)) (by omega)
              have PT := Lib.hid (putI_full hS5 (id := (j : Int) + 1) (WalkArith.wf_i64 (by omega)) hno (by omega) (by omega) (by have := hKi.out; omega))
              clear hno hS5 IN hg3
              generalize upd (upd g ((j : Int) + 1) none) (most + (j : Int) + 1) (some (1, numL 9)) = g5 at *
              go_wp2_with fail
              refine PT.out.mono ?_
              rintro e w5 ⟨rfl, hS6⟩
              have hS7 : Hid (StI (fun _ => False) w w5 p g5 i most (most + ((j + 1 : Nat) : Int) + 1) (i + 2 * ((j + 1 : Nat) : Int))) := Lib.hid (by
                have := hS6
                rw [show i - 1 + 1 = i by omega, show most + (j : Int) + 1 + 1 = most + ((j + 1 : Nat) : Int) + 1 by omega, show (i : Int) + 2 * (j : Int) + 1 + 1 = i + 2 * ((j + 1 : Nat) : Int) by omega] at this
                exact this)
              clear hS6 PT
              go_wp2
              exact ⟨⟨j + 1, g5, by go_num, by omega, hS7, hg5⟩, by simp [intOf]; omega⟩
            · have q2' : ((j : Int) < most) = False := eq_false q2
              have fin := Lib.hid (more_of_below hS3.out.bel)
              clear hS3 q2
              go_wp2_with fail
              refine LN.out.mono ?_; rintro e w' ⟨rfl, rfl⟩
              go_wp2
              go_ret
              exact ⟨rfl, fin.out⟩
          · have q1' : ((j : Int) < (m : Int) % 10) = False := eq_false q1
            have fin := Lib.hid (more_of_below hS3.out.bel)
            clear hS3 q1
            go_wp2_with fail
            refine LN.out.mono ?_; rintro e w' ⟨rfl, rfl⟩
            go_wp2
            go_ret
            exact ⟨rfl, fin.out⟩
theorem law_RowRoom (v0 v1 : Value) (w : World) (h0 : IsI64 v0) (h1 : IsU8 v1) :
    Calls Try.prog 6 #[v0, v1] w fun e w' => e = .returned (.bool true) ∧ Below w.heap.size w w' := by
  obtain ⟨n, rfl, a1, a2⟩ := h0
  obtain ⟨m, rfl, hm⟩ := h1
  exact law_of (walk_RowRoom n m hm a1 a2 w)
end Go.Proofs.Ytilpgojkbgbinaa

