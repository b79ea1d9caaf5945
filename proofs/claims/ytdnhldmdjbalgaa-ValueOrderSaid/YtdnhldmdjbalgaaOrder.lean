/- ValueOrder: comparing is an order of values; what is the same has one hash. -/
import Derived.Test.YtdnhldmdjbalgaaKinds
import Derived.Test.YtdnhldmdjbalgaaHash
import Derived.Test.YtdnhldmdjbalgaaOrdP
import Derived.Deep.RegionWith
set_option linter.unusedVariables false
set_option linter.unusedSimpArgs false
namespace Go.Proofs.Ytdnhldmdjbalgaa
open Go.RowKit
attribute [local go_sem] run_frombits run_tobits more_more more_drew more_drewN more_size more_cell more_frozen run_store_float lt_c1 le_c1 lt_s1 le_s1 lt_c2 le_c2 lt_s2 le_s2 lt_c3 le_c3 lt_s3 le_s3 lt_c4 le_c4 lt_s4 le_s4 lt_c5 le_c5 lt_s5 le_s5 lt_c6 le_c6 lt_s6 le_s6 lt_c7 le_c7 lt_s7 le_s7 lt_c8 le_c8 lt_s8 le_s8 lt_c9 le_c9 lt_s9 le_s9 lt_c10 le_c10 lt_s10 le_s10 lt_c11 le_c11 lt_s11 le_s11 lt_c12 le_c12 lt_s12 le_s12 le_c0 run_cmpstring

theorem ValsIn.head {w : World} {A : Option Addr} {a b : Val} (h : ValsIn w A [a, b]) : ValsIn w A [a] := fun j hj => by
  obtain ⟨g, off, e, hlt, hc⟩ := h 0 (by simp)
  refine ⟨g, off, e, hlt, fun i hi => ?_⟩
  match i, hi with
  | 0, _ => exact hc 0 (by simp)

set_option maxHeartbeats 8000000 in
theorem walk_ValueOrder (a b c : Val) (ha : a.ok) (hb : b.ok) (hc : c.ok) (w : World) :
    Gives Try.prog 15 #[a.v, b.v, c.v] w (.bool true) := by
  have F := few_any
  have AB := comparev_any a b ha hb
  have BA := comparev_any b a hb ha
  have AA := comparev_any a a ha ha
  have BC := comparev_any b c hb hc
  have AC := comparev_any a c ha hc
  have SM := same_v a b ha hb
  have R2 : ∀ (W : World) (g g' : Nat) (h : ValsIn W (some ⟨g, 0, none⟩) [a, c]) (h' : ValsIn W (some ⟨g', 0, none⟩) [b, c]),
      Gives Try.prog 36 #[.slice (some ⟨g, 0, none⟩) 2 2, .slice (some ⟨g', 0, none⟩) 2 2] W (.int .i64 (cmpV a b)) := fun W g g' h h' => by
    have := rows_any _ _ 2 2 [a, c] [b, c] (fun y hy => by simp at hy; rcases hy with rfl | rfl <;> assumption) (fun y hy => by simp at hy; rcases hy with rfl | rfl <;> assumption) W (by simp) (by simp) h h'
    rw [rows_two] at this
    exact this
  have R1 : ∀ (W : World) (g : Nat) (h : ValsIn W (some ⟨g, 0, none⟩) [a, c]),
      Gives Try.prog 36 #[.slice (some ⟨g, 0, none⟩) 1 2, .slice (some ⟨g, 0, none⟩) 2 2] W (.int .i64 (-1)) := fun W g h => by
    have := rows_any _ _ 2 2 [a] [a, c] (fun y hy => by simp at hy; rw [hy]; assumption) (fun y hy => by simp at hy; rcases hy with rfl | rfl <;> assumption) W (by simp) (by simp) h.head h
    have e : rowsV [a] [a, c] = -1 := by unfold rowsV orI; rw [cmpV_refl]; rfl
    rw [e] at this
    exact this
  have HA : ∀ (W : World) (g : Nat) (h : ValsIn W (some ⟨g, 0, none⟩) [a, c]), Gives Try.prog 38 #[.slice (some ⟨g, 0, none⟩) 2 2] W (.int .u64 (hashV [a, c])) := fun W g h =>
    hash_any _ 2 [a, c] (fun y hy => by simp at hy; rcases hy with rfl | rfl <;> assumption) W (by simp) h
  have HB : ∀ (W : World) (g : Nat) (h : ValsIn W (some ⟨g, 0, none⟩) [b, c]), Gives Try.prog 38 #[.slice (some ⟨g, 0, none⟩) 2 2] W (.int .u64 (hashV [b, c])) := fun W g h =>
    hash_any _ 2 [b, c] (fun y hy => by simp at hy; rcases hy with rfl | rfl <;> assumption) W (by simp) h
  have hz := @cmpV_zero a b ha hb
  rw [cmpV_is.anti a b] at BA
  rw [cmpV_refl] at AA
  have tr := cmpV_is.trans a b c
  generalize hf : fewV [a, b, c] 3 = few
  have F3 : ∀ (W : World) (g : Nat), ValsIn W (some ⟨g, 0, none⟩) [a, b, c] → Calls Try.prog 30 #[.slice (some ⟨g, 0, none⟩) 3 3, .int .i64 3] W fun e w' => e = .returned (.bool few) ∧ W = w' := fun W g h => by
    have := few_any _ 3 [a, b, c] 3 W (by simp) h
    rw [hf] at this
    exact this
  clear hf F
  have hHH : cmpV a b = 0 → hashV [a, c] = hashV [b, c] := fun h => by rw [hz h]
  clear hz
  generalize hashV [a, c] = k1 at HA hHH
  generalize hashV [b, c] = k2 at HB hHH
  have bx : -1 ≤ cmpV a b ∧ cmpV a b ≤ 1 := by
    unfold cmpV orI
    have h1 := cmpI_bd a.k b.k
    have h2 := cmpI_bd a.i b.i
    have h3 : -1 ≤ cmpB a.s b.s ∧ cmpB a.s b.s ≤ 1 := by rw [cmpB_eq]; split <;> (try split) <;> omega
    have h4 := cmpI_bd (ordN a.f) (ordN b.f)
    rw [← cmpN_is] at h4
    split <;> (try split) <;> (try split) <;> omega
  generalize cmpV a b = x at *
  generalize cmpV b c = y at *
  generalize cmpV a c = z at *
  obtain ⟨ak, ai, ast, af⟩ := a
  obtain ⟨bk, bi, bst, bf⟩ := b
  obtain ⟨ck, ci, cst, cf⟩ := c
  unfold Val.v at *
  dsimp only at *
  replace AB := Lib.hid AB
  replace BA := Lib.hid BA
  replace AA := Lib.hid AA
  replace BC := Lib.hid BC
  replace AC := Lib.hid AC
  replace SM := Lib.hid SM
  replace R1 := Lib.hid R1
  replace R2 := Lib.hid R2
  replace HA := Lib.hid HA
  replace HB := Lib.hid HB
  replace F3 := Lib.hid F3
  obtain ⟨bx1, bx2⟩ := bx
  cases few with
  | false =>
    clear tr hHH
    go_enter Try.func15, Try.ntmps15
    go_wp2_with (first | (go_at_call 29; refine (known2 _).mono' ?_; intro x))
    refine (F3.out _ _ (by repeat (first | (with_reducible refine valsIn1 ?_; simp [more_size]; done) | (with_reducible refine valsIn2 ?_; simp [more_size]; done) | (with_reducible refine valsIn3 ?_; simp [more_size]; done) | (with_reducible refine ValsIn.alloc ?_ _) | (with_reducible refine ValsIn.drew ?_) | (with_reducible refine ValsIn.more ?_ _)))).mono ?_; rintro e w' ⟨rfl, rfl⟩
    go_wp2
    go_ret
    exact ⟨rfl, (more_of_below (by repeat (first | (with_reducible exact Below.refl _ _) | (with_reducible refine Below.drew ?_) | (with_reducible refine Below.alloc ?_ (by simp [more_size]; try omega) _) | (with_reducible refine Below.setCell ?_ (by simp [more_size]; try omega) _) | (with_reducible refine below_more ?_ _ (by simp [more_size]; try omega)))))⟩
  | true =>
    rcases (show (0 < x) ∨ (x ≤ 0 ∧ 0 < y) ∨ (x ≤ 0 ∧ y ≤ 0) by omega) with h1 | ⟨h1, h2⟩ | ⟨h1, h2⟩
    · clear tr hHH
      have hz0 : (x == 0) = false := by rw [beq_eq_false_iff_ne]; omega
      have hz1 : (x != 0) = true := by rw [bne_iff_ne]; omega
      go_enter Try.func15, Try.ntmps15
      go_wp2_with (first | (go_at_call 29; refine (known2 _).mono' ?_; intro x))
      refine (F3.out _ _ (by repeat (first | (with_reducible refine valsIn1 ?_; simp [more_size]; done) | (with_reducible refine valsIn2 ?_; simp [more_size]; done) | (with_reducible refine valsIn3 ?_; simp [more_size]; done) | (with_reducible refine ValsIn.alloc ?_ _) | (with_reducible refine ValsIn.drew ?_) | (with_reducible refine ValsIn.more ?_ _)))).mono ?_; rintro e w' ⟨rfl, rfl⟩
      go_wp2_with fail
      refine (AB.out _).mono' ?_; intro x1
      go_wp2_with fail
      refine (BA.out _).mono' ?_; intro x2
      go_wp2_with fail
      refine (AA.out _).mono' ?_; intro x3
      go_wp2_with fail
      go_region
      all_goals
        go_wp2_with fail
        refine (SM.out _).mono' ?_; intro x6
        go_wp2_with fail
        refine (R2.out _ _ _ (by repeat (first | (with_reducible refine valsIn1 ?_; simp [more_size]; done) | (with_reducible refine valsIn2 ?_; simp [more_size]; done) | (with_reducible refine valsIn3 ?_; simp [more_size]; done) | (with_reducible refine ValsIn.alloc ?_ _) | (with_reducible refine ValsIn.drew ?_) | (with_reducible refine ValsIn.more ?_ _))) (by repeat (first | (with_reducible refine valsIn1 ?_; simp [more_size]; done) | (with_reducible refine valsIn2 ?_; simp [more_size]; done) | (with_reducible refine valsIn3 ?_; simp [more_size]; done) | (with_reducible refine ValsIn.alloc ?_ _) | (with_reducible refine ValsIn.drew ?_) | (with_reducible refine ValsIn.more ?_ _)))).mono' ?_; intro x7
        go_wp2_with fail
        refine (R1.out _ _ (by repeat (first | (with_reducible refine valsIn1 ?_; simp [more_size]; done) | (with_reducible refine valsIn2 ?_; simp [more_size]; done) | (with_reducible refine valsIn3 ?_; simp [more_size]; done) | (with_reducible refine ValsIn.alloc ?_ _) | (with_reducible refine ValsIn.drew ?_) | (with_reducible refine ValsIn.more ?_ _)))).mono' ?_; intro x10
        go_wp2
        go_ret
        exact ⟨rfl, (more_of_below (by repeat (first | (with_reducible exact Below.refl _ _) | (with_reducible refine Below.drew ?_) | (with_reducible refine Below.alloc ?_ (by simp [more_size]; try omega) _) | (with_reducible refine Below.setCell ?_ (by simp [more_size]; try omega) _) | (with_reducible refine below_more ?_ _ (by simp [more_size]; try omega)))))⟩
    · rcases (show x < 0 ∨ x = 0 by omega) with hx | rfl
      · clear tr hHH
        have hz0 : (x == 0) = false := by rw [beq_eq_false_iff_ne]; omega
        have hz1 : (x != 0) = true := by rw [bne_iff_ne]; omega
        go_enter Try.func15, Try.ntmps15
        go_wp2_with (first | (go_at_call 29; refine (known2 _).mono' ?_; intro x))
        refine (F3.out _ _ (by repeat (first | (with_reducible refine valsIn1 ?_; simp [more_size]; done) | (with_reducible refine valsIn2 ?_; simp [more_size]; done) | (with_reducible refine valsIn3 ?_; simp [more_size]; done) | (with_reducible refine ValsIn.alloc ?_ _) | (with_reducible refine ValsIn.drew ?_) | (with_reducible refine ValsIn.more ?_ _)))).mono ?_; rintro e w' ⟨rfl, rfl⟩
        go_wp2_with fail
        refine (AB.out _).mono' ?_; intro x1
        go_wp2_with fail
        refine (BA.out _).mono' ?_; intro x2
        go_wp2_with fail
        refine (AA.out _).mono' ?_; intro x3
        go_wp2_with fail
        refine (BC.out _).mono' ?_; intro x4
        go_wp2_with fail
        go_region
        all_goals
          go_wp2_with fail
          refine (SM.out _).mono' ?_; intro x6
          go_wp2_with fail
          refine (R2.out _ _ _ (by repeat (first | (with_reducible refine valsIn1 ?_; simp [more_size]; done) | (with_reducible refine valsIn2 ?_; simp [more_size]; done) | (with_reducible refine valsIn3 ?_; simp [more_size]; done) | (with_reducible refine ValsIn.alloc ?_ _) | (with_reducible refine ValsIn.drew ?_) | (with_reducible refine ValsIn.more ?_ _))) (by repeat (first | (with_reducible refine valsIn1 ?_; simp [more_size]; done) | (with_reducible refine valsIn2 ?_; simp [more_size]; done) | (with_reducible refine valsIn3 ?_; simp [more_size]; done) | (with_reducible refine ValsIn.alloc ?_ _) | (with_reducible refine ValsIn.drew ?_) | (with_reducible refine ValsIn.more ?_ _)))).mono' ?_; intro x7
          go_wp2_with fail
          refine (R1.out _ _ (by repeat (first | (with_reducible refine valsIn1 ?_; simp [more_size]; done) | (with_reducible refine valsIn2 ?_; simp [more_size]; done) | (with_reducible refine valsIn3 ?_; simp [more_size]; done) | (with_reducible refine ValsIn.alloc ?_ _) | (with_reducible refine ValsIn.drew ?_) | (with_reducible refine ValsIn.more ?_ _)))).mono' ?_; intro x10
          go_wp2
          go_ret
          exact ⟨rfl, (more_of_below (by repeat (first | (with_reducible exact Below.refl _ _) | (with_reducible refine Below.drew ?_) | (with_reducible refine Below.alloc ?_ (by simp [more_size]; try omega) _) | (with_reducible refine Below.setCell ?_ (by simp [more_size]; try omega) _) | (with_reducible refine below_more ?_ _ (by simp [more_size]; try omega)))))⟩
      · clear tr
        obtain rfl := hHH rfl
        clear hHH
        go_enter Try.func15, Try.ntmps15
        go_wp2_with (first | (go_at_call 29; refine (known2 _).mono' ?_; intro x))
        refine (F3.out _ _ (by repeat (first | (with_reducible refine valsIn1 ?_; simp [more_size]; done) | (with_reducible refine valsIn2 ?_; simp [more_size]; done) | (with_reducible refine valsIn3 ?_; simp [more_size]; done) | (with_reducible refine ValsIn.alloc ?_ _) | (with_reducible refine ValsIn.drew ?_) | (with_reducible refine ValsIn.more ?_ _)))).mono ?_; rintro e w' ⟨rfl, rfl⟩
        go_wp2_with fail
        refine (AB.out _).mono' ?_; intro x1
        go_wp2_with fail
        refine (BA.out _).mono' ?_; intro x2
        go_wp2_with fail
        refine (AA.out _).mono' ?_; intro x3
        go_wp2_with fail
        refine (BC.out _).mono' ?_; intro x4
        go_wp2_with fail
        go_region
        all_goals
          go_wp2_with fail
          refine (SM.out _).mono' ?_; intro x6
          go_wp2_with fail
          refine (R2.out _ _ _ (by repeat (first | (with_reducible refine valsIn1 ?_; simp [more_size]; done) | (with_reducible refine valsIn2 ?_; simp [more_size]; done) | (with_reducible refine valsIn3 ?_; simp [more_size]; done) | (with_reducible refine ValsIn.alloc ?_ _) | (with_reducible refine ValsIn.drew ?_) | (with_reducible refine ValsIn.more ?_ _))) (by repeat (first | (with_reducible refine valsIn1 ?_; simp [more_size]; done) | (with_reducible refine valsIn2 ?_; simp [more_size]; done) | (with_reducible refine valsIn3 ?_; simp [more_size]; done) | (with_reducible refine ValsIn.alloc ?_ _) | (with_reducible refine ValsIn.drew ?_) | (with_reducible refine ValsIn.more ?_ _)))).mono' ?_; intro x7
          go_wp2_with fail
          refine (HA.out _ _ (by repeat (first | (with_reducible refine valsIn1 ?_; simp [more_size]; done) | (with_reducible refine valsIn2 ?_; simp [more_size]; done) | (with_reducible refine valsIn3 ?_; simp [more_size]; done) | (with_reducible refine ValsIn.alloc ?_ _) | (with_reducible refine ValsIn.drew ?_) | (with_reducible refine ValsIn.more ?_ _)))).mono' ?_; intro x8
          go_wp2_with fail
          refine (HB.out _ _ (by repeat (first | (with_reducible refine valsIn1 ?_; simp [more_size]; done) | (with_reducible refine valsIn2 ?_; simp [more_size]; done) | (with_reducible refine valsIn3 ?_; simp [more_size]; done) | (with_reducible refine ValsIn.alloc ?_ _) | (with_reducible refine ValsIn.drew ?_) | (with_reducible refine ValsIn.more ?_ _)))).mono' ?_; intro x9
          go_wp2_with fail
          refine (R1.out _ _ (by repeat (first | (with_reducible refine valsIn1 ?_; simp [more_size]; done) | (with_reducible refine valsIn2 ?_; simp [more_size]; done) | (with_reducible refine valsIn3 ?_; simp [more_size]; done) | (with_reducible refine ValsIn.alloc ?_ _) | (with_reducible refine ValsIn.drew ?_) | (with_reducible refine ValsIn.more ?_ _)))).mono' ?_; intro x10
          go_wp2
          go_ret
          exact ⟨rfl, (more_of_below (by repeat (first | (with_reducible exact Below.refl _ _) | (with_reducible refine Below.drew ?_) | (with_reducible refine Below.alloc ?_ (by simp [more_size]; try omega) _) | (with_reducible refine Below.setCell ?_ (by simp [more_size]; try omega) _) | (with_reducible refine below_more ?_ _ (by simp [more_size]; try omega)))))⟩
    · have h3 := tr h1 h2
      rcases (show x < 0 ∨ x = 0 by omega) with hx | rfl
      · clear tr hHH
        have hz0 : (x == 0) = false := by rw [beq_eq_false_iff_ne]; omega
        have hz1 : (x != 0) = true := by rw [bne_iff_ne]; omega
        go_enter Try.func15, Try.ntmps15
        go_wp2_with (first | (go_at_call 29; refine (known2 _).mono' ?_; intro x))
        refine (F3.out _ _ (by repeat (first | (with_reducible refine valsIn1 ?_; simp [more_size]; done) | (with_reducible refine valsIn2 ?_; simp [more_size]; done) | (with_reducible refine valsIn3 ?_; simp [more_size]; done) | (with_reducible refine ValsIn.alloc ?_ _) | (with_reducible refine ValsIn.drew ?_) | (with_reducible refine ValsIn.more ?_ _)))).mono ?_; rintro e w' ⟨rfl, rfl⟩
        go_wp2_with fail
        refine (AB.out _).mono' ?_; intro x1
        go_wp2_with fail
        refine (BA.out _).mono' ?_; intro x2
        go_wp2_with fail
        refine (AA.out _).mono' ?_; intro x3
        go_wp2_with fail
        refine (BC.out _).mono' ?_; intro x4
        go_wp2_with fail
        refine (AC.out _).mono' ?_; intro x5
        go_wp2_with fail
        go_region
        all_goals
          go_wp2_with fail
          refine (SM.out _).mono' ?_; intro x6
          go_wp2_with fail
          refine (R2.out _ _ _ (by repeat (first | (with_reducible refine valsIn1 ?_; simp [more_size]; done) | (with_reducible refine valsIn2 ?_; simp [more_size]; done) | (with_reducible refine valsIn3 ?_; simp [more_size]; done) | (with_reducible refine ValsIn.alloc ?_ _) | (with_reducible refine ValsIn.drew ?_) | (with_reducible refine ValsIn.more ?_ _))) (by repeat (first | (with_reducible refine valsIn1 ?_; simp [more_size]; done) | (with_reducible refine valsIn2 ?_; simp [more_size]; done) | (with_reducible refine valsIn3 ?_; simp [more_size]; done) | (with_reducible refine ValsIn.alloc ?_ _) | (with_reducible refine ValsIn.drew ?_) | (with_reducible refine ValsIn.more ?_ _)))).mono' ?_; intro x7
          go_wp2_with fail
          refine (R1.out _ _ (by repeat (first | (with_reducible refine valsIn1 ?_; simp [more_size]; done) | (with_reducible refine valsIn2 ?_; simp [more_size]; done) | (with_reducible refine valsIn3 ?_; simp [more_size]; done) | (with_reducible refine ValsIn.alloc ?_ _) | (with_reducible refine ValsIn.drew ?_) | (with_reducible refine ValsIn.more ?_ _)))).mono' ?_; intro x10
          go_wp2
          go_ret
          exact ⟨rfl, (more_of_below (by repeat (first | (with_reducible exact Below.refl _ _) | (with_reducible refine Below.drew ?_) | (with_reducible refine Below.alloc ?_ (by simp [more_size]; try omega) _) | (with_reducible refine Below.setCell ?_ (by simp [more_size]; try omega) _) | (with_reducible refine below_more ?_ _ (by simp [more_size]; try omega)))))⟩
      · clear tr
        obtain rfl := hHH rfl
        clear hHH
        go_enter Try.func15, Try.ntmps15
        go_wp2_with (first | (go_at_call 29; refine (known2 _).mono' ?_; intro x))
        refine (F3.out _ _ (by repeat (first | (with_reducible refine valsIn1 ?_; simp [more_size]; done) | (with_reducible refine valsIn2 ?_; simp [more_size]; done) | (with_reducible refine valsIn3 ?_; simp [more_size]; done) | (with_reducible refine ValsIn.alloc ?_ _) | (with_reducible refine ValsIn.drew ?_) | (with_reducible refine ValsIn.more ?_ _)))).mono ?_; rintro e w' ⟨rfl, rfl⟩
        go_wp2_with fail
        refine (AB.out _).mono' ?_; intro x1
        go_wp2_with fail
        refine (BA.out _).mono' ?_; intro x2
        go_wp2_with fail
        refine (AA.out _).mono' ?_; intro x3
        go_wp2_with fail
        refine (BC.out _).mono' ?_; intro x4
        go_wp2_with fail
        refine (AC.out _).mono' ?_; intro x5
        go_wp2_with fail
        go_region
        all_goals
          go_wp2_with fail
          refine (SM.out _).mono' ?_; intro x6
          go_wp2_with fail
          refine (R2.out _ _ _ (by repeat (first | (with_reducible refine valsIn1 ?_; simp [more_size]; done) | (with_reducible refine valsIn2 ?_; simp [more_size]; done) | (with_reducible refine valsIn3 ?_; simp [more_size]; done) | (with_reducible refine ValsIn.alloc ?_ _) | (with_reducible refine ValsIn.drew ?_) | (with_reducible refine ValsIn.more ?_ _))) (by repeat (first | (with_reducible refine valsIn1 ?_; simp [more_size]; done) | (with_reducible refine valsIn2 ?_; simp [more_size]; done) | (with_reducible refine valsIn3 ?_; simp [more_size]; done) | (with_reducible refine ValsIn.alloc ?_ _) | (with_reducible refine ValsIn.drew ?_) | (with_reducible refine ValsIn.more ?_ _)))).mono' ?_; intro x7
          go_wp2_with fail
          refine (HA.out _ _ (by repeat (first | (with_reducible refine valsIn1 ?_; simp [more_size]; done) | (with_reducible refine valsIn2 ?_; simp [more_size]; done) | (with_reducible refine valsIn3 ?_; simp [more_size]; done) | (with_reducible refine ValsIn.alloc ?_ _) | (with_reducible refine ValsIn.drew ?_) | (with_reducible refine ValsIn.more ?_ _)))).mono' ?_; intro x8
          go_wp2_with fail
          refine (HB.out _ _ (by repeat (first | (with_reducible refine valsIn1 ?_; simp [more_size]; done) | (with_reducible refine valsIn2 ?_; simp [more_size]; done) | (with_reducible refine valsIn3 ?_; simp [more_size]; done) | (with_reducible refine ValsIn.alloc ?_ _) | (with_reducible refine ValsIn.drew ?_) | (with_reducible refine ValsIn.more ?_ _)))).mono' ?_; intro x9
          go_wp2_with fail
          refine (R1.out _ _ (by repeat (first | (with_reducible refine valsIn1 ?_; simp [more_size]; done) | (with_reducible refine valsIn2 ?_; simp [more_size]; done) | (with_reducible refine valsIn3 ?_; simp [more_size]; done) | (with_reducible refine ValsIn.alloc ?_ _) | (with_reducible refine ValsIn.drew ?_) | (with_reducible refine ValsIn.more ?_ _)))).mono' ?_; intro x10
          go_wp2
          go_ret
          exact ⟨rfl, (more_of_below (by repeat (first | (with_reducible exact Below.refl _ _) | (with_reducible refine Below.drew ?_) | (with_reducible refine Below.alloc ?_ (by simp [more_size]; try omega) _) | (with_reducible refine Below.setCell ?_ (by simp [more_size]; try omega) _) | (with_reducible refine below_more ?_ _ (by simp [more_size]; try omega)))))⟩
theorem law_ValueOrder (v0 v1 v2 : Value) (w : World) (h0 : IsVal v0) (h1 : IsVal v1) (h2 : IsVal v2) :
    Calls Try.prog 15 #[v0, v1, v2] w fun e w' => e = .returned (.bool true) ∧ Below w.heap.size w w' := by
  obtain ⟨a, rfl, ha⟩ := h0
  obtain ⟨b, rfl, hb⟩ := h1
  obtain ⟨c, rfl, hc⟩ := h2
  exact law_of (walk_ValueOrder a b c ha hb hc w)
end Go.Proofs.Ytdnhldmdjbalgaa
