/- RowBack: a row that was taken out is put back as it was; the next number too, when nothing with a greater one is there. -/
import Derived.Test.YtilpgojkbgbinaaStoJ
import Derived.Test.YtilpgojkbgbinaaOpen
set_option maxRecDepth 100000
set_option linter.unusedVariables false
set_option linter.unusedSimpArgs false
namespace Go.Proofs.Ytilpgojkbgbinaa
open Go.RowKit
open Go.Maps (has size Keyed int_keyed keyOf_int_mk)
attribute [local go_sem] run_frombits run_tobits more_more more_drew more_drewN more_size more_cell more_frozen run_store_float lt_c1 le_c1 lt_s1 le_s1 lt_c2 le_c2 lt_s2 le_s2 lt_c3 le_c3 lt_s3 le_s3 lt_c4 le_c4 lt_s4 le_s4 lt_c5 le_c5 lt_s5 le_s5 lt_c6 le_c6 lt_s6 le_s6 lt_c7 le_c7 lt_s7 le_s7 lt_c8 le_c8 lt_s8 le_s8 lt_c9 le_c9 lt_s9 le_s9 lt_c10 le_c10 lt_s10 le_s10 lt_c11 le_c11 lt_s11 le_s11 lt_c12 le_c12 lt_s12 le_s12 le_c0
theorem numL_len (v : Int) : (numL v).length = 1 := rfl
attribute [local go_sem] numL_len
theorem ownV_int {w : World} {ga ca : Nat} {v : Int} (h : ownV w ga ca (numL v)) : w.cell? ⟨ga, 1, none⟩ = some (.int .i64 v) := by
  obtain ⟨A, cap, e, _, _, _, h4⟩ := own_open h
  injection e with e e2 e3
  subst e
  obtain ⟨g, e4, _, _, hc⟩ := h4 (by simp [numL])
  injection e4 with e4
  injection e4 with e4
  subst e4
  exact hc 1 _ rfl
theorem upd_ne9 {α : Type} {g : Int → Option α} {id : Int} {v : Option α} (x : Int) : upd g id v x ≠ none ↔ (x = id ∧ v ≠ none) ∨ (x ≠ id ∧ g x ≠ none) := by
  unfold upd
  by_cases h : x = id
  · simp [h]
  · simp [h]
def gB (i : Int) : Int → Option Row9 := fun id => if 1 ≤ id ∧ id ≤ i then some (1, numL (10 * (id - 1))) else none
theorem gB_in {i id : Int} (h1 : 1 ≤ id) (h2 : id ≤ i) : gB i id = some (1, numL (10 * (id - 1))) := by unfold gB; rw [if_pos ⟨h1, h2⟩]
theorem gB_out {i id : Int} (h : ¬ (1 ≤ id ∧ id ≤ i)) : gB i id = none := by unfold gB; rw [if_neg h]
theorem gB_step (i : Nat) : upd (gB i) ((i : Int) + 1) (some (1, numL (10 * (i : Int)))) = gB ((i + 1 : Nat) : Int) := by
  funext id
  unfold upd
  by_cases e : id = (i : Int) + 1
  · rw [if_pos e, gB_in (by omega) (by omega)]; congr 3; omega
  · rw [if_neg e]
    unfold gB
    by_cases q : 1 ≤ id ∧ id ≤ (i : Int)
    · rw [if_pos q, if_pos (by omega)]
    · rw [if_neg q, if_neg (by omega)]
theorem gB_zero : (fun _ => none) = gB ((0 : Nat) : Int) := by
  funext id
  rw [gB_out (by omega)]
set_option maxHeartbeats 8000000 in
theorem walk_RowBack (n m : Nat) (hn : n < 256) (hm : m < 256) (w : World) :
    Gives Try.prog 13 #[.int .u8 n, .int .u8 m] w (.bool true) := by
  go_enter Try.func13, Try.ntmps13
  go_wp2_with fail
  refine (known9 _).mono' ?_; intro x
  go_wp2_with fail
  refine (newI (X := fun _ => False) (w0 := w) 100 _ (by repeat (first | (with_reducible exact Below.refl _ _) | (with_reducible refine Below.drew ?_) | (with_reducible refine Below.alloc ?_ (by simp [more_size]; try omega) _) | (with_reducible refine Below.setCell ?_ (by simp [more_size]; try omega) _) | (with_reducible refine below_more ?_ _ (by simp [more_size]; try omega)))) (fun k h => h.elim)).mono ?_
  rintro e w1 ⟨p, rfl, hS, _⟩
  rw [gB_zero] at hS
  replace hS : Hid (StI (fun _ => False) w w1 p (gB ((0 : Nat) : Int)) 0 100 (((0 : Nat) : Int) + 1) ((0 : Nat) : Int)) := Lib.hid hS
  go_wp2_with fail
  generalize hX : (n : Int) % 20 = X at *
  obtain ⟨K, rfl⟩ : ∃ N : Nat, X = N := ⟨X.toNat, by omega⟩
  have hK1 : K < 20 := by omega
  clear hX
  go_loopw [7] (fun t7 wr => ∃ (i : Nat), t7 = .int .i64 i ∧ i ≤ K + 1 ∧ Hid (StI (fun _ => False) w wr p (gB i) i 100 (i + 1) i)) (fun t7 _ => (K + 1 - (intOf t7).toNat))
  case atStart => exact ⟨0, rfl, by omega, hS⟩
  case round =>
    obtain ⟨i, rfl, hi, hS1⟩ := hrel
    clear hS
    by_cases hlt : i < K + 1
    · have hlt' : (i : Int) < (K : Int) + 1 := by omega
      have hi2 : (i : Int) < 100 := by omega
      have hwr : wrap64 (10 * (i : Int)) = 10 * (i : Int) := by unfold wrap64; omega
      go_wp2_with fail
      refine (num9_any _ _).mono ?_; rintro e w' ⟨rfl, rfl⟩
      have IN := Lib.hid (insertI hS1.out (10 * (i : Int)) (by omega) (by omega) (by omega))
      rw [gB_step] at IN
      clear hS1
      go_wp2_with fail
      refine IN.out.mono ?_
      rintro e w2 ⟨rfl, hS2, _⟩
      have hS2' : Hid (StI (fun _ => False) w w2 p (gB ((i + 1 : Nat) : Int)) (i + 1) 100 (((i + 1 : Nat) : Int) + 1) ((i + 1 : Nat) : Int)) := Lib.hid hS2
      clear hS2 IN
      go_wp2
      exact ⟨⟨i + 1, by go_num, by omega, hS2'⟩, by simp [intOf]; omega⟩
    · have hlt' : ((i : Int) < (K : Int) + 1) = False := eq_false (by omega)
      obtain rfl : i = K + 1 := by omega
      have hS2 : Hid (StI (fun _ => False) w wr p (gB ((K : Int) + 1)) (K + 1) 100 ((K : Int) + 1 + 1) ((K : Int) + 1)) := Lib.hid hS1.out
      clear hS1 hlt hi hlt'
      have hlt' : (((K + 1 : Nat) : Int) < (K : Int) + 1) = False := eq_false (by omega)
      have hK0 : (0 : Int) ≤ K := by omega
      have hm1 := Int.emod_nonneg (m : Int) (show ((K : Int) + 1) ≠ 0 by omega)
      have hm2 := Int.emod_lt_of_pos (m : Int) (show 0 < ((K : Int) + 1) by omega)
      go_wp2_with fail
      generalize hX : (m : Int) % ((K : Int) + 1) = X at *
      obtain ⟨R, rfl⟩ : ∃ N : Nat, X = N := ⟨X.toNat, by omega⟩
      clear hX
      have hR : R ≤ K := by omega
      clear hm1 hm2
      have hgR : gB ((K : Int) + 1) ((R : Int) + 1) = some (1, numL (10 * (R : Int))) := by rw [gB_in (by omega) (by omega)]; congr 3; omega
      have wfR : (Lit.int .i64 ((R : Int) + 1)).wf = true := WalkArith.wf_i64 (by omega)
      refine (getI_some hS2.out wfR hgR (by simp [numL])).mono ?_
      rintro e w2 ⟨ga, ca, rfl, ho, hga, hga2, hB2⟩
      replace ho : ownV w2 ga ca (numL (10 * (R : Int))) := ho
      have hS3 : Hid (StI (fun k => k = ga ∨ k = w2.heap.size) w (w2.alloc (.cells #[.int .i64 ((R : Int) + 1), .int .i64 1, .slice (some ⟨ga, 0, none⟩) 1 ca] 63)) p (gB ((K : Int) + 1)) (K + 1) 100 ((K : Int) + 1 + 1) ((K : Int) + 1)) := Lib.hid (hS2.out.own (hB2.trans (show Below wr.heap.size w2 _ from (Below.refl _ _).alloc hB2.size _)) (fun k hk => .inr (by rcases hk with rfl | rfl <;> simp <;> have := hB2.size <;> omega)))
      have hb3 : Hid (Blk (w2.alloc (.cells #[.int .i64 ((R : Int) + 1), .int .i64 1, .slice (some ⟨ga, 0, none⟩) 1 ca] 63)) w2.heap.size #[.int .i64 ((R : Int) + 1), .int .i64 1, .slice (some ⟨ga, 0, none⟩) 1 ca] 63) := Lib.hid (Blk.new _ _ _ rfl)
      have ho3 : Hid (ownV (w2.alloc (.cells #[.int .i64 ((R : Int) + 1), .int .i64 1, .slice (some ⟨ga, 0, none⟩) 1 ca] 63)) ga ca (numL (10 * (R : Int)))) := Lib.hid (ownV_same ho (Below.heap_alloc _ _ _ hga2))
      clear hS2 ho hB2
      go_wp2_with fail
      have hbl : Hid (w2.heap.size < (w2.alloc (.cells #[.int .i64 ((R : Int) + 1), .int .i64 1, .slice (some ⟨ga, 0, none⟩) 1 ca] 63)).heap.size) := Lib.hid (by simp)
      have hgl : Hid (ga < (w2.alloc (.cells #[.int .i64 ((R : Int) + 1), .int .i64 1, .slice (some ⟨ga, 0, none⟩) 1 ca] 63)).heap.size) := Lib.hid (by simp; omega)
      clear hga hga2
      generalize w2.alloc (.cells #[.int .i64 ((R : Int) + 1), .int .i64 1, .slice (some ⟨ga, 0, none⟩) 1 ca] 63) = W3 at *
      generalize w2.heap.size = b at *
      refine (putI_there hS3.out wfR (some ⟨ga, 0, none⟩) ca (numL (10 * (R : Int))) (by rw [hgR]; simp)).mono ?_
      rintro e W4 ⟨rfl, hB4⟩
      have hS4 := Lib.hid (hS3.out.below hB4)
      have hb4 := Lib.hid (hb3.out.below hB4 hbl.out)
      have ho4 := Lib.hid (ownV_same ho3.out (hB4.block ga hgl.out))
      clear hS3 hb3 ho3 hB4 hbl hgl
      go_wp2_with fail
      refine (eraseI hS4.out wfR (by omega) (by rw [hgR]; simp)).mono ?_
      rintro e W5 ⟨rfl, hS5, _, hX5⟩
      have hb5' : Blk W5 b #[.int .i64 ((R : Int) + 1), .int .i64 1, .slice (some ⟨ga, 0, none⟩) 1 ca] 63 := (hX5 b (.inr rfl)).trans hb4.out
      have ho5 := Lib.hid (ownV_same ho4.out (hX5 ga (.inl rfl)))
      have r0 : W5.cell? ⟨b, 0, none⟩ = some (.int .i64 ((R : Int) + 1)) := hb5'.cell 0
      have r1 : W5.cell? ⟨b, 1, none⟩ = some (.int .i64 1) := hb5'.cell 1
      have r2 : W5.cell? ⟨b, 2, none⟩ = some (.slice (some ⟨ga, 0, none⟩) 1 ca) := hb5'.cell 2
      have PT := Lib.hid (putI_ok (ver := 1) hS5 wfR (l := numL (10 * (R : Int))) (by simp [numL]) ho5.out (.inl rfl) (upd_same _ _ _) (by omega) (by omega) (by omega) (by omega))
      rw [show upd (upd (gB ((K : Int) + 1)) ((R : Int) + 1) none) ((R : Int) + 1) (some (1, numL (10 * (R : Int)))) = gB ((K : Int) + 1) from by
        funext id
        unfold upd
        by_cases e : id = (R : Int) + 1
        · rw [if_pos e, e, hgR]
        · rw [if_neg e, if_neg e]] at PT
      have hb5 := Lib.hid hb5'
      clear hS4 hb4 ho4 hb5' hS5 hX5
      go_wp2_with fail
      refine PT.out.mono ?_
      rintro e W6 ⟨rfl, hS6, hX6⟩
      have hb6 := Lib.hid (show Blk W6 b #[.int .i64 ((R : Int) + 1), .int .i64 1, .slice (some ⟨ga, 0, none⟩) 1 ca] 63 from (hX6 b (.inr rfl)).trans hb5.out)
      have hS6' := Lib.hid hS6
      clear hS6 hX6 PT r0 r1 r2 hb5 ho5
      go_wp2_with fail
      refine (putI_high hS6'.out (id := (K : Int) + 1 + 1) (WalkArith.wf_i64 (by omega)) none 0 [] (gB_out (by omega)) (by omega) (by omega)).mono ?_
      rintro e W7 ⟨rfl, hB7⟩
      have hS7 := Lib.hid (hS6'.out.below hB7)
      have hb7 := Lib.hid (hb6.out.below hB7 hb6.out.lt)
      clear hS6' hb6 hB7
      go_wp2_with fail
      refine (getI_some hS7.out wfR hgR (by simp [numL])).mono ?_
      rintro e W8 ⟨gq, cq, rfl, hq, hq1, hq2, hB8⟩
      replace hq : ownV W8 gq cq (numL (10 * (R : Int))) := hq
      have hS8 := Lib.hid (hS7.out.below hB8)
      have hb8 := Lib.hid (hb7.out.below hB8 hb7.out.lt)
      have hqi : W8.cell? ⟨gq, 1, none⟩ = some (.int .i64 (10 * (R : Int))) := ownV_int hq
      have d1 : W8.cell? ⟨b, 1, none⟩ = some (.int .i64 1) := hb8.out.cell 1
      have hbs := hb8.out.lt
      have hwr : wrap64 (10 * (R : Int)) = 10 * (R : Int) := by unfold wrap64; omega
      clear hS7 hb7 hB8 hq hq1 hb8
      go_wp2_with fail
      have hS9 := hS8.out.below (show Below W8.heap.size W8 (W8.alloc (.cells #[.int .i64 ((R : Int) + 1), .int .i64 1, .slice (some ⟨gq, 0, none⟩) 1 cq] 63)) from (by repeat (first | (with_reducible exact Below.refl _ _) | (with_reducible refine Below.drew ?_) | (with_reducible refine Below.alloc ?_ (by simp [more_size]; try omega) _) | (with_reducible refine Below.setCell ?_ (by simp [more_size]; try omega) _) | (with_reducible refine below_more ?_ _ (by simp [more_size]; try omega)))))
      refine (setI_there hS9 (id := (K : Int) + 1) (x0 := (K : Int) + 1) (by omega) (by omega) (by rw [gB_in (by omega) (by omega)]; simp) (Int.le_refl _)).mono ?_
      rintro e W9 ⟨rfl, hB9⟩
      have hS10 := Lib.hid (hS9.below hB9)
      clear hS9 hB9 hS8 hqi d1 hbs hq2 hgR wfR hwr
      go_wp2_with fail
      refine (eraseI hS10.out (id := (K : Int) + 1) (WalkArith.wf_i64 (by omega)) (by omega) (by rw [gB_in (by omega) (by omega)]; simp)).mono ?_
      rintro e W10 ⟨rfl, hS11, _, _⟩
      have SN := Lib.hid (setI_ok hS11 (id := (K : Int) + 1) (by omega) (by omega) (fun x hx => by
        rw [upd_ne9] at hx
        rcases hx with ⟨_, q⟩ | ⟨q1, q2⟩
        · exact absurd rfl q
        · have : 1 ≤ x ∧ x ≤ (K : Int) + 1 := by
            apply Classical.byContradiction
            intro hc
            exact q2 (gB_out hc)
          omega))
      clear hS10 hS11
      go_wp2_with fail
      refine SN.out.mono ?_
      rintro e W11 ⟨rfl, hS12, _⟩
      replace hS12 := Lib.hid hS12
      clear SN
      go_wp2_with fail
      refine (num9_any _ _).mono ?_; rintro e w' ⟨rfl, rfl⟩
      go_wp2_with fail
      refine (insertI hS12.out 1 (by omega) (by omega) (by omega)).mono ?_
      rintro e W12 ⟨rfl, hS13, _⟩
      have fin := Lib.hid (more_of_below hS13.bel)
      clear hS12 hS13
      go_wp2
      go_ret
      exact ⟨rfl, fin.out⟩
theorem law_RowBack (v0 v1 : Value) (w : World) (h0 : IsU8 v0) (h1 : IsU8 v1) :
    Calls Try.prog 13 #[v0, v1] w fun e w' => e = .returned (.bool true) ∧ Below w.heap.size w w' := by
  obtain ⟨n, rfl, hn⟩ := h0
  obtain ⟨m, rfl, hm⟩ := h1
  exact law_of (walk_RowBack n m hn hm w)
end Go.Proofs.Ytilpgojkbgbinaa
