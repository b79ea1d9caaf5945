/- The reference's hash, rows and zero. -/
import Derived.Test.YtijegkiapbmekaaHash
set_option maxRecDepth 100000
set_option linter.unusedVariables false
set_option linter.unusedSimpArgs false
namespace Go.Proofs.Ytijegkiapbmekaa
open Go.RowKit
attribute [local go_sem] run_frombits run_tobits more_more more_drew more_drewN more_size more_cell more_frozen run_store_float lt_c1 le_c1 lt_s1 le_s1 lt_c2 le_c2 lt_s2 le_s2 lt_c3 le_c3 lt_s3 le_s3 lt_c4 le_c4 lt_s4 le_s4 lt_c5 le_c5 lt_s5 le_s5 lt_c6 le_c6 lt_s6 le_s6 lt_c7 le_c7 lt_s7 le_s7 lt_c8 le_c8 lt_s8 le_s8 lt_c9 le_c9 lt_s9 le_s9 lt_c10 le_c10 lt_s10 le_s10 lt_c11 le_c11 lt_s11 le_s11 lt_c12 le_c12 lt_s12 le_s12 le_c0 run_cmpstring

set_option maxHeartbeats 2000000 in
theorem rows_ref (A B : Option Addr) (ca cb : Nat) (l m : List Val) (hl : allOk l) (hm : allOk m) (w : World) (la : l.length ≤ 9223372036854775807) (lb : m.length ≤ 9223372036854775807) (ha : ValsIn w A l) (hb : ValsIn w B m) :
    Gives Try.prog 22 #[.slice A l.length ca, .slice B m.length cb] w (.int .i64 (rowsV l m)) := by
  have HA := Lib.hid ha; clear ha
  have HB := Lib.hid hb; clear hb
  have HL := Lib.hid hl; clear hl
  have HM := Lib.hid hm; clear hm
  go_enter Try.func22, Try.ntmps22
  go_wp2
  go_loopw [5] (fun i wr => ∃ (k : Nat) (x : Ext), k ≤ l.length ∧ k ≤ m.length ∧ i = .int .i64 k ∧ Hid (rowsV (l.drop k) (m.drop k) = rowsV l m) ∧ more w x = wr) (fun i _ => l.length - (intOf i).toNat)
  case atStart => exact ⟨0, _, by omega, by omega, rfl, Lib.hid rfl, more_self w⟩
  case round =>
    obtain ⟨k, x, hk1, hk2, rfl, hr, rfl⟩ := hrel
    by_cases hlt : k < l.length ∧ k < m.length
    · obtain ⟨h1, h2⟩ := hlt
      have h1' : (k : Int) < (l.length : Int) := by omega
      have h2' : (k : Int) < (m.length : Int) := by omega
      obtain ⟨b, off, rfl, hb, hcb⟩ := HA.out k h1
      obtain ⟨b', off', rfl, hb', hcb'⟩ := HB.out k h2
      obtain ⟨c0, c1, c2, c3⟩ := hcb k h1
      obtain ⟨d0, d1, d2, d3⟩ := hcb' k h2
      clear hcb hcb'
      have C0 := fun y => (more_cell w y _ hb).trans c0
      have C1 := fun y => (more_cell w y _ hb).trans c1
      have C2 := fun y => (more_cell w y _ hb).trans c2
      have C3 := fun y => (more_cell w y _ hb).trans c3
      have D0 := fun y => (more_cell w y _ hb').trans d0
      have D1 := fun y => (more_cell w y _ hb').trans d1
      have D2 := fun y => (more_cell w y _ hb').trans d2
      have D3 := fun y => (more_cell w y _ hb').trans d3
      clear c0 c1 c2 c3 d0 d1 d2 d3
      go_wp2_with fail
      refine wp_region_more2 (by kernel_rfl) (by kernel_rfl) ?_
      have okA : l[k].ok := HL.out _ (List.getElem_mem h1)
      have okB : m[k].ok := HM.out _ (List.getElem_mem h2)
      have HS := Lib.hid (show orI (cmpV l[k] m[k]) (rowsV (l.drop (k + 1)) (m.drop (k + 1))) = rowsV l m by
        rw [← hr.out, List.drop_eq_getElem_cons h1, List.drop_eq_getElem_cons h2]; rfl)
      generalize l[k] = p at *
      generalize m[k] = q at *
      repeat (go_big_quiet_step ((go_at_call 38; exact (cmp_ref p q okA okB _).at_)))
      refine wpQuiet_nil ?_
      rintro _ ⟨y, rfl⟩
      by_cases hz : cmpV p q = 0
      · have hz' : (cmpV p q != 0) = false := by simpa using hz
        have HZ := Lib.hid hz; clear hz
        go_wp2
        go_roundw
        case rel => exact ⟨k + 1, _, by omega, by omega, by go_num, by have := HS.out; rw [HZ.out] at this; exact Lib.hid this, rfl⟩
        case measure => simp [intOf]; omega
      · have hz' : (cmpV p q != 0) = true := by simpa using hz
        have HZ := Lib.hid hz; clear hz
        go_wp2
        go_ret
        exact ⟨ret_i64 (by have := HS.out; unfold orI at this; rw [if_neg HZ.out] at this; exact this), _, rfl⟩
    · have HE := Lib.hid (show cmpI l.length m.length = rowsV l m by
        rw [← hr.out]
        have hz : l.drop k = [] ∨ m.drop k = [] := by
          rcases Nat.lt_or_ge k l.length with h | h
          · right; exact List.drop_eq_nil_of_le (by omega)
          · left; exact List.drop_eq_nil_of_le h
        rw [rowsV_nil _ _ hz, List.length_drop, List.length_drop]
        unfold cmpI
        simp only [show ((l.length : Int) < m.length) = (((l.length - k : Nat) : Int) < ((m.length - k : Nat) : Int)) from propext (by omega), show ((m.length : Int) < l.length) = (((m.length - k : Nat) : Int) < ((l.length - k : Nat) : Int)) from propext (by omega)])
      rcases Nat.lt_trichotomy l.length m.length with h | h | h
      · have g1 : ((l.length : Int) == (m.length : Int)) = false := by rw [beq_eq_false_iff_ne]; omega
        have g2 : ¬ (k : Int) < (l.length : Int) := by omega
        have g3 : (l.length : Int) < (m.length : Int) := by omega
        go_wp2_with (first | (go_at_call 39; refine (sign_ref _ _).mono ?_; rintro e w' ⟨rfl, rfl⟩))
        go_ret
        exact ⟨ret_i64 (by rw [← HE.out]; unfold cmpI sgnB; simp [g3]), _, rfl⟩
      · have g1 : ((l.length : Int) == (m.length : Int)) = true := by rw [beq_iff_eq]; omega
        have g2 : ¬ (k : Int) < (l.length : Int) := by omega
        have HZ := Lib.hid (show rowsV l m = 0 by rw [← HE.out]; unfold cmpI; rw [if_neg (by omega), if_neg (by omega)])
        clear h
        go_wp2
        go_ret
        exact ⟨ret_i64 HZ.out.symm, _, rfl⟩
      · have g1 : ((l.length : Int) == (m.length : Int)) = false := by rw [beq_eq_false_iff_ne]; omega
        obtain rfl : k = m.length := by omega
        have g3 : ¬ (l.length : Int) < (m.length : Int) := by omega
        have g4 : (m.length : Int) < (l.length : Int) := by omega
        go_wp2_with (first | (go_at_call 39; refine (sign_ref _ _).mono ?_; rintro e w' ⟨rfl, rfl⟩))
        all_goals first | (go_ret; exact ⟨ret_i64 (by rw [← HE.out]; unfold cmpI sgnB; simp [show ¬ (l.length : Int) < (m.length : Int) by omega, g4]), _, rfl⟩) | omega
end Go.Proofs.Ytijegkiapbmekaa
