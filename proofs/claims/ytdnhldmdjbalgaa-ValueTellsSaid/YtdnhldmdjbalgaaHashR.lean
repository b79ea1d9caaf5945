/- The reference's hash, rows and zero. -/
import Derived.Test.YtdnhldmdjbalgaaHash
set_option linter.unusedVariables false
set_option linter.unusedSimpArgs false
namespace Go.Proofs.Ytdnhldmdjbalgaa
open Go.RowKit
attribute [local go_sem] run_frombits run_tobits more_more more_drew more_drewN more_size more_cell more_frozen run_store_float lt_c1 le_c1 lt_s1 le_s1 lt_c2 le_c2 lt_s2 le_s2 lt_c3 le_c3 lt_s3 le_s3 lt_c4 le_c4 lt_s4 le_s4 lt_c5 le_c5 lt_s5 le_s5 lt_c6 le_c6 lt_s6 le_s6 lt_c7 le_c7 lt_s7 le_s7 lt_c8 le_c8 lt_s8 le_s8 lt_c9 le_c9 lt_s9 le_s9 lt_c10 le_c10 lt_s10 le_s10 lt_c11 le_c11 lt_s11 le_s11 lt_c12 le_c12 lt_s12 le_s12 le_c0 run_cmpstring

set_option maxHeartbeats 600000 in
theorem eight_ref (h n : Nat) (w : World) (hh : h < 18446744073709551616) (hn : n < 18446744073709551616) :
    Calls Try.prog 60 #[.int .u64 h, .int .u64 n] w fun e w' => e = .returned (.int .u64 (h8N 8 h n)) ∧ w = w' := by
  go_enter Try.func60, Try.ntmps60
  go_wp2
  go_loop [0, 1, 5] (fun h' n' i => ∃ k m g : Nat, k ≤ 8 ∧ i = .int .i64 k ∧ n' = .int .u64 m ∧ m < 18446744073709551616 ∧ h' = .int .u64 g ∧ g < 18446744073709551616 ∧ Hid (h8N (8 - k) g m = h8N 8 h n)) (fun _ _ i => 8 - (intOf i).toNat)
  case atStart => exact ⟨0, n, h, by omega, rfl, rfl, hn, rfl, hh, Lib.hid rfl⟩
  case round =>
    obtain ⟨k, m, g, hk, rfl, rfl, hm, rfl, hg, hr⟩ := hrel
    by_cases hlt : k < 8
    · have hlt' : (k : Int) < 8 := by omega
      have HR := Lib.hid (show h8N (8 - (k + 1)) (hbN g (m % 256)) (m / 256) = h8N 8 h n by
        rw [← hr.out, show 8 - k = (8 - (k + 1)) + 1 by omega]; rfl)
      have HM := Lib.hid (show bits .and .u64 (m : Int) 255 = ((m % 256 : Nat) : Int) from (u64_and_nat m 255 hm (by omega)).trans (by rw [nat_mask8]))
      have HS := Lib.hid (step_eq hg (show m % 256 < 256 by omega))
      go_wp2
      go_round
      case rel => exact ⟨k + 1, m / 256, hbN g (m % 256), by omega, by go_num, by go_num, by omega, by rw [HM.out, HS.out], hbN_lt _ _, HR⟩
      case measure => simp [intOf]; omega
    · obtain rfl : k = 8 := by omega
      go_wp2
      go_ret
      exact ⟨ret_u64 (by rw [← hr.out]; rfl), rfl⟩

set_option maxHeartbeats 2000000 in
theorem hash_ref (A : Option Addr) (ca : Nat) (l : List Val) (hl : allOk l) (w : World) (la : l.length ≤ 9223372036854775807) (ha : ValsIn w A l) :
    Calls Try.prog 47 #[.slice A l.length ca] w fun e w' => e = .returned (.int .u64 (hashV l)) ∧ w = w' := by
  have HA := Lib.hid ha; clear ha
  have HL := Lib.hid hl; clear hl
  go_enter Try.func47, Try.ntmps47
  go_wp2
  go_loop [3, 4] (fun h' i => ∃ k h : Nat, k ≤ l.length ∧ i = .int .i64 k ∧ h' = .int .u64 h ∧ h < 18446744073709551616 ∧ Hid ((l.drop k).foldl hash1 h = hashV l)) (fun _ i => l.length - (intOf i).toNat)
  case atStart => exact ⟨0, 14695981039346656037, by omega, rfl, rfl, by decide, Lib.hid rfl⟩
  case round =>
    obtain ⟨k, h, hk, rfl, rfl, hh, hr⟩ := hrel
    by_cases hlt : k < l.length
    · have hlt' : (k : Int) < (l.length : Int) := by omega
      obtain ⟨b, off, rfl, hb, hcb⟩ := HA.out k hlt
      obtain ⟨c0, c1, c2, c3⟩ := hcb k hlt
      clear hcb
      have ok := HL.out _ (List.getElem_mem hlt)
      have HS := Lib.hid (show (l.drop (k + 1)).foldl hash1 (hash1 h l[k]) = hashV l by
        rw [← hr.out, List.drop_eq_getElem_cons hlt, List.foldl_cons])
      clear hr
      generalize l[k] = a at *
      have e1 : bits .and .u64 (IntKind.u64.wrap a.k) 255 = (((a.k % 256).toNat : Nat) : Int) := by
        rw [IntKind.wrap_u64]
        have := u64_and_nat (a.k % 18446744073709551616).toNat 255 (by omega) (by omega)
        rw [nat_mask8] at this
        rw [show a.k % 18446744073709551616 = (((a.k % 18446744073709551616).toNat : Nat) : Int) by omega]
        refine this.trans ?_
        omega
      have E1 := Lib.hid e1; clear e1
      have S1 := Lib.hid (step_eq hh (show (a.k % 256).toNat < 256 by omega))
      have hh1 := hbN_lt h (a.k % 256).toNat
      have hsz : a.s.size ≤ 9223372036854775807 := ok.2.2.2
      go_wp2_with fail
      rw [E1.out, S1.out, show IntKind.u64.wrap a.i = (((a.i % 18446744073709551616).toNat : Nat) : Int) from by rw [IntKind.wrap_u64]; omega]
      refine (eight_ref _ _ _ hh1 (by omega)).mono ?_
      rintro e w1 ⟨rfl, rfl⟩
      have hh2 := h8N_lt 8 _ (a.i % 18446744073709551616).toNat hh1
      clear hh1
      generalize hH2 : h8N 8 (hbN h (a.k % 256).toNat) (a.i % 18446744073709551616).toNat = h2 at *
      have H2 := Lib.hid hH2; clear hH2
      go_wp2_with fail
      refine (eight_ref _ _ _ hh2 (by omega)).mono ?_
      rintro e w1 ⟨rfl, rfl⟩
      have hh3 := h8N_lt 8 _ a.s.size hh2
      clear hh2
      generalize hH3 : h8N 8 h2 a.s.size = h3 at *
      have H3 := Lib.hid hH3; clear hH3
      go_wp2_with fail
      go_loop [3, 5] (fun g i => ∃ j h' : Nat, j ≤ a.s.size ∧ i = .int .i64 j ∧ g = .int .u64 h' ∧ h' < 18446744073709551616 ∧ Hid (hbytes h' (a.s.toList.drop j) = hbytes h3 a.s.toList)) (fun _ i => a.s.size - (intOf i).toNat)
      case atStart => exact ⟨0, h3, by omega, rfl, rfl, hh3, Lib.hid rfl⟩
      case round =>
        obtain ⟨j, h', hj, rfl, rfl, hh', hr'⟩ := hrel
        by_cases hjl : j < a.s.size
        · have hjl' : (j : Int) < (a.s.size : Int) := by omega
          have HR := Lib.hid (show hbytes (hbN h' a.s[j].toNat) (a.s.toList.drop (j + 1)) = hbytes h3 a.s.toList by
            rw [← hr'.out, bytes_step a.s j hjl]; rfl)
          have hc8 : a.s[j].toNat < 256 := UInt8.toNat_lt _
          have S2 := Lib.hid (step_eq hh' hc8)
          go_wp2
          go_round
          case rel => exact ⟨j + 1, _, by omega, by go_num, by rw [S2.out], hbN_lt _ _, HR⟩
          case measure => simp [intOf]; omega
        · obtain rfl : j = a.s.size := by omega
          have hjl' : ¬ (a.s.size : Int) < (a.s.size : Int) := by omega
          have H4 := Lib.hid (show h' = hbytes h3 a.s.toList by rw [← hr'.out, bytes_end]; rfl)
          have okf := ok.1
          have hl := ordN_lt ok.1
          go_wp2_with (first | (go_at_call 21; refine (order_ref _ okf _).mono ?_; rintro e w' ⟨rfl, rfl⟩))
          refine (eight_ref _ _ _ hh' hl).mono ?_
          rintro e w5 ⟨rfl, rfl⟩
          have hh5 := h8N_lt 8 _ (ordN a.f) hh'
          have H5 := Lib.hid (show h8N 8 h' (ordN a.f) = hash1 h a by
            rw [H4.out, ← H3.out, ← H2.out]; rfl)
          go_wp2
          go_round
          case rel => exact ⟨k + 1, _, by omega, by go_num, rfl, hh5, by rw [H5.out]; exact HS⟩
          case measure => simp [intOf]; omega
    · obtain rfl : k = l.length := by omega
      have hlt' : ¬ (l.length : Int) < (l.length : Int) := by omega
      have HE := Lib.hid (show h = hashV l by rw [← hr.out, List.drop_length]; rfl)
      go_wp2
      go_ret
      exact ⟨ret_u64 (by rw [HE.out]), rfl⟩
set_option maxHeartbeats 2000000 in
theorem rows_ref (A B : Option Addr) (ca cb : Nat) (l m : List Val) (hl : allOk l) (hm : allOk m) (w : World) (la : l.length ≤ 9223372036854775807) (lb : m.length ≤ 9223372036854775807) (ha : ValsIn w A l) (hb : ValsIn w B m) :
    Gives Try.prog 46 #[.slice A l.length ca, .slice B m.length cb] w (.int .i64 (rowsV l m)) := by
  have HA := Lib.hid ha; clear ha
  have HB := Lib.hid hb; clear hb
  have HL := Lib.hid hl; clear hl
  have HM := Lib.hid hm; clear hm
  go_enter Try.func46, Try.ntmps46
  go_wp2
  go_loopw [5] (fun i wr => ∃ (k : Nat) (x : Ext), k ≤ l.length ∧ k ≤ m.length ∧ i = .int .i64 k ∧ Hid (rowsV (l.drop k) (m.drop k) = rowsV l m) ∧ more w x = wr) (fun i _ => l.length - (intOf i).toNat)
  case atStart => exact ⟨0, _, by omega, by omega, rfl, Lib.hid rfl, more_self w⟩
  case round =>
    obtain ⟨k, x, hk1, hk2, rfl, hr, rfl⟩ := hrel
    by_cases hlt : k < l.length ∧ k < m.length
    · obtain ⟨h1, h2⟩ := hlt
      have h1' : (k : Int) < (l.length : Int) := by omega
      have h2' : (k : Int) < (m.length : Int) := by omega
      obtain ⟨b, off, rfl, hb, hcb⟩ := HA.out k h1
      obtain ⟨b', off', rfl, hb', hcb'⟩ := HB.out k h2
      obtain ⟨c0, c1, c2, c3⟩ := hcb k h1
      obtain ⟨d0, d1, d2, d3⟩ := hcb' k h2
      clear hcb hcb'
      have C0 := fun y => (more_cell w y _ hb).trans c0
      have C1 := fun y => (more_cell w y _ hb).trans c1
      have C2 := fun y => (more_cell w y _ hb).trans c2
      have C3 := fun y => (more_cell w y _ hb).trans c3
      have D0 := fun y => (more_cell w y _ hb').trans d0
      have D1 := fun y => (more_cell w y _ hb').trans d1
      have D2 := fun y => (more_cell w y _ hb').trans d2
      have D3 := fun y => (more_cell w y _ hb').trans d3
      clear c0 c1 c2 c3 d0 d1 d2 d3
      go_wp2_with fail
      refine wp_region_more2 (by kernel_rfl) (by kernel_rfl) ?_
      have okA : l[k].ok := HL.out _ (List.getElem_mem h1)
      have okB : m[k].ok := HM.out _ (List.getElem_mem h2)
      have HS := Lib.hid (show orI (cmpV l[k] m[k]) (rowsV (l.drop (k + 1)) (m.drop (k + 1))) = rowsV l m by
        rw [← hr.out, List.drop_eq_getElem_cons h1, List.drop_eq_getElem_cons h2]; rfl)
      generalize l[k] = p at *
      generalize m[k] = q at *
      repeat (go_big_quiet_step ((go_at_call 44; exact (cmp_ref p q okA okB _).at_)))
      refine wpQuiet_nil ?_
      rintro _ ⟨y, rfl⟩
      by_cases hz : cmpV p q = 0
      · have hz' : (cmpV p q != 0) = false := by simpa using hz
        have HZ := Lib.hid hz; clear hz
        go_wp2
        go_roundw
        case rel => exact ⟨k + 1, _, by omega, by omega, by go_num, by have := HS.out; rw [HZ.out] at this; exact Lib.hid this, rfl⟩
        case measure => simp [intOf]; omega
      · have hz' : (cmpV p q != 0) = true := by simpa using hz
        have HZ := Lib.hid hz; clear hz
        go_wp2
        go_ret
        exact ⟨ret_i64 (by have := HS.out; unfold orI at this; rw [if_neg HZ.out] at this; exact this), _, rfl⟩
    · have HE := Lib.hid (show cmpI l.length m.length = rowsV l m by
        rw [← hr.out]
        have hz : l.drop k = [] ∨ m.drop k = [] := by
          rcases Nat.lt_or_ge k l.length with h | h
          · right; exact List.drop_eq_nil_of_le (by omega)
          · left; exact List.drop_eq_nil_of_le h
        rw [rowsV_nil _ _ hz, List.length_drop, List.length_drop]
        unfold cmpI
        simp only [show ((l.length : Int) < m.length) = (((l.length - k : Nat) : Int) < ((m.length - k : Nat) : Int)) from propext (by omega), show ((m.length : Int) < l.length) = (((m.length - k : Nat) : Int) < ((l.length - k : Nat) : Int)) from propext (by omega)])
      rcases Nat.lt_trichotomy l.length m.length with h | h | h
      · have g1 : ((l.length : Int) == (m.length : Int)) = false := by rw [beq_eq_false_iff_ne]; omega
        have g2 : ¬ (k : Int) < (l.length : Int) := by omega
        have g3 : (l.length : Int) < (m.length : Int) := by omega
        go_wp2_with (first | (go_at_call 59; refine (sign_ref _ _).mono ?_; rintro e w' ⟨rfl, rfl⟩))
        go_ret
        exact ⟨ret_i64 (by rw [← HE.out]; unfold cmpI sgnB; simp [g3]), _, rfl⟩
      · have g1 : ((l.length : Int) == (m.length : Int)) = true := by rw [beq_iff_eq]; omega
        have g2 : ¬ (k : Int) < (l.length : Int) := by omega
        have HZ := Lib.hid (show rowsV l m = 0 by rw [← HE.out]; unfold cmpI; rw [if_neg (by omega), if_neg (by omega)])
        clear h
        go_wp2
        go_ret
        exact ⟨ret_i64 HZ.out.symm, _, rfl⟩
      · have g1 : ((l.length : Int) == (m.length : Int)) = false := by rw [beq_eq_false_iff_ne]; omega
        obtain rfl : k = m.length := by omega
        have g3 : ¬ (l.length : Int) < (m.length : Int) := by omega
        have g4 : (m.length : Int) < (l.length : Int) := by omega
        go_wp2_with (first | (go_at_call 59; refine (sign_ref _ _).mono ?_; rintro e w' ⟨rfl, rfl⟩))
        all_goals first | (go_ret; exact ⟨ret_i64 (by rw [← HE.out]; unfold cmpI sgnB; simp [show ¬ (l.length : Int) < (m.length : Int) by omega, g4]), _, rfl⟩) | omega
set_option maxHeartbeats 800000 in
theorem zero_r (k : Int) (w : World) : Gives Try.prog 42 #[.int .i64 k] w (.tuple #[(zeroV k).v, .int .i64 (zeroE k)]) := by
  by_cases h : 1 ≤ k ∧ k ≤ 5
  · have HZ := Lib.hid (show zeroV k = ⟨k, 0, ⟨#[]⟩, 0⟩ by unfold zeroV; rw [if_pos h])
    have HE := Lib.hid (show zeroE k = 0 by unfold zeroE; rw [if_pos h])
    obtain ⟨h1, h2⟩ := h
    go_enter Try.func42, Try.ntmps42
    go_wp2
    rw [HZ.out, HE.out]
    exact bodyPost_ret (by simp [results, Try.results42, go_sem]; rfl) rfl ⟨rfl, (more_of_below (by repeat (first | (with_reducible exact Below.refl _ _) | (with_reducible refine Below.drew ?_) | (with_reducible refine Below.alloc ?_ (by simp [more_size]; try omega) _) | (with_reducible refine Below.setCell ?_ (by simp [more_size]; try omega) _) | (with_reducible refine below_more ?_ _ (by simp [more_size]; try omega)))))⟩
  · have HZ := Lib.hid (show zeroV k = ⟨0, 0, ⟨#[]⟩, 0⟩ by unfold zeroV; rw [if_neg h])
    have HE := Lib.hid (show zeroE k = 10 by unfold zeroE; rw [if_neg h])
    rcases (show k < 1 ∨ (¬ k < 1 ∧ 5 < k) by omega) with h1 | ⟨h1, h2⟩
    all_goals
      clear h
      go_enter Try.func42, Try.ntmps42
      go_wp2
      rw [HZ.out, HE.out]
      exact bodyPost_ret (by simp [results, Try.results42, go_sem]; rfl) rfl ⟨rfl, (more_of_below (by repeat (first | (with_reducible exact Below.refl _ _) | (with_reducible refine Below.drew ?_) | (with_reducible refine Below.alloc ?_ (by simp [more_size]; try omega) _) | (with_reducible refine Below.setCell ?_ (by simp [more_size]; try omega) _) | (with_reducible refine below_more ?_ _ (by simp [more_size]; try omega)))))⟩
end Go.Proofs.Ytdnhldmdjbalgaa
