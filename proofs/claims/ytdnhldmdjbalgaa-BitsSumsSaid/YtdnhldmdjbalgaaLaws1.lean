/- The laws of layer 1: each call returns true and leaves the world as it was. -/
import Derived.Test.YtdnhldmdjbalgaaBits
import Derived.Deep.RegionWith
set_option linter.unusedVariables false
set_option linter.unusedSimpArgs false
namespace Go.Proofs.Ytdnhldmdjbalgaa
open Go.RowKit
attribute [local go_sem] run_frombits run_tobits

set_option maxHeartbeats 800000 in
theorem walk_BitsTells (a b : Nat) (ha : a < 18446744073709551616) (hb : b < 18446744073709551616) (w : World) :
    Calls Try.prog 3 #[.int .u64 a, .int .u64 b] w fun e w' => e = .returned (.bool true) ∧ w = w' := by
  have HN := Lib.hid (nextN_lt ha)
  have HO := Lib.hid (ofN_lt ha)
  have hab : ((a : Int) == (b : Int)) = decide (a = b) := by rw [Bool.eq_iff_iff, beq_iff_eq, decide_eq_true_iff]; omega
  go_enter Try.func3, Try.ntmps3
  go_wp2_with (first
    | (go_at_call 16; refine (known1 _).mono ?_; rintro e w' ⟨rfl, rfl⟩)
    | (go_at_call 18; refine (next_any _ ha _).mono ?_; rintro e w' ⟨rfl, rfl⟩)
    | (go_at_call 19; refine (next_ref _ ha _).mono ?_; rintro e w' ⟨rfl, rfl⟩)
    | (go_at_call 20; refine (order_any _ ha _).mono ?_; rintro e w' ⟨rfl, rfl⟩)
    | (go_at_call 21; refine (order_ref _ ha _).mono ?_; rintro e w' ⟨rfl, rfl⟩)
    | (go_at_call 23; refine (of_any _ ha _).mono ?_; rintro e w' ⟨rfl, rfl⟩)
    | (go_at_call 24; refine (of_ref _ ha _).mono ?_; rintro e w' ⟨rfl, rfl⟩)
    | (go_at_call 25; refine (compare_any _ _ ha hb _).mono ?_; rintro e w' ⟨rfl, rfl⟩)
    | (go_at_call 26; refine (compare_ref _ _ ha hb _).mono ?_; rintro e w' ⟨rfl, rfl⟩)
    | (go_at_call 27; refine (class_any _ ha _).mono ?_; rintro e w' ⟨rfl, rfl⟩)
    | (go_at_call 28; refine (class_ref _ _).mono ?_; rintro e w' ⟨rfl, rfl⟩)
    | (go_at_call_of 22 (ofN a); refine (same_any _ _ HO.out HO.out _).mono ?_; rintro e w' ⟨rfl, rfl⟩)
    | (go_at_call_of 22 (nextN a); refine (same_any _ _ HN.out HN.out _).mono ?_; rintro e w' ⟨rfl, rfl⟩)
    | (go_at_call 22; refine (same_any _ _ ha hb _).mono ?_; rintro e w' ⟨rfl, rfl⟩))
  go_ret; exact ⟨rfl, rfl⟩

theorem next_yes {a : Nat} (h : nextOk a = true) (ha : a < 18446744073709551616) : ordN (nextN a) = ordN a + 1 := by
  unfold nextOk at h
  have h1 : ¬ ordN a = 18446744073709551615 := by simpa using h
  have := ordN_lt ha
  unfold nextN; rw [if_neg h1]
  exact ordN_ofN (by omega)
theorem next_no {a : Nat} (h : nextOk a = false) (ha : a < 18446744073709551616) : nextN a = a ∧ a = 9223372036854775807 := by
  unfold nextOk at h
  have h1 : ordN a = 18446744073709551615 := by simpa using h
  unfold nextN; rw [if_pos h1]
  refine ⟨rfl, ?_⟩
  unfold ordN at h1; split at h1 <;> omega
theorem cmpN_lt {x y : Nat} (h : x < y) : cmpN x y = -1 := by unfold cmpN; rw [if_pos h]
theorem cmpN_le {x y : Nat} (h : x ≤ y) : cmpN x y ≤ 0 := by unfold cmpN; split <;> (try split) <;> omega
theorem cmpN_ge {x y : Nat} (h : y ≤ x) : 0 ≤ cmpN x y := by unfold cmpN; split <;> (try split) <;> omega
theorem cmpN_bd (x y : Nat) : -1 ≤ cmpN x y ∧ cmpN x y ≤ 1 := by unfold cmpN; split <;> (try split) <;> omega

set_option maxHeartbeats 800000 in
theorem walk_BitsNext (a b : Nat) (ha : a < 18446744073709551616) (hb : b < 18446744073709551616) (w : World) :
    Calls Try.prog 4 #[.int .u64 a, .int .u64 b] w fun e w' => e = .returned (.bool true) ∧ w = w' := by
  have hN := nextN_lt ha
  cases hok : nextOk a with
  | false =>
    obtain ⟨h1, h2⟩ := next_no hok ha
    subst h2
    go_enter Try.func4, Try.ntmps4
    go_wp2_with (first
      | (go_at_call 16; refine (known1 _).mono ?_; rintro e w' ⟨rfl, rfl⟩)
      | (go_at_call 18; refine (next_any _ ha _).mono ?_; rintro e w' ⟨rfl, rfl⟩)
      | (go_at_call 22; refine (same_any _ _ ha ha _).mono ?_; rintro e w' ⟨rfl, rfl⟩))
    go_ret; exact ⟨rfl, rfl⟩
  | true =>
    have h1 := next_yes hok ha
    have c1 := cmpN_lt (show ordN a < ordN (nextN a) by omega)
    rcases Nat.lt_or_ge (ordN a) (ordN b) with h | h
    · have c2 := cmpN_ge (show ordN (nextN a) ≤ ordN b by omega)
      clear h1 h
      go_enter Try.func4, Try.ntmps4
      go_wp2_with (first
        | (go_at_call 16; refine (known1 _).mono ?_; rintro e w' ⟨rfl, rfl⟩)
        | (go_at_call 18; refine (next_any _ ha _).mono ?_; rintro e w' ⟨rfl, rfl⟩)
        | (go_at_call 25; refine (compare_any _ _ (by assumption) (by assumption) _).mono ?_; rintro e w' ⟨rfl, rfl⟩))
      all_goals (go_ret; exact ⟨rfl, rfl⟩)
    · have c2 := cmpN_le h
      clear h1 h
      go_enter Try.func4, Try.ntmps4
      go_wp2_with (first
        | (go_at_call 16; refine (known1 _).mono ?_; rintro e w' ⟨rfl, rfl⟩)
        | (go_at_call 18; refine (next_any _ ha _).mono ?_; rintro e w' ⟨rfl, rfl⟩)
        | (go_at_call 25; refine (compare_any _ _ (by assumption) (by assumption) _).mono ?_; rintro e w' ⟨rfl, rfl⟩))
      all_goals (go_ret; exact ⟨rfl, rfl⟩)

def turnN (a : Nat) : Nat := if 9223372036854775808 ≤ a then a - 9223372036854775808 else a + 9223372036854775808
theorem turn_eq {a : Nat} (ha : a < 18446744073709551616) : bits BinOp.xor IntKind.u64 (a : Int) 9223372036854775808 = (turnN a : Int) := by
  unfold turnN
  split
  · exact xor63 ha ‹_›
  · rename_i h
    have e := u64_xor_nat a 9223372036854775808 ha (by omega)
    refine e.trans ?_
    have h2 : a ^^^ 9223372036854775808 = (a + 9223372036854775808) := by
      have h3 := xor63 (b := a + 9223372036854775808) (by omega) (by omega)
      have h4 := u64_xor_nat (a + 9223372036854775808) 9223372036854775808 (by omega) (by omega)
      have h5 : (a + 9223372036854775808) ^^^ 9223372036854775808 = a := by
        have := h4.symm.trans h3
        omega
      conv => lhs; rw [← h5]
      rw [Nat.xor_assoc, Nat.xor_self, Nat.xor_zero]
    rw [h2]
theorem turn_lt {a : Nat} (ha : a < 18446744073709551616) : turnN a < 18446744073709551616 := by unfold turnN; split <;> omega
theorem turn_ord {a : Nat} (ha : a < 18446744073709551616) : ordN (turnN a) = 18446744073709551615 - ordN a := by
  unfold turnN ordN
  by_cases h : 9223372036854775808 ≤ a
  · rw [if_pos h, if_pos h, if_neg (by omega)]; omega
  · rw [if_neg h, if_neg h, if_pos (by omega)]
theorem turn_class {a : Nat} : classN (turnN a) = classN a := by
  unfold turnN
  split
  · unfold classN
    rw [show (a - 9223372036854775808) / 4503599627370496 % 2048 = a / 4503599627370496 % 2048 by omega, show (a - 9223372036854775808) % 4503599627370496 = a % 4503599627370496 by omega]
  · unfold classN
    rw [show (a + 9223372036854775808) / 4503599627370496 % 2048 = a / 4503599627370496 % 2048 by omega, show (a + 9223372036854775808) % 4503599627370496 = a % 4503599627370496 by omega]
theorem cmpN_anti {x y : Nat} (hx : x < 18446744073709551616) (hy : y < 18446744073709551616) : cmpN (18446744073709551615 - x) (18446744073709551615 - y) = -cmpN x y := by
  unfold cmpN
  rcases Nat.lt_trichotomy x y with h | h | h
  · rw [if_neg (by omega), if_pos (by omega), if_pos (by omega)]; rfl
  · subst h; rw [if_neg (by omega), if_neg (by omega), if_neg (by omega), if_neg (by omega)]; rfl
  · rw [if_pos (by omega), if_neg (by omega), if_pos (by omega)]
set_option maxHeartbeats 800000 in
theorem walk_BitsTurns (a b : Nat) (ha : a < 18446744073709551616) (hb : b < 18446744073709551616) (w : World) :
    Calls Try.prog 6 #[.int .u64 a, .int .u64 b] w fun e w' => e = .returned (.bool true) ∧ w = w' := by
  have ta := turn_eq ha
  have tb := turn_eq hb
  have la := turn_lt ha
  have lb := turn_lt hb
  have oa := ordN_lt ha
  have e1 : bits BinOp.xor IntKind.u64 IntKind.u64.max (ordN a) = (ordN (turnN a) : Int) := by rw [turn_ord ha, not64 oa]
  have e3 : -cmpN (ordN a) (ordN b) = cmpN (ordN (turnN a)) (ordN (turnN b)) := by rw [turn_ord ha, turn_ord hb]; exact (cmpN_anti oa (ordN_lt hb)).symm
  have e4 := turn_class (a := a)
  obtain ⟨c1, c2⟩ := cmpN_bd (ordN a) (ordN b)
  have E1 := Lib.hid e1; clear e1
  clear oa
  go_enter Try.func6, Try.ntmps6
  go_wp2_with (first
    | (go_at_call 16; refine (known1 _).mono ?_; rintro e w' ⟨rfl, rfl⟩)
    | (go_at_call 20; refine (order_any _ (by assumption) _).mono ?_; rintro e w' ⟨rfl, rfl⟩)
    | (go_at_call 27; refine (class_any _ (by assumption) _).mono ?_; rintro e w' ⟨rfl, rfl⟩)
    | (go_at_call 25; refine (compare_any _ _ (by assumption) (by assumption) _).mono ?_; rintro e w' ⟨rfl, rfl⟩))
  all_goals first | exact absurd E1.out.symm (by assumption) | (go_ret; exact ⟨rfl, rfl⟩)
end Go.Proofs.Ytdnhldmdjbalgaa
