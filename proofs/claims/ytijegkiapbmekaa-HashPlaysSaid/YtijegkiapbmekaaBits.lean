/- The functions of package bits, its reference and the math functions beneath: what each call returns. -/
import Derived.Test.YtijegkiapbmekaaRows
import Derived.Test.YtijegkiapbmekaaPlain
import Derived.WalkKit
import Derived.WalkSpells
import Derived.WalkLawsBesides
import Derived.Lib.Hide
set_option maxRecDepth 100000
set_option linter.unusedVariables false
set_option linter.unusedSimpArgs false
namespace Go.Proofs.Ytijegkiapbmekaa
open Go.RowKit

theorem run_frombits (n : Int) (w : World) : (callFunc 10 #[.int .u64 n]).run Try.prog w = .ok (.value (.float .f64 n.toNat)) w := by
  rw [run_callFunc_extern Try.func10 (by kernel_rfl) (by kernel_rfl) (by kernel_rfl) (e := Extern.MathFloatBits.float64frombits) (by kernel_rfl)]
  rfl
theorem run_tobits (b : Nat) (w : World) : (callFunc 56 #[.float .f64 b]).run Try.prog w = .ok (.value (.int .u64 b)) w := by
  rw [run_callFunc_extern Try.func56 (by kernel_rfl) (by kernel_rfl) (by kernel_rfl) (e := Extern.MathFloatBits.float64bits) (by kernel_rfl)]
  rfl
attribute [local go_sem] run_frombits run_tobits

theorem ret_u64 {a b : Int} (h : a = b) : Ending.returned (.int .u64 a) = .returned (.int .u64 b) := by rw [h]
theorem ret_i64 {a b : Int} (h : a = b) : Ending.returned (.int .i64 a) = .returned (.int .i64 b) := by rw [h]
theorem ret_f64 {a b : Nat} (h : a = b) : Ending.returned (.float .f64 a) = .returned (.float .f64 b) := by rw [h]

set_option maxHeartbeats 400000 in
theorem order_any (b : Nat) (hb : b < 18446744073709551616) (w : World) :
    Calls Try.prog 44 #[.float .f64 b] w fun e w' => e = .returned (.int .u64 (ordN b)) ∧ w = w' := by
  have H1 := Lib.hid (and63 hb)
  go_enter Try.func44, Try.ntmps44
  go_wp2
  · have h : (bits BinOp.and IntKind.u64 (b : Int) 9223372036854775808 != 0) = true := by assumption
    go_ret
    refine ⟨ret_u64 ?_, rfl⟩
    rw [H1.out] at h
    have h1 : 9223372036854775808 ≤ b := by
      rcases Nat.lt_or_ge b 9223372036854775808 with h1 | h1
      · rw [if_neg (by omega)] at h; cases h
      · exact h1
    exact (not64 hb).trans (by unfold ordN; rw [if_pos h1])
  · have h : (bits BinOp.and IntKind.u64 (b : Int) 9223372036854775808 != 0) = false := by assumption
    go_ret
    refine ⟨ret_u64 ?_, rfl⟩
    rw [H1.out] at h
    have h1 : b < 9223372036854775808 := by
      rcases Nat.lt_or_ge b 9223372036854775808 with h1 | h1
      · exact h1
      · rw [if_pos h1] at h; cases h
    exact (or63 h1).trans (by unfold ordN; rw [if_neg (by omega)])
set_option maxHeartbeats 400000 in
theorem order_ref (b : Nat) (hb : b < 18446744073709551616) (w : World) :
    Calls Try.prog 74 #[.float .f64 b] w fun e w' => e = .returned (.int .u64 (ordN b)) ∧ w = w' := by
  go_enter Try.func74, Try.ntmps74
  go_wp2
  · have h : ((b : Int) / 9223372036854775808 == 0) = true := by assumption
    go_ret
    refine ⟨ret_u64 ?_, rfl⟩
    have h1 : b < 9223372036854775808 := by have := of_decide_eq_true h; omega
    exact (or63 h1).trans (by unfold ordN; rw [if_neg (by omega)])
  · have h : ((b : Int) / 9223372036854775808 == 0) = false := by assumption
    go_ret
    refine ⟨ret_u64 ?_, rfl⟩
    have h1 : 9223372036854775808 ≤ b := by have := of_decide_eq_false h; omega
    exact (not64 hb).trans (by unfold ordN; rw [if_pos h1])
set_option maxHeartbeats 400000 in
theorem cmpu_any (n m : Nat) (w : World) :
    Calls Try.prog 82 #[.int .u64 n, .int .u64 m] w fun e w' => e = .returned (.int .i64 (cmpN n m)) ∧ w = w' := by
  go_enter Try.func82, Try.ntmps82
  go_wp2
  all_goals (go_ret; refine ⟨ret_i64 ?_, rfl⟩; unfold cmpN; simp [*])
set_option maxHeartbeats 400000 in
theorem compare_any (a b : Nat) (ha : a < 18446744073709551616) (hb : b < 18446744073709551616) (w : World) :
    Calls Try.prog 72 #[.float .f64 a, .float .f64 b] w fun e w' => e = .returned (.int .i64 (cmpN (ordN a) (ordN b))) ∧ w = w' := by
  go_enter Try.func72, Try.ntmps72
  go_wp2_with fail
  refine (order_any _ ha _).mono ?_; rintro e w' ⟨rfl, rfl⟩
  go_wp2_with fail
  refine (order_any _ hb _).mono ?_; rintro e w' ⟨rfl, rfl⟩
  go_wp2_with fail
  refine (cmpu_any _ _ _).mono ?_; rintro e w' ⟨rfl, rfl⟩
  go_wp2
  go_ret
  exact ⟨rfl, rfl⟩
set_option maxHeartbeats 400000 in
theorem compare_ref (a b : Nat) (ha : a < 18446744073709551616) (hb : b < 18446744073709551616) (w : World) :
    Calls Try.prog 55 #[.float .f64 a, .float .f64 b] w fun e w' => e = .returned (.int .i64 (cmpN (ordN a) (ordN b))) ∧ w = w' := by
  go_enter Try.func55, Try.ntmps55
  go_wp2_with fail
  refine (order_ref _ ha _).mono ?_; rintro e w' ⟨rfl, rfl⟩
  go_wp2_with fail
  refine (order_ref _ hb _).mono ?_; rintro e w' ⟨rfl, rfl⟩
  go_wp2
  all_goals (go_ret; refine ⟨ret_i64 ?_, rfl⟩; unfold cmpN; simp [*])
theorem same_eq {a b : Nat} (ha : a < 18446744073709551616) (hb : b < 18446744073709551616) : ((ordN a : Int) == ordN b) = decide (a = b) := by
  rw [Bool.eq_iff_iff, beq_iff_eq, decide_eq_true_iff, ← ordN_inj ha hb]
  omega
theorem bne_ne {b : Nat} (h : ((b : Int) % 4503599627370496 != 0) = true) : ¬ b % 4503599627370496 = 0 := by
  rw [bne_iff_ne] at h; omega
theorem bne_eq {b : Nat} (h : ((b : Int) % 4503599627370496 != 0) = false) : b % 4503599627370496 = 0 := by
  rw [bne_eq_false_iff_eq] at h; omega
theorem beq_e {b : Nat} (h : ((b : Int) % 4503599627370496 == 0) = true) : b % 4503599627370496 = 0 := by
  rw [beq_iff_eq] at h; omega
theorem beq_n {b : Nat} (h : ((b : Int) % 4503599627370496 == 0) = false) : ¬ b % 4503599627370496 = 0 := by
  rw [beq_eq_false_iff_ne] at h; omega
theorem wrap_ne {b : Nat} (h : (IntKind.u64.wrap ((b : Int) % 9223372036854775808 * 4096) != 0) = true) : ¬ b % 4503599627370496 = 0 := by
  rw [bne_iff_ne, IntKind.wrap_u64] at h; omega
theorem wrap_eq {b : Nat} (h : (IntKind.u64.wrap ((b : Int) % 9223372036854775808 * 4096) != 0) = false) : b % 4503599627370496 = 0 := by
  rw [bne_eq_false_iff_eq, IntKind.wrap_u64] at h; omega
theorem low_eq {b : Nat} (h : ((b : Int) % 9223372036854775808 == 0) = true) : b % 9223372036854775808 = 0 := by
  rw [beq_iff_eq] at h; omega
theorem low_ne {b : Nat} (h : ((b : Int) % 9223372036854775808 == 0) = false) : ¬ b % 9223372036854775808 = 0 := by
  rw [beq_eq_false_iff_ne] at h; omega
theorem high_eq {b : Nat} (h : ((b : Int) % 9223372036854775808 / 4503599627370496 == 0) = true) : b % 9223372036854775808 / 4503599627370496 = 0 := by
  rw [beq_iff_eq] at h; omega
theorem high_ne {b : Nat} (h : ((b : Int) % 9223372036854775808 / 4503599627370496 == 0) = false) : ¬ b % 9223372036854775808 / 4503599627370496 = 0 := by
  rw [beq_eq_false_iff_ne] at h; omega
theorem ret2 {a b : Nat} {p q : Bool} (h : a = b) (h' : p = q) : Ending.returned (.tuple #[.float .f64 a, .bool p]) = .returned (.tuple #[.float .f64 b, .bool q]) := by rw [h, h']
end Go.Proofs.Ytijegkiapbmekaa
