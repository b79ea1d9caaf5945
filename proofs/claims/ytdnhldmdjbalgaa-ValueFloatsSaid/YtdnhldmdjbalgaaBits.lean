/- The functions of package bits, its reference and the math functions beneath: what each call returns. -/
import Derived.Test.YtdnhldmdjbalgaaRows
import Derived.Test.YtdnhldmdjbalgaaPlain
import Derived.WalkKit
import Derived.WalkSpells
import Derived.WalkLawsBesides
import Derived.Lib.Hide
set_option linter.unusedVariables false
set_option linter.unusedSimpArgs false
namespace Go.Proofs.Ytdnhldmdjbalgaa
open Go.RowKit

theorem run_frombits (n : Int) (w : World) : (callFunc 17 #[.int .u64 n]).run Try.prog w = .ok (.value (.float .f64 n.toNat)) w := by
  rw [run_callFunc_extern Try.func17 (by kernel_rfl) (by kernel_rfl) (by kernel_rfl) (e := Extern.MathFloatBits.float64frombits) (by kernel_rfl)]
  rfl
theorem run_tobits (b : Nat) (w : World) : (callFunc 50 #[.float .f64 b]).run Try.prog w = .ok (.value (.int .u64 b)) w := by
  rw [run_callFunc_extern Try.func50 (by kernel_rfl) (by kernel_rfl) (by kernel_rfl) (e := Extern.MathFloatBits.float64bits) (by kernel_rfl)]
  rfl
attribute [local go_sem] run_frombits run_tobits

theorem ret_u64 {a b : Int} (h : a = b) : Ending.returned (.int .u64 a) = .returned (.int .u64 b) := by rw [h]
theorem ret_i64 {a b : Int} (h : a = b) : Ending.returned (.int .i64 a) = .returned (.int .i64 b) := by rw [h]
theorem ret_f64 {a b : Nat} (h : a = b) : Ending.returned (.float .f64 a) = .returned (.float .f64 b) := by rw [h]

set_option maxHeartbeats 400000 in
theorem order_any (b : Nat) (hb : b < 18446744073709551616) (w : World) :
    Calls Try.prog 20 #[.float .f64 b] w fun e w' => e = .returned (.int .u64 (ordN b)) ∧ w = w' := by
  have H1 := Lib.hid (and63 hb)
  go_enter Try.func20, Try.ntmps20
  go_wp2
  · have h : (bits BinOp.and IntKind.u64 (b : Int) 9223372036854775808 != 0) = true := by assumption
    go_ret
    refine ⟨ret_u64 ?_, rfl⟩
    rw [H1.out] at h
    have h1 : 9223372036854775808 ≤ b := by
      rcases Nat.lt_or_ge b 9223372036854775808 with h1 | h1
      · rw [if_neg (by omega)] at h; cases h
      · exact h1
    exact (not64 hb).trans (by unfold ordN; rw [if_pos h1])
  · have h : (bits BinOp.and IntKind.u64 (b : Int) 9223372036854775808 != 0) = false := by assumption
    go_ret
    refine ⟨ret_u64 ?_, rfl⟩
    rw [H1.out] at h
    have h1 : b < 9223372036854775808 := by
      rcases Nat.lt_or_ge b 9223372036854775808 with h1 | h1
      · exact h1
      · rw [if_pos h1] at h; cases h
    exact (or63 h1).trans (by unfold ordN; rw [if_neg (by omega)])
set_option maxHeartbeats 400000 in
theorem order_ref (b : Nat) (hb : b < 18446744073709551616) (w : World) :
    Calls Try.prog 21 #[.float .f64 b] w fun e w' => e = .returned (.int .u64 (ordN b)) ∧ w = w' := by
  go_enter Try.func21, Try.ntmps21
  go_wp2
  · have h : ((b : Int) / 9223372036854775808 == 0) = true := by assumption
    go_ret
    refine ⟨ret_u64 ?_, rfl⟩
    have h1 : b < 9223372036854775808 := by have := of_decide_eq_true h; omega
    exact (or63 h1).trans (by unfold ordN; rw [if_neg (by omega)])
  · have h : ((b : Int) / 9223372036854775808 == 0) = false := by assumption
    go_ret
    refine ⟨ret_u64 ?_, rfl⟩
    have h1 : 9223372036854775808 ≤ b := by have := of_decide_eq_false h; omega
    exact (not64 hb).trans (by unfold ordN; rw [if_pos h1])
set_option maxHeartbeats 400000 in
theorem of_any (n : Nat) (hn : n < 18446744073709551616) (w : World) :
    Calls Try.prog 23 #[.int .u64 n] w fun e w' => e = .returned (.float .f64 (ofN n)) ∧ w = w' := by
  have H1 := Lib.hid (and63 hn)
  go_enter Try.func23, Try.ntmps23
  go_wp2
  · have h : (bits BinOp.and IntKind.u64 (n : Int) 9223372036854775808 != 0) = true := by assumption
    go_ret
    refine ⟨ret_f64 ?_, rfl⟩
    rw [H1.out] at h
    have h1 : 9223372036854775808 ≤ n := by
      rcases Nat.lt_or_ge n 9223372036854775808 with h1 | h1
      · rw [if_neg (by omega)] at h; cases h
      · exact h1
    exact (congrArg Int.toNat (andNot63 hn h1)).trans (by unfold ofN; rw [if_pos h1]; exact Int.toNat_natCast _)
  · have h : (bits BinOp.and IntKind.u64 (n : Int) 9223372036854775808 != 0) = false := by assumption
    go_ret
    refine ⟨ret_f64 ?_, rfl⟩
    rw [H1.out] at h
    have h1 : n < 9223372036854775808 := by
      rcases Nat.lt_or_ge n 9223372036854775808 with h1 | h1
      · exact h1
      · rw [if_pos h1] at h; cases h
    exact (congrArg Int.toNat (not64 hn)).trans (by unfold ofN; rw [if_neg (by omega)]; exact Int.toNat_natCast _)
set_option maxHeartbeats 400000 in
theorem of_ref (n : Nat) (hn : n < 18446744073709551616) (w : World) :
    Calls Try.prog 24 #[.int .u64 n] w fun e w' => e = .returned (.float .f64 (ofN n)) ∧ w = w' := by
  go_enter Try.func24, Try.ntmps24
  go_wp2
  · have h : ((n : Int) / 9223372036854775808 == 1) = true := by assumption
    go_ret
    refine ⟨ret_f64 ?_, rfl⟩
    have h1 : 9223372036854775808 ≤ n := by have := of_decide_eq_true h; omega
    exact (congrArg Int.toNat (xor63 hn h1)).trans (by unfold ofN; rw [if_pos h1]; exact Int.toNat_natCast _)
  · have h : ((n : Int) / 9223372036854775808 == 1) = false := by assumption
    go_ret
    refine ⟨ret_f64 ?_, rfl⟩
    have h1 : n < 9223372036854775808 := by have := of_decide_eq_false h; omega
    exact (congrArg Int.toNat (not64 hn)).trans (by unfold ofN; rw [if_neg (by omega)]; exact Int.toNat_natCast _)

set_option maxHeartbeats 400000 in
theorem cmpu_any (n m : Nat) (w : World) :
    Calls Try.prog 51 #[.int .u64 n, .int .u64 m] w fun e w' => e = .returned (.int .i64 (cmpN n m)) ∧ w = w' := by
  go_enter Try.func51, Try.ntmps51
  go_wp2
  all_goals (go_ret; refine ⟨ret_i64 ?_, rfl⟩; unfold cmpN; simp [*])
set_option maxHeartbeats 400000 in
theorem compare_any (a b : Nat) (ha : a < 18446744073709551616) (hb : b < 18446744073709551616) (w : World) :
    Calls Try.prog 25 #[.float .f64 a, .float .f64 b] w fun e w' => e = .returned (.int .i64 (cmpN (ordN a) (ordN b))) ∧ w = w' := by
  go_enter Try.func25, Try.ntmps25
  go_wp2_with fail
  refine (order_any _ ha _).mono ?_; rintro e w' ⟨rfl, rfl⟩
  go_wp2_with fail
  refine (order_any _ hb _).mono ?_; rintro e w' ⟨rfl, rfl⟩
  go_wp2_with fail
  refine (cmpu_any _ _ _).mono ?_; rintro e w' ⟨rfl, rfl⟩
  go_wp2
  go_ret
  exact ⟨rfl, rfl⟩
set_option maxHeartbeats 400000 in
theorem compare_ref (a b : Nat) (ha : a < 18446744073709551616) (hb : b < 18446744073709551616) (w : World) :
    Calls Try.prog 26 #[.float .f64 a, .float .f64 b] w fun e w' => e = .returned (.int .i64 (cmpN (ordN a) (ordN b))) ∧ w = w' := by
  go_enter Try.func26, Try.ntmps26
  go_wp2_with fail
  refine (order_ref _ ha _).mono ?_; rintro e w' ⟨rfl, rfl⟩
  go_wp2_with fail
  refine (order_ref _ hb _).mono ?_; rintro e w' ⟨rfl, rfl⟩
  go_wp2
  all_goals (go_ret; refine ⟨ret_i64 ?_, rfl⟩; unfold cmpN; simp [*])
theorem same_eq {a b : Nat} (ha : a < 18446744073709551616) (hb : b < 18446744073709551616) : ((ordN a : Int) == ordN b) = decide (a = b) := by
  rw [Bool.eq_iff_iff, beq_iff_eq, decide_eq_true_iff, ← ordN_inj ha hb]
  omega
set_option maxHeartbeats 400000 in
theorem same_any (a b : Nat) (ha : a < 18446744073709551616) (hb : b < 18446744073709551616) (w : World) :
    Calls Try.prog 22 #[.float .f64 a, .float .f64 b] w fun e w' => e = .returned (.bool (decide (a = b))) ∧ w = w' := by
  go_enter Try.func22, Try.ntmps22
  go_wp2_with fail
  refine (order_any _ ha _).mono ?_; rintro e w' ⟨rfl, rfl⟩
  go_wp2_with fail
  refine (order_any _ hb _).mono ?_; rintro e w' ⟨rfl, rfl⟩
  go_wp2
  go_ret
  exact ⟨congrArg (fun x => Ending.returned (.bool x)) (same_eq ha hb), rfl⟩
set_option maxHeartbeats 400000 in
theorem same_ref (a b : Nat) (w : World) :
    Calls Try.prog 65 #[.float .f64 a, .float .f64 b] w fun e w' => e = .returned (.bool (decide (a = b))) ∧ w = w' := by
  go_enter Try.func65, Try.ntmps65
  go_wp2
  go_ret
  refine ⟨congrArg (fun x => Ending.returned (.bool x)) ?_, rfl⟩
  rw [Bool.eq_iff_iff, beq_iff_eq, decide_eq_true_iff]; omega
theorem bne_ne {b : Nat} (h : ((b : Int) % 4503599627370496 != 0) = true) : ¬ b % 4503599627370496 = 0 := by
  rw [bne_iff_ne] at h; omega
theorem bne_eq {b : Nat} (h : ((b : Int) % 4503599627370496 != 0) = false) : b % 4503599627370496 = 0 := by
  rw [bne_eq_false_iff_eq] at h; omega
theorem beq_e {b : Nat} (h : ((b : Int) % 4503599627370496 == 0) = true) : b % 4503599627370496 = 0 := by
  rw [beq_iff_eq] at h; omega
theorem beq_n {b : Nat} (h : ((b : Int) % 4503599627370496 == 0) = false) : ¬ b % 4503599627370496 = 0 := by
  rw [beq_eq_false_iff_ne] at h; omega
set_option maxHeartbeats 400000 in
theorem class_any (b : Nat) (hb : b < 18446744073709551616) (w : World) :
    Calls Try.prog 27 #[.float .f64 b] w fun e w' => e = .returned (.int .i64 (classN b)) ∧ w = w' := by
  have e1 := and52 hb
  have e2 := and11 hb
  go_enter Try.func27, Try.ntmps27
  go_wp2
  · go_ret; exact ⟨ret_i64 (by unfold classN; rw [if_pos (by omega), if_neg (bne_ne ‹_›)]), rfl⟩
  · go_ret; exact ⟨ret_i64 (by unfold classN; rw [if_pos (by omega), if_pos (bne_eq ‹_›)]), rfl⟩
  · go_ret; exact ⟨ret_i64 (by unfold classN; rw [if_neg (by omega), if_pos (by omega), if_pos (beq_e ‹_›)]), rfl⟩
  · go_ret; exact ⟨ret_i64 (by unfold classN; rw [if_neg (by omega), if_pos (by omega), if_neg (beq_n ‹_›)]), rfl⟩
  · go_ret; exact ⟨ret_i64 (by unfold classN; rw [if_neg (by omega), if_neg (by omega)]), rfl⟩
theorem wrap_ne {b : Nat} (h : (IntKind.u64.wrap ((b : Int) % 9223372036854775808 * 4096) != 0) = true) : ¬ b % 4503599627370496 = 0 := by
  rw [bne_iff_ne, IntKind.wrap_u64] at h; omega
theorem wrap_eq {b : Nat} (h : (IntKind.u64.wrap ((b : Int) % 9223372036854775808 * 4096) != 0) = false) : b % 4503599627370496 = 0 := by
  rw [bne_eq_false_iff_eq, IntKind.wrap_u64] at h; omega
theorem low_eq {b : Nat} (h : ((b : Int) % 9223372036854775808 == 0) = true) : b % 9223372036854775808 = 0 := by
  rw [beq_iff_eq] at h; omega
theorem low_ne {b : Nat} (h : ((b : Int) % 9223372036854775808 == 0) = false) : ¬ b % 9223372036854775808 = 0 := by
  rw [beq_eq_false_iff_ne] at h; omega
theorem high_eq {b : Nat} (h : ((b : Int) % 9223372036854775808 / 4503599627370496 == 0) = true) : b % 9223372036854775808 / 4503599627370496 = 0 := by
  rw [beq_iff_eq] at h; omega
theorem high_ne {b : Nat} (h : ((b : Int) % 9223372036854775808 / 4503599627370496 == 0) = false) : ¬ b % 9223372036854775808 / 4503599627370496 = 0 := by
  rw [beq_eq_false_iff_ne] at h; omega
set_option maxHeartbeats 400000 in
theorem class_ref (b : Nat) (w : World) :
    Calls Try.prog 28 #[.float .f64 b] w fun e w' => e = .returned (.int .i64 (classN b)) ∧ w = w' := by
  have e1 : IntKind.u64.wrap ((b : Int) * 2) / 2 = ((b % 9223372036854775808 : Nat) : Int) := by rw [IntKind.wrap_u64]; omega
  have e2 : IntKind.u64.wrap (((b % 9223372036854775808 : Nat) : Int) * 4096) = ((b % 4503599627370496 * 4096 : Nat) : Int) := by rw [IntKind.wrap_u64]; omega
  go_enter Try.func28, Try.ntmps28
  go_wp2
  · go_ret; exact ⟨ret_i64 (by unfold classN; rw [if_pos (by omega), if_neg (wrap_ne ‹_›)]), rfl⟩
  · go_ret; exact ⟨ret_i64 (by unfold classN; rw [if_pos (by omega), if_pos (wrap_eq ‹_›)]), rfl⟩
  · go_ret; exact ⟨ret_i64 (by have := low_eq ‹_›; unfold classN; rw [if_neg (by omega), if_pos (by omega), if_pos (by omega)]), rfl⟩
  · go_ret; exact ⟨ret_i64 (by have := low_ne ‹_›; have := high_eq ‹_›; unfold classN; rw [if_neg (by omega), if_pos (by omega), if_neg (by omega)]), rfl⟩
  · go_ret; exact ⟨ret_i64 (by have := high_ne ‹_›; unfold classN; rw [if_neg (by omega), if_neg (by omega)]), rfl⟩
theorem ret2 {a b : Nat} {p q : Bool} (h : a = b) (h' : p = q) : Ending.returned (.tuple #[.float .f64 a, .bool p]) = .returned (.tuple #[.float .f64 b, .bool q]) := by rw [h, h']
set_option maxHeartbeats 400000 in
theorem next_any (b : Nat) (hb : b < 18446744073709551616) (w : World) :
    Calls Try.prog 18 #[.float .f64 b] w fun e w' => e = .returned (.tuple #[.float .f64 (nextN b), .bool (nextOk b)]) ∧ w = w' := by
  have hl := ordN_lt hb
  by_cases h : ordN b = 18446744073709551615
  · have hd : ((ordN b : Int) == 18446744073709551615) = true := by rw [beq_iff_eq]; omega
    have HN := Lib.hid (show nextN b = b by unfold nextN; rw [if_pos h])
    have HO := Lib.hid (show nextOk b = false by unfold nextOk; rw [decide_eq_true h]; rfl)
    clear h hl
    go_enter Try.func18, Try.ntmps18
    go_wp2_with fail
    refine (order_any _ hb _).mono ?_; rintro e w' ⟨rfl, rfl⟩
    go_wp2
    go_ret2
    exact ⟨ret2 HN.out.symm HO.out.symm, rfl⟩
  · have hd : ((ordN b : Int) == 18446744073709551615) = false := by rw [beq_eq_false_iff_ne]; omega
    have HN := Lib.hid (show nextN b = ofN (ordN b + 1) by unfold nextN; rw [if_neg h])
    have HO := Lib.hid (show nextOk b = true by unfold nextOk; rw [decide_eq_false h]; rfl)
    have hw : IntKind.u64.wrap ((ordN b : Int) + 1) = ((ordN b + 1 : Nat) : Int) := by rw [IntKind.wrap_u64]; omega
    have H2 := Lib.hid (show ordN b + 1 < 18446744073709551616 by omega)
    clear h hl
    go_enter Try.func18, Try.ntmps18
    go_wp2_with fail
    refine (order_any _ hb _).mono ?_; rintro e w' ⟨rfl, rfl⟩
    go_wp2_with fail
    rw [show ((ordN b : Int) + 1) = ((ordN b + 1 : Nat) : Int) from rfl]
    refine (of_any _ H2.out _).mono ?_; rintro e w' ⟨rfl, rfl⟩
    clear hw
    go_wp2
    go_ret2
    exact ⟨ret2 HN.out.symm HO.out.symm, rfl⟩
set_option maxHeartbeats 400000 in
theorem next_ref (b : Nat) (hb : b < 18446744073709551616) (w : World) :
    Calls Try.prog 19 #[.float .f64 b] w fun e w' => e = .returned (.tuple #[.float .f64 (nextN b), .bool (nextOk b)]) ∧ w = w' := by
  have hl := ordN_lt hb
  by_cases h : ordN b = 18446744073709551615
  · have hd : ((ordN b : Int) == 18446744073709551615) = true := by rw [beq_iff_eq]; omega
    have HN := Lib.hid (show nextN b = b by unfold nextN; rw [if_pos h])
    have HO := Lib.hid (show nextOk b = false by unfold nextOk; rw [decide_eq_true h]; rfl)
    clear h hl
    go_enter Try.func19, Try.ntmps19
    go_wp2_with fail
    refine (order_ref _ hb _).mono ?_; rintro e w' ⟨rfl, rfl⟩
    go_wp2
    go_ret2
    exact ⟨ret2 HN.out.symm HO.out.symm, rfl⟩
  · have hd : ((ordN b : Int) == 18446744073709551615) = false := by rw [beq_eq_false_iff_ne]; omega
    have HN := Lib.hid (show nextN b = ofN (ordN b + 1) by unfold nextN; rw [if_neg h])
    have HO := Lib.hid (show nextOk b = true by unfold nextOk; rw [decide_eq_false h]; rfl)
    have hw : IntKind.u64.wrap ((ordN b : Int) + 1) = ((ordN b + 1 : Nat) : Int) := by rw [IntKind.wrap_u64]; omega
    have H2 := Lib.hid (show ordN b + 1 < 18446744073709551616 by omega)
    clear h hl
    go_enter Try.func19, Try.ntmps19
    go_wp2_with fail
    refine (order_ref _ hb _).mono ?_; rintro e w' ⟨rfl, rfl⟩
    go_wp2_with fail
    rw [show ((ordN b : Int) + 1) = ((ordN b + 1 : Nat) : Int) from rfl]
    refine (of_ref _ H2.out _).mono ?_; rintro e w' ⟨rfl, rfl⟩
    clear hw
    go_wp2
    go_ret2
    exact ⟨ret2 HN.out.symm HO.out.symm, rfl⟩
set_option maxHeartbeats 400000 in
theorem copysign_neg (w : World) :
    Calls Try.prog 48 #[.float .f64 0, .float .f64 13830554455654793216] w fun e w' => e = .returned (.float .f64 9223372036854775808) ∧ w = w' := by
  go_enter Try.func48, Try.ntmps48
  go_wp2
  go_ret
  exact ⟨by first | rfl | decide, rfl⟩
set_option maxHeartbeats 400000 in
theorem nan_any (w : World) :
    Calls Try.prog 49 #[] w fun e w' => e = .returned (.float .f64 9221120237041090561) ∧ w = w' := by
  go_enter Try.func49, Try.ntmps49
  go_wp2
  go_ret
  exact ⟨rfl, rfl⟩

set_option maxHeartbeats 800000 in
theorem known1 (w : World) :
    Calls Try.prog 16 #[] w fun e w' => e = .returned (.bool true) ∧ w = w' := by
  have n1 : nextN 9223372036854775808 = 0 := by decide
  have n2 : nextOk 9223372036854775808 = true := by decide
  have n3 : (ordN 4607182418800017408 : Int) = 13830554455654793216 := by decide
  have n4 : cmpN (ordN 9223372036854775808) (ordN 0) = -1 := by decide
  have n5 : classN 9221120237041090561 = 1 := by decide
  go_enter Try.func16, Try.ntmps16
  go_wp2_with fail
  refine (copysign_neg _).mono ?_; rintro e w' ⟨rfl, rfl⟩
  go_wp2_with fail
  refine (next_any _ (by omega) _).mono ?_; rintro e w' ⟨rfl, rfl⟩
  go_wp2_with fail
  refine (order_any _ (by omega) _).mono ?_; rintro e w' ⟨rfl, rfl⟩
  go_wp2_with fail
  refine (compare_any _ _ (by omega) (by omega) _).mono ?_; rintro e w' ⟨rfl, rfl⟩
  go_wp2_with fail
  refine (same_any _ _ (by omega) (by omega) _).mono ?_; rintro e w' ⟨rfl, rfl⟩
  go_wp2_with fail
  refine (nan_any _).mono ?_; rintro e w' ⟨rfl, rfl⟩
  go_wp2_with fail
  refine (class_any _ (by omega) _).mono ?_; rintro e w' ⟨rfl, rfl⟩
  go_wp2
  go_ret
  exact ⟨rfl, rfl⟩
end Go.Proofs.Ytdnhldmdjbalgaa
