/- BitsSums: whole numbers and halves stand in their order. -/
import Derived.Test.YtdnhldmdjbalgaaLaws1
import Derived.Test.YtdnhldmdjbalgaaSumsF
set_option linter.unusedVariables false
set_option linter.unusedSimpArgs false
namespace Go.Proofs.Ytdnhldmdjbalgaa
open Go.RowKit
attribute [local go_sem] run_frombits run_tobits

theorem i32_bd {a : Int} (h : (Lit.int .i32 a).wf = true) : -2147483648 ≤ a ∧ a ≤ 2147483647 := by
  simpa [Lit.wf, IntKind.min, IntKind.max, IntKind.signed, IntKind.bits] using h

/-- what the law asks of the two floats -/
theorem sums_of {a b : Int} {x y P : Nat} (hx : x < 18446744073709551616) (hy : y < 18446744073709551616) (vx : valN x = a * (P : Int)) (vy : valN y = b * (P : Int)) (hP : 0 < P) (same : a = b → x = y) :
    (a < b ∧ cmpN (ordN x) (ordN y) = -1 ∧ decide (x = y) = (a == b)) ∨ (a = b ∧ x = y ∧ cmpN (ordN x) (ordN y) = 0 ∧ decide (x = y) = (a == b)) ∨ (b < a ∧ cmpN (ordN x) (ordN y) = 1 ∧ decide (x = y) = (a == b)) := by
  rcases Int.lt_trichotomy a b with h | h | h
  · have h1 : valN x < valN y := by rw [vx, vy]; exact Int.mul_lt_mul_of_pos_right h (by omega)
    have h2 := valN_ord hx hy h1
    refine .inl ⟨h, cmpN_lt h2, ?_⟩
    rw [Bool.eq_iff_iff, beq_iff_eq, decide_eq_true_iff]
    constructor
    · intro e; rw [e] at h2; omega
    · intro e; omega
  · refine .inr (.inl ⟨h, same h, ?_, ?_⟩)
    · rw [same h]; unfold cmpN; rw [if_neg (by omega), if_neg (by omega)]
    · rw [Bool.eq_iff_iff, beq_iff_eq, decide_eq_true_iff]; exact ⟨fun _ => h, same⟩
  · have h1 : valN y < valN x := by rw [vx, vy]; exact Int.mul_lt_mul_of_pos_right h (by omega)
    have h2 := valN_ord hy hx h1
    refine .inr (.inr ⟨h, by unfold cmpN; rw [if_neg (by omega), if_pos h2], ?_⟩)
    rw [Bool.eq_iff_iff, beq_iff_eq, decide_eq_true_iff]
    constructor
    · intro e; rw [e] at h2; omega
    · intro e; omega

set_option maxHeartbeats 2000000 in
theorem walk_BitsSums (a b : Int) (half : Bool) (ha1 : -2147483648 ≤ a) (ha2 : a ≤ 2147483647) (hb1 : -2147483648 ≤ b) (hb2 : b ≤ 2147483647) (w : World) :
    Calls Try.prog 7 #[.int .i32 a, .int .i32 b, .bool half] w fun e w' => e = .returned (.bool true) ∧ w = w' := by
  obtain ⟨lx, nx, vx, hx, ex, lhx, nhx, vhx⟩ := int_float a ha1 ha2
  obtain ⟨ly, ny, vy, hy, ey, lhy, nhy, vhy⟩ := int_float b hb1 hb2
  have S1 := sums_of lx ly vx vy (twoP_pos _) (fun h => by rw [h])
  have S2 := sums_of lhx lhy vhx vhy (twoP_pos _) (fun h => by rw [h, ey] at ex; injection ex with ex; exact ex.symm)
  clear nx vx nhx vhx ny vy nhy vhy
  have q1 : ∀ w, (binOp .quo 24 (.float .f64 (floatOfInt .f64 a)) (.float .f64 4611686018427387904)).run Try.prog w = .ok (.float .f64 hx) w := fun w => run_float_arith w .quo _ _ _ _ _ ex
  have q2 : ∀ w, (binOp .quo 24 (.float .f64 (floatOfInt .f64 b)) (.float .f64 4611686018427387904)).run Try.prog w = .ok (.float .f64 hy) w := fun w => run_float_arith w .quo _ _ _ _ _ ey
  clear ex ey
  cases half
  · clear q1 q2 S2 lhx lhy
    rcases S1 with ⟨h, hc, he⟩ | ⟨rfl, _, hc, he⟩ | ⟨h, hc, he⟩
    all_goals
      go_enter Try.func7, Try.ntmps7
      go_wp2_with (first
        | (go_at_call 16; refine (known1 _).mono ?_; rintro e w' ⟨rfl, rfl⟩)
        | (go_at_call 25; refine (compare_any _ _ (by with_reducible assumption) (by with_reducible assumption) _).mono ?_; rintro e w' ⟨rfl, rfl⟩)
        | (go_at_call 22; refine (same_any _ _ (by with_reducible assumption) (by with_reducible assumption) _).mono ?_; rintro e w' ⟨rfl, rfl⟩))
      go_ret
      exact ⟨rfl, rfl⟩
  · clear S1
    rcases S2 with ⟨h, hc, he⟩ | ⟨rfl, rfl, hc, he⟩ | ⟨h, hc, he⟩
    all_goals
      go_enter Try.func7, Try.ntmps7
      go_wp2_with (first
        | (go_at_call 16; refine (known1 _).mono ?_; rintro e w' ⟨rfl, rfl⟩)
        | (go_at_call 25; refine (compare_any _ _ (by with_reducible assumption) (by with_reducible assumption) _).mono ?_; rintro e w' ⟨rfl, rfl⟩)
        | (go_at_call 22; refine (same_any _ _ (by with_reducible assumption) (by with_reducible assumption) _).mono ?_; rintro e w' ⟨rfl, rfl⟩))
      go_ret
      exact ⟨rfl, rfl⟩
end Go.Proofs.Ytdnhldmdjbalgaa
