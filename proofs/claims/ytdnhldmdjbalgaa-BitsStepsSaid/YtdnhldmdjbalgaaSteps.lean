/- BitsSteps: from a float so many steps on there is the one whose order is so much greater. -/
import Derived.Test.YtdnhldmdjbalgaaLaws1
import Derived.LoopTactic
set_option linter.unusedVariables false
set_option linter.unusedSimpArgs false
namespace Go.Proofs.Ytdnhldmdjbalgaa
open Go.RowKit
attribute [local go_sem] run_frombits run_tobits

set_option maxHeartbeats 2000000 in
theorem walk_BitsSteps (a n : Nat) (ha : a < 18446744073709551616) (hn : n < 256) (w : World) :
    Calls Try.prog 5 #[.int .u64 a, .int .u8 n] w fun e w' => e = .returned (.bool true) ∧ w = w' := by
  have l1 := ordN_lt ha
  go_enter Try.func5, Try.ntmps5
  go_wp2_with (first
    | (go_at_call 16; refine (known1 _).mono ?_; rintro e w' ⟨rfl, rfl⟩)
    | (go_at_call 20; refine (order_any _ (by with_reducible assumption) _).mono ?_; rintro e w' ⟨rfl, rfl⟩))
  go_loop [5, 7] (fun f i => ∃ k c : Nat, i = .int .i64 ((k : Int) + 1) ∧ f = .float .f64 c ∧ c < 18446744073709551616 ∧ ordN c = ordN a + k ∧ k ≤ 40) (fun _ i => 42 - (intOf i).toNat)
  case atStart => exact ⟨0, a, by simp, rfl, ha, by omega, by omega⟩
  case round =>
    obtain ⟨k, c, rfl, rfl, hc, hk, hk40⟩ := hrel
    have HK := Lib.hid hk; clear hk
    by_cases hlt : k + 1 ≤ n % 40
    · have hlt' : (k : Int) + 1 ≤ (n : Int) % 40 := by omega
      cases hok : nextOk c with
      | false =>
        go_wp2_with (first
          | (go_at_call 18; refine (next_any _ (by with_reducible assumption) _).mono ?_; rintro e w' ⟨rfl, rfl⟩)
          | (go_at_call 20; refine (order_any _ (by with_reducible assumption) _).mono ?_; rintro e w' ⟨rfl, rfl⟩))
        go_ret
        refine ⟨congrArg (fun x => Ending.returned (.bool x)) ?_, rfl⟩
        have hk := HK.out
        have h1 : ordN c = 18446744073709551615 := by simpa [nextOk] using hok
        rw [beq_iff_eq, IntKind.wrap_u64]; omega
      | true =>
        have hg := nextN_lt hc
        go_wp2_with (first
          | (go_at_call 18; refine (next_any _ (by with_reducible assumption) _).mono ?_; rintro e w' ⟨rfl, rfl⟩)
          | (go_at_call 20; refine (order_any _ (by with_reducible assumption) _).mono ?_; rintro e w' ⟨rfl, rfl⟩))
        · have h : ((ordN (nextN c) : Int) != IntKind.u64.wrap ((ordN a : Int) + ((k : Int) + 1))) = true := by assumption
          have hk := HK.out
          have h1 := next_yes hok hc
          have h2 := ordN_lt hg
          rw [bne_iff_ne, IntKind.wrap_u64] at h
          omega
        · have hk := HK.out
          have h1 := next_yes hok hc
          exact ⟨⟨k + 1, nextN c, by simp, rfl, hg, by omega, by omega⟩, by simp [intOf]; omega⟩
    · have hlt' : ¬ (k : Int) + 1 ≤ (n : Int) % 40 := by omega
      go_wp2
      go_ret
      exact ⟨rfl, rfl⟩
end Go.Proofs.Ytdnhldmdjbalgaa
