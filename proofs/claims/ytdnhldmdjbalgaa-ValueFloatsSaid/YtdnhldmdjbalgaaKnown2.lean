/- The known values of the statements of layer 2. -/
import Derived.Test.YtdnhldmdjbalgaaVal3
set_option linter.unusedVariables false
set_option linter.unusedSimpArgs false
namespace Go.Proofs.Ytdnhldmdjbalgaa
open Go.RowKit
attribute [local go_sem] run_frombits run_tobits more_more more_drew more_drewN more_size more_cell more_frozen run_store_float lt_c1 le_c1 lt_s1 le_s1 lt_c2 le_c2 lt_s2 le_s2 lt_c3 le_c3 lt_s3 le_s3 lt_c4 le_c4 lt_s4 le_s4 lt_c5 le_c5 lt_s5 le_s5 lt_c6 le_c6 lt_s6 le_s6 lt_c7 le_c7 lt_s7 le_s7 lt_c8 le_c8 lt_s8 le_s8 lt_c9 le_c9 lt_s9 le_s9 lt_c10 le_c10 lt_s10 le_s10 lt_c11 le_c11 lt_s11 le_s11 lt_c12 le_c12 lt_s12 le_s12 le_c0 run_cmpstring

set_option maxHeartbeats 4000000 in
theorem known2 (w : World) : Gives Try.prog 29 #[] w (.bool true) := by
  have e1 : (zeroV 3).v = .agg #[.int .i64 3, .int .i64 0, .string ⟨#[]⟩, .float .f64 0] := rfl
  have e2 : (zeroV 9).v = .agg #[.int .i64 0, .int .i64 0, .string ⟨#[]⟩, .float .f64 0] := rfl
  have e3 : zeroE 3 = 0 := rfl
  have e4 : zeroE 9 = 10 := rfl
  have c1 : cmpV (numV 5) ⟨2, 0, ⟨#[]⟩, 0⟩ = -1 := by decide
  have c2 : cmpV (floatV 9223372036854775808) (floatV 9223372036854775808) = 0 := by decide
  have c3 : (cmpV (floatV 9223372036854775808) (floatV 0) == 0) = false := by decide
  have c4 : isV ⟨2, 2, ⟨#[]⟩, 0⟩ = false := by decide
  go_enter Try.func29, Try.ntmps29
  go_wp2_with fail
  refine (zero_any _ _).mono' ?_; intro x0
  go_wp2_with fail
  refine (zero_any _ _).mono' ?_; intro x1
  go_wp2_with fail
  refine (num_any _ _).mono' ?_; intro x2
  go_wp2_with fail
  refine (comparev_any (numV 5) ⟨2, 0, ⟨#[]⟩, 0⟩ (by exact ⟨by decide, by decide, by decide, by decide⟩) (by exact ⟨by decide, by decide, by decide, by decide⟩) _).mono' ?_; intro x3
  go_wp2_with (first | (go_at_call 37; refine (float_any _ _).mono' ?_; intro x))
  refine (same_v (floatV 9223372036854775808) (floatV 9223372036854775808) (by exact ⟨by decide, by decide, by decide, by decide⟩) (by exact ⟨by decide, by decide, by decide, by decide⟩) _).mono' ?_; intro x4
  go_wp2_with (first | (go_at_call 37; refine (float_any _ _).mono' ?_; intro x))
  refine (same_v (floatV 9223372036854775808) (floatV 0) (by exact ⟨by decide, by decide, by decide, by decide⟩) (by exact ⟨by decide, by decide, by decide, by decide⟩) _).mono' ?_; intro x5
  go_wp2_with fail
  refine (is_v ⟨2, 2, ⟨#[]⟩, 0⟩ (by exact ⟨by decide, by decide, by decide, by decide⟩) _).mono' ?_; intro x6
  go_wp2
  go_ret
  exact ⟨rfl, (more_of_below (by repeat (first | (with_reducible exact Below.refl _ _) | (with_reducible refine Below.drew ?_) | (with_reducible refine Below.alloc ?_ (by simp [more_size]; try omega) _) | (with_reducible refine Below.setCell ?_ (by simp [more_size]; try omega) _) | (with_reducible refine below_more ?_ _ (by simp [more_size]; try omega)))))⟩
end Go.Proofs.Ytdnhldmdjbalgaa
