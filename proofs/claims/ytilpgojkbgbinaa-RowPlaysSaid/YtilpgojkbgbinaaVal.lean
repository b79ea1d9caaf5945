/- The functions of package value, its reference and what is beneath: what each call gives. -/
import Derived.Test.YtilpgojkbgbinaaBits
import Derived.Test.YtilpgojkbgbinaaWorld
import Derived.Test.YtilpgojkbgbinaaValP
import Derived.Lib.Bytealg
import Derived.StillTailTactics
import Derived.LoopTactic
set_option maxRecDepth 100000
set_option linter.unusedVariables false
set_option linter.unusedSimpArgs false
namespace Go.Proofs.Ytilpgojkbgbinaa
open Go.RowKit
attribute [local go_sem] run_frombits run_tobits more_more more_drew more_drewN more_size

set_option maxHeartbeats 400000 in
theorem cmpi_any (n m : Int) (w : World) :
    Calls Try.prog 114 #[.int .i64 n, .int .i64 m] w fun e w' => e = .returned (.int .i64 (cmpI n m)) ∧ w = w' := by
  go_enter Try.func114, Try.ntmps114
  go_wp2
  all_goals (go_ret; refine ⟨ret_i64 ?_, rfl⟩; unfold cmpI; (try simp [*]); (try omega))
set_option maxHeartbeats 1000000 in
theorem or_four (g : Nat) (x0 x1 x2 x3 : Int) (w : World) (h0 : w.cell? ⟨g, 0, none⟩ = some (.int .i64 x0)) (h1 : w.cell? ⟨g, 1, none⟩ = some (.int .i64 x1))
    (h2 : w.cell? ⟨g, 2, none⟩ = some (.int .i64 x2)) (h3 : w.cell? ⟨g, 3, none⟩ = some (.int .i64 x3)) :
    Calls Try.prog 113 #[.slice (some ⟨g, 0, none⟩) 4 4] w fun e w' => e = .returned (.int .i64 (orI x0 (orI x1 (orI x2 x3)))) ∧ w = w' := by
  by_cases e0 : x0 = 0
  · subst e0
    by_cases e1 : x1 = 0
    · subst e1
      by_cases e2 : x2 = 0
      · subst e2
        by_cases e3 : x3 = 0
        · subst e3
          go_enter Try.func113, Try.ntmps113
          go_wp2
          refine wp_loop_rounds 5 ?_
          rw [rounds_succ]
          go_wp2
          rw [rounds_succ]
          go_wp2
          rw [rounds_succ]
          go_wp2
          rw [rounds_succ]
          go_wp2
          rw [rounds_succ]
          go_wp2
          go_ret
          exact ⟨ret_i64 (by simp [orI]), rfl⟩
        · have t : (x3 != 0) = true := by simpa using e3
          have HF := Lib.hid (show orI 0 (orI 0 (orI 0 x3)) = x3 by simp [orI])
          clear e3
          go_enter Try.func113, Try.ntmps113
          go_wp2
          refine wp_loop_rounds 4 ?_
          rw [rounds_succ]
          go_wp2
          rw [rounds_succ]
          go_wp2
          rw [rounds_succ]
          go_wp2
          rw [rounds_succ]
          go_wp2
          go_ret
          exact ⟨ret_i64 HF.out.symm, rfl⟩
      · have t : (x2 != 0) = true := by simpa using e2
        have HF := Lib.hid (show orI 0 (orI 0 (orI x2 x3)) = x2 by simp [orI, e2])
        clear e2
        go_enter Try.func113, Try.ntmps113
        go_wp2
        refine wp_loop_rounds 3 ?_
        rw [rounds_succ]
        go_wp2
        rw [rounds_succ]
        go_wp2
        rw [rounds_succ]
        go_wp2
        go_ret
        exact ⟨ret_i64 HF.out.symm, rfl⟩
    · have t : (x1 != 0) = true := by simpa using e1
      have HF := Lib.hid (show orI 0 (orI x1 (orI x2 x3)) = x1 by simp [orI, e1])
      clear e1
      go_enter Try.func113, Try.ntmps113
      go_wp2
      refine wp_loop_rounds 2 ?_
      rw [rounds_succ]
      go_wp2
      rw [rounds_succ]
      go_wp2
      go_ret
      exact ⟨ret_i64 HF.out.symm, rfl⟩
  · have t : (x0 != 0) = true := by simpa using e0
    have HF := Lib.hid (show orI x0 (orI x1 (orI x2 x3)) = x0 by simp [orI, e0])
    clear e0
    go_enter Try.func113, Try.ntmps113
    go_wp2
    refine wp_loop_rounds 1 ?_
    rw [rounds_succ]
    go_wp2
    go_ret
    exact ⟨ret_i64 HF.out.symm, rfl⟩
end Go.Proofs.Ytilpgojkbgbinaa
