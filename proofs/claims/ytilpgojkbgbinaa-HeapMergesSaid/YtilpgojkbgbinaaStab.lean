/- The order of items that keeps those alike as they stand: what is beneath it. -/
import Derived.Test.YtilpgojkbgbinaaPileW
import Derived.LoopTactic
set_option maxRecDepth 100000
set_option linter.unusedVariables false
set_option linter.unusedSimpArgs false
namespace Go.Proofs.Ytilpgojkbgbinaa
open Go.RowKit
attribute [local go_sem] run_frombits run_tobits more_more more_drew more_drewN more_size more_cell more_frozen run_store_float lt_c1 le_c1 lt_s1 le_s1 lt_c2 le_c2 lt_s2 le_s2 lt_c3 le_c3 lt_s3 le_s3 lt_c4 le_c4 lt_s4 le_s4 lt_c5 le_c5 lt_s5 le_s5 lt_c6 le_c6 lt_s6 le_s6 lt_c7 le_c7 lt_s7 le_s7 lt_c8 le_c8 lt_s8 le_s8 lt_c9 le_c9 lt_s9 le_s9 lt_c10 le_c10 lt_s10 le_s10 lt_c11 le_c11 lt_s11 le_s11 lt_c12 le_c12 lt_s12 le_s12 le_c0

theorem ret_j64 {a b : Int} (h : a = b) : Ending.returned (.int .i64 a) = .returned (.int .i64 b) := by rw [h]
theorem wp_called {P : Program} {c : Code} {Q : Exit → Act → World → Prop} {a : Act} {w : World} {R : World → Prop} (h : R w) (k : ∀ W, R W → Code.wp P c Q a W) : Code.wp P c Q a w := k w h
def cmpJ (n m : Int) : Int := if n < m then -1 else if m < n then 1 else 0
def orJ (x y : Int) : Int := if x = 0 then y else x
/-- items in order -/
def ltS {α : Type} (lt : α → α → Bool) (x y : It α) : Bool := lt x.v y.v || (!lt y.v x.v && decide (orJ (cmpJ x.li y.li) (cmpJ x.at_ y.at_) < 0))
theorem orJ_lt (a b c d : Int) : orJ (cmpJ a b) (cmpJ c d) < 0 ↔ (a < b ∨ (a = b ∧ c < d)) := by
  unfold orJ cmpJ
  repeat' split
  all_goals omega
set_option maxHeartbeats 400000 in
theorem cmpj_any (n m : Int) (w : World) :
    Calls Try.prog 114 #[.int .i64 n, .int .i64 m] w fun e w' => e = .returned (.int .i64 (cmpJ n m)) ∧ w = w' := by
  go_enter Try.func114, Try.ntmps114
  go_wp2
  all_goals (go_ret; refine ⟨ret_j64 ?_, rfl⟩; unfold cmpJ; (try simp [*]); (try omega))
set_option maxHeartbeats 1000000 in
theorem or_two (g : Nat) (x0 x1 : Int) (w : World) (h0 : w.cell? ⟨g, 0, none⟩ = some (.int .i64 x0)) (h1 : w.cell? ⟨g, 1, none⟩ = some (.int .i64 x1)) :
    Calls Try.prog 113 #[.slice (some ⟨g, 0, none⟩) 2 2] w fun e w' => e = .returned (.int .i64 (orJ x0 x1)) ∧ w = w' := by
  by_cases e0 : x0 = 0
  · subst e0
    by_cases e1 : x1 = 0
    · subst e1
      go_enter Try.func113, Try.ntmps113
      go_wp2
      refine wp_loop_rounds 3 ?_
      rw [rounds_succ]
      go_wp2
      rw [rounds_succ]
      go_wp2
      rw [rounds_succ]
      go_wp2
      go_ret
      exact ⟨ret_j64 (by simp [orJ]), rfl⟩
    · have t : (x1 != 0) = true := by simpa using e1
      have HF := Lib.hid (show orJ 0 x1 = x1 by simp [orJ])
      clear e1
      go_enter Try.func113, Try.ntmps113
      go_wp2
      refine wp_loop_rounds 2 ?_
      rw [rounds_succ]
      go_wp2
      rw [rounds_succ]
      go_wp2
      go_ret
      exact ⟨ret_j64 HF.out.symm, rfl⟩
  · have t : (x0 != 0) = true := by simpa using e0
    have HF := Lib.hid (show orJ x0 x1 = x0 by simp [orJ, e0])
    clear e0
    go_enter Try.func113, Try.ntmps113
    go_wp2
    refine wp_loop_rounds 1 ?_
    rw [rounds_succ]
    go_wp2
    go_ret
    exact ⟨ret_j64 HF.out.symm, rfl⟩
end Go.Proofs.Ytilpgojkbgbinaa
