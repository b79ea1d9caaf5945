/- The functions of package value, its reference and what is beneath: what each call gives. -/
import Derived.Test.YtijegkiapbmekaaBits
import Derived.Test.YtijegkiapbmekaaWorld
import Derived.Test.YtijegkiapbmekaaValP
import Derived.Lib.Bytealg
import Derived.StillTailTactics
import Derived.LoopTactic
set_option maxRecDepth 100000
set_option linter.unusedVariables false
set_option linter.unusedSimpArgs false
namespace Go.Proofs.Ytijegkiapbmekaa
open Go.RowKit
attribute [local go_sem] run_frombits run_tobits more_more more_drew more_drewN more_size

set_option maxHeartbeats 400000 in
theorem cmpi_any (n m : Int) (w : World) :
    Calls Try.prog 54 #[.int .i64 n, .int .i64 m] w fun e w' => e = .returned (.int .i64 (cmpI n m)) ∧ w = w' := by
  go_enter Try.func54, Try.ntmps54
  go_wp2
  all_goals (go_ret; refine ⟨ret_i64 ?_, rfl⟩; unfold cmpI; (try simp [*]); (try omega))
set_option maxHeartbeats 400000 in
theorem cmpl_any (n m : Int) (w : World) :
    Calls Try.prog 70 #[.int .i64 n, .int .i64 m] w fun e w' => e = .returned (.int .i64 (cmpI n m)) ∧ w = w' := by
  go_enter Try.func70, Try.ntmps70
  go_wp2
  all_goals (go_ret; refine ⟨ret_i64 ?_, rfl⟩; unfold cmpI; (try simp [*]); (try omega))
theorem run_cmpstring (a b : ByteArray) (w : World) : (callFunc 84 #[.string a, .string b]).run Try.prog w = .ok (.value (.int .i64 (Lib.compareBytes a.data.toList b.data.toList))) w := by
  rw [run_callFunc_extern Try.func84 (by kernel_rfl) (by kernel_rfl) (by kernel_rfl) (e := Extern.BytealgCompare.compare) (by kernel_rfl), Lib.run_compareString]
  rfl
attribute [local go_sem] run_cmpstring
set_option maxHeartbeats 400000 in
theorem cmps_any (a b : ByteArray) (w : World) :
    Calls Try.prog 71 #[.string a, .string b] w fun e w' => e = .returned (.int .i64 (Lib.compareBytes a.data.toList b.data.toList)) ∧ w = w' := by
  go_enter Try.func71, Try.ntmps71
  go_wp2
  go_ret
  exact ⟨rfl, rfl⟩

set_option maxHeartbeats 1000000 in
theorem or_four (g : Nat) (x0 x1 x2 x3 : Int) (w : World) (h0 : w.cell? ⟨g, 0, none⟩ = some (.int .i64 x0)) (h1 : w.cell? ⟨g, 1, none⟩ = some (.int .i64 x1))
    (h2 : w.cell? ⟨g, 2, none⟩ = some (.int .i64 x2)) (h3 : w.cell? ⟨g, 3, none⟩ = some (.int .i64 x3)) :
    Calls Try.prog 69 #[.slice (some ⟨g, 0, none⟩) 4 4] w fun e w' => e = .returned (.int .i64 (orI x0 (orI x1 (orI x2 x3)))) ∧ w = w' := by
  by_cases e0 : x0 = 0
  · subst e0
    by_cases e1 : x1 = 0
    · subst e1
      by_cases e2 : x2 = 0
      · subst e2
        by_cases e3 : x3 = 0
        · subst e3
          go_enter Try.func69, Try.ntmps69
          go_wp2
          refine wp_loop_rounds 5 ?_
          rw [rounds_succ]
          go_wp2
          rw [rounds_succ]
          go_wp2
          rw [rounds_succ]
          go_wp2
          rw [rounds_succ]
          go_wp2
          rw [rounds_succ]
          go_wp2
          go_ret
          exact ⟨ret_i64 (by simp [orI]), rfl⟩
        · have t : (x3 != 0) = true := by simpa using e3
          have HF := Lib.hid (show orI 0 (orI 0 (orI 0 x3)) = x3 by simp [orI])
          clear e3
          go_enter Try.func69, Try.ntmps69
          go_wp2
          refine wp_loop_rounds 4 ?_
          rw [rounds_succ]
          go_wp2
          rw [rounds_succ]
          go_wp2
          rw [rounds_succ]
          go_wp2
          rw [rounds_succ]
          go_wp2
          go_ret
          exact ⟨ret_i64 HF.out.symm, rfl⟩
      · have t : (x2 != 0) = true := by simpa using e2
        have HF := Lib.hid (show orI 0 (orI 0 (orI x2 x3)) = x2 by simp [orI, e2])
        clear e2
        go_enter Try.func69, Try.ntmps69
        go_wp2
        refine wp_loop_rounds 3 ?_
        rw [rounds_succ]
        go_wp2
        rw [rounds_succ]
        go_wp2
        rw [rounds_succ]
        go_wp2
        go_ret
        exact ⟨ret_i64 HF.out.symm, rfl⟩
    · have t : (x1 != 0) = true := by simpa using e1
      have HF := Lib.hid (show orI 0 (orI x1 (orI x2 x3)) = x1 by simp [orI, e1])
      clear e1
      go_enter Try.func69, Try.ntmps69
      go_wp2
      refine wp_loop_rounds 2 ?_
      rw [rounds_succ]
      go_wp2
      rw [rounds_succ]
      go_wp2
      go_ret
      exact ⟨ret_i64 HF.out.symm, rfl⟩
  · have t : (x0 != 0) = true := by simpa using e0
    have HF := Lib.hid (show orI x0 (orI x1 (orI x2 x3)) = x0 by simp [orI, e0])
    clear e0
    go_enter Try.func69, Try.ntmps69
    go_wp2
    refine wp_loop_rounds 1 ?_
    rw [rounds_succ]
    go_wp2
    go_ret
    exact ⟨ret_i64 HF.out.symm, rfl⟩
set_option maxHeartbeats 1000000 in
theorem comparev_any (a b : Val) (ha : a.ok) (hb : b.ok) (w : World) :
    Gives Try.prog 53 #[a.v, b.v] w (.int .i64 (cmpV a b)) := by
  obtain ⟨ak, ai, ast, af⟩ := a
  obtain ⟨bk, bi, bst, bf⟩ := b
  unfold Val.v
  obtain ⟨ha, _⟩ := ha
  obtain ⟨hb, _⟩ := hb
  simp only at ha hb
  go_enter Try.func53, Try.ntmps53
  go_wp2_with fail
  refine wp_region_tail 20 (by kernel_rfl) (by kernel_rfl) ?_
  simp only [List.take_succ_cons, List.take_zero, List.drop_succ_cons, List.drop_zero]
  repeat still_step
  still_call (flip (cmpi_any _ _ _))
  repeat still_step
  still_call (flip (cmpl_any _ _ _))
  repeat still_step
  still_call (flip (cmps_any _ _ _))
  repeat still_step
  still_call (flip (compare_any _ _ ha hb _))
  repeat still_step
  refine wpStill_nil ?_
  go_wp2_with fail
  refine (or_four _ (cmpI ak bk) (cmpI ai bi) (Lib.compareBytes ast.data.toList bst.data.toList) (cmpN (ordN af) (ordN bf)) _ (by go_simp) (by go_simp) (by go_simp) (by go_simp)).mono ?_
  rintro e w' ⟨rfl, rfl⟩
  go_wp2
  go_ret
  exact ⟨rfl, (more_of_below (by repeat (first | (with_reducible exact Below.refl _ _) | (with_reducible refine Below.drew ?_) | (with_reducible refine Below.alloc ?_ (by simp [more_size]; try omega) _) | (with_reducible refine Below.setCell ?_ (by simp [more_size]; try omega) _) | (with_reducible refine below_more ?_ _ (by simp [more_size]; try omega)))))⟩
end Go.Proofs.Ytijegkiapbmekaa
