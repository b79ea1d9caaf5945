/- More of package value: what a value is, what is the same; few values; and their references. -/
import Derived.Test.YtijegkiapbmekaaVrows
set_option maxRecDepth 100000
set_option linter.unusedVariables false
set_option linter.unusedSimpArgs false
namespace Go.Proofs.Ytijegkiapbmekaa
open Go.RowKit
attribute [local go_sem] run_frombits run_tobits more_more more_drew more_drewN more_size run_cmpstring

theorem ret_bool {a b : Bool} (h : a = b) : Ending.returned (.bool a) = .returned (.bool b) := by rw [h]
theorem plain_eq {f : Nat} (h : f < 18446744073709551616) : ((ordN f : Int) == 9223372036854775808) = decide (f = 0) := by
  rw [Bool.eq_iff_iff, beq_iff_eq, decide_eq_true_iff]
  unfold ordN
  split <;> omega

set_option maxHeartbeats 400000 in
theorem sign_ref (p : Bool) (w : World) : Calls Try.prog 39 #[.bool p] w fun e w' => e = .returned (.int .i64 (sgnB p)) ∧ w = w' := by
  cases p
  all_goals
    go_enter Try.func39, Try.ntmps39
    go_wp2
    go_ret
    exact ⟨rfl, rfl⟩
set_option maxHeartbeats 4000000 in
theorem cmp_ref (a b : Val) (ha : a.ok) (hb : b.ok) (w : World) :
    Gives Try.prog 38 #[a.v, b.v] w (.int .i64 (cmpV a b)) := by
  obtain ⟨ak, ai, ast, af⟩ := a
  obtain ⟨bk, bi, bst, bf⟩ := b
  unfold Val.v
  obtain ⟨ha, _⟩ := ha
  obtain ⟨hb, _⟩ := hb
  simp only at ha hb
  go_enter Try.func38, Try.ntmps38
  go_wp2_with (first | (go_at_call 39; refine (sign_ref _ _).mono ?_; rintro e w' ⟨rfl, rfl⟩) | (go_at_call 55; refine (compare_ref _ _ ha hb _).mono ?_; rintro e w' ⟨rfl, rfl⟩))
  · have h : (ak != bk) = true := by assumption
    go_ret
    refine ⟨ret_i64 ?_, (more_of_below (by repeat (first | (with_reducible exact Below.refl _ _) | (with_reducible refine Below.drew ?_) | (with_reducible refine Below.alloc ?_ (by simp [more_size]; try omega) _) | (with_reducible refine Below.setCell ?_ (by simp [more_size]; try omega) _) | (with_reducible refine below_more ?_ _ (by simp [more_size]; try omega)))))⟩
    have h' : ¬ ak = bk := by simpa using h
    unfold cmpV orI cmpI
    try unfold sgnB
    by_cases hl : ak < bk
    · simp [hl]
    · simp [hl, show bk < ak by omega]
  · have h : (ak != bk) = false := by assumption
    have h2 : (ai != bi) = true := by assumption
    go_ret
    refine ⟨ret_i64 ?_, (more_of_below (by repeat (first | (with_reducible exact Below.refl _ _) | (with_reducible refine Below.drew ?_) | (with_reducible refine Below.alloc ?_ (by simp [more_size]; try omega) _) | (with_reducible refine Below.setCell ?_ (by simp [more_size]; try omega) _) | (with_reducible refine below_more ?_ _ (by simp [more_size]; try omega)))))⟩
    have h' : ak = bk := by simpa using h
    have h2' : ¬ ai = bi := by simpa using h2
    subst h'
    unfold cmpV orI cmpI
    try unfold sgnB
    by_cases hl : ai < bi
    · simp [hl]
    · simp [hl, show bi < ai by omega]
  · have h : (ak != bk) = false := by assumption
    have h2 : (ai != bi) = false := by assumption
    have h3 : (!ast.toList == bst.toList) = true := by assumption
    go_ret
    refine ⟨ret_i64 ?_, (more_of_below (by repeat (first | (with_reducible exact Below.refl _ _) | (with_reducible refine Below.drew ?_) | (with_reducible refine Below.alloc ?_ (by simp [more_size]; try omega) _) | (with_reducible refine Below.setCell ?_ (by simp [more_size]; try omega) _) | (with_reducible refine below_more ?_ _ (by simp [more_size]; try omega)))))⟩
    have h' : ak = bk := by simpa using h
    have h2' : ai = bi := by simpa using h2
    have h3' : ¬ ast.toList = bst.toList := by simpa using h3
    subst h' h2'
    unfold cmpV orI cmpI
    try unfold sgnB
    rw [cmpB_eq, if_neg h3']
    by_cases hl : Op.bytesLess ast.toList bst.toList = true
    · simp [hl]
    · simp [hl]
  · have h : (ak != bk) = false := by assumption
    have h2 : (ai != bi) = false := by assumption
    have h3 : (!ast.toList == bst.toList) = false := by assumption
    go_ret
    refine ⟨ret_i64 ?_, (more_of_below (by repeat (first | (with_reducible exact Below.refl _ _) | (with_reducible refine Below.drew ?_) | (with_reducible refine Below.alloc ?_ (by simp [more_size]; try omega) _) | (with_reducible refine Below.setCell ?_ (by simp [more_size]; try omega) _) | (with_reducible refine below_more ?_ _ (by simp [more_size]; try omega)))))⟩
    have h' : ak = bk := by simpa using h
    have h2' : ai = bi := by simpa using h2
    have h3' : ast.toList = bst.toList := by simpa using h3
    subst h' h2'
    unfold cmpV orI cmpI
    try unfold sgnB
    rw [cmpB_eq, h3', bytesLess_irrefl]
    simp
end Go.Proofs.Ytijegkiapbmekaa
