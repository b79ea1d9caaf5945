/- The document's predicates: what holds, whether all do. -/
import Derived.Test.YthmnaocoogfidaaAll
set_option maxRecDepth 100000
set_option linter.unusedVariables false
set_option linter.unusedSimpArgs false
namespace Go.Proofs.Ythmnaocoogfidaa
open Go.RowKit
attribute [local go_sem] run_frombits run_tobits more_more more_drew more_drewN more_size more_cell more_frozen run_store_float lt_c1 le_c1 lt_s1 le_s1 lt_c2 le_c2 lt_s2 le_s2 lt_c3 le_c3 lt_s3 le_s3 lt_c4 le_c4 lt_s4 le_s4 lt_c5 le_c5 lt_s5 le_s5 lt_c6 le_c6 lt_s6 le_s6 lt_c7 le_c7 lt_s7 le_s7 lt_c8 le_c8 lt_s8 le_s8 lt_c9 le_c9 lt_s9 le_s9 lt_c10 le_c10 lt_s10 le_s10 lt_c11 le_c11 lt_s11 le_s11 lt_c12 le_c12 lt_s12 le_s12 le_c0

set_option maxHeartbeats 8000000 in
theorem holds_ref (f op : Int) (v : Val) (hv : v.ok) (A : Option Addr) (ca : Nat) (l : List Val) (hl : allOk l) (w : World) (la : l.length ≤ 9223372036854775807) (ha : ValsIn w A l) :
    Gives Try.prog 32 #[predV f op v, .slice A l.length ca] w (.bool (holdsB f op v l)) := by
  by_cases hf : 0 ≤ f ∧ f < l.length
  · obtain ⟨f1, f2⟩ := hf
    obtain ⟨k, rfl⟩ := Int.eq_ofNat_of_zero_le f1
    have h1 : k < l.length := by omega
    have e : holdsB k op v l = opB op l[k] v := by unfold holdsB; rw [dif_pos ⟨f1, f2⟩]; rfl
    rw [e]
    clear e
    obtain ⟨b, off, rfl, hb, hcb⟩ := ha k h1
    obtain ⟨c0, c1, c2, c3⟩ := hcb k h1
    clear hcb
    have okA : l[k].ok := hl _ (List.getElem_mem h1)
    have D0 := fun o => (alloc_is w o) ▸ (more_cell w ⟨#[o], w.drawn⟩ _ hb).trans c0
    have D1 := fun o => (alloc_is w o) ▸ (more_cell w ⟨#[o], w.drawn⟩ _ hb).trans c1
    have D2 := fun o => (alloc_is w o) ▸ (more_cell w ⟨#[o], w.drawn⟩ _ hb).trans c2
    have D3 := fun o => (alloc_is w o) ▸ (more_cell w ⟨#[o], w.drawn⟩ _ hb).trans c3
    clear c0 c1 c2 c3
    have CM := fun W => cmp_ref l[k] v okA hv W
    generalize l[k] = a at *
    have hO : ∀ op, opB op a v = if op = 1 then cmpV a v == 0 else if op = 2 then decide (cmpV a v < 0) else if op = 3 then decide (cmpV a v ≤ 0) else if op = 4 then decide (0 < cmpV a v) else if op = 5 then decide (0 ≤ cmpV a v) else if op = 6 then (a.k == 3 && v.k == 3) && (decide (v.s.size ≤ a.s.size) && ((a.s.extract 0 v.s.size).toList == v.s.toList)) else false := fun _ => rfl
    generalize cmpV a v = c at *
    obtain ⟨ak, ai, ast, af⟩ := a
    obtain ⟨bk, bi, bst, bf⟩ := v
    have ls : ast.size ≤ 9223372036854775807 := okA.2.2.2
    have ls2 : bst.size ≤ 9223372036854775807 := hv.2.2.2
    unfold Val.v at *
    unfold predV
    dsimp only at *
    replace CM := Lib.hid CM
    replace hO := Lib.hid hO
    clear okA hv hl ha
    go_enter Try.func32, Try.ntmps32
    go_wp2_with fail
    refine calls_at (R := fun W => Below w.heap.size w W ∧ Blk W w.heap.size #[.int .i64 k, .int .i64 op, .int .i64 bk, .int .i64 bi, .string bst, .float .f64 bf] 33 ∧ Blk W (w.heap.size + 1) #[.int .i64 ak, .int .i64 ai, .string ast, .float .f64 af] 30)
      ⟨(by repeat (first | (with_reducible exact Below.refl _ _) | (with_reducible refine Below.drew ?_) | (with_reducible refine Below.alloc ?_ (by simp [more_size]; try omega) _) | (with_reducible refine Below.setCell ?_ (by simp [more_size]; try omega) _) | (with_reducible refine below_more ?_ _ (by simp [more_size]; try omega)))), (Blk.new _ _ _ (by simp)).alloc _, Blk.new _ _ _ (by simp)⟩ ?_
    rintro W ⟨bW, k1, k2⟩
    refine (CM.out _).mono' ?_; intro x
    have c11 := fun y => (k1.more y).cell 1
    have c12 := fun y => (k1.more y).cell 2
    have c14 := fun y => (k1.more y).cell 4
    have c20 := fun y => (k2.more y).cell 0
    have c22 := fun y => (k2.more y).cell 2
    clear D0 D1 D2 D3 k1 k2
    by_cases o6 : op = 6
    · subst o6
      have e6 := hO.out 6
      rw [if_neg (by decide), if_neg (by decide), if_neg (by decide), if_neg (by decide), if_neg (by decide), if_pos rfl] at e6
      clear hO CM
      cases h1 : (ak == 3) with
      | false =>
        rw [h1] at e6
        replace e6 := Lib.hid e6
        go_wp2_with fail
        refine wp_region_more2 (by kernel_rfl) (by kernel_rfl) ?_
        repeat (go_big_quiet_step (fail))
        refine wpQuiet_nil ?_
        rintro _ ⟨y, rfl⟩
        go_wp2
        go_ret
        exact ⟨ret_bool (by rw [e6.out]; rfl), more_of_below (below_more bW _ bW.size)⟩
      | true =>
        cases h2 : (bk == 3) with
        | false =>
          rw [h1, h2] at e6
          replace e6 := Lib.hid e6
          go_wp2_with fail
          refine wp_region_more2 (by kernel_rfl) (by kernel_rfl) ?_
          repeat (go_big_quiet_step (fail))
          refine wpQuiet_nil ?_
          rintro _ ⟨y, rfl⟩
          go_wp2
          go_ret
          exact ⟨ret_bool (by rw [e6.out]; rfl), more_of_below (below_more bW _ bW.size)⟩
        | true =>
          by_cases h3 : bst.size ≤ ast.size
          · have h3' : (bst.size : Int) ≤ (ast.size : Int) := by omega
            have h3d : decide (bst.size ≤ ast.size) = true := decide_eq_true h3
            have h3e : decide ((bst.size : Int) ≤ (ast.size : Int)) = true := decide_eq_true h3'
            rw [h1, h2, h3d] at e6
            replace e6 := Lib.hid e6
            go_wp2_with fail
            refine wp_region_more2 (by kernel_rfl) (by kernel_rfl) ?_
            repeat (go_big_quiet_step (fail))
            refine wpQuiet_nil ?_
            rintro _ ⟨y, rfl⟩
            go_wp2
            go_ret
            exact ⟨ret_bool (by rw [e6.out]; rfl), more_of_below (below_more bW _ bW.size)⟩
          · have h3' : ¬ (bst.size : Int) ≤ (ast.size : Int) := by omega
            have h3d : decide (bst.size ≤ ast.size) = false := decide_eq_false h3
            have h3e : decide ((bst.size : Int) ≤ (ast.size : Int)) = false := decide_eq_false h3'
            rw [h1, h2, h3d] at e6
            replace e6 := Lib.hid e6
            go_wp2_with fail
            refine wp_region_more2 (by kernel_rfl) (by kernel_rfl) ?_
            repeat (go_big_quiet_step (fail))
            refine wpQuiet_nil ?_
            rintro _ ⟨y, rfl⟩
            go_wp2
            go_ret
            exact ⟨ret_bool (by rw [e6.out]; rfl), more_of_below (below_more bW _ bW.size)⟩
    · have o6' : (op == 6) = false := by rw [beq_eq_false_iff_ne]; exact o6
      go_wp2
      all_goals
        go_ret
        refine ⟨ret_bool ?_, more_of_below (below_more bW _ bW.size)⟩
        rw [hO.out]
        clear hO CM c11 c12 c14 c20 c22
        simp only [beq_iff_eq, beq_eq_false_iff_ne] at *
        simp [*]
  · have e : holdsB f op v l = false := by unfold holdsB; rw [dif_neg hf]
    rw [e]
    clear e
    obtain ⟨bk, bi, bst, bf⟩ := v
    unfold predV
    rcases (show f < 0 ∨ (0 ≤ f ∧ (l.length : Int) ≤ f) by omega) with q | ⟨q1, q2⟩
    · clear hf
      go_enter Try.func32, Try.ntmps32
      go_wp2
      go_ret
      exact ⟨rfl, (more_of_below (by repeat (first | (with_reducible exact Below.refl _ _) | (with_reducible refine Below.drew ?_) | (with_reducible refine Below.alloc ?_ (by simp [more_size]; try omega) _) | (with_reducible refine Below.setCell ?_ (by simp [more_size]; try omega) _) | (with_reducible refine below_more ?_ _ (by simp [more_size]; try omega)))))⟩
    · clear hf
      go_enter Try.func32, Try.ntmps32
      go_wp2
      go_ret
      exact ⟨rfl, (more_of_below (by repeat (first | (with_reducible exact Below.refl _ _) | (with_reducible refine Below.drew ?_) | (with_reducible refine Below.alloc ?_ (by simp [more_size]; try omega) _) | (with_reducible refine Below.setCell ?_ (by simp [more_size]; try omega) _) | (with_reducible refine below_more ?_ _ (by simp [more_size]; try omega)))))⟩
end Go.Proofs.Ythmnaocoogfidaa
