/- PredFloats: of two floats equality is that of their bits, the others go by their order. -/
import Derived.Test.YthmnaocoogfidaaKnown20
import Derived.Test.YthmnaocoogfidaaOpen
import Derived.LoopN
set_option maxRecDepth 100000
set_option linter.unusedVariables false
set_option linter.unusedSimpArgs false
namespace Go.Proofs.Ythmnaocoogfidaa
open Go.RowKit
attribute [local go_sem] run_frombits run_tobits more_more more_drew more_drewN more_size more_cell more_frozen run_store_float lt_c1 le_c1 lt_s1 le_s1 lt_c2 le_c2 lt_s2 le_s2 lt_c3 le_c3 lt_s3 le_s3 lt_c4 le_c4 lt_s4 le_s4 lt_c5 le_c5 lt_s5 le_s5 lt_c6 le_c6 lt_s6 le_s6 lt_c7 le_c7 lt_s7 le_s7 lt_c8 le_c8 lt_s8 le_s8 lt_c9 le_c9 lt_s9 le_s9 lt_c10 le_c10 lt_s10 le_s10 lt_c11 le_c11 lt_s11 le_s11 lt_c12 le_c12 lt_s12 le_s12 le_c0

abbrev flV (a : Nat) : Val := ⟨5, 0, ⟨#[]⟩, a⟩
theorem flV_ok {a : Nat} (ha : a < 18446744073709551616) : (flV a).ok := by
  refine ⟨ha, ?_, ?_, ?_⟩
  · exact (by decide : (-9223372036854775808 : Int) ≤ 5 ∧ (5 : Int) < 9223372036854775808)
  · exact (by decide : (-9223372036854775808 : Int) ≤ 0 ∧ (0 : Int) < 9223372036854775808)
  · exact (by decide : (0 : Nat) ≤ 9223372036854775807)
theorem cmpV_flV (a b : Nat) : cmpV (flV a) (flV b) = cmpN (ordN a) (ordN b) := by
  have h1 : cmpI 5 5 = 0 := by decide
  have h2 : cmpI 0 0 = 0 := by decide
  have h3 : cmpB ⟨#[]⟩ ⟨#[]⟩ = 0 := by decide
  unfold cmpV
  dsimp only
  rw [h1, h2, h3]
  rfl
theorem cmpN_cases {a b : Nat} (ha : a < 18446744073709551616) (hb : b < 18446744073709551616) :
    (cmpN (ordN a) (ordN b) = -1 ∧ a ≠ b) ∨ (cmpN (ordN a) (ordN b) = 0 ∧ a = b) ∨ (cmpN (ordN a) (ordN b) = 1 ∧ a ≠ b) := by
  have := ordN_inj ha hb
  unfold cmpN
  by_cases h1 : ordN a < ordN b
  · rw [if_pos h1]; exact .inl ⟨rfl, fun e => by rw [this.2 e] at h1; omega⟩
  · by_cases h2 : ordN b < ordN a
    · rw [if_neg h1, if_pos h2]; exact .inr (.inr ⟨rfl, fun e => by rw [this.2 e] at h2; omega⟩)
    · rw [if_neg h1, if_neg h2]; exact .inr (.inl ⟨rfl, this.1 (by omega)⟩)
theorem holds_fl (op : Int) (a b : Nat) : holdsB 0 op (flV b) [flV a] = opB op (flV a) (flV b) := by
  unfold holdsB; rw [dif_pos ⟨by omega, by simp⟩]; rfl
set_option maxHeartbeats 8000000 in
theorem walk_PredFloats (a b : Nat) (ha : a < 18446744073709551616) (hb : b < 18446744073709551616) (w : World) :
    Gives Try.prog 6 #[.int .u64 a, .int .u64 b] w (.bool true) := by
  have H1 : ∀ (op : Int) W g, ValsIn W (some ⟨g, 0, none⟩) [flV a] → Gives Try.prog 20 #[.agg #[.int .i64 0, .int .i64 op, .int .i64 5, .int .i64 0, .string ⟨#[]⟩, .float .f64 b], .slice (some ⟨g, 0, none⟩) 1 1] W (.bool (opB op (flV a) (flV b))) := fun op W g h => by
    have := holds_any 0 op (flV b) (flV_ok hb) (some ⟨g, 0, none⟩) 1 [flV a] (fun y hy => by simp at hy; rw [hy]; exact flV_ok ha) W (by simp) h
    rw [holds_fl] at this
    exact this
  have hO : ∀ op, opB op (flV a) (flV b) = if op = 1 then cmpV (flV a) (flV b) == 0 else if op = 2 then decide (cmpV (flV a) (flV b) < 0) else if op = 3 then decide (cmpV (flV a) (flV b) ≤ 0) else if op = 4 then decide (0 < cmpV (flV a) (flV b)) else if op = 5 then decide (0 ≤ cmpV (flV a) (flV b)) else if op = 6 then ((flV a).k == 3 && (flV b).k == 3) && begB (flV a).s (flV b).s else false := fun _ => rfl
  rw [cmpV_flV] at hO
  rcases cmpN_cases ha hb with ⟨e, hab⟩ | ⟨e, rfl⟩ | ⟨e, hab⟩
  · rw [e] at hO
    have h1 := H1 1; rw [show opB 1 (flV a) (flV b) = false by rw [hO]; rfl] at h1
    have h2 := H1 2; rw [show opB 2 (flV a) (flV b) = true by rw [hO]; rfl] at h2
    have h3 := H1 3; rw [show opB 3 (flV a) (flV b) = true by rw [hO]; rfl] at h3
    have h4 := H1 4; rw [show opB 4 (flV a) (flV b) = false by rw [hO]; rfl] at h4
    have h5 := H1 5; rw [show opB 5 (flV a) (flV b) = false by rw [hO]; rfl] at h5
    have hne : ((a : Int) == (b : Int)) = false := by rw [beq_eq_false_iff_ne]; omega
    clear hO H1 e ha hb hab
    replace h1 := Lib.hid h1; replace h2 := Lib.hid h2; replace h3 := Lib.hid h3; replace h4 := Lib.hid h4; replace h5 := Lib.hid h5
    have i0 : ∀ w, (Instr.index 39 (.agg #[.bool false, .bool true, .bool false]) (.int .i64 0)).run Try.prog w = .ok (.bool false) w := fun _ => by kernel_rfl
    have i1 : ∀ w, (Instr.index 39 (.agg #[.bool false, .bool true, .bool false]) (.int .i64 1)).run Try.prog w = .ok (.bool true) w := fun _ => by kernel_rfl
    have i2 : ∀ w, (Instr.index 39 (.agg #[.bool false, .bool true, .bool false]) (.int .i64 2)).run Try.prog w = .ok (.bool false) w := fun _ => by kernel_rfl
    go_enter Try.func6, Try.ntmps6
    go_wp2_with fail
    refine (known20 _).mono' ?_; intro x0
    go_wp2_with fail
    refine (h1.out _ _ (by repeat (first | (with_reducible refine valsIn1 ?_; simp [more_size]; done) | (with_reducible refine valsIn2 ?_; simp [more_size]; done) | (with_reducible refine valsIn3 ?_; simp [more_size]; done) | (with_reducible refine ValsIn.alloc ?_ _) | (with_reducible refine ValsIn.drew ?_) | (with_reducible refine ValsIn.more ?_ _)))).mono' ?_; intro x1
    go_wp2_with fail
    refine (h2.out _ _ (by repeat (first | (with_reducible refine valsIn1 ?_; simp [more_size]; done) | (with_reducible refine valsIn2 ?_; simp [more_size]; done) | (with_reducible refine valsIn3 ?_; simp [more_size]; done) | (with_reducible refine ValsIn.alloc ?_ _) | (with_reducible refine ValsIn.drew ?_) | (with_reducible refine ValsIn.more ?_ _)))).mono' ?_; intro x2
    go_wp2_with fail
    refine (h4.out _ _ (by repeat (first | (with_reducible refine valsIn1 ?_; simp [more_size]; done) | (with_reducible refine valsIn2 ?_; simp [more_size]; done) | (with_reducible refine valsIn3 ?_; simp [more_size]; done) | (with_reducible refine ValsIn.alloc ?_ _) | (with_reducible refine ValsIn.drew ?_) | (with_reducible refine ValsIn.more ?_ _)))).mono' ?_; intro x3
    go_wp2_with fail
    refine (h3.out _ _ (by repeat (first | (with_reducible refine valsIn1 ?_; simp [more_size]; done) | (with_reducible refine valsIn2 ?_; simp [more_size]; done) | (with_reducible refine valsIn3 ?_; simp [more_size]; done) | (with_reducible refine ValsIn.alloc ?_ _) | (with_reducible refine ValsIn.drew ?_) | (with_reducible refine ValsIn.more ?_ _)))).mono' ?_; intro x4
    go_wp2_with fail
    refine (h5.out _ _ (by repeat (first | (with_reducible refine valsIn1 ?_; simp [more_size]; done) | (with_reducible refine valsIn2 ?_; simp [more_size]; done) | (with_reducible refine valsIn3 ?_; simp [more_size]; done) | (with_reducible refine ValsIn.alloc ?_ _) | (with_reducible refine ValsIn.drew ?_) | (with_reducible refine ValsIn.more ?_ _)))).mono' ?_; intro x5
    go_wp2_with fail
    refine wp_loop_rounds 4 ?_
    rw [rounds_succ]
    go_wp2
    rw [rounds_succ]
    go_wp2
    rw [rounds_succ]
    go_wp2
    rw [rounds_succ]
    go_wp2
    go_ret
    exact ⟨rfl, (more_of_below (by repeat (first | (with_reducible exact Below.refl _ _) | (with_reducible refine Below.drew ?_) | (with_reducible refine Below.alloc ?_ (by simp [more_size]; try omega) _) | (with_reducible refine Below.setCell ?_ (by simp [more_size]; try omega) _) | (with_reducible refine below_more ?_ _ (by simp [more_size]; try omega)))))⟩
  · rw [e] at hO
    have h1 := H1 1; rw [show opB 1 (flV a) (flV a) = true by rw [hO]; rfl] at h1
    have h2 := H1 2; rw [show opB 2 (flV a) (flV a) = false by rw [hO]; rfl] at h2
    have h3 := H1 3; rw [show opB 3 (flV a) (flV a) = true by rw [hO]; rfl] at h3
    have h4 := H1 4; rw [show opB 4 (flV a) (flV a) = false by rw [hO]; rfl] at h4
    have h5 := H1 5; rw [show opB 5 (flV a) (flV a) = true by rw [hO]; rfl] at h5
    clear hO H1 e ha hb
    replace h1 := Lib.hid h1; replace h2 := Lib.hid h2; replace h3 := Lib.hid h3; replace h4 := Lib.hid h4; replace h5 := Lib.hid h5
    have i0 : ∀ w, (Instr.index 39 (.agg #[.bool true, .bool false, .bool false]) (.int .i64 0)).run Try.prog w = .ok (.bool true) w := fun _ => by kernel_rfl
    have i1 : ∀ w, (Instr.index 39 (.agg #[.bool true, .bool false, .bool false]) (.int .i64 1)).run Try.prog w = .ok (.bool false) w := fun _ => by kernel_rfl
    have i2 : ∀ w, (Instr.index 39 (.agg #[.bool true, .bool false, .bool false]) (.int .i64 2)).run Try.prog w = .ok (.bool false) w := fun _ => by kernel_rfl
    go_enter Try.func6, Try.ntmps6
    go_wp2_with fail
    refine (known20 _).mono' ?_; intro x0
    go_wp2_with fail
    refine (h1.out _ _ (by repeat (first | (with_reducible refine valsIn1 ?_; simp [more_size]; done) | (with_reducible refine valsIn2 ?_; simp [more_size]; done) | (with_reducible refine valsIn3 ?_; simp [more_size]; done) | (with_reducible refine ValsIn.alloc ?_ _) | (with_reducible refine ValsIn.drew ?_) | (with_reducible refine ValsIn.more ?_ _)))).mono' ?_; intro x1
    go_wp2_with fail
    refine (h2.out _ _ (by repeat (first | (with_reducible refine valsIn1 ?_; simp [more_size]; done) | (with_reducible refine valsIn2 ?_; simp [more_size]; done) | (with_reducible refine valsIn3 ?_; simp [more_size]; done) | (with_reducible refine ValsIn.alloc ?_ _) | (with_reducible refine ValsIn.drew ?_) | (with_reducible refine ValsIn.more ?_ _)))).mono' ?_; intro x2
    go_wp2_with fail
    refine (h4.out _ _ (by repeat (first | (with_reducible refine valsIn1 ?_; simp [more_size]; done) | (with_reducible refine valsIn2 ?_; simp [more_size]; done) | (with_reducible refine valsIn3 ?_; simp [more_size]; done) | (with_reducible refine ValsIn.alloc ?_ _) | (with_reducible refine ValsIn.drew ?_) | (with_reducible refine ValsIn.more ?_ _)))).mono' ?_; intro x3
    go_wp2_with fail
    refine (h3.out _ _ (by repeat (first | (with_reducible refine valsIn1 ?_; simp [more_size]; done) | (with_reducible refine valsIn2 ?_; simp [more_size]; done) | (with_reducible refine valsIn3 ?_; simp [more_size]; done) | (with_reducible refine ValsIn.alloc ?_ _) | (with_reducible refine ValsIn.drew ?_) | (with_reducible refine ValsIn.more ?_ _)))).mono' ?_; intro x4
    go_wp2_with fail
    refine (h5.out _ _ (by repeat (first | (with_reducible refine valsIn1 ?_; simp [more_size]; done) | (with_reducible refine valsIn2 ?_; simp [more_size]; done) | (with_reducible refine valsIn3 ?_; simp [more_size]; done) | (with_reducible refine ValsIn.alloc ?_ _) | (with_reducible refine ValsIn.drew ?_) | (with_reducible refine ValsIn.more ?_ _)))).mono' ?_; intro x5
    go_wp2_with fail
    refine wp_loop_rounds 4 ?_
    rw [rounds_succ]
    go_wp2
    rw [rounds_succ]
    go_wp2
    rw [rounds_succ]
    go_wp2
    rw [rounds_succ]
    go_wp2
    go_ret
    exact ⟨rfl, (more_of_below (by repeat (first | (with_reducible exact Below.refl _ _) | (with_reducible refine Below.drew ?_) | (with_reducible refine Below.alloc ?_ (by simp [more_size]; try omega) _) | (with_reducible refine Below.setCell ?_ (by simp [more_size]; try omega) _) | (with_reducible refine below_more ?_ _ (by simp [more_size]; try omega)))))⟩
  · rw [e] at hO
    have h1 := H1 1; rw [show opB 1 (flV a) (flV b) = false by rw [hO]; rfl] at h1
    have h2 := H1 2; rw [show opB 2 (flV a) (flV b) = false by rw [hO]; rfl] at h2
    have h3 := H1 3; rw [show opB 3 (flV a) (flV b) = false by rw [hO]; rfl] at h3
    have h4 := H1 4; rw [show opB 4 (flV a) (flV b) = true by rw [hO]; rfl] at h4
    have h5 := H1 5; rw [show opB 5 (flV a) (flV b) = true by rw [hO]; rfl] at h5
    have hne : ((a : Int) == (b : Int)) = false := by rw [beq_eq_false_iff_ne]; omega
    clear hO H1 e ha hb hab
    replace h1 := Lib.hid h1; replace h2 := Lib.hid h2; replace h3 := Lib.hid h3; replace h4 := Lib.hid h4; replace h5 := Lib.hid h5
    have i0 : ∀ w, (Instr.index 39 (.agg #[.bool false, .bool false, .bool true]) (.int .i64 0)).run Try.prog w = .ok (.bool false) w := fun _ => by kernel_rfl
    have i1 : ∀ w, (Instr.index 39 (.agg #[.bool false, .bool false, .bool true]) (.int .i64 1)).run Try.prog w = .ok (.bool false) w := fun _ => by kernel_rfl
    have i2 : ∀ w, (Instr.index 39 (.agg #[.bool false, .bool false, .bool true]) (.int .i64 2)).run Try.prog w = .ok (.bool true) w := fun _ => by kernel_rfl
    go_enter Try.func6, Try.ntmps6
    go_wp2_with fail
    refine (known20 _).mono' ?_; intro x0
    go_wp2_with fail
    refine (h1.out _ _ (by repeat (first | (with_reducible refine valsIn1 ?_; simp [more_size]; done) | (with_reducible refine valsIn2 ?_; simp [more_size]; done) | (with_reducible refine valsIn3 ?_; simp [more_size]; done) | (with_reducible refine ValsIn.alloc ?_ _) | (with_reducible refine ValsIn.drew ?_) | (with_reducible refine ValsIn.more ?_ _)))).mono' ?_; intro x1
    go_wp2_with fail
    refine (h2.out _ _ (by repeat (first | (with_reducible refine valsIn1 ?_; simp [more_size]; done) | (with_reducible refine valsIn2 ?_; simp [more_size]; done) | (with_reducible refine valsIn3 ?_; simp [more_size]; done) | (with_reducible refine ValsIn.alloc ?_ _) | (with_reducible refine ValsIn.drew ?_) | (with_reducible refine ValsIn.more ?_ _)))).mono' ?_; intro x2
    go_wp2_with fail
    refine (h4.out _ _ (by repeat (first | (with_reducible refine valsIn1 ?_; simp [more_size]; done) | (with_reducible refine valsIn2 ?_; simp [more_size]; done) | (with_reducible refine valsIn3 ?_; simp [more_size]; done) | (with_reducible refine ValsIn.alloc ?_ _) | (with_reducible refine ValsIn.drew ?_) | (with_reducible refine ValsIn.more ?_ _)))).mono' ?_; intro x3
    go_wp2_with fail
    refine (h3.out _ _ (by repeat (first | (with_reducible refine valsIn1 ?_; simp [more_size]; done) | (with_reducible refine valsIn2 ?_; simp [more_size]; done) | (with_reducible refine valsIn3 ?_; simp [more_size]; done) | (with_reducible refine ValsIn.alloc ?_ _) | (with_reducible refine ValsIn.drew ?_) | (with_reducible refine ValsIn.more ?_ _)))).mono' ?_; intro x4
    go_wp2_with fail
    refine (h5.out _ _ (by repeat (first | (with_reducible refine valsIn1 ?_; simp [more_size]; done) | (with_reducible refine valsIn2 ?_; simp [more_size]; done) | (with_reducible refine valsIn3 ?_; simp [more_size]; done) | (with_reducible refine ValsIn.alloc ?_ _) | (with_reducible refine ValsIn.drew ?_) | (with_reducible refine ValsIn.more ?_ _)))).mono' ?_; intro x5
    go_wp2_with fail
    refine wp_loop_rounds 4 ?_
    rw [rounds_succ]
    go_wp2
    rw [rounds_succ]
    go_wp2
    rw [rounds_succ]
    go_wp2
    rw [rounds_succ]
    go_wp2
    go_ret
    exact ⟨rfl, (more_of_below (by repeat (first | (with_reducible exact Below.refl _ _) | (with_reducible refine Below.drew ?_) | (with_reducible refine Below.alloc ?_ (by simp [more_size]; try omega) _) | (with_reducible refine Below.setCell ?_ (by simp [more_size]; try omega) _) | (with_reducible refine below_more ?_ _ (by simp [more_size]; try omega)))))⟩
theorem law_PredFloats (v0 v1 : Value) (w : World) (h0 : IsU64 v0) (h1 : IsU64 v1) :
    Calls Try.prog 6 #[v0, v1] w fun e w' => e = .returned (.bool true) ∧ Below w.heap.size w w' := by
  obtain ⟨a, rfl, ha⟩ := h0
  obtain ⟨b, rfl, hb⟩ := h1
  exact law_of (walk_PredFloats a b ha hb w)
end Go.Proofs.Ythmnaocoogfidaa
