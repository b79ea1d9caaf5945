/- BitsBack: order and back go to and fro, and on numbers the order is that of less. -/
import Derived.Test.YtdnhldmdjbalgaaLaws1
import Derived.Test.YtdnhldmdjbalgaaFloat
set_option linter.unusedVariables false
set_option linter.unusedSimpArgs false
namespace Go.Proofs.Ytdnhldmdjbalgaa
open Go.RowKit
attribute [local go_sem] run_frombits run_tobits

theorem class1 {a : Nat} (h : isNanN a = true) : classN a = 1 := by
  unfold isNanN rgN at h
  have h := of_decide_eq_true h
  unfold classN; rw [if_pos (by omega), if_neg (by omega)]
theorem class2 {a : Nat} (h : rgN a = 9218868437227405312) : classN a = 2 := by
  unfold rgN at h
  unfold classN; rw [if_pos (by omega), if_pos (by omega)]
theorem class3 {a : Nat} (h : rgN a = 0) : classN a = 3 := by
  unfold rgN at h
  unfold classN; rw [if_neg (by omega), if_pos (by omega), if_pos (by omega)]
theorem class45 {a : Nat} (hn : isNanN a = false) (h : rgN a ≠ 9218868437227405312) (h0 : rgN a ≠ 0) : classN a = 4 ∨ classN a = 5 := by
  have hl := isNanN_false hn
  unfold rgN at h h0 hl
  unfold classN; rw [if_neg (by omega)]
  split
  · rw [if_neg (by omega)]; exact .inl rfl
  · exact .inr rfl
theorem eq_iff {a b : Nat} (ha : a < 18446744073709551616) (hb : b < 18446744073709551616) (na : isNanN a = false) (nb : isNanN b = false) :
    (FloatKind.f64.format.order a b == some .eq) = decide (valN a = valN b) := by
  show (Ieee.double.order a b == some .eq) = _
  rw [order_eq ha hb na nb]
  rcases Int.lt_trichotomy (valN a) (valN b) with h | h | h
  · rw [compare_lt h, decide_eq_false (by omega)]; rfl
  · rw [compare_eq h, decide_eq_true h]; rfl
  · rw [compare_gt h, decide_eq_false (by omega)]; rfl
theorem magN_zero : magN 0 = 0 := by decide
theorem val_zero {a : Nat} : valN a = valN 0 ↔ rgN a = 0 := by
  have e0 : valN 0 = 0 := by unfold valN; rw [if_neg (by omega)]; have : rgN 0 = 0 := rfl; rw [this, magN_zero]; rfl
  rw [e0]
  unfold valN
  constructor
  · intro h
    apply magN_inj
    rw [magN_zero]
    split at h <;> omega
  · intro h
    rw [h, magN_zero]; split <;> rfl
theorem val_inf {a : Nat} (ha : a < 18446744073709551616) : valN a = valN 9218868437227405312 ↔ a = 9218868437227405312 := by
  constructor
  · intro h
    have hp := magN_pos
    have hi : valN 9218868437227405312 = (magN 9218868437227405312 : Int) := valN_inf rfl
    rw [hi] at h
    have hr : rgN a = a % 9223372036854775808 := rfl
    unfold valN at h
    split at h
    · have := Int.natCast_nonneg (magN (rgN a)); omega
    · have := magN_inj (r := rgN a) (s := 9218868437227405312) (by omega); omega
  · intro h; rw [h]
theorem val_ninf {a : Nat} (ha : a < 18446744073709551616) : valN a = valN 18442240474082181120 ↔ a = 18442240474082181120 := by
  constructor
  · intro h
    have hp := magN_pos
    have hi : valN 18442240474082181120 = -(magN 9218868437227405312 : Int) := valN_inf rfl
    rw [hi] at h
    have hr : rgN a = a % 9223372036854775808 := rfl
    unfold valN at h
    split at h
    · have := magN_inj (r := rgN a) (s := 9218868437227405312) (by omega); omega
    · have := Int.natCast_nonneg (magN (rgN a)); omega
  · intro h; rw [h]

/-- what the second part asks of a float -/
structure Tail (a : Nat) (cl : Int) (nan neg ei en ez : Bool) (ci cn : Int) : Prop where
  cls : classN a = cl
  self : (FloatKind.f64.format.order a a != some .eq) = nan
  sign : ((a : Int) / 9223372036854775808 == 1) = neg
  inf : (FloatKind.f64.format.order a 9218868437227405312 == some .eq) = ei
  ninf : (FloatKind.f64.format.order a 18442240474082181120 == some .eq) = en
  zero : (FloatKind.f64.format.order a 0 == some .eq) = ez
  ci : cmpN (ordN a) (ordN 9218868437227405312) = ci
  cn : cmpN (ordN a) (ordN 18442240474082181120) = cn
theorem tail_of {a : Nat} (ha : a < 18446744073709551616) :
    Tail a 1 true true false false false (-1) (-1) ∨ Tail a 1 true false false false false 1 1 ∨
    (∃ neg ci cn, ci ≤ 0 ∧ 0 ≤ cn ∧ (Tail a 2 false neg true false false ci cn ∨ Tail a 2 false neg false true false ci cn ∨ Tail a 3 false neg false false true ci cn ∨
      Tail a 4 false neg false false false ci cn ∨ Tail a 5 false neg false false false ci cn)) := by
  have hr : rgN a = a % 9223372036854775808 := rfl
  have o1 : ordN 9218868437227405312 = 18442240474082181120 := by decide
  have o2 : ordN 18442240474082181120 = 4503599627370495 := by decide
  cases hn : isNanN a with
  | true =>
    have hn' := hn
    unfold isNanN at hn'
    have hn' := of_decide_eq_true hn'
    have k : ∀ b, FloatKind.f64.format.order a b = none := fun b => order_nan (.inl hn)
    rcases Nat.lt_or_ge a 9223372036854775808 with hs | hs
    · refine .inr (.inl ⟨class1 hn, by rw [k]; rfl, ?_, by rw [k]; rfl, by rw [k]; rfl, by rw [k]; rfl, ?_, ?_⟩)
      · rw [beq_eq_false_iff_ne]; omega
      · rw [o1]; unfold cmpN ordN; rw [if_neg (show ¬ 9223372036854775808 ≤ a by omega), if_neg (by omega), if_pos (by omega)]
      · rw [o2]; unfold cmpN ordN; rw [if_neg (show ¬ 9223372036854775808 ≤ a by omega), if_neg (by omega), if_pos (by omega)]
    · refine .inl ⟨class1 hn, by rw [k]; rfl, ?_, by rw [k]; rfl, by rw [k]; rfl, by rw [k]; rfl, ?_, ?_⟩
      · rw [beq_iff_eq]; omega
      · rw [o1]; unfold cmpN ordN; rw [if_pos hs, if_pos (by omega)]
      · rw [o2]; unfold cmpN ordN; rw [if_pos hs, if_pos (by omega)]
  | false =>
    have hl := isNanN_false hn
    have kself : (FloatKind.f64.format.order a a != some .eq) = false := by
      have := eq_iff ha ha hn hn
      rw [decide_eq_true rfl] at this
      rw [bne, this]; rfl
    have k1 := eq_iff ha (show 9218868437227405312 < 18446744073709551616 by omega) hn (by decide)
    have k2 := eq_iff ha (show 18442240474082181120 < 18446744073709551616 by omega) hn (by decide)
    have k3 := eq_iff ha (show 0 < 18446744073709551616 by omega) hn (by decide)
    refine .inr (.inr ⟨((a : Int) / 9223372036854775808 == 1), _, _, cmpN_le (x := ordN a) (y := ordN 9218868437227405312) ?_, cmpN_ge (x := ordN a) (y := ordN 18442240474082181120) ?_, ?_⟩)
    · rw [o1]; unfold ordN; split <;> omega
    · rw [o2]; unfold ordN; split <;> omega
    by_cases h1 : a = 9218868437227405312
    · refine .inl ⟨class2 (by omega), kself, rfl, ?_, ?_, ?_, rfl, rfl⟩
      · rw [k1, decide_eq_true]; exact (val_inf ha).2 h1
      · rw [k2, decide_eq_false]; exact fun h => absurd ((val_ninf ha).1 h) (by omega)
      · rw [k3, decide_eq_false]; exact fun h => absurd (val_zero.1 h) (by omega)
    have e1 : (FloatKind.f64.format.order a 9218868437227405312 == some .eq) = false := by
      rw [k1, decide_eq_false]; exact fun h => h1 ((val_inf ha).1 h)
    by_cases h2 : a = 18442240474082181120
    · refine .inr (.inl ⟨class2 (by omega), kself, rfl, e1, ?_, ?_, rfl, rfl⟩)
      · rw [k2, decide_eq_true]; exact (val_ninf ha).2 h2
      · rw [k3, decide_eq_false]; exact fun h => absurd (val_zero.1 h) (by omega)
    have e2 : (FloatKind.f64.format.order a 18442240474082181120 == some .eq) = false := by
      rw [k2, decide_eq_false]; exact fun h => h2 ((val_ninf ha).1 h)
    by_cases h3 : rgN a = 0
    · exact .inr (.inr (.inl ⟨class3 h3, kself, rfl, e1, e2, by rw [k3, decide_eq_true]; exact val_zero.2 h3, rfl, rfl⟩))
    have e3 : (FloatKind.f64.format.order a 0 == some .eq) = false := by
      rw [k3, decide_eq_false]; exact fun h => h3 (val_zero.1 h)
    rcases class45 hn (by omega) h3 with h4 | h4
    · exact .inr (.inr (.inr (.inl ⟨h4, kself, rfl, e1, e2, e3, rfl, rfl⟩)))
    · exact .inr (.inr (.inr (.inr ⟨h4, kself, rfl, e1, e2, e3, rfl, rfl⟩)))

/-- what the first part asks of two floats -/
theorem head_of {a b : Nat} (ha : a < 18446744073709551616) (hb : b < 18446744073709551616) :
    ∃ lt gt : Bool, ∃ c : Int, (FloatKind.f64.format.order a b == some .lt) = lt ∧ (FloatKind.f64.format.order a b == some .gt) = gt ∧ cmpN (ordN a) (ordN b) = c ∧ cmpN (ordN b) (ordN a) = -c ∧
      (c == 0) = ((a : Int) == b) ∧ -1 ≤ c ∧ c ≤ 1 ∧ ((lt = true ∧ gt = false ∧ c = -1) ∨ (lt = false ∧ gt = true ∧ c = 1) ∨ (lt = false ∧ gt = false)) := by
  have anti : cmpN (ordN b) (ordN a) = -cmpN (ordN a) (ordN b) := by unfold cmpN; split <;> split <;> (try split) <;> omega
  have zero : (cmpN (ordN a) (ordN b) == 0) = ((a : Int) == b) := by
    rw [Bool.eq_iff_iff, beq_iff_eq, beq_iff_eq]
    have := ordN_inj ha hb
    constructor
    · intro h
      have : ordN a = ordN b := by unfold cmpN at h; split at h <;> (try split at h) <;> omega
      have := (ordN_inj ha hb).1 this
      omega
    · intro h
      have : a = b := by omega
      rw [this]; unfold cmpN; rw [if_neg (by omega), if_neg (by omega)]
  refine ⟨_, _, _, rfl, rfl, rfl, anti, zero, (cmpN_bd _ _).1, (cmpN_bd _ _).2, ?_⟩
  have hs : FloatKind.f64.format.order a b = Ieee.double.order a b := rfl
  cases na : isNanN a with
  | true =>
    rw [hs, order_nan (.inl na)]; exact .inr (.inr ⟨by decide, by decide⟩)
  | false =>
    cases nb : isNanN b with
    | true => rw [hs, order_nan (.inr nb)]; exact .inr (.inr ⟨by decide, by decide⟩)
    | false =>
      rw [hs, order_eq ha hb na nb]
      rcases Int.lt_trichotomy (valN a) (valN b) with h | h | h
      · rw [compare_lt h]; exact .inl ⟨by decide, by decide, cmpN_lt (valN_ord ha hb h)⟩
      · rw [compare_eq h]; exact .inr (.inr ⟨by decide, by decide⟩)
      · rw [compare_gt h]
        refine .inr (.inl ⟨by decide, by decide, ?_⟩)
        have := valN_ord hb ha h
        unfold cmpN; rw [if_neg (by omega), if_pos this]

theorem unary_neg_inf : Op.unary .neg (.float .f64 9218868437227405312) = pure (.float .f64 18442240474082181120) := by
  show (pure (.float .f64 (Op.negFloat .f64 9218868437227405312)) : Sem Value) = _
  rw [show Op.negFloat .f64 9218868437227405312 = 18442240474082181120 by decide]
attribute [local go_sem] unary_neg_inf
set_option maxHeartbeats 400000 in
theorem inf_any (w : World) : Calls Try.prog 33 #[.int .i64 1] w fun e w' => e = .returned (.float .f64 9218868437227405312) ∧ w = w' := by
  go_enter Try.func33, Try.ntmps33
  go_wp2
  go_ret
  exact ⟨rfl, rfl⟩

set_option maxHeartbeats 2000000 in
theorem back_0 (a b : Nat) (ha : a < 18446744073709551616) (hb : b < 18446744073709551616) (h1 : (FloatKind.f64.format.order a b == some .lt) = true) (h2 : (FloatKind.f64.format.order a b == some .gt) = false)
    (h3 : cmpN (ordN a) (ordN b) = -1) (h4 : cmpN (ordN b) (ordN a) = -(-1)) (h5 : ((-1 : Int) == 0) = ((a : Int) == b)) (h6 : -1 ≤ (-1 : Int)) (h7 : (-1 : Int) ≤ 1) (w : World) :
    Calls Try.prog 9 #[.int .u64 a, .int .u64 b] w fun e w' => e = .returned (.bool true) ∧ w = w' := by
  have r1 := ordN_ofN ha
  have r2 := ofN_ordN ha
  have l1 := ordN_lt ha
  have l2 := ofN_lt ha
  rcases tail_of ha with ⟨t1, t2, t3, t4, t5, t6, t7, t8⟩ | ⟨t1, t2, t3, t4, t5, t6, t7, t8⟩ | ⟨neg, ci, cn, hi, hj, ⟨t1, t2, t3, t4, t5, t6, t7, t8⟩ | ⟨t1, t2, t3, t4, t5, t6, t7, t8⟩ | ⟨t1, t2, t3, t4, t5, t6, t7, t8⟩ | ⟨t1, t2, t3, t4, t5, t6, t7, t8⟩ | ⟨t1, t2, t3, t4, t5, t6, t7, t8⟩⟩
  all_goals
    go_enter Try.func9, Try.ntmps9
    go_wp2_with (first
      | (go_at_call 16; refine (known1 _).mono ?_; rintro e w' ⟨rfl, rfl⟩)
      | (go_at_call 33; refine (inf_any _).mono ?_; rintro e w' ⟨rfl, rfl⟩)
      | (go_at_call 23; refine (of_any _ (by with_reducible assumption) _).mono ?_; rintro e w' ⟨rfl, rfl⟩)
      | (go_at_call 20; refine (order_any _ (by with_reducible assumption) _).mono ?_; rintro e w' ⟨rfl, rfl⟩)
      | (go_at_call 22; refine (same_any _ _ (by with_reducible assumption) (by with_reducible assumption) _).mono ?_; rintro e w' ⟨rfl, rfl⟩)
      | (go_at_call 27; refine (class_any _ (by with_reducible assumption) _).mono ?_; rintro e w' ⟨rfl, rfl⟩)
      | (go_at_call 25; refine (compare_any _ _ (by with_reducible assumption) (by first | with_reducible assumption | decide) _).mono ?_; rintro e w' ⟨rfl, rfl⟩))
    go_ret; exact ⟨rfl, rfl⟩
set_option maxHeartbeats 2000000 in
theorem back_1 (a b : Nat) (ha : a < 18446744073709551616) (hb : b < 18446744073709551616) (h1 : (FloatKind.f64.format.order a b == some .lt) = false) (h2 : (FloatKind.f64.format.order a b == some .gt) = true)
    (h3 : cmpN (ordN a) (ordN b) = 1) (h4 : cmpN (ordN b) (ordN a) = -1) (h5 : ((1 : Int) == 0) = ((a : Int) == b)) (h6 : -1 ≤ (1 : Int)) (h7 : (1 : Int) ≤ 1) (w : World) :
    Calls Try.prog 9 #[.int .u64 a, .int .u64 b] w fun e w' => e = .returned (.bool true) ∧ w = w' := by
  have r1 := ordN_ofN ha
  have r2 := ofN_ordN ha
  have l1 := ordN_lt ha
  have l2 := ofN_lt ha
  rcases tail_of ha with ⟨t1, t2, t3, t4, t5, t6, t7, t8⟩ | ⟨t1, t2, t3, t4, t5, t6, t7, t8⟩ | ⟨neg, ci, cn, hi, hj, ⟨t1, t2, t3, t4, t5, t6, t7, t8⟩ | ⟨t1, t2, t3, t4, t5, t6, t7, t8⟩ | ⟨t1, t2, t3, t4, t5, t6, t7, t8⟩ | ⟨t1, t2, t3, t4, t5, t6, t7, t8⟩ | ⟨t1, t2, t3, t4, t5, t6, t7, t8⟩⟩
  all_goals
    go_enter Try.func9, Try.ntmps9
    go_wp2_with (first
      | (go_at_call 16; refine (known1 _).mono ?_; rintro e w' ⟨rfl, rfl⟩)
      | (go_at_call 33; refine (inf_any _).mono ?_; rintro e w' ⟨rfl, rfl⟩)
      | (go_at_call 23; refine (of_any _ (by with_reducible assumption) _).mono ?_; rintro e w' ⟨rfl, rfl⟩)
      | (go_at_call 20; refine (order_any _ (by with_reducible assumption) _).mono ?_; rintro e w' ⟨rfl, rfl⟩)
      | (go_at_call 22; refine (same_any _ _ (by with_reducible assumption) (by with_reducible assumption) _).mono ?_; rintro e w' ⟨rfl, rfl⟩)
      | (go_at_call 27; refine (class_any _ (by with_reducible assumption) _).mono ?_; rintro e w' ⟨rfl, rfl⟩)
      | (go_at_call 25; refine (compare_any _ _ (by with_reducible assumption) (by first | with_reducible assumption | decide) _).mono ?_; rintro e w' ⟨rfl, rfl⟩))
    go_ret; exact ⟨rfl, rfl⟩
set_option maxHeartbeats 2000000 in
theorem back_2 (a b : Nat) (c : Int) (ha : a < 18446744073709551616) (hb : b < 18446744073709551616) (h1 : (FloatKind.f64.format.order a b == some .lt) = false) (h2 : (FloatKind.f64.format.order a b == some .gt) = false)
    (h3 : cmpN (ordN a) (ordN b) = c) (h4 : cmpN (ordN b) (ordN a) = -c) (h5 : ((c : Int) == 0) = ((a : Int) == b)) (h6 : -1 ≤ (c : Int)) (h7 : (c : Int) ≤ 1) (w : World) :
    Calls Try.prog 9 #[.int .u64 a, .int .u64 b] w fun e w' => e = .returned (.bool true) ∧ w = w' := by
  have r1 := ordN_ofN ha
  have r2 := ofN_ordN ha
  have l1 := ordN_lt ha
  have l2 := ofN_lt ha
  rcases tail_of ha with ⟨t1, t2, t3, t4, t5, t6, t7, t8⟩ | ⟨t1, t2, t3, t4, t5, t6, t7, t8⟩ | ⟨neg, ci, cn, hi, hj, ⟨t1, t2, t3, t4, t5, t6, t7, t8⟩ | ⟨t1, t2, t3, t4, t5, t6, t7, t8⟩ | ⟨t1, t2, t3, t4, t5, t6, t7, t8⟩ | ⟨t1, t2, t3, t4, t5, t6, t7, t8⟩ | ⟨t1, t2, t3, t4, t5, t6, t7, t8⟩⟩
  all_goals
    go_enter Try.func9, Try.ntmps9
    go_wp2_with (first
      | (go_at_call 16; refine (known1 _).mono ?_; rintro e w' ⟨rfl, rfl⟩)
      | (go_at_call 33; refine (inf_any _).mono ?_; rintro e w' ⟨rfl, rfl⟩)
      | (go_at_call 23; refine (of_any _ (by with_reducible assumption) _).mono ?_; rintro e w' ⟨rfl, rfl⟩)
      | (go_at_call 20; refine (order_any _ (by with_reducible assumption) _).mono ?_; rintro e w' ⟨rfl, rfl⟩)
      | (go_at_call 22; refine (same_any _ _ (by with_reducible assumption) (by with_reducible assumption) _).mono ?_; rintro e w' ⟨rfl, rfl⟩)
      | (go_at_call 27; refine (class_any _ (by with_reducible assumption) _).mono ?_; rintro e w' ⟨rfl, rfl⟩)
      | (go_at_call 25; refine (compare_any _ _ (by with_reducible assumption) (by first | with_reducible assumption | decide) _).mono ?_; rintro e w' ⟨rfl, rfl⟩))
    go_ret; exact ⟨rfl, rfl⟩
theorem walk_BitsBack (a b : Nat) (ha : a < 18446744073709551616) (hb : b < 18446744073709551616) (w : World) :
    Calls Try.prog 9 #[.int .u64 a, .int .u64 b] w fun e w' => e = .returned (.bool true) ∧ w = w' := by
  obtain ⟨lt, gt, c, h1, h2, h3, h4, h5, h6, h7, hc⟩ := head_of ha hb
  rcases hc with ⟨rfl, rfl, rfl⟩ | ⟨rfl, rfl, rfl⟩ | ⟨rfl, rfl⟩
  · exact back_0 a b ha hb h1 h2 h3 h4 h5 h6 h7 w
  · exact back_1 a b ha hb h1 h2 h3 h4 h5 h6 h7 w
  · exact back_2 a b c ha hb h1 h2 h3 h4 h5 h6 h7 w
end Go.Proofs.Ytdnhldmdjbalgaa
