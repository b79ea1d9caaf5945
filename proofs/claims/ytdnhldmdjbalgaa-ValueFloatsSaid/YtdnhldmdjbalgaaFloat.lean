/- Plain facts on how floats compare: of two that are no NaN, by what they stand for; and that this goes with their places. No program in sight. -/
import Derived.Test.YtdnhldmdjbalgaaPlain
import Derived.Laws.Cover2
import Derived.Laws.FloatArith
set_option linter.unusedVariables false
set_option linter.unusedSimpArgs false
namespace Go.Proofs.Ytdnhldmdjbalgaa

/-- what a rung stands for, in units of the least place -/
def magN (r : Nat) : Nat := if r < 4503599627370496 then r else (4503599627370496 + r % 4503599627370496) * 2 ^ (r / 4503599627370496 - 1)
def rgN (a : Nat) : Nat := a % 9223372036854775808
def valN (a : Nat) : Int := if 9223372036854775808 ≤ a then -(magN (rgN a) : Int) else (magN (rgN a) : Int)
def isNanN (a : Nat) : Bool := decide (9218868437227405312 < rgN a)

theorem magN_lt {r s : Nat} (h : r < s) : magN r < magN s := by
  unfold magN
  by_cases h1 : r < 4503599627370496
  · rw [if_pos h1]
    by_cases h2 : s < 4503599627370496
    · rw [if_pos h2]; exact h
    · rw [if_neg h2]
      have h3 : 1 ≤ 2 ^ (s / 4503599627370496 - 1) := Nat.one_le_two_pow
      calc r < 4503599627370496 := h1
        _ ≤ (4503599627370496 + s % 4503599627370496) * 1 := by omega
        _ ≤ _ := Nat.mul_le_mul_left _ h3
  · rw [if_neg h1, if_neg (by omega)]
    have e : r / 4503599627370496 = s / 4503599627370496 ∨ r / 4503599627370496 < s / 4503599627370496 := by omega
    rcases e with e | e
    · rw [← e]
      exact Nat.mul_lt_mul_of_pos_right (by omega) (Nat.two_pow_pos _)
    · have h4 : s / 4503599627370496 - 1 = (r / 4503599627370496 - 1) + 1 + (s / 4503599627370496 - 1 - ((r / 4503599627370496 - 1) + 1)) := by omega
      have h5 : 2 ^ (r / 4503599627370496 - 1) * 2 ≤ 2 ^ (s / 4503599627370496 - 1) := by
        rw [← Nat.pow_succ]; exact Nat.pow_le_pow_right (by omega) (by omega)
      calc (4503599627370496 + r % 4503599627370496) * 2 ^ (r / 4503599627370496 - 1)
          < 9007199254740992 * 2 ^ (r / 4503599627370496 - 1) := Nat.mul_lt_mul_of_pos_right (by omega) (Nat.two_pow_pos _)
        _ = 4503599627370496 * (2 ^ (r / 4503599627370496 - 1) * 2) := by omega
        _ ≤ 4503599627370496 * 2 ^ (s / 4503599627370496 - 1) := Nat.mul_le_mul_left _ h5
        _ ≤ _ := Nat.mul_le_mul_right _ (by omega)
theorem magN_inj {r s : Nat} (h : magN r = magN s) : r = s := by
  rcases Nat.lt_trichotomy r s with h1 | h1 | h1
  · have := magN_lt h1; omega
  · exact h1
  · have := magN_lt h1; omega

theorem signed_split (s : Bool) (m d k : Nat) (h : d ≤ k) : Ieee.signed s m (k - d) * 2 ^ d = Ieee.signed s m k := by
  unfold Ieee.signed
  have e : (m <<< (k - d)) * 2 ^ d = m <<< k := by
    rw [Nat.shiftLeft_eq, Nat.shiftLeft_eq, Nat.mul_assoc, ← Nat.pow_add]; congr 2; omega
  have e' : ((m <<< (k - d) : Nat) : Int) * 2 ^ d = ((m <<< k : Nat) : Int) := by
    rw [← e]; simp
  split
  · rw [Int.neg_mul, e']
  · exact e'
theorem compare_mul (x y : Int) (c : Int) (hc : 0 < c) : compare (x * c) (y * c) = compare x y := by
  simp only [compare, compareOfLessAndEq]
  rcases Int.lt_trichotomy x y with h | h | h
  · rw [if_pos h, if_pos (Int.mul_lt_mul_of_pos_right h hc)]
  · subst h; simp
  · have h1 := Int.mul_lt_mul_of_pos_right h hc
    rw [if_neg (by omega), if_neg (by omega), if_neg (by omega), if_neg (by omega)]
theorem order_numbers (s t : Bool) (m n k l : Nat) (L : Int) :
    (Ieee.Datum.number s m (L + k)).order (.number t n (L + l)) = some (compare (Ieee.signed s m k) (Ieee.signed t n l)) := by
  unfold Ieee.Datum.order
  dsimp only
  have hb : min (L + (k : Int)) (L + l) = L + (min k l : Nat) := by omega
  rw [hb]
  have h1 : (L + (k : Int) - (L + (min k l : Nat))).toNat = k - min k l := by omega
  have h2 : (L + (l : Int) - (L + (min k l : Nat))).toNat = l - min k l := by omega
  rw [h1, h2, ← signed_split s m (min k l) k (by omega), ← signed_split t n (min k l) l (by omega), compare_mul]
  exact Int.pow_pos (by omega)

theorem read_nan {a : Nat} (h : isNanN a = true) : ∃ s t, Ieee.double.read a = .nan s t := by
  unfold isNanN rgN at h
  have h' := of_decide_eq_true h
  unfold Ieee.Format.read
  dsimp only
  have e1 : Ieee.double.signWeight = 9223372036854775808 := by decide
  have e2 : Ieee.double.binade = 4503599627370496 := by decide
  have e3 : Ieee.double.infRung = 9218868437227405312 := by decide
  rw [e1, e2, e3, if_neg (by omega), if_neg (by omega), if_neg (by omega)]
  exact ⟨_, _, rfl⟩
theorem read_inf {a : Nat} (ha : a < 18446744073709551616) (h : rgN a = 9218868437227405312) : Ieee.double.read a = .infinity (decide (9223372036854775808 ≤ a)) := by
  unfold rgN at h
  unfold Ieee.Format.read
  dsimp only
  have e1 : Ieee.double.signWeight = 9223372036854775808 := by decide
  have e2 : Ieee.double.binade = 4503599627370496 := by decide
  have e3 : Ieee.double.infRung = 9218868437227405312 := by decide
  rw [e1, e2, e3, if_neg (by omega), if_neg (by omega), if_pos h]
  congr 1
  rw [Bool.eq_iff_iff, beq_iff_eq, decide_eq_true_iff]; omega
theorem read_num {a : Nat} (ha : a < 18446744073709551616) (h : rgN a < 9218868437227405312) :
    ∃ s m k, Ieee.double.read a = .number s m (Ieee.double.leastPlace + (k : Nat)) ∧ valN a = Ieee.signed s m k := by
  have hg : rgN a = a % 9223372036854775808 := rfl
  unfold Ieee.Format.read
  dsimp only
  have e1 : Ieee.double.signWeight = 9223372036854775808 := by decide
  have e2 : Ieee.double.binade = 4503599627370496 := by decide
  have e3 : Ieee.double.infRung = 9218868437227405312 := by decide
  have hs : (a / 9223372036854775808 % 2 == 1) = decide (9223372036854775808 ≤ a) := by
    rw [Bool.eq_iff_iff, beq_iff_eq, decide_eq_true_iff]; omega
  rw [e1, e2, e3, hs, ← hg]
  by_cases h1 : rgN a < 4503599627370496
  · rw [if_pos h1]
    refine ⟨decide (9223372036854775808 ≤ a), rgN a, 0, by simp, ?_⟩
    unfold valN Ieee.signed magN
    rw [if_pos h1]
    by_cases h2 : 9223372036854775808 ≤ a <;> simp [h2]
  · rw [if_neg h1, if_pos h]
    refine ⟨_, _, _, rfl, ?_⟩
    unfold valN Ieee.signed magN
    rw [if_neg h1, Nat.shiftLeft_eq]
    by_cases h2 : 9223372036854775808 ≤ a <;> simp [h2]

theorem valN_inf {a : Nat} (h : rgN a = 9218868437227405312) : valN a = if 9223372036854775808 ≤ a then -(magN 9218868437227405312 : Int) else (magN 9218868437227405312 : Int) := by
  unfold valN; rw [h]
theorem magN_pos : 0 < magN 9218868437227405312 := Nat.lt_of_le_of_lt (Nat.zero_le (magN 0)) (magN_lt (by omega))
theorem valN_fin {a : Nat} (h : rgN a < 9218868437227405312) : -(magN 9218868437227405312 : Int) < valN a ∧ valN a < (magN 9218868437227405312 : Int) := by
  have h1 := magN_lt h
  unfold valN
  split <;> omega
theorem isNanN_false {a : Nat} (h : isNanN a = false) : rgN a ≤ 9218868437227405312 := by
  unfold isNanN at h
  have := of_decide_eq_false h; omega
theorem compare_lt {x y : Int} (h : x < y) : compare x y = .lt := by simp only [compare, compareOfLessAndEq]; rw [if_pos h]
theorem compare_gt {x y : Int} (h : y < x) : compare x y = .gt := by simp only [compare, compareOfLessAndEq]; rw [if_neg (by omega), if_neg (by omega)]
theorem compare_eq {x y : Int} (h : x = y) : compare x y = .eq := by subst h; simp [compare, compareOfLessAndEq]

/-- How two floats stand to each other. -/
theorem order_eq {a b : Nat} (ha : a < 18446744073709551616) (hb : b < 18446744073709551616) (na : isNanN a = false) (nb : isNanN b = false) :
    Ieee.double.order a b = some (compare (valN a) (valN b)) := by
  have la := isNanN_false na
  have lb := isNanN_false nb
  have hp := magN_pos
  unfold Ieee.Format.order
  by_cases ia : rgN a = 9218868437227405312
  · rw [read_inf ha ia, valN_inf ia]
    by_cases ib : rgN b = 9218868437227405312
    · rw [read_inf hb ib, valN_inf ib]
      unfold Ieee.Datum.order
      dsimp only
      by_cases sa : 9223372036854775808 ≤ a <;> by_cases sb : 9223372036854775808 ≤ b
      · simp only [sa, sb, if_true, decide_true]; rw [compare_eq rfl]; rfl
      · simp only [sa, sb, if_true, if_false, decide_true, decide_false]; rw [compare_lt (by omega)]; rfl
      · simp only [sa, sb, if_true, if_false, decide_true, decide_false]; rw [compare_gt (by omega)]; rfl
      · simp only [sa, sb, if_false, decide_false]; rw [compare_eq rfl]; rfl
    · obtain ⟨s, m, k, hr, hv⟩ := read_num hb (by omega)
      obtain ⟨v1, v2⟩ := valN_fin (a := b) (by omega)
      rw [hr]
      unfold Ieee.Datum.order
      dsimp only
      by_cases sa : 9223372036854775808 ≤ a
      · simp only [sa, if_true, decide_true]; rw [compare_lt v1]
      · simp only [sa, if_false, decide_false]; rw [compare_gt v2]; rfl
  · obtain ⟨s, m, k, hr, hv⟩ := read_num ha (by omega)
    rw [hr]
    by_cases ib : rgN b = 9218868437227405312
    · obtain ⟨v1, v2⟩ := valN_fin (a := a) (by omega)
      rw [read_inf hb ib, valN_inf ib]
      unfold Ieee.Datum.order
      dsimp only
      by_cases sb : 9223372036854775808 ≤ b
      · simp only [sb, if_true, decide_true]; rw [compare_gt v1]
      · simp only [sb, if_false, decide_false]; rw [compare_lt v2]; rfl
    · obtain ⟨s', m', k', hr', hv'⟩ := read_num hb (by omega)
      rw [hr', order_numbers, hv, hv']
theorem order_nan {a b : Nat} (h : isNanN a = true ∨ isNanN b = true) : Ieee.double.order a b = none := by
  unfold Ieee.Format.order
  rcases h with h | h
  · obtain ⟨s, t, e⟩ := read_nan h
    rw [e]; rfl
  · obtain ⟨s, t, e⟩ := read_nan h
    rw [e]
    cases Ieee.double.read a <;> rfl

/-- The order goes with the places. -/
theorem valN_ord {a b : Nat} (ha : a < 18446744073709551616) (hb : b < 18446744073709551616) (h : valN a < valN b) : ordN a < ordN b := by
  unfold valN at h
  unfold ordN
  have m1 := @magN_lt (rgN a) (rgN b)
  have m2 := @magN_lt (rgN b) (rgN a)
  have m3 := congrArg (fun r => magN r) (Eq.refl (rgN a))
  have ga : rgN a = a % 9223372036854775808 := rfl
  have gb : rgN b = b % 9223372036854775808 := rfl
  by_cases sa : 9223372036854775808 ≤ a <;> by_cases sb : 9223372036854775808 ≤ b
  · rw [if_pos sa, if_pos sb] at *
    have : rgN b < rgN a := by
      rcases Nat.lt_trichotomy (rgN a) (rgN b) with q | q | q
      · have := m1 q; omega
      · rw [q] at h; omega
      · exact q
    omega
  · rw [if_pos sa, if_neg sb] at *; omega
  · rw [if_neg sa, if_pos sb] at *; omega
  · rw [if_neg sa, if_neg sb] at *
    have : rgN a < rgN b := by
      rcases Nat.lt_trichotomy (rgN a) (rgN b) with q | q | q
      · exact q
      · rw [q] at h; omega
      · have := m2 q; omega
    omega
end Go.Proofs.Ytdnhldmdjbalgaa
