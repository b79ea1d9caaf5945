/- Plain: what 'float64(a)' and its half stand for, of a number a of 32 bits. No program in sight. -/
import Derived.Test.YtdnhldmdjbalgaaFloat
set_option linter.unusedVariables false
set_option linter.unusedSimpArgs false
namespace Go.Proofs.Ytdnhldmdjbalgaa

theorem dbl_sw : Ieee.double.signWeight = 9223372036854775808 := by decide
theorem dbl_bin : Ieee.double.binade = 4503599627370496 := by decide
theorem dbl_inf : Ieee.double.infRung = 9218868437227405312 := by decide
theorem dbl_least : Ieee.double.leastPlace = -1074 := by decide
theorem dbl_frac : Ieee.double.fractionBits = 52 := rfl

def twoP (n : Nat) : Nat := 2 ^ n
theorem twoP_pos (n : Nat) : 0 < twoP n := Nat.two_pow_pos n
theorem twoP_succ (n : Nat) : twoP n * 2 = twoP (n + 1) := (Nat.pow_succ 2 n).symm
theorem key_sign (a : Int) (P : Nat) : (if decide (a < 0) = true then -((a.natAbs * P : Nat) : Int) else ((a.natAbs * P : Nat) : Int)) = a * (P : Int) := by
  have e : ∀ x y : Int, x = y → x * (P : Int) = y * (P : Int) := fun x y h => by rw [h]
  by_cases hn : a < 0
  · rw [if_pos (by simpa using hn), Int.natCast_mul, ← Int.neg_mul]; exact e _ _ (by omega)
  · rw [if_neg (by simpa using hn), Int.natCast_mul]; exact e _ _ (by omega)
/-- the word of a sign and a normal number K (of 53 digits) at exponent E -/
def wordN (s : Bool) (E K : Nat) : Nat := if s then 9223372036854775808 + (E * 4503599627370496 + K) else E * 4503599627370496 + K
theorem word_eq (s : Bool) (E K : Nat) (hE : E < 2045) (hK : K < 9007199254740992) :
    Ieee.double.word s (min (E * 4503599627370496 + K) 9218868437227405312) = wordN s E K := by
  unfold Ieee.Format.word wordN
  rw [dbl_sw, Nat.min_eq_left (by omega)]
theorem wordN_lt (s : Bool) (E K : Nat) (hE : E < 2045) (hK : K < 9007199254740992) : wordN s E K < 18446744073709551616 := by
  unfold wordN; split <;> omega
theorem wordN_rg (s : Bool) (E K : Nat) (hE : E < 2045) (hK : K < 9007199254740992) : rgN (wordN s E K) = E * 4503599627370496 + K := by
  unfold wordN rgN; split <;> omega
theorem wordN_nan (s : Bool) (E K : Nat) (hE : E < 2045) (hK : K < 9007199254740992) : isNanN (wordN s E K) = false := by
  unfold isNanN; rw [wordN_rg s E K hE hK, decide_eq_false]; omega
theorem wordN_val (s : Bool) (E K : Nat) (hE : E < 2045) (hK : K < 9007199254740992) (hK1 : 4503599627370496 ≤ K) :
    valN (wordN s E K) = if s then -((K * 2 ^ E : Nat) : Int) else ((K * 2 ^ E : Nat) : Int) := by
  have hm : magN (rgN (wordN s E K)) = K * 2 ^ E := by
    rw [wordN_rg s E K hE hK]
    unfold magN
    rw [if_neg (by omega)]
    have h1 : (E * 4503599627370496 + K) % 4503599627370496 = K - 4503599627370496 := by omega
    have h2 : (E * 4503599627370496 + K) / 4503599627370496 - 1 = E := by omega
    rw [h1, h2, show 4503599627370496 + (K - 4503599627370496) = K by omega]
  unfold valN
  rw [hm]
  cases s
  · rw [if_neg]
    · rfl
    · unfold wordN; rw [if_neg (by decide)]; omega
  · rw [if_pos]
    · rfl
    · unfold wordN; rw [if_pos rfl]; omega

theorem log2_K {K : Nat} (h1 : 4503599627370496 ≤ K) (h2 : K < 9007199254740992) : K.log2 = 52 := by
  have a := (Nat.log2_lt (n := K) (k := 53) (by omega)).2 (by omega)
  have b : ¬ K.log2 < 52 := fun h => by have := (Nat.log2_lt (n := K) (k := 52) (by omega)).1 h; omega
  omega
theorem cut_zero (s : Bool) (n : Nat) : Ieee.Toward.even.cut s n 0 = n := by
  unfold Ieee.Toward.cut
  simp [Nat.mod_one]
theorem cut_three (s : Bool) (K : Nat) (h : 0 < K) (hK : (K * 8).log2 = 55) : Ieee.Toward.even.cut s (K * 8) 3 = K := by
  unfold Ieee.Toward.cut
  rw [hK]
  simp

/-- 'float64(a)' -/
theorem nearest_int (s : Bool) (m : Nat) (h0 : 0 < m) (hm : m ≤ 2147483648) :
    ∃ L K, L ≤ 31 ∧ 4503599627370496 ≤ K ∧ K < 9007199254740992 ∧ K * 2 ^ (L + 1022) = m * twoP 1074 ∧ Ieee.double.nearest s m 0 = wordN s (L + 1022) K := by
  have hL : m.log2 < 32 := (Nat.log2_lt (by omega)).2 (by omega)
  have hl := Nat.log2_self_le (n := m) (by omega)
  have hu := Nat.lt_log2_self (n := m)
  refine ⟨m.log2, m * 2 ^ (52 - m.log2), by omega, ?_, ?_, ?_, ?_⟩
  · calc 4503599627370496 = 2 ^ 52 := rfl
      _ = 2 ^ m.log2 * 2 ^ (52 - m.log2) := by rw [← Nat.pow_add]; congr 1; omega
      _ ≤ _ := Nat.mul_le_mul_right _ hl
  · calc m * 2 ^ (52 - m.log2) < 2 ^ (m.log2 + 1) * 2 ^ (52 - m.log2) := Nat.mul_lt_mul_of_pos_right hu (Nat.two_pow_pos _)
      _ = 2 ^ 53 := by rw [← Nat.pow_add]; congr 1; omega
      _ = 9007199254740992 := rfl
  · rw [Nat.mul_assoc, ← Nat.pow_add, show 52 - m.log2 + (m.log2 + 1022) = 1074 by omega]; unfold twoP; with_reducible rfl
  · unfold Ieee.Format.nearest
    rw [if_neg (by omega), dbl_least, dbl_frac, dbl_bin, dbl_inf]
    have hmax : max ((0 : Int) + (m.log2 : Int) - ((52 : Nat) : Int)) (-1074) = (m.log2 : Int) - 52 := by omega
    simp only [hmax]
    have e1 : ((0 : Int) - ((m.log2 : Int) - 52)).toNat = 52 - m.log2 := by omega
    have e2 : (((m.log2 : Int) - 52) - 0).toNat = 0 := by omega
    have e3 : (((m.log2 : Int) - 52) - (-1074)).toNat = m.log2 + 1022 := by omega
    rw [e1, e2, e3, cut_zero, Nat.shiftLeft_eq]
    refine word_eq _ _ _ (by omega) ?_
    calc m * 2 ^ (52 - m.log2) < 2 ^ (m.log2 + 1) * 2 ^ (52 - m.log2) := Nat.mul_lt_mul_of_pos_right hu (Nat.two_pow_pos _)
      _ = 2 ^ 53 := by rw [← Nat.pow_add]; congr 1; omega
      _ = 9007199254740992 := rfl

theorem read_word (s : Bool) (E K : Nat) (hE : E < 2045) (h1 : 4503599627370496 ≤ K) (h2 : K < 9007199254740992) : Ieee.double.read (wordN s E K) = .number s K (-1074 + (E : Int)) := by
  have hr := wordN_rg s E K hE h2
  unfold rgN at hr
  unfold Ieee.Format.read
  dsimp only
  rw [dbl_sw, dbl_bin, dbl_inf, hr, if_neg (by omega), if_pos (by omega), dbl_least]
  have e1 : (wordN s E K / 9223372036854775808 % 2 == 1) = s := by
    unfold wordN
    cases s
    · simp; omega
    · simp; omega
  have e2 : 4503599627370496 + (E * 4503599627370496 + K) % 4503599627370496 = K := by omega
  have e3 : ((E * 4503599627370496 + K) / 4503599627370496 - 1 : Nat) = E := by omega
  rw [e1, e2, e3]
/-- its half -/
theorem half_word (s : Bool) (E K : Nat) (hE : E < 2045) (hE0 : 1 ≤ E) (h1 : 4503599627370496 ≤ K) (h2 : K < 9007199254740992) :
    Ieee.double.div (wordN s E K) 4611686018427387904 = some (wordN s (E - 1) K) := by
  have r2 : Ieee.double.read 4611686018427387904 = .number false 4503599627370496 (-51) := by
    have := read_word false 1023 4503599627370496 (by omega) (by omega) (by omega)
    rw [show wordN false 1023 4503599627370496 = 4611686018427387904 by decide, show (-1074 + ((1023 : Nat) : Int)) = -51 by omega] at this
    exact this
  unfold Ieee.Format.div
  rw [read_word s E K hE h1 h2, r2, dbl_frac]
  unfold Ieee.Datum.quotient
  dsimp only
  rw [if_neg (by omega)]
  have l1 : Nat.log2 4503599627370496 = 52 := log2_K (by omega) (by omega)
  rw [log2_K h1 h2, l1]
  have e1 : (K <<< (52 + 2 + 52 - 52)) / 4503599627370496 = K * 4 := by
    rw [Nat.shiftLeft_eq]
    omega
  have e2 : (K <<< (52 + 2 + 52 - 52)) % 4503599627370496 = 0 := by
    rw [Nat.shiftLeft_eq]
    omega
  rw [e1, e2]
  simp only [Option.map_some, Bool.xor_false, bne_self_eq_false, Bool.toNat_false, Nat.add_zero]
  refine congrArg some ?_
  show Ieee.double.nearest s (2 * (K * 4)) _ = _
  have hp : (-1074 + (E : Int) - -51 - ((52 + 2 + 52 - 52 : Nat) : Int) - 1) = (E : Int) - 1078 := by omega
  rw [hp, show 2 * (K * 4) = K * 8 by omega]
  have hl : (K * 8).log2 = 55 := by
    have a := (Nat.log2_lt (n := K * 8) (k := 56) (by omega)).2 (by omega)
    have b : ¬ (K * 8).log2 < 55 := fun h => by have := (Nat.log2_lt (n := K * 8) (k := 55) (by omega)).1 h; omega
    omega
  unfold Ieee.Format.nearest
  rw [if_neg (by omega), dbl_least, dbl_frac, dbl_bin, dbl_inf, hl]
  have hmax : max ((E : Int) - 1078 + ((55 : Nat) : Int) - ((52 : Nat) : Int)) (-1074) = (E : Int) - 1075 := by omega
  simp only [hmax]
  have f1 : ((E : Int) - 1078 - ((E : Int) - 1075)).toNat = 0 := by omega
  have f2 : ((E : Int) - 1075 - ((E : Int) - 1078)).toNat = 3 := by omega
  have f3 : ((E : Int) - 1075 - (-1074)).toNat = E - 1 := by omega
  rw [f1, f2, f3, Nat.shiftLeft_zero, cut_three s K (by omega) hl]
  exact word_eq _ _ _ (by omega) h2

/-- what a number of 32 bits is as a float, and its half -/
theorem int_float (a : Int) (h1 : -2147483648 ≤ a) (h2 : a ≤ 2147483647) :
    floatOfInt .f64 a < 18446744073709551616 ∧ isNanN (floatOfInt .f64 a) = false ∧ valN (floatOfInt .f64 a) = a * (twoP 1074 : Int) ∧
    ∃ y, floatBits .quo .f64 (floatOfInt .f64 a) 4611686018427387904 = some y ∧ y < 18446744073709551616 ∧ isNanN y = false ∧ valN y = a * (twoP 1073 : Int) := by
  have hf : floatOfInt .f64 a = Ieee.double.nearest (decide (a < 0)) a.natAbs 0 := rfl
  rw [hf]
  by_cases h0 : a = 0
  · subst h0
    have e : Ieee.double.nearest (decide ((0 : Int) < 0)) (Int.natAbs 0) 0 = 0 := by decide
    rw [e]
    refine ⟨by omega, by decide, by rw [show valN 0 = 0 by decide]; simp, 0, by decide, by omega, by decide, by rw [show valN 0 = 0 by decide]; simp⟩
  · obtain ⟨L, K, hL, hK1, hK2, hK, hw⟩ := nearest_int (decide (a < 0)) a.natAbs (by omega) (by omega)
    rw [hw]
    have hv := wordN_val (decide (a < 0)) (L + 1022) K (by omega) hK2 hK1
    have hv' := wordN_val (decide (a < 0)) (L + 1021) K (by omega) hK2 hK1
    have hK' : K * 2 ^ (L + 1021) = a.natAbs * twoP 1073 := by
      have h3 : K * 2 ^ (L + 1021) * 2 = a.natAbs * twoP 1073 * 2 := by
        rw [Nat.mul_assoc, ← Nat.pow_succ, Nat.mul_assoc, twoP_succ]; exact hK
      exact Nat.eq_of_mul_eq_mul_right (by omega) h3
    refine ⟨wordN_lt _ _ _ (by omega) hK2, wordN_nan _ _ _ (by omega) hK2, ?_, wordN (decide (a < 0)) (L + 1021) K, half_word _ _ _ (by omega) (by omega) hK1 hK2, wordN_lt _ _ _ (by omega) hK2, wordN_nan _ _ _ (by omega) hK2, ?_⟩
    · rw [hv, hK]; exact key_sign a _
    · rw [hv', hK']; exact key_sign a _
end Go.Proofs.Ytdnhldmdjbalgaa
