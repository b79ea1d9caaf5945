/- Plain facts on the bits of floats: the place of a float among all, its way back, its class. No program in sight. -/
import Derived.WalkKit
set_option maxRecDepth 100000
set_option linter.unusedVariables false
set_option linter.unusedSimpArgs false
namespace Go.Proofs.Ytijegkiapbmekaa

/-- the place of a float, of its bits -/
def ordN (b : Nat) : Nat := if 9223372036854775808 ≤ b then 18446744073709551615 - b else b + 9223372036854775808
/-- the bits of the float at a place -/
def ofN (n : Nat) : Nat := if 9223372036854775808 ≤ n then n - 9223372036854775808 else 18446744073709551615 - n
def cmpN (x y : Nat) : Int := if x < y then -1 else if y < x then 1 else 0
def classN (b : Nat) : Int :=
  if b / 4503599627370496 % 2048 = 2047 then (if b % 4503599627370496 = 0 then 2 else 1)
  else if b / 4503599627370496 % 2048 = 0 then (if b % 4503599627370496 = 0 then 3 else 4) else 5

def nextN (b : Nat) : Nat := if ordN b = 18446744073709551615 then b else ofN (ordN b + 1)
def nextOk (b : Nat) : Bool := !decide (ordN b = 18446744073709551615)
theorem ordN_lt {b : Nat} (h : b < 18446744073709551616) : ordN b < 18446744073709551616 := by unfold ordN; split <;> omega
theorem ofN_lt {b : Nat} (h : b < 18446744073709551616) : ofN b < 18446744073709551616 := by unfold ofN; split <;> omega
theorem ordN_ofN {n : Nat} (h : n < 18446744073709551616) : ordN (ofN n) = n := by
  unfold ordN ofN
  by_cases h1 : 9223372036854775808 ≤ n
  · rw [if_pos h1, if_neg (by omega)]; omega
  · rw [if_neg h1, if_pos (by omega)]; omega
theorem ofN_ordN {n : Nat} (h : n < 18446744073709551616) : ofN (ordN n) = n := by
  unfold ordN ofN
  by_cases h1 : 9223372036854775808 ≤ n
  · rw [if_pos h1, if_neg (by omega)]; omega
  · rw [if_neg h1, if_pos (by omega)]; omega
theorem nextN_lt {b : Nat} (h : b < 18446744073709551616) : nextN b < 18446744073709551616 := by
  have := ordN_lt h
  unfold nextN; split
  · exact h
  · exact ofN_lt (by omega)
theorem ordN_inj {a b : Nat} (ha : a < 18446744073709551616) (hb : b < 18446744073709551616) : ordN a = ordN b ↔ a = b :=
  ⟨fun h => by rw [← ofN_ordN ha, h, ofN_ordN hb], fun h => by rw [h]⟩

theorem and63 {b : Nat} (h : b < 18446744073709551616) : bits .and .u64 (b : Int) 9223372036854775808 = if 9223372036854775808 ≤ b then 9223372036854775808 else 0 := by
  have e := u64_and_nat b 9223372036854775808 h (by omega)
  have e2 : b &&& 9223372036854775808 = b / 9223372036854775808 % 2 * 9223372036854775808 := nat_bit 63 b
  refine e.trans ?_
  rw [e2]
  split <;> omega
theorem or63 {b : Nat} (h : b < 9223372036854775808) : bits .or .u64 (b : Int) 9223372036854775808 = ((b + 9223372036854775808 : Nat) : Int) := by
  have e := u64_or_nat b 9223372036854775808 (by omega) (by omega)
  have e2 : 9223372036854775808 ||| b = 9223372036854775808 + b := nat_join 63 9223372036854775808 b (by decide) (by omega)
  refine e.trans ?_
  rw [Nat.or_comm, e2]; omega
theorem nat_not {b : Nat} (h : b < 18446744073709551616) : 18446744073709551615 ^^^ b = 18446744073709551615 - b := by
  have h1 : BitVec.allOnes 64 ^^^ (BitVec.ofNat 64 b) = ~~~ (BitVec.ofNat 64 b) := BitVec.allOnes_xor
  have h2 := congrArg BitVec.toNat h1
  simp only [BitVec.toNat_xor, BitVec.toNat_not, BitVec.toNat_ofNat, BitVec.toNat_allOnes] at h2
  rw [Nat.mod_eq_of_lt (show b < 2 ^ 64 from h)] at h2
  simpa using h2
theorem not64 {b : Nat} (h : b < 18446744073709551616) : bits .xor .u64 IntKind.u64.max (b : Int) = ((18446744073709551615 - b : Nat) : Int) := by
  have e := u64_xor_nat 18446744073709551615 b (by omega) h
  rw [nat_not h] at e
  exact e
theorem xor63 {b : Nat} (h : b < 18446744073709551616) (h1 : 9223372036854775808 ≤ b) : bits .xor .u64 (b : Int) 9223372036854775808 = ((b - 9223372036854775808 : Nat) : Int) := by
  have e := u64_xor_nat b 9223372036854775808 h (by omega)
  refine e.trans ?_
  have e2 : (b - 9223372036854775808) ||| 9223372036854775808 = b := by
    have := nat_join 63 9223372036854775808 (b - 9223372036854775808) (by decide) (by omega)
    rw [Nat.or_comm, this]; omega
  have e3 : (b - 9223372036854775808) &&& 9223372036854775808 = 0 := by
    have : (b - 9223372036854775808) &&& 2 ^ 63 = _ := nat_bit 63 (b - 9223372036854775808)
    rw [show (2 : Nat) ^ 63 = 9223372036854775808 from rfl] at this
    rw [this]; omega
  have e4 : b ^^^ 9223372036854775808 = b - 9223372036854775808 := by
    have e5 : (b - 9223372036854775808) ^^^ 9223372036854775808 = b := by
      apply Nat.eq_of_testBit_eq
      intro i
      have q2 := congrArg (fun n => Nat.testBit n i) e2
      have q3 := congrArg (fun n => Nat.testBit n i) e3
      simp only [Nat.testBit_or, Nat.testBit_and, Nat.zero_testBit] at q2 q3
      rw [Nat.testBit_xor, ← q2]
      cases hx : (b - 9223372036854775808).testBit i <;> cases hy : (9223372036854775808 : Nat).testBit i <;> simp_all
    conv => lhs; rw [← e5]
    rw [Nat.xor_assoc, Nat.xor_self, Nat.xor_zero]
  rw [e4]
theorem andNot63 {b : Nat} (h : b < 18446744073709551616) (h1 : 9223372036854775808 ≤ b) : bits .andNot .u64 (b : Int) 9223372036854775808 = ((b - 9223372036854775808 : Nat) : Int) := by
  have e := u64_andNot_nat b 9223372036854775808 h (by omega)
  refine e.trans ?_
  have e2 : b &&& (18446744073709551615 - 9223372036854775808) = b % 9223372036854775808 := Nat.and_two_pow_sub_one_eq_mod b 63
  rw [e2]; omega
theorem and52 {b : Nat} (h : b < 18446744073709551616) : bits .and .u64 (b : Int) 4503599627370495 = ((b % 4503599627370496 : Nat) : Int) := by
  have e := u64_and_nat b 4503599627370495 h (by omega)
  refine e.trans ?_
  rw [show b &&& 4503599627370495 = b % 4503599627370496 from Nat.and_two_pow_sub_one_eq_mod b 52]
theorem and11 {b : Nat} (h : b < 18446744073709551616) : bits .and .u64 ((b : Int) / 4503599627370496) 2047 = ((b / 4503599627370496 % 2048 : Nat) : Int) := by
  have e := u64_and_nat (b / 4503599627370496) 2047 (by omega) (by omega)
  refine Eq.trans ?_ (e.trans ?_)
  · rfl
  · rw [show b / 4503599627370496 &&& 2047 = b / 4503599627370496 % 2048 from Nat.and_two_pow_sub_one_eq_mod _ 11]
theorem cell_lt {w : World} {a : Addr} {v : Value} (h : w.cell? a = some v) : a.block < w.heap.size := by
  rcases Nat.lt_or_ge a.block w.heap.size with h1 | h1
  · exact h1
  · simp [World.cell?, Array.getElem?_eq_none h1] at h
theorem u8_nat {a : Int} (h : (Lit.int .u8 a).wf = true) : ∃ n : Nat, a = (n : Int) ∧ n < 256 := by
  have h' : 0 ≤ a ∧ a ≤ 255 := by simpa [Lit.wf, IntKind.min, IntKind.max, IntKind.signed, IntKind.bits] using h
  exact ⟨a.toNat, by omega, by omega⟩
theorem u64_nat {a : Int} (h : (Lit.int .u64 a).wf = true) : ∃ n : Nat, a = (n : Int) ∧ n < 18446744073709551616 := by
  have h' : 0 ≤ a ∧ a ≤ 18446744073709551615 := by simpa [Lit.wf, IntKind.min, IntKind.max, IntKind.signed, IntKind.bits] using h
  exact ⟨a.toNat, by omega, by omega⟩
end Go.Proofs.Ytijegkiapbmekaa
