/- Plain: the hash tells rows apart whose last number differs in its lowest bit. -/
import Derived.Test.YtdnhldmdjbalgaaHash
set_option linter.unusedVariables false
set_option linter.unusedSimpArgs false
namespace Go.Proofs.Ytdnhldmdjbalgaa

theorem mul_inj {x y : Nat} (hx : x < 18446744073709551616) (hy : y < 18446744073709551616) (h : x * 1099511628211 % 18446744073709551616 = y * 1099511628211 % 18446744073709551616) : x = y := by
  have key : ∀ z, z < 18446744073709551616 → (z * 1099511628211 % 18446744073709551616) * 14886173955864302971 % 18446744073709551616 = z := by
    intro z hz
    rw [Nat.mod_mul_mod, Nat.mul_assoc, Nat.mul_mod, show 1099511628211 * 14886173955864302971 % 18446744073709551616 = 1 from by decide +kernel, Nat.mul_one, Nat.mod_mod]
    exact Nat.mod_eq_of_lt hz
  rw [← key x hx, ← key y hy, h]
theorem hbN_inj {h h' c : Nat} (hh : h < 18446744073709551616) (hh' : h' < 18446744073709551616) (hc : c < 256) (e : hbN h c = hbN h' c) : h = h' := by
  have := mul_inj (Nat.xor_lt_two_pow (n := 64) hh (by omega)) (Nat.xor_lt_two_pow (n := 64) hh' (by omega)) e
  have h2 := congrArg (· ^^^ c) this
  simpa [Nat.xor_assoc] using h2
theorem hbN_injc {h c c' : Nat} (hh : h < 18446744073709551616) (hc : c < 256) (hc' : c' < 256) (e : hbN h c = hbN h c') : c = c' := by
  have := mul_inj (Nat.xor_lt_two_pow (n := 64) hh (by omega)) (Nat.xor_lt_two_pow (n := 64) hh (by omega)) e
  have h2 := congrArg (h ^^^ ·) this
  simpa [← Nat.xor_assoc] using h2
theorem h8N_inj : ∀ (k : Nat) {h h' : Nat} (n : Nat), h < 18446744073709551616 → h' < 18446744073709551616 → h8N k h n = h8N k h' n → h = h'
  | 0, h, h', n, hh, hh', e => e
  | k + 1, h, h', n, hh, hh', e => hbN_inj hh hh' (by omega) (h8N_inj k (n / 256) (hbN_lt _ _) (hbN_lt _ _) e)
theorem xor_one (u : Nat) : (u ^^^ 1) / 2 = u / 2 ∧ (u ^^^ 1) % 2 = 1 - u % 2 := by
  constructor
  · have h : (u ^^^ 1) >>> 1 = (u >>> 1) ^^^ (1 >>> 1) := Nat.shiftRight_xor_distrib
    simp only [Nat.shiftRight_eq_div_pow] at h
    simpa using h
  · have h : (u ^^^ 1).testBit 0 = (u.testBit 0 ^^ (1 : Nat).testBit 0) := Nat.testBit_xor ..
    simp only [Nat.testBit_zero] at h
    rcases Nat.mod_two_eq_zero_or_one u with h1 | h1
    · have h2 : (u ^^^ 1) % 2 = 1 := by
        simp only [h1] at h
        revert h; simp
      omega
    · have h2 : ¬ (u ^^^ 1) % 2 = 1 := by
        intro h3; simp [h1, h3] at h
      omega
/-- the number whose lowest bit is turned -/
theorem low_bit (n : Int) (h1 : -9223372036854775808 ≤ n) (h2 : n < 9223372036854775808) :
    -9223372036854775808 ≤ bits .xor .i64 n 1 ∧ bits .xor .i64 n 1 < 9223372036854775808 ∧ (bits .xor .i64 n 1 % 18446744073709551616).toNat = (n % 18446744073709551616).toNat ^^^ 1 := by
  have e : bits .xor .i64 n 1 = IntKind.i64.wrap (((n % 18446744073709551616).toNat ^^^ 1 : Nat) : Int) := by
    show IntKind.i64.wrap ((BitVec.ofInt 64 n ^^^ BitVec.ofInt 64 1).toNat : Int) = _
    rw [BitVec.toNat_xor, BitVec.toNat_ofInt, BitVec.toNat_ofInt]
    rfl
  have hx : (n % 18446744073709551616).toNat ^^^ 1 < 18446744073709551616 := Nat.xor_lt_two_pow (n := 64) (by omega) (by omega)
  rw [e, IntKind.wrap_i64]
  omega
theorem h8N_succ (k h n : Nat) : h8N (k + 1) h n = h8N k (hbN h (n % 256)) (n / 256) := rfl
attribute [local irreducible] h8N hbN ordN
theorem hash1_num (g : Nat) (n : Int) : hash1 g (numV n) = h8N 8 (h8N 8 (h8N 8 (hbN g 1) (n % 18446744073709551616).toNat) 0) (ordN 0) := by
  have h0 : ∀ x, hbytes x (numV n).s.toList = x := fun x => by
    have : (numV n).s.toList = [] := by show (⟨#[]⟩ : ByteArray).toList = []; rw [ByteArray.toList_eq]
    rw [this]; unfold hbytes; rw [List.foldl_nil]
  have h1 : ((numV n).k % 256).toNat = 1 := by show ((1 : Int) % 256).toNat = 1; decide
  have h2 : (numV n).i = n := rfl
  have h3 : (numV n).s.size = 0 := rfl
  have h4 : (numV n).f = 0 := rfl
  unfold hash1
  rw [h0, h1, h2, h3, h4]
theorem hashV_snoc (l : List Val) (a : Val) : hashV (l ++ [a]) = hash1 (hashV l) a := by
  unfold hashV; rw [List.foldl_append, List.foldl_cons, List.foldl_nil]
theorem num_low (g u : Nat) (hg : g < 18446744073709551616) (h : h8N 8 (h8N 8 (h8N 8 g u) 0) (ordN 0) = h8N 8 (h8N 8 (h8N 8 g (u ^^^ 1)) 0) (ordN 0)) : False := by
  have e2 := h8N_inj 8 (ordN 0) (h8N_lt 8 (h8N 8 g u) 0 (h8N_lt 8 g u hg)) (h8N_lt 8 (h8N 8 g (u ^^^ 1)) 0 (h8N_lt 8 g (u ^^^ 1) hg)) h
  have e4 := h8N_inj 8 0 (h8N_lt 8 g u hg) (h8N_lt 8 g (u ^^^ 1) hg) e2
  clear e2 h
  obtain ⟨x1, x2⟩ := xor_one u
  generalize u ^^^ 1 = v at e4 x1 x2
  have d1 : v / 256 = u / 256 := by omega
  have d2 : v % 256 ≠ u % 256 := by omega
  have e6 : h8N 7 (hbN g (u % 256)) (u / 256) = h8N 7 (hbN g (v % 256)) (u / 256) := by
    rw [← h8N_succ 7 g u, e4, h8N_succ 7 g v, d1]
  have e5 := h8N_inj 7 (u / 256) (hbN_lt g (u % 256)) (hbN_lt g (v % 256)) e6
  exact d2 (hbN_injc hg (Nat.mod_lt _ (by decide)) (Nat.mod_lt _ (by decide)) e5.symm)
theorem hash_low (l : List Val) (n : Int) (h1 : -9223372036854775808 ≤ n) (h2 : n < 9223372036854775808) : hashV (l ++ [numV n]) ≠ hashV (l ++ [numV (bits .xor .i64 n 1)]) := by
  intro h
  rw [hashV_snoc, hashV_snoc, hash1_num, hash1_num, (low_bit n h1 h2).2.2] at h
  exact num_low _ _ (hbN_lt _ _) h
end Go.Proofs.Ytdnhldmdjbalgaa
