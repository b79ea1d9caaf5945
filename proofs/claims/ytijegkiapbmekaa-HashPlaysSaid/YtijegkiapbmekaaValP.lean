/- Plain: values, how they compare, their hash. No program in sight. -/
import Derived.Test.YtijegkiapbmekaaPlain
import Derived.Lib.Bytealg
set_option maxRecDepth 100000
set_option linter.unusedVariables false
set_option linter.unusedSimpArgs false
namespace Go.Proofs.Ytijegkiapbmekaa

/-- a value as Go has it -/
structure Val where
  k : Int
  i : Int
  s : ByteArray
  f : Nat
def Val.v (a : Val) : Value := .agg #[.int .i64 a.k, .int .i64 a.i, .string a.s, .float .f64 a.f]
def Val.ok (a : Val) : Prop := a.f < 18446744073709551616 ∧ (-9223372036854775808 ≤ a.k ∧ a.k < 9223372036854775808) ∧ (-9223372036854775808 ≤ a.i ∧ a.i < 9223372036854775808) ∧ a.s.size ≤ 9223372036854775807
def allOk (l : List Val) : Prop := ∀ a ∈ l, a.ok
def cmpI (x y : Int) : Int := if x < y then -1 else if y < x then 1 else 0
def orI (x y : Int) : Int := if x = 0 then y else x
def cmpB (x y : ByteArray) : Int := Lib.compareBytes x.data.toList y.data.toList
def cmpV (a b : Val) : Int := orI (cmpI a.k b.k) (orI (cmpI a.i b.i) (orI (cmpB a.s b.s) (cmpN (ordN a.f) (ordN b.f))))
def rowsV : List Val → List Val → Int
  | [], [] => 0
  | [], _ :: _ => -1
  | _ :: _, [] => 1
  | a :: l, b :: m => orI (cmpV a b) (rowsV l m)
theorem rowsV_nil (l m : List Val) (h : l = [] ∨ m = []) : rowsV l m = cmpI l.length m.length := by
  rcases h with rfl | rfl
  · cases m
    · rfl
    · unfold rowsV cmpI; rw [if_pos (by simp)]
  · cases l
    · rfl
    · unfold rowsV cmpI; rw [if_neg (by simp only [List.length_cons, List.length_nil]; omega), if_pos (by simp)]
def sgnB (p : Bool) : Int := if p = true then -1 else 1
def plainV (a : Val) : Bool := decide (a.f = 0)
def isV (a : Val) : Bool :=
  if a.k = 1 then a.s.toList.isEmpty && plainV a
  else if a.k = 2 then (a.i == 0 || a.i == 1) && a.s.toList.isEmpty && plainV a
  else if a.k = 3 ∨ a.k = 4 then decide ((a.s.size : Int) ≤ 60) && a.i == 0 && plainV a
  else if a.k = 5 then a.i == 0 && a.s.toList.isEmpty
  else false
def fewV (l : List Val) (n : Int) : Bool := l.all (fun a => decide (a.s.size ≤ 200)) && decide ((l.length : Int) ≤ n)

theorem compareBytes_eq : ∀ (x y : List UInt8), Lib.compareBytes x y = if Op.bytesLess x y = true then -1 else if x = y then 0 else 1
  | [], [] => by simp [Lib.compareBytes, Op.bytesLess]
  | [], _ :: _ => by simp [Lib.compareBytes, Op.bytesLess]
  | _ :: _, [] => by simp [Lib.compareBytes, Op.bytesLess]
  | a :: x, b :: y => by
    unfold Lib.compareBytes Op.bytesLess
    rw [compareBytes_eq x y]
    by_cases h1 : a < b
    · simp [h1]
    · by_cases h2 : b < a
      · have h3 : ¬ a = b := by intro e; subst e; exact h1 h2
        simp [h1, h2, h3]
      · have h3 : a = b := by
          apply UInt8.le_antisymm
          · exact UInt8.not_lt.1 h2
          · exact UInt8.not_lt.1 h1
        subst h3
        simp [h1]
theorem cmpB_eq (x y : ByteArray) : cmpB x y = if Op.bytesLess x.toList y.toList = true then -1 else if x.toList = y.toList then 0 else 1 := by
  unfold cmpB; rw [compareBytes_eq, ByteArray.toList_eq, ByteArray.toList_eq]
theorem bytesLess_irrefl : ∀ x : List UInt8, Op.bytesLess x x = false
  | [] => rfl
  | a :: x => by unfold Op.bytesLess; simp [bytesLess_irrefl x]

theorem cmpV_refl (a : Val) : cmpV a a = 0 := by
  unfold cmpV orI cmpI cmpB cmpN
  have : Lib.compareBytes a.s.data.toList a.s.data.toList = 0 := by
    rw [compareBytes_eq, bytesLess_irrefl]; simp
  simp [this]
theorem cmpI_bd (x y : Int) : -1 ≤ cmpI x y ∧ cmpI x y ≤ 1 := by unfold cmpI; split <;> (try split) <;> omega
theorem cmpI_anti (x y : Int) : cmpI y x = -cmpI x y := by unfold cmpI; split <;> (try split) <;> (try split) <;> omega
theorem cmpI_zero (x y : Int) : cmpI x y = 0 ↔ x = y := by unfold cmpI; split <;> (try split) <;> omega
theorem cmpI_lt (x y : Int) : cmpI x y = -1 ↔ x < y := by unfold cmpI; split <;> (try split) <;> omega
theorem cmpN_is (x y : Nat) : cmpN x y = cmpI x y := by
  unfold cmpN cmpI
  simp only [show ((x : Int) < y) = (x < y) from propext (by omega), show ((y : Int) < x) = (y < x) from propext (by omega)]
end Go.Proofs.Ytijegkiapbmekaa
