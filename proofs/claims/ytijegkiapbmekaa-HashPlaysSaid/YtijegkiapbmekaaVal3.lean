/- The small helpers of the statements about values. -/
import Derived.Test.YtijegkiapbmekaaVal2
set_option maxRecDepth 100000
set_option linter.unusedVariables false
set_option linter.unusedSimpArgs false
namespace Go.Proofs.Ytijegkiapbmekaa
open Go.RowKit
attribute [local go_sem] run_frombits run_tobits more_more more_drew more_drewN more_size run_cmpstring run_store_float

set_option maxHeartbeats 1000000 in
theorem few_any (A : Option Addr) (ca : Nat) (l : List Val) (n : Int) (w : World) (la : l.length ≤ 9223372036854775807) (ha : ValsIn w A l) :
    Calls Try.prog 12 #[.slice A l.length ca, .int .i64 n] w fun e w' => e = .returned (.bool (fewV l n)) ∧ w = w' := by
  have HA := Lib.hid ha; clear ha
  go_enter Try.func12, Try.ntmps12
  go_wp2
  go_loop [5] (fun i => ∃ k : Nat, k ≤ l.length ∧ i = .int .i64 k ∧ Hid (∀ j (h : j < l.length), j < k → l[j].s.size ≤ 200)) (fun i => l.length - (intOf i).toNat)
  case atStart => exact ⟨0, by omega, rfl, Lib.hid (fun j h h' => by omega)⟩
  case round =>
    obtain ⟨k, hk, rfl, hr⟩ := hrel
    by_cases hlt : k < l.length
    · have hlt' : (k : Int) < (l.length : Int) := by omega
      obtain ⟨b, off, rfl, hb, hcb⟩ := HA.out k hlt
      obtain ⟨_, _, c2, _⟩ := hcb k hlt
      clear hcb
      have HR := Lib.hid (show l[k].s.size ≤ 200 → ∀ j (h : j < l.length), j < k + 1 → l[j].s.size ≤ 200 by
        intro hs j h h'
        rcases Nat.lt_or_ge j k with q | q
        · exact hr.out j h q
        · obtain rfl : j = k := by omega
          exact hs)
      have HF := Lib.hid (show ¬ l[k].s.size ≤ 200 → fewV l n = false by
        intro hs
        unfold fewV
        have : l.all (fun a => decide (a.s.size ≤ 200)) = false := by
          rw [List.all_eq_false]
          exact ⟨l[k], List.getElem_mem hlt, by simpa using hs⟩
        rw [this]; rfl)
      generalize l[k].s = s at c2 HR HF
      go_wp2
      · have h : (200 : Int) < s.size := by assumption
        go_ret
        exact ⟨ret_bool (HF.out (by omega)).symm, rfl⟩
      · have h : (s.size : Int) ≤ 200 := by assumption
        go_round
        case rel => exact ⟨k + 1, by omega, by go_num, Lib.hid (HR.out (by omega))⟩
        case measure => simp [intOf]; omega
    · have hlt' : ¬ (k : Int) < (l.length : Int) := by omega
      go_wp2
      go_ret
      refine ⟨ret_bool ?_, rfl⟩
      unfold fewV
      have : l.all (fun a => decide (a.s.size ≤ 200)) = true := by
        rw [List.all_eq_true]
        intro a ha
        obtain ⟨j, hj, rfl⟩ := List.mem_iff_getElem.1 ha
        simpa using hr.out j hj (by omega)
      rw [this]; simp

def numV (n : Int) : Val := ⟨1, n, ⟨#[]⟩, 0⟩
def floatV (f : Nat) : Val := ⟨5, 0, ⟨#[]⟩, f⟩
def zeroV (k : Int) : Val := if 1 ≤ k ∧ k ≤ 5 then ⟨k, 0, ⟨#[]⟩, 0⟩ else ⟨0, 0, ⟨#[]⟩, 0⟩
def zeroE (k : Int) : Int := if 1 ≤ k ∧ k ≤ 5 then 0 else 10
end Go.Proofs.Ytijegkiapbmekaa
