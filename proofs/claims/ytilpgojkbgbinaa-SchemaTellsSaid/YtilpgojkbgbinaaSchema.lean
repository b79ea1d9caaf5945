/- Package schema: names. -/
import Derived.Test.YtilpgojkbgbinaaVal2
set_option maxRecDepth 100000
set_option linter.unusedVariables false
set_option linter.unusedSimpArgs false
namespace Go.Proofs.Ytilpgojkbgbinaa
open Go.RowKit
attribute [local go_sem] run_frombits run_tobits more_more more_drew more_drewN more_size more_cell more_frozen run_store_float lt_c1 le_c1 lt_s1 le_s1 lt_c2 le_c2 lt_s2 le_s2 lt_c3 le_c3 lt_s3 le_s3 lt_c4 le_c4 lt_s4 le_s4 lt_c5 le_c5 lt_s5 le_s5 lt_c6 le_c6 lt_s6 le_s6 lt_c7 le_c7 lt_s7 le_s7 lt_c8 le_c8 lt_s8 le_s8 lt_c9 le_c9 lt_s9 le_s9 lt_c10 le_c10 lt_s10 le_s10 lt_c11 le_c11 lt_s11 le_s11 lt_c12 le_c12 lt_s12 le_s12 le_c0

def nameC (c : Nat) : Bool := (decide (97 ≤ c) && decide (c ≤ 122)) || (decide (48 ≤ c) && decide (c ≤ 57)) || c == 95
def namesL (l : List UInt8) : Bool := l.all (fun c => nameC c.toNat)
def namedB (s : ByteArray) : Bool := namesL s.toList && (decide (1 ≤ s.size) && decide (s.size ≤ 20))
theorem drop_step (s : ByteArray) (j : Nat) (h : j < s.size) : s.toList.drop j = s[j] :: s.toList.drop (j + 1) := by
  rw [ByteArray.toList_eq, List.drop_eq_getElem_cons (by simpa using h)]; rfl
theorem drop_end (s : ByteArray) : s.toList.drop s.size = [] := by
  rw [ByteArray.toList_eq]; exact List.drop_eq_nil_of_le (by simp)
theorem namesL_cons (c : UInt8) (l : List UInt8) : namesL (c :: l) = (nameC c.toNat && namesL l) := rfl

theorem nameC_iff (c : Nat) : nameC c = true ↔ (97 ≤ c ∧ c ≤ 122) ∨ (48 ≤ c ∧ c ≤ 57) ∨ c = 95 := by
  unfold nameC
  simp [or_assoc]
set_option maxHeartbeats 1000000 in
theorem named_any (s : ByteArray) (w : World) (ls : s.size ≤ 9223372036854775807) :
    Calls Try.prog 73 #[.string s] w fun e w' => e = .returned (.bool (namedB s)) ∧ w = w' := by
  go_enter Try.func73, Try.ntmps73
  go_wp2
  go_loop [7] (fun i => ∃ k : Nat, k ≤ s.size ∧ i = .int .i64 k ∧ Hid (namesL (s.toList.drop k) = namesL s.toList)) (fun i => s.size - (intOf i).toNat)
  case atStart => exact ⟨0, by omega, rfl, Lib.hid rfl⟩
  case round =>
    obtain ⟨k, hk, rfl, hr⟩ := hrel
    by_cases hlt : k < s.size
    · have hlt' : (k : Int) < (s.size : Int) := by omega
      have HS := Lib.hid (show (nameC s[k].toNat && namesL (s.toList.drop (k + 1))) = namesL s.toList by
        rw [← namesL_cons, ← drop_step s k hlt]; exact hr.out)
      have HF := Lib.hid (show nameC s[k].toNat = false → namedB s = false by
        intro h
        unfold namedB
        rw [← HS.out, h]; rfl)
      have HC := Lib.hid (nameC_iff s[k].toNat)
      go_wp2
      all_goals
        try simp only [Bool.not_eq_true', Bool.not_eq_false', decide_eq_false_iff_not, decide_eq_true_eq, beq_eq_false_iff_ne, beq_iff_eq, ne_eq] at *
      all_goals first
        | (refine ⟨⟨k + 1, by omega, by go_num, Lib.hid ?_⟩, ?_⟩
           · have h1 : nameC s[k].toNat = true := by
               rw [HC.out]
               omega
             have := HS.out
             rw [h1] at this
             exact this
           · simp [intOf]; omega)
        | (have h1 : nameC s[k].toNat = false := Bool.eq_false_iff.2 fun h => by
             have := HC.out.1 h
             omega
           go_ret
           exact ⟨ret_bool (HF.out h1).symm, rfl⟩)
    · have hlt' : ¬ (k : Int) < (s.size : Int) := by omega
      have e : k = s.size := by omega
      have h1 : namesL s.toList = true := by rw [← hr.out, e, drop_end]; rfl
      clear e
      have hz : s.size = s.toList.length := by rw [ByteArray.toList_eq]; simp
      go_wp2
      all_goals
        go_ret
        refine ⟨ret_bool ?_, rfl⟩
        unfold namedB
        rw [h1, hz]
        clear hr hk h1 hlt hz
        generalize s.toList = l at *
        cases l with
        | nil => simp at *
        | cons a l => simp at * <;> (try omega)
end Go.Proofs.Ytilpgojkbgbinaa
