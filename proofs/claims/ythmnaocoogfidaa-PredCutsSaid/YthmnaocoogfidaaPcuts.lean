/- PredCuts: a row is cut to so many behind so many. -/
import Derived.Test.YthmnaocoogfidaaKnown20
import Derived.Test.YthmnaocoogfidaaOpen
set_option maxRecDepth 100000
set_option linter.unusedVariables false
set_option linter.unusedSimpArgs false
namespace Go.Proofs.Ythmnaocoogfidaa
open Go.RowKit
attribute [local go_sem] run_frombits run_tobits more_more more_drew more_drewN more_size more_cell more_frozen run_store_float lt_c1 le_c1 lt_s1 le_s1 lt_c2 le_c2 lt_s2 le_s2 lt_c3 le_c3 lt_s3 le_s3 lt_c4 le_c4 lt_s4 le_s4 lt_c5 le_c5 lt_s5 le_s5 lt_c6 le_c6 lt_s6 le_s6 lt_c7 le_c7 lt_s7 le_s7 lt_c8 le_c8 lt_s8 le_s8 lt_c9 le_c9 lt_s9 le_s9 lt_c10 le_c10 lt_s10 le_s10 lt_c11 le_c11 lt_s11 le_s11 lt_c12 le_c12 lt_s12 le_s12 le_c0

def upto (k : Nat) : List Int := (List.range k).map fun (i : Nat) => (i : Int)
theorem upto_len (k : Nat) : (upto k).length = k := by simp [upto]
theorem upto_succ (k : Nat) : upto (k + 1) = upto k ++ [(k : Int)] := by simp [upto, List.range_succ]
def fromN (k : Nat) (off : Int) : Nat := min off.toNat k
def manyN (k : Nat) (off lim : Int) : Nat := if 0 ≤ lim then min (k - fromN k off) lim.toNat else k - fromN k off
theorem cut_upto (k : Nat) (off lim : Int) : (cutL (upto k) off lim).length = manyN k off lim ∧ ∀ i (h : i < (cutL (upto k) off lim).length), (cutL (upto k) off lim)[i] = ((fromN k off + i : Nat) : Int) := by
  unfold manyN fromN cutL
  by_cases h : 0 ≤ lim
  · simp only [if_pos h]
    refine ⟨by simp [upto_len]; omega, fun i hi => ?_⟩
    simp [upto_len] at hi
    rw [List.getElem_take, List.getElem_drop]
    simp [upto]; omega
  · simp only [if_neg h]
    refine ⟨by simp [upto_len]; omega, fun i hi => ?_⟩
    simp [upto_len] at hi
    rw [List.getElem_drop]
    simp [upto]; omega
set_option maxHeartbeats 4000000 in
theorem walk_PredCuts (n : Nat) (off lim : Int) (hn : n < 256) (o1 : -9223372036854775808 ≤ off) (o2 : off < 9223372036854775808) (l1 : -9223372036854775808 ≤ lim) (l2 : lim < 9223372036854775808) (w : World) :
    Gives Try.prog 3 #[.int .u8 n, .int .i64 off, .int .i64 lim] w (.bool true) := by
  obtain ⟨i0, hi0, hi1, hi2, hi3⟩ := info_parts info_int
  go_enter Try.func3, Try.ntmps3
  go_wp2_with fail
  refine (known20 _).mono' ?_; intro x0
  go_wp2_with fail
  generalize hX : (n : Int) % 40 = X at *
  obtain ⟨N, rfl⟩ : ∃ N : Nat, X = N := ⟨X.toNat, by omega⟩
  have hN1 : N < 40 := by omega
  clear hX
  go_loopw [8, 9] (fun v i wr => ∃ k : Nat, k ≤ N ∧ i = .int .i64 k ∧ wr.ownsRow w.heap.size 3 1 v k (rowC intC (upto k)) ∧ Below w.heap.size w wr) (fun _ i _ => N - (intOf i).toNat)
  case atStart => exact ⟨0, by omega, rfl, by rw [show upto 0 = [] from rfl]; exact World.ownsRow_nil _ _ _ _, (by repeat (first | (with_reducible exact Below.refl _ _) | (with_reducible refine Below.drew ?_) | (with_reducible refine Below.alloc ?_ (by simp [more_size]; try omega) _) | (with_reducible refine Below.setCell ?_ (by simp [more_size]; try omega) _) | (with_reducible refine below_more ?_ _ (by simp [more_size]; try omega))))⟩
  case round =>
    obtain ⟨k, hk1, rfl, hown, hb⟩ := hrel
    replace hown := Lib.hid hown
    by_cases hlt : k < N
    · have hlt' : (k : Int) < (N : Int) := by omega
      go_wp2_with (first
        | (at_builtin; refine wpList_append_own_at _ rfl _ _ 23 rfl _ 3 i0 _ 1 8 Try.underlying23 hi0 hi1 hi2 hi3 rfl (by decide) u8 k (rowC intC (upto k)) rfl (own_below hown.out (by repeat (first | (with_reducible exact Below.refl _ _) | (with_reducible refine Below.drew ?_) | (with_reducible refine Below.alloc ?_ (by simp [more_size]; try omega) _) | (with_reducible refine Below.setCell ?_ (by simp [more_size]; try omega) _) | (with_reducible refine below_more ?_ _ (by simp [more_size]; try omega))))) _ 1 1 (intC k) rfl (intC_len _) (cells_at _ (intC k) _ (by simp)) (intC_one _) (by unfold maxLen; omega) (by omega) (by have := hb.size; simp; omega) ?_; intro v1 w1 own1 grow1 _ _)
        | fail)
      have ge1 := own_ge hown.out
      have bb1 : Below w.heap.size w w1 := Below.grown (hb.alloc hb.size _) grow1 (by have := hb.size; simp; omega) ge1
      refine ⟨⟨k + 1, by omega, by go_num, ?_, bb1⟩, by simp [intOf]; omega⟩
      rw [upto_succ, rowC_append, rowC_single]
      exact own1
    · have hlt' : ¬ (k : Int) < (N : Int) := by omega
      obtain rfl : k = N := by omega
      obtain ⟨A, ca, rfl, la, lc, hA, hfl⟩ := ints_own (upto_len k) hown.out
      clear hown hlt hlt'
      obtain ⟨W1, rfl⟩ : ∃ W1 : World, W1 = wr := ⟨_, rfl⟩
      obtain ⟨E1, E2⟩ := cut_upto k off lim
      have CU := Lib.hid (cut_any A ca k (upto k) off lim W1 (by omega) la lc ⟨upto_len k, (fun e => by
        have := hA e
        obtain rfl : k = 0 := by omega
        exact ⟨this, List.eq_nil_of_length_eq_zero (upto_len 0)⟩), hfl⟩)
      clear hA hfl hN1 hk1
      replace hb := Lib.hid hb
      clear o1 o2 l1 l2
      rcases (show off < 0 ∨ (0 ≤ off ∧ off < k) ∨ (k : Int) ≤ off by omega) with s | ⟨s1, s2⟩ | s
      · rcases (show lim < 0 ∨ (0 ≤ lim ∧ lim < k) ∨ (k : Int) ≤ lim by omega) with r | ⟨r1, r2⟩ | r
        · have e3 : (cutL (upto k) off lim).length = k := by rw [E1]; unfold manyN fromN;  split <;> omega
          have e4 : ∀ i (h : i < (cutL (upto k) off lim).length), (cutL (upto k) off lim)[i] = ((0 + i : Nat) : Int) := fun i h => by rw [E2 i h]; unfold fromN;  omega
          clear E1 E2
          replace e3 := Lib.hid e3
          replace e4 := Lib.hid e4
          go_wp2_with fail
          refine CU.out.mono ?_
          rintro e w1 ⟨v1, rfl, own1, b1⟩
          obtain ⟨A1, c1, rfl, q1', q2', q3', q4'⟩ := ints_own e3.out (by have o9 := own1; rw [e3.out] at o9; exact o9)
          replace b1 := Lib.hid b1
          replace q4' := Lib.hid q4'
          clear own1 CU
          go_wp2_with fail
          go_loop [13] (fun i => ∃ j : Nat, j ≤ k ∧ i = .int .i64 j) (fun i => k - (intOf i).toNat)
          case atStart => exact ⟨0, by omega, rfl⟩
          case round =>
            obtain ⟨j, hj, rfl⟩ := hrel
            by_cases hjl : j < k
            · have hjl' : (j : Int) < (k : Int) := by omega
              have hjn : j < (cutL (upto k) off lim).length := by rw [e3.out]; exact hjl
              obtain ⟨b, of, rfl, hbl, hcb⟩ := q4'.out j hjn
              have c0 := hcb j hjn
              rw [e4.out] at c0
              replace c0 : w1.cell? ⟨b, of + j, none⟩ = some (.int .i64 (j : Int)) := by rw [c0]; first | rfl | (congr 2; omega)
              clear hcb
              go_wp2
              go_round
              case rel => exact ⟨j + 1, by omega, by go_num⟩
              case measure => simp [intOf]; omega
            · have hjl' : ¬ (j : Int) < (k : Int) := by omega
              go_wp2
              go_ret
              exact ⟨rfl, more_then hb.out b1.out⟩
        · obtain ⟨q, rfl⟩ := Int.eq_ofNat_of_zero_le r1
          replace r2 : q < k := by omega
          have r3 : (q : Int) < (k : Int) := by omega
          have e3 : (cutL (upto k) off (q : Int)).length = q := by rw [E1]; unfold manyN fromN;  split <;> omega
          have e4 : ∀ i (h : i < (cutL (upto k) off (q : Int)).length), (cutL (upto k) off (q : Int))[i] = ((0 + i : Nat) : Int) := fun i h => by rw [E2 i h]; unfold fromN;  omega
          clear E1 E2
          replace e3 := Lib.hid e3
          replace e4 := Lib.hid e4
          go_wp2_with fail
          refine CU.out.mono ?_
          rintro e w1 ⟨v1, rfl, own1, b1⟩
          obtain ⟨A1, c1, rfl, q1', q2', q3', q4'⟩ := ints_own e3.out (by have o9 := own1; rw [e3.out] at o9; exact o9)
          replace b1 := Lib.hid b1
          replace q4' := Lib.hid q4'
          clear own1 CU
          go_wp2_with fail
          go_loop [13] (fun i => ∃ j : Nat, j ≤ q ∧ i = .int .i64 j) (fun i => q - (intOf i).toNat)
          case atStart => exact ⟨0, by omega, rfl⟩
          case round =>
            obtain ⟨j, hj, rfl⟩ := hrel
            by_cases hjl : j < q
            · have hjl' : (j : Int) < (q : Int) := by omega
              have hjn : j < (cutL (upto k) off (q : Int)).length := by rw [e3.out]; exact hjl
              obtain ⟨b, of, rfl, hbl, hcb⟩ := q4'.out j hjn
              have c0 := hcb j hjn
              rw [e4.out] at c0
              replace c0 : w1.cell? ⟨b, of + j, none⟩ = some (.int .i64 (j : Int)) := by rw [c0]; first | rfl | (congr 2; omega)
              clear hcb
              go_wp2
              go_round
              case rel => exact ⟨j + 1, by omega, by go_num⟩
              case measure => simp [intOf]; omega
            · have hjl' : ¬ (j : Int) < (q : Int) := by omega
              go_wp2
              go_ret
              exact ⟨rfl, more_then hb.out b1.out⟩
        · have e3 : (cutL (upto k) off lim).length = k := by rw [E1]; unfold manyN fromN;  split <;> omega
          have e4 : ∀ i (h : i < (cutL (upto k) off lim).length), (cutL (upto k) off lim)[i] = ((0 + i : Nat) : Int) := fun i h => by rw [E2 i h]; unfold fromN;  omega
          clear E1 E2
          replace e3 := Lib.hid e3
          replace e4 := Lib.hid e4
          go_wp2_with fail
          refine CU.out.mono ?_
          rintro e w1 ⟨v1, rfl, own1, b1⟩
          obtain ⟨A1, c1, rfl, q1', q2', q3', q4'⟩ := ints_own e3.out (by have o9 := own1; rw [e3.out] at o9; exact o9)
          replace b1 := Lib.hid b1
          replace q4' := Lib.hid q4'
          clear own1 CU
          go_wp2_with fail
          go_loop [13] (fun i => ∃ j : Nat, j ≤ k ∧ i = .int .i64 j) (fun i => k - (intOf i).toNat)
          case atStart => exact ⟨0, by omega, rfl⟩
          case round =>
            obtain ⟨j, hj, rfl⟩ := hrel
            by_cases hjl : j < k
            · have hjl' : (j : Int) < (k : Int) := by omega
              have hjn : j < (cutL (upto k) off lim).length := by rw [e3.out]; exact hjl
              obtain ⟨b, of, rfl, hbl, hcb⟩ := q4'.out j hjn
              have c0 := hcb j hjn
              rw [e4.out] at c0
              replace c0 : w1.cell? ⟨b, of + j, none⟩ = some (.int .i64 (j : Int)) := by rw [c0]; first | rfl | (congr 2; omega)
              clear hcb
              go_wp2
              go_round
              case rel => exact ⟨j + 1, by omega, by go_num⟩
              case measure => simp [intOf]; omega
            · have hjl' : ¬ (j : Int) < (k : Int) := by omega
              go_wp2
              go_ret
              exact ⟨rfl, more_then hb.out b1.out⟩
      · obtain ⟨o, rfl⟩ := Int.eq_ofNat_of_zero_le s1
        obtain ⟨d, hd⟩ : ∃ d, k = o + d := ⟨k - o, by omega⟩
        have s3 : 0 < d := by omega
        have s4 : (k : Int) - o = d := by omega
        have s5 : ¬ (k : Int) < o := by omega
        replace hd := Lib.hid hd
        rcases (show lim < 0 ∨ (0 ≤ lim ∧ lim < d) ∨ (d : Int) ≤ lim by omega) with r | ⟨r1, r2⟩ | r
        · have e3 : (cutL (upto k) (o : Int) lim).length = d := by rw [E1]; unfold manyN fromN; have := hd.out; split <;> omega
          have e4 : ∀ i (h : i < (cutL (upto k) (o : Int) lim).length), (cutL (upto k) (o : Int) lim)[i] = ((o + i : Nat) : Int) := fun i h => by rw [E2 i h]; unfold fromN; have := hd.out; omega
          clear E1 E2
          replace e3 := Lib.hid e3
          replace e4 := Lib.hid e4
          go_wp2_with fail
          refine CU.out.mono ?_
          rintro e w1 ⟨v1, rfl, own1, b1⟩
          obtain ⟨A1, c1, rfl, q1', q2', q3', q4'⟩ := ints_own e3.out (by have o9 := own1; rw [e3.out] at o9; exact o9)
          replace b1 := Lib.hid b1
          replace q4' := Lib.hid q4'
          clear own1 CU
          go_wp2_with fail
          go_loop [13] (fun i => ∃ j : Nat, j ≤ d ∧ i = .int .i64 j) (fun i => d - (intOf i).toNat)
          case atStart => exact ⟨0, by omega, rfl⟩
          case round =>
            obtain ⟨j, hj, rfl⟩ := hrel
            by_cases hjl : j < d
            · have hjl' : (j : Int) < (d : Int) := by omega
              have hjn : j < (cutL (upto k) (o : Int) lim).length := by rw [e3.out]; exact hjl
              obtain ⟨b, of, rfl, hbl, hcb⟩ := q4'.out j hjn
              have c0 := hcb j hjn
              rw [e4.out] at c0
              replace c0 : w1.cell? ⟨b, of + j, none⟩ = some (.int .i64 ((o : Int) + j)) := by rw [c0]; first | rfl | (congr 2; omega)
              clear hcb
              go_wp2
              go_round
              case rel => exact ⟨j + 1, by omega, by go_num⟩
              case measure => simp [intOf]; omega
            · have hjl' : ¬ (j : Int) < (d : Int) := by omega
              go_wp2
              go_ret
              exact ⟨rfl, more_then hb.out b1.out⟩
        · obtain ⟨q, rfl⟩ := Int.eq_ofNat_of_zero_le r1
          replace r2 : q < d := by omega
          have r3 : (q : Int) < (d : Int) := by omega
          have e3 : (cutL (upto k) (o : Int) (q : Int)).length = q := by rw [E1]; unfold manyN fromN; have := hd.out; split <;> omega
          have e4 : ∀ i (h : i < (cutL (upto k) (o : Int) (q : Int)).length), (cutL (upto k) (o : Int) (q : Int))[i] = ((o + i : Nat) : Int) := fun i h => by rw [E2 i h]; unfold fromN; have := hd.out; omega
          clear E1 E2
          replace e3 := Lib.hid e3
          replace e4 := Lib.hid e4
          go_wp2_with fail
          refine CU.out.mono ?_
          rintro e w1 ⟨v1, rfl, own1, b1⟩
          obtain ⟨A1, c1, rfl, q1', q2', q3', q4'⟩ := ints_own e3.out (by have o9 := own1; rw [e3.out] at o9; exact o9)
          replace b1 := Lib.hid b1
          replace q4' := Lib.hid q4'
          clear own1 CU
          go_wp2_with fail
          go_loop [13] (fun i => ∃ j : Nat, j ≤ q ∧ i = .int .i64 j) (fun i => q - (intOf i).toNat)
          case atStart => exact ⟨0, by omega, rfl⟩
          case round =>
            obtain ⟨j, hj, rfl⟩ := hrel
            by_cases hjl : j < q
            · have hjl' : (j : Int) < (q : Int) := by omega
              have hjn : j < (cutL (upto k) (o : Int) (q : Int)).length := by rw [e3.out]; exact hjl
              obtain ⟨b, of, rfl, hbl, hcb⟩ := q4'.out j hjn
              have c0 := hcb j hjn
              rw [e4.out] at c0
              replace c0 : w1.cell? ⟨b, of + j, none⟩ = some (.int .i64 ((o : Int) + j)) := by rw [c0]; first | rfl | (congr 2; omega)
              clear hcb
              go_wp2
              go_round
              case rel => exact ⟨j + 1, by omega, by go_num⟩
              case measure => simp [intOf]; omega
            · have hjl' : ¬ (j : Int) < (q : Int) := by omega
              go_wp2
              go_ret
              exact ⟨rfl, more_then hb.out b1.out⟩
        · have e3 : (cutL (upto k) (o : Int) lim).length = d := by rw [E1]; unfold manyN fromN; have := hd.out; split <;> omega
          have e4 : ∀ i (h : i < (cutL (upto k) (o : Int) lim).length), (cutL (upto k) (o : Int) lim)[i] = ((o + i : Nat) : Int) := fun i h => by rw [E2 i h]; unfold fromN; have := hd.out; omega
          clear E1 E2
          replace e3 := Lib.hid e3
          replace e4 := Lib.hid e4
          go_wp2_with fail
          refine CU.out.mono ?_
          rintro e w1 ⟨v1, rfl, own1, b1⟩
          obtain ⟨A1, c1, rfl, q1', q2', q3', q4'⟩ := ints_own e3.out (by have o9 := own1; rw [e3.out] at o9; exact o9)
          replace b1 := Lib.hid b1
          replace q4' := Lib.hid q4'
          clear own1 CU
          go_wp2_with fail
          go_loop [13] (fun i => ∃ j : Nat, j ≤ d ∧ i = .int .i64 j) (fun i => d - (intOf i).toNat)
          case atStart => exact ⟨0, by omega, rfl⟩
          case round =>
            obtain ⟨j, hj, rfl⟩ := hrel
            by_cases hjl : j < d
            · have hjl' : (j : Int) < (d : Int) := by omega
              have hjn : j < (cutL (upto k) (o : Int) lim).length := by rw [e3.out]; exact hjl
              obtain ⟨b, of, rfl, hbl, hcb⟩ := q4'.out j hjn
              have c0 := hcb j hjn
              rw [e4.out] at c0
              replace c0 : w1.cell? ⟨b, of + j, none⟩ = some (.int .i64 ((o : Int) + j)) := by rw [c0]; first | rfl | (congr 2; omega)
              clear hcb
              go_wp2
              go_round
              case rel => exact ⟨j + 1, by omega, by go_num⟩
              case measure => simp [intOf]; omega
            · have hjl' : ¬ (j : Int) < (d : Int) := by omega
              go_wp2
              go_ret
              exact ⟨rfl, more_then hb.out b1.out⟩
      · rcases (show lim < 0 ∨ 0 ≤ lim by omega) with r | r
        all_goals rcases (show off = k ∨ (k : Int) < off by omega) with p | p
        · replace p := Lib.hid p
          obtain ⟨o, rfl⟩ := Int.eq_ofNat_of_zero_le (show 0 ≤ off by omega)
          obtain rfl : o = k := by have := p.out; omega
          clear p
          have e3 : (cutL (upto o) (o : Int) lim).length = 0 := by rw [E1]; unfold manyN fromN;  split <;> omega
          have e4 : ∀ i (h : i < (cutL (upto o) (o : Int) lim).length), (cutL (upto o) (o : Int) lim)[i] = ((o + i : Nat) : Int) := fun i h => by rw [E2 i h]; unfold fromN;  omega
          clear E1 E2
          replace e3 := Lib.hid e3
          replace e4 := Lib.hid e4
          go_wp2_with fail
          refine CU.out.mono ?_
          rintro e w1 ⟨v1, rfl, own1, b1⟩
          obtain ⟨A1, c1, rfl, q1', q2', q3', q4'⟩ := ints_own e3.out (by have o9 := own1; rw [e3.out] at o9; exact o9)
          replace b1 := Lib.hid b1
          replace q4' := Lib.hid q4'
          clear own1 CU
          go_wp2_with fail
          go_loop [13] (fun i => ∃ j : Nat, j ≤ 0 ∧ i = .int .i64 j) (fun i => 0 - (intOf i).toNat)
          case atStart => exact ⟨0, by omega, rfl⟩
          case round =>
            obtain ⟨j, hj, rfl⟩ := hrel
            obtain rfl : j = 0 := by omega
            go_wp2
            go_ret
            exact ⟨rfl, more_then hb.out b1.out⟩
        · have e3 : (cutL (upto k) off lim).length = 0 := by rw [E1]; unfold manyN fromN;  split <;> omega
          have e4 : ∀ i (h : i < (cutL (upto k) off lim).length), (cutL (upto k) off lim)[i] = ((k + i : Nat) : Int) := fun i h => by rw [E2 i h]; unfold fromN;  omega
          clear E1 E2
          replace e3 := Lib.hid e3
          replace e4 := Lib.hid e4
          go_wp2_with fail
          refine CU.out.mono ?_
          rintro e w1 ⟨v1, rfl, own1, b1⟩
          obtain ⟨A1, c1, rfl, q1', q2', q3', q4'⟩ := ints_own e3.out (by have o9 := own1; rw [e3.out] at o9; exact o9)
          replace b1 := Lib.hid b1
          replace q4' := Lib.hid q4'
          clear own1 CU
          go_wp2_with fail
          go_loop [13] (fun i => ∃ j : Nat, j ≤ 0 ∧ i = .int .i64 j) (fun i => 0 - (intOf i).toNat)
          case atStart => exact ⟨0, by omega, rfl⟩
          case round =>
            obtain ⟨j, hj, rfl⟩ := hrel
            obtain rfl : j = 0 := by omega
            go_wp2
            go_ret
            exact ⟨rfl, more_then hb.out b1.out⟩
        · replace p := Lib.hid p
          obtain ⟨o, rfl⟩ := Int.eq_ofNat_of_zero_le (show 0 ≤ off by omega)
          obtain rfl : o = k := by have := p.out; omega
          clear p
          have e3 : (cutL (upto o) (o : Int) lim).length = 0 := by rw [E1]; unfold manyN fromN;  split <;> omega
          have e4 : ∀ i (h : i < (cutL (upto o) (o : Int) lim).length), (cutL (upto o) (o : Int) lim)[i] = ((o + i : Nat) : Int) := fun i h => by rw [E2 i h]; unfold fromN;  omega
          clear E1 E2
          replace e3 := Lib.hid e3
          replace e4 := Lib.hid e4
          go_wp2_with fail
          refine CU.out.mono ?_
          rintro e w1 ⟨v1, rfl, own1, b1⟩
          obtain ⟨A1, c1, rfl, q1', q2', q3', q4'⟩ := ints_own e3.out (by have o9 := own1; rw [e3.out] at o9; exact o9)
          replace b1 := Lib.hid b1
          replace q4' := Lib.hid q4'
          clear own1 CU
          go_wp2_with fail
          go_loop [13] (fun i => ∃ j : Nat, j ≤ 0 ∧ i = .int .i64 j) (fun i => 0 - (intOf i).toNat)
          case atStart => exact ⟨0, by omega, rfl⟩
          case round =>
            obtain ⟨j, hj, rfl⟩ := hrel
            obtain rfl : j = 0 := by omega
            go_wp2
            go_ret
            exact ⟨rfl, more_then hb.out b1.out⟩
        · have e3 : (cutL (upto k) off lim).length = 0 := by rw [E1]; unfold manyN fromN;  split <;> omega
          have e4 : ∀ i (h : i < (cutL (upto k) off lim).length), (cutL (upto k) off lim)[i] = ((k + i : Nat) : Int) := fun i h => by rw [E2 i h]; unfold fromN;  omega
          clear E1 E2
          replace e3 := Lib.hid e3
          replace e4 := Lib.hid e4
          go_wp2_with fail
          refine CU.out.mono ?_
          rintro e w1 ⟨v1, rfl, own1, b1⟩
          obtain ⟨A1, c1, rfl, q1', q2', q3', q4'⟩ := ints_own e3.out (by have o9 := own1; rw [e3.out] at o9; exact o9)
          replace b1 := Lib.hid b1
          replace q4' := Lib.hid q4'
          clear own1 CU
          go_wp2_with fail
          go_loop [13] (fun i => ∃ j : Nat, j ≤ 0 ∧ i = .int .i64 j) (fun i => 0 - (intOf i).toNat)
          case atStart => exact ⟨0, by omega, rfl⟩
          case round =>
            obtain ⟨j, hj, rfl⟩ := hrel
            obtain rfl : j = 0 := by omega
            go_wp2
            go_ret
            exact ⟨rfl, more_then hb.out b1.out⟩
theorem law_PredCuts (v0 v1 v2 : Value) (w : World) (h0 : IsU8 v0) (h1 : IsI64 v1) (h2 : IsI64 v2) :
    Calls Try.prog 3 #[v0, v1, v2] w fun e w' => e = .returned (.bool true) ∧ Below w.heap.size w w' := by
  obtain ⟨a, rfl, ha⟩ := h0
  obtain ⟨b, rfl, hb⟩ := h1
  obtain ⟨c, rfl, hc⟩ := h2
  exact law_of (walk_PredCuts a b c ha hb.1 hb.2 hc.1 hc.2 w)
end Go.Proofs.Ythmnaocoogfidaa
