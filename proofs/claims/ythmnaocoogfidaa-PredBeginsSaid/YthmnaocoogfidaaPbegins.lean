/- PredBegins: a string begins with each of its beginnings, and with no other text of that length. -/
import Derived.Test.YthmnaocoogfidaaPops
import Derived.Test.YthmnaocoogfidaaOpen
set_option maxRecDepth 100000
set_option linter.unusedVariables false
set_option linter.unusedSimpArgs false
namespace Go.Proofs.Ythmnaocoogfidaa
open Go.RowKit
attribute [local go_sem] run_frombits run_tobits more_more more_drew more_drewN more_size more_cell more_frozen run_store_float lt_c1 le_c1 lt_s1 le_s1 lt_c2 le_c2 lt_s2 le_s2 lt_c3 le_c3 lt_s3 le_s3 lt_c4 le_c4 lt_s4 le_s4 lt_c5 le_c5 lt_s5 le_s5 lt_c6 le_c6 lt_s6 le_s6 lt_c7 le_c7 lt_s7 le_s7 lt_c8 le_c8 lt_s8 le_s8 lt_c9 le_c9 lt_s9 le_s9 lt_c10 le_c10 lt_s10 le_s10 lt_c11 le_c11 lt_s11 le_s11 lt_c12 le_c12 lt_s12 le_s12 le_c0

abbrev stV (s : ByteArray) : Val := ⟨3, 0, s, 0⟩
theorem stV_ok {s : ByteArray} (h : s.size ≤ 9223372036854775807) : (stV s).ok := by
  refine ⟨?_, ?_, ?_, h⟩
  · exact (by decide : (0 : Nat) < 18446744073709551616)
  · exact (by decide : (-9223372036854775808 : Int) ≤ 3 ∧ (3 : Int) < 9223372036854775808)
  · exact (by decide : (-9223372036854775808 : Int) ≤ 0 ∧ (0 : Int) < 9223372036854775808)
theorem holds_st (s p : ByteArray) : holdsB 0 6 (stV p) [stV s] = begB s p := by
  unfold holdsB; rw [dif_pos ⟨by omega, by simp⟩]
  show opB 6 (stV s) (stV p) = _
  unfold opB
  rw [if_neg (by decide), if_neg (by decide), if_neg (by decide), if_neg (by decide), if_neg (by decide), if_pos rfl]
  show (true && begB s p) = _
  rfl
theorem begB_self (s : ByteArray) (k : Nat) (h : k ≤ s.size) : begB s (s.extract 0 k) = true := by
  unfold begB
  have e : (s.extract 0 k).size = k := by rw [ByteArray.size_extract]; omega
  rw [e]
  simp [h]
theorem beg_min (s t : ByteArray) : begB s t = (decide (t.size ≤ s.size) && ((s.extract 0 t.size).toList == t.toList)) := rfl
set_option maxHeartbeats 8000000 in
theorem walk_PredBegins (s t : ByteArray) (n : Nat) (hn : n < 256) (ls : s.size ≤ 9223372036854775807) (lt : t.size ≤ 9223372036854775807) (w : World) :
    Gives Try.prog 5 #[.string s, .string t, .int .u8 n] w (.bool true) := by
  rcases (show 60 < s.size ∨ (s.size ≤ 60 ∧ 60 < t.size) ∨ (s.size ≤ 60 ∧ t.size ≤ 60) by omega) with h | ⟨h1, h2⟩ | ⟨h1, h2⟩
  · have h' : (60 : Int) < s.size := by omega
    go_enter Try.func5, Try.ntmps5
    go_wp2_with fail
    refine (known20 _).mono' ?_; intro x
    go_wp2
    go_ret
    exact ⟨rfl, (more_of_below (by repeat (first | (with_reducible exact Below.refl _ _) | (with_reducible refine Below.drew ?_) | (with_reducible refine Below.alloc ?_ (by simp [more_size]; try omega) _) | (with_reducible refine Below.setCell ?_ (by simp [more_size]; try omega) _) | (with_reducible refine below_more ?_ _ (by simp [more_size]; try omega)))))⟩
  · have h' : ¬ (60 : Int) < s.size := by omega
    have h'' : (60 : Int) < t.size := by omega
    go_enter Try.func5, Try.ntmps5
    go_wp2_with fail
    refine (known20 _).mono' ?_; intro x
    go_wp2
    go_ret
    exact ⟨rfl, (more_of_below (by repeat (first | (with_reducible exact Below.refl _ _) | (with_reducible refine Below.drew ?_) | (with_reducible refine Below.alloc ?_ (by simp [more_size]; try omega) _) | (with_reducible refine Below.setCell ?_ (by simp [more_size]; try omega) _) | (with_reducible refine below_more ?_ _ (by simp [more_size]; try omega)))))⟩
  · have h' : ¬ (60 : Int) < s.size := by omega
    have h'' : ¬ (60 : Int) < t.size := by omega
    have H1 : ∀ (p : ByteArray) W g, p.size ≤ 9223372036854775807 → ValsIn W (some ⟨g, 0, none⟩) [stV s] → Gives Try.prog 20 #[.agg #[.int .i64 0, .int .i64 6, .int .i64 3, .int .i64 0, .string p, .float .f64 0], .slice (some ⟨g, 0, none⟩) 1 1] W (.bool (begB s p)) := fun p W g hp h => by
      have := holds_any 0 6 (stV p) (stV_ok hp) (some ⟨g, 0, none⟩) 1 [stV s] (fun y hy => by simp at hy; rw [hy]; exact stV_ok ls) W (by simp) h
      rw [holds_st] at this
      exact this
    have HN : ∀ W g, ValsIn W (some ⟨g, 0, none⟩) [numV' 1] → Gives Try.prog 20 #[.agg #[.int .i64 0, .int .i64 6, .int .i64 1, .int .i64 1, .string ⟨#[]⟩, .float .f64 0], .slice (some ⟨g, 0, none⟩) 1 1] W (.bool false) := fun W g h =>
      holds_any 0 6 (numV' 1) (numV_ok' (by decide) (by decide)) (some ⟨g, 0, none⟩) 1 [numV' 1] (fun y hy => by simp at hy; rw [hy]; exact numV_ok' (by decide) (by decide)) W (by simp) h
    have HP : ∀ k, k ≤ s.size → begB s (s.extract 0 k) = true := begB_self s
    have HT := beg_min s t
    have H2 := fun W g h => H1 t W g lt h
    have H3 := fun k W g (hk : k ≤ s.size) h => (begB_self s k hk) ▸ H1 (s.extract 0 k) W g (by rw [ByteArray.size_extract]; omega) h
    have H0 : ∀ W g, ValsIn W (some ⟨g, 0, none⟩) [stV s] → Gives Try.prog 20 #[.agg #[.int .i64 0, .int .i64 6, .int .i64 3, .int .i64 0, .string ByteArray.empty, .float .f64 0], .slice (some ⟨g, 0, none⟩) 1 1] W (.bool true) := fun W g h => by
      have := H1 ByteArray.empty W g (by decide) h
      have e : begB s ByteArray.empty = true := by unfold begB; simp
      rwa [e] at this
    generalize begB s t = bt at *
    replace H1 := Lib.hid H1
    replace H2 := Lib.hid H2
    replace H0 := Lib.hid H0
    replace H3 := Lib.hid H3
    replace HN := Lib.hid HN
    clear HP ls lt H1
    rcases (show s.size = 0 ∨ 0 < s.size by omega) with hz | hz
    · have hz' : ¬ (0 : Int) < s.size := by omega
      replace hz := Lib.hid hz
      by_cases hts : t.size ≤ s.size
      · rw [decide_eq_true hts, Bool.true_and] at HT
        have hts' : (t.size : Int) ≤ s.size := by omega
        cases bt
        all_goals
          replace HT := HT.symm
          go_enter Try.func5, Try.ntmps5
          go_wp2_with fail
          refine (known20 _).mono' ?_; intro x0
          go_wp2_with fail
          refine (H0.out _ _ (by repeat (first | (with_reducible refine valsIn1 ?_; simp [more_size]; done) | (with_reducible refine valsIn2 ?_; simp [more_size]; done) | (with_reducible refine valsIn3 ?_; simp [more_size]; done) | (with_reducible refine ValsIn.alloc ?_ _) | (with_reducible refine ValsIn.drew ?_) | (with_reducible refine ValsIn.more ?_ _)))).mono' ?_; intro x1
          go_wp2_with fail
          refine (H2.out _ _ (by repeat (first | (with_reducible refine valsIn1 ?_; simp [more_size]; done) | (with_reducible refine valsIn2 ?_; simp [more_size]; done) | (with_reducible refine valsIn3 ?_; simp [more_size]; done) | (with_reducible refine ValsIn.alloc ?_ _) | (with_reducible refine ValsIn.drew ?_) | (with_reducible refine ValsIn.more ?_ _)))).mono' ?_; intro x2
          go_wp2_with fail
          refine (num20_any _ _).mono' ?_; intro x3
          go_wp2_with fail
          refine (num20_any _ _).mono' ?_; intro x4
          go_wp2_with fail
          refine (HN.out _ _ (by repeat (first | (with_reducible refine valsIn1 ?_; simp [more_size]; done) | (with_reducible refine valsIn2 ?_; simp [more_size]; done) | (with_reducible refine valsIn3 ?_; simp [more_size]; done) | (with_reducible refine ValsIn.alloc ?_ _) | (with_reducible refine ValsIn.drew ?_) | (with_reducible refine ValsIn.more ?_ _)))).mono' ?_; intro x5
          go_wp2
          go_ret
          exact ⟨rfl, (more_of_below (by repeat (first | (with_reducible exact Below.refl _ _) | (with_reducible refine Below.drew ?_) | (with_reducible refine Below.alloc ?_ (by simp [more_size]; try omega) _) | (with_reducible refine Below.setCell ?_ (by simp [more_size]; try omega) _) | (with_reducible refine below_more ?_ _ (by simp [more_size]; try omega)))))⟩
      · rw [decide_eq_false hts, Bool.false_and] at HT
        have hts' : ¬ (t.size : Int) ≤ s.size := by omega
        subst HT
        go_enter Try.func5, Try.ntmps5
        go_wp2_with fail
        refine (known20 _).mono' ?_; intro x0
        go_wp2_with fail
        refine (H0.out _ _ (by repeat (first | (with_reducible refine valsIn1 ?_; simp [more_size]; done) | (with_reducible refine valsIn2 ?_; simp [more_size]; done) | (with_reducible refine valsIn3 ?_; simp [more_size]; done) | (with_reducible refine ValsIn.alloc ?_ _) | (with_reducible refine ValsIn.drew ?_) | (with_reducible refine ValsIn.more ?_ _)))).mono' ?_; intro x1
        go_wp2_with fail
        refine (H2.out _ _ (by repeat (first | (with_reducible refine valsIn1 ?_; simp [more_size]; done) | (with_reducible refine valsIn2 ?_; simp [more_size]; done) | (with_reducible refine valsIn3 ?_; simp [more_size]; done) | (with_reducible refine ValsIn.alloc ?_ _) | (with_reducible refine ValsIn.drew ?_) | (with_reducible refine ValsIn.more ?_ _)))).mono' ?_; intro x2
        go_wp2_with fail
        refine (num20_any _ _).mono' ?_; intro x3
        go_wp2_with fail
        refine (num20_any _ _).mono' ?_; intro x4
        go_wp2_with fail
        refine (HN.out _ _ (by repeat (first | (with_reducible refine valsIn1 ?_; simp [more_size]; done) | (with_reducible refine valsIn2 ?_; simp [more_size]; done) | (with_reducible refine valsIn3 ?_; simp [more_size]; done) | (with_reducible refine ValsIn.alloc ?_ _) | (with_reducible refine ValsIn.drew ?_) | (with_reducible refine ValsIn.more ?_ _)))).mono' ?_; intro x5
        go_wp2
        go_ret
        exact ⟨rfl, (more_of_below (by repeat (first | (with_reducible exact Below.refl _ _) | (with_reducible refine Below.drew ?_) | (with_reducible refine Below.alloc ?_ (by simp [more_size]; try omega) _) | (with_reducible refine Below.setCell ?_ (by simp [more_size]; try omega) _) | (with_reducible refine below_more ?_ _ (by simp [more_size]; try omega)))))⟩
    · have hz' : (0 : Int) < s.size := by omega
      have k1 : 0 ≤ (n : Int) % ((s.size : Int) + 1) := Int.emod_nonneg _ (by omega)
      have k2 : (n : Int) % ((s.size : Int) + 1) ≤ (s.size : Int) := by have := Int.emod_lt_of_pos (n : Int) (show 0 < (s.size : Int) + 1 by omega); omega
      by_cases hts : t.size ≤ s.size
      · rw [decide_eq_true hts, Bool.true_and] at HT
        have hts' : (t.size : Int) ≤ s.size := by omega
        cases bt
        all_goals
          replace HT := HT.symm
          go_enter Try.func5, Try.ntmps5
          go_wp2_with fail
          refine (known20 _).mono' ?_; intro x0
          go_wp2_with fail
          refine (H3.out _ _ _ (by have q := Nat.mod_lt n (show 0 < s.size + 1 by omega); omega) (by repeat (first | (with_reducible refine valsIn1 ?_; simp [more_size]; done) | (with_reducible refine valsIn2 ?_; simp [more_size]; done) | (with_reducible refine valsIn3 ?_; simp [more_size]; done) | (with_reducible refine ValsIn.alloc ?_ _) | (with_reducible refine ValsIn.drew ?_) | (with_reducible refine ValsIn.more ?_ _)))).mono' ?_; intro x1
          go_wp2_with fail
          refine (H2.out _ _ (by repeat (first | (with_reducible refine valsIn1 ?_; simp [more_size]; done) | (with_reducible refine valsIn2 ?_; simp [more_size]; done) | (with_reducible refine valsIn3 ?_; simp [more_size]; done) | (with_reducible refine ValsIn.alloc ?_ _) | (with_reducible refine ValsIn.drew ?_) | (with_reducible refine ValsIn.more ?_ _)))).mono' ?_; intro x2
          go_wp2_with fail
          refine (num20_any _ _).mono' ?_; intro x3
          go_wp2_with fail
          refine (num20_any _ _).mono' ?_; intro x4
          go_wp2_with fail
          refine (HN.out _ _ (by repeat (first | (with_reducible refine valsIn1 ?_; simp [more_size]; done) | (with_reducible refine valsIn2 ?_; simp [more_size]; done) | (with_reducible refine valsIn3 ?_; simp [more_size]; done) | (with_reducible refine ValsIn.alloc ?_ _) | (with_reducible refine ValsIn.drew ?_) | (with_reducible refine ValsIn.more ?_ _)))).mono' ?_; intro x5
          go_wp2
          go_ret
          exact ⟨rfl, (more_of_below (by repeat (first | (with_reducible exact Below.refl _ _) | (with_reducible refine Below.drew ?_) | (with_reducible refine Below.alloc ?_ (by simp [more_size]; try omega) _) | (with_reducible refine Below.setCell ?_ (by simp [more_size]; try omega) _) | (with_reducible refine below_more ?_ _ (by simp [more_size]; try omega)))))⟩
      · rw [decide_eq_false hts, Bool.false_and] at HT
        have hts' : ¬ (t.size : Int) ≤ s.size := by omega
        subst HT
        go_enter Try.func5, Try.ntmps5
        go_wp2_with fail
        refine (known20 _).mono' ?_; intro x0
        go_wp2_with fail
        refine (H3.out _ _ _ (by have q := Nat.mod_lt n (show 0 < s.size + 1 by omega); omega) (by repeat (first | (with_reducible refine valsIn1 ?_; simp [more_size]; done) | (with_reducible refine valsIn2 ?_; simp [more_size]; done) | (with_reducible refine valsIn3 ?_; simp [more_size]; done) | (with_reducible refine ValsIn.alloc ?_ _) | (with_reducible refine ValsIn.drew ?_) | (with_reducible refine ValsIn.more ?_ _)))).mono' ?_; intro x1
        go_wp2_with fail
        refine (H2.out _ _ (by repeat (first | (with_reducible refine valsIn1 ?_; simp [more_size]; done) | (with_reducible refine valsIn2 ?_; simp [more_size]; done) | (with_reducible refine valsIn3 ?_; simp [more_size]; done) | (with_reducible refine ValsIn.alloc ?_ _) | (with_reducible refine ValsIn.drew ?_) | (with_reducible refine ValsIn.more ?_ _)))).mono' ?_; intro x2
        go_wp2_with fail
        refine (num20_any _ _).mono' ?_; intro x3
        go_wp2_with fail
        refine (num20_any _ _).mono' ?_; intro x4
        go_wp2_with fail
        refine (HN.out _ _ (by repeat (first | (with_reducible refine valsIn1 ?_; simp [more_size]; done) | (with_reducible refine valsIn2 ?_; simp [more_size]; done) | (with_reducible refine valsIn3 ?_; simp [more_size]; done) | (with_reducible refine ValsIn.alloc ?_ _) | (with_reducible refine ValsIn.drew ?_) | (with_reducible refine ValsIn.more ?_ _)))).mono' ?_; intro x5
        go_wp2
        go_ret
        exact ⟨rfl, (more_of_below (by repeat (first | (with_reducible exact Below.refl _ _) | (with_reducible refine Below.drew ?_) | (with_reducible refine Below.alloc ?_ (by simp [more_size]; try omega) _) | (with_reducible refine Below.setCell ?_ (by simp [more_size]; try omega) _) | (with_reducible refine below_more ?_ _ (by simp [more_size]; try omega)))))⟩
theorem law_PredBegins (v0 v1 v2 : Value) (w : World) (h0 : IsStr v0) (h1 : IsStr v1) (h2 : IsU8 v2) :
    Calls Try.prog 5 #[v0, v1, v2] w fun e w' => e = .returned (.bool true) ∧ Below w.heap.size w w' := by
  obtain ⟨a, rfl, ha⟩ := h0
  obtain ⟨b, rfl, hb⟩ := h1
  obtain ⟨c, rfl, hc⟩ := h2
  exact law_of (walk_PredBegins a b c hc ha hb w)
end Go.Proofs.Ythmnaocoogfidaa
