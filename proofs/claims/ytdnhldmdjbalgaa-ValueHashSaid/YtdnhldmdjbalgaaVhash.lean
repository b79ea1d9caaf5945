/- ValueHash: a row with its last number's lowest bit turned has another hash; the empty row's hash; a copy has the same. -/
import Derived.Test.YtdnhldmdjbalgaaCopy
import Derived.Test.YtdnhldmdjbalgaaHashP
import Derived.Test.YtdnhldmdjbalgaaKnown2
import Derived.Test.YtdnhldmdjbalgaaOpen
set_option linter.unusedVariables false
set_option linter.unusedSimpArgs false
namespace Go.Proofs.Ytdnhldmdjbalgaa
open Go.RowKit
attribute [local go_sem] run_frombits run_tobits more_more more_drew more_drewN more_size more_cell more_frozen run_store_float lt_c1 le_c1 lt_s1 le_s1 lt_c2 le_c2 lt_s2 le_s2 lt_c3 le_c3 lt_s3 le_s3 lt_c4 le_c4 lt_s4 le_s4 lt_c5 le_c5 lt_s5 le_s5 lt_c6 le_c6 lt_s6 le_s6 lt_c7 le_c7 lt_s7 le_s7 lt_c8 le_c8 lt_s8 le_s8 lt_c9 le_c9 lt_s9 le_s9 lt_c10 le_c10 lt_s10 le_s10 lt_c11 le_c11 lt_s11 le_s11 lt_c12 le_c12 lt_s12 le_s12 le_c0 run_cmpstring

theorem numV_ok {n : Int} (h1 : -9223372036854775808 ≤ n) (h2 : n < 9223372036854775808) : (numV n).ok := by
  refine ⟨?_, ?_, ?_, ?_⟩
  · exact (by decide : (0 : Nat) < 18446744073709551616)
  · exact (by decide : (-9223372036854775808 : Int) ≤ 1 ∧ (1 : Int) < 9223372036854775808)
  · exact ⟨h1, h2⟩
  · exact (by decide : (0 : Nat) ≤ 9223372036854775807)
set_option maxHeartbeats 8000000 in
theorem walk_ValueHash (A : Option Addr) (ca : Nat) (l : List Val) (hl : allOk l) (n : Int) (n1 : -9223372036854775808 ≤ n) (n2 : n < 9223372036854775808) (w : World) (la : l.length ≤ 9223372036854775807) (hA : A = none → ca = 0 ∧ l = []) (ha : ValsIn w A l) :
    Gives Try.prog 13 #[.slice A l.length ca, .int .i64 n] w (.bool true) := by
  cases hf : fewV l 10 with
  | false =>
    have F1 : ∀ W, ValsIn W A l → Calls Try.prog 30 #[.slice A l.length ca, .int .i64 10] W fun e w' => e = .returned (.bool false) ∧ W = w' := fun W h => by
      have := few_any A ca l 10 W la h
      rwa [hf] at this
    have va := Lib.hid ha; clear ha
    go_enter Try.func13, Try.ntmps13
    go_wp2_with (first | (go_at_call 29; refine (known2 _).mono' ?_; intro x))
    refine (F1 _ (va.out.below (by repeat (first | (with_reducible exact Below.refl _ _) | (with_reducible refine Below.drew ?_) | (with_reducible refine Below.alloc ?_ (by simp [more_size]; try omega) _) | (with_reducible refine Below.setCell ?_ (by simp [more_size]; try omega) _) | (with_reducible refine below_more ?_ _ (by simp [more_size]; try omega)))))).mono ?_; rintro e w' ⟨rfl, rfl⟩
    go_wp2
    go_ret
    exact ⟨rfl, (more_of_below (by repeat (first | (with_reducible exact Below.refl _ _) | (with_reducible refine Below.drew ?_) | (with_reducible refine Below.alloc ?_ (by simp [more_size]; try omega) _) | (with_reducible refine Below.setCell ?_ (by simp [more_size]; try omega) _) | (with_reducible refine below_more ?_ _ (by simp [more_size]; try omega)))))⟩
  | true =>
    have F1 : ∀ W, ValsIn W A l → Calls Try.prog 30 #[.slice A l.length ca, .int .i64 10] W fun e w' => e = .returned (.bool true) ∧ W = w' := fun W h => by
      have := few_any A ca l 10 W la h
      rwa [hf] at this
    have va := Lib.hid ha; clear ha
    go_enter Try.func13, Try.ntmps13
    go_wp2_with fail
    refine (known2 _).mono' ?_; intro x
    go_wp2_with fail
    refine (F1 _ (va.out.below (by repeat (first | (with_reducible exact Below.refl _ _) | (with_reducible refine Below.drew ?_) | (with_reducible refine Below.alloc ?_ (by simp [more_size]; try omega) _) | (with_reducible refine Below.setCell ?_ (by simp [more_size]; try omega) _) | (with_reducible refine below_more ?_ _ (by simp [more_size]; try omega)))))).mono ?_; rintro e w' ⟨rfl, rfl⟩
    obtain ⟨i0, hi, hz0, hz1, hz2⟩ := info_parts info_val
    have hlen : l.length ≤ 10 := by
      unfold fewV at hf
      simp only [Bool.and_eq_true, decide_eq_true_eq] at hf
      omega
    have CP := fun W h => copy_any A ca l W (by omega) hA h
    clear hf hA F1 la
    have NUM : ∀ W m, Gives Try.prog 40 #[.int .i64 m] W (.agg #[.int .i64 1, .int .i64 m, .string ⟨#[]⟩, .float .f64 0]) := fun W m => num_any m W
    go_wp2_with fail
    have v0 := Lib.hid (va.out.below (w' := more w x) (by repeat (first | (with_reducible exact Below.refl _ _) | (with_reducible refine Below.drew ?_) | (with_reducible refine Below.alloc ?_ (by simp [more_size]; try omega) _) | (with_reducible refine Below.setCell ?_ (by simp [more_size]; try omega) _) | (with_reducible refine below_more ?_ _ (by simp [more_size]; try omega)))))
    have b0 := Lib.hid (show Below w.heap.size w (more w x) from (by repeat (first | (with_reducible exact Below.refl _ _) | (with_reducible refine Below.drew ?_) | (with_reducible refine Below.alloc ?_ (by simp [more_size]; try omega) _) | (with_reducible refine Below.setCell ?_ (by simp [more_size]; try omega) _) | (with_reducible refine below_more ?_ _ (by simp [more_size]; try omega)))))
    generalize more w x = w0 at *
    refine (CP _ v0.out).mono ?_
    rintro e w1 ⟨v1, rfl, own1, bel1⟩
    obtain ⟨A1, c1, rfl, _, _, _, _⟩ := own_vals own1
    have ge1 := own_ge own1
    replace own1 := Lib.hid own1
    replace bel1 := Lib.hid bel1
    go_wp2_with (first
      | (go_at_call 40; refine (NUM _ _).mono' ?_; intro x)
      | (at_builtin; refine wpList_append_own_at _ rfl _ _ 38 rfl _ 36 i0 _ 4 40 Try.underlying38 hi hz0 hz1 hz2 rfl (by decide) (.slice A1 l.length c1) l.length (cellsOf l) rfl (own_below own1.out (by repeat (first | (with_reducible exact Below.refl _ _) | (with_reducible refine Below.drew ?_) | (with_reducible refine Below.alloc ?_ (by simp [more_size]; try omega) _) | (with_reducible refine Below.setCell ?_ (by simp [more_size]; try omega) _) | (with_reducible refine below_more ?_ _ (by simp [more_size]; try omega))))) _ 1 1 (Val.cells ⟨1, n, ⟨#[]⟩, 0⟩) rfl rfl (cells_alloc _ _ ⟨1, n, ⟨#[]⟩, 0⟩ (by simp [more_size])) (cells_one _) (by unfold maxLen; omega) (by omega) (by have := bel1.out.size; simp [more_size]; omega) ?_; intro v2 w2 own2 grow2 _ _)
      | fail)
    have bb1 : Below w0.heap.size w0 w2 := by
      refine Below.grown ?_ grow2 (by have := bel1.out.size; simp [more_size]; omega) ge1
      exact bel1.out.trans (Below.mono (B := w1.heap.size) (by repeat (first | (with_reducible exact Below.refl _ _) | (with_reducible refine Below.drew ?_) | (with_reducible refine Below.alloc ?_ (by simp [more_size]; try omega) _) | (with_reducible refine Below.setCell ?_ (by simp [more_size]; try omega) _) | (with_reducible refine below_more ?_ _ (by simp [more_size]; try omega)))) bel1.out.size)
    obtain ⟨A2, c2, rfl, _, _, _, vals2⟩ := own_vals_n (n := l.length + 1) (l := l ++ [numV n]) (by simp) (by rw [cellsOf_append]; exact own2)
    clear own2 grow2 ge1 own1 bel1
    replace vals2 := Lib.hid vals2
    replace bb1 := Lib.hid bb1
    go_wp2_with fail
    refine (CP _ (v0.out.below bb1.out)).mono ?_
    rintro e w3 ⟨v3, rfl, own3, bel3⟩
    obtain ⟨A3, c3, rfl, _, _, _, _⟩ := own_vals own3
    have ge3 := own_ge own3
    replace own3 := Lib.hid own3
    replace bel3 := Lib.hid bel3
    go_wp2_with (first
      | (go_at_call 40; refine (NUM _ _).mono' ?_; intro x)
      | (at_builtin; refine wpList_append_own_at _ rfl _ _ 38 rfl _ 36 i0 _ 4 40 Try.underlying38 hi hz0 hz1 hz2 rfl (by decide) (.slice A3 l.length c3) l.length (cellsOf l) rfl (own_below own3.out (by repeat (first | (with_reducible exact Below.refl _ _) | (with_reducible refine Below.drew ?_) | (with_reducible refine Below.alloc ?_ (by simp [more_size]; try omega) _) | (with_reducible refine Below.setCell ?_ (by simp [more_size]; try omega) _) | (with_reducible refine below_more ?_ _ (by simp [more_size]; try omega))))) _ 1 1 (Val.cells ⟨1, (bits .xor .i64 n 1), ⟨#[]⟩, 0⟩) rfl rfl (cells_alloc _ _ ⟨1, (bits .xor .i64 n 1), ⟨#[]⟩, 0⟩ (by simp [more_size])) (cells_one _) (by unfold maxLen; omega) (by omega) (by have := bel3.out.size; simp [more_size]; omega) ?_; intro v4 w4 own4 grow4 _ _)
      | fail)
    have bb3 : Below w2.heap.size w2 w4 := by
      refine Below.grown ?_ grow4 (by have := bel3.out.size; simp [more_size]; omega) ge3
      exact bel3.out.trans (Below.mono (B := w3.heap.size) (by repeat (first | (with_reducible exact Below.refl _ _) | (with_reducible refine Below.drew ?_) | (with_reducible refine Below.alloc ?_ (by simp [more_size]; try omega) _) | (with_reducible refine Below.setCell ?_ (by simp [more_size]; try omega) _) | (with_reducible refine below_more ?_ _ (by simp [more_size]; try omega)))) bel3.out.size)
    obtain ⟨A4, c4, rfl, _, _, _, vals4⟩ := own_vals_n (n := l.length + 1) (l := l ++ [numV (bits .xor .i64 n 1)]) (by simp) (by rw [cellsOf_append]; exact own4)
    clear own4 grow4 ge3 own3 bel3
    replace vals4 := Lib.hid vals4
    replace bb3 := Lib.hid bb3
    have low := low_bit n n1 n2
    have hne := hash_low l n n1 n2
    have okA : allOk (l ++ [numV n]) := fun y hy => by
      rw [List.mem_append, List.mem_singleton] at hy
      rcases hy with hy | rfl
      · exact hl y hy
      · exact numV_ok n1 n2
    have okB : allOk (l ++ [numV (bits .xor .i64 n 1)]) := fun y hy => by
      rw [List.mem_append, List.mem_singleton] at hy
      rcases hy with hy | rfl
      · exact hl y hy
      · exact numV_ok low.1 low.2.1
    have HE : ∀ W, Gives Try.prog 38 #[.slice none 0 0] W (.int .u64 14695981039346656037) := fun W => hash_any none 0 [] (fun y hy => by simp at hy) W (by simp) (fun j hj => by simp at hj)
    have HA : ∀ W c, ValsIn W A2 (l ++ [numV n]) → Gives Try.prog 38 #[.slice A2 (l.length + 1) c] W (.int .u64 (hashV (l ++ [numV n]))) := fun W c h => by
      have := hash_any A2 c (l ++ [numV n]) okA W (by simp; omega) h
      rwa [List.length_append] at this
    have HC : ∀ W A c, ValsIn W A (l ++ [numV n]) → Gives Try.prog 38 #[.slice A (l.length + 1) c] W (.int .u64 (hashV (l ++ [numV n]))) := fun W A c h => by
      have := hash_any A c (l ++ [numV n]) okA W (by simp; omega) h
      rwa [List.length_append] at this
    have HB : ∀ W, ValsIn W A4 (l ++ [numV (bits .xor .i64 n 1)]) → Gives Try.prog 38 #[.slice A4 (l.length + 1) c4] W (.int .u64 (hashV (l ++ [numV (bits .xor .i64 n 1)]))) := fun W h => by
      have := hash_any A4 c4 (l ++ [numV (bits .xor .i64 n 1)]) okB W (by simp; omega) h
      rwa [List.length_append] at this
    have CA : ∀ W, ValsIn W A2 (l ++ [numV n]) → Calls Try.prog 39 #[.slice A2 (l.length + 1) c2] W fun e w' => ∃ v, e = .returned v ∧ w'.ownsRow W.heap.size 36 4 v (l.length + 1) (cellsOf (l ++ [numV n])) ∧ Below W.heap.size W w' := fun W h => by
      have := copy_any A2 c2 (l ++ [numV n]) W (by simp; omega) (fun e => by obtain ⟨_, _, e', _⟩ := h 0 (by simp); rw [e] at e'; cases e') h
      rwa [List.length_append] at this
    have vals4a := Lib.hid (vals2.out.below bb3.out)
    have bw : Below w.heap.size w w4 := (b0.out.trans (bb1.out.mono b0.out.size)).trans (bb3.out.mono (Nat.le_trans b0.out.size bb1.out.size))
    replace bw := Lib.hid bw
    clear vals2 bb1 bb3 b0 v0 va low okA okB CP NUM hl
    generalize hk1 : hashV (l ++ [numV n]) = k1 at *
    generalize hk2 : hashV (l ++ [numV (bits .xor .i64 n 1)]) = k2 at *
    have hne' : (((k1 : Int) != (k2 : Int)) = true) := by rw [bne_iff_ne]; omega
    go_wp2_with fail
    refine (HA _ _ vals4a.out).mono' ?_; intro x1
    go_wp2_with fail
    refine (HB _ (vals4.out.more _)).mono' ?_; intro x2
    go_wp2_with fail
    refine (HE _).mono' ?_; intro x3
    go_wp2_with fail
    refine (HA _ _ (vals4a.out.more _)).mono' ?_; intro x4
    go_wp2_with fail
    refine (CA _ (vals4a.out.more _)).mono ?_
    rintro e w5 ⟨v5, rfl, own5, bel5⟩
    obtain ⟨A5, c5, rfl, _, _, _, vals5⟩ := own_vals_n (n := l.length + 1) (l := l ++ [numV n]) (by simp) own5
    clear own5
    replace vals5 := Lib.hid vals5
    replace bel5 := Lib.hid bel5
    go_wp2_with fail
    refine (HC _ _ _ vals5.out).mono' ?_; intro x5
    go_wp2
    go_ret
    refine ⟨rfl, more_of_below (below_more ?_ _ ?_)⟩
    · exact bw.out.trans (Below.mono (B := w4.heap.size) ((more_below w4 _).trans (bel5.out.mono (by rw [more_size]; omega))) bw.out.size)
    · have := bw.out.size; have := bel5.out.size; rw [more_size] at this; omega
theorem law_ValueHash (v0 v1 : Value) (w : World) (h0 : IsVals w v0) (h1 : IsI64 v1) :
    Calls Try.prog 13 #[v0, v1] w fun e w' => e = .returned (.bool true) ∧ Below w.heap.size w w' := by
  obtain ⟨A, ca, l, rfl, q1, q2, q3, ql, qa⟩ := h0
  obtain ⟨n, rfl, k1, k2⟩ := h1
  refine law_of (walk_ValueHash A ca l ql n k1 k2 w (by omega) (fun e => ⟨q3 e, ?_⟩) qa)
  have := q3 e
  exact List.eq_nil_of_length_eq_zero (by omega)
end Go.Proofs.Ytdnhldmdjbalgaa
