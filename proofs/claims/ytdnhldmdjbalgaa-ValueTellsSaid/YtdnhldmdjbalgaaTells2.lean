/- ValueTells: of every two values, and rows, package value tells what its reference tells. -/
import Derived.Test.YtdnhldmdjbalgaaKinds
import Derived.Test.YtdnhldmdjbalgaaHashR
import Derived.Deep.RegionWith
set_option linter.unusedVariables false
set_option linter.unusedSimpArgs false
namespace Go.Proofs.Ytdnhldmdjbalgaa
open Go.RowKit
attribute [local go_sem] run_frombits run_tobits more_more more_drew more_drewN more_size more_cell more_frozen run_store_float lt_c1 le_c1 lt_s1 le_s1 lt_c2 le_c2 lt_s2 le_s2 lt_c3 le_c3 lt_s3 le_s3 lt_c4 le_c4 lt_s4 le_s4 lt_c5 le_c5 lt_s5 le_s5 lt_c6 le_c6 lt_s6 le_s6 lt_c7 le_c7 lt_s7 le_s7 lt_c8 le_c8 lt_s8 le_s8 lt_c9 le_c9 lt_s9 le_s9 lt_c10 le_c10 lt_s10 le_s10 lt_c11 le_c11 lt_s11 le_s11 lt_c12 le_c12 lt_s12 le_s12 le_c0 run_cmpstring

theorem zeroV_ok (k : Int) (h1 : -9223372036854775808 ≤ k) (h2 : k < 9223372036854775808) : (zeroV k).ok := by
  unfold zeroV; split
  · exact ⟨by show (0 : Nat) < _; omega, ⟨by show _ ≤ k; omega, by show k < _; omega⟩, ⟨by show _ ≤ (0 : Int); omega, by show (0 : Int) < _; omega⟩, by show (0 : Nat) ≤ _; omega⟩
  · exact ⟨by decide, by decide, by decide, by decide⟩
set_option maxHeartbeats 4000000 in
theorem walk_ValueTells (a b : Val) (ha : a.ok) (hb : b.ok) (A B : Option Addr) (ca cb : Nat) (l m : List Val) (hl : allOk l) (hm : allOk m) (k : Int) (k1 : -9223372036854775808 ≤ k) (k2 : k < 9223372036854775808) (w : World)
    (la : l.length ≤ 9223372036854775807) (lb : m.length ≤ 9223372036854775807) (va : ValsIn w A l) (vb : ValsIn w B m) :
    Gives Try.prog 14 #[a.v, b.v, .slice A l.length ca, .slice B m.length cb, .int .i64 k] w (.bool true) := by
  have I1 := is_v a ha
  have I2 := is_ref a ha
  have C1 := comparev_any a b ha hb
  have C2 := cmp_ref a b ha hb
  have S1 := same_v a b ha hb
  have S2 := sameref_v a b ha hb
  have Z0 := zero_any k
  have ZR := zero_r k
  have Z1 := sameref_v (zeroV k) (zeroV k) (zeroV_ok k k1 k2) (zeroV_ok k k1 k2)
  have ZC := cmpV_refl (zeroV k)
  rw [ZC] at Z1
  clear ZC
  generalize zeroV k = z at Z0 ZR Z1
  generalize zeroE k = ze at Z0 ZR
  generalize cmpV a b = c at C1 C2 S1 S2
  generalize isV a = ia at I1 I2
  generalize hf1 : fewV [a, b] 2 = f1
  have F1 : ∀ W : World, ∀ g : Nat, g = W.heap.size → Calls Try.prog 30 #[.slice (some ⟨g, 0, none⟩) 2 2, .int .i64 2] (W.alloc (.cells #[.int .i64 a.k, .int .i64 a.i, .string a.s, .float .f64 a.f, .int .i64 b.k, .int .i64 b.i, .string b.s, .float .f64 b.f] 36)) fun e w' => e = .returned (.bool f1) ∧ W.alloc (.cells #[.int .i64 a.k, .int .i64 a.i, .string a.s, .float .f64 a.f, .int .i64 b.k, .int .i64 b.i, .string b.s, .float .f64 b.f] 36) = w' := fun W g hg => by
    have := few_any (some ⟨g, 0, none⟩) 2 [a, b] 2 _ (by simp) (valsIn_two (t := 36) a b hg)
    rw [hf1] at this
    exact this
  clear hf1
  obtain ⟨ak, ai, ast, af⟩ := a
  obtain ⟨bk, bi, bst, bf⟩ := b
  obtain ⟨zk, zi, zst, zf⟩ := z
  unfold Val.v at *
  dsimp only at *
  replace I1 := Lib.hid I1
  replace I2 := Lib.hid I2
  replace C1 := Lib.hid C1
  replace C2 := Lib.hid C2
  replace S1 := Lib.hid S1
  replace S2 := Lib.hid S2
  replace Z0 := Lib.hid Z0
  replace ZR := Lib.hid ZR
  replace Z1 := Lib.hid Z1
  replace F1 := Lib.hid F1
  replace va := Lib.hid va
  replace vb := Lib.hid vb
  cases f1 with
  | false =>
    go_enter Try.func14, Try.ntmps14
    go_wp2_with (first | (go_at_call 29; refine (known2 _).mono' ?_; intro x))
    refine (F1.out _ _ (by simp [more_size])).mono ?_; rintro e w' ⟨rfl, rfl⟩
    go_wp2
    go_ret
    exact ⟨rfl, (more_of_below (by repeat (first | (with_reducible exact Below.refl _ _) | (with_reducible refine Below.drew ?_) | (with_reducible refine Below.alloc ?_ (by simp [more_size]; try omega) _) | (with_reducible refine Below.setCell ?_ (by simp [more_size]; try omega) _) | (with_reducible refine below_more ?_ _ (by simp [more_size]; try omega)))))⟩
  | true =>
    cases hf2 : fewV l 20 with
    | false =>
      go_enter Try.func14, Try.ntmps14
      go_wp2_with (first | (go_at_call 29; refine (known2 _).mono' ?_; intro x))
      refine (F1.out _ _ (by simp [more_size])).mono ?_; rintro e w' ⟨rfl, rfl⟩
      go_wp2_with fail
      refine (few_any _ _ l 20 _ la (va.out.below (by repeat (first | (with_reducible exact Below.refl _ _) | (with_reducible refine Below.drew ?_) | (with_reducible refine Below.alloc ?_ (by simp [more_size]; try omega) _) | (with_reducible refine Below.setCell ?_ (by simp [more_size]; try omega) _) | (with_reducible refine below_more ?_ _ (by simp [more_size]; try omega)))))).mono ?_; rintro e w' ⟨rfl, rfl⟩
      go_wp2
      go_ret
      exact ⟨rfl, (more_of_below (by repeat (first | (with_reducible exact Below.refl _ _) | (with_reducible refine Below.drew ?_) | (with_reducible refine Below.alloc ?_ (by simp [more_size]; try omega) _) | (with_reducible refine Below.setCell ?_ (by simp [more_size]; try omega) _) | (with_reducible refine below_more ?_ _ (by simp [more_size]; try omega)))))⟩
    | true =>
      cases hf3 : fewV m 20 with
      | false =>
        go_enter Try.func14, Try.ntmps14
        go_wp2_with (first | (go_at_call 29; refine (known2 _).mono' ?_; intro x))
        refine (F1.out _ _ (by simp [more_size])).mono ?_; rintro e w' ⟨rfl, rfl⟩
        go_wp2_with fail
        refine (few_any _ _ l 20 _ la (va.out.below (by repeat (first | (with_reducible exact Below.refl _ _) | (with_reducible refine Below.drew ?_) | (with_reducible refine Below.alloc ?_ (by simp [more_size]; try omega) _) | (with_reducible refine Below.setCell ?_ (by simp [more_size]; try omega) _) | (with_reducible refine below_more ?_ _ (by simp [more_size]; try omega)))))).mono ?_; rintro e w' ⟨rfl, rfl⟩
        go_wp2_with fail
        refine (few_any _ _ m 20 _ lb (vb.out.below (by repeat (first | (with_reducible exact Below.refl _ _) | (with_reducible refine Below.drew ?_) | (with_reducible refine Below.alloc ?_ (by simp [more_size]; try omega) _) | (with_reducible refine Below.setCell ?_ (by simp [more_size]; try omega) _) | (with_reducible refine below_more ?_ _ (by simp [more_size]; try omega)))))).mono ?_; rintro e w' ⟨rfl, rfl⟩
        go_wp2
        go_ret
        exact ⟨rfl, (more_of_below (by repeat (first | (with_reducible exact Below.refl _ _) | (with_reducible refine Below.drew ?_) | (with_reducible refine Below.alloc ?_ (by simp [more_size]; try omega) _) | (with_reducible refine Below.setCell ?_ (by simp [more_size]; try omega) _) | (with_reducible refine below_more ?_ _ (by simp [more_size]; try omega)))))⟩
      | true =>
        go_enter Try.func14, Try.ntmps14
        go_wp2_with (first | (go_at_call 29; refine (known2 _).mono' ?_; intro x))
        refine (F1.out _ _ (by simp [more_size])).mono ?_; rintro e w' ⟨rfl, rfl⟩
        go_wp2_with fail
        refine (few_any _ _ l 20 _ la (va.out.below (by repeat (first | (with_reducible exact Below.refl _ _) | (with_reducible refine Below.drew ?_) | (with_reducible refine Below.alloc ?_ (by simp [more_size]; try omega) _) | (with_reducible refine Below.setCell ?_ (by simp [more_size]; try omega) _) | (with_reducible refine below_more ?_ _ (by simp [more_size]; try omega)))))).mono ?_; rintro e w' ⟨rfl, rfl⟩
        go_wp2_with fail
        refine (few_any _ _ m 20 _ lb (vb.out.below (by repeat (first | (with_reducible exact Below.refl _ _) | (with_reducible refine Below.drew ?_) | (with_reducible refine Below.alloc ?_ (by simp [more_size]; try omega) _) | (with_reducible refine Below.setCell ?_ (by simp [more_size]; try omega) _) | (with_reducible refine below_more ?_ _ (by simp [more_size]; try omega)))))).mono ?_; rintro e w' ⟨rfl, rfl⟩
        go_wp2_with (first | (go_at_call 41; refine (Z0.out _).mono' ?_; intro x) | (go_at_call 42; refine (ZR.out _).mono' ?_; intro x))
        refine wp_region_more (by kernel_rfl) (by kernel_rfl) ?_
        repeat (go_big_quiet_step ((first
          | (go_at_call 35; exact (I1.out _).at_)
          | (go_at_call 43; exact (I2.out _).at_)
          | (go_at_call 31; exact (C1.out _).at_)
          | (go_at_call 44; exact (C2.out _).at_)
          | (go_at_call 32; exact (S1.out _).at_)
          | (go_at_call_of 45 ast; exact (S2.out _).at_)
          | (go_at_call 45; exact (Z1.out _).at_)
          | (go_at_call 36; exact (rows_any A B ca cb l m hl hm _ la lb (va.out.below (by repeat (first | (with_reducible exact Below.refl _ _) | (with_reducible refine Below.drew ?_) | (with_reducible refine Below.alloc ?_ (by simp [more_size]; try omega) _) | (with_reducible refine Below.setCell ?_ (by simp [more_size]; try omega) _) | (with_reducible refine below_more ?_ _ (by simp [more_size]; try omega))))) (vb.out.below (by repeat (first | (with_reducible exact Below.refl _ _) | (with_reducible refine Below.drew ?_) | (with_reducible refine Below.alloc ?_ (by simp [more_size]; try omega) _) | (with_reducible refine Below.setCell ?_ (by simp [more_size]; try omega) _) | (with_reducible refine below_more ?_ _ (by simp [more_size]; try omega)))))).at_)
          | (go_at_call 46; exact (rows_ref A B ca cb l m hl hm _ la lb (va.out.below (by repeat (first | (with_reducible exact Below.refl _ _) | (with_reducible refine Below.drew ?_) | (with_reducible refine Below.alloc ?_ (by simp [more_size]; try omega) _) | (with_reducible refine Below.setCell ?_ (by simp [more_size]; try omega) _) | (with_reducible refine below_more ?_ _ (by simp [more_size]; try omega))))) (vb.out.below (by repeat (first | (with_reducible exact Below.refl _ _) | (with_reducible refine Below.drew ?_) | (with_reducible refine Below.alloc ?_ (by simp [more_size]; try omega) _) | (with_reducible refine Below.setCell ?_ (by simp [more_size]; try omega) _) | (with_reducible refine below_more ?_ _ (by simp [more_size]; try omega)))))).at_)
          | (go_at_call 38; exact (hash_any A ca l hl _ la (va.out.below (by repeat (first | (with_reducible exact Below.refl _ _) | (with_reducible refine Below.drew ?_) | (with_reducible refine Below.alloc ?_ (by simp [more_size]; try omega) _) | (with_reducible refine Below.setCell ?_ (by simp [more_size]; try omega) _) | (with_reducible refine below_more ?_ _ (by simp [more_size]; try omega)))))).at_)
          | (go_at_call 47; exact (gives_of_same (hash_ref A ca l hl _ la (va.out.below (by repeat (first | (with_reducible exact Below.refl _ _) | (with_reducible refine Below.drew ?_) | (with_reducible refine Below.alloc ?_ (by simp [more_size]; try omega) _) | (with_reducible refine Below.setCell ?_ (by simp [more_size]; try omega) _) | (with_reducible refine below_more ?_ _ (by simp [more_size]; try omega))))))).at_))))
        refine wpQuiet_nil ?_
        rintro _ ⟨y, rfl⟩
        go_wp2
        go_ret
        exact ⟨rfl, (more_of_below (by repeat (first | (with_reducible exact Below.refl _ _) | (with_reducible refine Below.drew ?_) | (with_reducible refine Below.alloc ?_ (by simp [more_size]; try omega) _) | (with_reducible refine Below.setCell ?_ (by simp [more_size]; try omega) _) | (with_reducible refine below_more ?_ _ (by simp [more_size]; try omega)))))⟩
theorem law_ValueTells (v0 v1 v2 v3 v4 : Value) (w : World) (h0 : IsVal v0) (h1 : IsVal v1) (h2 : IsVals w v2) (h3 : IsVals w v3) (h4 : IsI64 v4) :
    Calls Try.prog 14 #[v0, v1, v2, v3, v4] w fun e w' => e = .returned (.bool true) ∧ Below w.heap.size w w' := by
  obtain ⟨a, rfl, ha⟩ := h0
  obtain ⟨b, rfl, hb⟩ := h1
  obtain ⟨A, ca, l, rfl, q1, q2, _, ql, qa⟩ := h2
  obtain ⟨B, cb, m, rfl, r1, r2, _, rl, ra⟩ := h3
  obtain ⟨k, rfl, k1, k2⟩ := h4
  exact law_of (walk_ValueTells a b ha hb A B ca cb l m ql rl k k1 k2 w (by omega) (by omega) qa ra)
end Go.Proofs.Ytdnhldmdjbalgaa
