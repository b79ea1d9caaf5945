/- What the statements on predicates know. -/
import Derived.Test.YthmnaocoogfidaaPred
import Derived.Test.YthmnaocoogfidaaCut
import Derived.Test.YthmnaocoogfidaaIs
set_option maxRecDepth 100000
set_option linter.unusedVariables false
set_option linter.unusedSimpArgs false
namespace Go.Proofs.Ythmnaocoogfidaa
open Go.RowKit
attribute [local go_sem] run_frombits run_tobits more_more more_drew more_drewN more_size more_cell more_frozen run_store_float lt_c1 le_c1 lt_s1 le_s1 lt_c2 le_c2 lt_s2 le_s2 lt_c3 le_c3 lt_s3 le_s3 lt_c4 le_c4 lt_s4 le_s4 lt_c5 le_c5 lt_s5 le_s5 lt_c6 le_c6 lt_s6 le_s6 lt_c7 le_c7 lt_s7 le_s7 lt_c8 le_c8 lt_s8 le_s8 lt_c9 le_c9 lt_s9 le_s9 lt_c10 le_c10 lt_s10 le_s10 lt_c11 le_c11 lt_s11 le_s11 lt_c12 le_c12 lt_s12 le_s12 le_c0

set_option maxHeartbeats 2000000 in
theorem isq_neg (A : Option Addr) (ca n : Nat) (l : List Fld) (hl : namesOk l) (hn : l.length = n) (hf : isF l = true) (w : World) (la : n ≤ ca) (lc : ca ≤ 9223372036854775807) (ha : FieldsIn w A l) (off lim : Int) (ho : off < 0) :
    Gives Try.prog 28 #[.slice A n ca, .agg #[.slice none 0 0, .slice none 0 0, .int .i64 off, .int .i64 lim]] w (.int .i64 90) := by
  subst hn
  have IF := fun W h => isf_any A ca l hl W la lc h
  rw [hf] at IF
  have HA := Lib.hid ha; clear ha
  replace IF := Lib.hid IF
  clear hf
  go_enter Try.func28, Try.ntmps28
  go_wp2_with fail
  refine (IF.out _ (HA.out.below (by repeat (first | (with_reducible exact Below.refl _ _) | (with_reducible refine Below.drew ?_) | (with_reducible refine Below.alloc ?_ (by simp [more_size]; try omega) _) | (with_reducible refine Below.setCell ?_ (by simp [more_size]; try omega) _) | (with_reducible refine below_more ?_ _ (by simp [more_size]; try omega)))))).mono' ?_; intro y
  go_wp2
  go_ret
  exact ⟨rfl, (more_of_below (by repeat (first | (with_reducible exact Below.refl _ _) | (with_reducible refine Below.drew ?_) | (with_reducible refine Below.alloc ?_ (by simp [more_size]; try omega) _) | (with_reducible refine Below.setCell ?_ (by simp [more_size]; try omega) _) | (with_reducible refine below_more ?_ _ (by simp [more_size]; try omega)))))⟩
theorem aS_named : namedB ⟨#[97]⟩ = true := by unfold namedB; rw [ByteArray.toList_eq]; decide
theorem a1_is : isF [⟨⟨#[97]⟩, 1⟩] = true := by
  have h1 : kindB 1 = true := by decide
  simp only [isF, goF, okF, fldB, idxF, List.take_zero, List.length_cons, List.length_nil, h1, aS_named]
  rfl
abbrev numV' (n : Int) : Val := ⟨1, n, ⟨#[]⟩, 0⟩
theorem numV_ok' {n : Int} (h1 : -9223372036854775808 ≤ n) (h2 : n < 9223372036854775808) : (numV' n).ok := by
  refine ⟨?_, ?_, ?_, ?_⟩
  · exact (by decide : (0 : Nat) < 18446744073709551616)
  · exact (by decide : (-9223372036854775808 : Int) ≤ 1 ∧ (1 : Int) < 9223372036854775808)
  · exact ⟨h1, h2⟩
  · exact (by decide : (0 : Nat) ≤ 9223372036854775807)
set_option maxHeartbeats 4000000 in
theorem known20 (w : World) : Gives Try.prog 18 #[] w (.bool true) := by
  have ok5 : (numV' 5).ok := numV_ok' (by decide) (by decide)
  have H1 : ∀ W g, ValsIn W (some ⟨g, 0, none⟩) [numV' 5] → Gives Try.prog 20 #[.agg #[.int .i64 0, .int .i64 3, .int .i64 1, .int .i64 5, .string ⟨#[]⟩, .float .f64 0], .slice (some ⟨g, 0, none⟩) 1 1] W (.bool true) := fun W g h => by
    have := holds_any 0 3 (numV' 5) ok5 (some ⟨g, 0, none⟩) 1 [numV' 5] (fun y hy => by simp at hy; rw [hy]; exact ok5) W (by simp) h
    have e : holdsB 0 3 (numV' 5) [numV' 5] = true := by decide
    rw [e] at this
    exact this
  have H2 : ∀ W g, ValsIn W (some ⟨g, 0, none⟩) [numV' 5] → Gives Try.prog 20 #[.agg #[.int .i64 0, .int .i64 2, .int .i64 1, .int .i64 5, .string ⟨#[]⟩, .float .f64 0], .slice (some ⟨g, 0, none⟩) 1 1] W (.bool false) := fun W g h => by
    have := holds_any 0 2 (numV' 5) ok5 (some ⟨g, 0, none⟩) 1 [numV' 5] (fun y hy => by simp at hy; rw [hy]; exact ok5) W (by simp) h
    have e : holdsB 0 2 (numV' 5) [numV' 5] = false := by decide
    rw [e] at this
    exact this
  have H3 : ∀ W g, FieldsIn W (some ⟨g, 0, none⟩) [⟨⟨#[97]⟩, 1⟩] → Gives Try.prog 28 #[.slice (some ⟨g, 0, none⟩) 1 1, .agg #[.slice none 0 0, .slice none 0 0, .int .i64 (-1), .int .i64 0]] W (.int .i64 90) := fun W g h =>
    isq_neg (some ⟨g, 0, none⟩) 1 1 [⟨⟨#[97]⟩, 1⟩] (fun f hf => by simp at hf; rw [hf]; decide) rfl a1_is W (by decide) (by decide) h (-1) 0 (by decide)
  have C3 : ∀ (W : World) g, g = W.heap.size → Calls Try.prog 19 #[.slice (some ⟨g, 0, none⟩) 3 3, .int .i64 1, .int .i64 1] (W.alloc (.cells #[.int .i64 1, .int .i64 2, .int .i64 3] 3)) (Got (W.alloc (.cells #[.int .i64 1, .int .i64 2, .int .i64 3] 3)) [2]) := fun W g hg =>
    cut_any (some ⟨g, 0, none⟩) 3 3 [1, 2, 3] 1 1 _ (by decide) (by decide) (by decide) ⟨rfl, (fun h => by cases h), fun j hj => ⟨g, 0, rfl, by simp [hg], fun i hi => by
      rw [World.cell?_alloc_at _ _ _ _ hg, Nat.zero_add]
      match i, hi with
      | 0, _ => rfl
      | 1, _ => rfl
      | 2, _ => rfl⟩⟩
  replace C3 := Lib.hid C3
  replace H1 := Lib.hid H1
  replace H2 := Lib.hid H2
  replace H3 := Lib.hid H3
  clear ok5
  go_enter Try.func18, Try.ntmps18
  go_wp2_with fail
  refine (H1.out _ _ (by repeat (first | (with_reducible refine valsIn1 ?_; simp [more_size]; done) | (with_reducible refine valsIn2 ?_; simp [more_size]; done) | (with_reducible refine valsIn3 ?_; simp [more_size]; done) | (with_reducible refine ValsIn.alloc ?_ _) | (with_reducible refine ValsIn.drew ?_) | (with_reducible refine ValsIn.more ?_ _)))).mono' ?_; intro x0
  go_wp2_with fail
  refine (H2.out _ _ (by repeat (first | (with_reducible refine valsIn1 ?_; simp [more_size]; done) | (with_reducible refine valsIn2 ?_; simp [more_size]; done) | (with_reducible refine valsIn3 ?_; simp [more_size]; done) | (with_reducible refine ValsIn.alloc ?_ _) | (with_reducible refine ValsIn.drew ?_) | (with_reducible refine ValsIn.more ?_ _)))).mono' ?_; intro x1
  go_wp2_with fail
  refine (H3.out _ _ (by repeat (first | (with_reducible refine fieldsIn2 ?_; simp [more_size]; done) | (with_reducible refine fieldsIn1 ?_; simp [more_size]; done) | (with_reducible refine FieldsIn.alloc ?_ _) | (with_reducible refine FieldsIn.drew ?_) | (with_reducible refine FieldsIn.more ?_ _)))).mono' ?_; intro x2
  go_wp2_with fail
  refine (C3.out _ _ (by simp [more_size])).mono ?_
  rintro e w1 ⟨v1, rfl, o1, b1⟩
  obtain ⟨A1, c1, rfl, _, _, _, _⟩ := ints_own (n := 1) (l := [2]) rfl o1
  go_wp2
  go_ret
  exact ⟨rfl, more_then (by repeat (first | (with_reducible exact Below.refl _ _) | (with_reducible refine Below.drew ?_) | (with_reducible refine Below.alloc ?_ (by simp [more_size]; try omega) _) | (with_reducible refine Below.setCell ?_ (by simp [more_size]; try omega) _) | (with_reducible refine below_more ?_ _ (by simp [more_size]; try omega)))) b1⟩
end Go.Proofs.Ythmnaocoogfidaa
