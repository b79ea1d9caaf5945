/- SchemaNames: names are one to twenty small letters, digits, _; two fields don't have one name. -/
import Derived.Test.YtilpgojkbgbinaaKnown5
set_option linter.unusedVariables false
set_option linter.unusedSimpArgs false
namespace Go.Proofs.Ytilpgojkbgbinaa
open Go.RowKit
attribute [local go_sem] run_frombits run_tobits more_more more_drew more_drewN more_size more_cell more_frozen run_store_float lt_c1 le_c1 lt_s1 le_s1 lt_c2 le_c2 lt_s2 le_s2 lt_c3 le_c3 lt_s3 le_s3 lt_c4 le_c4 lt_s4 le_s4 lt_c5 le_c5 lt_s5 le_s5 lt_c6 le_c6 lt_s6 le_s6 lt_c7 le_c7 lt_s7 le_s7 lt_c8 le_c8 lt_s8 le_s8 lt_c9 le_c9 lt_s9 le_s9 lt_c10 le_c10 lt_s10 le_s10 lt_c11 le_c11 lt_s11 le_s11 lt_c12 le_c12 lt_s12 le_s12 le_c0

theorem isF_two (a b : ByteArray) : isF [⟨a, 1⟩, ⟨b, 3⟩] = (namedB a && namedB b && !(a.toList == b.toList)) := by
  have h1 : kindB 1 = true := by decide
  have h2 : kindB 3 = true := by decide
  simp only [isF, goF, okF, fldB, idxF, List.take_zero, List.take_succ_cons, List.length_cons, List.length_nil, h1, h2]
  cases namedB a <;> cases namedB b <;> cases (a.toList == b.toList) <;> first | rfl | simp
theorem isF_one (a : ByteArray) : isF [⟨a, 1⟩] = namedB a := by
  have h1 : kindB 1 = true := by decide
  simp only [isF, goF, okF, fldB, idxF, List.take_zero, List.length_cons, List.length_nil, h1]
  cases namedB a <;> first | rfl | simp
theorem fld_two (a b : ByteArray) : fldI b [⟨a, 1⟩, ⟨b, 3⟩] = (if (a.toList == b.toList) = true then 0 else 1) ∧ fldB b [⟨a, 1⟩, ⟨b, 3⟩] = true := by
  have h : (b.toList == b.toList) = true := by simp
  simp only [fldI, fldB, idxF, h]
  cases (a.toList == b.toList) <;> first | exact ⟨rfl, rfl⟩ | simp
set_option maxHeartbeats 8000000 in
theorem walk_SchemaNames (a b : ByteArray) (la : a.size ≤ 9223372036854775807) (lb : b.size ≤ 9223372036854775807) (w : World) :
    Gives Try.prog 3 #[.string a, .string b] w (.bool true) := by
  rcases (show 60 < a.size ∨ (a.size ≤ 60 ∧ 60 < b.size) ∨ (a.size ≤ 60 ∧ b.size ≤ 60) by omega) with h | ⟨h1, h2⟩ | ⟨h1, h2⟩
  · have h' : (60 : Int) < a.size := by omega
    go_enter Try.func3, Try.ntmps3
    go_wp2_with fail
    refine (known5 _).mono' ?_; intro x
    go_wp2
    go_ret
    exact ⟨rfl, (more_of_below (by repeat (first | (with_reducible exact Below.refl _ _) | (with_reducible refine Below.drew ?_) | (with_reducible refine Below.alloc ?_ (by simp [more_size]; try omega) _) | (with_reducible refine Below.setCell ?_ (by simp [more_size]; try omega) _) | (with_reducible refine below_more ?_ _ (by simp [more_size]; try omega)))))⟩
  · have h' : ¬ (60 : Int) < a.size := by omega
    have h'' : (60 : Int) < b.size := by omega
    go_enter Try.func3, Try.ntmps3
    go_wp2_with fail
    refine (known5 _).mono' ?_; intro x
    go_wp2
    go_ret
    exact ⟨rfl, (more_of_below (by repeat (first | (with_reducible exact Below.refl _ _) | (with_reducible refine Below.drew ?_) | (with_reducible refine Below.alloc ?_ (by simp [more_size]; try omega) _) | (with_reducible refine Below.setCell ?_ (by simp [more_size]; try omega) _) | (with_reducible refine below_more ?_ _ (by simp [more_size]; try omega)))))⟩
  · have h' : ¬ (60 : Int) < a.size := by omega
    have h'' : ¬ (60 : Int) < b.size := by omega
    have NA := fun W => lawnamed_any a W la
    have NB := fun W => lawnamed_any b W lb
    have ok2 : namesOk [⟨a, 1⟩, ⟨b, 3⟩] := fun f hf => by
      simp at hf
      rcases hf with rfl | rfl <;> assumption
    have FL : ∀ W g, FieldsIn W (some ⟨g, 0, none⟩) [⟨a, 1⟩, ⟨b, 3⟩] → Gives Try.prog 18 #[.slice (some ⟨g, 0, none⟩) 2 2, .string b] W (.tuple #[.int .i64 (if (a.toList == b.toList) = true then 0 else 1), .bool true]) := fun W g h => by
      have := field_any (some ⟨g, 0, none⟩) 2 _ b W (by simp) h
      rw [(fld_two a b).1, (fld_two a b).2] at this
      exact this
    have I2 : ∀ W g, FieldsIn W (some ⟨g, 0, none⟩) [⟨a, 1⟩, ⟨b, 3⟩] → Gives Try.prog 19 #[.slice (some ⟨g, 0, none⟩) 2 2] W (.bool (namedB a && namedB b && !(a.toList == b.toList))) := fun W g h => by
      have := isf_any (some ⟨g, 0, none⟩) 2 _ ok2 W (by simp) (by decide) h
      rw [isF_two] at this
      exact this
    have I1 : ∀ W g, FieldsIn W (some ⟨g, 0, none⟩) [⟨a, 1⟩, ⟨b, 3⟩] → Gives Try.prog 19 #[.slice (some ⟨g, 0, none⟩) 1 2] W (.bool (namedB a)) := fun W g h => by
      have := isf_any (some ⟨g, 0, none⟩) 2 ([⟨a, 1⟩, ⟨b, 3⟩].take 1) (fun f hf => ok2 f (List.mem_of_mem_take hf)) W (by simp) (by decide) (h.take 1)
      rw [show [(⟨a, 1⟩ : Fld), ⟨b, 3⟩].take 1 = [⟨a, 1⟩] from rfl, isF_one] at this
      exact this
    have I0 : ∀ W, Gives Try.prog 19 #[.slice none 0 0] W (.bool false) := fun W => isf_any none 0 [] (fun f hf => by simp at hf) W (by simp) (by decide) (fun j hj => by simp at hj)
    generalize namedB a = na at *
    generalize namedB b = nb at *
    replace I1 := Lib.hid I1
    replace I0 := Lib.hid I0
    replace NA := Lib.hid NA
    replace NB := Lib.hid NB
    clear ok2
    cases he : (a.toList == b.toList) with
    | false =>
      rw [he] at FL I2
      replace FL := Lib.hid FL
      replace I2 := Lib.hid I2
      cases na with
      | false =>
        go_enter Try.func3, Try.ntmps3
        go_wp2_with fail
        refine (known5 _).mono' ?_; intro x0
        go_wp2_with fail
        refine (NA.out _).mono ?_; rintro e w' ⟨rfl, rfl⟩
        go_wp2_with fail
        refine (FL.out _ _ (by repeat (first | (with_reducible refine fieldsIn2 ?_; simp [more_size]; done) | (with_reducible refine fieldsIn1 ?_; simp [more_size]; done) | (with_reducible refine FieldsIn.alloc ?_ _) | (with_reducible refine FieldsIn.drew ?_) | (with_reducible refine FieldsIn.more ?_ _)))).mono' ?_; intro x1
        go_wp2_with fail
        refine (I2.out _ _ (by repeat (first | (with_reducible refine fieldsIn2 ?_; simp [more_size]; done) | (with_reducible refine fieldsIn1 ?_; simp [more_size]; done) | (with_reducible refine FieldsIn.alloc ?_ _) | (with_reducible refine FieldsIn.drew ?_) | (with_reducible refine FieldsIn.more ?_ _)))).mono' ?_; intro x2
        go_wp2_with fail
        refine (I1.out _ _ (by repeat (first | (with_reducible refine fieldsIn2 ?_; simp [more_size]; done) | (with_reducible refine fieldsIn1 ?_; simp [more_size]; done) | (with_reducible refine FieldsIn.alloc ?_ _) | (with_reducible refine FieldsIn.drew ?_) | (with_reducible refine FieldsIn.more ?_ _)))).mono' ?_; intro x3
        go_wp2_with fail
        refine (NA.out _).mono ?_; rintro e w' ⟨rfl, rfl⟩
        go_wp2_with fail
        refine (I0.out _).mono' ?_; intro x4
        go_wp2
        go_ret
        exact ⟨rfl, (more_of_below (by repeat (first | (with_reducible exact Below.refl _ _) | (with_reducible refine Below.drew ?_) | (with_reducible refine Below.alloc ?_ (by simp [more_size]; try omega) _) | (with_reducible refine Below.setCell ?_ (by simp [more_size]; try omega) _) | (with_reducible refine below_more ?_ _ (by simp [more_size]; try omega)))))⟩
      | true =>
        cases nb with
        | false =>
          go_enter Try.func3, Try.ntmps3
          go_wp2_with fail
          refine (known5 _).mono' ?_; intro x0
          go_wp2_with fail
          refine (NA.out _).mono ?_; rintro e w' ⟨rfl, rfl⟩
          go_wp2_with fail
          refine (NB.out _).mono ?_; rintro e w' ⟨rfl, rfl⟩
          go_wp2_with fail
          refine (FL.out _ _ (by repeat (first | (with_reducible refine fieldsIn2 ?_; simp [more_size]; done) | (with_reducible refine fieldsIn1 ?_; simp [more_size]; done) | (with_reducible refine FieldsIn.alloc ?_ _) | (with_reducible refine FieldsIn.drew ?_) | (with_reducible refine FieldsIn.more ?_ _)))).mono' ?_; intro x1
          go_wp2_with fail
          refine (I2.out _ _ (by repeat (first | (with_reducible refine fieldsIn2 ?_; simp [more_size]; done) | (with_reducible refine fieldsIn1 ?_; simp [more_size]; done) | (with_reducible refine FieldsIn.alloc ?_ _) | (with_reducible refine FieldsIn.drew ?_) | (with_reducible refine FieldsIn.more ?_ _)))).mono' ?_; intro x2
          go_wp2_with fail
          refine (I1.out _ _ (by repeat (first | (with_reducible refine fieldsIn2 ?_; simp [more_size]; done) | (with_reducible refine fieldsIn1 ?_; simp [more_size]; done) | (with_reducible refine FieldsIn.alloc ?_ _) | (with_reducible refine FieldsIn.drew ?_) | (with_reducible refine FieldsIn.more ?_ _)))).mono' ?_; intro x3
          go_wp2_with fail
          refine (NA.out _).mono ?_; rintro e w' ⟨rfl, rfl⟩
          go_wp2_with fail
          refine (I0.out _).mono' ?_; intro x4
          go_wp2
          go_ret
          exact ⟨rfl, (more_of_below (by repeat (first | (with_reducible exact Below.refl _ _) | (with_reducible refine Below.drew ?_) | (with_reducible refine Below.alloc ?_ (by simp [more_size]; try omega) _) | (with_reducible refine Below.setCell ?_ (by simp [more_size]; try omega) _) | (with_reducible refine below_more ?_ _ (by simp [more_size]; try omega)))))⟩
        | true =>
          go_enter Try.func3, Try.ntmps3
          go_wp2_with fail
          refine (known5 _).mono' ?_; intro x0
          go_wp2_with fail
          refine (NA.out _).mono ?_; rintro e w' ⟨rfl, rfl⟩
          go_wp2_with fail
          refine (NB.out _).mono ?_; rintro e w' ⟨rfl, rfl⟩
          go_wp2_with fail
          refine (FL.out _ _ (by repeat (first | (with_reducible refine fieldsIn2 ?_; simp [more_size]; done) | (with_reducible refine fieldsIn1 ?_; simp [more_size]; done) | (with_reducible refine FieldsIn.alloc ?_ _) | (with_reducible refine FieldsIn.drew ?_) | (with_reducible refine FieldsIn.more ?_ _)))).mono' ?_; intro x1
          go_wp2_with fail
          refine (I2.out _ _ (by repeat (first | (with_reducible refine fieldsIn2 ?_; simp [more_size]; done) | (with_reducible refine fieldsIn1 ?_; simp [more_size]; done) | (with_reducible refine FieldsIn.alloc ?_ _) | (with_reducible refine FieldsIn.drew ?_) | (with_reducible refine FieldsIn.more ?_ _)))).mono' ?_; intro x2
          go_wp2_with fail
          refine (I1.out _ _ (by repeat (first | (with_reducible refine fieldsIn2 ?_; simp [more_size]; done) | (with_reducible refine fieldsIn1 ?_; simp [more_size]; done) | (with_reducible refine FieldsIn.alloc ?_ _) | (with_reducible refine FieldsIn.drew ?_) | (with_reducible refine FieldsIn.more ?_ _)))).mono' ?_; intro x3
          go_wp2_with fail
          refine (NA.out _).mono ?_; rintro e w' ⟨rfl, rfl⟩
          go_wp2_with fail
          refine (I0.out _).mono' ?_; intro x4
          go_wp2
          go_ret
          exact ⟨rfl, (more_of_below (by repeat (first | (with_reducible exact Below.refl _ _) | (with_reducible refine Below.drew ?_) | (with_reducible refine Below.alloc ?_ (by simp [more_size]; try omega) _) | (with_reducible refine Below.setCell ?_ (by simp [more_size]; try omega) _) | (with_reducible refine below_more ?_ _ (by simp [more_size]; try omega)))))⟩
    | true =>
      rw [he] at FL I2
      replace FL := Lib.hid FL
      replace I2 := Lib.hid I2
      cases na with
      | false =>
        go_enter Try.func3, Try.ntmps3
        go_wp2_with fail
        refine (known5 _).mono' ?_; intro x0
        go_wp2_with fail
        refine (NA.out _).mono ?_; rintro e w' ⟨rfl, rfl⟩
        go_wp2_with fail
        refine (FL.out _ _ (by repeat (first | (with_reducible refine fieldsIn2 ?_; simp [more_size]; done) | (with_reducible refine fieldsIn1 ?_; simp [more_size]; done) | (with_reducible refine FieldsIn.alloc ?_ _) | (with_reducible refine FieldsIn.drew ?_) | (with_reducible refine FieldsIn.more ?_ _)))).mono' ?_; intro x1
        go_wp2_with fail
        refine (I2.out _ _ (by repeat (first | (with_reducible refine fieldsIn2 ?_; simp [more_size]; done) | (with_reducible refine fieldsIn1 ?_; simp [more_size]; done) | (with_reducible refine FieldsIn.alloc ?_ _) | (with_reducible refine FieldsIn.drew ?_) | (with_reducible refine FieldsIn.more ?_ _)))).mono' ?_; intro x2
        go_wp2_with fail
        refine (I1.out _ _ (by repeat (first | (with_reducible refine fieldsIn2 ?_; simp [more_size]; done) | (with_reducible refine fieldsIn1 ?_; simp [more_size]; done) | (with_reducible refine FieldsIn.alloc ?_ _) | (with_reducible refine FieldsIn.drew ?_) | (with_reducible refine FieldsIn.more ?_ _)))).mono' ?_; intro x3
        go_wp2_with fail
        refine (NA.out _).mono ?_; rintro e w' ⟨rfl, rfl⟩
        go_wp2_with fail
        refine (I0.out _).mono' ?_; intro x4
        go_wp2
        go_ret
        exact ⟨rfl, (more_of_below (by repeat (first | (with_reducible exact Below.refl _ _) | (with_reducible refine Below.drew ?_) | (with_reducible refine Below.alloc ?_ (by simp [more_size]; try omega) _) | (with_reducible refine Below.setCell ?_ (by simp [more_size]; try omega) _) | (with_reducible refine below_more ?_ _ (by simp [more_size]; try omega)))))⟩
      | true =>
        cases nb with
        | false =>
          go_enter Try.func3, Try.ntmps3
          go_wp2_with fail
          refine (known5 _).mono' ?_; intro x0
          go_wp2_with fail
          refine (NA.out _).mono ?_; rintro e w' ⟨rfl, rfl⟩
          go_wp2_with fail
          refine (NB.out _).mono ?_; rintro e w' ⟨rfl, rfl⟩
          go_wp2_with fail
          refine (FL.out _ _ (by repeat (first | (with_reducible refine fieldsIn2 ?_; simp [more_size]; done) | (with_reducible refine fieldsIn1 ?_; simp [more_size]; done) | (with_reducible refine FieldsIn.alloc ?_ _) | (with_reducible refine FieldsIn.drew ?_) | (with_reducible refine FieldsIn.more ?_ _)))).mono' ?_; intro x1
          go_wp2_with fail
          refine (I2.out _ _ (by repeat (first | (with_reducible refine fieldsIn2 ?_; simp [more_size]; done) | (with_reducible refine fieldsIn1 ?_; simp [more_size]; done) | (with_reducible refine FieldsIn.alloc ?_ _) | (with_reducible refine FieldsIn.drew ?_) | (with_reducible refine FieldsIn.more ?_ _)))).mono' ?_; intro x2
          go_wp2_with fail
          refine (I1.out _ _ (by repeat (first | (with_reducible refine fieldsIn2 ?_; simp [more_size]; done) | (with_reducible refine fieldsIn1 ?_; simp [more_size]; done) | (with_reducible refine FieldsIn.alloc ?_ _) | (with_reducible refine FieldsIn.drew ?_) | (with_reducible refine FieldsIn.more ?_ _)))).mono' ?_; intro x3
          go_wp2_with fail
          refine (NA.out _).mono ?_; rintro e w' ⟨rfl, rfl⟩
          go_wp2_with fail
          refine (I0.out _).mono' ?_; intro x4
          go_wp2
          go_ret
          exact ⟨rfl, (more_of_below (by repeat (first | (with_reducible exact Below.refl _ _) | (with_reducible refine Below.drew ?_) | (with_reducible refine Below.alloc ?_ (by simp [more_size]; try omega) _) | (with_reducible refine Below.setCell ?_ (by simp [more_size]; try omega) _) | (with_reducible refine below_more ?_ _ (by simp [more_size]; try omega)))))⟩
        | true =>
          go_enter Try.func3, Try.ntmps3
          go_wp2_with fail
          refine (known5 _).mono' ?_; intro x0
          go_wp2_with fail
          refine (NA.out _).mono ?_; rintro e w' ⟨rfl, rfl⟩
          go_wp2_with fail
          refine (NB.out _).mono ?_; rintro e w' ⟨rfl, rfl⟩
          go_wp2_with fail
          refine (FL.out _ _ (by repeat (first | (with_reducible refine fieldsIn2 ?_; simp [more_size]; done) | (with_reducible refine fieldsIn1 ?_; simp [more_size]; done) | (with_reducible refine FieldsIn.alloc ?_ _) | (with_reducible refine FieldsIn.drew ?_) | (with_reducible refine FieldsIn.more ?_ _)))).mono' ?_; intro x1
          go_wp2_with fail
          refine (I2.out _ _ (by repeat (first | (with_reducible refine fieldsIn2 ?_; simp [more_size]; done) | (with_reducible refine fieldsIn1 ?_; simp [more_size]; done) | (with_reducible refine FieldsIn.alloc ?_ _) | (with_reducible refine FieldsIn.drew ?_) | (with_reducible refine FieldsIn.more ?_ _)))).mono' ?_; intro x2
          go_wp2_with fail
          refine (I1.out _ _ (by repeat (first | (with_reducible refine fieldsIn2 ?_; simp [more_size]; done) | (with_reducible refine fieldsIn1 ?_; simp [more_size]; done) | (with_reducible refine FieldsIn.alloc ?_ _) | (with_reducible refine FieldsIn.drew ?_) | (with_reducible refine FieldsIn.more ?_ _)))).mono' ?_; intro x3
          go_wp2_with fail
          refine (NA.out _).mono ?_; rintro e w' ⟨rfl, rfl⟩
          go_wp2_with fail
          refine (I0.out _).mono' ?_; intro x4
          go_wp2
          go_ret
          exact ⟨rfl, (more_of_below (by repeat (first | (with_reducible exact Below.refl _ _) | (with_reducible refine Below.drew ?_) | (with_reducible refine Below.alloc ?_ (by simp [more_size]; try omega) _) | (with_reducible refine Below.setCell ?_ (by simp [more_size]; try omega) _) | (with_reducible refine below_more ?_ _ (by simp [more_size]; try omega)))))⟩
theorem law_SchemaNames (v0 v1 : Value) (w : World) (h0 : IsStr v0) (h1 : IsStr v1) :
    Calls Try.prog 3 #[v0, v1] w fun e w' => e = .returned (.bool true) ∧ Below w.heap.size w w' := by
  obtain ⟨a, rfl, ha⟩ := h0
  obtain ⟨b, rfl, hb⟩ := h1
  exact law_of (walk_SchemaNames a b ha hb w)
end Go.Proofs.Ytilpgojkbgbinaa
