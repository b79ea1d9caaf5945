/- Layer 5: the statements' own 'named', and what they know. -/
import Derived.Test.YtilpgojkbgbinaaCheck
import Derived.Test.YtilpgojkbgbinaaKinds
set_option maxRecDepth 100000
set_option linter.unusedVariables false
set_option linter.unusedSimpArgs false
namespace Go.Proofs.Ytilpgojkbgbinaa
open Go.RowKit
attribute [local go_sem] run_frombits run_tobits more_more more_drew more_drewN more_size more_cell more_frozen run_store_float lt_c1 le_c1 lt_s1 le_s1 lt_c2 le_c2 lt_s2 le_s2 lt_c3 le_c3 lt_s3 le_s3 lt_c4 le_c4 lt_s4 le_s4 lt_c5 le_c5 lt_s5 le_s5 lt_c6 le_c6 lt_s6 le_s6 lt_c7 le_c7 lt_s7 le_s7 lt_c8 le_c8 lt_s8 le_s8 lt_c9 le_c9 lt_s9 le_s9 lt_c10 le_c10 lt_s10 le_s10 lt_c11 le_c11 lt_s11 le_s11 lt_c12 le_c12 lt_s12 le_s12 le_c0

set_option maxHeartbeats 1000000 in
theorem lawnamed_any (s : ByteArray) (w : World) (ls : s.size ≤ 9223372036854775807) :
    Calls Try.prog 17 #[.string s] w fun e w' => e = .returned (.bool (namedB s)) ∧ w = w' := by
  go_enter Try.func17, Try.ntmps17
  go_wp2
  go_loop [3] (fun i => ∃ k : Nat, k ≤ s.size ∧ i = .int .i64 k ∧ Hid (namesL (s.toList.drop k) = namesL s.toList)) (fun i => s.size - (intOf i).toNat)
  case atStart => exact ⟨0, by omega, rfl, Lib.hid rfl⟩
  case round =>
    obtain ⟨k, hk, rfl, hr⟩ := hrel
    by_cases hlt : k < s.size
    · have hlt' : (k : Int) < (s.size : Int) := by omega
      have HS := Lib.hid (show (nameC s[k].toNat && namesL (s.toList.drop (k + 1))) = namesL s.toList by
        rw [← namesL_cons, ← drop_step s k hlt]; exact hr.out)
      have HF := Lib.hid (show nameC s[k].toNat = false → namedB s = false by
        intro h
        unfold namedB
        rw [← HS.out, h]; rfl)
      have HC := Lib.hid (nameC_iff s[k].toNat)
      go_wp2
      all_goals
        try simp only [Bool.not_eq_true', Bool.not_eq_false', decide_eq_false_iff_not, decide_eq_true_eq, beq_eq_false_iff_ne, beq_iff_eq, ne_eq] at *
      all_goals first
        | (refine ⟨⟨k + 1, by omega, by go_num, Lib.hid ?_⟩, ?_⟩
           · have h1 : nameC s[k].toNat = true := by
               rw [HC.out]
               omega
             have := HS.out
             rw [h1] at this
             exact this
           · simp [intOf]; omega)
        | (have h1 : nameC s[k].toNat = false := Bool.eq_false_iff.2 fun h => by
             have := HC.out.1 h
             omega
           go_ret
           exact ⟨ret_bool (HF.out h1).symm, rfl⟩)
    · have hlt' : ¬ (k : Int) < (s.size : Int) := by omega
      have e : k = s.size := by omega
      have h1 : namesL s.toList = true := by rw [← hr.out, e, drop_end]; rfl
      clear e
      have hz : s.size = s.toList.length := by rw [ByteArray.toList_eq]; simp
      go_wp2
      all_goals
        go_ret
        refine ⟨ret_bool ?_, rfl⟩
        unfold namedB
        rw [h1, hz]
        clear hr hk h1 hlt hz
        generalize s.toList = l at *
        cases l with
        | nil => simp at *
        | cons a l => simp at * <;> (try omega)

set_option maxHeartbeats 2000000 in
theorem def_none (A : Option Addr) (ca : Nat) (l : List Fld) (hl : namesOk l) (w : World) (la : l.length ≤ ca) (lc : ca ≤ 9223372036854775807) (ha : FieldsIn w A l) (n : ByteArray) (ln : n.size ≤ 9223372036854775807) (hn : namedB n = true) (hf : isF l = true) :
    Gives Try.prog 20 #[.slice A l.length ca, .agg #[.string n, .int .i64 5, .slice none 0 0, .int .i64 (-1)], .agg #[.slice none 0 0, .slice none 0 0]] w (.int .i64 0) := by
  have IF := fun W h => isf_any A ca l hl W la lc h
  have NM := fun W => named_any n W ln
  rw [hf] at IF
  rw [hn] at NM
  have HA := Lib.hid ha; clear ha
  replace IF := Lib.hid IF
  replace NM := Lib.hid NM
  go_enter Try.func20, Try.ntmps20
  go_wp2_with fail
  refine (IF.out _ (HA.out.below (by repeat (first | (with_reducible exact Below.refl _ _) | (with_reducible refine Below.drew ?_) | (with_reducible refine Below.alloc ?_ (by simp [more_size]; try omega) _) | (with_reducible refine Below.setCell ?_ (by simp [more_size]; try omega) _) | (with_reducible refine below_more ?_ _ (by simp [more_size]; try omega)))))).mono' ?_; intro y
  go_wp2_with fail
  refine (NM.out _).mono ?_; rintro e w' ⟨rfl, rfl⟩
  go_wp2
  refine wp_loop_rounds 1 ?_
  rw [rounds_succ]
  go_wp2
  all_goals (go_ret; exact ⟨rfl, (more_of_below (by repeat (first | (with_reducible exact Below.refl _ _) | (with_reducible refine Below.drew ?_) | (with_reducible refine Below.alloc ?_ (by simp [more_size]; try omega) _) | (with_reducible refine Below.setCell ?_ (by simp [more_size]; try omega) _) | (with_reducible refine below_more ?_ _ (by simp [more_size]; try omega)))))⟩)
def idS : ByteArray := ⟨#[105, 100]⟩
def nameS : ByteArray := ⟨#[110, 97, 109, 101]⟩
def aS : ByteArray := ⟨#[97]⟩
abbrev s2 : List Fld := [⟨⟨#[105, 100]⟩, 1⟩, ⟨⟨#[110, 97, 109, 101]⟩, 3⟩]
theorem s2_is : isF s2 = true := by
  have h : namedB ⟨#[105, 100]⟩ = true := by unfold namedB; rw [ByteArray.toList_eq]; decide
  have h' : namedB ⟨#[110, 97, 109, 101]⟩ = true := by unfold namedB; rw [ByteArray.toList_eq]; decide
  have e : ((⟨#[105, 100]⟩ : ByteArray).toList == (⟨#[110, 97, 109, 101]⟩ : ByteArray).toList) = false := by rw [ByteArray.toList_eq, ByteArray.toList_eq]; decide
  simp only [isF, s2, goF, okF, fldB, idxF, List.take_zero, List.take_succ_cons, h, h', e]
  decide
theorem s2_ok : namesOk s2 := fun f hf => by
  simp [s2] at hf
  rcases hf with rfl | rfl <;> decide
abbrev v2 : List Val := [⟨1, 5, ⟨#[]⟩, 0⟩, ⟨3, 0, ⟨#[97]⟩, 0⟩]
theorem v2_chk : chkN s2 v2 = 0 := by
  have h : isV ⟨1, 5, ⟨#[]⟩, 0⟩ = true := by unfold isV; rw [ByteArray.toList_eq]; decide
  have h' : isV ⟨3, 0, ⟨#[97]⟩, 0⟩ = true := by unfold isV; rw [ByteArray.toList_eq]; decide
  unfold chkN
  rw [s2_is, if_pos rfl, if_pos (show v2.length = s2.length from rfl), if_pos ?_]
  simp only [s2, v2, chkL, h, h']
  decide
theorem v1_chk : chkN s2 (v2.take 1) = 41 := by
  unfold chkN
  rw [s2_is, if_pos rfl, if_neg (by decide)]
theorem v2_ok : allOk v2 := fun y hy => by
  simp [v2] at hy
  rcases hy with rfl | rfl <;> exact ⟨by decide, by decide, by decide, by decide⟩
theorem x_named : namedB ⟨#[120]⟩ = true := by unfold namedB; rw [ByteArray.toList_eq]; decide
theorem ValsIn.take {w : World} {A : Option Addr} {l : List Val} (h : ValsIn w A l) (k : Nat) : ValsIn w A (l.take k) := fun j hj => by
  obtain ⟨b, off, e, hb, hc⟩ := h j (by simp at hj; omega)
  refine ⟨b, off, e, hb, fun i hi => ?_⟩
  rw [List.getElem_take]
  exact hc i (by simp at hi; omega)
set_option maxHeartbeats 4000000 in
theorem known5 (w : World) : Gives Try.prog 16 #[] w (.bool true) := by
  have IF := fun W g h => isf_any (some ⟨g, 0, none⟩) 2 s2 s2_ok W (by decide) (by decide) h
  have C2 := fun W g g' h h' => check_any (some ⟨g, 0, none⟩) 2 s2 s2_ok (some ⟨g', 0, none⟩) 2 v2 v2_ok W (by decide) (by decide) (by decide) h h'
  have C1 := fun W g g' h (h' : ValsIn W (some ⟨g', 0, none⟩) v2) => check_any (some ⟨g, 0, none⟩) 2 s2 s2_ok (some ⟨g', 0, none⟩) 2 (v2.take 1) (fun y hy => v2_ok y (List.mem_of_mem_take hy)) W (by decide) (by decide) (by decide) h (h'.take 1)
  have DF := fun W g h => def_none (some ⟨g, 0, none⟩) 2 s2 s2_ok W (by decide) (by decide) h ⟨#[120]⟩ (by decide) x_named s2_is
  rw [s2_is] at IF
  rw [v2_chk] at C2
  rw [v1_chk] at C1
  have l1 : s2.length = 2 := rfl
  have l2 : v2.length = 2 := rfl
  have l3 : (v2.take 1).length = 1 := rfl
  rw [l1] at IF C2 C1 DF
  rw [l2] at C2
  rw [l3] at C1
  replace IF := Lib.hid IF
  replace C2 := Lib.hid C2
  replace C1 := Lib.hid C1
  replace DF := Lib.hid DF
  go_enter Try.func16, Try.ntmps16
  go_wp2_with fail
  refine (IF.out _ _ (by repeat (first | (with_reducible refine fieldsIn2 ?_; simp [more_size]; done) | (with_reducible refine fieldsIn1 ?_; simp [more_size]; done) | (with_reducible refine FieldsIn.alloc ?_ _) | (with_reducible refine FieldsIn.drew ?_) | (with_reducible refine FieldsIn.more ?_ _)))).mono' ?_; intro x1
  go_wp2_with fail
  refine (C2.out _ _ _ (by repeat (first | (with_reducible refine fieldsIn2 ?_; simp [more_size]; done) | (with_reducible refine fieldsIn1 ?_; simp [more_size]; done) | (with_reducible refine FieldsIn.alloc ?_ _) | (with_reducible refine FieldsIn.drew ?_) | (with_reducible refine FieldsIn.more ?_ _))) (by repeat (first | (with_reducible refine valsIn1 ?_; simp [more_size]; done) | (with_reducible refine valsIn2 ?_; simp [more_size]; done) | (with_reducible refine valsIn3 ?_; simp [more_size]; done) | (with_reducible refine ValsIn.alloc ?_ _) | (with_reducible refine ValsIn.drew ?_) | (with_reducible refine ValsIn.more ?_ _)))).mono' ?_; intro x2
  go_wp2_with fail
  refine (C1.out _ _ _ (by repeat (first | (with_reducible refine fieldsIn2 ?_; simp [more_size]; done) | (with_reducible refine fieldsIn1 ?_; simp [more_size]; done) | (with_reducible refine FieldsIn.alloc ?_ _) | (with_reducible refine FieldsIn.drew ?_) | (with_reducible refine FieldsIn.more ?_ _))) (by repeat (first | (with_reducible refine valsIn1 ?_; simp [more_size]; done) | (with_reducible refine valsIn2 ?_; simp [more_size]; done) | (with_reducible refine valsIn3 ?_; simp [more_size]; done) | (with_reducible refine ValsIn.alloc ?_ _) | (with_reducible refine ValsIn.drew ?_) | (with_reducible refine ValsIn.more ?_ _)))).mono' ?_; intro x3
  go_wp2_with fail
  refine (DF.out _ _ (by repeat (first | (with_reducible refine fieldsIn2 ?_; simp [more_size]; done) | (with_reducible refine fieldsIn1 ?_; simp [more_size]; done) | (with_reducible refine FieldsIn.alloc ?_ _) | (with_reducible refine FieldsIn.drew ?_) | (with_reducible refine FieldsIn.more ?_ _)))).mono' ?_; intro x4
  go_wp2
  go_ret
  exact ⟨rfl, (more_of_below (by repeat (first | (with_reducible exact Below.refl _ _) | (with_reducible refine Below.drew ?_) | (with_reducible refine Below.alloc ?_ (by simp [more_size]; try omega) _) | (with_reducible refine Below.setCell ?_ (by simp [more_size]; try omega) _) | (with_reducible refine below_more ?_ _ (by simp [more_size]; try omega)))))⟩
end Go.Proofs.Ytilpgojkbgbinaa
