/- Package schema: shapes. -/
import Derived.Test.YtilpgojkbgbinaaFields
set_option maxRecDepth 100000
set_option linter.unusedVariables false
set_option linter.unusedSimpArgs false
namespace Go.Proofs.Ytilpgojkbgbinaa
open Go.RowKit
attribute [local go_sem] run_frombits run_tobits more_more more_drew more_drewN more_size more_cell more_frozen run_store_float lt_c1 le_c1 lt_s1 le_s1 lt_c2 le_c2 lt_s2 le_s2 lt_c3 le_c3 lt_s3 le_s3 lt_c4 le_c4 lt_s4 le_s4 lt_c5 le_c5 lt_s5 le_s5 lt_c6 le_c6 lt_s6 le_s6 lt_c7 le_c7 lt_s7 le_s7 lt_c8 le_c8 lt_s8 le_s8 lt_c9 le_c9 lt_s9 le_s9 lt_c10 le_c10 lt_s10 le_s10 lt_c11 le_c11 lt_s11 le_s11 lt_c12 le_c12 lt_s12 le_s12 le_c0

theorem FieldsIn.take {w : World} {A : Option Addr} {l : List Fld} (h : FieldsIn w A l) (k : Nat) : FieldsIn w A (l.take k) := fun j hj => by
  obtain ⟨b, off, e, hb, hc⟩ := h j (by simp at hj; omega)
  refine ⟨b, off, e, hb, fun i hi => ?_⟩
  rw [List.getElem_take]
  exact hc i (by simp at hi; omega)
def kindB (k : Int) : Bool := decide (1 ≤ k) && decide (k ≤ 5)
def okF (l : List Fld) (i : Nat) (f : Fld) : Bool := !fldB f.n (l.take i) && namedB f.n && kindB f.k
def goF (l : List Fld) : List Fld → Nat → Bool
  | [], _ => true
  | f :: r, i => okF l i f && goF l r (i + 1)
def isF (l : List Fld) : Bool := goF l l 0 && (decide (1 ≤ l.length) && decide (l.length ≤ 8))
def namesOk (l : List Fld) : Prop := ∀ f ∈ l, f.n.size ≤ 9223372036854775807

theorem wp_named {P : Program} {c : Code} {Q : Exit → Act → World → Prop} {a : Act} {w : World} {R : World → Prop} (h : R w) (k : ∀ W, R W → Code.wp P c Q a W) : Code.wp P c Q a w := k w h
set_option maxHeartbeats 2000000 in
theorem isf_any (A : Option Addr) (ca : Nat) (l : List Fld) (hl : namesOk l) (w : World) (la : l.length ≤ ca) (lc : ca ≤ 9223372036854775807) (ha : FieldsIn w A l) :
    Gives Try.prog 19 #[.slice A l.length ca] w (.bool (isF l)) := by
  have HA := Lib.hid ha; clear ha
  have HL := Lib.hid hl; clear hl
  go_enter Try.func19, Try.ntmps19
  go_wp2
  go_loopw [9] (fun i wr => ∃ (k : Nat) (x : Ext), k ≤ l.length ∧ i = .int .i64 k ∧ Hid (goF l (l.drop k) k = goF l l 0) ∧ more w x = wr) (fun i _ => l.length - (intOf i).toNat)
  case atStart => exact ⟨0, _, by omega, rfl, Lib.hid rfl, more_self w⟩
  case round =>
    obtain ⟨k, x, hk, rfl, hr, rfl⟩ := hrel
    by_cases h1 : k < l.length
    · have h1' : (k : Int) < (l.length : Int) := by omega
      have hkc : (k : Int) ≤ (ca : Int) := by omega
      obtain ⟨b, off, rfl, hb, hcb⟩ := HA.out k h1
      obtain ⟨c0, c1⟩ := hcb k h1
      clear hcb
      have C0 := fun y => (more_cell w y _ hb).trans c0
      have C1 := fun y => (more_cell w y _ hb).trans c1
      clear c0 c1
      have FL : ∀ W, FieldsIn W (some ⟨b, off, none⟩) l → Gives Try.prog 18 #[.slice (some ⟨b, off, none⟩) k ca, .string l[k].n] W (.tuple #[.int .i64 (fldI l[k].n (l.take k)), .bool (fldB l[k].n (l.take k))]) := fun W h => by
        have := field_any (some ⟨b, off, none⟩) ca (l.take k) l[k].n W (by simp; omega) (h.take k)
        rwa [List.length_take, Nat.min_eq_left hk] at this
      have NM := fun W => named_any l[k].n W (HL.out _ (List.getElem_mem h1))
      have HS := Lib.hid (show ((!fldB l[k].n (l.take k) && namedB l[k].n && kindB l[k].k) && goF l (l.drop (k + 1)) (k + 1)) = goF l l 0 by
        rw [← hr.out, List.drop_eq_getElem_cons h1]; rfl)
      have HF := Lib.hid (show goF l l 0 = false → isF l = false by intro h; unfold isF; rw [h]; rfl)
      have HK := Lib.hid (show kindB l[k].k = true ↔ 1 ≤ l[k].k ∧ l[k].k ≤ 5 by unfold kindB; simp)
      generalize fldI l[k].n (l.take k) = fi at *
      generalize fldB l[k].n (l.take k) = fb at *
      generalize namedB l[k].n = nb at *
      generalize kindB l[k].k = kb at *
      generalize l[k].n = pn at *
      generalize l[k].k = pk at *
      replace FL := Lib.hid FL
      replace NM := Lib.hid NM
      go_wp2_with fail
      refine wp_named (R := fun W => Below w.heap.size w W ∧ w.heap.size + x.objs.size < W.heap.size ∧ W.cell? ⟨w.heap.size + x.objs.size, 0, none⟩ = some (.string pn) ∧ W.cell? ⟨w.heap.size + x.objs.size, 1, none⟩ = some (.int .i64 pk)) ⟨(by repeat (first | (with_reducible exact Below.refl _ _) | (with_reducible refine Below.drew ?_) | (with_reducible refine Below.alloc ?_ (by simp [more_size]; try omega) _) | (with_reducible refine Below.setCell ?_ (by simp [more_size]; try omega) _) | (with_reducible refine below_more ?_ _ (by simp [more_size]; try omega)))), by simp [more_size], by simp [go_sem, more_size], by simp [go_sem, more_size]⟩ ?_
      rintro W ⟨bW, sW, d0, d1⟩
      have D0 := fun y => (more_cell W y _ sW).trans d0
      have D1 := fun y => (more_cell W y _ sW).trans d1
      clear d0 d1
      have FW := Lib.hid (HA.out.below bW)
      refine wp_region_more (by kernel_rfl) (by kernel_rfl) ?_
      repeat (go_big_quiet_step ((go_at_call 18; exact (FL.out _ (FW.out.more _)).at_)))
      refine wpQuiet_nil ?_
      rintro _ ⟨y, rfl⟩
      cases fb with
      | true =>
        go_wp2
        go_ret
        exact ⟨ret_bool (HF.out (by rw [← HS.out]; rfl)).symm, more_of_below (below_more bW _ bW.size)⟩
      | false =>
        cases nb with
        | false =>
          go_wp2_with fail
          refine (NM.out _).mono ?_; rintro e w' ⟨rfl, rfl⟩
          go_wp2
          go_ret
          exact ⟨ret_bool (HF.out (by rw [← HS.out]; rfl)).symm, more_of_below (below_more bW _ bW.size)⟩
        | true =>
          go_wp2_with fail
          refine (NM.out _).mono ?_; rintro e w' ⟨rfl, rfl⟩
          go_wp2
          all_goals
            try simp only [Bool.not_eq_true', Bool.not_eq_false', decide_eq_false_iff_not, decide_eq_true_eq] at *
          all_goals first
            | (have hk1 : kb = true := HK.out.2 (by omega)
               obtain ⟨x', e⟩ := more_of_below (below_more bW y bW.size)
               refine ⟨⟨k + 1, x', by omega, by go_num, Lib.hid ?_, e.symm⟩, by simp [intOf]; omega⟩
               have := HS.out
               rw [hk1] at this
               exact this)
            | (have hk1 : kb = false := Bool.eq_false_iff.2 fun h => by
                 have := HK.out.1 h
                 omega
               go_ret
               exact ⟨ret_bool (HF.out (by rw [← HS.out, hk1]; rfl)).symm, more_of_below (below_more bW _ bW.size)⟩)
    · have h1' : ¬ (k : Int) < (l.length : Int) := by omega
      have e1 : goF l l 0 = true := by rw [← hr.out, List.drop_eq_nil_of_le (by omega)]; rfl
      go_wp2
      all_goals
        go_ret
        refine ⟨ret_bool ?_, (more_of_below (by repeat (first | (with_reducible exact Below.refl _ _) | (with_reducible refine Below.drew ?_) | (with_reducible refine Below.alloc ?_ (by simp [more_size]; try omega) _) | (with_reducible refine Below.setCell ?_ (by simp [more_size]; try omega) _) | (with_reducible refine below_more ?_ _ (by simp [more_size]; try omega)))))⟩
        unfold isF
        rw [e1, Bool.true_and, Bool.eq_iff_iff]
        try simp only [Bool.and_eq_true, decide_eq_true_eq] at *
        first | omega | (simp; omega) | simp
end Go.Proofs.Ytilpgojkbgbinaa
