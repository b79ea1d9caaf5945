/- The document's rows: the same ones. -/
import Derived.Test.YtilpgojkbgbinaaRef9E
set_option maxRecDepth 100000
set_option linter.unusedVariables false
set_option linter.unusedSimpArgs false
namespace Go.Proofs.Ytilpgojkbgbinaa
open Go.RowKit
open Go.Maps (has size Keyed int_keyed keyOf_int_mk)
attribute [local go_sem] run_frombits run_tobits more_more more_drew more_drewN more_size more_cell more_frozen run_store_float lt_c1 le_c1 lt_s1 le_s1 lt_c2 le_c2 lt_s2 le_s2 lt_c3 le_c3 lt_s3 le_s3 lt_c4 le_c4 lt_s4 le_s4 lt_c5 le_c5 lt_s5 le_s5 lt_c6 le_c6 lt_s6 le_s6 lt_c7 le_c7 lt_s7 le_s7 lt_c8 le_c8 lt_s8 le_s8 lt_c9 le_c9 lt_s9 le_s9 lt_c10 le_c10 lt_s10 le_s10 lt_c11 le_c11 lt_s11 le_s11 lt_c12 le_c12 lt_s12 le_s12 le_c0
set_option maxHeartbeats 2000000 in
theorem samerow_any (id ver : Int) (A B : Option Addr) (ca cb : Nat) (l : List Val) (hl : allOk l) (hn : l.length ≤ 1000) (w : World) (ha : ValsIn w A l) (hb : ValsIn w B l) :
    Gives Try.prog 70 #[.agg #[.int .i64 id, .int .i64 ver, .slice A l.length ca], .agg #[.int .i64 id, .int .i64 ver, .slice B l.length cb]] w (.bool true) := by
  have R := Lib.hid (fun W (h : Below w.heap.size w W) => rows_ref A B ca cb l l hl hl W (by omega) (by omega) (ha.below h) (hb.below h))
  rw [rowsV_self9 l hl] at R
  clear ha hb hl
  go_enter Try.func70, Try.ntmps70
  go_wp2_with fail
  refine (R.out _ (by repeat (first | (with_reducible exact Below.refl _ _) | (with_reducible refine Below.drew ?_) | (with_reducible refine Below.alloc ?_ (by simp [more_size]; try omega) _) | (with_reducible refine Below.setCell ?_ (by simp [more_size]; try omega) _) | (with_reducible refine below_more ?_ _ (by simp [more_size]; try omega))))).mono' ?_; intro x
  go_wp2
  go_ret
  exact ⟨rfl, (more_of_below (by repeat (first | (with_reducible exact Below.refl _ _) | (with_reducible refine Below.drew ?_) | (with_reducible refine Below.alloc ?_ (by simp [more_size]; try omega) _) | (with_reducible refine Below.setCell ?_ (by simp [more_size]; try omega) _) | (with_reducible refine below_more ?_ _ (by simp [more_size]; try omega)))))⟩
/-- rows that are alike -/
def Alike (R L : List Slt) : Prop := R.length = L.length ∧ ∀ i (h1 : i < R.length) (h2 : i < L.length), R[i].id = L[i].id ∧ R[i].ver = L[i].ver ∧ R[i].vals = L[i].vals
set_option maxHeartbeats 4000000 in
theorem same9_any (A B : Option Addr) (ca cb : Nat) (R L : List Slt) (hRL : Alike R L) (hl : R.length ≤ 1000) (w : World) (hv : ∀ s ∈ L, allOk s.vals ∧ s.vals.length ≤ 1000)
    (hA : RowIn sltC 3 w A R) (hB : RowIn sltC 3 w B L) (vA : ∀ s ∈ R, ValsIn w s.A s.vals) (vB : ∀ s ∈ L, ValsIn w s.A s.vals) :
    Gives Try.prog 68 #[.slice A R.length ca, .slice B L.length cb] w (.bool true) := by
  have SR := Lib.hid (show ∀ i (h1 : i < R.length) (h2 : i < L.length) W, Below w.heap.size w W → Gives Try.prog 70 #[.agg #[.int .i64 L[i].id, .int .i64 L[i].ver, .slice R[i].A L[i].vals.length R[i].cap], .agg #[.int .i64 L[i].id, .int .i64 L[i].ver, .slice L[i].A L[i].vals.length L[i].cap]] W (.bool true) from fun i h1 h2 W hW => by
    obtain ⟨q1, q2⟩ := hv L[i] (List.getElem_mem h2)
    have e := (hRL.2 i h1 h2).2.2
    have va := vA R[i] (List.getElem_mem h1)
    rw [e] at va
    exact samerow_any _ _ _ _ _ _ _ q1 q2 W (va.below hW) ((vB L[i] (List.getElem_mem h2)).below hW))
  have hRl := hRL.1
  have HA := Lib.hid (show ∀ i (h1 : i < R.length) (h2 : i < L.length), ∃ b o, A = some ⟨b, o, none⟩ ∧ b < w.heap.size ∧ w.cell? ⟨b, o + i * 3, none⟩ = some (.int .i64 L[i].id) ∧ w.cell? ⟨b, o + i * 3 + 1, none⟩ = some (.int .i64 L[i].ver) ∧ w.cell? ⟨b, o + i * 3 + 2, none⟩ = some (.slice R[i].A L[i].vals.length R[i].cap) from fun i h1 h2 => by
    obtain ⟨b, o, e, hb, hc⟩ := hA i h1
    obtain ⟨e1, e2, e3⟩ := hRL.2 i h1 h2
    rw [← e1, ← e2, ← e3]
    exact ⟨b, o, e, hb, hc i h1 0 _ rfl, hc i h1 1 _ rfl, hc i h1 2 _ rfl⟩)
  have HB := Lib.hid (show ∀ i (h2 : i < L.length), ∃ b o, B = some ⟨b, o, none⟩ ∧ b < w.heap.size ∧ w.cell? ⟨b, o + i * 3, none⟩ = some (.int .i64 L[i].id) ∧ w.cell? ⟨b, o + i * 3 + 1, none⟩ = some (.int .i64 L[i].ver) ∧ w.cell? ⟨b, o + i * 3 + 2, none⟩ = some (.slice L[i].A L[i].vals.length L[i].cap) from fun i h2 => by
    obtain ⟨b, o, e, hb, hc⟩ := hB i h2
    exact ⟨b, o, e, hb, hc i h2 0 _ rfl, hc i h2 1 _ rfl, hc i h2 2 _ rfl⟩)
  clear hA hB vA vB hv hRL
  rw [hRl] at hl ⊢
  go_enter Try.func68, Try.ntmps68
  go_wp2
  go_loopw [5] (fun t wr => ∃ (i : Nat) (x : Ext), t = .int .i64 i ∧ i ≤ L.length ∧ wr = more w x) (fun t _ => L.length - (intOf t).toNat)
  case atStart => exact ⟨0, ⟨#[], w.drawn⟩, rfl, by omega, (more_self w).symm⟩
  case round =>
    obtain ⟨i, x, rfl, hi, rfl⟩ := hrel
    by_cases h1 : i < L.length
    · have h1' : (i : Int) < (L.length : Int) := by omega
      obtain ⟨b, o, rfl, hb, a0, a1, a2⟩ := HA.out i (by omega) h1
      obtain ⟨b2, o2, rfl, hb2, d0, d1, d2⟩ := HB.out i h1
      have SRi := Lib.hid (fun y => SR.out i (by omega) h1 (more w y) (more_below w y))
      replace a0 := fun y => (more_cell w y _ hb).trans a0
      replace a1 := fun y => (more_cell w y _ hb).trans a1
      replace a2 := fun y => (more_cell w y _ hb).trans a2
      replace d0 := fun y => (more_cell w y _ hb2).trans d0
      replace d1 := fun y => (more_cell w y _ hb2).trans d1
      replace d2 := fun y => (more_cell w y _ hb2).trans d2
      generalize L[i] = s at *
      generalize R[i]'(by omega) = r at *
      go_wp2_with fail
      refine wp_region_more2 (by kernel_rfl) (by kernel_rfl) ?_
      repeat (go_big_quiet_step (((with_reducible exact (SRi.out _).at_))))
      refine wpQuiet_nil ?_
      rintro _ ⟨z, rfl⟩
      go_wp2
      exact ⟨⟨i + 1, _, by go_num, by omega, rfl⟩, by simp [intOf]; omega⟩
    · have h1' : ((i : Int) < (L.length : Int)) = False := eq_false (by omega)
      go_wp2
      go_ret
      exact ⟨rfl, _, rfl⟩
end Go.Proofs.Ytilpgojkbgbinaa
