/- Package schema: records. -/
import Derived.Test.YtilpgojkbgbinaaIs
set_option maxRecDepth 100000
set_option linter.unusedVariables false
set_option linter.unusedSimpArgs false
namespace Go.Proofs.Ytilpgojkbgbinaa
open Go.RowKit
attribute [local go_sem] run_frombits run_tobits more_more more_drew more_drewN more_size more_cell more_frozen run_store_float lt_c1 le_c1 lt_s1 le_s1 lt_c2 le_c2 lt_s2 le_s2 lt_c3 le_c3 lt_s3 le_s3 lt_c4 le_c4 lt_s4 le_s4 lt_c5 le_c5 lt_s5 le_s5 lt_c6 le_c6 lt_s6 le_s6 lt_c7 le_c7 lt_s7 le_s7 lt_c8 le_c8 lt_s8 le_s8 lt_c9 le_c9 lt_s9 le_s9 lt_c10 le_c10 lt_s10 le_s10 lt_c11 le_c11 lt_s11 le_s11 lt_c12 le_c12 lt_s12 le_s12 le_c0

def chkL : List Fld → List Val → Bool
  | f :: l, a :: m => (a.k == f.k && isV a) && chkL l m
  | _, _ => true
def chkN (l : List Fld) (m : List Val) : Int := if isF l = true then (if m.length = l.length then (if chkL l m = true then 0 else 41) else 41) else 40

set_option maxHeartbeats 2000000 in
theorem check_any (A : Option Addr) (ca : Nat) (l : List Fld) (hl : namesOk l) (B : Option Addr) (cb : Nat) (m : List Val) (hm : allOk m) (w : World) (la : l.length ≤ ca) (lc : ca ≤ 9223372036854775807) (lb : m.length ≤ 9223372036854775807) (ha : FieldsIn w A l) (hb : ValsIn w B m) :
    Gives Try.prog 27 #[.slice A l.length ca, .slice B m.length cb] w (.int .i64 (chkN l m)) := by
  have IF := fun W h => isf_any A ca l hl W la lc h
  have HA := Lib.hid ha; clear ha
  have HB := Lib.hid hb; clear hb
  have HL := Lib.hid hl; clear hl
  have HM := Lib.hid hm; clear hm
  cases hf : isF l with
  | false =>
    rw [hf] at IF
    have e : chkN l m = 40 := by unfold chkN; rw [hf]; rfl
    replace IF := Lib.hid IF
    go_enter Try.func27, Try.ntmps27
    go_wp2_with fail
    refine (IF.out _ (HA.out.below (by repeat (first | (with_reducible exact Below.refl _ _) | (with_reducible refine Below.drew ?_) | (with_reducible refine Below.alloc ?_ (by simp [more_size]; try omega) _) | (with_reducible refine Below.setCell ?_ (by simp [more_size]; try omega) _) | (with_reducible refine below_more ?_ _ (by simp [more_size]; try omega)))))).mono' ?_; intro y
    go_wp2
    go_ret
    exact ⟨ret_i64 e.symm, (more_of_below (by repeat (first | (with_reducible exact Below.refl _ _) | (with_reducible refine Below.drew ?_) | (with_reducible refine Below.alloc ?_ (by simp [more_size]; try omega) _) | (with_reducible refine Below.setCell ?_ (by simp [more_size]; try omega) _) | (with_reducible refine below_more ?_ _ (by simp [more_size]; try omega)))))⟩
  | true =>
    rw [hf] at IF
    replace IF := Lib.hid IF
    by_cases hlen : m.length = l.length
    · have hlen' : ((m.length : Int) != (l.length : Int)) = false := by rw [hlen]; simp
      have e1 : chkN l m = if chkL l m = true then 0 else 41 := by unfold chkN; rw [hf, if_pos rfl, if_pos hlen]
      replace e1 := Lib.hid e1
      go_enter Try.func27, Try.ntmps27
      go_wp2_with fail
      refine (IF.out _ (HA.out.below (by repeat (first | (with_reducible exact Below.refl _ _) | (with_reducible refine Below.drew ?_) | (with_reducible refine Below.alloc ?_ (by simp [more_size]; try omega) _) | (with_reducible refine Below.setCell ?_ (by simp [more_size]; try omega) _) | (with_reducible refine below_more ?_ _ (by simp [more_size]; try omega)))))).mono' ?_; intro y
      go_wp2
      clear IF hf hlen'
      go_loopw [17] (fun i wr => ∃ (k : Nat) (x : Ext), k ≤ l.length ∧ i = .int .i64 k ∧ Hid (chkL (l.drop k) (m.drop k) = chkL l m) ∧ more w x = wr) (fun i _ => l.length - (intOf i).toNat)
      case atStart => exact ⟨0, _, by omega, rfl, Lib.hid rfl, rfl⟩
      case round =>
        obtain ⟨k, x, hk, rfl, hr, rfl⟩ := hrel
        by_cases h1 : k < l.length
        · have h1' : (k : Int) < (l.length : Int) := by omega
          have h2 : k < m.length := by omega
          have h2' : (k : Int) < (m.length : Int) := by omega
          obtain ⟨b, off, rfl, hb, hcb⟩ := HA.out k h1
          obtain ⟨c0, c1⟩ := hcb k h1
          clear hcb
          obtain ⟨b2, off2, rfl, hb2, hcb⟩ := HB.out k h2
          obtain ⟨e0, e1', e2, e3⟩ := hcb k h2
          clear hcb
          have C0 := fun y => (more_cell w y _ hb).trans c0
          have C1 := fun y => (more_cell w y _ hb).trans c1
          clear c0 c1
          have HS := Lib.hid (show ((m[k].k == l[k].k && isV m[k]) && chkL (l.drop (k + 1)) (m.drop (k + 1))) = chkL l m by
            rw [← hr.out, List.drop_eq_getElem_cons h1, List.drop_eq_getElem_cons h2]; rfl)
          have HF := Lib.hid (show chkL l m = false → chkN l m = 41 by intro h; rw [e1.out, h]; rfl)
          have IV := fun W => is_v m[k] (HM.out _ (List.getElem_mem h2)) W
          generalize isV m[k] = iv at *
          unfold Val.v at IV
          generalize m[k].k = mk at *
          generalize m[k].i = mi at *
          generalize m[k].s = ms at *
          generalize m[k].f = mf at *
          generalize l[k].n = pn at *
          generalize l[k].k = pk at *
          replace IV := Lib.hid IV
          go_wp2_with fail
          refine wp_named (R := fun W => Below w.heap.size w W ∧ w.heap.size + x.objs.size < W.heap.size ∧ W.cell? ⟨w.heap.size + x.objs.size, 0, none⟩ = some (.string pn) ∧ W.cell? ⟨w.heap.size + x.objs.size, 1, none⟩ = some (.int .i64 pk)) ⟨(by repeat (first | (with_reducible exact Below.refl _ _) | (with_reducible refine Below.drew ?_) | (with_reducible refine Below.alloc ?_ (by simp [more_size]; try omega) _) | (with_reducible refine Below.setCell ?_ (by simp [more_size]; try omega) _) | (with_reducible refine below_more ?_ _ (by simp [more_size]; try omega)))), by simp [more_size], by simp [go_sem, more_size], by simp [go_sem, more_size]⟩ ?_
          rintro W ⟨bW, sW, d0, d1⟩
          have D0 := fun y => (more_cell W y _ sW).trans d0
          have D1 := fun y => (more_cell W y _ sW).trans d1
          clear d0 d1
          have hb3 : b2 < W.heap.size := Nat.lt_of_lt_of_le hb2 bW.size
          have E0 := fun y => (more_cell W y _ hb3).trans ((bW.cell (p := ⟨b2, off2 + k * 4, none⟩) hb2).trans e0)
          have E1 := fun y => (more_cell W y _ hb3).trans ((bW.cell (p := ⟨b2, off2 + k * 4 + 1, none⟩) hb2).trans e1')
          have E2 := fun y => (more_cell W y _ hb3).trans ((bW.cell (p := ⟨b2, off2 + k * 4 + 2, none⟩) hb2).trans e2)
          have E3 := fun y => (more_cell W y _ hb3).trans ((bW.cell (p := ⟨b2, off2 + k * 4 + 3, none⟩) hb2).trans e3)
          clear e0 e1' e2 e3
          cases hkk : (mk == pk) with
          | false =>
            have hne : (mk != pk) = true := by rw [bne, hkk]; rfl
            refine wp_region_more (by kernel_rfl) (by kernel_rfl) ?_
            repeat (go_big_quiet_step ((go_at_call 80; exact (IV.out _).at_)))
            refine wpQuiet_nil ?_
            rintro _ ⟨y, rfl⟩
            go_wp2
            go_ret
            exact ⟨ret_i64 (HF.out (by rw [← HS.out, hkk]; rfl)).symm, more_of_below (below_more bW _ bW.size)⟩
          | true =>
            have hne : (mk != pk) = false := by rw [bne, hkk]; rfl
            refine wp_region_more (by kernel_rfl) (by kernel_rfl) ?_
            repeat (go_big_quiet_step ((go_at_call 80; exact (IV.out _).at_)))
            refine wpQuiet_nil ?_
            rintro _ ⟨y, rfl⟩
            cases iv with
            | false =>
              go_wp2
              go_ret
              exact ⟨ret_i64 (HF.out (by rw [← HS.out, hkk]; rfl)).symm, more_of_below (below_more bW _ bW.size)⟩
            | true =>
              go_wp2
              obtain ⟨x', e⟩ := more_of_below (below_more bW y bW.size)
              refine ⟨⟨k + 1, x', by omega, by go_num, Lib.hid ?_, e.symm⟩, by simp [intOf]; omega⟩
              have := HS.out
              rw [hkk] at this
              exact this
        · have h1' : ¬ (k : Int) < (l.length : Int) := by omega
          have e2 : chkL l m = true := by
            rw [← hr.out, List.drop_eq_nil_of_le (by omega)]
            unfold chkL; rfl
          go_wp2
          go_ret
          exact ⟨ret_i64 (by rw [e1.out, e2]; rfl), (more_of_below (by repeat (first | (with_reducible exact Below.refl _ _) | (with_reducible refine Below.drew ?_) | (with_reducible refine Below.alloc ?_ (by simp [more_size]; try omega) _) | (with_reducible refine Below.setCell ?_ (by simp [more_size]; try omega) _) | (with_reducible refine below_more ?_ _ (by simp [more_size]; try omega)))))⟩
    · have hlen' : ((m.length : Int) != (l.length : Int)) = true := by rw [bne_iff_ne]; omega
      have e1 : chkN l m = 41 := by unfold chkN; rw [hf, if_pos rfl, if_neg hlen]
      go_enter Try.func27, Try.ntmps27
      go_wp2_with fail
      refine (IF.out _ (HA.out.below (by repeat (first | (with_reducible exact Below.refl _ _) | (with_reducible refine Below.drew ?_) | (with_reducible refine Below.alloc ?_ (by simp [more_size]; try omega) _) | (with_reducible refine Below.setCell ?_ (by simp [more_size]; try omega) _) | (with_reducible refine below_more ?_ _ (by simp [more_size]; try omega)))))).mono' ?_; intro y
      go_wp2
      go_ret
      exact ⟨ret_i64 e1.symm, (more_of_below (by repeat (first | (with_reducible exact Below.refl _ _) | (with_reducible refine Below.drew ?_) | (with_reducible refine Below.alloc ?_ (by simp [more_size]; try omega) _) | (with_reducible refine Below.setCell ?_ (by simp [more_size]; try omega) _) | (with_reducible refine below_more ?_ _ (by simp [more_size]; try omega)))))⟩
end Go.Proofs.Ytilpgojkbgbinaa
