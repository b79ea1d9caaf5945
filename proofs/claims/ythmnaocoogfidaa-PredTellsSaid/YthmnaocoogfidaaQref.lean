/- The document's queries: whether one may be. -/
import Derived.Test.YthmnaocoogfidaaPis
set_option maxRecDepth 100000
set_option linter.unusedVariables false
set_option linter.unusedSimpArgs false
namespace Go.Proofs.Ythmnaocoogfidaa
open Go.RowKit
attribute [local go_sem] run_frombits run_tobits more_more more_drew more_drewN more_size more_cell more_frozen run_store_float lt_c1 le_c1 lt_s1 le_s1 lt_c2 le_c2 lt_s2 le_s2 lt_c3 le_c3 lt_s3 le_s3 lt_c4 le_c4 lt_s4 le_s4 lt_c5 le_c5 lt_s5 le_s5 lt_c6 le_c6 lt_s6 le_s6 lt_c7 le_c7 lt_s7 le_s7 lt_c8 le_c8 lt_s8 le_s8 lt_c9 le_c9 lt_s9 le_s9 lt_c10 le_c10 lt_s10 le_s10 lt_c11 le_c11 lt_s11 le_s11 lt_c12 le_c12 lt_s12 le_s12 le_c0

set_option maxHeartbeats 16000000 in
theorem isq_ref (A B C : Option Addr) (ca cb cc : Nat) (s : List Fld) (ps : List Prd) (os : List Ord) (off lim : Int) (hs : namesOk s) (hp : prdsOk ps) (w : World) (la : s.length ≤ ca) (lca : ca ≤ 9223372036854775807) (lb : ps.length ≤ cb) (lcb : cb ≤ 9223372036854775807) (lc : os.length ≤ cc) (lcc : cc ≤ 9223372036854775807)
    (ha : FieldsIn w A s) (hb : RowIn prdC 6 w B ps) (hc : RowIn ordC 2 w C os) :
    Gives Try.prog 29 #[.slice A s.length ca, .agg #[.slice B ps.length cb, .slice C os.length cc, .int .i64 off, .int .i64 lim]] w (.int .i64 (isqN s ps os off)) := by
  obtain ⟨r, HR⟩ : ∃ r, r = isqN s ps os off := ⟨_, rfl⟩
  rw [← HR]
  unfold isqN at HR
  replace HR := Lib.hid HR
  have IS := Lib.hid (fun W (h : Below w.heap.size w W) => is_ref5 A ca s.length s hs W rfl la lca (ha.below h))
  go_enter Try.func29, Try.ntmps29
  go_wp2_with fail
  refine calls_at (R := fun W => Below w.heap.size w W ∧ Blk W w.heap.size #[.slice B ps.length cb, .slice C os.length cc, .int .i64 off, .int .i64 lim] 53) ⟨(by repeat (first | (with_reducible exact Below.refl _ _) | (with_reducible refine Below.drew ?_) | (with_reducible refine Below.alloc ?_ (by simp [more_size]; try omega) _) | (with_reducible refine Below.setCell ?_ (by simp [more_size]; try omega) _) | (with_reducible refine below_more ?_ _ (by simp [more_size]; try omega)))), Blk.new _ _ _ (by simp)⟩ ?_
  rintro W ⟨bW, k2⟩
  refine (IS.out _ bW).mono' ?_; intro x
  replace k2 := k2.more x
  replace bW := bW.trans ((more_below W x).mono bW.size)
  generalize more W x = W1 at *
  replace HR := HR.out
  have e0 := fun y => (k2.more y).cell 0
  have e1 := fun y => (k2.more y).cell 1
  have e2 := fun y => (k2.more y).cell 2
  have e0' : W1.cell? ⟨w.heap.size, 0, none⟩ = some (.slice B ps.length cb) := k2.cell 0
  have e1' : W1.cell? ⟨w.heap.size, 1, none⟩ = some (.slice C os.length cc) := k2.cell 1
  have e2' : W1.cell? ⟨w.heap.size, 2, none⟩ = some (.int .i64 off) := k2.cell 2
  have sW2 := k2.lt
  clear k2 IS
  have fin := Lib.hid (fun y => more_of_below (bW.trans ((more_below W1 y).mono bW.size)))
  have fin0 := Lib.hid (more_of_below bW)
  cases hf : isF s with
  | false =>
    rw [hf, if_pos rfl] at HR
    subst HR
    go_wp2
    go_ret
    exact ⟨rfl, fin0.out⟩
  | true =>
    rw [hf, if_neg (by decide)] at HR
    by_cases h1 : 6 < ps.length
    · have h1' : (6 : Int) < (ps.length : Int) := by omega
      rw [if_pos h1] at HR
      subst HR
      go_wp2
      go_ret
      exact ⟨rfl, fin0.out⟩
    · have h1' : ¬ (6 : Int) < (ps.length : Int) := by omega
      rw [if_neg h1] at HR
      by_cases h2 : 3 < os.length
      · have h2' : (3 : Int) < (os.length : Int) := by omega
        rw [if_pos h2] at HR
        subst HR
        go_wp2
        go_ret
        exact ⟨rfl, fin0.out⟩
      · have h2' : ¬ (3 : Int) < (os.length : Int) := by omega
        rw [if_neg h2] at HR
        by_cases h3 : off < 0
        · rw [if_pos h3] at HR
          subst HR
          go_wp2
          go_ret
          exact ⟨rfl, fin0.out⟩
        · rw [if_neg h3] at HR
          replace HR := Lib.hid HR
          have HA := Lib.hid (ha.below bW)
          have HB := Lib.hid (hb.below bW)
          have HC := Lib.hid (hc.below bW)
          replace hp := Lib.hid hp
          clear ha hb hc hf hs
          go_wp2_with fail
          go_loopw [5, 6] (fun t _ wr => ∃ (k : Nat) (x : Ext), k ≤ ps.length ∧ t = .int .i64 k ∧ Hid (((ps.drop k).any fun p => !sngB s p) = ps.any fun p => !sngB s p) ∧ more W1 x = wr) (fun t _ _ => ps.length - (intOf t).toNat)
          case atStart => exact ⟨0, _, by omega, rfl, Lib.hid rfl, more_self W1⟩
          case round =>
            obtain ⟨k, x, hk, rfl, hr, rfl⟩ := hrel
            by_cases h1 : k < ps.length
            · have h1' : (k : Int) < (ps.length : Int) := by omega
              obtain ⟨b, of, rfl, hbl, hcb⟩ := HB.out k h1
              have hm := hcb k h1
              clear hcb
              have HS := Lib.hid (show (!sngB s ps[k] || (ps.drop (k + 1)).any fun p => !sngB s p) = (ps.any fun p => !sngB s p) by
                rw [← hr.out, List.drop_eq_getElem_cons h1]; rfl)
              have IV := fun W => is_ref ps[k].v (hp.out _ (List.getElem_mem h1)) W
              generalize ps[k] = p at *
              have C0 := fun y => (more_cell W1 y _ hbl).trans (hm 0 _ rfl)
              have C1 := fun y => (more_cell W1 y _ hbl).trans (hm 1 _ rfl)
              have C2 := fun y => (more_cell W1 y _ hbl).trans (hm 2 _ rfl)
              have C3 := fun y => (more_cell W1 y _ hbl).trans (hm 3 _ rfl)
              have C4 := fun y => (more_cell W1 y _ hbl).trans (hm 4 _ rfl)
              have C5 := fun y => (more_cell W1 y _ hbl).trans (hm 5 _ rfl)
              simp only [Nat.add_zero] at C0
              clear hm
              obtain ⟨sb, hsb⟩ : ∃ sb, sb = sngB s p := ⟨_, rfl⟩
              rw [← hsb] at HS
              unfold sngB at hsb
              generalize isV p.v = iv at *
              obtain ⟨f, op, bk, bi, bst, bf⟩ := p
              unfold Val.v at IV
              dsimp only at *
              replace IV := Lib.hid IV
              replace hsb := Lib.hid hsb
              go_wp2_with fail
              refine wp_named (R := fun W2 => Below W1.heap.size W1 W2 ∧ Blk W2 (W1.heap.size + x.objs.size) #[.int .i64 f, .int .i64 op, .int .i64 bk, .int .i64 bi, .string bst, .float .f64 bf] 33) ⟨(by repeat (first | (with_reducible exact Below.refl _ _) | (with_reducible refine Below.drew ?_) | (with_reducible refine Below.alloc ?_ (by simp [more_size]; try omega) _) | (with_reducible refine Below.setCell ?_ (by simp [more_size]; try omega) _) | (with_reducible refine below_more ?_ _ (by simp [more_size]; try omega)))), Blk.new _ _ _ (by simp [more_size])⟩ ?_
              rintro W2 ⟨bW2, k3⟩
              have c0 := fun y => (k3.more y).cell 0
              have c1 := fun y => (k3.more y).cell 1
              have c2 := fun y => (k3.more y).cell 2
              have c3 := fun y => (k3.more y).cell 3
              have c4 := fun y => (k3.more y).cell 4
              have c5 := fun y => (k3.more y).cell 5
              clear k3 C0 C1 C2 C3 C4 C5
              replace hsb := hsb.out
              have done := Lib.hid (fun (h : sb = false) (y : Ext) => show (90 : Int) = r ∧ ∃ z, more W2 y = more w z from ⟨by rw [HR.out, ← HS.out, h]; rfl, more_of_below (bW.trans ((bW2.trans ((more_below W2 y).mono bW2.size)).mono bW.size))⟩)
              have next := Lib.hid (fun (h : sb = true) (y : Ext) => show ∃ x', more W1 x' = more W2 y ∧ ((ps.drop (k + 1)).any fun p => !sngB s p) = (ps.any fun p => !sngB s p) from by
                obtain ⟨x', e⟩ := more_of_below (below_more bW2 y bW2.size)
                refine ⟨x', e.symm, ?_⟩
                have := HS.out
                rw [h] at this
                simpa using this)
              by_cases h1 : f < 0
              · rw [if_pos h1] at hsb
                have d1 : decide (f < 0) = true := decide_eq_true h1
                obtain hsb := Lib.hid hsb
                refine wp_region_more (by kernel_rfl) (by kernel_rfl) ?_
                repeat (go_big_quiet_step (fail))
                refine wpQuiet_nil ?_
                rintro _ ⟨y, rfl⟩
                go_wp2
                go_ret
                exact ⟨ret_i64 (done.out hsb.out y).1, (done.out hsb.out y).2⟩
              · obtain ⟨m, rfl⟩ := Int.eq_ofNat_of_zero_le (show 0 ≤ f by omega)
                rw [if_neg h1] at hsb
                have d1 : decide ((m : Int) < 0) = false := decide_eq_false h1
                by_cases h2 : (s.length : Int) ≤ m
                · rw [if_pos h2] at hsb
                  have d2 : decide ((s.length : Int) ≤ (m : Int)) = true := decide_eq_true h2
                  have d2' : decide (s.length ≤ m) = true := decide_eq_true (by omega)
                  obtain hsb := Lib.hid hsb
                  refine wp_region_more (by kernel_rfl) (by kernel_rfl) ?_
                  repeat (go_big_quiet_step (fail))
                  refine wpQuiet_nil ?_
                  rintro _ ⟨y, rfl⟩
                  go_wp2
                  go_ret
                  exact ⟨ret_i64 (done.out hsb.out y).1, (done.out hsb.out y).2⟩
                · rw [if_neg h2] at hsb
                  have hm : m < s.length := by omega
                  have hm' : (m : Int) < (s.length : Int) := by omega
                  have d2 : decide ((s.length : Int) ≤ (m : Int)) = false := decide_eq_false h2
                  have d2' : decide (s.length ≤ m) = false := decide_eq_false (by omega)
                  by_cases h3 : op < 1
                  · rw [if_pos h3] at hsb
                    have d3 : decide (op < 1) = true := decide_eq_true h3
                    obtain hsb := Lib.hid hsb
                    refine wp_region_more (by kernel_rfl) (by kernel_rfl) ?_
                    repeat (go_big_quiet_step (fail))
                    refine wpQuiet_nil ?_
                    rintro _ ⟨y, rfl⟩
                    go_wp2
                    go_ret
                    exact ⟨ret_i64 (done.out hsb.out y).1, (done.out hsb.out y).2⟩
                  · rw [if_neg h3] at hsb
                    have d3 : decide (op < 1) = false := decide_eq_false h3
                    by_cases h4 : 6 < op
                    · rw [if_pos h4] at hsb
                      have d4 : decide (6 < op) = true := decide_eq_true h4
                      obtain hsb := Lib.hid hsb
                      refine wp_region_more (by kernel_rfl) (by kernel_rfl) ?_
                      repeat (go_big_quiet_step (fail))
                      refine wpQuiet_nil ?_
                      rintro _ ⟨y, rfl⟩
                      go_wp2
                      go_ret
                      exact ⟨ret_i64 (done.out hsb.out y).1, (done.out hsb.out y).2⟩
                    · rw [if_neg h4] at hsb
                      have d4 : decide (6 < op) = false := decide_eq_false h4
                      cases iv with
                      | false =>
                        rw [if_pos rfl] at hsb
                        obtain hsb := Lib.hid hsb
                        refine wp_region_more (by kernel_rfl) (by kernel_rfl) ?_
                        repeat (go_big_quiet_step ((go_at_call 74; exact (IV.out _).at_)))
                        refine wpQuiet_nil ?_
                        rintro _ ⟨y, rfl⟩
                        go_wp2
                        go_ret
                        exact ⟨ret_i64 (done.out hsb.out y).1, (done.out hsb.out y).2⟩
                      | true =>
                        rw [if_neg (by decide)] at hsb
                        have hka : kndAt s (m : Int) = s[m].k := by unfold kndAt; rw [Int.toNat_natCast, List.getElem?_eq_getElem hm]; rfl
                        rw [hka] at hsb
                        obtain ⟨b2, off2, rfl, hb2, hcb⟩ := (HA.out.below bW2) m hm
                        obtain ⟨_, g1⟩ := hcb m hm
                        replace g1 := fun y => (more_cell W2 y _ hb2).trans g1
                        clear hcb hka
                        generalize s[m].k = kk at *
                        cases h5 : (bk == kk) with
                        | false =>
                          have h5' : (bk != kk) = true := by rw [bne, h5]; rfl
                          rw [h5, if_pos rfl] at hsb
                          obtain hsb := Lib.hid hsb
                          refine wp_region_more (by kernel_rfl) (by kernel_rfl) ?_
                          repeat (go_big_quiet_step ((go_at_call 74; exact (IV.out _).at_)))
                          refine wpQuiet_nil ?_
                          rintro _ ⟨y, rfl⟩
                          go_wp2
                          go_ret
                          exact ⟨ret_i64 (done.out hsb.out y).1, (done.out hsb.out y).2⟩
                        | true =>
                          have h5' : (bk != kk) = false := by rw [bne, h5]; rfl
                          rw [h5, if_neg (by decide)] at hsb
                          by_cases h6 : op = 6
                          · subst h6
                            rw [if_pos rfl] at hsb
                            cases h7 : (bk == 3) with
                            | false =>
                              have h7' : (bk != 3) = true := by rw [bne, h7]; rfl
                              rw [h7] at hsb
                              obtain hsb := Lib.hid hsb
                              refine wp_region_more (by kernel_rfl) (by kernel_rfl) ?_
                              repeat (go_big_quiet_step ((go_at_call 74; exact (IV.out _).at_)))
                              refine wpQuiet_nil ?_
                              rintro _ ⟨y, rfl⟩
                              go_wp2
                              go_ret
                              exact ⟨ret_i64 (done.out hsb.out y).1, (done.out hsb.out y).2⟩
                            | true =>
                              have h7' : (bk != 3) = false := by rw [bne, h7]; rfl
                              rw [h7] at hsb
                              obtain hsb := Lib.hid hsb
                              refine wp_region_more (by kernel_rfl) (by kernel_rfl) ?_
                              repeat (go_big_quiet_step ((go_at_call 74; exact (IV.out _).at_)))
                              refine wpQuiet_nil ?_
                              rintro _ ⟨y, rfl⟩
                              go_wp2
                              obtain ⟨x', e1, e2⟩ := next.out hsb.out y
                              exact ⟨⟨k + 1, x', by omega, by go_num, Lib.hid e2, e1⟩, by simp [intOf]; omega⟩
                          · rw [if_neg h6] at hsb
                            have d6 : (op == 6) = false := by rw [beq_eq_false_iff_ne]; exact h6
                            obtain hsb := Lib.hid hsb
                            refine wp_region_more (by kernel_rfl) (by kernel_rfl) ?_
                            repeat (go_big_quiet_step ((go_at_call 74; exact (IV.out _).at_)))
                            refine wpQuiet_nil ?_
                            rintro _ ⟨y, rfl⟩
                            go_wp2
                            obtain ⟨x', e1, e2⟩ := next.out hsb.out y
                            exact ⟨⟨k + 1, x', by omega, by go_num, Lib.hid e2, e1⟩, by simp [intOf]; omega⟩
            · have h1' : ¬ (k : Int) < (ps.length : Int) := by omega
              have epa : (ps.any fun p => !sngB s p) = false := by rw [← hr.out, List.drop_eq_nil_of_le (by omega)]; rfl
              have HR2 := HR.out
              rw [epa, if_neg (by decide)] at HR2
              replace HR2 := Lib.hid HR2
              clear hr epa HR HB
              go_wp2_with fail
              go_loopw [7, 8] (fun t _ wr => ∃ (k : Nat) (x : Ext), k ≤ os.length ∧ t = .int .i64 k ∧ Hid (goO s.length os (os.drop k) k = goO s.length os os 0) ∧ more W1 x = wr) (fun t _ _ => os.length - (intOf t).toNat)
              case atStart => exact ⟨0, _, by omega, rfl, Lib.hid rfl, rfl⟩
              case round =>
                obtain ⟨k, x, hk, rfl, hr, rfl⟩ := hrel
                by_cases h1 : k < os.length
                · have h1' : (k : Int) < (os.length : Int) := by omega
                  obtain ⟨b, of, rfl, hbl, hcb⟩ := HC.out k h1
                  have HM := Lib.hid (fun j (hj : j < os.length) y => (more_cell W1 y _ hbl).trans (hcb j hj 0 _ rfl))
                  clear hcb
                  have HS := Lib.hid (show (okO s.length os k os[k] && goO s.length os (os.drop (k + 1)) (k + 1)) = goO s.length os os 0 by
                    rw [← hr.out, List.drop_eq_getElem_cons h1]; rfl)
                  have C0 := HM.out k h1
                  simp only [Nat.add_zero] at C0
                  have hok : okO s.length os k os[k] = (!((os.take k).any fun b => b.f == os[k].f) && decide (0 ≤ os[k].f ∧ os[k].f < s.length)) := rfl
                  generalize os[k].f = f at *
                  rw [hok] at HS
                  clear hok
                  replace HS := Lib.hid HS.out
                  rcases (show f < 0 ∨ (0 ≤ f ∧ (s.length : Int) ≤ f) ∨ (0 ≤ f ∧ f < s.length) by omega) with q | ⟨q1, q2⟩ | ⟨q1, q2⟩
                  · have e : r = 90 := by rw [HR2.out, ← HS.out, decide_eq_false (by omega : ¬ (0 ≤ f ∧ f < s.length))]; simp
                    subst e
                    go_wp2
                    go_ret
                    exact ⟨rfl, fin.out _⟩
                  · have e : r = 90 := by rw [HR2.out, ← HS.out, decide_eq_false (by omega : ¬ (0 ≤ f ∧ f < s.length))]; simp
                    subst e
                    have q1' : ¬ f < 0 := by omega
                    go_wp2
                    go_ret
                    exact ⟨rfl, fin.out _⟩
                  · have q1' : ¬ f < 0 := by omega
                    have q2' : ¬ (s.length : Int) ≤ f := by omega
                    have HD := Lib.hid (decide_eq_true (show 0 ≤ f ∧ f < s.length from ⟨q1, q2⟩))
                    go_wp2
                    go_loopw [8] (fun t wr => ∃ (j : Nat) (x : Ext), j ≤ k ∧ t = .int .i64 j ∧ Hid (((os.take j).any fun b => b.f == f) = false) ∧ more W1 x = wr) (fun t _ => k - (intOf t).toNat)
                    case atStart => exact ⟨0, _, by omega, rfl, Lib.hid rfl, rfl⟩
                    case round =>
                      obtain ⟨j, x, hj, rfl, hr2, rfl⟩ := hrel
                      by_cases hjk : j < k
                      · have hjk' : (j : Int) < (k : Int) := by omega
                        have hjl : j < os.length := by omega
                        have hjl' : (j : Int) < (os.length : Int) := by omega
                        have E0 := HM.out j hjl
                        simp only [Nat.add_zero] at E0
                        have HT := Lib.hid (show ((os.take (j + 1)).any fun b => b.f == f) = (((os.take j).any fun b => b.f == f) || (os[j].f == f)) by
                          rw [List.take_succ_eq_append_getElem hjl, List.any_append]; simp only [List.any_cons, List.any_nil, Bool.or_false])
                        have HX := Lib.hid (show (os[j].f == f) = true → ((os.take k).any fun b => b.f == f) = true by
                          intro h
                          rw [List.any_eq_true]
                          exact ⟨os[j], List.mem_iff_getElem.2 ⟨j, by simp; omega, by simp⟩, h⟩)
                        generalize os[j].f = g at *
                        cases hq : (g == f) with
                        | true =>
                          have e : r = 90 := by rw [HR2.out, ← HS.out, HX.out hq]; rfl
                          subst e
                          go_wp2
                          refine wp_region_more2 (by kernel_rfl) (by kernel_rfl) ?_
                          repeat (go_big_quiet_step (fail))
                          refine wpQuiet_nil ?_
                          rintro _ ⟨y, rfl⟩
                          go_wp2
                          go_ret
                          exact ⟨rfl, fin.out _⟩
                        | false =>
                          go_wp2
                          refine wp_region_more2 (by kernel_rfl) (by kernel_rfl) ?_
                          repeat (go_big_quiet_step (fail))
                          refine wpQuiet_nil ?_
                          rintro _ ⟨y, rfl⟩
                          go_wp2
                          exact ⟨⟨j + 1, _, by omega, by go_num, Lib.hid (by rw [HT.out, hr2.out, hq]; rfl), rfl⟩, by simp [intOf]; omega⟩
                      · have hjk' : ¬ (j : Int) < (k : Int) := by omega
                        obtain rfl : j = k := by omega
                        go_wp2
                        refine ⟨⟨j + 1, _, by omega, by go_num, Lib.hid ?_, rfl⟩, by simp [intOf]; omega⟩
                        have := HS.out
                        rw [hr2.out, HD.out] at this
                        exact this
                · have h1' : ¬ (k : Int) < (os.length : Int) := by omega
                  have e : r = 0 := by rw [HR2.out, ← hr.out, List.drop_eq_nil_of_le (by omega)]; rfl
                  subst e
                  go_wp2
                  go_ret
                  exact ⟨rfl, fin.out _⟩
end Go.Proofs.Ythmnaocoogfidaa
