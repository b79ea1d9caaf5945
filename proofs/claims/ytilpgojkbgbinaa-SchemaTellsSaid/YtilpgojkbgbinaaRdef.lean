/- Layer 5: the document's word on a definition. -/
import Derived.Test.YtilpgojkbgbinaaSt2
set_option maxRecDepth 100000
set_option linter.unusedVariables false
set_option linter.unusedSimpArgs false
namespace Go.Proofs.Ytilpgojkbgbinaa
open Go.RowKit
attribute [local go_sem] run_frombits run_tobits more_more more_drew more_drewN more_size more_cell more_frozen run_store_float lt_c1 le_c1 lt_s1 le_s1 lt_c2 le_c2 lt_s2 le_s2 lt_c3 le_c3 lt_s3 le_s3 lt_c4 le_c4 lt_s4 le_s4 lt_c5 le_c5 lt_s5 le_s5 lt_c6 le_c6 lt_s6 le_s6 lt_c7 le_c7 lt_s7 le_s7 lt_c8 le_c8 lt_s8 le_s8 lt_c9 le_c9 lt_s9 le_s9 lt_c10 le_c10 lt_s10 le_s10 lt_c11 le_c11 lt_s11 le_s11 lt_c12 le_c12 lt_s12 le_s12 le_c0
def BoolsIn (w : World) (A : Option Addr) (l : List Bool) : Prop := RowIn (fun b : Bool => [Value.bool b]) 1 w A l
theorem bools_cell {w W : World} {A : Option Addr} {l : List Bool} (h : BoolsIn w A l) (hB : Below w.heap.size w W) (j : Nat) (hj : j < l.length) : ∃ b off, A = some ⟨b, off, none⟩ ∧ b < W.heap.size ∧ ∀ y, (more W y).cell? ⟨b, off + j, none⟩ = some (.bool l[j]) := by
  obtain ⟨b, off, e, hb, hc⟩ := h j hj
  refine ⟨b, off, e, Nat.lt_of_lt_of_le hb hB.size, fun y => ?_⟩
  have := hc j hj 0 _ rfl
  rw [Nat.add_zero, Nat.mul_one] at this
  exact ((below_more hB y hB.size).cell (p := ⟨b, off + j, none⟩) hb).trans this
set_option maxHeartbeats 40000000 in
theorem rdef_any (A : Option Addr) (ca : Nat) (l : List Fld) (hl : namesOk l) (w : World) (la : l.length ≤ ca) (lc : ca ≤ 9223372036854775807) (ha : FieldsIn w A l) (n : ByteArray) (ln : n.size ≤ 9223372036854775807)
    (kd c : Int) (B : Option Addr) (cb : Nat) (ps : List Prt) (lp : ps.length ≤ 9223372036854775807) (hb : PartsIn w B ps)
    (E1 E2 : Option Addr) (c1 c2 : Nat) (ex co : List Bool) (le1 : ex.length ≤ 9223372036854775807) (le2 : co.length ≤ 9223372036854775807) (he1 : BoolsIn w E1 ex) (he2 : BoolsIn w E2 co) :
    Gives Try.prog 30 #[.slice A l.length ca, .agg #[.string n, .int .i64 kd, .slice B ps.length cb, .int .i64 c], .slice E1 ex.length c1, .slice E2 co.length c2] w (.int .i64 (defN l n kd ps c ex co)) := by
  have IF := Lib.hid (fun W h => is_ref5 A ca l.length l hl W rfl la lc h)
  have NM := Lib.hid (fun W => name_ref n W ln)
  have HA := Lib.hid ha; clear ha
  have HB := Lib.hid hb; clear hb
  have H1 := Lib.hid he1; clear he1
  have H2 := Lib.hid he2; clear he2
  obtain ⟨r, hr⟩ : ∃ r, r = defN l n kd ps c ex co := ⟨_, rfl⟩
  rw [← hr]
  unfold defN at hr
  obtain ⟨np, hnp⟩ : ∃ np, ps.length = np := ⟨_, rfl⟩
  rw [hnp] at lp hr ⊢
  go_enter Try.func30, Try.ntmps30
  go_wp2_with fail
  refine calls_named (R := fun W => Below w.heap.size w W ∧ w.heap.size < W.heap.size ∧ W.cell? ⟨w.heap.size, 0, none⟩ = some (.string n) ∧ W.cell? ⟨w.heap.size, 1, none⟩ = some (.int .i64 kd) ∧ W.cell? ⟨w.heap.size, 2, none⟩ = some (.slice B np cb) ∧ W.cell? ⟨w.heap.size, 3, none⟩ = some (.int .i64 c)) ⟨(by repeat (first | (with_reducible exact Below.refl _ _) | (with_reducible refine Below.drew ?_) | (with_reducible refine Below.alloc ?_ (by simp [more_size]; try omega) _) | (with_reducible refine Below.setCell ?_ (by simp [more_size]; try omega) _) | (with_reducible refine below_more ?_ _ (by simp [more_size]; try omega)))), by simp, by simp [go_sem], by simp [go_sem], by simp [go_sem], by simp [go_sem]⟩ ?_
  rintro W ⟨bW, sW0, d0, d1, d2, d3⟩
  replace d0 := fun y => (more_cell W y _ sW0).trans d0
  replace d1 := fun y => (more_cell W y _ sW0).trans d1
  replace d2 := fun y => (more_cell W y _ sW0).trans d2
  replace d3 := fun y => (more_cell W y _ sW0).trans d3
  have IS := IF.out W (HA.out.below bW)
  replace bW := Lib.hid bW
  have fin := Lib.hid (show ∀ x, ∃ y, more W x = more w y from fun x => more_of_below (below_more bW.out x bW.out.size))
  have HBW := Lib.hid (HB.out.below bW.out)
  have HAW := Lib.hid (HA.out.below bW.out)
  have H1W := Lib.hid (fun j hj => bools_cell H1.out bW.out j hj)
  have H2W := Lib.hid (fun j hj => bools_cell H2.out bW.out j hj)
  clear bW HA HB H1 H2
  generalize hg : w.heap.size = g at *
  clear hg
  cases hf : isF l with
  | false =>
    rw [hf, if_neg (by decide)] at hr
    subst hr
    rw [hf] at IS
    replace IS := Lib.hid IS
    refine IS.out.mono' ?_; intro x
    go_wp2
    go_ret
    exact ⟨rfl, fin.out _⟩
  | true =>
    rw [hf, if_pos rfl] at hr
    rw [hf] at IS
    replace IS := Lib.hid IS
    refine IS.out.mono' ?_; intro x
    cases hnb : namedB n with
    | false =>
      obtain rfl : r = 82 := by rw [hr, if_neg (fun h => by rw [hnb] at h; exact absurd h.1 (by decide))]
      rw [hnb] at NM
      clear hr
      go_wp2_with fail
      refine (NM.out _).mono ?_; rintro e w' ⟨rfl, rfl⟩
      go_wp2
      go_ret
      exact ⟨rfl, fin.out _⟩
    | true =>
      rw [hnb] at NM
      rcases (show kd < 1 ∨ 7 < kd ∨ 3 < np ∨ (np ≤ 3 ∧ (kd = 1 ∨ kd = 2 ∨ kd = 3 ∨ kd = 4 ∨ kd = 5 ∨ kd = 6 ∨ kd = 7)) by omega) with h | h | h | ⟨h3, h⟩
      · obtain rfl : r = 82 := by rw [hr, if_neg (fun h' => by omega)]
        clear hr
        go_wp2_with fail
        refine (NM.out _).mono ?_; rintro e w' ⟨rfl, rfl⟩
        go_wp2
        go_ret
        exact ⟨rfl, fin.out _⟩
      · have h' : (kd < 1) = False := eq_false (by omega)
        obtain rfl : r = 82 := by rw [hr, if_neg (fun h' => by omega)]
        clear hr
        go_wp2_with fail
        refine (NM.out _).mono ?_; rintro e w' ⟨rfl, rfl⟩
        go_wp2
        go_ret
        exact ⟨rfl, fin.out _⟩
      · have hn3 : (3 : Int) < (np : Int) := by omega
        obtain rfl : r = 82 := by
          rw [hr, if_neg (fun h' => by
            have h4 := h'.2.2.2.1
            unfold countedB at h4
            split at h4
            · simp at h4; omega
            · split at h4
              · simp at h4; omega
              · simp at h4; omega)]
        clear hr
        by_cases k1 : kd < 1
        · go_wp2_with fail
          refine (NM.out _).mono ?_; rintro e w' ⟨rfl, rfl⟩
          go_wp2
          go_ret
          exact ⟨rfl, fin.out _⟩
        · by_cases k7 : 7 < kd
          · have h' : (kd < 1) = False := eq_false k1
            go_wp2_with fail
            refine (NM.out _).mono ?_; rintro e w' ⟨rfl, rfl⟩
            go_wp2
            go_ret
            exact ⟨rfl, fin.out _⟩
          · have h' : (kd < 1) = False := eq_false k1
            have h'' : (7 < kd) = False := eq_false k7
            go_wp2_with fail
            refine (NM.out _).mono ?_; rintro e w' ⟨rfl, rfl⟩
            go_wp2
            go_ret
            exact ⟨rfl, fin.out _⟩
      -- PARTS
      · have fin2 := fun (x : Ext) (o : Obj) => (show ∃ y, (more W x).alloc o = more w y from by rw [alloc_is, more_more]; exact fin.out _)
        have grow8 := fun (x : Ext) (o : Obj) (_ : Unit) => (⟨x.and ⟨#[o], (more W x).drawn⟩, by rw [alloc_is, more_more]⟩ : ∃ y, (more W x).alloc o = more W y)
        replace fin2 := fun x o => (Lib.hid (fin2 x o)).out
        rcases h with rfl | rfl | rfl | rfl | rfl | rfl | rfl
        · have hbad := Lib.hid (show ∀ k (hk : k < ps.length), prtOk l 1 ex ps[k] = false → r = 82 from fun k hk h => by
            have : ps.all (prtOk l 1 ex) = false := by rw [List.all_eq_false]; exact ⟨ps[k], List.getElem_mem hk, by rw [h]; decide⟩
            rw [hr, this]; simp)
          have hcnt : countedB 1 np = (decide (1 ≤ np) && decide (np ≤ 3)) := by unfold countedB; simp
          have hr2 := Lib.hid (show r = if (decide (1 ≤ np) && decide (np ≤ 3)) = true ∧ comparedB 1 c co = true then (if ps.all (prtOk l 1 ex) = true then 0 else 82) else 82 from by
            rw [hr, hnb, hcnt]; simp)
          clear hr hcnt
          by_cases hn0 : np = 0
          · subst hn0
            obtain rfl : r = 82 := by rw [hr2.out]; simp
            clear hr2 hbad
            go_wp2_with fail
            refine (NM.out _).mono ?_; rintro e w' ⟨rfl, rfl⟩
            go_wp2
            go_ret
            exact ⟨rfl, fin.out _⟩
          · have hn0' : ((np : Int) == 0) = false := by rw [beq_eq_false_iff_ne]; omega
            have hn1 : ¬ np = 0 := hn0
            replace hr2 := Lib.hid (show r = if comparedB 1 c co = true ∧ ps.all (prtOk l 1 ex) = true then 0 else 82 from by rw [hr2.out, decide_eq_true (show 1 ≤ np by omega), decide_eq_true h3]; by_cases hA : comparedB 1 c co = true <;> simp [hA])
            go_wp2_with fail
            refine (NM.out _).mono ?_; rintro e w' ⟨rfl, rfl⟩
            go_wp2
            go_loopw [11, 12] (fun t _ wr => ∃ (k : Nat) (y : Ext), t = .int .i64 k ∧ k ≤ np ∧ Hid ((ps.take k).all (prtOk l 1 ex) = true) ∧ wr = more W y) (fun t _ _ => np - (intOf t).toNat)
            case atStart => exact ⟨0, _, rfl, Nat.zero_le _, Lib.hid (by simp), rfl⟩
            case round =>
              obtain ⟨k, y, rfl, hk, hpre, rfl⟩ := hrel
              rcases Nat.lt_or_ge k np with h1 | h1
              · have h1' : (k : Int) < (np : Int) := by omega
                have hkp : k < ps.length := by omega
                obtain ⟨b, off, rfl, hb, hcb⟩ := HBW.out k hkp
                obtain ⟨p0, p1⟩ := hcb k hkp
                replace p0 := fun y => (more_cell W y _ hb).trans p0
                replace p1 := fun y => (more_cell W y _ hb).trans p1
                have hbd := Lib.hid (hbad.out k hkp)
                have hnext := Lib.hid (show prtOk l 1 ex ps[k] = true → (ps.take (k + 1)).all (prtOk l 1 ex) = true from fun h => by
                  rw [List.take_succ_eq_append_getElem hkp, List.all_append, hpre.out]
                  simpa using h)
                clear hcb
                generalize ps[k] = p at *
                obtain ⟨f, h⟩ := p
                dsimp only at p0 p1
                rcases (show f < -1 ∨ (l.length : Int) ≤ f ∧ -1 < f ∨ f = -1 ∨ (0 ≤ f ∧ f < (l.length : Int)) by omega) with q | ⟨q, q'⟩ | q | ⟨q, q'⟩
                · obtain rfl : r = 82 := hbd.out (by unfold prtOk partB; dsimp only; rw [if_neg (by omega), decide_eq_false (by omega)]; rfl)
                  clear hbd hnext hr2 hbad
                  go_wp2
                  go_ret
                  exact ⟨rfl, fin2 _ _⟩
                · have q1 : (f < -1) = False := eq_false (by omega)
                  obtain rfl : r = 82 := hbd.out (by unfold prtOk partB; dsimp only; rw [if_neg (by omega), decide_eq_false (by omega)]; rfl)
                  clear hbd hnext hr2 hbad
                  go_wp2
                  go_ret
                  exact ⟨rfl, fin2 _ _⟩
                · subst q
                  have q1 : ((l.length : Int) ≤ -1) = False := eq_false (by omega)
                  rcases (show h < 0 ∨ ((ex.length : Int) ≤ h ∧ 0 ≤ h) ∨ (0 ≤ h ∧ h < (ex.length : Int)) by omega) with u | ⟨u, u'⟩ | ⟨u, u'⟩
                  · obtain rfl : r = 82 := hbd.out (by unfold prtOk partB; dsimp only; rw [if_pos rfl, decide_eq_false (by omega)]; rfl)
                    clear hbd hnext hr2 hbad
                    go_wp2
                    go_ret
                    exact ⟨rfl, fin2 _ _⟩
                  · have u1 : (h < 0) = False := eq_false (by omega)
                    obtain rfl : r = 82 := hbd.out (by unfold prtOk partB; dsimp only; rw [if_pos rfl, decide_eq_false (by omega)]; rfl)
                    clear hbd hnext hr2 hbad
                    go_wp2
                    go_ret
                    exact ⟨rfl, fin2 _ _⟩
                  · obtain ⟨j, rfl⟩ := Int.eq_ofNat_of_zero_le u
                    have hj : j < ex.length := by omega
                    have u1 : ((j : Int) < 0) = False := eq_false (by omega)
                    have u2 : ((ex.length : Int) ≤ (j : Int)) = False := eq_false (by omega)
                    have u3 : (ex.length ≤ j) = False := eq_false (by omega)
                    obtain ⟨be, oe, rfl, hbe, cee⟩ := H1W.out j hj
                    have hv : ex.getD ((j : Int)).toNat false = ex[j] := by rw [Int.toNat_natCast, List.getD_eq_getElem?_getD, List.getElem?_eq_getElem hj]; rfl
                    generalize hvb : ex[j] = bv at *
                    replace hvb := Lib.hid hvb
                    cases bv with
                    | false =>
                      obtain rfl : r = 82 := hbd.out (by unfold prtOk partB; dsimp only; rw [if_pos rfl, hv]; simp)
                      clear hbd hnext hr2 hbad hv
                      go_wp2
                      go_ret
                      exact ⟨rfl, fin2 _ _⟩
                    | true =>
                      have hp1 := Lib.hid (hnext.out (by unfold prtOk partB; dsimp only; rw [if_pos rfl, hv, decide_eq_true (by omega)]; simp))
                      clear hbd hnext hv
                      go_wp2
                      exact ⟨⟨k + 1, _, by go_num, by omega, hp1, (grow8 _ _ ()).choose_spec⟩, by simp [intOf]; omega⟩
                · obtain ⟨i, rfl⟩ := Int.eq_ofNat_of_zero_le q
                  have hi : i < l.length := by omega
                  have q1 : ((i : Int) < -1) = False := eq_false (by omega)
                  have q2 : ((l.length : Int) ≤ (i : Int)) = False := eq_false (by omega)
                  have q3 : (l.length ≤ i) = False := eq_false (by omega)
                  have q4 : ((i : Int) == -1) = false := by rw [beq_eq_false_iff_ne]; omega
                  obtain ⟨bl, ol, rfl, hbl, hcl⟩ := HAW.out i hi
                  obtain ⟨_, l1⟩ := hcl i hi
                  replace l1 := fun y => (more_cell W y _ hbl).trans l1
                  have hka := Lib.hid (show kindAt l (i : Int) = l[i].k by unfold kindAt; rw [Int.toNat_natCast, List.getElem?_eq_getElem hi]; rfl)
                  clear hcl
                  generalize l[i].k = fk at *
                  by_cases hh : h = 0
                  · subst hh
                    have hp1 := Lib.hid (hnext.out (by unfold prtOk partB; dsimp only; rw [if_neg (by omega), decide_eq_true (by omega)]; simp))
                    clear hbd hnext
                    go_wp2
                    exact ⟨⟨k + 1, _, by go_num, by omega, hp1, (grow8 _ _ ()).choose_spec⟩, by simp [intOf]; omega⟩
                  · have hh' : (h != 0) = true := by simpa using hh
                    obtain rfl : r = 82 := hbd.out (by unfold prtOk partB; dsimp only; rw [if_neg (by omega)]; simp [hh])
                    clear hbd hnext hr2 hbad hh
                    go_wp2
                    go_ret
                    exact ⟨rfl, fin2 _ _⟩
              · obtain rfl : k = np := by omega
                have hallT : ps.all (prtOk l 1 ex) = true := by
                  have := hpre.out
                  rwa [List.take_of_length_le (by omega)] at this
                have hr3 := hr2.out
                rw [hallT] at hr3
                replace hr3 := Lib.hid hr3
                clear hr2 hbad hpre hallT
                by_cases hc1 : c = -1
                · subst hc1
                  obtain rfl : r = 0 := by rw [hr3.out]; unfold comparedB; simp
                  clear hr3
                  go_wp2
                  go_ret
                  exact ⟨rfl, fin.out _⟩
                · have hc1' : (c != -1) = true := by simpa using hc1
                  obtain rfl : r = 82 := by rw [hr3.out]; unfold comparedB; rw [if_neg hc1]; simp
                  clear hr3 hc1
                  go_wp2
                  go_ret
                  exact ⟨rfl, fin.out _⟩
        · have hbad := Lib.hid (show ∀ k (hk : k < ps.length), prtOk l 2 ex ps[k] = false → r = 82 from fun k hk h => by
            have : ps.all (prtOk l 2 ex) = false := by rw [List.all_eq_false]; exact ⟨ps[k], List.getElem_mem hk, by rw [h]; decide⟩
            rw [hr, this]; simp)
          have hcnt : countedB 2 np = (decide (1 ≤ np) && decide (np ≤ 3)) := by unfold countedB; simp
          have hr2 := Lib.hid (show r = if (decide (1 ≤ np) && decide (np ≤ 3)) = true ∧ comparedB 2 c co = true then (if ps.all (prtOk l 2 ex) = true then 0 else 82) else 82 from by
            rw [hr, hnb, hcnt]; simp)
          clear hr hcnt
          by_cases hn0 : np = 0
          · subst hn0
            obtain rfl : r = 82 := by rw [hr2.out]; simp
            clear hr2 hbad
            go_wp2_with fail
            refine (NM.out _).mono ?_; rintro e w' ⟨rfl, rfl⟩
            go_wp2
            go_ret
            exact ⟨rfl, fin.out _⟩
          · have hn0' : ((np : Int) == 0) = false := by rw [beq_eq_false_iff_ne]; omega
            have hn1 : ¬ np = 0 := hn0
            replace hr2 := Lib.hid (show r = if comparedB 2 c co = true ∧ ps.all (prtOk l 2 ex) = true then 0 else 82 from by rw [hr2.out, decide_eq_true (show 1 ≤ np by omega), decide_eq_true h3]; by_cases hA : comparedB 2 c co = true <;> simp [hA])
            go_wp2_with fail
            refine (NM.out _).mono ?_; rintro e w' ⟨rfl, rfl⟩
            go_wp2
            go_loopw [11, 12] (fun t _ wr => ∃ (k : Nat) (y : Ext), t = .int .i64 k ∧ k ≤ np ∧ Hid ((ps.take k).all (prtOk l 2 ex) = true) ∧ wr = more W y) (fun t _ _ => np - (intOf t).toNat)
            case atStart => exact ⟨0, _, rfl, Nat.zero_le _, Lib.hid (by simp), rfl⟩
            case round =>
              obtain ⟨k, y, rfl, hk, hpre, rfl⟩ := hrel
              rcases Nat.lt_or_ge k np with h1 | h1
              · have h1' : (k : Int) < (np : Int) := by omega
                have hkp : k < ps.length := by omega
                obtain ⟨b, off, rfl, hb, hcb⟩ := HBW.out k hkp
                obtain ⟨p0, p1⟩ := hcb k hkp
                replace p0 := fun y => (more_cell W y _ hb).trans p0
                replace p1 := fun y => (more_cell W y _ hb).trans p1
                have hbd := Lib.hid (hbad.out k hkp)
                have hnext := Lib.hid (show prtOk l 2 ex ps[k] = true → (ps.take (k + 1)).all (prtOk l 2 ex) = true from fun h => by
                  rw [List.take_succ_eq_append_getElem hkp, List.all_append, hpre.out]
                  simpa using h)
                clear hcb
                generalize ps[k] = p at *
                obtain ⟨f, h⟩ := p
                dsimp only at p0 p1
                rcases (show f < -1 ∨ (l.length : Int) ≤ f ∧ -1 < f ∨ f = -1 ∨ (0 ≤ f ∧ f < (l.length : Int)) by omega) with q | ⟨q, q'⟩ | q | ⟨q, q'⟩
                · obtain rfl : r = 82 := hbd.out (by unfold prtOk partB; dsimp only; rw [if_neg (by omega), decide_eq_false (by omega)]; rfl)
                  clear hbd hnext hr2 hbad
                  go_wp2
                  go_ret
                  exact ⟨rfl, fin2 _ _⟩
                · have q1 : (f < -1) = False := eq_false (by omega)
                  obtain rfl : r = 82 := hbd.out (by unfold prtOk partB; dsimp only; rw [if_neg (by omega), decide_eq_false (by omega)]; rfl)
                  clear hbd hnext hr2 hbad
                  go_wp2
                  go_ret
                  exact ⟨rfl, fin2 _ _⟩
                · subst q
                  have q1 : ((l.length : Int) ≤ -1) = False := eq_false (by omega)
                  rcases (show h < 0 ∨ ((ex.length : Int) ≤ h ∧ 0 ≤ h) ∨ (0 ≤ h ∧ h < (ex.length : Int)) by omega) with u | ⟨u, u'⟩ | ⟨u, u'⟩
                  · obtain rfl : r = 82 := hbd.out (by unfold prtOk partB; dsimp only; rw [if_pos rfl, decide_eq_false (by omega)]; rfl)
                    clear hbd hnext hr2 hbad
                    go_wp2
                    go_ret
                    exact ⟨rfl, fin2 _ _⟩
                  · have u1 : (h < 0) = False := eq_false (by omega)
                    obtain rfl : r = 82 := hbd.out (by unfold prtOk partB; dsimp only; rw [if_pos rfl, decide_eq_false (by omega)]; rfl)
                    clear hbd hnext hr2 hbad
                    go_wp2
                    go_ret
                    exact ⟨rfl, fin2 _ _⟩
                  · obtain ⟨j, rfl⟩ := Int.eq_ofNat_of_zero_le u
                    have hj : j < ex.length := by omega
                    have u1 : ((j : Int) < 0) = False := eq_false (by omega)
                    have u2 : ((ex.length : Int) ≤ (j : Int)) = False := eq_false (by omega)
                    have u3 : (ex.length ≤ j) = False := eq_false (by omega)
                    obtain ⟨be, oe, rfl, hbe, cee⟩ := H1W.out j hj
                    have hv : ex.getD ((j : Int)).toNat false = ex[j] := by rw [Int.toNat_natCast, List.getD_eq_getElem?_getD, List.getElem?_eq_getElem hj]; rfl
                    generalize hvb : ex[j] = bv at *
                    replace hvb := Lib.hid hvb
                    cases bv with
                    | false =>
                      obtain rfl : r = 82 := hbd.out (by unfold prtOk partB; dsimp only; rw [if_pos rfl, hv]; simp)
                      clear hbd hnext hr2 hbad hv
                      go_wp2
                      go_ret
                      exact ⟨rfl, fin2 _ _⟩
                    | true =>
                      have hp1 := Lib.hid (hnext.out (by unfold prtOk partB; dsimp only; rw [if_pos rfl, hv, decide_eq_true (by omega)]; simp))
                      clear hbd hnext hv
                      go_wp2
                      exact ⟨⟨k + 1, _, by go_num, by omega, hp1, (grow8 _ _ ()).choose_spec⟩, by simp [intOf]; omega⟩
                · obtain ⟨i, rfl⟩ := Int.eq_ofNat_of_zero_le q
                  have hi : i < l.length := by omega
                  have q1 : ((i : Int) < -1) = False := eq_false (by omega)
                  have q2 : ((l.length : Int) ≤ (i : Int)) = False := eq_false (by omega)
                  have q3 : (l.length ≤ i) = False := eq_false (by omega)
                  have q4 : ((i : Int) == -1) = false := by rw [beq_eq_false_iff_ne]; omega
                  obtain ⟨bl, ol, rfl, hbl, hcl⟩ := HAW.out i hi
                  obtain ⟨_, l1⟩ := hcl i hi
                  replace l1 := fun y => (more_cell W y _ hbl).trans l1
                  have hka := Lib.hid (show kindAt l (i : Int) = l[i].k by unfold kindAt; rw [Int.toNat_natCast, List.getElem?_eq_getElem hi]; rfl)
                  clear hcl
                  generalize l[i].k = fk at *
                  by_cases hh : h = 0
                  · subst hh
                    have hp1 := Lib.hid (hnext.out (by unfold prtOk partB; dsimp only; rw [if_neg (by omega), decide_eq_true (by omega)]; simp))
                    clear hbd hnext
                    go_wp2
                    exact ⟨⟨k + 1, _, by go_num, by omega, hp1, (grow8 _ _ ()).choose_spec⟩, by simp [intOf]; omega⟩
                  · have hh' : (h != 0) = true := by simpa using hh
                    obtain rfl : r = 82 := hbd.out (by unfold prtOk partB; dsimp only; rw [if_neg (by omega)]; simp [hh])
                    clear hbd hnext hr2 hbad hh
                    go_wp2
                    go_ret
                    exact ⟨rfl, fin2 _ _⟩
              · obtain rfl : k = np := by omega
                have hallT : ps.all (prtOk l 2 ex) = true := by
                  have := hpre.out
                  rwa [List.take_of_length_le (by omega)] at this
                have hr3 := hr2.out
                rw [hallT] at hr3
                replace hr3 := Lib.hid hr3
                clear hr2 hbad hpre hallT
                by_cases hc1 : c = -1
                · subst hc1
                  obtain rfl : r = 0 := by rw [hr3.out]; unfold comparedB; simp
                  clear hr3
                  go_wp2
                  go_ret
                  exact ⟨rfl, fin.out _⟩
                · have hc1' : (c != -1) = true := by simpa using hc1
                  obtain rfl : r = 82 := by rw [hr3.out]; unfold comparedB; rw [if_neg hc1]; simp
                  clear hr3 hc1
                  go_wp2
                  go_ret
                  exact ⟨rfl, fin.out _⟩
        · have hbad := Lib.hid (show ∀ k (hk : k < ps.length), prtOk l 3 ex ps[k] = false → r = 82 from fun k hk h => by
            have : ps.all (prtOk l 3 ex) = false := by rw [List.all_eq_false]; exact ⟨ps[k], List.getElem_mem hk, by rw [h]; decide⟩
            rw [hr, this]; simp)
          have hcnt : countedB 3 np = (decide (1 ≤ np) && decide (np ≤ 3)) := by unfold countedB; simp
          have hr2 := Lib.hid (show r = if (decide (1 ≤ np) && decide (np ≤ 3)) = true ∧ comparedB 3 c co = true then (if ps.all (prtOk l 3 ex) = true then 0 else 82) else 82 from by
            rw [hr, hnb, hcnt]; simp)
          clear hr hcnt
          by_cases hn0 : np = 0
          · subst hn0
            obtain rfl : r = 82 := by rw [hr2.out]; simp
            clear hr2 hbad
            go_wp2_with fail
            refine (NM.out _).mono ?_; rintro e w' ⟨rfl, rfl⟩
            go_wp2
            go_ret
            exact ⟨rfl, fin.out _⟩
          · have hn0' : ((np : Int) == 0) = false := by rw [beq_eq_false_iff_ne]; omega
            have hn1 : ¬ np = 0 := hn0
            replace hr2 := Lib.hid (show r = if comparedB 3 c co = true ∧ ps.all (prtOk l 3 ex) = true then 0 else 82 from by rw [hr2.out, decide_eq_true (show 1 ≤ np by omega), decide_eq_true h3]; by_cases hA : comparedB 3 c co = true <;> simp [hA])
            go_wp2_with fail
            refine (NM.out _).mono ?_; rintro e w' ⟨rfl, rfl⟩
            go_wp2
            go_loopw [11, 12] (fun t _ wr => ∃ (k : Nat) (y : Ext), t = .int .i64 k ∧ k ≤ np ∧ Hid ((ps.take k).all (prtOk l 3 ex) = true) ∧ wr = more W y) (fun t _ _ => np - (intOf t).toNat)
            case atStart => exact ⟨0, _, rfl, Nat.zero_le _, Lib.hid (by simp), rfl⟩
            case round =>
              obtain ⟨k, y, rfl, hk, hpre, rfl⟩ := hrel
              rcases Nat.lt_or_ge k np with h1 | h1
              · have h1' : (k : Int) < (np : Int) := by omega
                have hkp : k < ps.length := by omega
                obtain ⟨b, off, rfl, hb, hcb⟩ := HBW.out k hkp
                obtain ⟨p0, p1⟩ := hcb k hkp
                replace p0 := fun y => (more_cell W y _ hb).trans p0
                replace p1 := fun y => (more_cell W y _ hb).trans p1
                have hbd := Lib.hid (hbad.out k hkp)
                have hnext := Lib.hid (show prtOk l 3 ex ps[k] = true → (ps.take (k + 1)).all (prtOk l 3 ex) = true from fun h => by
                  rw [List.take_succ_eq_append_getElem hkp, List.all_append, hpre.out]
                  simpa using h)
                clear hcb
                generalize ps[k] = p at *
                obtain ⟨f, h⟩ := p
                dsimp only at p0 p1
                rcases (show f < -1 ∨ (l.length : Int) ≤ f ∧ -1 < f ∨ f = -1 ∨ (0 ≤ f ∧ f < (l.length : Int)) by omega) with q | ⟨q, q'⟩ | q | ⟨q, q'⟩
                · obtain rfl : r = 82 := hbd.out (by unfold prtOk partB; dsimp only; rw [if_neg (by omega), decide_eq_false (by omega)]; rfl)
                  clear hbd hnext hr2 hbad
                  go_wp2
                  go_ret
                  exact ⟨rfl, fin2 _ _⟩
                · have q1 : (f < -1) = False := eq_false (by omega)
                  obtain rfl : r = 82 := hbd.out (by unfold prtOk partB; dsimp only; rw [if_neg (by omega), decide_eq_false (by omega)]; rfl)
                  clear hbd hnext hr2 hbad
                  go_wp2
                  go_ret
                  exact ⟨rfl, fin2 _ _⟩
                · subst q
                  have q1 : ((l.length : Int) ≤ -1) = False := eq_false (by omega)
                  rcases (show h < 0 ∨ ((ex.length : Int) ≤ h ∧ 0 ≤ h) ∨ (0 ≤ h ∧ h < (ex.length : Int)) by omega) with u | ⟨u, u'⟩ | ⟨u, u'⟩
                  · obtain rfl : r = 82 := hbd.out (by unfold prtOk partB; dsimp only; rw [if_pos rfl, decide_eq_false (by omega)]; rfl)
                    clear hbd hnext hr2 hbad
                    go_wp2
                    go_ret
                    exact ⟨rfl, fin2 _ _⟩
                  · have u1 : (h < 0) = False := eq_false (by omega)
                    obtain rfl : r = 82 := hbd.out (by unfold prtOk partB; dsimp only; rw [if_pos rfl, decide_eq_false (by omega)]; rfl)
                    clear hbd hnext hr2 hbad
                    go_wp2
                    go_ret
                    exact ⟨rfl, fin2 _ _⟩
                  · obtain ⟨j, rfl⟩ := Int.eq_ofNat_of_zero_le u
                    have hj : j < ex.length := by omega
                    have u1 : ((j : Int) < 0) = False := eq_false (by omega)
                    have u2 : ((ex.length : Int) ≤ (j : Int)) = False := eq_false (by omega)
                    have u3 : (ex.length ≤ j) = False := eq_false (by omega)
                    obtain ⟨be, oe, rfl, hbe, cee⟩ := H1W.out j hj
                    have hv : ex.getD ((j : Int)).toNat false = ex[j] := by rw [Int.toNat_natCast, List.getD_eq_getElem?_getD, List.getElem?_eq_getElem hj]; rfl
                    generalize hvb : ex[j] = bv at *
                    replace hvb := Lib.hid hvb
                    cases bv with
                    | false =>
                      obtain rfl : r = 82 := hbd.out (by unfold prtOk partB; dsimp only; rw [if_pos rfl, hv]; simp)
                      clear hbd hnext hr2 hbad hv
                      go_wp2
                      go_ret
                      exact ⟨rfl, fin2 _ _⟩
                    | true =>
                      have hp1 := Lib.hid (hnext.out (by unfold prtOk partB; dsimp only; rw [if_pos rfl, hv, decide_eq_true (by omega)]; simp))
                      clear hbd hnext hv
                      go_wp2
                      exact ⟨⟨k + 1, _, by go_num, by omega, hp1, (grow8 _ _ ()).choose_spec⟩, by simp [intOf]; omega⟩
                · obtain ⟨i, rfl⟩ := Int.eq_ofNat_of_zero_le q
                  have hi : i < l.length := by omega
                  have q1 : ((i : Int) < -1) = False := eq_false (by omega)
                  have q2 : ((l.length : Int) ≤ (i : Int)) = False := eq_false (by omega)
                  have q3 : (l.length ≤ i) = False := eq_false (by omega)
                  have q4 : ((i : Int) == -1) = false := by rw [beq_eq_false_iff_ne]; omega
                  obtain ⟨bl, ol, rfl, hbl, hcl⟩ := HAW.out i hi
                  obtain ⟨_, l1⟩ := hcl i hi
                  replace l1 := fun y => (more_cell W y _ hbl).trans l1
                  have hka := Lib.hid (show kindAt l (i : Int) = l[i].k by unfold kindAt; rw [Int.toNat_natCast, List.getElem?_eq_getElem hi]; rfl)
                  clear hcl
                  generalize l[i].k = fk at *
                  by_cases hh : h = 0
                  · subst hh
                    have hp1 := Lib.hid (hnext.out (by unfold prtOk partB; dsimp only; rw [if_neg (by omega), decide_eq_true (by omega)]; simp))
                    clear hbd hnext
                    go_wp2
                    exact ⟨⟨k + 1, _, by go_num, by omega, hp1, (grow8 _ _ ()).choose_spec⟩, by simp [intOf]; omega⟩
                  · have hh' : (h != 0) = true := by simpa using hh
                    obtain rfl : r = 82 := hbd.out (by unfold prtOk partB; dsimp only; rw [if_neg (by omega)]; simp [hh])
                    clear hbd hnext hr2 hbad hh
                    go_wp2
                    go_ret
                    exact ⟨rfl, fin2 _ _⟩
              · obtain rfl : k = np := by omega
                have hallT : ps.all (prtOk l 3 ex) = true := by
                  have := hpre.out
                  rwa [List.take_of_length_le (by omega)] at this
                have hr3 := hr2.out
                rw [hallT] at hr3
                replace hr3 := Lib.hid hr3
                clear hr2 hbad hpre hallT
                by_cases hc1 : c = -1
                · subst hc1
                  obtain rfl : r = 0 := by rw [hr3.out]; unfold comparedB; simp
                  clear hr3
                  go_wp2
                  go_ret
                  exact ⟨rfl, fin.out _⟩
                · have hc1' : (c != -1) = true := by simpa using hc1
                  rcases (show c < 0 ∨ ((co.length : Int) ≤ c ∧ 0 ≤ c) ∨ (0 ≤ c ∧ c < (co.length : Int)) by omega) with u | ⟨u, u'⟩ | ⟨u, u'⟩
                  · obtain rfl : r = 82 := by rw [hr3.out]; unfold comparedB; rw [if_neg hc1, decide_eq_false (show ¬ (0 ≤ c ∧ c < (co.length : Int)) by omega)]; simp
                    clear hr3 hc1
                    go_wp2
                    go_ret
                    exact ⟨rfl, fin.out _⟩
                  · have u1 : (c < 0) = False := eq_false (by omega)
                    obtain rfl : r = 82 := by rw [hr3.out]; unfold comparedB; rw [if_neg hc1, decide_eq_false (show ¬ (0 ≤ c ∧ c < (co.length : Int)) by omega)]; simp
                    clear hr3 hc1
                    go_wp2
                    go_ret
                    exact ⟨rfl, fin.out _⟩
                  · obtain ⟨j, rfl⟩ := Int.eq_ofNat_of_zero_le u
                    have hj : j < co.length := by omega
                    have u1 : ((j : Int) < 0) = False := eq_false (by omega)
                    have u2 : ((co.length : Int) ≤ (j : Int)) = False := eq_false (by omega)
                    have u3 : (co.length ≤ j) = False := eq_false (by omega)
                    obtain ⟨be, oe, rfl, hbe, cee⟩ := H2W.out j hj
                    have hv : co.getD ((j : Int)).toNat false = co[j] := by rw [Int.toNat_natCast, List.getD_eq_getElem?_getD, List.getElem?_eq_getElem hj]; rfl
                    generalize hvb : co[j] = bv at *
                    replace hvb := Lib.hid hvb
                    have hr4 : r = if bv = true then 0 else 82 := by
                      rw [hr3.out]; unfold comparedB; rw [if_neg hc1, decide_eq_true (show (0 : Int) ≤ (j : Int) ∧ (j : Int) < (co.length : Int) by omega), hv]; simp
                    clear hr3 hc1 hv
                    cases bv with
                    | false =>
                      obtain rfl : r = 82 := hr4
                      go_wp2
                      go_ret
                      exact ⟨rfl, fin.out _⟩
                    | true =>
                      obtain rfl : r = 0 := hr4
                      go_wp2
                      go_ret
                      exact ⟨rfl, fin.out _⟩
        · have hbad := Lib.hid (show ∀ k (hk : k < ps.length), prtOk l 4 ex ps[k] = false → r = 82 from fun k hk h => by
            have : ps.all (prtOk l 4 ex) = false := by rw [List.all_eq_false]; exact ⟨ps[k], List.getElem_mem hk, by rw [h]; decide⟩
            rw [hr, this]; simp)
          have hcnt : countedB 4 np = (decide (1 ≤ np) && decide (np ≤ 3)) := by unfold countedB; simp
          have hr2 := Lib.hid (show r = if (decide (1 ≤ np) && decide (np ≤ 3)) = true ∧ comparedB 4 c co = true then (if ps.all (prtOk l 4 ex) = true then 0 else 82) else 82 from by
            rw [hr, hnb, hcnt]; simp)
          clear hr hcnt
          by_cases hn0 : np = 0
          · subst hn0
            obtain rfl : r = 82 := by rw [hr2.out]; simp
            clear hr2 hbad
            go_wp2_with fail
            refine (NM.out _).mono ?_; rintro e w' ⟨rfl, rfl⟩
            go_wp2
            go_ret
            exact ⟨rfl, fin.out _⟩
          · have hn0' : ((np : Int) == 0) = false := by rw [beq_eq_false_iff_ne]; omega
            have hn1 : ¬ np = 0 := hn0
            replace hr2 := Lib.hid (show r = if comparedB 4 c co = true ∧ ps.all (prtOk l 4 ex) = true then 0 else 82 from by rw [hr2.out, decide_eq_true (show 1 ≤ np by omega), decide_eq_true h3]; by_cases hA : comparedB 4 c co = true <;> simp [hA])
            go_wp2_with fail
            refine (NM.out _).mono ?_; rintro e w' ⟨rfl, rfl⟩
            go_wp2
            go_loopw [11, 12] (fun t _ wr => ∃ (k : Nat) (y : Ext), t = .int .i64 k ∧ k ≤ np ∧ Hid ((ps.take k).all (prtOk l 4 ex) = true) ∧ wr = more W y) (fun t _ _ => np - (intOf t).toNat)
            case atStart => exact ⟨0, _, rfl, Nat.zero_le _, Lib.hid (by simp), rfl⟩
            case round =>
              obtain ⟨k, y, rfl, hk, hpre, rfl⟩ := hrel
              rcases Nat.lt_or_ge k np with h1 | h1
              · have h1' : (k : Int) < (np : Int) := by omega
                have hkp : k < ps.length := by omega
                obtain ⟨b, off, rfl, hb, hcb⟩ := HBW.out k hkp
                obtain ⟨p0, p1⟩ := hcb k hkp
                replace p0 := fun y => (more_cell W y _ hb).trans p0
                replace p1 := fun y => (more_cell W y _ hb).trans p1
                have hbd := Lib.hid (hbad.out k hkp)
                have hnext := Lib.hid (show prtOk l 4 ex ps[k] = true → (ps.take (k + 1)).all (prtOk l 4 ex) = true from fun h => by
                  rw [List.take_succ_eq_append_getElem hkp, List.all_append, hpre.out]
                  simpa using h)
                clear hcb
                generalize ps[k] = p at *
                obtain ⟨f, h⟩ := p
                dsimp only at p0 p1
                rcases (show f < -1 ∨ (l.length : Int) ≤ f ∧ -1 < f ∨ f = -1 ∨ (0 ≤ f ∧ f < (l.length : Int)) by omega) with q | ⟨q, q'⟩ | q | ⟨q, q'⟩
                · obtain rfl : r = 82 := hbd.out (by unfold prtOk partB; dsimp only; rw [if_neg (by omega), decide_eq_false (by omega)]; rfl)
                  clear hbd hnext hr2 hbad
                  go_wp2
                  go_ret
                  exact ⟨rfl, fin2 _ _⟩
                · have q1 : (f < -1) = False := eq_false (by omega)
                  obtain rfl : r = 82 := hbd.out (by unfold prtOk partB; dsimp only; rw [if_neg (by omega), decide_eq_false (by omega)]; rfl)
                  clear hbd hnext hr2 hbad
                  go_wp2
                  go_ret
                  exact ⟨rfl, fin2 _ _⟩
                · subst q
                  have q1 : ((l.length : Int) ≤ -1) = False := eq_false (by omega)
                  rcases (show h < 0 ∨ ((ex.length : Int) ≤ h ∧ 0 ≤ h) ∨ (0 ≤ h ∧ h < (ex.length : Int)) by omega) with u | ⟨u, u'⟩ | ⟨u, u'⟩
                  · obtain rfl : r = 82 := hbd.out (by unfold prtOk partB; dsimp only; rw [if_pos rfl, decide_eq_false (by omega)]; rfl)
                    clear hbd hnext hr2 hbad
                    go_wp2
                    go_ret
                    exact ⟨rfl, fin2 _ _⟩
                  · have u1 : (h < 0) = False := eq_false (by omega)
                    obtain rfl : r = 82 := hbd.out (by unfold prtOk partB; dsimp only; rw [if_pos rfl, decide_eq_false (by omega)]; rfl)
                    clear hbd hnext hr2 hbad
                    go_wp2
                    go_ret
                    exact ⟨rfl, fin2 _ _⟩
                  · obtain ⟨j, rfl⟩ := Int.eq_ofNat_of_zero_le u
                    have hj : j < ex.length := by omega
                    have u1 : ((j : Int) < 0) = False := eq_false (by omega)
                    have u2 : ((ex.length : Int) ≤ (j : Int)) = False := eq_false (by omega)
                    have u3 : (ex.length ≤ j) = False := eq_false (by omega)
                    obtain ⟨be, oe, rfl, hbe, cee⟩ := H1W.out j hj
                    have hv : ex.getD ((j : Int)).toNat false = ex[j] := by rw [Int.toNat_natCast, List.getD_eq_getElem?_getD, List.getElem?_eq_getElem hj]; rfl
                    generalize hvb : ex[j] = bv at *
                    replace hvb := Lib.hid hvb
                    cases bv with
                    | false =>
                      obtain rfl : r = 82 := hbd.out (by unfold prtOk partB; dsimp only; rw [if_pos rfl, hv]; simp)
                      clear hbd hnext hr2 hbad hv
                      go_wp2
                      go_ret
                      exact ⟨rfl, fin2 _ _⟩
                    | true =>
                      have hp1 := Lib.hid (hnext.out (by unfold prtOk partB; dsimp only; rw [if_pos rfl, hv, decide_eq_true (by omega)]; simp))
                      clear hbd hnext hv
                      go_wp2
                      exact ⟨⟨k + 1, _, by go_num, by omega, hp1, (grow8 _ _ ()).choose_spec⟩, by simp [intOf]; omega⟩
                · obtain ⟨i, rfl⟩ := Int.eq_ofNat_of_zero_le q
                  have hi : i < l.length := by omega
                  have q1 : ((i : Int) < -1) = False := eq_false (by omega)
                  have q2 : ((l.length : Int) ≤ (i : Int)) = False := eq_false (by omega)
                  have q3 : (l.length ≤ i) = False := eq_false (by omega)
                  have q4 : ((i : Int) == -1) = false := by rw [beq_eq_false_iff_ne]; omega
                  obtain ⟨bl, ol, rfl, hbl, hcl⟩ := HAW.out i hi
                  obtain ⟨_, l1⟩ := hcl i hi
                  replace l1 := fun y => (more_cell W y _ hbl).trans l1
                  have hka := Lib.hid (show kindAt l (i : Int) = l[i].k by unfold kindAt; rw [Int.toNat_natCast, List.getElem?_eq_getElem hi]; rfl)
                  clear hcl
                  generalize l[i].k = fk at *
                  by_cases hh : h = 0
                  · subst hh
                    have hp1 := Lib.hid (hnext.out (by unfold prtOk partB; dsimp only; rw [if_neg (by omega), decide_eq_true (by omega)]; simp))
                    clear hbd hnext
                    go_wp2
                    exact ⟨⟨k + 1, _, by go_num, by omega, hp1, (grow8 _ _ ()).choose_spec⟩, by simp [intOf]; omega⟩
                  · have hh' : (h != 0) = true := by simpa using hh
                    obtain rfl : r = 82 := hbd.out (by unfold prtOk partB; dsimp only; rw [if_neg (by omega)]; simp [hh])
                    clear hbd hnext hr2 hbad hh
                    go_wp2
                    go_ret
                    exact ⟨rfl, fin2 _ _⟩
              · obtain rfl : k = np := by omega
                have hallT : ps.all (prtOk l 4 ex) = true := by
                  have := hpre.out
                  rwa [List.take_of_length_le (by omega)] at this
                have hr3 := hr2.out
                rw [hallT] at hr3
                replace hr3 := Lib.hid hr3
                clear hr2 hbad hpre hallT
                by_cases hc1 : c = -1
                · subst hc1
                  obtain rfl : r = 0 := by rw [hr3.out]; unfold comparedB; simp
                  clear hr3
                  go_wp2
                  go_ret
                  exact ⟨rfl, fin.out _⟩
                · have hc1' : (c != -1) = true := by simpa using hc1
                  rcases (show c < 0 ∨ ((co.length : Int) ≤ c ∧ 0 ≤ c) ∨ (0 ≤ c ∧ c < (co.length : Int)) by omega) with u | ⟨u, u'⟩ | ⟨u, u'⟩
                  · obtain rfl : r = 82 := by rw [hr3.out]; unfold comparedB; rw [if_neg hc1, decide_eq_false (show ¬ (0 ≤ c ∧ c < (co.length : Int)) by omega)]; simp
                    clear hr3 hc1
                    go_wp2
                    go_ret
                    exact ⟨rfl, fin.out _⟩
                  · have u1 : (c < 0) = False := eq_false (by omega)
                    obtain rfl : r = 82 := by rw [hr3.out]; unfold comparedB; rw [if_neg hc1, decide_eq_false (show ¬ (0 ≤ c ∧ c < (co.length : Int)) by omega)]; simp
                    clear hr3 hc1
                    go_wp2
                    go_ret
                    exact ⟨rfl, fin.out _⟩
                  · obtain ⟨j, rfl⟩ := Int.eq_ofNat_of_zero_le u
                    have hj : j < co.length := by omega
                    have u1 : ((j : Int) < 0) = False := eq_false (by omega)
                    have u2 : ((co.length : Int) ≤ (j : Int)) = False := eq_false (by omega)
                    have u3 : (co.length ≤ j) = False := eq_false (by omega)
                    obtain ⟨be, oe, rfl, hbe, cee⟩ := H2W.out j hj
                    have hv : co.getD ((j : Int)).toNat false = co[j] := by rw [Int.toNat_natCast, List.getD_eq_getElem?_getD, List.getElem?_eq_getElem hj]; rfl
                    generalize hvb : co[j] = bv at *
                    replace hvb := Lib.hid hvb
                    have hr4 : r = if bv = true then 0 else 82 := by
                      rw [hr3.out]; unfold comparedB; rw [if_neg hc1, decide_eq_true (show (0 : Int) ≤ (j : Int) ∧ (j : Int) < (co.length : Int) by omega), hv]; simp
                    clear hr3 hc1 hv
                    cases bv with
                    | false =>
                      obtain rfl : r = 82 := hr4
                      go_wp2
                      go_ret
                      exact ⟨rfl, fin.out _⟩
                    | true =>
                      obtain rfl : r = 0 := hr4
                      go_wp2
                      go_ret
                      exact ⟨rfl, fin.out _⟩
        · have hbad := Lib.hid (show ∀ k (hk : k < ps.length), prtOk l 5 ex ps[k] = false → r = 82 from fun k hk h => by
            have : ps.all (prtOk l 5 ex) = false := by rw [List.all_eq_false]; exact ⟨ps[k], List.getElem_mem hk, by rw [h]; decide⟩
            rw [hr, this]; simp)
          have hcnt : countedB 5 np = (np == 0) := by unfold countedB; simp
          have hr2 := Lib.hid (show r = if (np == 0) = true ∧ comparedB 5 c co = true then (if ps.all (prtOk l 5 ex) = true then 0 else 82) else 82 from by
            rw [hr, hnb, hcnt]; simp)
          clear hr hcnt
          by_cases hn0 : np = 0
          · have hn0' : ((np : Int) == 0) = true := by simp [hn0]
            replace hr2 := Lib.hid (show r = if comparedB 5 c co = true ∧ ps.all (prtOk l 5 ex) = true then 0 else 82 from by rw [hr2.out]; by_cases hA : comparedB 5 c co = true <;> simp [hA, hn0])
            go_wp2_with fail
            refine (NM.out _).mono ?_; rintro e w' ⟨rfl, rfl⟩
            go_wp2
            go_loopw [11, 12] (fun t _ wr => ∃ (k : Nat) (y : Ext), t = .int .i64 k ∧ k ≤ np ∧ Hid ((ps.take k).all (prtOk l 5 ex) = true) ∧ wr = more W y) (fun t _ _ => np - (intOf t).toNat)
            case atStart => exact ⟨0, _, rfl, Nat.zero_le _, Lib.hid (by simp), rfl⟩
            case round =>
              obtain ⟨k, y, rfl, hk, hpre, rfl⟩ := hrel
              rcases Nat.lt_or_ge k np with h1 | h1
              · exfalso; omega
              · obtain rfl : k = np := by omega
                have hallT : ps.all (prtOk l 5 ex) = true := by
                  have := hpre.out
                  rwa [List.take_of_length_le (by omega)] at this
                have hr3 := hr2.out
                rw [hallT] at hr3
                replace hr3 := Lib.hid hr3
                clear hr2 hbad hpre hallT
                by_cases hc1 : c = -1
                · subst hc1
                  obtain rfl : r = 0 := by rw [hr3.out]; unfold comparedB; simp
                  clear hr3
                  go_wp2
                  go_ret
                  exact ⟨rfl, fin.out _⟩
                · have hc1' : (c != -1) = true := by simpa using hc1
                  obtain rfl : r = 82 := by rw [hr3.out]; unfold comparedB; rw [if_neg hc1]; simp
                  clear hr3 hc1
                  go_wp2
                  go_ret
                  exact ⟨rfl, fin.out _⟩
          · have hn0' : ((np : Int) == 0) = false := by rw [beq_eq_false_iff_ne]; omega
            have hn1 : ¬ np = 0 := hn0
            obtain rfl : r = 82 := by rw [hr2.out]; simp [hn0]
            clear hr2 hbad hn0
            go_wp2_with fail
            refine (NM.out _).mono ?_; rintro e w' ⟨rfl, rfl⟩
            go_wp2
            go_ret
            exact ⟨rfl, fin.out _⟩
        · have hbad := Lib.hid (show ∀ k (hk : k < ps.length), prtOk l 6 ex ps[k] = false → r = 82 from fun k hk h => by
            have : ps.all (prtOk l 6 ex) = false := by rw [List.all_eq_false]; exact ⟨ps[k], List.getElem_mem hk, by rw [h]; decide⟩
            rw [hr, this]; simp)
          have hcnt : countedB 6 np = (np == 0) := by unfold countedB; simp
          have hr2 := Lib.hid (show r = if (np == 0) = true ∧ comparedB 6 c co = true then (if ps.all (prtOk l 6 ex) = true then 0 else 82) else 82 from by
            rw [hr, hnb, hcnt]; simp)
          clear hr hcnt
          by_cases hn0 : np = 0
          · have hn0' : ((np : Int) == 0) = true := by simp [hn0]
            replace hr2 := Lib.hid (show r = if comparedB 6 c co = true ∧ ps.all (prtOk l 6 ex) = true then 0 else 82 from by rw [hr2.out]; by_cases hA : comparedB 6 c co = true <;> simp [hA, hn0])
            go_wp2_with fail
            refine (NM.out _).mono ?_; rintro e w' ⟨rfl, rfl⟩
            go_wp2
            go_loopw [11, 12] (fun t _ wr => ∃ (k : Nat) (y : Ext), t = .int .i64 k ∧ k ≤ np ∧ Hid ((ps.take k).all (prtOk l 6 ex) = true) ∧ wr = more W y) (fun t _ _ => np - (intOf t).toNat)
            case atStart => exact ⟨0, _, rfl, Nat.zero_le _, Lib.hid (by simp), rfl⟩
            case round =>
              obtain ⟨k, y, rfl, hk, hpre, rfl⟩ := hrel
              rcases Nat.lt_or_ge k np with h1 | h1
              · exfalso; omega
              · obtain rfl : k = np := by omega
                have hallT : ps.all (prtOk l 6 ex) = true := by
                  have := hpre.out
                  rwa [List.take_of_length_le (by omega)] at this
                have hr3 := hr2.out
                rw [hallT] at hr3
                replace hr3 := Lib.hid hr3
                clear hr2 hbad hpre hallT
                by_cases hc1 : c = -1
                · subst hc1
                  obtain rfl : r = 0 := by rw [hr3.out]; unfold comparedB; simp
                  clear hr3
                  go_wp2
                  go_ret
                  exact ⟨rfl, fin.out _⟩
                · have hc1' : (c != -1) = true := by simpa using hc1
                  obtain rfl : r = 82 := by rw [hr3.out]; unfold comparedB; rw [if_neg hc1]; simp
                  clear hr3 hc1
                  go_wp2
                  go_ret
                  exact ⟨rfl, fin.out _⟩
          · have hn0' : ((np : Int) == 0) = false := by rw [beq_eq_false_iff_ne]; omega
            have hn1 : ¬ np = 0 := hn0
            obtain rfl : r = 82 := by rw [hr2.out]; simp [hn0]
            clear hr2 hbad hn0
            go_wp2_with fail
            refine (NM.out _).mono ?_; rintro e w' ⟨rfl, rfl⟩
            go_wp2
            go_ret
            exact ⟨rfl, fin.out _⟩
        · have hbad := Lib.hid (show ∀ k (hk : k < ps.length), prtOk l 7 ex ps[k] = false → r = 82 from fun k hk h => by
            have : ps.all (prtOk l 7 ex) = false := by rw [List.all_eq_false]; exact ⟨ps[k], List.getElem_mem hk, by rw [h]; decide⟩
            rw [hr, this]; simp)
          have hcnt : countedB 7 np = (np == 1) := by unfold countedB; simp
          have hr2 := Lib.hid (show r = if (np == 1) = true ∧ comparedB 7 c co = true then (if ps.all (prtOk l 7 ex) = true then 0 else 82) else 82 from by
            rw [hr, hnb, hcnt]; simp)
          clear hr hcnt
          by_cases hn0 : np = 1
          · have hn0' : ((np : Int) == 0) = false := by rw [beq_eq_false_iff_ne]; omega
            have hn1' : ((np : Int) != 1) = false := by simp [hn0]
            replace hr2 := Lib.hid (show r = if comparedB 7 c co = true ∧ ps.all (prtOk l 7 ex) = true then 0 else 82 from by rw [hr2.out]; by_cases hA : comparedB 7 c co = true <;> simp [hA, hn0])
            go_wp2_with fail
            refine (NM.out _).mono ?_; rintro e w' ⟨rfl, rfl⟩
            go_wp2
            go_loopw [11, 12] (fun t _ wr => ∃ (k : Nat) (y : Ext), t = .int .i64 k ∧ k ≤ np ∧ Hid ((ps.take k).all (prtOk l 7 ex) = true) ∧ wr = more W y) (fun t _ _ => np - (intOf t).toNat)
            case atStart => exact ⟨0, _, rfl, Nat.zero_le _, Lib.hid (by simp), rfl⟩
            case round =>
              obtain ⟨k, y, rfl, hk, hpre, rfl⟩ := hrel
              rcases Nat.lt_or_ge k np with h1 | h1
              · have h1' : (k : Int) < (np : Int) := by omega
                have hkp : k < ps.length := by omega
                obtain ⟨b, off, rfl, hb, hcb⟩ := HBW.out k hkp
                obtain ⟨p0, p1⟩ := hcb k hkp
                replace p0 := fun y => (more_cell W y _ hb).trans p0
                replace p1 := fun y => (more_cell W y _ hb).trans p1
                have hbd := Lib.hid (hbad.out k hkp)
                have hnext := Lib.hid (show prtOk l 7 ex ps[k] = true → (ps.take (k + 1)).all (prtOk l 7 ex) = true from fun h => by
                  rw [List.take_succ_eq_append_getElem hkp, List.all_append, hpre.out]
                  simpa using h)
                clear hcb
                generalize ps[k] = p at *
                obtain ⟨f, h⟩ := p
                dsimp only at p0 p1
                rcases (show f < -1 ∨ (l.length : Int) ≤ f ∧ -1 < f ∨ f = -1 ∨ (0 ≤ f ∧ f < (l.length : Int)) by omega) with q | ⟨q, q'⟩ | q | ⟨q, q'⟩
                · obtain rfl : r = 82 := hbd.out (by unfold prtOk partB; dsimp only; rw [if_neg (by omega), decide_eq_false (by omega)]; rfl)
                  clear hbd hnext hr2 hbad
                  go_wp2
                  go_ret
                  exact ⟨rfl, fin2 _ _⟩
                · have q1 : (f < -1) = False := eq_false (by omega)
                  obtain rfl : r = 82 := hbd.out (by unfold prtOk partB; dsimp only; rw [if_neg (by omega), decide_eq_false (by omega)]; rfl)
                  clear hbd hnext hr2 hbad
                  go_wp2
                  go_ret
                  exact ⟨rfl, fin2 _ _⟩
                · subst q
                  have q1 : ((l.length : Int) ≤ -1) = False := eq_false (by omega)
                  rcases (show h < 0 ∨ ((ex.length : Int) ≤ h ∧ 0 ≤ h) ∨ (0 ≤ h ∧ h < (ex.length : Int)) by omega) with u | ⟨u, u'⟩ | ⟨u, u'⟩
                  · obtain rfl : r = 82 := hbd.out (by unfold prtOk partB; dsimp only; rw [if_pos rfl, decide_eq_false (by omega)]; rfl)
                    clear hbd hnext hr2 hbad
                    go_wp2
                    go_ret
                    exact ⟨rfl, fin2 _ _⟩
                  · have u1 : (h < 0) = False := eq_false (by omega)
                    obtain rfl : r = 82 := hbd.out (by unfold prtOk partB; dsimp only; rw [if_pos rfl, decide_eq_false (by omega)]; rfl)
                    clear hbd hnext hr2 hbad
                    go_wp2
                    go_ret
                    exact ⟨rfl, fin2 _ _⟩
                  · obtain ⟨j, rfl⟩ := Int.eq_ofNat_of_zero_le u
                    have hj : j < ex.length := by omega
                    have u1 : ((j : Int) < 0) = False := eq_false (by omega)
                    have u2 : ((ex.length : Int) ≤ (j : Int)) = False := eq_false (by omega)
                    have u3 : (ex.length ≤ j) = False := eq_false (by omega)
                    obtain ⟨be, oe, rfl, hbe, cee⟩ := H1W.out j hj
                    have hv : ex.getD ((j : Int)).toNat false = ex[j] := by rw [Int.toNat_natCast, List.getD_eq_getElem?_getD, List.getElem?_eq_getElem hj]; rfl
                    generalize hvb : ex[j] = bv at *
                    replace hvb := Lib.hid hvb
                    cases bv with
                    | false =>
                      obtain rfl : r = 82 := hbd.out (by unfold prtOk partB; dsimp only; rw [if_pos rfl, hv]; simp)
                      clear hbd hnext hr2 hbad hv
                      go_wp2
                      go_ret
                      exact ⟨rfl, fin2 _ _⟩
                    | true =>
                      have hp1 := Lib.hid (hnext.out (by unfold prtOk partB; dsimp only; rw [if_pos rfl, hv, decide_eq_true (by omega)]; simp))
                      clear hbd hnext hv
                      go_wp2
                      exact ⟨⟨k + 1, _, by go_num, by omega, hp1, (grow8 _ _ ()).choose_spec⟩, by simp [intOf]; omega⟩
                · obtain ⟨i, rfl⟩ := Int.eq_ofNat_of_zero_le q
                  have hi : i < l.length := by omega
                  have q1 : ((i : Int) < -1) = False := eq_false (by omega)
                  have q2 : ((l.length : Int) ≤ (i : Int)) = False := eq_false (by omega)
                  have q3 : (l.length ≤ i) = False := eq_false (by omega)
                  have q4 : ((i : Int) == -1) = false := by rw [beq_eq_false_iff_ne]; omega
                  obtain ⟨bl, ol, rfl, hbl, hcl⟩ := HAW.out i hi
                  obtain ⟨_, l1⟩ := hcl i hi
                  replace l1 := fun y => (more_cell W y _ hbl).trans l1
                  have hka := Lib.hid (show kindAt l (i : Int) = l[i].k by unfold kindAt; rw [Int.toNat_natCast, List.getElem?_eq_getElem hi]; rfl)
                  clear hcl
                  generalize l[i].k = fk at *
                  by_cases hh : h = 0
                  · subst hh
                    by_cases hk3 : fk = 3
                    · have hp1 := Lib.hid (hnext.out (by unfold prtOk partB; dsimp only; rw [if_neg (by omega), decide_eq_true (by omega)]; simp [hka.out, hk3]))
                      have hk3' : (fk != 3) = false := by simp [hk3]
                      clear hbd hnext hk3
                      go_wp2
                      exact ⟨⟨k + 1, _, by go_num, by omega, hp1, (grow8 _ _ ()).choose_spec⟩, by simp [intOf]; omega⟩
                    · have hk3' : (fk != 3) = true := by simpa using hk3
                      obtain rfl : r = 82 := hbd.out (by unfold prtOk partB; dsimp only; rw [if_neg (by omega), decide_eq_true (by omega)]; simp [hka.out, hk3])
                      clear hbd hnext hr2 hbad hk3
                      go_wp2
                      go_ret
                      exact ⟨rfl, fin2 _ _⟩
                  · have hh' : (h != 0) = true := by simpa using hh
                    obtain rfl : r = 82 := hbd.out (by unfold prtOk partB; dsimp only; rw [if_neg (by omega)]; simp [hh])
                    clear hbd hnext hr2 hbad hh
                    go_wp2
                    go_ret
                    exact ⟨rfl, fin2 _ _⟩
              · obtain rfl : k = np := by omega
                have hallT : ps.all (prtOk l 7 ex) = true := by
                  have := hpre.out
                  rwa [List.take_of_length_le (by omega)] at this
                have hr3 := hr2.out
                rw [hallT] at hr3
                replace hr3 := Lib.hid hr3
                clear hr2 hbad hpre hallT
                by_cases hc1 : c = -1
                · subst hc1
                  obtain rfl : r = 0 := by rw [hr3.out]; unfold comparedB; simp
                  clear hr3
                  go_wp2
                  go_ret
                  exact ⟨rfl, fin.out _⟩
                · have hc1' : (c != -1) = true := by simpa using hc1
                  obtain rfl : r = 82 := by rw [hr3.out]; unfold comparedB; rw [if_neg hc1]; simp
                  clear hr3 hc1
                  go_wp2
                  go_ret
                  exact ⟨rfl, fin.out _⟩
          · by_cases hn2 : np = 0
            · subst hn2
              obtain rfl : r = 82 := by rw [hr2.out]; simp
              clear hr2 hbad
              go_wp2_with fail
              refine (NM.out _).mono ?_; rintro e w' ⟨rfl, rfl⟩
              go_wp2
              go_ret
              exact ⟨rfl, fin.out _⟩
            · have hn0' : ((np : Int) == 0) = false := by rw [beq_eq_false_iff_ne]; omega
              have hn1' : ((np : Int) != 1) = true := by simp; omega
              obtain rfl : r = 82 := by rw [hr2.out]; simp [hn0]
              clear hr2 hbad hn0 hn2
              go_wp2_with fail
              refine (NM.out _).mono ?_; rintro e w' ⟨rfl, rfl⟩
              go_wp2
              go_ret
              exact ⟨rfl, fin.out _⟩
end Go.Proofs.Ytilpgojkbgbinaa
