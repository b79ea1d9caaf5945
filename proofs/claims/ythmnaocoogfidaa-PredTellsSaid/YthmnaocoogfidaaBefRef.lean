/- The document's order of rows, and whether all predicates hold. -/
import Derived.Test.YthmnaocoogfidaaRef20
import Derived.Test.YthmnaocoogfidaaPorderP
set_option maxRecDepth 100000
set_option linter.unusedVariables false
set_option linter.unusedSimpArgs false
namespace Go.Proofs.Ythmnaocoogfidaa
open Go.RowKit
attribute [local go_sem] run_frombits run_tobits more_more more_drew more_drewN more_size more_cell more_frozen run_store_float lt_c1 le_c1 lt_s1 le_s1 lt_c2 le_c2 lt_s2 le_s2 lt_c3 le_c3 lt_s3 le_s3 lt_c4 le_c4 lt_s4 le_s4 lt_c5 le_c5 lt_s5 le_s5 lt_c6 le_c6 lt_s6 le_s6 lt_c7 le_c7 lt_s7 le_s7 lt_c8 le_c8 lt_s8 le_s8 lt_c9 le_c9 lt_s9 le_s9 lt_c10 le_c10 lt_s10 le_s10 lt_c11 le_c11 lt_s11 le_s11 lt_c12 le_c12 lt_s12 le_s12 le_c0

set_option maxHeartbeats 1000000 in
theorem all_ref (B : Option Addr) (cb n : Nat) (ps : List Prd) (hp : prdsOk ps) (A : Option Addr) (ca : Nat) (l : List Val) (hl : allOk l) (w : World) (hn : ps.length = n) (lb : n ≤ 9223372036854775807) (la : l.length ≤ 9223372036854775807)
    (hb : RowIn prdC 6 w B ps) (ha : ValsIn w A l) :
    Gives Try.prog 30 #[.slice B n cb, .slice A l.length ca] w (.bool (allB ps l)) := by
  subst hn
  have HA := Lib.hid ha; clear ha
  have HB := Lib.hid hb; clear hb
  have HL := Lib.hid hl; clear hl
  have HP := Lib.hid hp; clear hp
  go_enter Try.func30, Try.ntmps30
  go_wp2
  go_loopw [5] (fun i wr => ∃ (k : Nat) (x : Ext), k ≤ ps.length ∧ i = .int .i64 k ∧ Hid (allB (ps.drop k) l = allB ps l) ∧ more w x = wr) (fun i _ => ps.length - (intOf i).toNat)
  case atStart => exact ⟨0, _, by omega, rfl, Lib.hid rfl, more_self w⟩
  case round =>
    obtain ⟨k, x, hk, rfl, hr, rfl⟩ := hrel
    by_cases h1 : k < ps.length
    · have h1' : (k : Int) < (ps.length : Int) := by omega
      obtain ⟨b, off, rfl, hbl, hcb⟩ := HB.out k h1
      have hm := hcb k h1
      clear hcb
      have HS := Lib.hid (show (holdsB ps[k].f ps[k].op ps[k].v l && allB (ps.drop (k + 1)) l) = allB ps l by
        rw [← hr.out, List.drop_eq_getElem_cons h1]; rfl)
      have HO := fun y => holds_ref ps[k].f ps[k].op ps[k].v (HP.out _ (List.getElem_mem h1)) A ca l HL.out (more w y) la (HA.out.more y)
      generalize ps[k] = p at *
      have C0 := fun y => (more_cell w y _ hbl).trans (hm 0 _ rfl)
      have C1 := fun y => (more_cell w y _ hbl).trans (hm 1 _ rfl)
      have C2 := fun y => (more_cell w y _ hbl).trans (hm 2 _ rfl)
      have C3 := fun y => (more_cell w y _ hbl).trans (hm 3 _ rfl)
      have C4 := fun y => (more_cell w y _ hbl).trans (hm 4 _ rfl)
      have C5 := fun y => (more_cell w y _ hbl).trans (hm 5 _ rfl)
      simp only [Nat.add_zero] at C0
      clear hm
      obtain ⟨pf, pop, pk, pi, ps', pff⟩ := p
      dsimp only [predV] at *
      cases hq : holdsB pf pop ⟨pk, pi, ps', pff⟩ l with
      | true =>
        rw [hq] at HO HS
        replace HO := Lib.hid HO
        clear hq
        go_wp2_with fail
        refine (HO.out _).mono' ?_; intro y
        go_wp2
        refine ⟨⟨k + 1, _, by omega, by go_num, Lib.hid ?_, rfl⟩, by simp [intOf]; omega⟩
        have := HS.out
        simpa using this
      | false =>
        rw [hq] at HO HS
        replace HO := Lib.hid HO
        clear hq
        go_wp2_with fail
        refine (HO.out _).mono' ?_; intro y
        go_wp2
        go_ret
        refine ⟨ret_bool ?_, (more_of_below (by repeat (first | (with_reducible exact Below.refl _ _) | (with_reducible refine Below.drew ?_) | (with_reducible refine Below.alloc ?_ (by simp [more_size]; try omega) _) | (with_reducible refine Below.setCell ?_ (by simp [more_size]; try omega) _) | (with_reducible refine below_more ?_ _ (by simp [more_size]; try omega)))))⟩
        have := HS.out
        simpa using this
    · have h1' : ¬ (k : Int) < (ps.length : Int) := by omega
      go_wp2
      go_ret
      refine ⟨ret_bool ?_, _, rfl⟩
      rw [← hr.out, List.drop_eq_nil_of_le (by omega)]; rfl
theorem orI_bd {x y : Int} (h1 : -1 ≤ x ∧ x ≤ 1) (h2 : -1 ≤ y ∧ y ≤ 1) : -1 ≤ orI x y ∧ orI x y ≤ 1 := by unfold orI; split <;> assumption
theorem cmpV_bd (a b : Val) : -1 ≤ cmpV a b ∧ cmpV a b ≤ 1 := by
  unfold cmpV
  refine orI_bd (cmpI_bd _ _) (orI_bd (cmpI_bd _ _) (orI_bd ?_ ?_))
  · rw [cmpB_eq]; split
    · omega
    · split <;> omega
  · rw [cmpN_is]; exact cmpI_bd _ _
theorem rows_of_in (a b : List Val) (k : Nat) (h1 : k < a.length) (h2 : k < b.length) : rowsV (ofL a k) (ofL b k) = cmpV a[k] b[k] := by
  rw [ofL_in a k h1, ofL_in b k h2, rowsV_cons]; unfold orI rowsV; split <;> simp_all
set_option maxHeartbeats 8000000 in
theorem before_ref (C : Option Addr) (cc n : Nat) (os : List Ord) (hn : os.length = n) (ln : n ≤ 9223372036854775807) (i j vi vj : Int)
    (A B : Option Addr) (ca cb : Nat) (a b : List Val) (hA : allOk a) (hB : allOk b) (w : World) (la : a.length ≤ ca) (lca : ca ≤ 9223372036854775807) (lb : b.length ≤ cb) (lcb : cb ≤ 9223372036854775807)
    (hc : RowIn ordC 2 w C os) (ha : ValsIn w A a) (hb : ValsIn w B b) :
    Gives Try.prog 31 #[.slice C n cc, .agg #[.int .i64 i, .int .i64 vi, .slice A a.length ca], .agg #[.int .i64 j, .int .i64 vj, .slice B b.length cb]] w (.bool (befL os a b i j)) := by
  subst hn
  have HA := Lib.hid ha; clear ha
  have HB := Lib.hid hb; clear hb
  have HC := Lib.hid hc; clear hc
  replace hA := Lib.hid hA
  replace hB := Lib.hid hB
  go_enter Try.func31, Try.ntmps31
  go_wp2
  refine wp_named (R := fun W => Below w.heap.size w W ∧ Blk W w.heap.size #[.int .i64 i, .int .i64 vi, .slice A a.length ca] 47 ∧ Blk W (w.heap.size + 1) #[.int .i64 j, .int .i64 vj, .slice B b.length cb] 47) ⟨(by repeat (first | (with_reducible exact Below.refl _ _) | (with_reducible refine Below.drew ?_) | (with_reducible refine Below.alloc ?_ (by simp [more_size]; try omega) _) | (with_reducible refine Below.setCell ?_ (by simp [more_size]; try omega) _) | (with_reducible refine below_more ?_ _ (by simp [more_size]; try omega)))), (Blk.new _ _ _ (by simp)).alloc _, Blk.new _ _ _ (by simp)⟩ ?_
  rintro W ⟨bW, k1, k2⟩
  have D0 := fun y => (k1.more y).cell 0
  have D2 := fun y => (k1.more y).cell 2
  have E0 := fun y => (k2.more y).cell 0
  have E2 := fun y => (k2.more y).cell 2
  have sW := k1.lt
  clear k1 k2
  replace HA := Lib.hid (HA.out.below bW)
  replace HB := Lib.hid (HB.out.below bW)
  replace HC := Lib.hid (HC.out.below bW)
  replace bW := Lib.hid bW
  have fin := Lib.hid (fun y => more_of_below (bW.out.trans ((more_below W y).mono bW.out.size)))
  go_loopw [7, 8, 9, 10, 11] (fun t _ _ _ _ wr => ∃ (k : Nat) (x : Ext), k ≤ os.length ∧ t = .int .i64 k ∧ Hid (befL (os.drop k) a b i j = befL os a b i j) ∧ more W x = wr) (fun t _ _ _ _ _ => os.length - (intOf t).toNat)
  case atStart => exact ⟨0, _, by omega, rfl, Lib.hid rfl, more_self W⟩
  case round =>
    obtain ⟨k, x, hk, rfl, hr, rfl⟩ := hrel
    by_cases h1 : k < os.length
    · have h1' : (k : Int) < (os.length : Int) := by omega
      obtain ⟨cb', off, rfl, hbl, hcb⟩ := HC.out k h1
      have hm := hcb k h1
      clear hcb
      have HS := (show (if rowsV (ofL a os[k].f) (ofL b os[k].f) = 0 then befL (os.drop (k + 1)) a b i j else (decide (rowsV (ofL a os[k].f) (ofL b os[k].f) < 0) != os[k].d)) = befL os a b i j by
        rw [← hr.out, List.drop_eq_getElem_cons h1]; rfl)
      have C0 := fun y => (more_cell W y _ hbl).trans (hm 0 _ rfl)
      have C1 := fun y => (more_cell W y _ hbl).trans (hm 1 _ rfl)
      simp only [Nat.add_zero] at C0
      clear hm
      generalize os[k] = o at *
      obtain ⟨f, d⟩ := o
      dsimp only at *
      rcases (show f < 0 ∨ 0 ≤ f by omega) with hf | hf
      · have z1 : decide (0 ≤ f) = false := decide_eq_false (by omega)
        rw [ofL_out a f (.inl hf), ofL_out b f (.inl hf)] at HS
        have e0 : rowsV [] [] = 0 := rfl
        rw [e0] at HS
        clear e0
        cases d
        · replace HS := Lib.hid (show befL (os.drop (k + 1)) a b i j = befL os a b i j by simpa using HS)
          go_wp2_with fail
          refine wp_region_more2 (by kernel_rfl) (by kernel_rfl) ?_
          repeat (go_big_quiet_step (fail))
          refine wpQuiet_nil ?_
          rintro _ ⟨y, rfl⟩
          go_wp2
          refine ⟨⟨k + 1, _, by omega, by go_num, Lib.hid HS.out, rfl⟩, by simp [intOf]; omega⟩
        · replace HS := Lib.hid (show befL (os.drop (k + 1)) a b i j = befL os a b i j by simpa using HS)
          go_wp2_with fail
          refine wp_region_more2 (by kernel_rfl) (by kernel_rfl) ?_
          repeat (go_big_quiet_step (fail))
          refine wpQuiet_nil ?_
          rintro _ ⟨y, rfl⟩
          go_wp2
          refine ⟨⟨k + 1, _, by omega, by go_num, Lib.hid HS.out, rfl⟩, by simp [intOf]; omega⟩
      · obtain ⟨m, rfl⟩ := Int.eq_ofNat_of_zero_le hf
        have z0 : decide (0 ≤ (m : Int)) = true := decide_eq_true hf
        by_cases hma : m < a.length
        · have hma' : (m : Int) < (a.length : Int) := by omega
          have zia : decide ((m : Int) < (a.length : Int)) = true := decide_eq_true hma'
          have zna : decide (m < a.length) = true := decide_eq_true hma
          by_cases hmb : m < b.length
          · have hmb' : (m : Int) < (b.length : Int) := by omega
            have zib : decide ((m : Int) < (b.length : Int)) = true := decide_eq_true hmb'
            have znb : decide (m < b.length) = true := decide_eq_true hmb
            rw [rows_of_in a b m hma hmb] at HS
            have bd := cmpV_bd a[m] b[m]
            have CM := fun W => cmp_ref a[m] b[m] (hA.out _ (List.getElem_mem hma)) (hB.out _ (List.getElem_mem hmb)) W
            obtain ⟨ba, oa, rfl, hla, hca⟩ := HA.out m hma
            obtain ⟨a0, a1, a2, a3⟩ := hca m hma
            obtain ⟨bb, ob, rfl, hlb, hcb⟩ := HB.out m hmb
            obtain ⟨q0, q1, q2, q3⟩ := hcb m hmb
            clear hca hcb
            generalize a[m] = va at *
            generalize b[m] = vb at *
            generalize cmpV va vb = c at *
            obtain ⟨ak, ai, ast, af⟩ := va
            obtain ⟨bk, bi, bst, bf⟩ := vb
            unfold Val.v at CM
            dsimp only at *
            replace a0 := fun y => (more_cell W y _ hla).trans a0
            replace a1 := fun y => (more_cell W y _ hla).trans a1
            replace a2 := fun y => (more_cell W y _ hla).trans a2
            replace a3 := fun y => (more_cell W y _ hla).trans a3
            replace q0 := fun y => (more_cell W y _ hlb).trans q0
            replace q1 := fun y => (more_cell W y _ hlb).trans q1
            replace q2 := fun y => (more_cell W y _ hlb).trans q2
            replace q3 := fun y => (more_cell W y _ hlb).trans q3
            replace CM := Lib.hid CM
            obtain ⟨bd1, bd2⟩ := bd
            rcases (show c = 0 ∨ c = -1 ∨ c = 1 by omega) with rfl | rfl | rfl
            · cases d
              · replace HS := Lib.hid (show befL (os.drop (k + 1)) a b i j = befL os a b i j by simpa using HS)
                go_wp2_with fail
                refine wp_region_more2 (by kernel_rfl) (by kernel_rfl) ?_
                repeat (go_big_quiet_step (fail))
                refine wpQuiet_nil ?_
                rintro _ ⟨y, rfl⟩
                go_wp2_with fail
                refine wp_region_more2 (by kernel_rfl) (by kernel_rfl) ?_
                repeat (go_big_quiet_step ((go_at_call 75; exact (CM.out _).at_)))
                refine wpQuiet_nil ?_
                rintro _ ⟨y, rfl⟩
                go_wp2
                refine ⟨⟨k + 1, _, by omega, by go_num, Lib.hid HS.out, rfl⟩, by simp [intOf]; omega⟩
              · replace HS := Lib.hid (show befL (os.drop (k + 1)) a b i j = befL os a b i j by simpa using HS)
                go_wp2_with fail
                refine wp_region_more2 (by kernel_rfl) (by kernel_rfl) ?_
                repeat (go_big_quiet_step (fail))
                refine wpQuiet_nil ?_
                rintro _ ⟨y, rfl⟩
                go_wp2_with fail
                refine wp_region_more2 (by kernel_rfl) (by kernel_rfl) ?_
                repeat (go_big_quiet_step ((go_at_call 75; exact (CM.out _).at_)))
                refine wpQuiet_nil ?_
                rintro _ ⟨y, rfl⟩
                go_wp2
                refine ⟨⟨k + 1, _, by omega, by go_num, Lib.hid HS.out, rfl⟩, by simp [intOf]; omega⟩
            · cases d
              · replace HS := Lib.hid (show true = befL os a b i j by simpa using HS)
                go_wp2_with fail
                refine wp_region_more2 (by kernel_rfl) (by kernel_rfl) ?_
                repeat (go_big_quiet_step (fail))
                refine wpQuiet_nil ?_
                rintro _ ⟨y, rfl⟩
                go_wp2_with fail
                refine wp_region_more2 (by kernel_rfl) (by kernel_rfl) ?_
                repeat (go_big_quiet_step ((go_at_call 75; exact (CM.out _).at_)))
                refine wpQuiet_nil ?_
                rintro _ ⟨y, rfl⟩
                go_wp2
                go_ret
                exact ⟨ret_bool HS.out, fin.out _⟩
              · replace HS := Lib.hid (show false = befL os a b i j by simpa using HS)
                go_wp2_with fail
                refine wp_region_more2 (by kernel_rfl) (by kernel_rfl) ?_
                repeat (go_big_quiet_step (fail))
                refine wpQuiet_nil ?_
                rintro _ ⟨y, rfl⟩
                go_wp2_with fail
                refine wp_region_more2 (by kernel_rfl) (by kernel_rfl) ?_
                repeat (go_big_quiet_step ((go_at_call 75; exact (CM.out _).at_)))
                refine wpQuiet_nil ?_
                rintro _ ⟨y, rfl⟩
                go_wp2
                go_ret
                exact ⟨ret_bool HS.out, fin.out _⟩
            · cases d
              · replace HS := Lib.hid (show false = befL os a b i j by simpa using HS)
                go_wp2_with fail
                refine wp_region_more2 (by kernel_rfl) (by kernel_rfl) ?_
                repeat (go_big_quiet_step (fail))
                refine wpQuiet_nil ?_
                rintro _ ⟨y, rfl⟩
                go_wp2_with fail
                refine wp_region_more2 (by kernel_rfl) (by kernel_rfl) ?_
                repeat (go_big_quiet_step ((go_at_call 75; exact (CM.out _).at_)))
                refine wpQuiet_nil ?_
                rintro _ ⟨y, rfl⟩
                go_wp2
                go_ret
                exact ⟨ret_bool HS.out, fin.out _⟩
              · replace HS := Lib.hid (show true = befL os a b i j by simpa using HS)
                go_wp2_with fail
                refine wp_region_more2 (by kernel_rfl) (by kernel_rfl) ?_
                repeat (go_big_quiet_step (fail))
                refine wpQuiet_nil ?_
                rintro _ ⟨y, rfl⟩
                go_wp2_with fail
                refine wp_region_more2 (by kernel_rfl) (by kernel_rfl) ?_
                repeat (go_big_quiet_step ((go_at_call 75; exact (CM.out _).at_)))
                refine wpQuiet_nil ?_
                rintro _ ⟨y, rfl⟩
                go_wp2
                go_ret
                exact ⟨ret_bool HS.out, fin.out _⟩
          · have hmb' : ¬ (m : Int) < (b.length : Int) := by omega
            have zib : decide ((m : Int) < (b.length : Int)) = false := decide_eq_false hmb'
            have znb : decide (m < b.length) = false := decide_eq_false hmb
            rw [ofL_in a m hma, ofL_out b m (.inr (by omega))] at HS
            have e0 : rowsV [a[m]] [] = 1 := rfl
            rw [e0] at HS
            clear e0
            cases d
            · replace HS := Lib.hid (show false = befL os a b i j by simpa using HS)
              go_wp2_with fail
              refine wp_region_more2 (by kernel_rfl) (by kernel_rfl) ?_
              repeat (go_big_quiet_step (fail))
              refine wpQuiet_nil ?_
              rintro _ ⟨y, rfl⟩
              go_wp2
              go_ret
              exact ⟨ret_bool HS.out, fin.out _⟩
            · replace HS := Lib.hid (show true = befL os a b i j by simpa using HS)
              go_wp2_with fail
              refine wp_region_more2 (by kernel_rfl) (by kernel_rfl) ?_
              repeat (go_big_quiet_step (fail))
              refine wpQuiet_nil ?_
              rintro _ ⟨y, rfl⟩
              go_wp2
              go_ret
              exact ⟨ret_bool HS.out, fin.out _⟩
        · have hma' : ¬ (m : Int) < (a.length : Int) := by omega
          have zia : decide ((m : Int) < (a.length : Int)) = false := decide_eq_false hma'
          have zna : decide (m < a.length) = false := decide_eq_false hma
          by_cases hmb : m < b.length
          · have hmb' : (m : Int) < (b.length : Int) := by omega
            have zib : decide ((m : Int) < (b.length : Int)) = true := decide_eq_true hmb'
            have znb : decide (m < b.length) = true := decide_eq_true hmb
            rw [ofL_out a m (.inr (by omega)), ofL_in b m hmb] at HS
            have e0 : rowsV [] [b[m]] = -1 := rfl
            rw [e0] at HS
            clear e0
            cases d
            · replace HS := Lib.hid (show true = befL os a b i j by simpa using HS)
              go_wp2_with fail
              refine wp_region_more2 (by kernel_rfl) (by kernel_rfl) ?_
              repeat (go_big_quiet_step (fail))
              refine wpQuiet_nil ?_
              rintro _ ⟨y, rfl⟩
              go_wp2
              go_ret
              exact ⟨ret_bool HS.out, fin.out _⟩
            · replace HS := Lib.hid (show false = befL os a b i j by simpa using HS)
              go_wp2_with fail
              refine wp_region_more2 (by kernel_rfl) (by kernel_rfl) ?_
              repeat (go_big_quiet_step (fail))
              refine wpQuiet_nil ?_
              rintro _ ⟨y, rfl⟩
              go_wp2
              go_ret
              exact ⟨ret_bool HS.out, fin.out _⟩
          · have hmb' : ¬ (m : Int) < (b.length : Int) := by omega
            have zib : decide ((m : Int) < (b.length : Int)) = false := decide_eq_false hmb'
            have znb : decide (m < b.length) = false := decide_eq_false hmb
            rw [ofL_out a m (.inr (by omega)), ofL_out b m (.inr (by omega))] at HS
            have e0 : rowsV [] [] = 0 := rfl
            rw [e0] at HS
            clear e0
            cases d
            · replace HS := Lib.hid (show befL (os.drop (k + 1)) a b i j = befL os a b i j by simpa using HS)
              go_wp2_with fail
              refine wp_region_more2 (by kernel_rfl) (by kernel_rfl) ?_
              repeat (go_big_quiet_step (fail))
              refine wpQuiet_nil ?_
              rintro _ ⟨y, rfl⟩
              go_wp2
              refine ⟨⟨k + 1, _, by omega, by go_num, Lib.hid HS.out, rfl⟩, by simp [intOf]; omega⟩
            · replace HS := Lib.hid (show befL (os.drop (k + 1)) a b i j = befL os a b i j by simpa using HS)
              go_wp2_with fail
              refine wp_region_more2 (by kernel_rfl) (by kernel_rfl) ?_
              repeat (go_big_quiet_step (fail))
              refine wpQuiet_nil ?_
              rintro _ ⟨y, rfl⟩
              go_wp2
              refine ⟨⟨k + 1, _, by omega, by go_num, Lib.hid HS.out, rfl⟩, by simp [intOf]; omega⟩
    · have h1' : ¬ (k : Int) < (os.length : Int) := by omega
      have e := hr.out
      rw [List.drop_eq_nil_of_le (by omega)] at e
      replace e := Lib.hid (show decide (i < j) = befL os a b i j from e)
      go_wp2
      go_ret
      exact ⟨ret_bool e.out, fin.out _⟩
end Go.Proofs.Ythmnaocoogfidaa
