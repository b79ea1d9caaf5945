/- RowCopies: what was handed in, or is told, can be written into without any row's changing. -/
import Derived.Test.YtilpgojkbgbinaaVsame
import Derived.Test.YtilpgojkbgbinaaOpen
set_option maxRecDepth 100000
set_option linter.unusedVariables false
set_option linter.unusedSimpArgs false
namespace Go.Proofs.Ytilpgojkbgbinaa
open Go.RowKit
open Go.Maps (has size Keyed int_keyed keyOf_int_mk)
attribute [local go_sem] run_frombits run_tobits more_more more_drew more_drewN more_size more_cell more_frozen run_store_float lt_c1 le_c1 lt_s1 le_s1 lt_c2 le_c2 lt_s2 le_s2 lt_c3 le_c3 lt_s3 le_s3 lt_c4 le_c4 lt_s4 le_s4 lt_c5 le_c5 lt_s5 le_s5 lt_c6 le_c6 lt_s6 le_s6 lt_c7 le_c7 lt_s7 le_s7 lt_c8 le_c8 lt_s8 le_s8 lt_c9 le_c9 lt_s9 le_s9 lt_c10 le_c10 lt_s10 le_s10 lt_c11 le_c11 lt_s11 le_s11 lt_c12 le_c12 lt_s12 le_s12 le_c0
theorem allOne {X : Nat → Prop} {w0 w : World} {p : Nat} {l : List Val} {n : Nat} {mx nx wr : Int} (hS8 : StI X w0 w p (upd (fun _ => none) 1 (some (1, l))) n mx nx wr) (h0 : 0 < l.length) :
    Calls Try.prog 60 #[.pointer (some ⟨p, 0, none⟩)] w fun e w' => ∃ gr cr gs cs, e = .returned (.slice (some ⟨gr, 0, none⟩) 1 cr) ∧ w'.cell? ⟨gr, 2, none⟩ = some (.slice (some ⟨gs, 0, none⟩) l.length cs) ∧ ownV w' gs cs l ∧ w.heap.size ≤ gs ∧ gs < w'.heap.size ∧ gr < w'.heap.size ∧ gr ≠ gs ∧ Below w.heap.size w w' := by
  refine (allI hS8).mono ?_
  rintro e W9 ⟨v, R, rfl, ownR, hB9, hT, hP, hI⟩
  have hR1 : ∃ s, R = [s] ∧ s.id = 1 := by
    have h1 : (1 : Int) ∈ R.map Slt.id := (hI 1).1 (by rw [upd_same]; simp)
    have h2 : ∀ y ∈ R.map Slt.id, y = 1 := fun y hy => by
      have := (hI y).2 hy
      apply Classical.byContradiction
      intro hc
      rw [upd_other _ _ hc] at this
      exact this rfl
    match R, hP, h1, h2 with
    | [], _, h1, _ => simp at h1
    | [s], _, h1, h2 => exact ⟨s, rfl, h2 s.id (by simp)⟩
    | s :: t :: R, hP, _, h2 =>
      have e1 := h2 s.id (by simp)
      have e2 := h2 t.id (by simp)
      simp at hP
      have := hP.1.1
      omega
  obtain ⟨s, rfl, hs1⟩ := hR1
  have hTs := hT s (by simp)
  have hsi := hTs.is_
  rw [hs1, upd_same] at hsi
  injection hsi with hsi
  injection hsi with hs2 hs3
  have hTo := hTs.own
  have hTp := hTs.sep
  obtain ⟨sid, sver, sA, scap, svals⟩ := s
  dsimp only at hs1 hs2 hs3 hTo hTp
  subst hs1 hs2 hs3
  obtain ⟨gs, cs, es⟩ : ∃ gs cs, sA = some ⟨gs, 0, none⟩ ∧ scap = cs := by
    rcases hTo.2 with ⟨_, e⟩ | ⟨g2, c2, cur, e, _⟩
    · omega
    · injection e with e1 e2 e3; exact ⟨g2, c2, e1, e3⟩
  obtain ⟨rfl, rfl⟩ := es
  have hgs1 := own_ge hTo gs rfl
  have hgs2 := own_lt9 hTo gs rfl
  have ho9 : ownV W9 gs scap l := own_lower hTo (Nat.zero_le _)
  obtain ⟨gr, cr, rfl, _⟩ : ∃ g cap, v = .slice (some ⟨g, 0, none⟩) 1 cap ∧ True := by
    rcases ownR.2 with ⟨_, e⟩ | ⟨g2, c2, cur, e, _⟩
    · simp at e
    · exact ⟨g2, c2, e, trivial⟩
  obtain ⟨_, _, e, _, _, _, h4⟩ := own_open ownR
  obtain ⟨g4, e4, _, hgr, hcc⟩ := h4 (by simp)
  injection e with e
  subst e
  injection e4 with e4
  injection e4 with e4
  subst e4
  have r2 : W9.cell? ⟨gr, 2, none⟩ = some (.slice (some ⟨gs, 0, none⟩) l.length scap) := hcc 2 _ rfl
  exact ⟨gr, cr, gs, scap, rfl, r2, ho9, hgs1, hgs2, hgr, fun e => hTp gs rfl (by rw [e]; rfl), hB9⟩
set_option maxHeartbeats 8000000 in
theorem walk_RowCopies (A : Option Addr) (ca : Nat) (l : List Val) (hl : allOk l) (m : Nat) (hm : m < 256) (w : World) (la : l.length ≤ ca) (lc : ca ≤ 9223372036854775807) (hA : A = none → ca = 0) (ha : ValsIn w A l) :
    Gives Try.prog 14 #[.slice A l.length ca, .int .u8 m] w (.bool true) := by
  have F2 := Lib.hid (fun W (h : Below w.heap.size w W) => few_any A ca l 8 W (by omega) (ha.below h))
  obtain ⟨r2, hr2⟩ : ∃ r, fewV l 8 = r := ⟨_, rfl⟩
  rw [hr2] at F2
  cases r2 with
  | false =>
    clear hr2
    go_enter Try.func14, Try.ntmps14
    go_wp2_with fail
    refine (known9 _).mono' ?_; intro x
    go_wp2_with fail
    refine (F2.out _ (by repeat (first | (with_reducible exact Below.refl _ _) | (with_reducible refine Below.drew ?_) | (with_reducible refine Below.alloc ?_ (by simp [more_size]; try omega) _) | (with_reducible refine Below.setCell ?_ (by simp [more_size]; try omega) _) | (with_reducible refine below_more ?_ _ (by simp [more_size]; try omega))))).mono ?_; rintro e w' ⟨rfl, rfl⟩
    go_wp2
    go_ret
    exact ⟨rfl, (more_of_below (by repeat (first | (with_reducible exact Below.refl _ _) | (with_reducible refine Below.drew ?_) | (with_reducible refine Below.alloc ?_ (by simp [more_size]; try omega) _) | (with_reducible refine Below.setCell ?_ (by simp [more_size]; try omega) _) | (with_reducible refine below_more ?_ _ (by simp [more_size]; try omega)))))⟩
  | true =>
    have h8 : l.length ≤ 8 := by
      unfold fewV at hr2
      simp at hr2
      omega
    clear hr2
    rcases Nat.eq_zero_or_pos l.length with h0 | h0
    · have e0 : (l.length : Int) = 0 := by omega
      have e0' : ((l.length : Int) == 0) = true := by simp [e0]
      clear h0
      go_enter Try.func14, Try.ntmps14
      go_wp2_with fail
      refine (known9 _).mono' ?_; intro x
      go_wp2_with fail
      refine (F2.out _ (by repeat (first | (with_reducible exact Below.refl _ _) | (with_reducible refine Below.drew ?_) | (with_reducible refine Below.alloc ?_ (by simp [more_size]; try omega) _) | (with_reducible refine Below.setCell ?_ (by simp [more_size]; try omega) _) | (with_reducible refine below_more ?_ _ (by simp [more_size]; try omega))))).mono ?_; rintro e w' ⟨rfl, rfl⟩
      clear F2
      go_wp2
      all_goals first
        | (go_ret; exact ⟨rfl, (more_of_below (by repeat (first | (with_reducible exact Below.refl _ _) | (with_reducible refine Below.drew ?_) | (with_reducible refine Below.alloc ?_ (by simp [more_size]; try omega) _) | (with_reducible refine Below.setCell ?_ (by simp [more_size]; try omega) _) | (with_reducible refine below_more ?_ _ (by simp [more_size]; try omega)))))⟩)
        | (exfalso; omega)
    have e0 : ((l.length : Int) == 0) = false := by simp; intro e; subst e; simp at h0
    have VS := Lib.hid (fun W (h : Below w.heap.size w W) gv c (ho : ownV W gv c l) => vals_same9 (some ⟨gv, 0, none⟩) A c ca l hl W (by omega) (ownV_in ho) (ha.below h))
    have CP := Lib.hid (fun W (h : Below w.heap.size w W) => copyV (w := W) A ca l h0 lc (by omega) (fun e => by have := hA e; omega) (ha.below h))
    clear ha hl hA
    go_enter Try.func14, Try.ntmps14
    go_wp2_with fail
    refine (known9 _).mono' ?_; intro x
    go_wp2_with fail
    refine (F2.out _ (by repeat (first | (with_reducible exact Below.refl _ _) | (with_reducible refine Below.drew ?_) | (with_reducible refine Below.alloc ?_ (by simp [more_size]; try omega) _) | (with_reducible refine Below.setCell ?_ (by simp [more_size]; try omega) _) | (with_reducible refine below_more ?_ _ (by simp [more_size]; try omega))))).mono ?_; rintro e w' ⟨rfl, rfl⟩
    clear F2
    go_wp2_with fail
    refine (newI (X := fun _ => False) (w0 := w) 10 _ (by repeat (first | (with_reducible exact Below.refl _ _) | (with_reducible refine Below.drew ?_) | (with_reducible refine Below.alloc ?_ (by simp [more_size]; try omega) _) | (with_reducible refine Below.setCell ?_ (by simp [more_size]; try omega) _) | (with_reducible refine below_more ?_ _ (by simp [more_size]; try omega)))) (fun k h => h.elim)).mono ?_
    rintro e w1 ⟨p, rfl, hS, _⟩
    rw [show min (max (10 : Int) 0) 200 = 10 by decide] at hS
    replace hS := Lib.hid hS
    go_wp2_with fail
    refine (CP.out _ hS.out.bel).mono ?_
    rintro e w2 ⟨gm, cm, rfl, ho, hg1, hg2, hB2⟩
    have hS2 := hS.out.own (Y := fun k => k = gm) hB2 (fun k hk => .inr (by rw [hk]; exact ⟨hg1, hg2⟩))
    have hgw : w.heap.size ≤ gm := Nat.le_trans hS.out.bel.size hg1
    have IN := Lib.hid (insertV hS2 (by omega) ho rfl (by decide) (by decide) (by decide))
    replace ho := Lib.hid ho
    clear hS hS2 hg1 hB2
    go_wp2_with fail
    refine IN.out.mono ?_
    rintro e w3 ⟨rfl, hS3, hX3⟩
    replace hS3 : Hid (StI (fun k => k = gm) w w3 p (upd (fun _ => none) 1 (some (1, l))) 1 10 2 1) := Lib.hid hS3
    have ho3 := ownV_same ho.out (hX3 gm rfl)
    have hm1 := Int.emod_nonneg (m : Int) (show (l.length : Int) ≠ 0 by omega)
    have hm2 := Int.emod_lt_of_pos (m : Int) (show 0 < (l.length : Int) by omega)
    obtain ⟨q, hq⟩ : ∃ q : Nat, (m : Int) % (l.length : Int) = q := ⟨((m : Int) % (l.length : Int)).toNat, by omega⟩
    have hql : q < l.length := by omega
    obtain ⟨fz, ⟨u0, c0⟩, ⟨u1, c1⟩, ⟨u2, c2⟩, ⟨u3, c3⟩⟩ := ownV_cells ho3 hql
    clear IN ho hX3 ho3
    go_wp2_with fail
    refine calls_at (R := fun W => StI (fun k => k = gm) w W p (upd (fun _ => none) 1 (some (1, l))) 1 10 2 1) ?_ ?_
    · exact hS3.out.wrote (by repeat (first | exact Chg.refl | refine Chg.then ?_ (Chg.set _ _ rfl))) (fun k hk => by rw [hk]; exact hgw)
    rintro W4 hS4
    replace hS4 := Lib.hid hS4
    clear hS3 fz c0 c1 c2 c3 hm1 hm2 hq hql hg2 hgw
    have wf1 : (Lit.int .i64 1).wf = true := by decide
    refine (getI_some hS4.out wf1 (upd_same _ _ _) h0).mono ?_
    rintro e w5 ⟨ga, cA, rfl, hoa, ha1, ha2, hB5⟩
    have hS5 := hS4.out.own (Y := fun k => k = ga) hB5 (fun k hk => .inr (by rw [hk]; exact ⟨ha1, ha2⟩))
    have hga : w.heap.size ≤ ga := Nat.le_trans hS4.out.bel.size ha1
    replace hoa : ownV w5 ga cA l := hoa
    obtain ⟨W6, hW6⟩ : ∃ W6, W6 = w5.alloc (.cells #[.int .i64 1, .int .i64 1, .slice (some ⟨ga, 0, none⟩) l.length cA] 63) := ⟨_, rfl⟩
    have hb6 : Below w5.heap.size w5 W6 := by rw [hW6]; exact (by repeat (first | (with_reducible exact Below.refl _ _) | (with_reducible refine Below.drew ?_) | (with_reducible refine Below.alloc ?_ (by simp [more_size]; try omega) _) | (with_reducible refine Below.setCell ?_ (by simp [more_size]; try omega) _) | (with_reducible refine below_more ?_ _ (by simp [more_size]; try omega))))
    have hS6 := Lib.hid (hS5.below hb6)
    have ho6 := Lib.hid (ownV_same hoa (hb6.block ga ha2))
    have hbx : Blk W6 w5.heap.size #[.int .i64 1, .int .i64 1, .slice (some ⟨ga, 0, none⟩) l.length cA] 63 := by rw [hW6]; exact Blk.new _ _ _ rfl
    have VS6 := Lib.hid (VS.out W6 hS6.out.bel ga cA ho6.out)
    have x2 : W6.cell? ⟨w5.heap.size, 2, none⟩ = some (.slice (some ⟨ga, 0, none⟩) l.length cA) := hbx.cell 2
    have hne : ga ≠ w5.heap.size := by omega
    have hbx' := Lib.hid hbx
    clear hS4 hS5 hoa hbx ha1 hB5 hb6
    rw [hW6] at x2 VS6
    go_wp2_with fail
    refine VS6.out.mono' ?_; intro y
    rw [← hW6]
    have hb7 := more_below W6 y
    have hS7 := Lib.hid (hS6.out.below hb7)
    have hbx7 : Blk (more W6 y) w5.heap.size #[.int .i64 1, .int .i64 1, .slice (some ⟨ga, 0, none⟩) l.length cA] 63 := hbx'.out.more y
    have ho7 : ownV (more W6 y) ga cA l := ownV_same ho6.out (hb7.block ga (own_lt9 ho6.out ga rfl))
    clear hW6 x2 VS6 hS6 hb7 ho6 hbx'
    generalize more W6 y = W7 at *
    have x2 : W7.cell? ⟨w5.heap.size, 2, none⟩ = some (.slice (some ⟨ga, 0, none⟩) l.length cA) := hbx7.cell 2
    have hc7 := ownV_cells ho7 h0
    simp only [Nat.zero_mul, Nat.zero_add] at hc7
    obtain ⟨fz, ⟨u0, c0⟩, ⟨u1, c1⟩, ⟨u2, c2⟩, ⟨u3, c3⟩⟩ := hc7
    clear hbx7 ho7
    have hll : (0 : Int) < (l.length : Int) := by omega
    go_wp2_with fail
    refine calls_at (R := fun W => StI (fun k => k = ga) w W p (upd (fun _ => none) 1 (some (1, l))) 1 10 2 1) ?_ ?_
    · exact hS7.out.wrote (by repeat (first | exact Chg.refl | refine Chg.then ?_ (Chg.set _ _ rfl))) (fun k hk => by rw [hk]; exact hga)
    rintro W8 hS8
    clear hS7 x2 fz c0 c1 c2 c3 hne ha2 hga
    refine (allOne hS8 h0).mono ?_
    rintro e W9 ⟨gr, cr, gs, cs, rfl, r2, ho9, hgs1, hgs2, hgr, hne, hB9⟩
    have hgs : w.heap.size ≤ gs := Nat.le_trans hS8.bel.size hgs1
    have hS9 := Lib.hid (hS8.own (Y := fun k => k = gs) hB9 (fun k hk => .inr (by rw [hk]; exact ⟨hgs1, hgs2⟩)))
    have VS9 := Lib.hid (VS.out W9 hS9.out.bel gs cs ho9)
    replace ho9 := Lib.hid ho9
    clear hS8 hB9 hgs1
    go_wp2_with fail
    refine VS9.out.mono' ?_; intro z
    have hb10 := more_below W9 z
    have hS10 := Lib.hid (hS9.out.below hb10)
    have q2 : (more W9 z).cell? ⟨gr, 2, none⟩ = some (.slice (some ⟨gs, 0, none⟩) l.length cs) := (hb10.cell (p := ⟨gr, 2, none⟩) hgr).trans r2
    have ho10 : ownV (more W9 z) gs cs l := ownV_same ho9.out (hb10.block gs hgs2)
    clear r2 VS9 hS9 hb10 ho9 hgr hgs2
    generalize more W9 z = W10 at *
    have hc10 := ownV_cells ho10 h0
    simp only [Nat.zero_mul, Nat.zero_add] at hc10
    obtain ⟨fz, ⟨u0, c0⟩, ⟨u1, c1⟩, ⟨u2, c2⟩, ⟨u3, c3⟩⟩ := hc10
    clear ho10
    go_wp2_with fail
    refine calls_at (R := fun W => StI (fun k => k = gs) w W p (upd (fun _ => none) 1 (some (1, l))) 1 10 2 1) ?_ ?_
    · exact hS10.out.wrote (by repeat (first | exact Chg.refl | refine Chg.then ?_ (Chg.set _ _ rfl))) (fun k hk => by rw [hk]; exact hgs)
    rintro W11 hS11
    clear hS10 q2 fz c0 c1 c2 c3 hne hgs
    refine (CP.out _ hS11.bel).mono ?_
    rintro e W12 ⟨g2, c2', rfl, ho, hg1, hg2, hB12⟩
    have hS12 := hS11.own (Y := fun k => k = g2) hB12 (fun k hk => .inr (by rw [hk]; exact ⟨hg1, hg2⟩))
    have hgw : w.heap.size ≤ g2 := Nat.le_trans hS11.bel.size hg1
    have RP := Lib.hid (replaceI_ok hS12 wf1 (some ⟨g2, 0, none⟩) c2' l (by omega) (fun e => by cases e) (ownV_in ho) (by decide) (upd_same _ _ _))
    rw [show wrap64 ((1 : Int) + 1) = 2 by unfold wrap64; omega] at RP
    replace ho := Lib.hid ho
    clear hS11 hS12 hB12 hg1
    go_wp2_with fail
    refine RP.out.mono ?_
    rintro e W13 ⟨rfl, hS13, hX13⟩
    have ho13 := ownV_same ho.out (hX13 g2 rfl)
    have hc13 := ownV_cells ho13 h0
    simp only [Nat.zero_mul, Nat.zero_add] at hc13
    obtain ⟨fz, ⟨u0, c0⟩, ⟨u1, c1⟩, ⟨u2, c2⟩, ⟨u3, c3⟩⟩ := hc13
    replace hS13 := Lib.hid hS13
    clear RP ho hX13 ho13
    go_wp2_with fail
    refine calls_at (R := fun W => StI (fun k => k = g2) w W p (upd (upd (fun _ => none) 1 (some (1, l))) 1 (some (2, l))) 1 10 2 2) ?_ ?_
    · exact StI.wrote hS13.out (by repeat (first | exact Chg.refl | refine Chg.then ?_ (Chg.set _ _ rfl))) (fun k hk => by rw [hk]; exact hgw)
    rintro W14 hS14
    clear hS13 fz c0 c1 c2 c3 hg2 hgw
    refine (getI_some hS14 wf1 (upd_same _ _ _) h0).mono ?_
    rintro e w15 ⟨gb, cB, rfl, hob, hb1, hb2, hB15⟩
    replace hob : ownV w15 gb cB l := hob
    have hbl : Below w.heap.size w w15 := hS14.bel.trans (hB15.mono hS14.bel.size)
    obtain ⟨W16, hW16⟩ : ∃ W16, W16 = w15.alloc (.cells #[.int .i64 1, .int .i64 2, .slice (some ⟨gb, 0, none⟩) l.length cB] 63) := ⟨_, rfl⟩
    have hb16 : Below w15.heap.size w15 W16 := by rw [hW16]; exact (by repeat (first | (with_reducible exact Below.refl _ _) | (with_reducible refine Below.drew ?_) | (with_reducible refine Below.alloc ?_ (by simp [more_size]; try omega) _) | (with_reducible refine Below.setCell ?_ (by simp [more_size]; try omega) _) | (with_reducible refine below_more ?_ _ (by simp [more_size]; try omega))))
    have hbw := Lib.hid (hbl.trans (hb16.mono hbl.size))
    have hbx : Blk W16 w15.heap.size #[.int .i64 1, .int .i64 2, .slice (some ⟨gb, 0, none⟩) l.length cB] 63 := by rw [hW16]; exact Blk.new _ _ _ rfl
    have VS16 := Lib.hid (VS.out W16 hbw.out gb cB (ownV_same hob (hb16.block gb hb2)))
    have x1 : W16.cell? ⟨w15.heap.size, 1, none⟩ = some (.int .i64 2) := hbx.cell 1
    have x2 : W16.cell? ⟨w15.heap.size, 2, none⟩ = some (.slice (some ⟨gb, 0, none⟩) l.length cB) := hbx.cell 2
    have fin := Lib.hid (show ∀ y, Below w.heap.size w (more W16 y) from fun y => hbw.out.trans ((more_below W16 y).mono hbw.out.size))
    clear hS14 hob hbl hb16 hbx hb1 hb2 hB15 hbw
    rw [hW16] at x1 x2 VS16 fin
    clear hW16
    go_wp2_with fail
    refine VS16.out.mono' ?_; intro y2
    go_wp2
    go_ret
    exact ⟨rfl, more_of_below (fin.out y2)⟩
theorem law_RowCopies (v0 v1 : Value) (w : World) (h0 : IsVals w v0) (h1 : IsU8 v1) :
    Calls Try.prog 14 #[v0, v1] w fun e w' => e = .returned (.bool true) ∧ Below w.heap.size w w' := by
  obtain ⟨A, ca, l, rfl, la, lc, hA, hl, ha⟩ := h0
  obtain ⟨m, rfl, hm⟩ := h1
  exact law_of (walk_RowCopies A ca l hl m hm w la lc hA ha)
end Go.Proofs.Ytilpgojkbgbinaa
