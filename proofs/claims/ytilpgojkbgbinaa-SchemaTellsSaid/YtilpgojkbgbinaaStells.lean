/- SchemaTells: of every shape, record and definition: whether they may be, with the document's errors; fields by name. -/
import Derived.Test.YtilpgojkbgbinaaLhooks
import Derived.Test.YtilpgojkbgbinaaScopy
import Derived.Deep.RegionHeld3
set_option maxRecDepth 100000
set_option linter.unusedVariables false
set_option linter.unusedSimpArgs false
namespace Go.Proofs.Ytilpgojkbgbinaa
open Go.RowKit
attribute [local go_sem] run_frombits run_tobits more_more more_drew more_drewN more_size more_cell more_frozen run_store_float lt_c1 le_c1 lt_s1 le_s1 lt_c2 le_c2 lt_s2 le_s2 lt_c3 le_c3 lt_s3 le_s3 lt_c4 le_c4 lt_s4 le_s4 lt_c5 le_c5 lt_s5 le_s5 lt_c6 le_c6 lt_s6 le_s6 lt_c7 le_c7 lt_s7 le_s7 lt_c8 le_c8 lt_s8 le_s8 lt_c9 le_c9 lt_s9 le_s9 lt_c10 le_c10 lt_s10 le_s10 lt_c11 le_c11 lt_s11 le_s11 lt_c12 le_c12 lt_s12 le_s12 le_c0
theorem calls_both {P : Program} {f : FuncId} {args : Array Value} {w : World} {v : Value} (h : Gives P f args w v) : Calls P f args w fun e w' => e = .returned v ∧ Below w.heap.size w w' := law_of h
set_option maxHeartbeats 40000000 in
theorem walk_SchemaTells (A B D E G : Option Addr) (ca cb cd ce cg : Nat) (l : List Fld) (m : List Val) (ps : List Prt) (ex co : List Bool) (nm dn : ByteArray) (kd dc : Int) (hl : namesOk l) (hm : allOk m) (la : l.length ≤ ca) (lc : ca ≤ 9223372036854775807)
    (lb : m.length ≤ cb) (lbc : cb ≤ 9223372036854775807) (hB : B = none → cb = 0) (ln : nm.size ≤ 9223372036854775807) (ld : dn.size ≤ 9223372036854775807) (lp : ps.length ≤ 9223372036854775807) (lx : ex.length ≤ 9223372036854775807) (lo : co.length ≤ 9223372036854775807)
    (w : World) (ha : FieldsIn w A l) (hb : ValsIn w B m) (hd : PartsIn w D ps) (he : BoolsIn w E ex) (hg : BoolsIn w G co) :
    Gives Try.prog 5 #[.slice A l.length ca, .slice B m.length cb, .string nm, .agg #[.string dn, .int .i64 kd, .slice D ps.length cd, .int .i64 dc], .slice E ex.length ce, .slice G co.length cg] w (.bool true) := by
  obtain ⟨r1, hr1⟩ : ∃ r, fewF l = r := ⟨_, rfl⟩
  obtain ⟨r2, hr2⟩ : ∃ r, fewV m 12 = r := ⟨_, rfl⟩
  obtain ⟨r4, hr4⟩ : ∃ r, fewD dn ps.length = r := ⟨_, rfl⟩
  have F1 := Lib.hid (fun W (h : Below w.heap.size w W) => few5_any A ca l hl W la lc (ha.below h))
  have F2 := Lib.hid (fun W (h : Below w.heap.size w W) => few_any B cb m 12 W (by omega) (hb.below h))
  have F4 := Lib.hid (fun W => hdef_any dn ld kd dc D ps.length cd lp W)
  rw [hr1] at F1
  rw [hr2] at F2
  rw [hr4] at F4
  have FL := Lib.hid (fun W (h : Below w.heap.size w W) => field_any A ca l nm W (by omega) (ha.below h))
  have RF := Lib.hid (fun W (h : Below w.heap.size w W) => rfield_any A ca l nm W (by omega) (ha.below h))
  have CP := Lib.hid (fun (h12 : m.length ≤ 12) W (h : Below w.heap.size w W) => scopy_any B cb m W (by omega) (fun e => ⟨hB e, by have := hB e; omega⟩) (hb.below h))
  have IS := Lib.hid (fun W (h : Below w.heap.size w W) => law_of (isf_any A ca l hl W la lc (ha.below h)))
  have RI := Lib.hid (fun W (h : Below w.heap.size w W) => law_of (is_ref5 A ca l.length l hl W rfl la lc (ha.below h)))
  have CK := Lib.hid (fun W (h : Below w.heap.size w W) => law_of (check_any A ca l hl B cb m hm W la lc (by omega) (ha.below h) (hb.below h)))
  have RC := Lib.hid (fun W (h : Below w.heap.size w W) => law_of (rcheck_any A ca l hl B cb m hm W la lc (by omega) (ha.below h) (hb.below h)))
  have HK := Lib.hid (fun (h1 : ex.length ≤ 8) (h2 : co.length ≤ 8) W (h : Below w.heap.size w W) => lawhooks E G ce cg ex co h1 h2 W (he.below h) (hg.below h))
  have DF := Lib.hid (fun W (h : Below w.heap.size w W) E1 E2 c1 c2 x1 x2 => law_of (def_any A ca l hl W la lc (ha.below h) dn ld kd dc D cd ps lp (hd.below h) E1 E2 c1 c2 ex co lx lo x1 x2))
  have RD := Lib.hid (fun W (h : Below w.heap.size w W) => law_of (rdef_any A ca l hl W la lc (ha.below h) dn ld kd dc D cd ps lp (hd.below h) E G ce cg ex co lx lo (he.below h) (hg.below h)))
  have VS := Lib.hid (fun C cc W (h : Below w.heap.size w W) hc => law_of (vals_same C B cc cb m hm W (by omega) hc (hb.below h)))
  have h12 : r2 = true → m.length ≤ 12 := fun e => by
    rw [e] at hr2
    unfold fewV at hr2
    simp at hr2
    omega
  replace h12 := Lib.hid h12
  clear ha hb hd he hg hr1 hr2 hr4
  go_enter Try.func5, Try.ntmps5
  go_wp2_with fail
  refine (known5 _).mono' ?_; intro x
  go_wp2_with fail
  refine (F1.out _ (by repeat (first | (with_reducible exact Below.refl _ _) | (with_reducible refine Below.drew ?_) | (with_reducible refine Below.alloc ?_ (by simp [more_size]; try omega) _) | (with_reducible refine Below.setCell ?_ (by simp [more_size]; try omega) _) | (with_reducible refine below_more ?_ _ (by simp [more_size]; try omega))))).mono ?_; rintro e w' ⟨rfl, rfl⟩
  cases r1
  · go_wp2
    go_ret
    exact ⟨rfl, (more_of_below (by repeat (first | (with_reducible exact Below.refl _ _) | (with_reducible refine Below.drew ?_) | (with_reducible refine Below.alloc ?_ (by simp [more_size]; try omega) _) | (with_reducible refine Below.setCell ?_ (by simp [more_size]; try omega) _) | (with_reducible refine below_more ?_ _ (by simp [more_size]; try omega)))))⟩
  go_wp2_with fail
  refine (F2.out _ (by repeat (first | (with_reducible exact Below.refl _ _) | (with_reducible refine Below.drew ?_) | (with_reducible refine Below.alloc ?_ (by simp [more_size]; try omega) _) | (with_reducible refine Below.setCell ?_ (by simp [more_size]; try omega) _) | (with_reducible refine below_more ?_ _ (by simp [more_size]; try omega))))).mono ?_; rintro e w' ⟨rfl, rfl⟩
  cases r2
  · go_wp2
    go_ret
    exact ⟨rfl, (more_of_below (by repeat (first | (with_reducible exact Below.refl _ _) | (with_reducible refine Below.drew ?_) | (with_reducible refine Below.alloc ?_ (by simp [more_size]; try omega) _) | (with_reducible refine Below.setCell ?_ (by simp [more_size]; try omega) _) | (with_reducible refine below_more ?_ _ (by simp [more_size]; try omega)))))⟩
  replace h12 := Lib.hid (h12.out rfl)
  by_cases h60 : (60 : Int) < (nm.size : Int)
  case pos =>
    go_wp2
    go_ret
    exact ⟨rfl, (more_of_below (by repeat (first | (with_reducible exact Below.refl _ _) | (with_reducible refine Below.drew ?_) | (with_reducible refine Below.alloc ?_ (by simp [more_size]; try omega) _) | (with_reducible refine Below.setCell ?_ (by simp [more_size]; try omega) _) | (with_reducible refine below_more ?_ _ (by simp [more_size]; try omega)))))⟩
  replace h60 : ((60 : Int) < (nm.size : Int)) = False := eq_false h60
  go_wp2_with fail
  refine (F4.out _).mono' ?_; intro y
  cases r4
  · go_wp2
    go_ret
    exact ⟨rfl, (more_of_below (by repeat (first | (with_reducible exact Below.refl _ _) | (with_reducible refine Below.drew ?_) | (with_reducible refine Below.alloc ?_ (by simp [more_size]; try omega) _) | (with_reducible refine Below.setCell ?_ (by simp [more_size]; try omega) _) | (with_reducible refine below_more ?_ _ (by simp [more_size]; try omega)))))⟩
  by_cases h5 : (8 : Int) < (ex.length : Int)
  case pos =>
    go_wp2
    go_ret
    exact ⟨rfl, (more_of_below (by repeat (first | (with_reducible exact Below.refl _ _) | (with_reducible refine Below.drew ?_) | (with_reducible refine Below.alloc ?_ (by simp [more_size]; try omega) _) | (with_reducible refine Below.setCell ?_ (by simp [more_size]; try omega) _) | (with_reducible refine below_more ?_ _ (by simp [more_size]; try omega)))))⟩
  replace h5 : ((8 : Int) < (ex.length : Int)) = False := eq_false h5
  by_cases h6 : (8 : Int) < (co.length : Int)
  case pos =>
    go_wp2
    go_ret
    exact ⟨rfl, (more_of_below (by repeat (first | (with_reducible exact Below.refl _ _) | (with_reducible refine Below.drew ?_) | (with_reducible refine Below.alloc ?_ (by simp [more_size]; try omega) _) | (with_reducible refine Below.setCell ?_ (by simp [more_size]; try omega) _) | (with_reducible refine below_more ?_ _ (by simp [more_size]; try omega)))))⟩
  replace h6 : ((8 : Int) < (co.length : Int)) = False := eq_false h6
  replace HK := Lib.hid (HK.out (by have := of_eq_false h5; omega) (by have := of_eq_false h6; omega))
  replace CP := Lib.hid (CP.out h12.out)
  clear h12 F1 F2 F4
  go_wp2_with fail
  refine (FL.out _ (by repeat (first | (with_reducible exact Below.refl _ _) | (with_reducible refine Below.drew ?_) | (with_reducible refine Below.alloc ?_ (by simp [more_size]; try omega) _) | (with_reducible refine Below.setCell ?_ (by simp [more_size]; try omega) _) | (with_reducible refine below_more ?_ _ (by simp [more_size]; try omega))))).mono' ?_; intro z
  go_wp2_with fail
  refine (RF.out _ (by repeat (first | (with_reducible exact Below.refl _ _) | (with_reducible refine Below.drew ?_) | (with_reducible refine Below.alloc ?_ (by simp [more_size]; try omega) _) | (with_reducible refine Below.setCell ?_ (by simp [more_size]; try omega) _) | (with_reducible refine below_more ?_ _ (by simp [more_size]; try omega))))).mono ?_; rintro e w' ⟨rfl, rfl⟩
  go_wp2_with fail
  refine (CP.out _ (by repeat (first | (with_reducible exact Below.refl _ _) | (with_reducible refine Below.drew ?_) | (with_reducible refine Below.alloc ?_ (by simp [more_size]; try omega) _) | (with_reducible refine Below.setCell ?_ (by simp [more_size]; try omega) _) | (with_reducible refine below_more ?_ _ (by simp [more_size]; try omega))))).mono ?_
  rintro e W0 ⟨v, rfl, own, bel⟩
  obtain ⟨C, cc, rfl, _, _, _, hC⟩ := own_vals own
  have k0 : Blk W0 w.heap.size #[.string dn, .int .i64 kd, .slice D ps.length cd, .int .i64 dc] 33 := by
    refine (Blk.below ?_ bel (by simp [more_size]; try omega))
    repeat (first | exact Blk.new _ _ _ rfl | refine Blk.more ?_ _)
  have HB0 : Below w.heap.size w W0 := by
    refine Below.trans ?_ (bel.mono (by simp [more_size]; try omega))
    exact (by repeat (first | (with_reducible exact Below.refl _ _) | (with_reducible refine Below.drew ?_) | (with_reducible refine Below.alloc ?_ (by simp [more_size]; try omega) _) | (with_reducible refine Below.setCell ?_ (by simp [more_size]; try omega) _) | (with_reducible refine below_more ?_ _ (by simp [more_size]; try omega))))
  have hg0 := k0.lt
  generalize hgg : w.heap.size = g0 at *
  have SK : ∀ W' w', (W'.cell? ⟨g0, 0, none⟩ = some (.string dn) ∧ W'.cell? ⟨g0, 1, none⟩ = some (.int .i64 kd) ∧ W'.cell? ⟨g0, 2, none⟩ = some (.slice D ps.length cd) ∧ W'.cell? ⟨g0, 3, none⟩ = some (.int .i64 dc) ∧ Below W0.heap.size W0 W') → Below W'.heap.size W' w' → (w'.cell? ⟨g0, 0, none⟩ = some (.string dn) ∧ w'.cell? ⟨g0, 1, none⟩ = some (.int .i64 kd) ∧ w'.cell? ⟨g0, 2, none⟩ = some (.slice D ps.length cd) ∧ w'.cell? ⟨g0, 3, none⟩ = some (.int .i64 dc) ∧ Below W0.heap.size W0 w') := by
    rintro W' w' ⟨a0, a1, a2, a3, a4⟩ b
    have q : ∀ j, w'.cell? ⟨g0, j, none⟩ = W'.cell? ⟨g0, j, none⟩ := fun j => b.cell (p := ⟨g0, j, none⟩) (Nat.lt_of_lt_of_le hg0 a4.size)
    exact ⟨(q 0).trans a0, (q 1).trans a1, (q 2).trans a2, (q 3).trans a3, a4.trans (b.mono a4.size)⟩
  have HBW : ∀ W', (W'.cell? ⟨g0, 0, none⟩ = some (.string dn) ∧ W'.cell? ⟨g0, 1, none⟩ = some (.int .i64 kd) ∧ W'.cell? ⟨g0, 2, none⟩ = some (.slice D ps.length cd) ∧ W'.cell? ⟨g0, 3, none⟩ = some (.int .i64 dc) ∧ Below W0.heap.size W0 W') → Below g0 w W' := by
    rintro W' ⟨_, _, _, _, a4⟩
    exact HB0.trans (a4.mono (Nat.le_of_lt hg0))
  have S0 : (W0.cell? ⟨g0, 0, none⟩ = some (.string dn) ∧ W0.cell? ⟨g0, 1, none⟩ = some (.int .i64 kd) ∧ W0.cell? ⟨g0, 2, none⟩ = some (.slice D ps.length cd) ∧ W0.cell? ⟨g0, 3, none⟩ = some (.int .i64 dc) ∧ Below W0.heap.size W0 W0) := ⟨k0.cell 0, k0.cell 1, k0.cell 2, k0.cell 3, Below.refl _ _⟩
  have S0d : (W0.drew.cell? ⟨g0, 0, none⟩ = some (.string dn) ∧ W0.drew.cell? ⟨g0, 1, none⟩ = some (.int .i64 kd) ∧ W0.drew.cell? ⟨g0, 2, none⟩ = some (.slice D ps.length cd) ∧ W0.drew.cell? ⟨g0, 3, none⟩ = some (.int .i64 dc) ∧ Below W0.heap.size W0 W0.drew) := ⟨k0.cell 0, k0.cell 1, k0.cell 2, k0.cell 3, Below.drew (Below.refl _ _)⟩
  have IS8 := Lib.hid (fun W' (h : (W'.cell? ⟨g0, 0, none⟩ = some (.string dn) ∧ W'.cell? ⟨g0, 1, none⟩ = some (.int .i64 kd) ∧ W'.cell? ⟨g0, 2, none⟩ = some (.slice D ps.length cd) ∧ W'.cell? ⟨g0, 3, none⟩ = some (.int .i64 dc) ∧ Below W0.heap.size W0 W')) => (IS.out W' (HBW W' h)).mono (fun e w' h2 => (show _ ∧ (w'.cell? ⟨g0, 0, none⟩ = some (.string dn) ∧ w'.cell? ⟨g0, 1, none⟩ = some (.int .i64 kd) ∧ w'.cell? ⟨g0, 2, none⟩ = some (.slice D ps.length cd) ∧ w'.cell? ⟨g0, 3, none⟩ = some (.int .i64 dc) ∧ Below W0.heap.size W0 w') ∧ Below W'.heap.size W' w' from ⟨h2.1, SK _ _ h h2.2, h2.2⟩)))
  have RI8 := Lib.hid (fun W' (h : (W'.cell? ⟨g0, 0, none⟩ = some (.string dn) ∧ W'.cell? ⟨g0, 1, none⟩ = some (.int .i64 kd) ∧ W'.cell? ⟨g0, 2, none⟩ = some (.slice D ps.length cd) ∧ W'.cell? ⟨g0, 3, none⟩ = some (.int .i64 dc) ∧ Below W0.heap.size W0 W')) => (RI.out W' (HBW W' h)).mono (fun e w' h2 => (show _ ∧ (w'.cell? ⟨g0, 0, none⟩ = some (.string dn) ∧ w'.cell? ⟨g0, 1, none⟩ = some (.int .i64 kd) ∧ w'.cell? ⟨g0, 2, none⟩ = some (.slice D ps.length cd) ∧ w'.cell? ⟨g0, 3, none⟩ = some (.int .i64 dc) ∧ Below W0.heap.size W0 w') ∧ Below W'.heap.size W' w' from ⟨h2.1, SK _ _ h h2.2, h2.2⟩)))
  have CK8 := Lib.hid (fun W' (h : (W'.cell? ⟨g0, 0, none⟩ = some (.string dn) ∧ W'.cell? ⟨g0, 1, none⟩ = some (.int .i64 kd) ∧ W'.cell? ⟨g0, 2, none⟩ = some (.slice D ps.length cd) ∧ W'.cell? ⟨g0, 3, none⟩ = some (.int .i64 dc) ∧ Below W0.heap.size W0 W')) => (CK.out W' (HBW W' h)).mono (fun e w' h2 => (show _ ∧ (w'.cell? ⟨g0, 0, none⟩ = some (.string dn) ∧ w'.cell? ⟨g0, 1, none⟩ = some (.int .i64 kd) ∧ w'.cell? ⟨g0, 2, none⟩ = some (.slice D ps.length cd) ∧ w'.cell? ⟨g0, 3, none⟩ = some (.int .i64 dc) ∧ Below W0.heap.size W0 w') ∧ Below W'.heap.size W' w' from ⟨h2.1, SK _ _ h h2.2, h2.2⟩)))
  have RC8 := Lib.hid (fun W' (h : (W'.cell? ⟨g0, 0, none⟩ = some (.string dn) ∧ W'.cell? ⟨g0, 1, none⟩ = some (.int .i64 kd) ∧ W'.cell? ⟨g0, 2, none⟩ = some (.slice D ps.length cd) ∧ W'.cell? ⟨g0, 3, none⟩ = some (.int .i64 dc) ∧ Below W0.heap.size W0 W')) => (RC.out W' (HBW W' h)).mono (fun e w' h2 => (show _ ∧ (w'.cell? ⟨g0, 0, none⟩ = some (.string dn) ∧ w'.cell? ⟨g0, 1, none⟩ = some (.int .i64 kd) ∧ w'.cell? ⟨g0, 2, none⟩ = some (.slice D ps.length cd) ∧ w'.cell? ⟨g0, 3, none⟩ = some (.int .i64 dc) ∧ Below W0.heap.size W0 w') ∧ Below W'.heap.size W' w' from ⟨h2.1, SK _ _ h h2.2, h2.2⟩)))
  have RD8 := Lib.hid (fun W' (h : (W'.cell? ⟨g0, 0, none⟩ = some (.string dn) ∧ W'.cell? ⟨g0, 1, none⟩ = some (.int .i64 kd) ∧ W'.cell? ⟨g0, 2, none⟩ = some (.slice D ps.length cd) ∧ W'.cell? ⟨g0, 3, none⟩ = some (.int .i64 dc) ∧ Below W0.heap.size W0 W')) => (RD.out W' (HBW W' h)).mono (fun e w' h2 => (show _ ∧ (w'.cell? ⟨g0, 0, none⟩ = some (.string dn) ∧ w'.cell? ⟨g0, 1, none⟩ = some (.int .i64 kd) ∧ w'.cell? ⟨g0, 2, none⟩ = some (.slice D ps.length cd) ∧ w'.cell? ⟨g0, 3, none⟩ = some (.int .i64 dc) ∧ Below W0.heap.size W0 w') ∧ Below W'.heap.size W' w' from ⟨h2.1, SK _ _ h h2.2, h2.2⟩)))
  have VS8 := Lib.hid (fun W' (h : (W'.cell? ⟨g0, 0, none⟩ = some (.string dn) ∧ W'.cell? ⟨g0, 1, none⟩ = some (.int .i64 kd) ∧ W'.cell? ⟨g0, 2, none⟩ = some (.slice D ps.length cd) ∧ W'.cell? ⟨g0, 3, none⟩ = some (.int .i64 dc) ∧ Below W0.heap.size W0 W')) => (VS.out C cc W' (HBW W' h) (hC.below h.2.2.2.2)).mono (fun e w' h2 => (show _ ∧ (w'.cell? ⟨g0, 0, none⟩ = some (.string dn) ∧ w'.cell? ⟨g0, 1, none⟩ = some (.int .i64 kd) ∧ w'.cell? ⟨g0, 2, none⟩ = some (.slice D ps.length cd) ∧ w'.cell? ⟨g0, 3, none⟩ = some (.int .i64 dc) ∧ Below W0.heap.size W0 w') ∧ Below W'.heap.size W' w' from ⟨h2.1, SK _ _ h h2.2, h2.2⟩)))
  have DF8 := Lib.hid (fun W' (h : (W'.cell? ⟨g0, 0, none⟩ = some (.string dn) ∧ W'.cell? ⟨g0, 1, none⟩ = some (.int .i64 kd) ∧ W'.cell? ⟨g0, 2, none⟩ = some (.slice D ps.length cd) ∧ W'.cell? ⟨g0, 3, none⟩ = some (.int .i64 dc) ∧ Below W0.heap.size W0 W')) E1 E2 c1 c2 x1 x2 => (DF.out W' (HBW W' h) E1 E2 c1 c2 x1 x2).mono (fun e w' h2 => (show _ ∧ (w'.cell? ⟨g0, 0, none⟩ = some (.string dn) ∧ w'.cell? ⟨g0, 1, none⟩ = some (.int .i64 kd) ∧ w'.cell? ⟨g0, 2, none⟩ = some (.slice D ps.length cd) ∧ w'.cell? ⟨g0, 3, none⟩ = some (.int .i64 dc) ∧ Below W0.heap.size W0 w') ∧ Below W'.heap.size W' w' from ⟨h2.1, SK _ _ h h2.2, h2.2⟩)))
  have HK8 := Lib.hid (fun W' (h : (W'.cell? ⟨g0, 0, none⟩ = some (.string dn) ∧ W'.cell? ⟨g0, 1, none⟩ = some (.int .i64 kd) ∧ W'.cell? ⟨g0, 2, none⟩ = some (.slice D ps.length cd) ∧ W'.cell? ⟨g0, 3, none⟩ = some (.int .i64 dc) ∧ Below W0.heap.size W0 W')) => (HK.out W' (HBW W' h)).mono (fun e w' h2 => (show ∃ E1 c1 E2 c2, e = .returned (.agg #[.slice E1 ex.length c1, .slice E2 co.length c2]) ∧ HooksIn w' E1 ex ∧ HooksIn w' E2 co ∧ (w'.cell? ⟨g0, 0, none⟩ = some (.string dn) ∧ w'.cell? ⟨g0, 1, none⟩ = some (.int .i64 kd) ∧ w'.cell? ⟨g0, 2, none⟩ = some (.slice D ps.length cd) ∧ w'.cell? ⟨g0, 3, none⟩ = some (.int .i64 dc) ∧ Below W0.heap.size W0 w') ∧ Below W'.heap.size W' w' from by
    obtain ⟨E1, c1, E2, c2, q1, q2, q3, q4⟩ := h2
    exact ⟨E1, c1, E2, c2, q1, q2, q3, SK _ _ h q4, q4⟩)))
  replace HBW := Lib.hid HBW
  clear IS RI CK RC RD VS DF HK CP FL RF own bel hC k0 HB0 SK
  go_wp2_with fail
  go_region_held3 (fun w' => (w'.cell? ⟨g0, 0, none⟩ = some (.string dn) ∧ w'.cell? ⟨g0, 1, none⟩ = some (.int .i64 kd) ∧ w'.cell? ⟨g0, 2, none⟩ = some (.slice D ps.length cd) ∧ w'.cell? ⟨g0, 3, none⟩ = some (.int .i64 dc) ∧ Below W0.heap.size W0 w')) (first | assumption | exact S0d) ((first
    | (go_at_call 19; with_reducible refine Calls.mono (IS8.out _ (by assumption)) ?_; rintro e w5 ⟨rfl, hS5, b5⟩; (try replace hk1 := HooksIn.below hk1 b5); (try replace hk2 := HooksIn.below hk2 b5))
    | (go_at_call 26; with_reducible refine Calls.mono (RI8.out _ (by assumption)) ?_; rintro e w5 ⟨rfl, hS5, b5⟩; (try replace hk1 := HooksIn.below hk1 b5); (try replace hk2 := HooksIn.below hk2 b5))
    | (go_at_call 27; with_reducible refine Calls.mono (CK8.out _ (by assumption)) ?_; rintro e w5 ⟨rfl, hS5, b5⟩; (try replace hk1 := HooksIn.below hk1 b5); (try replace hk2 := HooksIn.below hk2 b5))
    | (go_at_call 28; with_reducible refine Calls.mono (RC8.out _ (by assumption)) ?_; rintro e w5 ⟨rfl, hS5, b5⟩; (try replace hk1 := HooksIn.below hk1 b5); (try replace hk2 := HooksIn.below hk2 b5))
    | (go_at_call 29; with_reducible refine Calls.mono (HK8.out _ (by assumption)) ?_; rintro e w5 ⟨E1, e1, E2, e2, rfl, hk1, hk2, hS5, b5⟩)
    | (go_at_call 20; with_reducible refine Calls.mono (DF8.out _ (by assumption) _ _ _ _ hk1 hk2) ?_; rintro e w5 ⟨rfl, hS5, b5⟩)
    | (go_at_call 30; with_reducible refine Calls.mono (RD8.out _ (by assumption)) ?_; rintro e w5 ⟨rfl, hS5, b5⟩; (try replace hk1 := HooksIn.below hk1 b5); (try replace hk2 := HooksIn.below hk2 b5))
    | (go_at_call 31; with_reducible refine Calls.mono (VS8.out _ (by assumption)) ?_; rintro e w5 ⟨rfl, hS5, b5⟩; (try replace hk1 := HooksIn.below hk1 b5); (try replace hk2 := HooksIn.below hk2 b5))))
  all_goals
    go_wp2
    go_ret
    exact ⟨rfl, more_of_below (hgg ▸ HBW.out _ (by assumption))⟩
theorem law_SchemaTells (v0 v1 v2 v3 v4 v5 : Value) (w : World) (h0 : IsFlds w v0) (h1 : IsVals w v1) (h2 : IsStr v2) (h3 : IsDefn w v3) (h4 : IsBools w v4) (h5 : IsBools w v5) :
    Calls Try.prog 5 #[v0, v1, v2, v3, v4, v5] w fun e w' => e = .returned (.bool true) ∧ Below w.heap.size w w' := by
  obtain ⟨A, ca, l, rfl, la, lc, hl, ha⟩ := h0
  obtain ⟨B, cb, m, rfl, lb, lbc, hB, hm, hb⟩ := h1
  obtain ⟨nm, rfl, ln⟩ := h2
  obtain ⟨dn, kd, dc, D, cd, ps, rfl, ld, lp, lpc, hd⟩ := h3
  obtain ⟨E, ce, ex, rfl, lx, lxc, _, _, he⟩ := h4
  obtain ⟨G, cg, co, rfl, lo, loc, _, _, hg⟩ := h5
  exact law_of (walk_SchemaTells A B D E G ca cb cd ce cg l m ps ex co nm dn kd dc hl hm la lc lb lbc hB ln ld (by omega) (by omega) (by omega) w ha hb hd he hg)
end Go.Proofs.Ytilpgojkbgbinaa

