/- The document's rows: Put. -/
import Derived.Test.YtilpgojkbgbinaaRef9G
set_option maxRecDepth 100000
set_option linter.unusedVariables false
set_option linter.unusedSimpArgs false
namespace Go.Proofs.Ytilpgojkbgbinaa
open Go.RowKit
open Go.Maps (has size Keyed int_keyed keyOf_int_mk)
attribute [local go_sem] run_frombits run_tobits more_more more_drew more_drewN more_size more_cell more_frozen run_store_float lt_c1 le_c1 lt_s1 le_s1 lt_c2 le_c2 lt_s2 le_s2 lt_c3 le_c3 lt_s3 le_s3 lt_c4 le_c4 lt_s4 le_s4 lt_c5 le_c5 lt_s5 le_s5 lt_c6 le_c6 lt_s6 le_s6 lt_c7 le_c7 lt_s7 le_s7 lt_c8 le_c8 lt_s8 le_s8 lt_c9 le_c9 lt_s9 le_s9 lt_c10 le_c10 lt_s10 le_s10 lt_c11 le_c11 lt_s11 le_s11 lt_c12 le_c12 lt_s12 le_s12 le_c0
variable {w w' : World} {pr : Nat} {G G' Y : Nat → Prop} {A : Option Addr} {cap : Nat} {L : List Slt} {mx nx : Int}
set_option maxHeartbeats 4000000 in
theorem ref_put_no (h : RM w pr G A cap L mx nx) (id ver : Int) (v : Value) (hv : ∃ B n c, v = .slice B n c) (hno : (∀ k, AtK L id k → okAt L id k = true) ∨ id < 1 ∨ nx ≤ id) :
    Calls Try.prog 66 #[.pointer (some ⟨pr, 0, none⟩), .agg #[.int .i64 id, .int .i64 ver, v]] w fun e w' => e = .returned (.int .i64 72) ∧ Below w.heap.size w w' := by
  obtain ⟨B, n, c, rfl⟩ := hv
  have AT := Lib.hid (fun W (hB : Below w.heap.size w W) => at_any9 (h.below hB) id)
  have hh := Lib.hid h
  clear h
  go_enter Try.func66, Try.ntmps66
  go_wp2_with fail
  refine (AT.out _ (by repeat (first | (with_reducible exact Below.refl _ _) | (with_reducible refine Below.drew ?_) | (with_reducible refine Below.alloc ?_ (by simp [more_size]; try omega) _) | (with_reducible refine Below.setCell ?_ (by simp [more_size]; try omega) _) | (with_reducible refine below_more ?_ _ (by simp [more_size]; try omega))))).mono ?_
  rintro e w1 ⟨k, rfl, hk, x, rfl⟩
  have hB1 : Below w.heap.size w (more (w.alloc (.cells #[.int .i64 id, .int .i64 ver, .slice B n c] 63)) x) := (by repeat (first | (with_reducible exact Below.refl _ _) | (with_reducible refine Below.drew ?_) | (with_reducible refine Below.alloc ?_ (by simp [more_size]; try omega) _) | (with_reducible refine Below.setCell ?_ (by simp [more_size]; try omega) _) | (with_reducible refine below_more ?_ _ (by simp [more_size]; try omega))))
  have hb1 := Lib.hid ((Blk.new w #[.int .i64 id, .int .i64 ver, .slice B n c] 63 rfl).more x)
  have hM1 := Lib.hid (hh.out.below hB1)
  generalize more (w.alloc (.cells #[.int .i64 id, .int .i64 ver, .slice B n c] 63)) x = W1 at *
  have c2 : W1.cell? ⟨pr, 2, none⟩ = some (.int .i64 nx) := hM1.out.box.cell 2
  have r0 : W1.cell? ⟨w.heap.size, 0, none⟩ = some (.int .i64 id) := hb1.out.cell 0
  have hpr := hM1.out.box.lt
  have hbl := hb1.out.lt
  replace c2 := fun y => (more_cell W1 y 2 hpr).trans c2
  replace r0 := fun y => (more_cell W1 y 0 hbl).trans r0
  have fin := Lib.hid (show ∀ y, Below w.heap.size w (more W1 y) from fun y => hB1.trans ((more_below W1 y).mono hB1.size))
  cases hok : okAt L id k with
  | true =>
    clear hno hk hok hh AT hM1 hb1 hB1
    go_wp2_with fail
    refine wp_region_more (by kernel_rfl) (by kernel_rfl) ?_
    repeat (go_big_quiet_step (fail))
    refine wpQuiet_nil ?_
    rintro _ ⟨y, rfl⟩
    go_wp2
    go_ret
    exact ⟨rfl, fin.out _⟩
  | false =>
    have hno2 : id < 1 ∨ nx ≤ id := by
      rcases hno with q | q
      · rw [q k hk] at hok; cases hok
      · exact q
    by_cases h1 : id < 1
    · clear hno hno2 hk hok hh AT hM1 hb1 hB1
      go_wp2_with fail
      refine wp_region_more (by kernel_rfl) (by kernel_rfl) ?_
      repeat (go_big_quiet_step (fail))
      refine wpQuiet_nil ?_
      rintro _ ⟨y, rfl⟩
      go_wp2
      go_ret
      exact ⟨rfl, fin.out _⟩
    · have h2 : nx ≤ id := by omega
      have h1' : (id < 1) = False := eq_false h1
      clear hno hno2 hk hok hh AT hM1 hb1 hB1 h1
      go_wp2_with fail
      refine wp_region_more (by kernel_rfl) (by kernel_rfl) ?_
      repeat (go_big_quiet_step (fail))
      refine wpQuiet_nil ?_
      rintro _ ⟨y, rfl⟩
      go_wp2
      go_ret
      exact ⟨rfl, fin.out _⟩
set_option maxHeartbeats 4000000 in
theorem ref_put_full (h : RM w pr G A cap L mx nx) (id ver : Int) (v : Value) (hv : ∃ B n c, v = .slice B n c) (hno : ∀ k, AtK L id k → okAt L id k = false) (h1 : 1 ≤ id) (h2 : id < nx) (hn : mx ≤ (L.length : Int)) :
    Calls Try.prog 66 #[.pointer (some ⟨pr, 0, none⟩), .agg #[.int .i64 id, .int .i64 ver, v]] w fun e w' => e = .returned (.int .i64 70) ∧ Below w.heap.size w w' := by
  obtain ⟨B, n, c, rfl⟩ := hv
  have AT := Lib.hid (fun W (hB : Below w.heap.size w W) => at_any9 (h.below hB) id)
  have hh := Lib.hid h
  have l1 : (id < 1) = False := eq_false (by omega)
  have l2 : (nx ≤ id) = False := eq_false (by omega)
  clear h h1 h2
  go_enter Try.func66, Try.ntmps66
  go_wp2_with fail
  refine (AT.out _ (by repeat (first | (with_reducible exact Below.refl _ _) | (with_reducible refine Below.drew ?_) | (with_reducible refine Below.alloc ?_ (by simp [more_size]; try omega) _) | (with_reducible refine Below.setCell ?_ (by simp [more_size]; try omega) _) | (with_reducible refine below_more ?_ _ (by simp [more_size]; try omega))))).mono ?_
  rintro e w1 ⟨k, rfl, hk, x, rfl⟩
  rw [hno k hk]
  have hB1 : Below w.heap.size w (more (w.alloc (.cells #[.int .i64 id, .int .i64 ver, .slice B n c] 63)) x) := (by repeat (first | (with_reducible exact Below.refl _ _) | (with_reducible refine Below.drew ?_) | (with_reducible refine Below.alloc ?_ (by simp [more_size]; try omega) _) | (with_reducible refine Below.setCell ?_ (by simp [more_size]; try omega) _) | (with_reducible refine below_more ?_ _ (by simp [more_size]; try omega))))
  have hb1 := Lib.hid ((Blk.new w #[.int .i64 id, .int .i64 ver, .slice B n c] 63 rfl).more x)
  have hM1 := Lib.hid (hh.out.below hB1)
  generalize more (w.alloc (.cells #[.int .i64 id, .int .i64 ver, .slice B n c] 63)) x = W1 at *
  have c0 : W1.cell? ⟨pr, 0, none⟩ = some (.slice A L.length cap) := hM1.out.box.cell 0
  have c1 : W1.cell? ⟨pr, 1, none⟩ = some (.int .i64 mx) := hM1.out.box.cell 1
  have c2 : W1.cell? ⟨pr, 2, none⟩ = some (.int .i64 nx) := hM1.out.box.cell 2
  have r0 : W1.cell? ⟨w.heap.size, 0, none⟩ = some (.int .i64 id) := hb1.out.cell 0
  have hpr := hM1.out.box.lt
  have hbl := hb1.out.lt
  replace c0 := fun y => (more_cell W1 y 0 hpr).trans c0
  replace c1 := fun y => (more_cell W1 y 1 hpr).trans c1
  replace c2 := fun y => (more_cell W1 y 2 hpr).trans c2
  replace r0 := fun y => (more_cell W1 y 0 hbl).trans r0
  have fin := Lib.hid (show ∀ y, Below w.heap.size w (more W1 y) from fun y => hB1.trans ((more_below W1 y).mono hB1.size))
  clear hno hk hh AT hM1 hb1 hB1
  go_wp2_with fail
  refine wp_region_more (by kernel_rfl) (by kernel_rfl) ?_
  repeat (go_big_quiet_step (fail))
  refine wpQuiet_nil ?_
  rintro _ ⟨y, rfl⟩
  go_wp2_with fail
  refine wp_region_more2 (by kernel_rfl) (by kernel_rfl) ?_
  repeat (go_big_quiet_step (fail))
  refine wpQuiet_nil ?_
  rintro _ ⟨z, rfl⟩
  go_wp2
  go_ret
  exact ⟨rfl, fin.out _⟩
set_option maxHeartbeats 4000000 in
theorem ref_put_ok (h : RM w pr G A cap L mx nx) (hL : L.length ≤ 1000) (id ver : Int) (B : Option Addr) (c : Nat) (l : List Val) (hl : l.length ≤ 1000) (hA : B = none → c = 0 ∧ l.length = 0) (ha : ValsIn w B l) (hno : ∀ k, AtK L id k → okAt L id k = false) (h1 : 1 ≤ id) (h2 : id < nx) (hn : (L.length : Int) < mx) :
    Calls Try.prog 66 #[.pointer (some ⟨pr, 0, none⟩), .agg #[.int .i64 id, .int .i64 ver, .slice B l.length c]] w fun e w' => e = .returned (.int .i64 0) ∧ ∃ k vA vc A' cap' G', AtK L id k ∧ RM w' pr G' A' cap' (L.take k ++ ⟨id, ver, vA, vc, l⟩ :: L.drop k) mx nx ∧ Chg (fun k => k = pr) w w' ∧ Grew w G G' := by
  have AT := Lib.hid (fun W (hB : Below w.heap.size w W) => at_any9 (h.below hB) id)
  have CP := Lib.hid (fun W (hB : Below w.heap.size w W) => rcopy_any B c l W hl hA (ha.below hB))
  have hh := Lib.hid h
  have l1 : (id < 1) = False := eq_false (by omega)
  have l2 : (nx ≤ id) = False := eq_false (by omega)
  have l3 : (mx ≤ (L.length : Int)) = False := eq_false (by omega)
  clear h h1 h2 ha hA hn
  go_enter Try.func66, Try.ntmps66
  go_wp2_with fail
  refine (AT.out _ (by repeat (first | (with_reducible exact Below.refl _ _) | (with_reducible refine Below.drew ?_) | (with_reducible refine Below.alloc ?_ (by simp [more_size]; try omega) _) | (with_reducible refine Below.setCell ?_ (by simp [more_size]; try omega) _) | (with_reducible refine below_more ?_ _ (by simp [more_size]; try omega))))).mono ?_
  rintro e w1 ⟨k0, rfl, hk, x, rfl⟩
  rw [hno k0 hk]
  have hB1 : Below w.heap.size w (more (w.alloc (.cells #[.int .i64 id, .int .i64 ver, .slice B l.length c] 63)) x) := (by repeat (first | (with_reducible exact Below.refl _ _) | (with_reducible refine Below.drew ?_) | (with_reducible refine Below.alloc ?_ (by simp [more_size]; try omega) _) | (with_reducible refine Below.setCell ?_ (by simp [more_size]; try omega) _) | (with_reducible refine below_more ?_ _ (by simp [more_size]; try omega))))
  have hb1 := Lib.hid ((Blk.new w #[.int .i64 id, .int .i64 ver, .slice B l.length c] 63 rfl).more x)
  have hM1 := Lib.hid (hh.out.below hB1)
  generalize more (w.alloc (.cells #[.int .i64 id, .int .i64 ver, .slice B l.length c] 63)) x = W1 at *
  have c0 : W1.cell? ⟨pr, 0, none⟩ = some (.slice A L.length cap) := hM1.out.box.cell 0
  have c1 : W1.cell? ⟨pr, 1, none⟩ = some (.int .i64 mx) := hM1.out.box.cell 1
  have c2 : W1.cell? ⟨pr, 2, none⟩ = some (.int .i64 nx) := hM1.out.box.cell 2
  have r0 : W1.cell? ⟨w.heap.size, 0, none⟩ = some (.int .i64 id) := hb1.out.cell 0
  have r2 : W1.cell? ⟨w.heap.size, 2, none⟩ = some (.slice B l.length c) := hb1.out.cell 2
  have hpr := hM1.out.box.lt
  have hbl := hb1.out.lt
  replace c0 := fun y => (more_cell W1 y 0 hpr).trans c0
  replace c1 := fun y => (more_cell W1 y 1 hpr).trans c1
  replace c2 := fun y => (more_cell W1 y 2 hpr).trans c2
  replace r0 := fun y => (more_cell W1 y 0 hbl).trans r0
  replace r2 := fun y => (more_cell W1 y 2 hbl).trans r2
  have fin := Lib.hid (show ∀ y, Below w.heap.size w (more W1 y) ∧ Blk (more W1 y) w.heap.size #[.int .i64 id, .int .i64 ver, .slice B l.length c] 63 from fun y => ⟨hB1.trans ((more_below W1 y).mono hB1.size), hb1.out.more y⟩)
  clear hno hk AT hM1 hb1 hB1
  go_wp2_with fail
  refine wp_region_more (by kernel_rfl) (by kernel_rfl) ?_
  repeat (go_big_quiet_step (fail))
  refine wpQuiet_nil ?_
  rintro _ ⟨y, rfl⟩
  go_wp2_with fail
  refine wp_region_more2 (by kernel_rfl) (by kernel_rfl) ?_
  repeat (go_big_quiet_step (fail))
  refine wpQuiet_nil ?_
  rintro _ ⟨z, rfl⟩
  go_wp2_with fail
  obtain ⟨hB2, hb2⟩ := fin.out z
  clear c0 c1 c2 r0 r2 fin hpr hbl
  generalize more W1 z = W2 at *
  refine (CP.out _ hB2).mono ?_
  rintro e W3 ⟨vA, vc, rfl, own2, hB3⟩
  have hb3 := hb2.below hB3 hb2.lt
  have hB3' : Below w.heap.size w W3 := hB2.trans (hB3.mono hB2.size)
  have hM4 : RM (W3.setCell ⟨w.heap.size, 2, none⟩ (.slice vA l.length vc)) pr G A cap L mx nx := (hh.out.below hB3').beside (Y := fun k => k = w.heap.size) (Chg.set _ _ rfl) (fun k hk e => by have := hh.out.Glt k hk; omega)
  have hb4 := hb3.set 2 (.slice vA l.length vc)
  have hB4 : Below w.heap.size w (W3.setCell ⟨w.heap.size, 2, none⟩ (.slice vA l.length vc)) := hB3'.setCell (by simp) _
  have hbs := hb2.lt
  have own4 : (W3.setCell ⟨w.heap.size, 2, none⟩ (.slice vA l.length vc)).ownsRow W2.heap.size 103 4 (.slice vA l.length vc) l.length (cellsOf l) := own_same own2 (fun k e => Below.heap_setCell _ _ _ k (by have := own_ge own2 k e; simp only; omega))
  have f2 := hb3.free 2
  have d2 := hb3.cell 2
  have PT := Lib.hid (put_any9 hM4 hL ⟨id, ver, vA, vc, l⟩)
  have hsz := hB2.size
  have e0 : (W3.setCell ⟨w.heap.size, 2, none⟩ (.slice vA l.length vc)).cell? ⟨w.heap.size, 0, none⟩ = some (.int .i64 id) := hb4.cell 0
  have e1 : (W3.setCell ⟨w.heap.size, 2, none⟩ (.slice vA l.length vc)).cell? ⟨w.heap.size, 1, none⟩ = some (.int .i64 ver) := hb4.cell 1
  have e2 : (W3.setCell ⟨w.heap.size, 2, none⟩ (.slice vA l.length vc)).cell? ⟨w.heap.size, 2, none⟩ = some (.slice vA l.length vc) := hb4.cell 2
  replace own4 := Lib.hid own4
  replace hB4 := Lib.hid hB4
  clear CP hb2 hB2 hB3 hb3 hB3' hM4 hb4 own2
  go_wp2_with fail
  generalize W3.setCell ⟨w.heap.size, 2, none⟩ (.slice vA l.length vc) = W4 at *
  refine PT.out.mono ?_
  rintro e W5 ⟨rfl, k, V, A', cap', hk, hV, rfl, own5⟩
  have hll : (L.take k ++ (⟨id, ver, vA, vc, l⟩ : Slt) :: L.drop k).length = L.length + 1 := by have := hk.1; simp; omega
  have hR := hh.out.rows (hB4.out.trans (hV.mono hB4.out.size)) (A' := A') (cap' := cap') (L' := L.take k ++ ⟨id, ver, vA, vc, l⟩ :: L.drop k) (by rw [hll]; exact own_lower own5 hB4.out.size) (by
    intro s hs
    rcases List.mem_append.1 hs with q | q
    · exact .inl (List.mem_of_mem_take q)
    · rcases List.mem_cons.1 q with rfl | q
      · refine .inr ⟨fun e => ?_, hl, ?_, fun x e => ?_⟩
        · dsimp only at e ⊢
          rcases own4.out.2 with ⟨e2, e3⟩ | ⟨g, cp, cur, e2, _⟩
          · injection e2 with _ _ e4; exact ⟨e4, e3⟩
          · injection e2 with e4; rw [e] at e4; cases e4
        · obtain ⟨A9, c9, e9, _, _, _, hv9⟩ := own_vals own4.out
          injection e9 with e9
          subst e9
          exact hv9.below hV
        · dsimp only at e
          subst e
          have a1 := own_ge own4.out x.block rfl
          have a2 := own_lt9 own4.out x.block rfl
          have a4 := hV.size
          omega
      · exact .inl (List.mem_of_mem_drop q))
  rw [hll] at hR
  have res := Lib.hid hR
  replace hk := Lib.hid hk
  have hGr : Hid (Grew w G (fun k => G k ∨ (w.heap.size ≤ k ∧ k < V.heap.size))) := Lib.hid ⟨fun k h => .inl h, fun k h => h.imp (fun h => h) (fun h => h.1)⟩
  clear own4 own5 hR PT e0 e1 e2 d2 f2 hV hB4
  go_wp2
  go_ret
  first
    | exact ⟨rfl, k, vA, vc, _, _, _, hk.out, res.out.1, res.out.2, hGr.out⟩
    | exact ⟨rfl, k, hk.out, vA, vc, _, _, _, res.out.1, res.out.2, hGr.out⟩
end Go.Proofs.Ytilpgojkbgbinaa
