/- The document's rows: Get, SetNext, Put. -/
import Derived.Test.YtilpgojkbgbinaaRef9I
set_option maxRecDepth 100000
set_option linter.unusedVariables false
set_option linter.unusedSimpArgs false
namespace Go.Proofs.Ytilpgojkbgbinaa
open Go.RowKit
open Go.Maps (has size Keyed int_keyed keyOf_int_mk)
attribute [local go_sem] run_frombits run_tobits more_more more_drew more_drewN more_size more_cell more_frozen run_store_float lt_c1 le_c1 lt_s1 le_s1 lt_c2 le_c2 lt_s2 le_s2 lt_c3 le_c3 lt_s3 le_s3 lt_c4 le_c4 lt_s4 le_s4 lt_c5 le_c5 lt_s5 le_s5 lt_c6 le_c6 lt_s6 le_s6 lt_c7 le_c7 lt_s7 le_s7 lt_c8 le_c8 lt_s8 le_s8 lt_c9 le_c9 lt_s9 le_s9 lt_c10 le_c10 lt_s10 le_s10 lt_c11 le_c11 lt_s11 le_s11 lt_c12 le_c12 lt_s12 le_s12 le_c0
variable {w w' : World} {pr : Nat} {G G' Y : Nat → Prop} {A : Option Addr} {cap : Nat} {L : List Slt} {mx nx : Int}
/-- the cells of a row of the document's -/
theorem RM.at_ (h : RM w pr G A cap L mx nx) {i : Nat} (hi : i < L.length) : ∃ g, A = some ⟨g, 0, none⟩ ∧ g < w.heap.size ∧ w.cell? ⟨g, i * 3, none⟩ = some (.int .i64 L[i].id) ∧ w.cell? ⟨g, i * 3 + 1, none⟩ = some (.int .i64 L[i].ver) ∧ w.cell? ⟨g, i * 3 + 2, none⟩ = some (.slice L[i].A L[i].vals.length L[i].cap) := by
  obtain ⟨A', cp, e, h1, h2, h3, h4⟩ := own_open h.row
  injection e with e e2 e3
  subst e e3
  obtain ⟨g, rfl, _, hg, hc⟩ := h4 (by omega)
  refine ⟨g, rfl, hg, ?_, ?_, ?_⟩
  · exact hc (i * 3) _ (by have := rowC_get sltC_len L i 0 hi (by decide); rw [Nat.add_zero] at this; rw [this]; rfl)
  · exact hc (i * 3 + 1) _ (by rw [rowC_get sltC_len L i 1 hi (by decide)]; rfl)
  · exact hc (i * 3 + 2) _ (by rw [rowC_get sltC_len L i 2 hi (by decide)]; rfl)
theorem okAt_lt {id : Int} {k : Nat} (h : okAt L id k = true) : ∃ hk : k < L.length, L[k].id = id := by
  unfold okAt at h
  rcases Nat.lt_or_ge k L.length with q | q
  · rw [List.getElem?_eq_getElem q] at h
    exact ⟨q, by simpa using h⟩
  · rw [List.getElem?_eq_none q] at h; cases h
set_option maxHeartbeats 2000000 in
theorem ref_get (h : RM w pr G A cap L mx nx) (id : Int) :
    Calls Try.prog 69 #[.pointer (some ⟨pr, 0, none⟩), .int .i64 id] w fun e w' => ∃ v ok, e = .returned (.tuple #[v, .bool ok]) ∧ Below w.heap.size w w' ∧ ((ok = false ∧ v = .agg #[.int .i64 0, .int .i64 0, .slice none 0 0] ∧ ∃ k, AtK L id k ∧ okAt L id k = false) ∨ (ok = true ∧ ∃ s ∈ L, s.id = id ∧ v = .agg #[.int .i64 s.id, .int .i64 s.ver, .slice s.A s.vals.length s.cap])) := by
  have AT := Lib.hid (fun W (hB : Below w.heap.size w W) => at_any9 (h.below hB) id)
  have hh := Lib.hid h
  clear h
  go_enter Try.func69, Try.ntmps69
  go_wp2_with fail
  refine (AT.out _ (by repeat (first | (with_reducible exact Below.refl _ _) | (with_reducible refine Below.drew ?_) | (with_reducible refine Below.alloc ?_ (by simp [more_size]; try omega) _) | (with_reducible refine Below.setCell ?_ (by simp [more_size]; try omega) _) | (with_reducible refine below_more ?_ _ (by simp [more_size]; try omega))))).mono ?_
  rintro e w1 ⟨k, rfl, hk, x, rfl⟩
  have hB1 : Below w.heap.size w (more (w.alloc (.cells #[.int .i64 0, .int .i64 0, .slice none 0 0] 63)) x) := (by repeat (first | (with_reducible exact Below.refl _ _) | (with_reducible refine Below.drew ?_) | (with_reducible refine Below.alloc ?_ (by simp [more_size]; try omega) _) | (with_reducible refine Below.setCell ?_ (by simp [more_size]; try omega) _) | (with_reducible refine below_more ?_ _ (by simp [more_size]; try omega))))
  have hb1 := Lib.hid ((Blk.new w #[.int .i64 0, .int .i64 0, .slice none 0 0] 63 rfl).more x)
  have hM1 := Lib.hid (hh.out.below hB1)
  generalize more (w.alloc (.cells #[.int .i64 0, .int .i64 0, .slice none 0 0] 63)) x = W1 at *
  replace hB1 := Lib.hid hB1
  clear hh AT
  cases hok : okAt L id k with
  | false =>
    have res := Lib.hid (show ∃ k, AtK L id k ∧ okAt L id k = false from ⟨k, hk, hok⟩)
    clear hk hok hM1
    have hbf : Blk (((W1.setCell ⟨w.heap.size, 0, none⟩ (.int .i64 0)).setCell ⟨w.heap.size, 1, none⟩ (.int .i64 0)).setCell ⟨w.heap.size, 2, none⟩ (.slice none 0 0)) w.heap.size #[(.int .i64 0), (.int .i64 0), (.slice none 0 0)] 63 := ((hb1.out.set 0 (.int .i64 0)).set 1 (.int .i64 0)).set 2 (.slice none 0 0)
    have z0 := hbf.cell 0
    have z1 := hbf.cell 1
    have z2 := hbf.cell 2
    have fin := Lib.hid (show Below w.heap.size w (((W1.setCell ⟨w.heap.size, 0, none⟩ (.int .i64 0)).setCell ⟨w.heap.size, 1, none⟩ (.int .i64 0)).setCell ⟨w.heap.size, 2, none⟩ (.slice none 0 0)) from ((hB1.out.setCell (by simp) _).setCell (by simp) _).setCell (by simp) _)
    have f0 := hb1.out.free 0
    have f1 := hb1.out.free 1
    have f2 := hb1.out.free 2
    have d0 := hb1.out.cell 0
    have d1 := hb1.out.cell 1
    have d2 := hb1.out.cell 2
    clear hbf hb1 hB1
    go_wp2
    exact bodyPost_ret (v := .tuple #[.agg #[(.int .i64 0), (.int .i64 0), (.slice none 0 0)], .bool false]) (by simp [results, Try.results69, go_sem, z0, z1, z2]) rfl ⟨_, _, rfl, fin.out, .inl ⟨rfl, rfl, res.out⟩⟩
  | true =>
    obtain ⟨hkl, hid⟩ := okAt_lt hok
    obtain ⟨g, rfl, hg, x0, x1, x2⟩ := hM1.out.at_ hkl
    have c0 : W1.cell? ⟨pr, 0, none⟩ = some (.slice (some ⟨g, 0, none⟩) L.length cap) := hM1.out.box.cell 0
    have hm := Lib.hid (List.getElem_mem hkl)
    have hki : (k : Int) < (L.length : Int) := by omega
    replace hid := Lib.hid hid
    clear hk hok hM1
    generalize L[k] = s at *
    have hbf : Blk (((W1.setCell ⟨w.heap.size, 0, none⟩ (.int .i64 s.id)).setCell ⟨w.heap.size, 1, none⟩ (.int .i64 s.ver)).setCell ⟨w.heap.size, 2, none⟩ (.slice s.A s.vals.length s.cap)) w.heap.size #[(.int .i64 s.id), (.int .i64 s.ver), (.slice s.A s.vals.length s.cap)] 63 := ((hb1.out.set 0 (.int .i64 s.id)).set 1 (.int .i64 s.ver)).set 2 (.slice s.A s.vals.length s.cap)
    have z0 := hbf.cell 0
    have z1 := hbf.cell 1
    have z2 := hbf.cell 2
    have fin := Lib.hid (show Below w.heap.size w (((W1.setCell ⟨w.heap.size, 0, none⟩ (.int .i64 s.id)).setCell ⟨w.heap.size, 1, none⟩ (.int .i64 s.ver)).setCell ⟨w.heap.size, 2, none⟩ (.slice s.A s.vals.length s.cap)) from ((hB1.out.setCell (by simp) _).setCell (by simp) _).setCell (by simp) _)
    have f0 := hb1.out.free 0
    have f1 := hb1.out.free 1
    have f2 := hb1.out.free 2
    have d0 := hb1.out.cell 0
    have d1 := hb1.out.cell 1
    have d2 := hb1.out.cell 2
    clear hbf hb1 hB1
    go_wp2
    exact bodyPost_ret (v := .tuple #[.agg #[(.int .i64 s.id), (.int .i64 s.ver), (.slice s.A s.vals.length s.cap)], .bool true]) (by simp [results, Try.results69, go_sem, z0, z1, z2]) rfl ⟨_, _, rfl, fin.out, .inr ⟨rfl, s, hm.out, hid.out, rfl⟩⟩
set_option maxHeartbeats 2000000 in
theorem ref_setnext_low (id : Int) (v : Value) (hid : id < 1) (h : RM w pr G A cap L mx nx) : Calls Try.prog 67 #[.pointer (some ⟨pr, 0, none⟩), .int .i64 id] w fun e w' => e = .returned (.int .i64 72) ∧ Below w.heap.size w w' := by
  clear h
  go_enter Try.func67, Try.ntmps67
  go_wp2_with fail
  go_region
  go_wp2
  go_ret
  exact ⟨rfl, (by repeat (first | (with_reducible exact Below.refl _ _) | (with_reducible refine Below.drew ?_) | (with_reducible refine Below.alloc ?_ (by simp [more_size]; try omega) _) | (with_reducible refine Below.setCell ?_ (by simp [more_size]; try omega) _) | (with_reducible refine below_more ?_ _ (by simp [more_size]; try omega))))⟩
set_option maxHeartbeats 2000000 in
theorem ref_setnext_high (id : Int) (hid : 4611686018427387904 < id) (h : RM w pr G A cap L mx nx) : Calls Try.prog 67 #[.pointer (some ⟨pr, 0, none⟩), .int .i64 id] w fun e w' => e = .returned (.int .i64 72) ∧ Below w.heap.size w w' := by
  have h1 : (id < 1) = False := eq_false (by omega)
  clear h
  go_enter Try.func67, Try.ntmps67
  go_wp2_with fail
  go_region
  go_wp2
  go_ret
  exact ⟨rfl, (by repeat (first | (with_reducible exact Below.refl _ _) | (with_reducible refine Below.drew ?_) | (with_reducible refine Below.alloc ?_ (by simp [more_size]; try omega) _) | (with_reducible refine Below.setCell ?_ (by simp [more_size]; try omega) _) | (with_reducible refine below_more ?_ _ (by simp [more_size]; try omega))))⟩
set_option maxHeartbeats 2000000 in
theorem ref_setnext_there (id : Int) (h1 : 1 ≤ id) (h2 : id ≤ 4611686018427387904) (h : RM w pr G A cap L mx nx) (hL : L.length ≤ 1000) (h0 : 0 < L.length) (hl : id ≤ L[L.length - 1].id) : Calls Try.prog 67 #[.pointer (some ⟨pr, 0, none⟩), .int .i64 id] w fun e w' => e = .returned (.int .i64 72) ∧ Below w.heap.size w w' := by
  have l1 : (id < 1) = False := eq_false (by omega)
  have l2 : (4611686018427387904 < id) = False := eq_false (by omega)
  have c0 : w.cell? ⟨pr, 0, none⟩ = some (.slice A L.length cap) := h.box.cell 0
  obtain ⟨g, rfl, hg, x0, y1, y2⟩ := h.at_ (i := L.length - 1) (by omega)
  clear y1 y2
  obtain ⟨n, hn⟩ : ∃ n, L.length = n + 1 := ⟨L.length - 1, by omega⟩
  rw [hn] at c0
  generalize L[L.length - 1].id = y at *
  rw [hn, Nat.add_sub_cancel] at x0
  have a0 : (n : Int) < 1000 := by omega
  clear h h0 hn h1 h2 hL
  have a1 : ((n + 1 : Nat) : Int) - 1 = n := by omega
  have a2 : (n : Int) < ((n + 1 : Nat) : Int) := by omega
  have a3 : (0 : Int) < ((n + 1 : Nat) : Int) := by omega
  have hpr := cell_lt c0
  replace c0 := fun y => (more_cell w y 0 hpr).trans c0
  replace x0 := fun y => (more_cell w y (n * 3) hg).trans x0
  go_enter Try.func67, Try.ntmps67
  go_wp2_with fail
  refine wp_region_more (by kernel_rfl) (by kernel_rfl) ?_
  repeat (go_big_quiet_step (fail))
  refine wpQuiet_nil ?_
  rintro _ ⟨y, rfl⟩
  go_wp2
  go_ret
  exact ⟨rfl, (by repeat (first | (with_reducible exact Below.refl _ _) | (with_reducible refine Below.drew ?_) | (with_reducible refine Below.alloc ?_ (by simp [more_size]; try omega) _) | (with_reducible refine Below.setCell ?_ (by simp [more_size]; try omega) _) | (with_reducible refine below_more ?_ _ (by simp [more_size]; try omega))))⟩
set_option maxHeartbeats 2000000 in
theorem ref_setnext_ok (id : Int) (h1 : 1 ≤ id) (h2 : id ≤ 4611686018427387904) (h : RM w pr G A cap L mx nx) (hL : L.length ≤ 1000) (hl : ∀ h0 : 0 < L.length, L[L.length - 1].id < id) : Calls Try.prog 67 #[.pointer (some ⟨pr, 0, none⟩), .int .i64 id] w fun e w' => e = .returned (.int .i64 0) ∧ RM w' pr G A cap L mx id ∧ Chg (fun k => k = pr) w w' := by
  have l1 : (id < 1) = False := eq_false (by omega)
  have l2 : (4611686018427387904 < id) = False := eq_false (by omega)
  have c0 : w.cell? ⟨pr, 0, none⟩ = some (.slice A L.length cap) := h.box.cell 0
  have c2 : w.cell? ⟨pr, 2, none⟩ = some (.int .i64 nx) := h.box.cell 2
  have f2 := h.box.free 2
  have fin := Lib.hid (h.next' id)
  have fin2 := Lib.hid (show RM (w.drew.setCell ⟨pr, 2, none⟩ (.int .i64 id)) pr G A cap L mx id ∧ Chg (fun k => k = pr) w (w.drew.setCell ⟨pr, 2, none⟩ (.int .i64 id)) from by
    have hd : Below w.heap.size w w.drew := Below.drew (Below.refl _ _)
    exact ⟨((h.below hd).next' id).1, (Chg.of_below hd).then ((h.below hd).next' id).2⟩)
  have fin3 := Lib.hid (show ∀ y, RM ((more w y).setCell ⟨pr, 2, none⟩ (.int .i64 id)) pr G A cap L mx id ∧ Chg (fun k => k = pr) w ((more w y).setCell ⟨pr, 2, none⟩ (.int .i64 id)) from fun y => by
    have hd := more_below w y
    exact ⟨((h.below hd).next' id).1, (Chg.of_below hd).then ((h.below hd).next' id).2⟩)
  rcases Nat.eq_zero_or_pos L.length with h0 | h0
  · rw [h0] at c0
    clear h hl h0 h1 h2
    go_enter Try.func67, Try.ntmps67
    go_wp2_with fail
    go_region
    go_wp2
    go_ret
    exact ⟨rfl, fin2.out⟩
  · have hy := hl h0
    obtain ⟨g, rfl, hg, x0, y1, y2⟩ := h.at_ (i := L.length - 1) (by omega)
    clear y1 y2
    obtain ⟨n, hn⟩ : ∃ n, L.length = n + 1 := ⟨L.length - 1, by omega⟩
    rw [hn] at c0
    generalize L[L.length - 1].id = y at *
    have hy' : (id ≤ y) = False := eq_false (by omega)
    rw [hn, Nat.add_sub_cancel] at x0
    have a0 : (n : Int) < 1000 := by omega
    clear h hl h0 hn h1 h2 hy hL
    have a1 : ((n + 1 : Nat) : Int) - 1 = n := by omega
    have a2 : (n : Int) < ((n + 1 : Nat) : Int) := by omega
    have a3 : (0 : Int) < ((n + 1 : Nat) : Int) := by omega
    have hpr := cell_lt c0
    replace c0 := fun y => (more_cell w y 0 hpr).trans c0
    replace c2 := fun y => (more_cell w y 2 hpr).trans c2
    replace f2 := fun y => (more_frozen w y 2 hpr).trans f2
    replace x0 := fun y => (more_cell w y (n * 3) hg).trans x0
    go_enter Try.func67, Try.ntmps67
    go_wp2_with fail
    refine wp_region_more (by kernel_rfl) (by kernel_rfl) ?_
    repeat (go_big_quiet_step (fail))
    refine wpQuiet_nil ?_
    rintro _ ⟨y, rfl⟩
    go_wp2
    go_ret
    exact ⟨rfl, fin3.out _⟩
end Go.Proofs.Ytilpgojkbgbinaa
