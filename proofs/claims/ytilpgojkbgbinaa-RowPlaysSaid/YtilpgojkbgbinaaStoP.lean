/- Package row: Put, over what a store holds. -/
import Derived.Test.YtilpgojkbgbinaaStoE
set_option maxRecDepth 100000
set_option linter.unusedVariables false
set_option linter.unusedSimpArgs false
namespace Go.Proofs.Ytilpgojkbgbinaa
open Go.RowKit
open Go.Maps (has size Keyed int_keyed keyOf_int_mk)
attribute [local go_sem] run_frombits run_tobits more_more more_drew more_drewN more_size more_cell more_frozen run_store_float lt_c1 le_c1 lt_s1 le_s1 lt_c2 le_c2 lt_s2 le_s2 lt_c3 le_c3 lt_s3 le_s3 lt_c4 le_c4 lt_s4 le_s4 lt_c5 le_c5 lt_s5 le_s5 lt_c6 le_c6 lt_s6 le_s6 lt_c7 le_c7 lt_s7 le_s7 lt_c8 le_c8 lt_s8 le_s8 lt_c9 le_c9 lt_s9 le_s9 lt_c10 le_c10 lt_s10 le_s10 lt_c11 le_c11 lt_s11 le_s11 lt_c12 le_c12 lt_s12 le_s12 le_c0
section
variable {w w' : World} {F F' G : Nat → Prop} {p : Nat} {g : Int → Option Row9} {n : Nat} {mx nx wr : Int}
set_option maxHeartbeats 1000000 in
theorem put_there (h : StoreAt w p F g n mx nx wr) {id ver : Int} (hid : (Lit.int .i64 id).wf = true) (A : Option Addr) (ca : Nat) (l : List Val) (hg : g id ≠ none) :
    Calls Try.prog 38 #[.pointer (some ⟨p, 0, none⟩), .agg #[.int .i64 id, .int .i64 ver, .slice A l.length ca]] w fun e w' => e = .returned (.int .i64 72) ∧ Below w.heap.size w w' := by
  obtain ⟨sl, cap, S, M, pf, a, m, D, h1, h2⟩ := h
  have hyes : has D (idL id) = true := by
    cases hc : g id with
    | none => exact absurd hc hg
    | some r => exact (h2.on id r hc).1
  have h0 := Lib.hid h1
  clear h1 h2
  go_enter Try.func38, Try.ntmps38
  go_wp2_with fail
  refine wp_named9 (R := fun W1 => SM W1 F p sl cap S M pf a m D mx nx wr ∧ Blk W1 w.heap.size #[.int .i64 id, .int .i64 ver, .slice A l.length ca] 63 ∧ Below w.heap.size w W1) ⟨h0.out.below (by repeat (first | (with_reducible exact Below.refl _ _) | (with_reducible refine Below.drew ?_) | (with_reducible refine Below.alloc ?_ (by simp [more_size]; try omega) _) | (with_reducible refine Below.setCell ?_ (by simp [more_size]; try omega) _) | (with_reducible refine below_more ?_ _ (by simp [more_size]; try omega)))), Blk.new _ _ _ rfl, (by repeat (first | (with_reducible exact Below.refl _ _) | (with_reducible refine Below.drew ?_) | (with_reducible refine Below.alloc ?_ (by simp [more_size]; try omega) _) | (with_reducible refine Below.setCell ?_ (by simp [more_size]; try omega) _) | (with_reducible refine below_more ?_ _ (by simp [more_size]; try omega))))⟩ ?_
  rintro W1 ⟨hS, hb, hB⟩
  have c1 : W1.cell? ⟨p, 1, none⟩ = some (.map (some M)) := hS.box.cell 1
  have c4 : W1.cell? ⟨p, 4, none⟩ = some (.int .i64 nx) := hS.box.cell 4
  have b0 : W1.cell? ⟨w.heap.size, 0, none⟩ = some (.int .i64 id) := hb.cell 0
  have b1 : W1.cell? ⟨w.heap.size, 1, none⟩ = some (.int .i64 ver) := hb.cell 1
  have b2 : W1.cell? ⟨w.heap.size, 2, none⟩ = some (.slice A l.length ca) := hb.cell 2
  obtain ⟨v, ps, hrun, hv⟩ := (hS.mp.drew).look_ok keyI Try.underlying136 (zeroI _) (plainElem_int Try.underlying3 (by decide)) (keyOf_int_mk Try.underlying2 hid)
  obtain ⟨c, rfl, _, _⟩ := plainElem_int_inv Try.underlying3 hv
  rw [hyes] at hrun
  clear hS
  replace hB := Lib.hid hB
  clear hv hb h0
  go_region
  go_wp2_with fail
  go_region
  go_wp2
  go_ret
  exact ⟨rfl, by repeat (first | exact hB.out | refine Below.drew ?_)⟩
set_option maxHeartbeats 1000000 in
theorem put_low (h : StoreAt w p F g n mx nx wr) {id ver : Int} (hid : (Lit.int .i64 id).wf = true) (A : Option Addr) (ca : Nat) (l : List Val) (hg : g id = none) (hlow : id < 1) :
    Calls Try.prog 38 #[.pointer (some ⟨p, 0, none⟩), .agg #[.int .i64 id, .int .i64 ver, .slice A l.length ca]] w fun e w' => e = .returned (.int .i64 72) ∧ Below w.heap.size w w' := by
  obtain ⟨sl, cap, S, M, pf, a, m, D, h1, h2⟩ := h
  have hno := h2.off id hg
  have h0 := Lib.hid h1
  clear h1 h2
  go_enter Try.func38, Try.ntmps38
  go_wp2_with fail
  refine wp_named9 (R := fun W1 => SM W1 F p sl cap S M pf a m D mx nx wr ∧ Blk W1 w.heap.size #[.int .i64 id, .int .i64 ver, .slice A l.length ca] 63 ∧ Below w.heap.size w W1) ⟨h0.out.below (by repeat (first | (with_reducible exact Below.refl _ _) | (with_reducible refine Below.drew ?_) | (with_reducible refine Below.alloc ?_ (by simp [more_size]; try omega) _) | (with_reducible refine Below.setCell ?_ (by simp [more_size]; try omega) _) | (with_reducible refine below_more ?_ _ (by simp [more_size]; try omega)))), Blk.new _ _ _ rfl, (by repeat (first | (with_reducible exact Below.refl _ _) | (with_reducible refine Below.drew ?_) | (with_reducible refine Below.alloc ?_ (by simp [more_size]; try omega) _) | (with_reducible refine Below.setCell ?_ (by simp [more_size]; try omega) _) | (with_reducible refine below_more ?_ _ (by simp [more_size]; try omega))))⟩ ?_
  rintro W1 ⟨hS, hb, hB⟩
  have c1 : W1.cell? ⟨p, 1, none⟩ = some (.map (some M)) := hS.box.cell 1
  have c4 : W1.cell? ⟨p, 4, none⟩ = some (.int .i64 nx) := hS.box.cell 4
  have b0 : W1.cell? ⟨w.heap.size, 0, none⟩ = some (.int .i64 id) := hb.cell 0
  have b1 : W1.cell? ⟨w.heap.size, 1, none⟩ = some (.int .i64 ver) := hb.cell 1
  have b2 : W1.cell? ⟨w.heap.size, 2, none⟩ = some (.slice A l.length ca) := hb.cell 2
  obtain ⟨v, ps, hrun, hv⟩ := (hS.mp.drew).look_ok keyI Try.underlying136 (zeroI _) (plainElem_int Try.underlying3 (by decide)) (keyOf_int_mk Try.underlying2 hid)
  obtain ⟨c, rfl, _, _⟩ := plainElem_int_inv Try.underlying3 hv
  rw [hno] at hrun
  clear hS
  replace hB := Lib.hid hB
  clear hv hb h0
  go_region
  go_wp2_with fail
  go_region
  go_wp2
  go_ret
  exact ⟨rfl, by repeat (first | exact hB.out | refine Below.drew ?_)⟩
set_option maxHeartbeats 1000000 in
theorem put_high (h : StoreAt w p F g n mx nx wr) {id ver : Int} (hid : (Lit.int .i64 id).wf = true) (A : Option Addr) (ca : Nat) (l : List Val) (hg : g id = none) (hlow : 1 ≤ id) (hhigh : nx ≤ id) :
    Calls Try.prog 38 #[.pointer (some ⟨p, 0, none⟩), .agg #[.int .i64 id, .int .i64 ver, .slice A l.length ca]] w fun e w' => e = .returned (.int .i64 72) ∧ Below w.heap.size w w' := by
  obtain ⟨sl, cap, S, M, pf, a, m, D, h1, h2⟩ := h
  have hno := h2.off id hg
  have h0 := Lib.hid h1
  clear h1 h2
  go_enter Try.func38, Try.ntmps38
  go_wp2_with fail
  refine wp_named9 (R := fun W1 => SM W1 F p sl cap S M pf a m D mx nx wr ∧ Blk W1 w.heap.size #[.int .i64 id, .int .i64 ver, .slice A l.length ca] 63 ∧ Below w.heap.size w W1) ⟨h0.out.below (by repeat (first | (with_reducible exact Below.refl _ _) | (with_reducible refine Below.drew ?_) | (with_reducible refine Below.alloc ?_ (by simp [more_size]; try omega) _) | (with_reducible refine Below.setCell ?_ (by simp [more_size]; try omega) _) | (with_reducible refine below_more ?_ _ (by simp [more_size]; try omega)))), Blk.new _ _ _ rfl, (by repeat (first | (with_reducible exact Below.refl _ _) | (with_reducible refine Below.drew ?_) | (with_reducible refine Below.alloc ?_ (by simp [more_size]; try omega) _) | (with_reducible refine Below.setCell ?_ (by simp [more_size]; try omega) _) | (with_reducible refine below_more ?_ _ (by simp [more_size]; try omega))))⟩ ?_
  rintro W1 ⟨hS, hb, hB⟩
  have c1 : W1.cell? ⟨p, 1, none⟩ = some (.map (some M)) := hS.box.cell 1
  have c4 : W1.cell? ⟨p, 4, none⟩ = some (.int .i64 nx) := hS.box.cell 4
  have b0 : W1.cell? ⟨w.heap.size, 0, none⟩ = some (.int .i64 id) := hb.cell 0
  have b1 : W1.cell? ⟨w.heap.size, 1, none⟩ = some (.int .i64 ver) := hb.cell 1
  have b2 : W1.cell? ⟨w.heap.size, 2, none⟩ = some (.slice A l.length ca) := hb.cell 2
  obtain ⟨v, ps, hrun, hv⟩ := (hS.mp.drew).look_ok keyI Try.underlying136 (zeroI _) (plainElem_int Try.underlying3 (by decide)) (keyOf_int_mk Try.underlying2 hid)
  obtain ⟨c, rfl, _, _⟩ := plainElem_int_inv Try.underlying3 hv
  rw [hno] at hrun
  have hlow' : (id < 1) = False := eq_false (by omega)
  clear hS
  replace hB := Lib.hid hB
  clear hv hb h0
  go_region
  go_wp2_with fail
  go_region
  go_wp2
  go_ret
  exact ⟨rfl, by repeat (first | exact hB.out | refine Below.drew ?_)⟩
set_option maxHeartbeats 1000000 in
theorem put_full (h : StoreAt w p F g n mx nx wr) {id ver : Int} (hid : (Lit.int .i64 id).wf = true) (A : Option Addr) (ca : Nat) (l : List Val) (hl : l.length ≤ 1000) (hA : A = none → ca = 0 ∧ l.length = 0) (ha : ValsIn w A l) (hAF : ∀ x, A = some x → ¬ F x.block) (hg : g id = none) (hlow : 1 ≤ id) (hhigh : id < nx) (hn : mx ≤ (n : Int)) :
    Calls Try.prog 38 #[.pointer (some ⟨p, 0, none⟩), .agg #[.int .i64 id, .int .i64 ver, .slice A l.length ca]] w fun e w' => e = .returned (.int .i64 70) ∧ Below w.heap.size w w' := by
  have AD := Lib.hid (fun W (hW : StoreAt W p F g n mx nx wr) (hvW : ValsIn W A l) => adds_no (ver := ver) hW A ca l hid hl hA hvW hAF hn)
  obtain ⟨sl, cap, S, M, pf, a, m, D, h1, h2⟩ := h
  have hno := h2.off id hg
  have hL := Lib.hid h2
  have h0 := Lib.hid h1
  clear h1 h2
  go_enter Try.func38, Try.ntmps38
  go_wp2_with fail
  refine wp_named9 (R := fun W1 => SM W1 F p sl cap S M pf a m D mx nx wr ∧ Blk W1 w.heap.size #[.int .i64 id, .int .i64 ver, .slice A l.length ca] 63 ∧ Below w.heap.size w W1) ⟨h0.out.below (by repeat (first | (with_reducible exact Below.refl _ _) | (with_reducible refine Below.drew ?_) | (with_reducible refine Below.alloc ?_ (by simp [more_size]; try omega) _) | (with_reducible refine Below.setCell ?_ (by simp [more_size]; try omega) _) | (with_reducible refine below_more ?_ _ (by simp [more_size]; try omega)))), Blk.new _ _ _ rfl, (by repeat (first | (with_reducible exact Below.refl _ _) | (with_reducible refine Below.drew ?_) | (with_reducible refine Below.alloc ?_ (by simp [more_size]; try omega) _) | (with_reducible refine Below.setCell ?_ (by simp [more_size]; try omega) _) | (with_reducible refine below_more ?_ _ (by simp [more_size]; try omega))))⟩ ?_
  rintro W1 ⟨hS, hb, hB⟩
  have c1 : W1.cell? ⟨p, 1, none⟩ = some (.map (some M)) := hS.box.cell 1
  have c4 : W1.cell? ⟨p, 4, none⟩ = some (.int .i64 nx) := hS.box.cell 4
  have b0 : W1.cell? ⟨w.heap.size, 0, none⟩ = some (.int .i64 id) := hb.cell 0
  have b1 : W1.cell? ⟨w.heap.size, 1, none⟩ = some (.int .i64 ver) := hb.cell 1
  have b2 : W1.cell? ⟨w.heap.size, 2, none⟩ = some (.slice A l.length ca) := hb.cell 2
  obtain ⟨v, ps, hrun, hv⟩ := (hS.mp.drew).look_ok keyI Try.underlying136 (zeroI _) (plainElem_int Try.underlying3 (by decide)) (keyOf_int_mk Try.underlying2 hid)
  obtain ⟨c, rfl, _, _⟩ := plainElem_int_inv Try.underlying3 hv
  rw [hno] at hrun
  have hlow' : (id < 1) = False := eq_false (by omega)
  have hhigh' : (nx ≤ id) = False := eq_false (by omega)
  have ST := Lib.hid (show ∀ W, Below W1.heap.size W1 W → StoreAt W p F g n mx nx wr ∧ ValsIn W A l ∧ Below w.heap.size w W from fun W q => ⟨⟨_, _, _, _, _, _, _, _, hS.below q, hL.out⟩, (ha.below hB).below q, hB.trans (q.mono hB.size)⟩)
  clear hS
  replace hB := Lib.hid hB
  clear hv hb h0
  clear hn
  go_region
  go_wp2_with fail
  go_region
  go_wp2_with fail
  obtain ⟨z1, z2, z3⟩ := ST.out W1.drew.drew (Below.drew (Below.drew (Below.refl _ _)))
  replace hB := Lib.hid z3
  refine (AD.out _ z1 z2).mono ?_
  rintro e w' ⟨rfl, hBB⟩
  replace hBB := Lib.hid (hB.out.trans (hBB.mono hB.out.size))
  clear AD ST z1 z2 z3
  go_wp2
  go_ret
  exact ⟨rfl, hBB.out⟩
set_option maxHeartbeats 1000000 in
theorem put_ok (h : StoreAt w p F g n mx nx wr) {id ver : Int} (hid : (Lit.int .i64 id).wf = true) (A : Option Addr) (ca : Nat) (l : List Val) (hl : l.length ≤ 1000) (hA : A = none → ca = 0 ∧ l.length = 0) (ha : ValsIn w A l) (hAF : ∀ x, A = some x → ¬ F x.block) (hg : g id = none) (hlow : 1 ≤ id) (hhigh : id < nx) (hw : -9223372036854775808 ≤ wr + 1 ∧ wr + 1 < 9223372036854775808) (hn : (n : Int) < mx) :
    Calls Try.prog 38 #[.pointer (some ⟨p, 0, none⟩), .agg #[.int .i64 id, .int .i64 ver, .slice A l.length ca]] w fun e w' => e = .returned (.int .i64 0) ∧ ∃ F', StoreAt w' p F' (upd g id (some (ver, l))) (n + 1) mx nx (wr + 1) ∧ Chg F w w' ∧ Grew w F F' := by
  have AD := Lib.hid (fun W (hW : StoreAt W p F g n mx nx wr) (hvW : ValsIn W A l) => adds_ok (ver := ver) hW A ca l hid hl hA hvW hAF hw hn hg (nx' := nx) ⟨hlow, hhigh⟩ (Int.le_refl _))
  obtain ⟨sl, cap, S, M, pf, a, m, D, h1, h2⟩ := h
  have hno := h2.off id hg
  have hL := Lib.hid h2
  have h0 := Lib.hid h1
  clear h1 h2
  go_enter Try.func38, Try.ntmps38
  go_wp2_with fail
  refine wp_named9 (R := fun W1 => SM W1 F p sl cap S M pf a m D mx nx wr ∧ Blk W1 w.heap.size #[.int .i64 id, .int .i64 ver, .slice A l.length ca] 63 ∧ Below w.heap.size w W1) ⟨h0.out.below (by repeat (first | (with_reducible exact Below.refl _ _) | (with_reducible refine Below.drew ?_) | (with_reducible refine Below.alloc ?_ (by simp [more_size]; try omega) _) | (with_reducible refine Below.setCell ?_ (by simp [more_size]; try omega) _) | (with_reducible refine below_more ?_ _ (by simp [more_size]; try omega)))), Blk.new _ _ _ rfl, (by repeat (first | (with_reducible exact Below.refl _ _) | (with_reducible refine Below.drew ?_) | (with_reducible refine Below.alloc ?_ (by simp [more_size]; try omega) _) | (with_reducible refine Below.setCell ?_ (by simp [more_size]; try omega) _) | (with_reducible refine below_more ?_ _ (by simp [more_size]; try omega))))⟩ ?_
  rintro W1 ⟨hS, hb, hB⟩
  have c1 : W1.cell? ⟨p, 1, none⟩ = some (.map (some M)) := hS.box.cell 1
  have c4 : W1.cell? ⟨p, 4, none⟩ = some (.int .i64 nx) := hS.box.cell 4
  have b0 : W1.cell? ⟨w.heap.size, 0, none⟩ = some (.int .i64 id) := hb.cell 0
  have b1 : W1.cell? ⟨w.heap.size, 1, none⟩ = some (.int .i64 ver) := hb.cell 1
  have b2 : W1.cell? ⟨w.heap.size, 2, none⟩ = some (.slice A l.length ca) := hb.cell 2
  obtain ⟨v, ps, hrun, hv⟩ := (hS.mp.drew).look_ok keyI Try.underlying136 (zeroI _) (plainElem_int Try.underlying3 (by decide)) (keyOf_int_mk Try.underlying2 hid)
  obtain ⟨c, rfl, _, _⟩ := plainElem_int_inv Try.underlying3 hv
  rw [hno] at hrun
  have hlow' : (id < 1) = False := eq_false (by omega)
  have hhigh' : (nx ≤ id) = False := eq_false (by omega)
  have ST := Lib.hid (show ∀ W, Below W1.heap.size W1 W → StoreAt W p F g n mx nx wr ∧ ValsIn W A l ∧ Below w.heap.size w W from fun W q => ⟨⟨_, _, _, _, _, _, _, _, hS.below q, hL.out⟩, (ha.below hB).below q, hB.trans (q.mono hB.size)⟩)
  clear hS
  replace hB := Lib.hid hB
  clear hv hb h0
  clear hn
  go_region
  go_wp2_with fail
  go_region
  go_wp2_with fail
  obtain ⟨z1, z2, z3⟩ := ST.out W1.drew.drew (Below.drew (Below.drew (Below.refl _ _)))
  replace hB := Lib.hid z3
  refine (AD.out _ z1 z2).mono ?_
  rintro e w' ⟨rfl, F1, k1, k2, k3⟩
  have k4 := Lib.hid (show StoreAt w' p F1 (upd g id (some (ver, l))) (n + 1) mx nx (wr + 1) ∧ Chg F w w' ∧ Grew w F F1 from ⟨k1, (Chg.of_below hB.out).then k2, ⟨k3.1, fun k hk => (k3.2 k hk).imp (fun h => h) (fun q => Nat.le_trans hB.out.size q)⟩⟩)
  clear k1 k2 k3
  clear AD ST z1 z2 z3
  go_wp2
  go_ret
  exact ⟨rfl, _, k4.out⟩
end
end Go.Proofs.Ytilpgojkbgbinaa

