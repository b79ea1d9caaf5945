/- Package row: Get. -/
import Derived.Test.YtilpgojkbgbinaaStoL
set_option maxRecDepth 100000
set_option linter.unusedVariables false
set_option linter.unusedSimpArgs false
namespace Go.Proofs.Ytilpgojkbgbinaa
open Go.RowKit
open Go.Maps (has size Keyed int_keyed keyOf_int_mk)
attribute [local go_sem] run_frombits run_tobits more_more more_drew more_drewN more_size more_cell more_frozen run_store_float lt_c1 le_c1 lt_s1 le_s1 lt_c2 le_c2 lt_s2 le_s2 lt_c3 le_c3 lt_s3 le_s3 lt_c4 le_c4 lt_s4 le_s4 lt_c5 le_c5 lt_s5 le_s5 lt_c6 le_c6 lt_s6 le_s6 lt_c7 le_c7 lt_s7 le_s7 lt_c8 le_c8 lt_s8 le_s8 lt_c9 le_c9 lt_s9 le_s9 lt_c10 le_c10 lt_s10 le_s10 lt_c11 le_c11 lt_s11 le_s11 lt_c12 le_c12 lt_s12 le_s12 le_c0
theorem own_lower {w : World} {base base' : Nat} {e : TypeId} {size : Nat} {v : Value} {n : Nat} {xs : List Value} (h : w.ownsRow base e size v n xs) (hb : base' ≤ base) : w.ownsRow base' e size v n xs := by
  obtain ⟨h1, h2⟩ := h
  refine ⟨h1, ?_⟩
  rcases h2 with h2 | ⟨g, cap, cur, h1, h2, h3⟩
  · exact .inl h2
  · exact .inr ⟨g, cap, cur, h1, Nat.le_trans hb h2, h3⟩
/-- a store at p, in blocks F, that holds g: so many rows -/
def StoreAt (w : World) (p : Nat) (F : Nat → Prop) (g : Int → Option Row9) (n : Nat) (mx nx wr : Int) : Prop :=
  ∃ sl cap S M pf a m D, SM w F p sl cap S M pf a m D mx nx wr ∧ Log S m D g n mx nx
section
variable {w w' : World} {F F' G : Nat → Prop} {p : Nat} {g : Int → Option Row9} {n : Nat} {mx nx wr : Int}
theorem StoreAt.beside (h : StoreAt w p F g n mx nx wr) (hc : Chg G w w') (hG : ∀ k, F k → k < w.heap.size → ¬ G k) : StoreAt w' p F g n mx nx wr := by
  obtain ⟨sl, cap, S, M, pf, a, m, D, h1, h2⟩ := h
  exact ⟨sl, cap, S, M, pf, a, m, D, h1.beside hc hG, h2⟩
theorem StoreAt.below (h : StoreAt w p F g n mx nx wr) (hc : Below w.heap.size w w') : StoreAt w' p F g n mx nx wr :=
  h.beside (G := fun _ => False) (Chg.of_below hc) (fun _ _ _ h => h)
theorem StoreAt.Flt (h : StoreAt w p F g n mx nx wr) : ∀ k, F k → k < w.heap.size := by
  obtain ⟨sl, cap, S, M, pf, a, m, D, h1, h2⟩ := h
  exact h1.Flt
theorem StoreAt.hp (h : StoreAt w p F g n mx nx wr) : F p := by
  obtain ⟨sl, cap, S, M, pf, a, m, D, h1, h2⟩ := h
  exact h1.hF p (.inl rfl)
theorem StoreAt.rng (h : StoreAt w p F g n mx nx wr) : ∀ id, g id ≠ none → 1 ≤ id ∧ id < nx := by
  obtain ⟨sl, cap, S, M, pf, a, m, D, h1, h2⟩ := h
  exact h2.rng
theorem StoreAt.le (h : StoreAt w p F g n mx nx wr) : (n : Int) ≤ mx ∧ mx ≤ 200 ∧ 1 ≤ nx := by
  obtain ⟨sl, cap, S, M, pf, a, m, D, h1, h2⟩ := h
  have := h2.le; have := h2.cnt
  exact ⟨by omega, h2.mx2, h2.nx1⟩
set_option maxHeartbeats 1000000 in
theorem get_none (h : StoreAt w p F g n mx nx wr) {id : Int} (hid : (Lit.int .i64 id).wf = true) (hg : g id = none) :
    Calls Try.prog 55 #[.pointer (some ⟨p, 0, none⟩), .int .i64 id] w fun e w' => e = .returned (.tuple #[.agg #[.int .i64 0, .int .i64 0, .slice none 0 0], .bool false]) ∧ Below w.heap.size w w' := by
  obtain ⟨sl, cap, S, M, pf, a, m, D, h1, h2⟩ := h
  have hno := h2.off id hg
  have c1 : w.cell? ⟨p, 1, none⟩ = some (.map (some M)) := h1.box.cell 1
  have own := Lib.hid (fun o => h1.mp.alloc o)
  have hp := h1.box.lt
  clear h1 h2
  go_enter Try.func55, Try.ntmps55
  go_wp2_with (first | (at_lookup; refine wpList_lookup_own_ok_int _ rfl _ _ 136 rfl 2 3 .i64 keyI Try.underlying136 Try.underlying3 (zeroI _) M (size D) D rfl (own.out _) _ (idL id) rfl (keyOf_int_mk Try.underlying2 hid) ?_; intro c hat hwc; rw [hno]) | fail)
  exact bodyPost_ret (v := .tuple #[.agg #[.int .i64 0, .int .i64 0, .slice none 0 0], .bool false]) (by simp [results, Try.results55, go_sem]) rfl ⟨rfl, (by repeat (first | (with_reducible exact Below.refl _ _) | (with_reducible refine Below.drew ?_) | (with_reducible refine Below.alloc ?_ (by simp [more_size]; try omega) _) | (with_reducible refine Below.setCell ?_ (by simp [more_size]; try omega) _) | (with_reducible refine below_more ?_ _ (by simp [more_size]; try omega))))⟩
set_option maxHeartbeats 2000000 in
theorem get_some (h : StoreAt w p F g n mx nx wr) {id : Int} (hid : (Lit.int .i64 id).wf = true) {r : Row9} (hg : g id = some r) :
    Calls Try.prog 55 #[.pointer (some ⟨p, 0, none⟩), .int .i64 id] w fun e w' => ∃ v, e = .returned (.tuple #[.agg #[.int .i64 id, .int .i64 r.1, v], .bool true]) ∧ w'.ownsRow w.heap.size 103 4 v r.2.length (cellsOf r.2) ∧ Below w.heap.size w w' := by
  obtain ⟨sl, cap, S, M, pf, a, m, D, h1, h2⟩ := h
  obtain ⟨hyes, i, s, hi, hs, e1, e2, e3, _⟩ := h2.on id r hg
  obtain ⟨hiS, hs2⟩ := List.getElem?_eq_some_iff.1 hs
  have sv := h1.vals s (List.mem_of_getElem? hs)
  obtain ⟨q, rfl, hq, hqf, k0, k1, k2⟩ := h1.slots hiS
  rw [hs2] at k0 k1 k2
  rw [e1] at k0
  rw [e2] at k1
  rw [e3] at k2
  have svn := sv.nil
  have svl := sv.len
  have svv := sv.vals
  rw [e3] at svn svl svv
  have CP := Lib.hid (fun W (hB : Below w.heap.size w W) => scopy_any s.A s.cap r.2 W (by omega) svn (svv.below hB))
  have hi' : (i : Int) < (S.length : Int) := by omega
  have c0 : w.cell? ⟨p, 0, none⟩ = some (.slice (some ⟨q, 0, none⟩) S.length cap) := h1.box.cell 0
  have c1 : w.cell? ⟨p, 1, none⟩ = some (.map (some M)) := h1.box.cell 1
  have own := Lib.hid (fun o => h1.mp.alloc o)
  have hp := h1.box.lt
  generalize s.A = sA at *
  generalize s.cap = sc at *
  generalize r.1 = rv at *
  generalize r.2 = rl at *
  clear h1 h2 sv svn svl svv hs2 hs e1 e2 e3 hqf
  replace hi := Lib.hid hi
  go_enter Try.func55, Try.ntmps55
  go_wp2_with (first | (at_lookup; refine wpList_lookup_own_ok_int _ rfl _ _ 136 rfl 2 3 .i64 keyI Try.underlying136 Try.underlying3 (zeroI _) M (size D) D rfl (own.out _) _ (idL id) rfl (keyOf_int_mk Try.underlying2 hid) ?_; intro c hat hwc; rw [hyes]; obtain rfl : c = (i : Int) := by (have e := hat.symm.trans hi.out; injection e with e; injection e)) | fail)
  refine (CP.out _ (by repeat (first | (with_reducible exact Below.refl _ _) | (with_reducible refine Below.drew ?_) | (with_reducible refine Below.alloc ?_ (by simp [more_size]; try omega) _) | (with_reducible refine Below.setCell ?_ (by simp [more_size]; try omega) _) | (with_reducible refine below_more ?_ _ (by simp [more_size]; try omega))))).mono ?_
  rintro e w1 ⟨v, rfl, ow, bel⟩
  obtain ⟨A', ca', rfl, q1, q2, q3, q4⟩ := own_vals ow
  have hb0 : Blk w1 w.heap.size #[.int .i64 0, .int .i64 0, .slice none 0 0] 63 := ((Blk.new w _ _ rfl).alloc _).below bel (by simp; omega)
  have hb1 : Blk w1 (w.heap.size + 1) #[.int .i64 id, .int .i64 rv, .slice sA rl.length sc] 63 := (Blk.new (w.alloc _) _ _ (by simp)).below bel (by simp)
  have hbw : Below w.heap.size w w1 := (show Below w.heap.size w ((w.alloc (.cells #[.int .i64 0, .int .i64 0, .slice none 0 0] 63)).alloc (.cells #[.int .i64 id, .int .i64 rv, .slice sA rl.length sc] 63)) from (by repeat (first | (with_reducible exact Below.refl _ _) | (with_reducible refine Below.drew ?_) | (with_reducible refine Below.alloc ?_ (by simp [more_size]; try omega) _) | (with_reducible refine Below.setCell ?_ (by simp [more_size]; try omega) _) | (with_reducible refine below_more ?_ _ (by simp [more_size]; try omega))))).trans (bel.mono (by simp; omega))
  have f00 := hb0.free 0
  have f01 := hb0.free 1
  have f02 := hb0.free 2
  have f12 := hb1.free 2
  have c00 := hb0.cell 0
  have c01 := hb0.cell 1
  have c02 := hb0.cell 2
  have c10 := hb1.cell 0
  have c11 := hb1.cell 1
  have c12 := hb1.cell 2
  have ow2 : w1.ownsRow (w.heap.size + 2) 103 4 (.slice A' rl.length ca') rl.length (cellsOf rl) := by simpa using ow
  have hbf : Blk ((((w1.setCell ⟨w.heap.size + 1, 2, none⟩ (.slice A' rl.length ca')).setCell ⟨w.heap.size, 0, none⟩ (.int .i64 id)).setCell ⟨w.heap.size, 1, none⟩ (.int .i64 rv)).setCell ⟨w.heap.size, 2, none⟩ (.slice A' rl.length ca')) w.heap.size #[.int .i64 id, .int .i64 rv, .slice A' rl.length ca'] 63 := (((hb0.set_other (a := ⟨w.heap.size + 1, 2, none⟩) (by simp) (.slice A' rl.length ca')).set 0 (.int .i64 id)).set 1 (.int .i64 rv)).set 2 (.slice A' rl.length ca')
  have z0 := hbf.cell 0
  have z1 := hbf.cell 1
  have z2 := hbf.cell 2
  have fin : ((((w1.setCell ⟨w.heap.size + 1, 2, none⟩ (.slice A' rl.length ca')).setCell ⟨w.heap.size, 0, none⟩ (.int .i64 id)).setCell ⟨w.heap.size, 1, none⟩ (.int .i64 rv)).setCell ⟨w.heap.size, 2, none⟩ (.slice A' rl.length ca')).ownsRow w.heap.size 103 4 (.slice A' rl.length ca') rl.length (cellsOf rl) ∧ Below w.heap.size w ((((w1.setCell ⟨w.heap.size + 1, 2, none⟩ (.slice A' rl.length ca')).setCell ⟨w.heap.size, 0, none⟩ (.int .i64 id)).setCell ⟨w.heap.size, 1, none⟩ (.int .i64 rv)).setCell ⟨w.heap.size, 2, none⟩ (.slice A' rl.length ca')) := by
    refine ⟨own_lower (own_same ow2 (fun k e => ?_)) (by omega), (((hbw.setCell (by simp) _).setCell (by simp) _).setCell (by simp) _).setCell (by simp) _⟩
    have := own_ge ow2 k e
    exact (Below.heap_setCell _ _ _ k (by simp only; omega)).trans ((Below.heap_setCell _ _ _ k (by simp only; omega)).trans ((Below.heap_setCell _ _ _ k (by simp only; omega)).trans (Below.heap_setCell _ _ _ k (by simp only; omega))))
  replace fin := Lib.hid fin
  clear ow ow2 hbw bel q4 hb0 hb1 hbf
  go_wp2
  exact bodyPost_ret (v := .tuple #[.agg #[.int .i64 id, .int .i64 rv, .slice A' rl.length ca'], .bool true]) (by simp [results, Try.results55, go_sem, z0, z1, z2]) rfl ⟨_, rfl, fin.out⟩
end
end Go.Proofs.Ytilpgojkbgbinaa
