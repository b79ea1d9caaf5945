/- Package row: SetNext, over what a store holds. -/
import Derived.Test.YtilpgojkbgbinaaStoP
import Derived.Maps.RangeWalk
set_option maxRecDepth 100000
set_option linter.unusedVariables false
set_option linter.unusedSimpArgs false
namespace Go.Proofs.Ytilpgojkbgbinaa
open Go.RowKit
open Go.Maps (has size Keyed int_keyed keyOf_int_mk)
attribute [local go_sem] run_frombits run_tobits more_more more_drew more_drewN more_size more_cell more_frozen run_store_float lt_c1 le_c1 lt_s1 le_s1 lt_c2 le_c2 lt_s2 le_s2 lt_c3 le_c3 lt_s3 le_s3 lt_c4 le_c4 lt_s4 le_s4 lt_c5 le_c5 lt_s5 le_s5 lt_c6 le_c6 lt_s6 le_s6 lt_c7 le_c7 lt_s7 le_s7 lt_c8 le_c8 lt_s8 le_s8 lt_c9 le_c9 lt_s9 le_s9 lt_c10 le_c10 lt_s10 le_s10 lt_c11 le_c11 lt_s11 le_s11 lt_c12 le_c12 lt_s12 le_s12 le_c0
section
variable {w w' : World} {F F' G : Nat → Prop} {p : Nat} {g : Int → Option Row9} {n : Nat} {mx nx wr : Int}
theorem setnext_low (id : Int) (h : id < 1) : Calls Try.prog 58 #[.pointer (some ⟨p, 0, none⟩), .int .i64 id] w fun e w' => e = .returned (.int .i64 72) ∧ w = w' := by
  go_enter Try.func58, Try.ntmps58
  go_wp2
  go_ret
  exact ⟨rfl, rfl⟩
theorem setnext_high (id : Int) (h : 4611686018427387904 < id) : Calls Try.prog 58 #[.pointer (some ⟨p, 0, none⟩), .int .i64 id] w fun e w' => e = .returned (.int .i64 72) ∧ w = w' := by
  have h1 : (id < 1) = False := eq_false (by omega)
  go_enter Try.func58, Try.ntmps58
  go_wp2
  go_ret
  exact ⟨rfl, rfl⟩
set_option maxHeartbeats 2000000 in
theorem setnext_there (h : StoreAt w p F g n mx nx wr) {id x0 : Int} (h1 : 1 ≤ id) (h2 : id ≤ 4611686018427387904) (hx : g x0 ≠ none) (hle : id ≤ x0) :
    Calls Try.prog 58 #[.pointer (some ⟨p, 0, none⟩), .int .i64 id] w fun e w' => e = .returned (.int .i64 72) ∧ Below w.heap.size w w' := by
  obtain ⟨sl, cap, S, M, pf, a, m, D, hS, hL⟩ := h
  have hyes : has D (idL x0) = true := by
    cases hc : g x0 with
    | none => exact absurd hc hx
    | some r => exact (hL.on x0 r hc).1
  have c1 : w.cell? ⟨p, 1, none⟩ = some (.map (some M)) := hS.box.cell 1
  have own := Lib.hid hS.mp
  have l1 : (id < 1) = False := eq_false (by omega)
  have l2 : (4611686018427387904 < id) = False := eq_false (by omega)
  replace h1 := Lib.hid h1
  replace h2 := Lib.hid h2
  replace hle := Lib.hid hle
  replace hyes := Lib.hid hyes
  clear hS hL hx
  go_enter Try.func58, Try.ntmps58
  go_wp2_with (first
    | (at_range; refine wpList_range_own _ rfl _ 136 rfl 2 3 keyI Try.underlying136 _ M (size D) _ rfl own.out ?_; intro w0 hrg0 hg0 hs0)
    | fail)
  go_frame
  have hB0 : Below w.heap.size w w0 := ⟨hg0.os, hg0.tape, hg0.output, hg0.size, fun k hk => hg0.block k hk (by simp)⟩
  go_loopw [5] (fun _ wr => ∃ (left : Lit → Bool) (cnt : Nat), wr.ranges Try.prog 2 (plainElem (H := Unit) Try.prog 3) M w.heap.size (size D) D left cnt ∧ Hid (Below w.heap.size w wr) ∧ Hid (∀ x, has D (idL x) = true → left (idL x) = false → x < id)) (fun _ wr => wr.rangeLeft M w.heap.size)
  case atStart => exact ⟨_, _, hrg0, Lib.hid hB0, Lib.hid (fun x e1 e2 => by rw [e1] at e2; cases e2)⟩
  case round =>
    obtain ⟨left, cnt, hrg, hB, hdone⟩ := hrel
    go_wp2_with (first
      | (at_next; refine wpList_next_ranges_ii _ rfl _ rfl 2 3 .i64 .i64 keyI Try.underlying2 Try.underlying3 M w.heap.size (size D) _ _ _ rfl hrg ?_ ?_)
      | fail)
    · intro _ hl0
      have := hdone.out x0 hyes.out (hl0 _)
      have := hle.out
      omega
    · intro x c w1 cnt1 hwx hwc hlx hat hrg1 hlt hg1 hs1 hen
      have hB1 := Lib.hid (hB.out.trans (show Below w.heap.size wr w1 from ⟨hg1.os, hg1.tape, hg1.output, hg1.size, fun k hk => hg1.block k (Nat.lt_of_lt_of_le hk hB.out.size) (fun e => by injection e with e; omega)⟩))
      by_cases hxi : id ≤ x
      · have hxi' : (x < id) = False := eq_false (by omega)
        go_wp2
        go_ret
        exact ⟨rfl, hB1.out⟩
      · have hxi' : (id ≤ x) = False := eq_false hxi
        have hd1 := Lib.hid (show ∀ y, has D (idL y) = true → (left (idL y) && !(idL y).sameKey (.int .i64 x)) = false → y < id from fun y e1 e2 => by
          by_cases hy : y = x
          · omega
          · rw [Maps.sameKey_ne (idL_ne hy)] at e2
            simp at e2
            exact hdone.out y e1 e2)
        go_wp2
        go_roundw
        case rel => exact ⟨_, cnt1, hrg1, hB1, hd1⟩
        case measure => rw [hrg1.left_eq, hrg.left_eq]; exact hlt
set_option maxHeartbeats 2000000 in
theorem setnext_ok (h : StoreAt w p F g n mx nx wr) {id : Int} (h1 : 1 ≤ id) (h2 : id ≤ 4611686018427387904) (hx : ∀ x, g x ≠ none → x < id) :
    Calls Try.prog 58 #[.pointer (some ⟨p, 0, none⟩), .int .i64 id] w fun e w' => e = .returned (.int .i64 0) ∧ StoreAt w' p F g n mx id wr ∧ Chg F w w' := by
  obtain ⟨sl, cap, S, M, pf, a, m, D, hS, hL⟩ := h
  have hlow : ∀ x, has D (idL x) = true → x < id := fun x e => by
    cases hc : g x with
    | none => have := hL.off x hc; rw [this] at e; cases e
    | some r => exact hx x (by rw [hc]; simp)
  have SN := Lib.hid (show ∀ W, Below w.heap.size w W → W.cell? ⟨p, 4, none⟩ = some (.int .i64 nx) ∧ W.frozen? ⟨p, 4, none⟩ = false ∧ StoreAt (W.setCell ⟨p, 4, none⟩ (.int .i64 id)) p F g n mx id wr ∧ Chg F w (W.setCell ⟨p, 4, none⟩ (.int .i64 id)) from fun W hW => by
    have q := hS.below hW
    exact ⟨q.box.cell 4, q.box.free 4, ⟨_, _, _, _, _, _, _, _, (q.next' id).1, hL.setNext h1 hx⟩, (Chg.of_below hW).then (q.next' id).2⟩)
  have c1 : w.cell? ⟨p, 1, none⟩ = some (.map (some M)) := hS.box.cell 1
  have own := Lib.hid hS.mp
  have l1 : (id < 1) = False := eq_false (by omega)
  have l2 : (4611686018427387904 < id) = False := eq_false (by omega)
  replace h1 := Lib.hid h1
  replace h2 := Lib.hid h2
  replace hlow := Lib.hid hlow
  clear hS hL hx
  go_enter Try.func58, Try.ntmps58
  go_wp2_with (first
    | (at_range; refine wpList_range_own _ rfl _ 136 rfl 2 3 keyI Try.underlying136 _ M (size D) _ rfl own.out ?_; intro w0 hrg0 hg0 hs0)
    | fail)
  go_frame
  have hB0 : Below w.heap.size w w0 := ⟨hg0.os, hg0.tape, hg0.output, hg0.size, fun k hk => hg0.block k hk (by simp)⟩
  go_loopw [5] (fun _ wr => ∃ (left : Lit → Bool) (cnt : Nat), wr.ranges Try.prog 2 (plainElem (H := Unit) Try.prog 3) M w.heap.size (size D) D left cnt ∧ Hid (Below w.heap.size w wr) ∧ Hid (∀ x, left (idL x) = true → has D (idL x) = true)) (fun _ wr => wr.rangeLeft M w.heap.size)
  case atStart => exact ⟨_, _, hrg0, Lib.hid hB0, Lib.hid (fun x e1 => e1)⟩
  case round =>
    obtain ⟨left, cnt, hrg, hB, hdone⟩ := hrel
    go_wp2_with (first
      | (at_next; refine wpList_next_ranges_ii _ rfl _ rfl 2 3 .i64 .i64 keyI Try.underlying2 Try.underlying3 M w.heap.size (size D) _ _ _ rfl hrg ?_ ?_)
      | fail)
    · intro _ hl0
      obtain ⟨z1, z2, z3⟩ := SN.out wr hB.out
      replace z3 := Lib.hid z3
      clear hrg hl0
      go_wp2
      go_ret
      exact ⟨rfl, z3.out⟩
    · intro x c w1 cnt1 hwx hwc hlx hat hrg1 hlt hg1 hs1 hen
      have hB1 := Lib.hid (hB.out.trans (show Below w.heap.size wr w1 from ⟨hg1.os, hg1.tape, hg1.output, hg1.size, fun k hk => hg1.block k (Nat.lt_of_lt_of_le hk hB.out.size) (fun e => by injection e with e; omega)⟩))
      have hxi : x < id := hlow.out x (hdone.out x hlx)
      have hxi' : (id ≤ x) = False := eq_false (by omega)
      have hd1 := Lib.hid (show ∀ y, (left (idL y) && !(idL y).sameKey (.int .i64 x)) = true → has D (idL y) = true from fun y e1 => by
        simp at e1
        exact hdone.out y e1.1)
      go_wp2
      go_roundw
      case rel => exact ⟨_, cnt1, hrg1, hB1, hd1⟩
      case measure => rw [hrg1.left_eq, hrg.left_eq]; exact hlt
end
end Go.Proofs.Ytilpgojkbgbinaa
