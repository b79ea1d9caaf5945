/- value.Rows once more: the world that it leaves has grown and is not behind. -/
import Derived.Test.YtijegkiapbmekaaHall0
import Derived.Shelf.SlSortCmp.QuietGrown
set_option maxRecDepth 100000
set_option linter.unusedVariables false
set_option linter.unusedSimpArgs false
namespace Go.Proofs.Ytijegkiapbmekaa
open Go.RowKit Go.Sort
attribute [local go_sem] run_frombits run_tobits run_cmpstring
theorem grow_more (w : World) (n m : Nat) (os os' : Array Obj) : grow ((grow (w.drewN n) os).drewN m) os' = grow (w.drewN (n + m)) (os ++ os') := by
  show grow (grow ((w.drewN n).drewN m) os) os' = _
  rw [grow_grow, World.drewN_drewN]
theorem grow_self (w : World) : grow (w.drewN 0) #[] = w := by rw [grow_empty]; rfl
theorem grow_size (w : World) (n : Nat) (os : Array Obj) : w.heap.size ≤ (grow (w.drewN n) os).heap.size := by
  show w.heap.size ≤ (w.heap ++ os).size
  simp
theorem grow_block (w : World) (n : Nat) (os : Array Obj) {k : Nat} (h : k < w.heap.size) : (grow (w.drewN n) os).heap[k]? = w.heap[k]? := heap_grow_old (w.drewN n) os h
theorem grow_below9 (w : World) (n : Nat) (os : Array Obj) : Below w.heap.size w (grow (w.drewN n) os) := ⟨rfl, rfl, rfl, grow_size w n os, fun k h => grow_block w n os h⟩
theorem grow_of {w w' : World} (h : Below w.heap.size w w') (hd : w.drawn ≤ w'.drawn) : ∃ q os, w' = grow (w.drewN q) os := by
  obtain ⟨x, rfl⟩ := more_of_below h
  refine ⟨x.read - w.drawn, x.objs, ?_⟩
  have hd' : w.drawn ≤ x.read := hd
  show ({ w with heap := w.heap ++ x.objs, drawn := x.read } : World) = { w with heap := w.heap ++ x.objs, drawn := w.drawn + (x.read - w.drawn) }
  congr 1
  omega
set_option maxHeartbeats 1000000 in
theorem comparev_grow (a b : Val) (ha : a.ok) (hb : b.ok) (w : World) :
    Calls Try.prog 53 #[a.v, b.v] w fun e w' => e = .returned (.int .i64 (cmpV a b)) ∧ ∃ q os, w' = grow (w.drewN q) os := by
  obtain ⟨ak, ai, ast, af⟩ := a
  obtain ⟨bk, bi, bst, bf⟩ := b
  unfold Val.v
  obtain ⟨ha, _⟩ := ha
  obtain ⟨hb, _⟩ := hb
  simp only at ha hb
  go_enter Try.func53, Try.ntmps53
  go_wp2_with fail
  refine wp_region_tail 20 (by kernel_rfl) (by kernel_rfl) ?_
  simp only [List.take_succ_cons, List.take_zero, List.drop_succ_cons, List.drop_zero]
  repeat still_step
  still_call (flip (cmpi_any _ _ _))
  repeat still_step
  still_call (flip (cmpl_any _ _ _))
  repeat still_step
  still_call (flip (cmps_any _ _ _))
  repeat still_step
  still_call (flip (compare_any _ _ ha hb _))
  repeat still_step
  refine wpStill_nil ?_
  go_wp2_with fail
  refine (or_four _ (cmpI ak bk) (cmpI ai bi) (Lib.compareBytes ast.data.toList bst.data.toList) (cmpN (ordN af) (ordN bf)) _ (by go_simp) (by go_simp) (by go_simp) (by go_simp)).mono ?_
  rintro e w' ⟨rfl, rfl⟩
  go_wp2
  go_ret
  refine ⟨rfl, grow_of (by repeat (first | (with_reducible exact Below.refl _ _) | (with_reducible refine Below.drew ?_) | (with_reducible refine Below.alloc ?_ (by simp [more_size]; try omega) _) | (with_reducible refine Below.setCell ?_ (by simp [more_size]; try omega) _) | (with_reducible refine below_more ?_ _ (by simp [more_size]; try omega)))) ?_⟩
  first | exact Nat.le_refl _ | exact Nat.le_add_right _ 1 | exact Nat.le_add_right _ 2 | exact Nat.le_add_right _ 3
set_option maxHeartbeats 2000000 in
theorem rows_grow (A B : Option Addr) (ca cb : Nat) (l m : List Val) (hl : allOk l) (hm : allOk m) (w : World) (la : l.length ≤ 9223372036854775807) (lb : m.length ≤ 9223372036854775807) (ha : ValsIn w A l) (hb : ValsIn w B m) :
    Calls Try.prog 37 #[.slice A l.length ca, .slice B m.length cb] w fun e w' => e = .returned (.int .i64 (rowsV l m)) ∧ ∃ q os, w' = grow (w.drewN q) os := by
  have HA := Lib.hid ha; clear ha
  have HB := Lib.hid hb; clear hb
  have HL := Lib.hid hl; clear hl
  have HM := Lib.hid hm; clear hm
  have mixed : Try.prog.follows .mixedOrders = true := by kernel_rfl
  go_enter Try.func37, Try.ntmps37
  go_wp2
  all_goals
    go_loopw [12] (fun i wr => ∃ (k : Nat) (q : Nat) (os : Array Obj), k ≤ l.length ∧ k ≤ m.length ∧ i = .int .i64 k ∧ Hid (rowsV (l.drop k) (m.drop k) = rowsV l m) ∧ wr = grow (w.drewN q) os) (fun i _ => l.length - (intOf i).toNat)
    case atStart => exact ⟨0, 0, #[], by omega, by omega, rfl, Lib.hid rfl, (grow_self w).symm⟩
    case round =>
      obtain ⟨k, q, os, hk1, hk2, rfl, hr, hwr⟩ := hrel
      replace hwr := Lib.hid hwr
      by_cases hlt : k < l.length ∧ k < m.length
      · obtain ⟨h1, h2⟩ := hlt
        have h1' : (k : Int) < (l.length : Int) := by omega
        have h2' : (k : Int) < (m.length : Int) := by omega
        obtain ⟨b, off, rfl, hb, hcb⟩ := HA.out k h1
        obtain ⟨b', off', rfl, hb', hcb'⟩ := HB.out k h2
        obtain ⟨c0, c1, c2, c3⟩ := hcb k h1
        obtain ⟨d0, d1, d2, d3⟩ := hcb' k h2
        clear hcb hcb'
        have G := fun (n : Nat) (os : Array Obj) (a : Addr) (ha : a.block < w.heap.size) => (show (grow (wr.drewN n) os).cell? a = w.cell? a from by
          rw [hwr.out, grow_more]
          exact World.cell?_of_block (grow_block w _ _ ha))
        have C0 := fun n os => (G n os _ hb).trans c0
        have C1 := fun n os => (G n os _ hb).trans c1
        have C2 := fun n os => (G n os _ hb).trans c2
        have C3 := fun n os => (G n os _ hb).trans c3
        have D0 := fun n os => (G n os _ hb').trans d0
        have D1 := fun n os => (G n os _ hb').trans d1
        have D2 := fun n os => (G n os _ hb').trans d2
        have D3 := fun n os => (G n os _ hb').trans d3
        clear c0 c1 c2 c3 d0 d1 d2 d3 G
        have okA : l[k].ok := HL.out _ (List.getElem_mem h1)
        have okB : m[k].ok := HM.out _ (List.getElem_mem h2)
        have HS := Lib.hid (show orI (cmpV l[k] m[k]) (rowsV (l.drop (k + 1)) (m.drop (k + 1))) = rowsV l m by
          rw [← hr.out, List.drop_eq_getElem_cons h1, List.drop_eq_getElem_cons h2]; rfl)
        generalize l[k] = p at *
        generalize m[k] = q at *
        have CG := Lib.hid (fun W => comparev_grow p q okA okB W)
        clear okA okB
        go_wp2_with fail
        go_quiet_grown (first | (go_at_call 53; refine Calls.grown_of (CG.out _)))
        dsimp only
        by_cases hz : cmpV p q = 0
        · have hz' : (cmpV p q != 0) = false := by simpa using hz
          have HZ := Lib.hid hz; clear hz
          clear CG C0 C1 C2 C3 D0 D1 D2 D3
          go_wp2
          go_roundw
          case rel => exact ⟨k + 1, _, _, by omega, by omega, by go_num, by have := HS.out; rw [HZ.out] at this; exact Lib.hid this, by rw [hwr.out, grow_more]⟩
          case measure => simp [intOf]; omega
        · have hz' : (cmpV p q != 0) = true := by simpa using hz
          have HZ := Lib.hid hz; clear hz
          clear CG C0 C1 C2 C3 D0 D1 D2 D3
          go_wp2
          go_ret
          exact ⟨ret_i64 (by have := HS.out; unfold orI at this; rw [if_neg HZ.out] at this; exact this), _, _, by rw [hwr.out, grow_more]⟩
      · have h1' : ¬ ((k : Int) < (l.length : Int) ∧ (k : Int) < (m.length : Int)) := by omega
        have HE := Lib.hid (show cmpI l.length m.length = rowsV l m by
          rw [← hr.out]
          have hz : l.drop k = [] ∨ m.drop k = [] := by
            rcases Nat.lt_or_ge k l.length with h | h
            · right; exact List.drop_eq_nil_of_le (by omega)
            · left; exact List.drop_eq_nil_of_le h
          rw [rowsV_nil _ _ hz, List.length_drop, List.length_drop]
          unfold cmpI
          simp only [show ((l.length : Int) < m.length) = (((l.length - k : Nat) : Int) < ((m.length - k : Nat) : Int)) from propext (by omega), show ((m.length : Int) < l.length) = (((m.length - k : Nat) : Int) < ((l.length - k : Nat) : Int)) from propext (by omega)])
        go_wp2_with (first | (go_at_call 54; refine (cmpi_any _ _ _).mono ?_; rintro e w' ⟨rfl, rfl⟩))
        go_ret
        exact ⟨ret_i64 HE.out, _, _, hwr.out⟩
end Go.Proofs.Ytijegkiapbmekaa
