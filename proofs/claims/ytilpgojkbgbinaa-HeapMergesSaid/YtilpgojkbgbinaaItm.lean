/- Layer 8: Items: their order, the row of items, sorted, same. -/
import Derived.Test.YtilpgojkbgbinaaKnown8
import Derived.Test.YtilpgojkbgbinaaOpenN
import Derived.RegionTactic
import Derived.BigRegion
import Derived.BigQuiet
import Derived.Deep.RegionLaw
import Derived.Laws.StructEq
set_option maxRecDepth 100000
set_option linter.unusedVariables false
set_option linter.unusedSimpArgs false
namespace Go.Proofs.Ytilpgojkbgbinaa
open Go.RowKit
attribute [local go_sem] run_frombits run_tobits more_more more_drew more_drewN more_size more_cell more_frozen run_store_float lt_c1 le_c1 lt_s1 le_s1 lt_c2 le_c2 lt_s2 le_s2 lt_c3 le_c3 lt_s3 le_s3 lt_c4 le_c4 lt_s4 le_s4 lt_c5 le_c5 lt_s5 le_s5 lt_c6 le_c6 lt_s6 le_s6 lt_c7 le_c7 lt_s7 le_s7 lt_c8 le_c8 lt_s8 le_s8 lt_c9 le_c9 lt_s9 le_s9 lt_c10 le_c10 lt_s10 le_s10 lt_c11 le_c11 lt_s11 le_s11 lt_c12 le_c12 lt_s12 le_s12 le_c0
def ltItm (a b : Itm) : Bool := decide (a.n < b.n)
theorem ltItm_swo : Swo ltItm := ⟨fun a b h => by unfold ltItm at *; simp at *; omega, fun a b c h1 h2 => by unfold ltItm at *; simp at *; omega⟩
theorem tells_less : Tells valItm ltItm 48 #[] [] := by
  refine ⟨enters Try.func48 (by kernel_rfl) rfl, fun W x y _ => ?_⟩
  show Gives _ _ #[.agg #[.int .i64 x.n, .int .i64 x.id], .agg #[.int .i64 y.n, .int .i64 y.id]] W _
  go_enter Try.func48, Try.ntmps48
  go_wp2
  go_ret
  exact ⟨rfl, (more_of_below (by repeat (first | (with_reducible exact Below.refl _ _) | (with_reducible refine Below.drew ?_) | (with_reducible refine Below.alloc ?_ (by simp [more_size]; try omega) _) | (with_reducible refine Below.setCell ?_ (by simp [more_size]; try omega) _) | (with_reducible refine below_more ?_ _ (by simp [more_size]; try omega)))))⟩
theorem run_neq_Itm (a b c d : Int) (w : World) : (binOp .neq 80 (.agg #[.int .i64 a, .int .i64 b]) (.agg #[.int .i64 c, .int .i64 d])).run Try.prog w = .ok (.bool (!(a == c && b == d))) w := by
  have u3 := Try.underlying3
  have a3 := Try.isAgg3
  have z3 := Try.sizeOf3
  have hS : Try.prog.underlying 80 = some (.struct (Try.prog.fieldsOf 80)) := by kernel_rfl
  have hp : Try.prog.stoodInHeld 80 = false := by kernel_rfl
  rw [run_neq_struct, show (10000 : Nat) = 9999 + 1 from rfl, run_equalIn_agg w 9999 80 _ _ hS hp]
  simp only [Program.fieldsOf, Try.underlying80]
  go_simp
  by_cases h1 : a = c <;> by_cases h2 : b = d <;> simp [h1, h2]
theorem guard_Itm : Try.prog.eqGuardType Try.prog.depth 80 = false := by kernel_rfl
theorem item_n (l : List Itm) (i : Nat) (h : i < l.length) : (rowC cItm l)[i * 2]? = some (.int .i64 l[i].n) := by
  have := rowC_get cItm_len l i 0 h (by omega); rw [Nat.add_zero] at this; rw [this]; rfl
theorem item_id (l : List Itm) (i : Nat) (h : i < l.length) : (rowC cItm l)[i * 2 + 1]? = some (.int .i64 l[i].id) := by
  rw [rowC_get cItm_len l i 1 h (by omega)]; rfl
instance : DecidableEq Itm := fun a b => if h : a.n = b.n ∧ a.id = b.id then isTrue (by cases a; cases b; simp at h; simp [h]) else isFalse (fun e => h (by rw [e]; exact ⟨rfl, rfl⟩))
theorem itm_eq (a b : Itm) : ((a.n == b.n && a.id == b.id) = true) ↔ a = b := by
  cases a; cases b; simp
/-- rows of items made of numbers -/
def itemsL (l : List Int) : List Itm := l.mapIdx fun i x => ⟨x.tdiv 8, (i : Int)⟩
theorem itemsL_length (l : List Int) : (itemsL l).length = l.length := by simp [itemsL]
theorem itemsL_take (l : List Int) (k : Nat) (h : k < l.length) : itemsL (l.take (k + 1)) = itemsL (l.take k) ++ [⟨l[k].tdiv 8, (k : Int)⟩] := by
  unfold itemsL
  rw [List.take_succ_eq_append_getElem h, List.mapIdx_concat, List.length_take]
  congr 3
  omega
theorem itemsL_ids (l : List Int) : (itemsL l).Pairwise (fun a b => a.id < b.id) := by
  rw [List.pairwise_iff_getElem]
  intro i j hi hj hij
  simp only [itemsL, List.getElem_mapIdx]
  omega
set_option maxHeartbeats 2000000 in
theorem items_any (A : Option Addr) (ca : Nat) (l : List Int) (hl : ∀ n ∈ l, -128 ≤ n ∧ n ≤ 127) (w : World) (la : l.length ≤ 100000) (ha : RowIn i8C 1 w A l) :
    Calls Try.prog 44 #[.slice A l.length ca] w fun e w' => ∃ v, e = .returned v ∧ w'.ownsRow w.heap.size 80 2 v l.length (rowC cItm (itemsL l)) ∧ Below w.heap.size w w' := by
  obtain ⟨i0, hi, hz0, hz1, hz2⟩ := info_parts info_Itm
  have hA := Lib.hid ha
  have own0 := Lib.hid (World.ownsRow_nil w w.heap.size 80 2)
  clear ha
  go_enter Try.func44, Try.ntmps44
  go_wp2
  go_loopw [3, 4] (fun t3 t4 wr => ∃ (i : Nat) (A3 : Option Addr) (cap3 : Nat), t4 = .int .i64 i ∧ t3 = .slice A3 i cap3 ∧ i ≤ l.length ∧ Hid (wr.ownsRow w.heap.size 80 2 (.slice A3 i cap3) i (rowC cItm (itemsL (l.take i)))) ∧ Hid (Below w.heap.size w wr)) (fun _ t _ => l.length - (intOf t).toNat)
  case atStart => exact ⟨0, none, 0, rfl, rfl, Nat.zero_le _, own0, Lib.hid (Below.refl _ _)⟩
  case round =>
    obtain ⟨i, A3, cap3, rfl, rfl, hi1, own, hB⟩ := hrel
    clear own0
    rcases Nat.lt_or_ge i l.length with hil | hil
    · have hil' : (i : Int) < (l.length : Int) := by omega
      obtain ⟨b1, off, rfl, hb1, hcells⟩ := hA.out i hil
      have x0 := hcells i hil 0 _ rfl
      have y0 := (hB.out.cell (p := ⟨b1, off + i * 1 + 0, none⟩) hb1).trans x0
      rw [Nat.add_zero, Nat.mul_one] at y0
      have hxr := hl _ (List.getElem_mem hil)
      have hm := Lib.hid (show rowC cItm (itemsL (l.take (i + 1))) = rowC cItm (itemsL (l.take i)) ++ cItm ⟨l[i].tdiv 8, (i : Int)⟩ by rw [itemsL_take l i hil, rowC_append, rowC_single])
      generalize l[i] = xi at *
      clear hcells x0
      go_wp2_with (at_builtin; refine wpList_append_own_at _ rfl _ _ 74 rfl w.heap.size 80 i0 _ 2 16 Try.underlying74 hi hz0 hz1 hz2 rfl (by decide) _ i _ rfl (own_below own.out (by repeat (first | (with_reducible exact Below.refl _ _) | (with_reducible refine Below.drew ?_) | (with_reducible refine Below.alloc ?_ (by simp [more_size]; try omega) _) | (with_reducible refine Below.setCell ?_ (by simp [more_size]; try omega) _) | (with_reducible refine below_more ?_ _ (by simp [more_size]; try omega))))) _ 1 1 (cItm ⟨xi.tdiv 8, (i : Int)⟩) rfl rfl (cells_at _ (cItm ⟨xi.tdiv 8, (i : Int)⟩) _ rfl) (cItm_one _) (by unfold maxLen; omega) (by omega) (by have := hB.out.size; simp; omega) ?_; intro v1 w1 own1 grow1 _ hat1; obtain ⟨g, cap, rfl⟩ := own_some own1 (by omega))
      rw [← hm.out] at own1
      have hB1 := Lib.hid (hB.out.trans (grown_below (grown_after grow1) hB.out.size (fun g h => own_ge own.out g h)))
      replace own1 := Lib.hid own1
      clear own hB grow1 hat1
      go_wp2
      exact ⟨⟨i + 1, _, cap, by go_num, rfl, by omega, own1, hB1⟩, by simp [intOf]; omega⟩
    · obtain rfl : i = l.length := by omega
      have F := own.out
      rw [List.take_of_length_le (Nat.le_refl _)] at F
      go_wp2
      go_ret
      exact ⟨_, rfl, F, hB.out⟩
set_option maxHeartbeats 2000000 in
theorem same_any8 (A B : Option Addr) (ca cb : Nat) (a b : List Itm) (w : World) (la : a.length ≤ 1000000) (lb : b.length ≤ 1000000) (ha : RowIn cItm 2 w A a) (hb : RowIn cItm 2 w B b) :
    Gives Try.prog 46 #[.slice A a.length ca, .slice B b.length cb] w (.bool (decide (a = b))) := by
  obtain ⟨r, hr⟩ : ∃ r, r = decide (a = b) := ⟨_, rfl⟩
  rw [← hr]
  by_cases hl : a.length = b.length
  · have hlb : ((a.length : Int) != (b.length : Int)) = false := by simp [hl]
    have hA := Lib.hid ha
    have hB := Lib.hid hb
    have EN := run_neq_Itm
    have EG := guard_Itm
    clear ha hb
    go_enter Try.func46, Try.ntmps46
    go_wp2
    go_loopw [5] (fun t wr => ∃ (k : Nat) (y : Ext), t = .int .i64 k ∧ wr = more w y ∧ k ≤ a.length ∧ Hid (∀ j (h : j < a.length) (h2 : j < b.length), j < k → a[j] = b[j])) (fun t _ => a.length - (intOf t).toNat)
    case atStart => exact ⟨0, ⟨#[], w.drawn⟩, rfl, (more_self w).symm, Nat.zero_le _, Lib.hid (fun j h h2 h3 => absurd h3 (Nat.not_lt_zero _))⟩
    case round =>
      obtain ⟨k, y, rfl, rfl, hk, hs⟩ := hrel
      rcases Nat.lt_or_ge k a.length with hka | hka
      · have hkb : k < b.length := by omega
        have hka' : (k : Int) < (a.length : Int) := by omega
        have hkb' : (k : Int) < (b.length : Int) := by omega
        obtain ⟨b1, o1, rfl, hb1, hc1⟩ := hA.out k hka
        obtain ⟨b2, o2, rfl, hb2, hc2⟩ := hB.out k hkb
        have p0 := fun y => (more_cell w y _ hb1).trans (hc1 k hka 0 _ rfl)
        have p1 := fun y => (more_cell w y _ hb1).trans (hc1 k hka 1 _ rfl)
        have q0 := fun y => (more_cell w y _ hb2).trans (hc2 k hkb 0 _ rfl)
        have q1 := fun y => (more_cell w y _ hb2).trans (hc2 k hkb 1 _ rfl)
        simp only [Nat.add_zero] at p0 q0
        have hne : ¬ (a[k].n == b[k].n && a[k].id == b[k].id) = true → Hid (decide (a = b) = false) := fun h => Lib.hid (by
          rw [decide_eq_false_iff_not]; intro e; subst e; exact h ((itm_eq _ _).2 rfl))
        have hyes : (a[k].n == b[k].n && a[k].id == b[k].id) = true → Hid (∀ j (h : j < a.length) (h2 : j < b.length), j < k + 1 → a[j] = b[j]) := fun h => Lib.hid (fun j h1 h2 h3 => by
          rcases Nat.lt_or_ge j k with q | q
          · exact hs.out j h1 h2 q
          · obtain rfl : j = k := by omega
            exact (itm_eq _ _).1 h)
        generalize a[k].n = an at *
        generalize a[k].id = ai at *
        generalize b[k].n = bn at *
        generalize b[k].id = bi at *
        clear hc1 hc2
        cases hd : (an == bn && ai == bi)
        · obtain rfl : r = false := by rw [hr, (hne (by rw [hd]; decide)).out]
          clear hne hyes hr
          go_wp2_with fail
          refine wp_region_more2 (by kernel_rfl) (by kernel_rfl) ?_
          repeat (go_big_quiet_step (fail))
          refine wpQuiet_nil ?_
          rintro _ ⟨z, rfl⟩
          go_wp2
          go_ret
          exact ⟨rfl, _, rfl⟩
        · have hT := hyes hd
          clear hne hyes
          go_wp2_with fail
          refine wp_region_more2 (by kernel_rfl) (by kernel_rfl) ?_
          repeat (go_big_quiet_step (fail))
          refine wpQuiet_nil ?_
          rintro _ ⟨z, rfl⟩
          go_wp2
          exact ⟨⟨k + 1, _, by go_num, rfl, by omega, hT⟩, by simp [intOf]; omega⟩
      · have hab : a = b := List.ext_getElem hl (fun j h1 h2 => hs.out j h1 h2 (by omega))
        obtain rfl : r = true := by rw [hr]; simp [hab]
        clear hab hr
        go_wp2
        go_ret
        exact ⟨rfl, _, rfl⟩
  · have hlb : ((a.length : Int) != (b.length : Int)) = true := by simp; omega
    obtain rfl : r = false := by rw [hr, decide_eq_false_iff_not]; intro e; subst e; exact hl rfl
    clear ha hb hr
    go_enter Try.func46, Try.ntmps46
    go_wp2
    go_ret
    exact ⟨rfl, (more_of_below (by repeat (first | (with_reducible exact Below.refl _ _) | (with_reducible refine Below.drew ?_) | (with_reducible refine Below.alloc ?_ (by simp [more_size]; try omega) _) | (with_reducible refine Below.setCell ?_ (by simp [more_size]; try omega) _) | (with_reducible refine below_more ?_ _ (by simp [more_size]; try omega)))))⟩
end Go.Proofs.Ytilpgojkbgbinaa
