/- PredAll: all of several hold just if each does; of none all hold. -/
import Derived.Test.YthmnaocoogfidaaPops
import Derived.Test.YthmnaocoogfidaaAll
import Derived.Test.YthmnaocoogfidaaOpenR
import Derived.RegionTactic
set_option maxRecDepth 100000
set_option linter.unusedVariables false
set_option linter.unusedSimpArgs false
namespace Go.Proofs.Ythmnaocoogfidaa
open Go.RowKit
attribute [local go_sem] run_frombits run_tobits more_more more_drew more_drewN more_size more_cell more_frozen run_store_float lt_c1 le_c1 lt_s1 le_s1 lt_c2 le_c2 lt_s2 le_s2 lt_c3 le_c3 lt_s3 le_s3 lt_c4 le_c4 lt_s4 le_s4 lt_c5 le_c5 lt_s5 le_s5 lt_c6 le_c6 lt_s6 le_s6 lt_c7 le_c7 lt_s7 le_s7 lt_c8 le_c8 lt_s8 le_s8 lt_c9 le_c9 lt_s9 le_s9 lt_c10 le_c10 lt_s10 le_s10 lt_c11 le_c11 lt_s11 le_s11 lt_c12 le_c12 lt_s12 le_s12 le_c0

theorem info_prd : (Try.prog.info? 33).map (fun i => (i.zero, i.size, i.bytes)) = some (some (.agg #[.int .i64 0, .int .i64 0, .int .i64 0, .int .i64 0, .string ⟨#[]⟩, .float .f64 0]), 6, 56) := by kernel_rfl
def prdN (b : Int) (i : Nat) : Prd := ⟨0, if i % 2 = 1 then 4 else 3, numV' b⟩
def prdsN (l : List Int) : List Prd := (List.range l.length).map fun i => prdN (l.getD i 0) i
/-- the first k predicates -/
def prdsK (l : List Int) (k : Nat) : List Prd := (List.range k).map fun i => prdN (l.getD i 0) i
theorem prdsK_len (l : List Int) (k : Nat) : (prdsK l k).length = k := by simp [prdsK]
theorem prdsK_succ (l : List Int) (k : Nat) : prdsK l (k + 1) = prdsK l k ++ [prdN (l.getD k 0) k] := by simp [prdsK, List.range_succ]
theorem allB_succ (ps : List Prd) (p : Prd) (vs : List Val) : allB (ps ++ [p]) vs = (allB ps vs && holdsB p.f p.op p.v vs) := by simp [allB]
theorem holds_prdN (a b : Int) (i : Nat) : holdsB (prdN b i).f (prdN b i).op (prdN b i).v [numV' a] = if i % 2 = 1 then decide (b < a) else decide (a ≤ b) := by
  unfold prdN
  by_cases h : i % 2 = 1
  · rw [if_pos h, if_pos h]; exact holds_nums a b 3 (by decide)
  · rw [if_neg h, if_neg h]; exact holds_nums a b 2 (by decide)
set_option maxHeartbeats 8000000 in
theorem walk_PredAll (a : Int) (A : Option Addr) (ca : Nat) (l : List Int) (ha1 : -9223372036854775808 ≤ a) (ha2 : a < 9223372036854775808) (la : l.length ≤ ca) (lc : ca ≤ 9223372036854775807) (hl : ∀ b ∈ l, -9223372036854775808 ≤ b ∧ b < 9223372036854775808) (w : World)
    (ha : RowIn (fun n : Int => [.int .i64 n]) 1 w A l) :
    Gives Try.prog 7 #[.int .i64 a, .slice A l.length ca] w (.bool true) := by
  have okA : (numV' a).ok := numV_ok' ha1 ha2
  obtain ⟨i0, hi0, hi1, hi2, hi3⟩ := info_parts info_prd
  by_cases hl12 : l.length ≤ 12
  · have hl12' : ¬ (12 : Int) < (l.length : Int) := by omega
    have pok : ∀ k, prdsOk (prdsK l k) := fun k p hp => by
      simp only [prdsK, List.mem_map, List.mem_range] at hp
      obtain ⟨i, hi, rfl⟩ := hp
      show (numV' _).ok
      rcases Nat.lt_or_ge i l.length with q | q
      · have := hl _ (List.getElem_mem q)
        rw [List.getD_eq_getElem?_getD, List.getElem?_eq_getElem q]
        exact numV_ok' this.1 this.2
      · rw [List.getD_eq_getElem?_getD, List.getElem?_eq_none q]
        exact numV_ok' (by decide) (by decide)
    have vok : allOk [numV' a] := fun y hy => by simp at hy; rw [hy]; exact okA
    have AL : ∀ W B cb k g, RowIn prdC 6 W B (prdsK l k) → ValsIn W (some ⟨g, 0, none⟩) [numV' a] → k ≤ 12 → Gives Try.prog 23 #[.slice B k cb, .slice (some ⟨g, 0, none⟩) 1 1] W (.bool (allB (prdsK l k) [numV' a])) := fun W B cb k g h1 h2 h3 =>
      all_any B cb k (prdsK l k) (pok k) (some ⟨g, 0, none⟩) 1 [numV' a] vok W (prdsK_len l k) (by omega) (by simp) h1 h2
    have A0 : ∀ W g, ValsIn W (some ⟨g, 0, none⟩) [numV' a] → Gives Try.prog 23 #[.slice none 0 0, .slice (some ⟨g, 0, none⟩) 1 1] W (.bool true) := fun W g h2 =>
      all_any none 0 0 [] (fun p hp => by simp at hp) (some ⟨g, 0, none⟩) 1 [numV' a] vok W rfl (by omega) (by simp) RowIn.nil h2
    replace AL := Lib.hid AL
    replace A0 := Lib.hid A0
    have HA := Lib.hid ha
    clear ha pok vok okA ha1 ha2 hl
    go_enter Try.func7, Try.ntmps7
    go_wp2_with fail
    refine (known20 _).mono' ?_; intro x0
    go_wp2_with fail
    refine (num20_any _ _).mono' ?_; intro x1
    go_wp2_with fail
    have HV : ValsIn ((more w (x0.and x1)).alloc (.cells #[.int .i64 1, .int .i64 a, .string ⟨#[]⟩, .float .f64 0] 30)) (some ⟨w.heap.size + (x0.and x1).objs.size, 0, none⟩) [numV' a] := (by repeat (first | (with_reducible refine valsIn1 ?_; simp [more_size]; done) | (with_reducible refine valsIn2 ?_; simp [more_size]; done) | (with_reducible refine valsIn3 ?_; simp [more_size]; done) | (with_reducible refine ValsIn.alloc ?_ _) | (with_reducible refine ValsIn.drew ?_) | (with_reducible refine ValsIn.more ?_ _)))
    have bw : Below w.heap.size w ((more w (x0.and x1)).alloc (.cells #[.int .i64 1, .int .i64 a, .string ⟨#[]⟩, .float .f64 0] 30)) := (by repeat (first | (with_reducible exact Below.refl _ _) | (with_reducible refine Below.drew ?_) | (with_reducible refine Below.alloc ?_ (by simp [more_size]; try omega) _) | (with_reducible refine Below.setCell ?_ (by simp [more_size]; try omega) _) | (with_reducible refine below_more ?_ _ (by simp [more_size]; try omega))))
    generalize ((more w (x0.and x1)).alloc (.cells #[.int .i64 1, .int .i64 a, .string ⟨#[]⟩, .float .f64 0] 30)) = W0 at *
    generalize w.heap.size + (x0.and x1).objs.size = g at *
    replace HA := Lib.hid (HA.out.below bw)
    replace HV := Lib.hid HV
    replace bw := Lib.hid bw
    go_loopw [6, 7, 8] (fun v wt i wr => ∃ k : Nat, k ≤ l.length ∧ i = .int .i64 k ∧ wt = .bool (allB (prdsK l k) [numV' a]) ∧ wr.ownsRow W0.heap.size 33 6 v k (rowC prdC (prdsK l k)) ∧ Below W0.heap.size W0 wr) (fun _ _ i _ => l.length - (intOf i).toNat)
    case atStart => exact ⟨0, by omega, rfl, rfl, by rw [show prdsK l 0 = [] from rfl]; exact World.ownsRow_nil _ _ _ _, Below.refl _ _⟩
    case round =>
      obtain ⟨k, hk, rfl, rfl, hown, hb⟩ := hrel
      replace hown := Lib.hid hown
      replace hb := Lib.hid hb
      generalize hall : allB (prdsK l k) [numV' a] = al at *
      replace hall := Lib.hid hall
      by_cases hlt : k < l.length
      · have hlt' : (k : Int) < (l.length : Int) := by omega
        obtain ⟨b, off, rfl, hbl, hcb⟩ := HA.out k hlt
        have c0 := hcb k hlt 0 _ rfl
        clear hcb
        have hbl2 : b < wr.heap.size := Nat.lt_of_lt_of_le hbl hb.out.size
        replace c0 := (hb.out.cell (p := ⟨b, _, none⟩) hbl).trans c0
        simp only [Nat.add_zero, Nat.mul_one] at c0
        have c1 := fun y => (more_cell wr y _ hbl2).trans c0
        have hpk := Lib.hid (show prdsK l (k + 1) = prdsK l k ++ [prdN l[k] k] by
          rw [prdsK_succ, List.getD_eq_getElem?_getD, List.getElem?_eq_getElem hlt]; rfl)
        have hal := (show allB (prdsK l (k + 1)) [numV' a] = (al && (if k % 2 = 1 then decide (l[k] < a) else decide (a ≤ l[k]))) by
          rw [hpk.out, allB_succ, holds_prdN, hall.out])
        generalize l[k] = z at *
        rcases (show ((k : Int) % 2 == 1) = true ∧ k % 2 = 1 ∨ ((k : Int) % 2 == 1) = false ∧ ¬ k % 2 = 1 by rw [beq_iff_eq, beq_eq_false_iff_ne]; omega) with ⟨m1, m2⟩ | ⟨m1, m2⟩
        · rw [if_pos m2] at hal
          have hop : prdN z k = ⟨0, 4, numV' z⟩ := by unfold prdN; rw [if_pos m2]
          have hpk2 := hpk.out
          rw [hop] at hpk2
          replace hpk2 := Lib.hid hpk2
          replace hal := Lib.hid hal
          clear hop hpk
          replace m2 := Lib.hid m2
          cases al
          all_goals
            go_wp2_with fail
            refine (num20_any _ _).mono' ?_; intro x2
            go_wp2_with fail
            go_region
            go_wp2_with (first | (at_builtin; refine wpList_append_own_at _ rfl _ _ 42 rfl _ 33 i0 _ 6 56 Try.underlying42 hi0 hi1 hi2 hi3 rfl (by decide) u6 k (rowC prdC (prdsK l k)) rfl (own_below hown.out (by repeat (first | (with_reducible exact Below.refl _ _) | (with_reducible refine Below.drew ?_) | (with_reducible refine Below.alloc ?_ (by simp [more_size]; try omega) _) | (with_reducible refine Below.setCell ?_ (by simp [more_size]; try omega) _) | (with_reducible refine below_more ?_ _ (by simp [more_size]; try omega))))) _ 1 1 (prdC ⟨0, 4, numV' z⟩) rfl (prdC_len _) (cells_at _ (prdC ⟨0, 4, numV' z⟩) _ (by simp [more_size])) (prdC_one _) (by unfold maxLen; omega) (by omega) (by have := hb.out.size; simp [more_size]; omega) ?_; intro v1 w1 own1 grow1 _ _) | fail)
            have ge1 := own_ge hown.out
            have bb1 : Below W0.heap.size W0 w1 := Below.grown (below_then hb.out (by repeat (first | (with_reducible exact Below.refl _ _) | (with_reducible refine Below.drew ?_) | (with_reducible refine Below.alloc ?_ (by simp [more_size]; try omega) _) | (with_reducible refine Below.setCell ?_ (by simp [more_size]; try omega) _) | (with_reducible refine below_more ?_ _ (by simp [more_size]; try omega))))) grow1 (by have := hb.out.size; simp [more_size]; omega) ge1
            refine ⟨⟨k + 1, by omega, by go_num, ?_, ?_, bb1⟩, by simp [intOf]; omega⟩
            · rw [hal.out]; rfl
            · rw [hpk2.out, rowC_append, rowC_single]
              exact own1
        · rw [if_neg m2] at hal
          have hop : prdN z k = ⟨0, 3, numV' z⟩ := by unfold prdN; rw [if_neg m2]
          have hpk2 := hpk.out
          rw [hop] at hpk2
          replace hpk2 := Lib.hid hpk2
          replace hal := Lib.hid hal
          clear hop hpk
          replace m2 := Lib.hid m2
          cases al
          all_goals
            go_wp2_with fail
            refine (num20_any _ _).mono' ?_; intro x2
            go_wp2_with (first | (at_builtin; refine wpList_append_own_at _ rfl _ _ 42 rfl _ 33 i0 _ 6 56 Try.underlying42 hi0 hi1 hi2 hi3 rfl (by decide) u6 k (rowC prdC (prdsK l k)) rfl (own_below hown.out (by repeat (first | (with_reducible exact Below.refl _ _) | (with_reducible refine Below.drew ?_) | (with_reducible refine Below.alloc ?_ (by simp [more_size]; try omega) _) | (with_reducible refine Below.setCell ?_ (by simp [more_size]; try omega) _) | (with_reducible refine below_more ?_ _ (by simp [more_size]; try omega))))) _ 1 1 (prdC ⟨0, 3, numV' z⟩) rfl (prdC_len _) (cells_at _ (prdC ⟨0, 3, numV' z⟩) _ (by simp [more_size])) (prdC_one _) (by unfold maxLen; omega) (by omega) (by have := hb.out.size; simp [more_size]; omega) ?_; intro v1 w1 own1 grow1 _ _) | fail)
            have ge1 := own_ge hown.out
            have bb1 : Below W0.heap.size W0 w1 := Below.grown (below_then hb.out (by repeat (first | (with_reducible exact Below.refl _ _) | (with_reducible refine Below.drew ?_) | (with_reducible refine Below.alloc ?_ (by simp [more_size]; try omega) _) | (with_reducible refine Below.setCell ?_ (by simp [more_size]; try omega) _) | (with_reducible refine below_more ?_ _ (by simp [more_size]; try omega))))) grow1 (by have := hb.out.size; simp [more_size]; omega) ge1
            refine ⟨⟨k + 1, by omega, by go_num, ?_, ?_, bb1⟩, by simp [intOf]; omega⟩
            · rw [hal.out]; rfl
            · rw [hpk2.out, rowC_append, rowC_single]
              exact own1
      · obtain rfl : k = l.length := by omega
        have hlt' : ¬ ((l.length : Nat) : Int) < (l.length : Int) := by omega
        obtain ⟨B, cb, rfl, q1, q2, q3, q4⟩ := rowIn_own prdC_len (prdsK_len l l.length) hown.out
        replace q4 := Lib.hid q4
        have AF := AL.out wr B cb l.length g q4.out (HV.out.below hb.out) hl12
        rw [hall.out] at AF
        replace AF := Lib.hid AF
        cases al
        all_goals
          go_wp2_with fail
          refine AF.out.mono' ?_; intro x8
          go_wp2_with fail
          refine (A0.out _ _ ((HV.out.below hb.out).more _)).mono' ?_; intro x9
          go_wp2
          go_ret
          exact ⟨rfl, more_then (below_then bw.out hb.out) (by repeat (first | (with_reducible exact Below.refl _ _) | (with_reducible refine Below.drew ?_) | (with_reducible refine Below.alloc ?_ (by simp [more_size]; try omega) _) | (with_reducible refine Below.setCell ?_ (by simp [more_size]; try omega) _) | (with_reducible refine below_more ?_ _ (by simp [more_size]; try omega))))⟩
  · have hl12' : (12 : Int) < (l.length : Int) := by omega
    clear ha
    go_enter Try.func7, Try.ntmps7
    go_wp2_with fail
    refine (known20 _).mono' ?_; intro x0
    go_wp2
    go_ret
    exact ⟨rfl, (more_of_below (by repeat (first | (with_reducible exact Below.refl _ _) | (with_reducible refine Below.drew ?_) | (with_reducible refine Below.alloc ?_ (by simp [more_size]; try omega) _) | (with_reducible refine Below.setCell ?_ (by simp [more_size]; try omega) _) | (with_reducible refine below_more ?_ _ (by simp [more_size]; try omega)))))⟩
theorem law_PredAll (v0 v1 : Value) (w : World) (h0 : IsI64 v0) (h1 : IsRow (fun n : Int => [.int .i64 n]) 1 (fun n => -9223372036854775808 ≤ n ∧ n < 9223372036854775808) w v1) :
    Calls Try.prog 7 #[v0, v1] w fun e w' => e = .returned (.bool true) ∧ Below w.heap.size w w' := by
  obtain ⟨a, rfl, ha⟩ := h0
  obtain ⟨A, ca, l, rfl, q1, q2, q3, q4, q5⟩ := h1
  exact law_of (walk_PredAll a A ca l ha.1 ha.2 q1 q2 q4 w q5)
end Go.Proofs.Ythmnaocoogfidaa
