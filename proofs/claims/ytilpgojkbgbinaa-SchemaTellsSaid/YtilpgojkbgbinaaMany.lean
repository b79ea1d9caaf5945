/- SchemaMany: eight fields, three parts of a key; one more isn't. -/
import Derived.Test.YtilpgojkbgbinaaDefs
import Derived.Test.YtilpgojkbgbinaaOwn
import Derived.Test.YtilpgojkbgbinaaOpen
set_option maxRecDepth 100000
set_option linter.unusedVariables false
set_option linter.unusedSimpArgs false
namespace Go.Proofs.Ytilpgojkbgbinaa
open Go.RowKit
attribute [local go_sem] run_frombits run_tobits more_more more_drew more_drewN more_size more_cell more_frozen run_store_float lt_c1 le_c1 lt_s1 le_s1 lt_c2 le_c2 lt_s2 le_s2 lt_c3 le_c3 lt_s3 le_s3 lt_c4 le_c4 lt_s4 le_s4 lt_c5 le_c5 lt_s5 le_s5 lt_c6 le_c6 lt_s6 le_s6 lt_c7 le_c7 lt_s7 le_s7 lt_c8 le_c8 lt_s8 le_s8 lt_c9 le_c9 lt_s9 le_s9 lt_c10 le_c10 lt_s10 le_s10 lt_c11 le_c11 lt_s11 le_s11 lt_c12 le_c12 lt_s12 le_s12 le_c0

def fldC (f : Fld) : List Value := [.string f.n, .int .i64 f.k]
def prtC (p : Prt) : List Value := [.int .i64 p.f, .int .i64 p.h]
theorem fldC_len (f : Fld) : (fldC f).length = 2 := rfl
theorem prtC_len (f : Prt) : (prtC f).length = 2 := rfl
theorem fldC_one (f : Fld) : ∀ u ∈ fldC f, u.oneCell' = true := by
  intro u hu; simp [fldC] at hu; rcases hu with rfl | rfl <;> rfl
theorem prtC_one (f : Prt) : ∀ u ∈ prtC f, u.oneCell' = true := by
  intro u hu; simp [prtC] at hu; rcases hu with rfl | rfl <;> rfl
theorem info_fld : (Try.prog.info? 25).map (fun i => (i.zero, i.size, i.bytes)) = some (some (.agg #[.string ⟨#[]⟩, .int .i64 0]), 2, 24) := by kernel_rfl
theorem info_prt : (Try.prog.info? 35).map (fun i => (i.zero, i.size, i.bytes)) = some (some (.agg #[.int .i64 0, .int .i64 0]), 2, 16) := by kernel_rfl
theorem fields_own {w : World} {base : Nat} {e : TypeId} {v : Value} {l : List Fld} (h : w.ownsRow base e 2 v l.length (rowC fldC l)) :
    ∃ A cap, v = .slice A l.length cap ∧ l.length ≤ cap ∧ cap ≤ 9223372036854775807 ∧ FieldsIn w A l := by
  obtain ⟨A, cap, rfl, h1, h2, h3, h4⟩ := own_open h
  refine ⟨A, cap, rfl, h1, h2, fun j hj => ?_⟩
  obtain ⟨g, rfl, hg1, hg2, hc⟩ := h4 (by omega)
  refine ⟨g, 0, rfl, hg2, fun i hi => ⟨?_, ?_⟩⟩
  · have := hc (i * 2 + 0) (.string l[i].n) (by rw [rowC_get fldC_len l i 0 hi (by omega)]; rfl)
    simpa using this
  · have := hc (i * 2 + 1) (.int .i64 l[i].k) (by rw [rowC_get fldC_len l i 1 hi (by omega)]; rfl)
    simpa using this
theorem parts_own {w : World} {base : Nat} {e : TypeId} {v : Value} {l : List Prt} (h : w.ownsRow base e 2 v l.length (rowC prtC l)) :
    ∃ A cap, v = .slice A l.length cap ∧ l.length ≤ cap ∧ cap ≤ 9223372036854775807 ∧ PartsIn w A l := by
  obtain ⟨A, cap, rfl, h1, h2, h3, h4⟩ := own_open h
  refine ⟨A, cap, rfl, h1, h2, fun j hj => ?_⟩
  obtain ⟨g, rfl, hg1, hg2, hc⟩ := h4 (by omega)
  refine ⟨g, 0, rfl, hg2, fun i hi => ⟨?_, ?_⟩⟩
  · have := hc (i * 2 + 0) (.int .i64 l[i].f) (by rw [rowC_get prtC_len l i 0 hi (by omega)]; rfl)
    simpa using this
  · have := hc (i * 2 + 1) (.int .i64 l[i].h) (by rw [rowC_get prtC_len l i 1 hi (by omega)]; rfl)
    simpa using this

theorem fields_own_n {w : World} {base : Nat} {e : TypeId} {v : Value} {l : List Fld} {n : Nat} (hn : l.length = n) (h : w.ownsRow base e 2 v n (rowC fldC l)) :
    ∃ A cap, v = .slice A n cap ∧ n ≤ cap ∧ cap ≤ 9223372036854775807 ∧ FieldsIn w A l := by subst hn; exact fields_own h
theorem parts_own_n {w : World} {base : Nat} {e : TypeId} {v : Value} {l : List Prt} {n : Nat} (hn : l.length = n) (h : w.ownsRow base e 2 v n (rowC prtC l)) :
    ∃ A cap, v = .slice A n cap ∧ n ≤ cap ∧ cap ≤ 9223372036854775807 ∧ PartsIn w A l := by subst hn; exact parts_own h
/-- so many fields, of the first letters -/
def letS (i : Nat) : ByteArray := (⟨#[97, 98, 99, 100, 101, 102, 103, 104, 105, 106, 107, 108]⟩ : ByteArray).extract i (i + 1)
def letF (i : Nat) : Fld := ⟨letS i, 3⟩
def flds (k : Nat) : List Fld := (List.range k).map letF
theorem flds_len (k : Nat) : (flds k).length = k := by simp [flds]
theorem flds_succ (k : Nat) : flds (k + 1) = flds k ++ [letF k] := by simp [flds, List.range_succ]
theorem flds_is : ∀ k, k < 12 → isF (flds k) = (decide (1 ≤ k) && decide (k ≤ 8)) := by decide +kernel

theorem flds_ok (k : Nat) : namesOk (flds k) := fun f hf => by
  unfold flds at hf
  rw [List.mem_map] at hf
  obtain ⟨i, _, rfl⟩ := hf
  show (ByteArray.extract _ i (i + 1)).size ≤ _
  rw [ByteArray.size_extract]; omega
def prts (q : Nat) : List Prt := List.replicate q ⟨0, 0⟩
theorem prts_len (k : Nat) : (prts k).length = k := by simp [prts]
theorem prts_succ (k : Nat) : prts (k + 1) = prts k ++ [⟨0, 0⟩] := by simp [prts, List.replicate_succ']
theorem def_no (k : Nat) (h : isF (flds k) = false) (kd q : Nat) : defN (flds k) ⟨#[120]⟩ kd (prts q) (-1) [] [] = 40 := by
  unfold defN; rw [h]; rfl
theorem def_yes (k : Nat) (h : isF (flds k) = true) (h1 : 1 ≤ k) (kd q : Nat) (hk1 : 1 ≤ kd) (hk2 : kd ≤ 7) : defN (flds k) ⟨#[120]⟩ kd (prts q) (-1) [] [] = if countedB kd q = true then 0 else 82 := by
  unfold defN
  rw [if_pos h, prts_len]
  have e1 : comparedB kd (-1) [] = true := by unfold comparedB; rw [if_pos rfl]
  have e2 : (prts q).all (prtOk (flds k) kd []) = true := by
    rw [List.all_eq_true]
    intro p hp
    obtain rfl : p = ⟨0, 0⟩ := List.eq_of_mem_replicate hp
    have e3 : kindAt (flds k) 0 = 3 := by
      unfold kindAt flds
      rw [Int.toNat_zero, List.getElem?_map, List.getElem?_range (by omega)]; rfl
    unfold prtOk partB
    rw [e3, flds_len]
    simp; omega
  rw [e1, e2, if_pos rfl]
  by_cases hc : countedB kd q = true
  · rw [if_pos hc, if_pos ⟨x_named, by omega, by omega, hc, rfl⟩]
  · rw [if_neg hc, if_neg (fun hh => hc hh.2.2.2.1)]
set_option maxHeartbeats 8000000 in
theorem walk_SchemaMany (n p kd : Nat) (hn : n < 256) (hp : p < 256) (hk : kd < 256) (w : World) :
    Gives Try.prog 4 #[.int .u8 n, .int .u8 p, .int .u8 kd] w (.bool true) := by
  obtain ⟨i0, hi0, hi1, hi2, hi3⟩ := info_parts info_fld
  obtain ⟨j0, hj0, hj1, hj2, hj3⟩ := info_parts info_prt
  go_enter Try.func4, Try.ntmps4
  go_wp2_with fail
  refine (known5 _).mono' ?_; intro x0
  go_wp2_with fail
  generalize hX : (n : Int) % 12 = X at *
  obtain ⟨N, rfl⟩ : ∃ N : Nat, X = N := ⟨X.toNat, by omega⟩
  have hN1 : N < 12 := by omega
  clear hX
  generalize hX : (p : Int) % 6 = X at *
  obtain ⟨P, rfl⟩ : ∃ N : Nat, X = N := ⟨X.toNat, by omega⟩
  have hP1 : P < 6 := by omega
  clear hX
  go_loopw [9, 10] (fun v i wr => ∃ k : Nat, k ≤ N ∧ i = .int .i64 k ∧ wr.ownsRow w.heap.size 25 2 v k (rowC fldC (flds k)) ∧ Below w.heap.size w wr) (fun _ i _ => N - (intOf i).toNat)
  case atStart => exact ⟨0, by omega, rfl, World.ownsRow_nil _ _ _ _, (by repeat (first | (with_reducible exact Below.refl _ _) | (with_reducible refine Below.drew ?_) | (with_reducible refine Below.alloc ?_ (by simp [more_size]; try omega) _) | (with_reducible refine Below.setCell ?_ (by simp [more_size]; try omega) _) | (with_reducible refine below_more ?_ _ (by simp [more_size]; try omega))))⟩
  case round =>
    obtain ⟨k, hk1, rfl, hown, hb⟩ := hrel
    have hk2 : k < 12 := by omega
    replace hown := Lib.hid hown
    by_cases hlt : k < N
    · have hlt' : (k : Int) < (N : Int) := by omega
      have hk2' : (k : Int) + 1 ≤ 12 := by omega
      go_wp2_with (first
        | (at_builtin; refine wpList_append_own_at _ rfl _ _ 26 rfl _ 25 i0 _ 2 24 Try.underlying26 hi0 hi1 hi2 hi3 rfl (by decide) u9 k (rowC fldC (flds k)) rfl (own_below hown.out (by repeat (first | (with_reducible exact Below.refl _ _) | (with_reducible refine Below.drew ?_) | (with_reducible refine Below.alloc ?_ (by simp [more_size]; try omega) _) | (with_reducible refine Below.setCell ?_ (by simp [more_size]; try omega) _) | (with_reducible refine below_more ?_ _ (by simp [more_size]; try omega))))) _ 1 1 (fldC (letF k)) rfl (fldC_len _) (cells_at _ (fldC (letF k)) _ (by simp)) (fldC_one _) (by unfold maxLen; omega) (by omega) (by have := hb.size; simp; omega) ?_; intro v1 w1 own1 grow1 _ _)
        | fail)
      have ge1 := own_ge hown.out
      have bb1 : Below w.heap.size w w1 := Below.grown (hb.alloc hb.size _) grow1 (by have := hb.size; simp; omega) ge1
      refine ⟨⟨k + 1, by omega, by go_num, ?_, bb1⟩, by simp [intOf]; omega⟩
      rw [flds_succ, rowC_append, rowC_single]
      exact own1
    · have hlt' : ¬ (k : Int) < (N : Int) := by omega
      obtain rfl : k = N := by omega
      obtain ⟨A, ca, rfl, la, lc, hfl⟩ := fields_own_n (flds_len k) hown.out
      clear hown hlt hlt'
      obtain ⟨W1, rfl⟩ : ∃ W1 : World, W1 = wr := ⟨_, rfl⟩
      have IS := fun W h => isf_any A ca (flds k) (flds_ok k) W (by rw [flds_len]; exact la) lc h
      have DF := fun K W h (B : Option Addr) cb q (hq' : q < 6) hq => def_any A ca (flds k) (flds_ok k) W (by rw [flds_len]; exact la) lc h ⟨#[120]⟩ (by decide) K (-1) B cb (prts q) (by rw [prts_len]; omega) hq none none 0 0 [] [] (by decide) (by decide) (fun j hj => by simp at hj) (fun j hj => by simp at hj)
      rw [flds_len] at IS DF
      replace IS := Lib.hid IS
      replace DF := Lib.hid DF
      replace hfl := Lib.hid hfl
      go_wp2_with fail
      generalize hX : (kd : Int) % 7 = X at *
      obtain ⟨K, rfl⟩ : ∃ N : Nat, X = N := ⟨X.toNat, by omega⟩
      have hK1 : K < 7 := by omega
      clear hX
      have blk0 := Blk.new W1 #[.string ⟨#[120]⟩, .int .i64 (K + 1 : Int), .slice none 0 0, .int .i64 (-1)] 33 rfl
      have be0 : Below W1.heap.size W1 (W1.alloc (.cells #[.string ⟨#[120]⟩, .int .i64 (K + 1 : Int), .slice none 0 0, .int .i64 (-1)] 33)) := (by repeat (first | (with_reducible exact Below.refl _ _) | (with_reducible refine Below.drew ?_) | (with_reducible refine Below.alloc ?_ (by simp [more_size]; try omega) _) | (with_reducible refine Below.setCell ?_ (by simp [more_size]; try omega) _) | (with_reducible refine below_more ?_ _ (by simp [more_size]; try omega))))
      have sz0 : W1.heap.size + 1 ≤ (W1.alloc (.cells #[.string ⟨#[120]⟩, .int .i64 (K + 1 : Int), .slice none 0 0, .int .i64 (-1)] 33)).heap.size := by simp
      generalize W1.alloc (.cells #[.string ⟨#[120]⟩, .int .i64 (K + 1 : Int), .slice none 0 0, .int .i64 (-1)] 33) = w2 at *
      have hgw : Hid (w.heap.size ≤ W1.heap.size) := Lib.hid hb.size
      generalize hG : W1.heap.size = G at *
      go_loopw [12] (fun i wq => ∃ (m : Nat) (v : Value), m ≤ P ∧ i = .int .i64 m ∧ Blk wq G #[.string ⟨#[120]⟩, .int .i64 (K + 1 : Int), v, .int .i64 (-1)] 33 ∧ wq.ownsRow (G + 1) 35 2 v m (rowC prtC (prts m)) ∧ Below G W1 wq ∧ G + 1 ≤ wq.heap.size) (fun i _ => P - (intOf i).toNat)
      case atStart => exact ⟨0, _, by omega, rfl, blk0, World.ownsRow_nil _ _ _ _, be0, sz0⟩
      case round =>
        obtain ⟨m, v, hm1, rfl, blk, own2, be, sz⟩ := hrel
        have c2 : wr.cell? ⟨G, 2, none⟩ = some v := blk.cell 2
        replace own2 := Lib.hid own2
        by_cases hm : m < P
        · have hm' : (m : Int) < (P : Int) := by omega
          have ge2 := own_ge own2.out
          have c3 : (wr.alloc (.cells #[.int .i64 0, .int .i64 0] 35)).cell? ⟨G, 2, none⟩ = some v := (blk.alloc _).cell 2
          go_wp2_with (first
            | (at_builtin; refine wpList_append_own_at _ rfl _ _ 31 rfl _ 35 j0 _ 2 16 Try.underlying31 hj0 hj1 hj2 hj3 rfl (by decide) v m (rowC prtC (prts m)) rfl (own_below own2.out (by repeat (first | (with_reducible exact Below.refl _ _) | (with_reducible refine Below.drew ?_) | (with_reducible refine Below.alloc ?_ (by simp [more_size]; try omega) _) | (with_reducible refine Below.setCell ?_ (by simp [more_size]; try omega) _) | (with_reducible refine below_more ?_ _ (by simp [more_size]; try omega))))) _ 1 1 (prtC ⟨0, 0⟩) rfl (prtC_len _) (cells_at _ (prtC ⟨0, 0⟩) _ (by simp)) (prtC_one _) (by unfold maxLen; omega) (by omega) (by simp; omega) ?_; intro v1 w1 own1 grow1 _ _; have blk1 := (blk.alloc _).grown grow1 (by intro h; have := ge2 G h.symm; omega); have d2 : w1.cell? ⟨G, 2, none⟩ = some v := blk1.cell 2; have f2 := blk1.free 2; obtain ⟨A1, ca1, rfl, _, _, _, _⟩ := own_open own1)
            | fail)
          refine ⟨⟨m + 1, _, by omega, by go_num, blk1.set 2 _, ?_, ?_, ?_⟩, by simp [intOf]; omega⟩
          · refine ownsRow_setCell_below ?_ (by simp) _
            rw [prts_succ, rowC_append, rowC_single]
            exact own1
          · refine Below.setCell (Below.grown (be.alloc (by omega) _) grow1 (by simp; omega) (fun k hk => by have := ge2 k hk; omega)) (by simp) _
          · have := grow1.size; simp at this; simp; omega
        · have hm' : ¬ (m : Int) < (P : Int) := by omega
          obtain rfl : m = P := by omega
          obtain ⟨B, cb, rfl, lb, lc2, hpl⟩ := parts_own_n (prts_len m) own2.out
          clear own2 hm hm'
          have hG' : Hid (W1.heap.size = G) := Lib.hid hG
          clear hG
          have hfw := Lib.hid (hfl.out.below (hG'.out ▸ be))
          have c0 : wr.cell? ⟨G, 0, none⟩ = some (.string ⟨#[120]⟩) := blk.cell 0
          have c1 : wr.cell? ⟨G, 1, none⟩ = some (.int .i64 (K + 1 : Int)) := blk.cell 1
          have c3 : wr.cell? ⟨G, 3, none⟩ = some (.int .i64 (-1)) := blk.cell 3
          have hlt : G < wr.heap.size := by omega
          replace c0 := fun y => (more_cell wr y _ hlt).trans c0
          replace c1 := fun y => (more_cell wr y _ hlt).trans c1
          replace c2 := fun y => (more_cell wr y _ hlt).trans c2
          replace c3 := fun y => (more_cell wr y _ hlt).trans c3
          have bw : Below w.heap.size w wr := hb.trans (be.mono hgw.out)
          replace hpl := Lib.hid hpl
          clear blk blk0 be be0 sz0 hlt hb
          have HK : ∀ z : Int, (z = 40 ∨ z = 0 ∨ z = 82) → DF = DF := fun _ _ => rfl
          clear HK
          by_cases ok : 1 ≤ k ∧ k ≤ 8
          · obtain ⟨ok1, ok2⟩ := ok
            have e1 : isF (flds k) = true := by rw [flds_is k hk2]; simp; omega
            have e2 := def_yes k e1 ok1 (K + 1) m (by omega) (by omega)
            rw [e1] at IS
            have DF' : ∀ W, FieldsIn W A (flds k) → PartsIn W B (prts m) → _ := fun W h1 h2 => DF.out (K + 1 : Int) W h1 B cb m hP1 h2
            rw [prts_len] at DF'
            simp only [List.length_nil] at DF'
            have e3 : defN (flds k) ⟨#[120]⟩ ((K : Int) + 1) (prts m) (-1) [] [] = if countedB ((K : Int) + 1) m = true then 0 else 82 := by have := e2; rwa [Int.natCast_add] at this
            rw [e3] at DF'
            clear e1 e2 e3 DF
            have q1 : (1 : Int) ≤ k := by omega
            have q2 : (k : Int) ≤ 8 := by omega
            have hc := fun K => (show countedB K m = if K = 5 ∨ K = 6 then m == 0 else if K = 7 then m == 1 else decide (1 ≤ m) && decide (m ≤ 3) from rfl)
            rcases (show m = 0 ∨ m = 1 ∨ (2 ≤ m ∧ m ≤ 3) ∨ (3 < m) by omega) with r | r | r | r
            all_goals
              rcases (show K = 4 ∨ K = 5 ∨ K = 6 ∨ K < 4 by omega) with p | p | p | p
            all_goals
              have hcc := hc ((K : Int) + 1)
              first
                | (rw [if_pos (by omega)] at hcc)
                | (rw [if_neg (by omega), if_pos (by omega)] at hcc)
                | (rw [if_neg (by omega), if_neg (by omega)] at hcc)
              have z1 : (((K : Int) + 1 == 5) = true ∧ K = 4) ∨ (((K : Int) + 1 == 5) = false ∧ K ≠ 4) := by rw [beq_iff_eq, beq_eq_false_iff_ne]; omega
              have z2 : (((K : Int) + 1 == 6) = true ∧ K = 5) ∨ (((K : Int) + 1 == 6) = false ∧ K ≠ 5) := by rw [beq_iff_eq, beq_eq_false_iff_ne]; omega
              have z3 : (((K : Int) + 1 == 7) = true ∧ K = 6) ∨ (((K : Int) + 1 == 7) = false ∧ K ≠ 6) := by rw [beq_iff_eq, beq_eq_false_iff_ne]; omega
              have z4 : (((m : Int) == 0) = true ∧ m = 0) ∨ (((m : Int) == 0) = false ∧ m ≠ 0) := by rw [beq_iff_eq, beq_eq_false_iff_ne]; omega
              have z5 : (((m : Int) == 1) = true ∧ m = 1) ∨ (((m : Int) == 1) = false ∧ m ≠ 1) := by rw [beq_iff_eq, beq_eq_false_iff_ne]; omega
              have z6 : ((m : Int) < 1 ∧ m < 1) ∨ ((1 : Int) ≤ m ∧ 1 ≤ m) := by omega
              have z7 : ((3 : Int) < m ∧ 3 < m) ∨ ((m : Int) ≤ 3 ∧ m ≤ 3) := by omega
              have z8 : ((m == 0) = true ∧ m = 0) ∨ ((m == 0) = false ∧ m ≠ 0) := by rw [beq_iff_eq, beq_eq_false_iff_ne]; omega
              have z9 : ((m == 1) = true ∧ m = 1) ∨ ((m == 1) = false ∧ m ≠ 1) := by rw [beq_iff_eq, beq_eq_false_iff_ne]; omega
              have z10 : ((decide (1 ≤ m) && decide (m ≤ 3)) = true ∧ 1 ≤ m ∧ m ≤ 3) ∨ ((decide (1 ≤ m) && decide (m ≤ 3)) = false ∧ ¬ (1 ≤ m ∧ m ≤ 3)) := by
                by_cases h : 1 ≤ m ∧ m ≤ 3
                · exact .inl ⟨by simp [h], h⟩
                · exact .inr ⟨by simp; omega, h⟩
              rcases z1 with ⟨z1, y1⟩ | ⟨z1, y1⟩ <;> first | (exfalso; omega) | skip
              all_goals rcases z2 with ⟨z2, y2⟩ | ⟨z2, y2⟩ <;> first | (exfalso; omega) | skip
              all_goals rcases z3 with ⟨z3, y3⟩ | ⟨z3, y3⟩ <;> first | (exfalso; omega) | skip
              all_goals rcases z4 with ⟨z4, y4⟩ | ⟨z4, y4⟩ <;> first | (exfalso; omega) | skip
              all_goals rcases z5 with ⟨z5, y5⟩ | ⟨z5, y5⟩ <;> first | (exfalso; omega) | skip
              all_goals rcases z6 with ⟨z6, y6⟩ | ⟨z6, y6⟩ <;> first | (exfalso; omega) | skip
              all_goals rcases z7 with ⟨z7, y7⟩ | ⟨z7, y7⟩ <;> first | (exfalso; omega) | skip
              all_goals rcases z8 with ⟨z8, y8⟩ | ⟨z8, y8⟩ <;> first | (exfalso; omega) | skip
              all_goals rcases z9 with ⟨z9, y9⟩ | ⟨z9, y9⟩ <;> first | (exfalso; omega) | skip
              all_goals rcases z10 with ⟨z10, y10⟩ | ⟨z10, y10⟩ <;> first | (exfalso; omega) | skip
              all_goals
                simp only [z8, z9, z10] at hcc
                rw [hcc] at DF'
                simp only [if_true, Bool.false_eq_true, if_false] at DF'
                replace DF' := Lib.hid DF'
                clear hcc hc y1 y2 y3 y4 y5 y8 y9 y10 r p z8 z9 z10 y6 y7
                go_wp2_with fail
                refine (IS.out _ hfw.out).mono' ?_; intro x1
                go_wp2_with fail
                refine (DF'.out _ (hfw.out.more _) (hpl.out.below (more_below _ _))).mono' ?_; intro x2
                go_wp2
                go_ret
                refine ⟨?_, more_of_below (below_more bw _ bw.size)⟩
                first | rfl | exact ret_bool (a := !decide ((m : Int) ≤ 3)) (b := true) (by simp; omega)
          · have e1 : isF (flds k) = false := by rw [flds_is k hk2]; simp; omega
            have e2 := def_no k e1 (K + 1) m
            rw [e1] at IS
            have DF' : ∀ W, FieldsIn W A (flds k) → PartsIn W B (prts m) → _ := fun W h1 h2 => DF.out (K + 1 : Int) W h1 B cb m hP1 h2
            rw [prts_len] at DF'
            simp only [List.length_nil] at DF'
            have e3 : defN (flds k) ⟨#[120]⟩ ((K : Int) + 1) (prts m) (-1) [] [] = 40 := by have := def_no k e1 (K + 1) m; rwa [Int.natCast_add] at this
            rw [e3] at DF'
            replace DF' := Lib.hid DF'
            clear e1 e2 e3 DF
            rcases (show k < 1 ∨ (1 ≤ k ∧ ¬ k ≤ 8) by omega) with q1 | ⟨q1, q2⟩
            · have q1' : (k : Int) < 1 := by omega
              go_wp2_with fail
              refine (IS.out _ hfw.out).mono' ?_; intro x1
              go_wp2_with fail
              refine (DF'.out _ (hfw.out.more _) (hpl.out.below (more_below _ _))).mono' ?_; intro x2
              go_wp2
              go_ret
              exact ⟨rfl, more_of_below (below_more bw _ bw.size)⟩
            · have q1' : (1 : Int) ≤ k := by omega
              have q2' : ¬ (k : Int) ≤ 8 := by omega
              go_wp2_with fail
              refine (IS.out _ hfw.out).mono' ?_; intro x1
              go_wp2_with fail
              refine (DF'.out _ (hfw.out.more _) (hpl.out.below (more_below _ _))).mono' ?_; intro x2
              go_wp2
              go_ret
              exact ⟨rfl, more_of_below (below_more bw _ bw.size)⟩
theorem law_SchemaMany (v0 v1 v2 : Value) (w : World) (h0 : IsU8 v0) (h1 : IsU8 v1) (h2 : IsU8 v2) :
    Calls Try.prog 4 #[v0, v1, v2] w fun e w' => e = .returned (.bool true) ∧ Below w.heap.size w w' := by
  obtain ⟨a, rfl, ha⟩ := h0
  obtain ⟨b, rfl, hb⟩ := h1
  obtain ⟨c, rfl, hc⟩ := h2
  exact law_of (walk_SchemaMany a b c ha hb hc w)
end Go.Proofs.Ytilpgojkbgbinaa
