/- The document's rows: New, Insert, Get. -/
import Derived.Test.YtilpgojkbgbinaaRef9P
set_option maxRecDepth 100000
set_option linter.unusedVariables false
set_option linter.unusedSimpArgs false
namespace Go.Proofs.Ytilpgojkbgbinaa
open Go.RowKit
open Go.Maps (has size Keyed int_keyed keyOf_int_mk)
attribute [local go_sem] run_frombits run_tobits more_more more_drew more_drewN more_size more_cell more_frozen run_store_float lt_c1 le_c1 lt_s1 le_s1 lt_c2 le_c2 lt_s2 le_s2 lt_c3 le_c3 lt_s3 le_s3 lt_c4 le_c4 lt_s4 le_s4 lt_c5 le_c5 lt_s5 le_s5 lt_c6 le_c6 lt_s6 le_s6 lt_c7 le_c7 lt_s7 le_s7 lt_c8 le_c8 lt_s8 le_s8 lt_c9 le_c9 lt_s9 le_s9 lt_c10 le_c10 lt_s10 le_s10 lt_c11 le_c11 lt_s11 le_s11 lt_c12 le_c12 lt_s12 le_s12 le_c0
variable {w w' : World} {pr : Nat} {G G' Y : Nat → Prop} {A : Option Addr} {cap : Nat} {L : List Slt} {mx nx : Int}
set_option maxHeartbeats 1000000 in
theorem ref_new (room : Int) (w : World) : Calls Try.prog 61 #[.int .i64 room] w fun e w' => ∃ pr, e = .returned (.pointer (some ⟨pr, 0, none⟩)) ∧ RM w' pr (fun k => k = pr) none 0 [] (min (max room 0) 200) 1 ∧ Below w.heap.size w w' ∧ w.heap.size ≤ pr := by
  have mk : ∀ k : Int, RM (w.alloc (.cells #[.slice none 0 0, .int .i64 k, .int .i64 1] 120)) w.heap.size (fun j => j = w.heap.size) none 0 [] k 1 := fun k =>
    ⟨Blk.new _ _ _ rfl, World.ownsRow_nil _ _ _ _, fun s hs => (by cases hs), rfl, fun k e => (by simp [Value.ownBlock] at e), fun k hk => (by rw [hk]; simp)⟩
  replace mk := Lib.hid mk
  go_enter Try.func61, Try.ntmps61
  go_wp2
  go_ret
  exact ⟨_, rfl, (by rw [show max 0 (min room 200) = min (max room 0) 200 by omega]; exact mk.out _), (by repeat (first | (with_reducible exact Below.refl _ _) | (with_reducible refine Below.drew ?_) | (with_reducible refine Below.alloc ?_ (by simp [more_size]; try omega) _) | (with_reducible refine Below.setCell ?_ (by simp [more_size]; try omega) _) | (with_reducible refine below_more ?_ _ (by simp [more_size]; try omega)))), Nat.le_refl _⟩
set_option maxHeartbeats 1000000 in
theorem ref_insert_no (h : RM w pr G A cap L mx nx) (v : Value) (hn : mx ≤ (L.length : Int)) :
    Calls Try.prog 63 #[.pointer (some ⟨pr, 0, none⟩), v] w fun e w' => e = .returned (.tuple #[.int .i64 0, .int .i64 70]) ∧ Below w.heap.size w w' := by
  have c0 : w.cell? ⟨pr, 0, none⟩ = some (.slice A L.length cap) := h.box.cell 0
  have c1 : w.cell? ⟨pr, 1, none⟩ = some (.int .i64 mx) := h.box.cell 1
  clear h
  go_enter Try.func63, Try.ntmps63
  go_wp2_with fail
  go_region
  go_wp2
  go_ret2
  exact ⟨rfl, (by repeat (first | (with_reducible exact Below.refl _ _) | (with_reducible refine Below.drew ?_) | (with_reducible refine Below.alloc ?_ (by simp [more_size]; try omega) _) | (with_reducible refine Below.setCell ?_ (by simp [more_size]; try omega) _) | (with_reducible refine below_more ?_ _ (by simp [more_size]; try omega))))⟩
theorem rcopy_any (A : Option Addr) (ca : Nat) (l : List Val) (w : World) (la : l.length ≤ 1000) (hA : A = none → ca = 0 ∧ l.length = 0) (ha : ValsIn w A l) :
    Calls Try.prog 100 #[.slice A l.length ca] w fun e w' => ∃ vA vc, e = .returned (.slice vA l.length vc) ∧ w'.ownsRow w.heap.size 103 4 (.slice vA l.length vc) l.length (cellsOf l) ∧ Below w.heap.size w w' := by
  obtain ⟨i0, hi, hz0, hz1, hz2⟩ := info_parts info_val
  have hn := Lib.hid (show ∀ ad, A = some ad → ∀ j u, (cellsOf l)[j]? = some u → w.cell? (ad.add j) = some u from vals_news ha)
  have nil := Lib.hid (World.ownsRow_nil w w.heap.size 103 4)
  clear ha
  go_enter Try.func100, Try.ntmps100
  go_wp2_with (first
    | (at_builtin; refine wpList_append_row rfl _ _ 43 rfl w.heap.size 103 i0 _ 4 40 Try.underlying43 hi hz0 hz1 hz2 rfl (by decide) (.slice none 0 0) 0 [] rfl nil.out A l.length ca (cellsOf l) rfl hA (cellsOf_length l) hn.out (cellsOf_one l) (by unfold maxLen; omega) (by omega) (Nat.le_refl _) ?_; intro v2 W2 own2 grow2 loc2)
    | fail)
  rw [Nat.zero_add, List.nil_append] at own2
  obtain ⟨A2, c2, rfl⟩ := own_form9 own2
  go_ret
  exact ⟨_, _, rfl, own2, grow2.os, grow2.tape, grow2.output, grow2.size, fun j hj => grow2.block j hj (by simp [Value.ownBlock])⟩
set_option maxHeartbeats 2000000 in
theorem ref_insert_ok (h : RM w pr G A cap L mx nx) (hL : L.length ≤ 1000) (B : Option Addr) (ca : Nat) (l : List Val) (hl : l.length ≤ 1000) (hA : B = none → ca = 0 ∧ l.length = 0) (ha : ValsIn w B l) (hnx : -9223372036854775808 ≤ nx ∧ nx + 1 < 9223372036854775808) (hn : (L.length : Int) < mx) :
    Calls Try.prog 63 #[.pointer (some ⟨pr, 0, none⟩), .slice B l.length ca] w fun e w' => e = .returned (.tuple #[.int .i64 nx, .int .i64 0]) ∧ ∃ k vA vc A' cap' G', AtK L nx k ∧ RM w' pr G' A' cap' (L.take k ++ ⟨nx, 1, vA, vc, l⟩ :: L.drop k) mx (nx + 1) ∧ Chg (fun k => k = pr) w w' ∧ Grew w G G' := by
  have c0 : w.cell? ⟨pr, 0, none⟩ = some (.slice A L.length cap) := h.box.cell 0
  have c1 : w.cell? ⟨pr, 1, none⟩ = some (.int .i64 mx) := h.box.cell 1
  have c2 : w.cell? ⟨pr, 2, none⟩ = some (.int .i64 nx) := h.box.cell 2
  have CP := Lib.hid (fun W (hB : Below w.heap.size w W) => rcopy_any B ca l W hl hA (ha.below hB))
  have PT := Lib.hid (fun W (hB : Below w.heap.size w W) s => put_any9 (h.below hB) hL s)
  have hb := Lib.hid h.box
  have hpr := h.box.lt
  have hn' : (mx ≤ (L.length : Int)) = False := eq_false (by omega)
  have hh := Lib.hid h
  clear ha h hn
  go_enter Try.func63, Try.ntmps63
  go_wp2_with fail
  go_region
  go_wp2_with fail
  refine wp_named9 (R := fun W => Below w.heap.size w W ∧ W.cell? ⟨pr, 2, none⟩ = some (.int .i64 nx)) ⟨(by repeat (first | (with_reducible exact Below.refl _ _) | (with_reducible refine Below.drew ?_) | (with_reducible refine Below.alloc ?_ (by simp [more_size]; try omega) _) | (with_reducible refine Below.setCell ?_ (by simp [more_size]; try omega) _) | (with_reducible refine below_more ?_ _ (by simp [more_size]; try omega)))), c2⟩ ?_
  rintro W1 ⟨hB1, c3⟩
  go_region_law (first
    | (go_simp; go_at_call 100; refine (CP.out W1.drew (Below.drew hB1)).mono ?_; rintro e W2 ⟨vA, vc, rfl, own2, hB2⟩; have c4 : W2.cell? ⟨pr, 2, none⟩ = some (.int .i64 nx) := (hB2.cell (p := ⟨pr, 2, none⟩) (Nat.lt_of_lt_of_le hpr hB1.size)).trans c3; have hB3 := (Below.drew hB1).trans (hB2.mono hB1.size))
    | (go_simp; go_at_call 99; refine (PT.out W2 hB3 ⟨nx, 1, vA, vc, l⟩).mono ?_; rintro e W3 ⟨rfl, k, V, A', cap', hk, hV, rfl, own3⟩))
  all_goals
    have hll : (L.take k ++ (⟨nx, 1, vA, vc, l⟩ : Slt) :: L.drop k).length = L.length + 1 := by have := hk.1; simp; omega
    have hR := hh.out.rows (hB3.trans (hV.mono hB3.size)) (A' := A') (cap' := cap') (L' := L.take k ++ ⟨nx, 1, vA, vc, l⟩ :: L.drop k) (by rw [hll]; exact own_lower own3 hB3.size) (by
      intro s hs
      rcases List.mem_append.1 hs with q | q
      · exact .inl (List.mem_of_mem_take q)
      · rcases List.mem_cons.1 q with rfl | q
        · refine .inr ⟨fun e => ?_, hl, ?_, fun x e => ?_⟩
          · dsimp only at e ⊢
            rcases own2.2 with ⟨e2, e3⟩ | ⟨g, cp, cur, e2, _⟩
            · injection e2 with _ _ e4; exact ⟨e4, e3⟩
            · injection e2 with e4; rw [e] at e4; cases e4
          · obtain ⟨A9, c9, e9, _, _, _, hv9⟩ := own_vals own2
            injection e9 with e9
            subst e9
            exact hv9.below hV
          · dsimp only at e
            subst e
            have a1 := own_ge own2 x.block rfl
            have a2 := own_lt9 own2 x.block rfl
            have a3 := hB1.size
            have a4 := hV.size
            simp at a1
            omega
        · exact .inl (List.mem_of_mem_drop q))
    rw [hll] at hR
    obtain ⟨hR1, hR2⟩ := hR
    replace hk := Lib.hid hk
    have hGr : Hid (Grew w G (fun k => G k ∨ (w.heap.size ≤ k ∧ k < V.heap.size))) := Lib.hid ⟨fun k h => .inl h, fun k h => h.imp (fun h => h) (fun h => h.1)⟩
    clear own2 own3 hB2 hB3 hB1 CP PT hb hh c0 c1 c2 c3 c4 hll
    generalize (fun k => G k ∨ (w.heap.size ≤ k ∧ k < V.heap.size)) = G2 at *
    clear hV
    generalize V.setCell ⟨pr, 0, none⟩ (.slice A' (L.length + 1) cap') = W4 at *
    have d2 : W4.cell? ⟨pr, 2, none⟩ = some (.int .i64 nx) := hR1.box.cell 2
    have f2 := hR1.box.free 2
    have s2 := World.cell?_setCell_same W4 ⟨pr, 2, none⟩ (.int .i64 (nx + 1)) d2
    have hw1 : wrap64 (nx + 1) = nx + 1 := by unfold wrap64; omega
    have hw2 : wrap64 (nx + 1 - 1) = nx := by unfold wrap64; omega
    have hw3 : wrap64 nx = nx := by unfold wrap64; omega
    have fin := Lib.hid (hR1.next' (nx + 1))
    replace hR2 := Lib.hid hR2
    clear hR1
    go_simp
    go_wp2
    go_ret2
    exact ⟨rfl, k, hk.out, vA, vc, _, _, _, fin.out.1, hR2.out.then fin.out.2, hGr.out⟩
end Go.Proofs.Ytilpgojkbgbinaa
