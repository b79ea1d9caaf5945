/- Package row: Insert, Replace, Erase, over what a store holds. -/
import Derived.Test.YtilpgojkbgbinaaStoG
set_option maxRecDepth 100000
set_option linter.unusedVariables false
set_option linter.unusedSimpArgs false
namespace Go.Proofs.Ytilpgojkbgbinaa
open Go.RowKit
open Go.Maps (has size Keyed int_keyed keyOf_int_mk)
attribute [local go_sem] run_frombits run_tobits more_more more_drew more_drewN more_size more_cell more_frozen run_store_float lt_c1 le_c1 lt_s1 le_s1 lt_c2 le_c2 lt_s2 le_s2 lt_c3 le_c3 lt_s3 le_s3 lt_c4 le_c4 lt_s4 le_s4 lt_c5 le_c5 lt_s5 le_s5 lt_c6 le_c6 lt_s6 le_s6 lt_c7 le_c7 lt_s7 le_s7 lt_c8 le_c8 lt_s8 le_s8 lt_c9 le_c9 lt_s9 le_s9 lt_c10 le_c10 lt_s10 le_s10 lt_c11 le_c11 lt_s11 le_s11 lt_c12 le_c12 lt_s12 le_s12 le_c0
/-- a store whose next number is about to be nx' -/
def StoreMid (w : World) (p : Nat) (F : Nat → Prop) (g : Int → Option Row9) (n : Nat) (mx nx nx' wr : Int) : Prop :=
  ∃ sl cap S M pf a m D, SM w F p sl cap S M pf a m D mx nx wr ∧ Log S m D g n mx nx'
section
variable {w w' : World} {F F' G : Nat → Prop} {p : Nat} {g : Int → Option Row9} {n : Nat} {mx nx wr : Int}
theorem len_any9 (h : StoreAt w p F g n mx nx wr) : Calls Try.prog 36 #[.pointer (some ⟨p, 0, none⟩)] w fun e w' => e = .returned (.int .i64 n) ∧ w = w' := by
  obtain ⟨sl, cap, S, M, pf, a, m, D, h1, h2⟩ := h
  have := len_mem h1
  rwa [h2.sz] at this
theorem next_any9 (h : StoreAt w p F g n mx nx wr) : Calls Try.prog 56 #[.pointer (some ⟨p, 0, none⟩)] w fun e w' => e = .returned (.int .i64 nx) ∧ w = w' := by
  obtain ⟨sl, cap, S, M, pf, a, m, D, h1, h2⟩ := h
  exact next_mem h1
theorem writes_any9 (h : StoreAt w p F g n mx nx wr) : Calls Try.prog 62 #[.pointer (some ⟨p, 0, none⟩)] w fun e w' => e = .returned (.int .i64 wr) ∧ w = w' := by
  obtain ⟨sl, cap, S, M, pf, a, m, D, h1, h2⟩ := h
  exact writes_mem h1
theorem new_any9 (room : Int) (w : World) : Calls Try.prog 33 #[.int .i64 room] w fun e w' => ∃ p F, e = .returned (.pointer (some ⟨p, 0, none⟩)) ∧ StoreAt w' p F (fun _ => none) 0 (min (max room 0) 200) 1 0 ∧ Below w.heap.size w w' ∧ ∀ k, F k → w.heap.size ≤ k :=
  (new_mem room w).mono fun e w' ⟨p, F, M, pf, h1, h2, h3, h4⟩ => ⟨p, F, h1, ⟨_, _, _, _, _, _, _, _, h2, log_new _ (by omega) (by omega)⟩, h3, h4⟩
theorem adds_ok (h : StoreAt w p F g n mx nx wr) {id ver : Int} (A : Option Addr) (ca : Nat) (l : List Val) (wfi : (Lit.int .i64 id).wf = true) (hl : l.length ≤ 1000) (hA : A = none → ca = 0 ∧ l.length = 0) (ha : ValsIn w A l) (hAF : ∀ x, A = some x → ¬ F x.block) (hw : -9223372036854775808 ≤ wr + 1 ∧ wr + 1 < 9223372036854775808)
    (hn : (n : Int) < mx) (hg : g id = none) {nx' : Int} (h1 : 1 ≤ id ∧ id < nx') (h2 : nx ≤ nx') :
    Calls Try.prog 84 #[.pointer (some ⟨p, 0, none⟩), .agg #[.int .i64 id, .int .i64 ver, .slice A l.length ca]] w fun e w' => e = .returned (.int .i64 0) ∧ ∃ F', StoreMid w' p F' (upd g id (some (ver, l))) (n + 1) mx nx nx' (wr + 1) ∧ Chg F w w' ∧ Grew w F F' := by
  obtain ⟨sl, cap, S, M, pf, a, m, D, hS, hL⟩ := h
  have e1 := hL.sz
  have e2 := hL.le
  have e3 := hL.mx2
  by_cases hm : m = []
  · subst hm
    refine (adds_new hS id ver A ca l wfi hl hA ha hAF hw (by omega) (by omega) rfl (by omega)).mono ?_
    rintro e w' ⟨rfl, F5, A5, sl5, ca5, cap5, k1, k2, k3⟩
    exact ⟨rfl, F5, ⟨_, _, _, _, _, _, _, _, k1, hL.new hn hg h1 h2⟩, k2, k3⟩
  · refine (adds_free hS id ver A ca l wfi hl hA ha hAF hw (by omega) (by omega) hm hL.mS (by omega)).mono ?_
    rintro e w' ⟨rfl, kn, F5, A5, ca5, hk, k1, k2, k3⟩
    exact ⟨rfl, F5, ⟨_, _, _, _, _, _, _, _, k1, hL.free hk hg h1 h2⟩, k2, k3⟩
theorem adds_no (h : StoreAt w p F g n mx nx wr) {id ver : Int} (A : Option Addr) (ca : Nat) (l : List Val) (wfi : (Lit.int .i64 id).wf = true) (hl : l.length ≤ 1000) (hA : A = none → ca = 0 ∧ l.length = 0) (ha : ValsIn w A l) (hAF : ∀ x, A = some x → ¬ F x.block) (hn : mx ≤ (n : Int)) :
    Calls Try.prog 84 #[.pointer (some ⟨p, 0, none⟩), .agg #[.int .i64 id, .int .i64 ver, .slice A l.length ca]] w fun e w' => e = .returned (.int .i64 70) ∧ Below w.heap.size w w' := by
  obtain ⟨sl, cap, S, M, pf, a, m, D, hS, hL⟩ := h
  exact adds_full hS id ver A ca l wfi hl hA ha hAF (by rw [hL.sz]; exact hn)
set_option maxHeartbeats 1000000 in
theorem insert_no (h : StoreAt w p F g n mx nx wr) (A : Option Addr) (ca : Nat) (l : List Val) (hl : l.length ≤ 1000) (hA : A = none → ca = 0 ∧ l.length = 0) (ha : ValsIn w A l) (hAF : ∀ x, A = some x → ¬ F x.block) (hnx : nx < 9223372036854775808) (hn : mx ≤ (n : Int)) :
    Calls Try.prog 34 #[.pointer (some ⟨p, 0, none⟩), .slice A l.length ca] w fun e w' => e = .returned (.tuple #[.int .i64 0, .int .i64 70]) ∧ Below w.heap.size w w' := by
  have h1 := h.le
  have AD := Lib.hid (adds_no (ver := 1) h A ca l (id := nx) (WalkArith.wf_i64 (by omega)) hl hA ha hAF hn)
  obtain ⟨sl, cap, S, M, pf, a, m, D, hS, hL⟩ := h
  have c4 : w.cell? ⟨p, 4, none⟩ = some (.int .i64 nx) := hS.box.cell 4
  clear hS hL h1 hnx hn
  go_enter Try.func34, Try.ntmps34
  go_wp2_with fail
  refine AD.out.mono ?_
  rintro e w1 ⟨rfl, hB⟩
  go_wp2
  go_ret2
  exact ⟨rfl, hB⟩
set_option maxHeartbeats 1000000 in
theorem insert_ok (h : StoreAt w p F g n mx nx wr) (A : Option Addr) (ca : Nat) (l : List Val) (hl : l.length ≤ 1000) (hA : A = none → ca = 0 ∧ l.length = 0) (ha : ValsIn w A l) (hAF : ∀ x, A = some x → ¬ F x.block) (hnx : nx + 1 < 9223372036854775808) (hw : -9223372036854775808 ≤ wr + 1 ∧ wr + 1 < 9223372036854775808) (hn : (n : Int) < mx) :
    Calls Try.prog 34 #[.pointer (some ⟨p, 0, none⟩), .slice A l.length ca] w fun e w' => e = .returned (.tuple #[.int .i64 nx, .int .i64 0]) ∧ ∃ F', StoreAt w' p F' (upd g nx (some (1, l))) (n + 1) mx (nx + 1) (wr + 1) ∧ Chg F w w' ∧ Grew w F F' := by
  have h1 := h.le
  have hgn : g nx = none := by
    cases hc : g nx with
    | none => rfl
    | some r => exact absurd (h.rng nx (by rw [hc]; simp)).2 (by omega)
  have AD := Lib.hid (adds_ok (ver := 1) h A ca l (id := nx) (WalkArith.wf_i64 (by omega)) hl hA ha hAF hw hn hgn (nx' := nx + 1) (by omega) (by omega))
  have hnw : IntKind.i64.wrap (nx + 1) = nx + 1 := IntWalk.i64_in _ (by omega)
  obtain ⟨sl, cap, S, M, pf, a, m, D, hS, hL⟩ := h
  have c4 : w.cell? ⟨p, 4, none⟩ = some (.int .i64 nx) := hS.box.cell 4
  clear hS hL h1 hnx hn hw hgn
  go_enter Try.func34, Try.ntmps34
  go_wp2_with fail
  refine AD.out.mono ?_
  rintro e w1 ⟨rfl, F1, ⟨sl, cap, S, M, pf, a, m, D, hS, hL⟩, hC, hG⟩
  have d4 : w1.cell? ⟨p, 4, none⟩ = some (.int .i64 nx) := hS.box.cell 4
  have f4 := hS.box.free 4
  have fin := Lib.hid (show StoreAt (w1.setCell ⟨p, 4, none⟩ (.int .i64 (nx + 1))) p F1 (upd g nx (some (1, l))) (n + 1) mx (nx + 1) (wr + 1) ∧ Chg F w (w1.setCell ⟨p, 4, none⟩ (.int .i64 (nx + 1))) ∧ Grew w F F1 from ⟨⟨_, _, _, _, _, _, _, _, (hS.next' (nx + 1)).1, hL⟩, hC.trans hG (hS.next' (nx + 1)).2, hG⟩)
  clear hS hL hC hG AD
  go_wp2
  go_ret2
  exact ⟨rfl, _, fin.out⟩
end
end Go.Proofs.Ytilpgojkbgbinaa
