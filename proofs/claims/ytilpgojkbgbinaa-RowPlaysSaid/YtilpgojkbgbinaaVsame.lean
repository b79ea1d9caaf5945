/- Rows of values held against themselves; copies; what a slice of one's own is written into. -/
import Derived.Test.YtilpgojkbgbinaaHashR
import Derived.Test.YtilpgojkbgbinaaStoAll
set_option maxRecDepth 100000
set_option linter.unusedVariables false
set_option linter.unusedSimpArgs false
namespace Go.Proofs.Ytilpgojkbgbinaa
open Go.RowKit
open Go.Maps (has size Keyed int_keyed keyOf_int_mk)
attribute [local go_sem] run_frombits run_tobits more_more more_drew more_drewN more_size more_cell more_frozen run_store_float lt_c1 le_c1 lt_s1 le_s1 lt_c2 le_c2 lt_s2 le_s2 lt_c3 le_c3 lt_s3 le_s3 lt_c4 le_c4 lt_s4 le_s4 lt_c5 le_c5 lt_s5 le_s5 lt_c6 le_c6 lt_s6 le_s6 lt_c7 le_c7 lt_s7 le_s7 lt_c8 le_c8 lt_s8 le_s8 lt_c9 le_c9 lt_s9 le_s9 lt_c10 le_c10 lt_s10 le_s10 lt_c11 le_c11 lt_s11 le_s11 lt_c12 le_c12 lt_s12 le_s12 le_c0
theorem rowsV_self9 : ∀ l : List Val, allOk l → rowsV l l = 0
  | [], _ => rfl
  | a :: l, h => by
    unfold rowsV
    rw [rowsV_self9 l (fun x hx => h x (List.mem_cons_of_mem _ hx))]
    have : cmpV a a = 0 := cmpV_refl a
    rw [this]; rfl
set_option maxHeartbeats 1000000 in
theorem vals_same9 (A B : Option Addr) (ca cb : Nat) (l : List Val) (hl : allOk l) (w : World) (la : l.length ≤ 9223372036854775807) (ha : ValsIn w A l) (hb : ValsIn w B l) :
    Gives Try.prog 31 #[.slice A l.length ca, .slice B l.length cb] w (.bool true) := by
  have R := rows_ref A B ca cb l l hl hl w la la ha hb
  rw [rowsV_self9 l hl] at R
  replace R := Lib.hid R
  clear ha hb hl
  go_enter Try.func31, Try.ntmps31
  go_wp2_with fail
  refine R.out.mono' ?_; intro x
  go_wp2
  go_ret
  exact ⟨rfl, _, rfl⟩
section
variable {X : Nat → Prop} {w0 w w' : World} {p : Nat} {g : Int → Option Row9} {n : Nat} {mx nx wr : Int}
theorem insertV (h : StI X w0 w p g n mx nx wr) {ga ca : Nat} {l : List Val} (hl : l.length ≤ 1000) (ho : ownV w ga ca l) (hX : X ga) (hnx : nx + 1 < 9223372036854775808) (hw : -9223372036854775808 ≤ wr + 1 ∧ wr + 1 < 9223372036854775808) (hn : (n : Int) < mx) :
    Calls Try.prog 34 #[.pointer (some ⟨p, 0, none⟩), .slice (some ⟨ga, 0, none⟩) l.length ca] w fun e w' => e = .returned (.tuple #[.int .i64 nx, .int .i64 0]) ∧ StI X w0 w' p (upd g nx (some (1, l))) (n + 1) mx (nx + 1) (wr + 1) ∧ ∀ k, X k → w'.heap[k]? = w.heap[k]? := by
  obtain ⟨F, h1, h2, h3, h4⟩ := h
  refine (insert_ok h1 (some ⟨ga, 0, none⟩) ca l hl (fun e => by cases e) (ownV_in ho) (fun x e c => by cases e; exact (h4 ga hX).2 c) hnx hw hn).mono ?_
  rintro e w' ⟨rfl, F', k1, k2, k3⟩
  obtain ⟨q1, q2⟩ := StI.step (X := X) (w0 := w0) k1 k2 k3 h2 h3 h4
  exact ⟨rfl, q1, q2⟩
theorem copyV (A : Option Addr) (ca : Nat) (l : List Val) (h0 : 0 < l.length) (lc : ca ≤ 9223372036854775807) (la : l.length ≤ 1000) (hA : A = none → ca = 0 ∧ l.length = 0) (ha : ValsIn w A l) :
    Calls Try.prog 59 #[.slice A l.length ca] w fun e w' => ∃ gm cm, e = .returned (.slice (some ⟨gm, 0, none⟩) l.length cm) ∧ ownV w' gm cm l ∧ w.heap.size ≤ gm ∧ gm < w'.heap.size ∧ Below w.heap.size w w' := by
  refine (copy_any A ca l w (by omega) (fun e => ⟨(hA e).1, List.eq_nil_of_length_eq_zero (hA e).2⟩) ha).mono ?_
  rintro e w' ⟨v, rfl, own, hB⟩
  have own2 := own
  rcases own.2 with ⟨_, e⟩ | ⟨gm, cm, cur, rfl, hge, hgg, _⟩
  · omega
  · exact ⟨gm, cm, rfl, own_lower own2 (Nat.zero_le _), hge, (Array.getElem?_eq_some_iff.1 hgg).1, hB⟩
theorem ownV_cells {ga ca : Nat} {l : List Val} (h : ownV w ga ca l) {i : Nat} (hi : i < l.length) : (∀ o, w.frozen? ⟨ga, o, none⟩ = false) ∧ (∃ u, w.cell? ⟨ga, i * 4, none⟩ = some u) ∧ (∃ u, w.cell? ⟨ga, i * 4 + 1, none⟩ = some u) ∧ (∃ u, w.cell? ⟨ga, i * 4 + 2, none⟩ = some u) ∧ (∃ u, w.cell? ⟨ga, i * 4 + 3, none⟩ = some u) := by
  refine ⟨fun o => own_free h rfl o, ?_⟩
  obtain ⟨b, off, e, _, hc⟩ := (ownV_in h) i hi
  injection e with e
  injection e with e e2
  subst e e2
  obtain ⟨c0, c1, c2, c3⟩ := hc i hi
  simp only [Nat.zero_add] at c0 c1 c2 c3
  exact ⟨⟨_, c0⟩, ⟨_, c1⟩, ⟨_, c2⟩, ⟨_, c3⟩⟩
theorem allI (h : StI X w0 w p g n mx nx wr) :
    Calls Try.prog 60 #[.pointer (some ⟨p, 0, none⟩)] w fun e w' => ∃ v R, e = .returned v ∧ w'.ownsRow w.heap.size 63 3 v R.length (rowC sltC R) ∧ Below w.heap.size w w' ∧ (∀ s ∈ R, Told w' w.heap.size v g s) ∧ (R.map Slt.id).Pairwise (· < ·) ∧ ∀ id, g id ≠ none ↔ id ∈ R.map Slt.id := by
  obtain ⟨F, h1, h2, h3, h4⟩ := h
  exact all_any h1
end
end Go.Proofs.Ytilpgojkbgbinaa
