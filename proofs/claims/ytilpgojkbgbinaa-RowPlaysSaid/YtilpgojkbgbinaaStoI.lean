/- Package row: a store of a statement's own. -/
import Derived.Test.YtilpgojkbgbinaaStoX
set_option maxRecDepth 100000
set_option linter.unusedVariables false
set_option linter.unusedSimpArgs false
namespace Go.Proofs.Ytilpgojkbgbinaa
open Go.RowKit
open Go.Maps (has size Keyed int_keyed keyOf_int_mk)
attribute [local go_sem] run_frombits run_tobits more_more more_drew more_drewN more_size more_cell more_frozen run_store_float lt_c1 le_c1 lt_s1 le_s1 lt_c2 le_c2 lt_s2 le_s2 lt_c3 le_c3 lt_s3 le_s3 lt_c4 le_c4 lt_s4 le_s4 lt_c5 le_c5 lt_s5 le_s5 lt_c6 le_c6 lt_s6 le_s6 lt_c7 le_c7 lt_s7 le_s7 lt_c8 le_c8 lt_s8 le_s8 lt_c9 le_c9 lt_s9 le_s9 lt_c10 le_c10 lt_s10 le_s10 lt_c11 le_c11 lt_s11 le_s11 lt_c12 le_c12 lt_s12 le_s12 le_c0
/-- a store that a statement made behind w0; the blocks X are the statement's own -/
def StI (X : Nat → Prop) (w0 w : World) (p : Nat) (g : Int → Option Row9) (n : Nat) (mx nx wr : Int) : Prop :=
  ∃ F, StoreAt w p F g n mx nx wr ∧ Below w0.heap.size w0 w ∧ (∀ k, F k → w0.heap.size ≤ k) ∧ (∀ k, X k → k < w.heap.size ∧ ¬ F k)
def numL (v : Int) : List Val := [⟨1, v, ⟨#[]⟩, 0⟩]
abbrev numO (v : Int) : Obj := .cells #[.int .i64 1, .int .i64 v, .string ⟨#[]⟩, .float .f64 0] 103
section
variable {X Y : Nat → Prop} {w0 w w' : World} {p : Nat} {g : Int → Option Row9} {n : Nat} {mx nx wr : Int}
theorem StI.step {F F' : Nat → Prop} {g' : Int → Option Row9} {n' : Nat} {nx' wr' : Int} (h1 : StoreAt w' p F' g' n' mx nx' wr') (hC : Chg F w w') (hG : Grew w F F') (hB : Below w0.heap.size w0 w) (hF : ∀ k, F k → w0.heap.size ≤ k) (hX : ∀ k, X k → k < w.heap.size ∧ ¬ F k) :
    StI X w0 w' p g' n' mx nx' wr' ∧ ∀ k, X k → w'.heap[k]? = w.heap[k]? :=
  ⟨⟨F', h1, hB.trans (hC.below hF hB.size), fun k hk => (hG.2 k hk).elim (hF k) (fun q => Nat.le_trans hB.size q), fun k hk => ⟨Nat.lt_of_lt_of_le (hX k hk).1 hC.size, fun c => (hG.2 k c).elim (hX k hk).2 (fun q => by have := (hX k hk).1; omega)⟩⟩, fun k hk => hC.block k (hX k hk).1 (hX k hk).2⟩
theorem StI.below (h : StI X w0 w p g n mx nx wr) (hb : Below w.heap.size w w') : StI X w0 w' p g n mx nx wr := by
  obtain ⟨F, h1, h2, h3, h4⟩ := h
  exact ⟨F, h1.below hb, h2.trans (hb.mono h2.size), h3, fun k hk => ⟨Nat.lt_of_lt_of_le (h4 k hk).1 hb.size, (h4 k hk).2⟩⟩
theorem StI.bel (h : StI X w0 w p g n mx nx wr) : Below w0.heap.size w0 w := by
  obtain ⟨F, h1, h2, h3, h4⟩ := h; exact h2
theorem StI.le (h : StI X w0 w p g n mx nx wr) : (n : Int) ≤ mx ∧ mx ≤ 200 ∧ 1 ≤ nx := by
  obtain ⟨F, h1, h2, h3, h4⟩ := h; exact h1.le
theorem StI.rng (h : StI X w0 w p g n mx nx wr) : ∀ id, g id ≠ none → 1 ≤ id ∧ id < nx := by
  obtain ⟨F, h1, h2, h3, h4⟩ := h; exact h1.rng
/-- more blocks of the statement's own -/
theorem StI.own (h : StI X w0 w p g n mx nx wr) (hb : Below w.heap.size w w') (hY : ∀ k, Y k → X k ∨ (w.heap.size ≤ k ∧ k < w'.heap.size)) : StI Y w0 w' p g n mx nx wr := by
  obtain ⟨F, h1, h2, h3, h4⟩ := h
  refine ⟨F, h1.below hb, h2.trans (hb.mono h2.size), h3, fun k hk => ?_⟩
  rcases hY k hk with q | ⟨q1, q2⟩
  · exact ⟨Nat.lt_of_lt_of_le (h4 k q).1 hb.size, (h4 k q).2⟩
  · exact ⟨q2, fun c => by have := h1.Flt k c; omega⟩
/-- the statement writes a block of its own -/
theorem StI.wrote (h : StI X w0 w p g n mx nx wr) (hc : Chg X w w') (hX : ∀ k, X k → w0.heap.size ≤ k) : StI X w0 w' p g n mx nx wr := by
  obtain ⟨F, h1, h2, h3, h4⟩ := h
  exact ⟨F, h1.beside hc (fun k hk hl c => (h4 k c).2 hk), h2.trans (hc.below hX h2.size), h3, fun k hk => ⟨Nat.lt_of_lt_of_le (h4 k hk).1 hc.size, (h4 k hk).2⟩⟩
theorem newI (room : Int) (W : World) (hB : Below w0.heap.size w0 W) (hX : ∀ k, X k → k < W.heap.size) : Calls Try.prog 33 #[.int .i64 room] W fun e w' => ∃ p, e = .returned (.pointer (some ⟨p, 0, none⟩)) ∧ StI X w0 w' p (fun _ => none) 0 (min (max room 0) 200) 1 0 ∧ Below W.heap.size W w' :=
  (new_any9 room W).mono fun e w' ⟨p, F, h1, h2, h3, h4⟩ => ⟨p, h1, ⟨F, h2, hB.trans (h3.mono hB.size), fun k hk => Nat.le_trans hB.size (h4 k hk), fun k hk => ⟨Nat.lt_of_lt_of_le (hX k hk) h3.size, fun c => by have := h4 k c; have := hX k hk; omega⟩⟩, h3⟩
theorem numIn (v : Int) (W : World) : ValsIn (W.alloc (numO v)) (some ⟨W.heap.size, 0, none⟩) (numL v) := valsIn_one ⟨1, v, ⟨#[]⟩, 0⟩ rfl
theorem insertI (h : StI X w0 w p g n mx nx wr) (v : Int) (hnx : nx + 1 < 9223372036854775808) (hw : -9223372036854775808 ≤ wr + 1 ∧ wr + 1 < 9223372036854775808) (hn : (n : Int) < mx) :
    Calls Try.prog 34 #[.pointer (some ⟨p, 0, none⟩), .slice (some ⟨w.heap.size, 0, none⟩) 1 1] (w.alloc (numO v)) fun e w' => e = .returned (.tuple #[.int .i64 nx, .int .i64 0]) ∧ StI X w0 w' p (upd g nx (some (1, numL v))) (n + 1) mx (nx + 1) (wr + 1) ∧ ∀ k, X k → w'.heap[k]? = w.heap[k]? := by
  obtain ⟨F, h1, h2, h3, h4⟩ := h
  have hb : Below w.heap.size w (w.alloc (numO v)) := (by repeat (first | (with_reducible exact Below.refl _ _) | (with_reducible refine Below.drew ?_) | (with_reducible refine Below.alloc ?_ (by simp [more_size]; try omega) _) | (with_reducible refine Below.setCell ?_ (by simp [more_size]; try omega) _) | (with_reducible refine below_more ?_ _ (by simp [more_size]; try omega))))
  refine (insert_ok (h1.below hb) (some ⟨w.heap.size, 0, none⟩) 1 (numL v) (by simp [numL]) (fun e => by cases e) (numIn v w) (fun x e c => by
    have := h1.Flt _ c; cases e; simp at this) hnx hw hn).mono ?_
  rintro e w' ⟨rfl, F', k1, k2, k3⟩
  obtain ⟨q1, q2⟩ := StI.step (X := X) (w0 := w0) k1 k2 k3 (h2.trans (hb.mono h2.size)) h3 (fun k hk => ⟨Nat.lt_of_lt_of_le (h4 k hk).1 hb.size, (h4 k hk).2⟩)
  exact ⟨rfl, q1, fun k hk => (q2 k hk).trans (hb.block k (h4 k hk).1)⟩
theorem insertI_no (h : StI X w0 w p g n mx nx wr) (v : Int) (hnx : nx < 9223372036854775808) (hn : mx ≤ (n : Int)) :
    Calls Try.prog 34 #[.pointer (some ⟨p, 0, none⟩), .slice (some ⟨w.heap.size, 0, none⟩) 1 1] (w.alloc (numO v)) fun e w' => e = .returned (.tuple #[.int .i64 0, .int .i64 70]) ∧ StI X w0 w' p g n mx nx wr ∧ ∀ k, X k → w'.heap[k]? = w.heap[k]? := by
  have hb : Below w.heap.size w (w.alloc (numO v)) := (by repeat (first | (with_reducible exact Below.refl _ _) | (with_reducible refine Below.drew ?_) | (with_reducible refine Below.alloc ?_ (by simp [more_size]; try omega) _) | (with_reducible refine Below.setCell ?_ (by simp [more_size]; try omega) _) | (with_reducible refine below_more ?_ _ (by simp [more_size]; try omega))))
  have h0 := h
  obtain ⟨F, h1, h2, h3, h4⟩ := h
  refine (insert_no (h1.below hb) (some ⟨w.heap.size, 0, none⟩) 1 (numL v) (by simp [numL]) (fun e => by cases e) (numIn v w) (fun x e c => by
    have := h1.Flt _ c; cases e; simp at this) hnx hn).mono ?_
  rintro e w' ⟨rfl, hB⟩
  have hb2 := hb.trans (hB.mono hb.size)
  exact ⟨rfl, h0.below hb2, fun k hk => hb2.block k (h4 k hk).1⟩
theorem eraseI (h : StI X w0 w p g n mx nx wr) {id : Int} (hid : (Lit.int .i64 id).wf = true) (hw : -9223372036854775808 ≤ wr + 1 ∧ wr + 1 < 9223372036854775808) (hg : g id ≠ none) :
    Calls Try.prog 37 #[.pointer (some ⟨p, 0, none⟩), .int .i64 id] w fun e w' => e = .returned (.int .i64 0) ∧ StI X w0 w' p (upd g id none) (n - 1) mx nx (wr + 1) ∧ 0 < n ∧ ∀ k, X k → w'.heap[k]? = w.heap[k]? := by
  obtain ⟨F, h1, h2, h3, h4⟩ := h
  cases hc : g id with
  | none => exact absurd hc hg
  | some r =>
    refine (erase_ok h1 hid hw hc).mono ?_
    rintro e w' ⟨rfl, F', k1, k0, k2, k3⟩
    obtain ⟨q1, q2⟩ := StI.step (X := X) (w0 := w0) k1 k2 k3 h2 h3 h4
    exact ⟨rfl, q1, k0, q2⟩
theorem eraseI_no (h : StI X w0 w p g n mx nx wr) {id : Int} (hid : (Lit.int .i64 id).wf = true) (hg : g id = none) :
    Calls Try.prog 37 #[.pointer (some ⟨p, 0, none⟩), .int .i64 id] w fun e w' => e = .returned (.int .i64 71) ∧ w = w' := by
  obtain ⟨F, h1, h2, h3, h4⟩ := h
  exact erase_no h1 hid hg
theorem nextI (h : StI X w0 w p g n mx nx wr) : Calls Try.prog 56 #[.pointer (some ⟨p, 0, none⟩)] w fun e w' => e = .returned (.int .i64 nx) ∧ w = w' := by
  obtain ⟨F, h1, h2, h3, h4⟩ := h; exact next_any9 h1
theorem lenI (h : StI X w0 w p g n mx nx wr) : Calls Try.prog 36 #[.pointer (some ⟨p, 0, none⟩)] w fun e w' => e = .returned (.int .i64 n) ∧ w = w' := by
  obtain ⟨F, h1, h2, h3, h4⟩ := h; exact len_any9 h1
set_option maxHeartbeats 4000000 in
theorem known9 (w : World) : Gives Try.prog 32 #[] w (.bool true) := by
  go_enter Try.func32, Try.ntmps32
  go_wp2_with fail
  refine (newI (X := fun _ => False) (w0 := w) 2 _ (Below.refl _ _) (fun k h => h.elim)).mono ?_
  rintro e w1 ⟨p, rfl, h1, _⟩
  go_wp2_with fail
  refine (num9_any _ _).mono ?_; rintro e w' ⟨rfl, rfl⟩
  go_wp2_with fail
  refine (insertI h1 5 (by decide) (by decide) (by decide)).mono ?_
  rintro e w2 ⟨rfl, h2, _⟩
  clear h1
  go_wp2_with fail
  refine (num9_any _ _).mono ?_; rintro e w' ⟨rfl, rfl⟩
  go_wp2_with fail
  refine (insertI h2 6 (by decide) (by decide) (by decide)).mono ?_
  rintro e w3 ⟨rfl, h3, _⟩
  clear h2
  go_wp2_with fail
  refine (num9_any _ _).mono ?_; rintro e w' ⟨rfl, rfl⟩
  go_wp2_with fail
  refine (insertI_no h3 7 (by decide) (by decide)).mono ?_
  rintro e w4 ⟨rfl, h4, _⟩
  clear h3
  go_wp2_with fail
  refine (eraseI h4 (by decide) (by decide) (by simp [upd])).mono ?_
  rintro e w5 ⟨rfl, h5, _, _⟩
  clear h4
  go_wp2_with fail
  refine (eraseI_no h5 (by decide) (by simp [upd])).mono ?_
  rintro e w' ⟨rfl, rfl⟩
  go_wp2_with fail
  refine (nextI h5).mono ?_
  rintro e w' ⟨rfl, rfl⟩
  go_wp2
  go_ret
  exact ⟨rfl, more_of_below h5.bel⟩
end
end Go.Proofs.Ytilpgojkbgbinaa
