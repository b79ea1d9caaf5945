/- schema.Copy: a record copied. -/
import Derived.Test.YtijegkiapbmekaaApp
import Derived.Test.YtijegkiapbmekaaCopy
import Derived.Lib.SliceRun
set_option maxRecDepth 100000
set_option linter.unusedVariables false
set_option linter.unusedSimpArgs false
namespace Go.Proofs.Ytijegkiapbmekaa
open Go.RowKit
attribute [local go_sem] run_frombits run_tobits more_more more_drew more_drewN more_size more_cell more_frozen run_store_float lt_c1 le_c1 lt_s1 le_s1 lt_c2 le_c2 lt_s2 le_s2 lt_c3 le_c3 lt_s3 le_s3 lt_c4 le_c4 lt_s4 le_s4 lt_c5 le_c5 lt_s5 le_s5 lt_c6 le_c6 lt_s6 le_s6 lt_c7 le_c7 lt_s7 le_s7 lt_c8 le_c8 lt_s8 le_s8 lt_c9 le_c9 lt_s9 le_s9 lt_c10 le_c10 lt_s10 le_s10 lt_c11 le_c11 lt_s11 le_s11 lt_c12 le_c12 lt_s12 le_s12 le_c0
theorem vals_news {w : World} {A : Option Addr} {l : List Val} (h : ValsIn w A l) : ∀ ad, A = some ad → ∀ j u, (cellsOf l)[j]? = some u → w.cell? (ad.add j) = some u := by
  intro ad e j u hu
  have hl : 0 < l.length := by
    rcases Nat.eq_zero_or_pos l.length with q | q
    · have : l = [] := List.eq_nil_of_length_eq_zero q
      subst this; simp [cellsOf] at hu
    · exact q
  obtain ⟨b, off, e2, hb, hc⟩ := h 0 hl
  rw [e] at e2
  injection e2 with e2
  subst e2
  rw [Go.WideShapes.add_plain]
  exact vals_cells l off hc j u hu
theorem cells_kept5 {w : World} {a : Addr} {xs : List Value} {o : Obj} (h : ∀ j u, xs[j]? = some u → w.cell? (a.add j) = some u) : ∀ j u, xs[j]? = some u → (w.alloc o).cell? (a.add j) = some u := by
  intro j u hu
  have := h j u hu
  rw [World.cell?_of_block (w := w) (Below.heap_alloc w o _ (cell_lt this))]
  exact this
set_option maxHeartbeats 1000000 in
theorem clone_val (A : Option Addr) (ca : Nat) (l : List Val) (w : World) (la : l.length ≤ 1000000) (hA : A = none → ca = 0 ∧ l.length = 0) (ha : ValsIn w A l) :
    Calls Try.prog 41 #[.slice A l.length ca] w fun e w' => ∃ v, e = .returned v ∧ w'.ownsRow w.heap.size 32 4 v l.length (cellsOf l) ∧ Below w.heap.size w w' := by
  obtain ⟨i0, hi, hz0, hz1, hz2⟩ := info_parts info_val
  have qT : ∀ (w : World) (a : Option Addr) (n c n' c' : Nat), (binOp .eql 33 (.slice a n c) (.slice none n' c')).run Try.prog w = .ok (.bool a.isNone) w := fun w a n c n' c' => Lib.run_eql_slice_nil w _ _ a n c n' c' Try.underlying33
  cases A with
  | none =>
    obtain ⟨rfl, h0⟩ := hA rfl
    have : l = [] := List.eq_nil_of_length_eq_zero h0
    subst this
    go_enter Try.func41, Try.ntmps41
    go_wp2
    go_ret
    exact ⟨_, rfl, World.ownsRow_nil _ _ _ _, Below.refl _ _⟩
  | some a =>
    have HN := Lib.hid (vals_news ha a rfl)
    clear ha hA
    go_enter Try.func41, Try.ntmps41
    go_wp2_with (first | (at_builtin; refine wpList_append_own_at _ rfl _ _ 33 rfl w.heap.size 32 i0 _ 4 40 Try.underlying33 hi hz0 hz1 hz2 rfl (by decide) (.slice (some ⟨w.heap.size, 0, none⟩) 0 0) 0 [] rfl (World.ownsRow_made w #[] 0 (Nat.le_refl _) (by unfold maxLen; omega) rfl) a l.length ca (cellsOf l) rfl (cellsOf_length l) (cells_kept5 HN.out) (cellsOf_one l) (by unfold maxLen; omega) (by omega) (by simp) ?_; intro v1 w1 own1 grow1 _ _) | fail)
    go_ret
    simp only [Nat.zero_add, List.nil_append] at own1
    exact ⟨_, rfl, own1, ((Below.refl _ _).alloc (Nat.le_refl _) _).grown grow1 (by simp) (by simp [Value.ownBlock])⟩
theorem scopy_any (A : Option Addr) (ca : Nat) (l : List Val) (w : World) (la : l.length ≤ 1000000) (hA : A = none → ca = 0 ∧ l.length = 0) (ha : ValsIn w A l) :
    Calls Try.prog 26 #[.slice A l.length ca] w fun e w' => ∃ v, e = .returned v ∧ w'.ownsRow w.heap.size 32 4 v l.length (cellsOf l) ∧ Below w.heap.size w w' := by
  have C := Lib.hid (clone_val A ca l w la hA ha)
  clear ha
  go_enter Try.func26, Try.ntmps26
  go_wp2_with fail
  refine C.out.mono ?_
  rintro e w1 ⟨v, rfl, own, bel⟩
  replace own := Lib.hid own
  replace bel := Lib.hid bel
  go_wp2
  go_ret
  exact ⟨_, rfl, own.out, bel.out⟩
end Go.Proofs.Ytijegkiapbmekaa
