/- Package hashidx: All of an index without entries. -/
import Derived.Test.YtijegkiapbmekaaHown
import Derived.Maps.RangeWalk
import Derived.Shelf.SlSortCmp.NoneTotal
import Derived.Ground.SlsfProg
set_option maxRecDepth 100000
set_option linter.unusedVariables false
set_option linter.unusedSimpArgs false
namespace Go.Proofs.Ytijegkiapbmekaa
open Go.RowKit Go.Sort Go.Shelf
open Go.Maps (has size Keyed int_keyed keyOf_int_mk)
shelf_lay_g SlLaysF.n6 Slsf 6 at Try 35 as Try.sortC9
attribute [local go_sem] run_frombits run_tobits more_more more_drew more_drewN more_size more_cell more_frozen run_store_float lt_c1 le_c1 lt_s1 le_s1 lt_c2 le_c2 lt_s2 le_s2 lt_c3 le_c3 lt_s3 le_s3 lt_c4 le_c4 lt_s4 le_s4 lt_c5 le_c5 lt_s5 le_s5 lt_c6 le_c6 lt_s6 le_s6 lt_c7 le_c7 lt_s7 le_s7 lt_c8 le_c8 lt_s8 le_s8 lt_c9 le_c9 lt_s9 le_s9 lt_c10 le_c10 lt_s10 le_s10 lt_c11 le_c11 lt_s11 le_s11 lt_c12 le_c12 lt_s12 le_s12 le_c0
theorem sort_nil9 (p : Option Addr) (cap : Nat) (fv : Value) (w : World) : Calls Try.prog 35 #[.slice p 0 cap, fv] w fun e w' => e = .returned (.tuple #[]) ∧ w = w' := by
  have h := AnyF.slices_SortFunc_none (P := Try.prog) (ρ := Try.sortC9_ren) { Try.sortC9 with } p cap fv w
  change Calls Try.prog 35 _ _ _ at h
  exact h.mono fun _ _ ⟨a, b⟩ => ⟨a, b.symm⟩
theorem invK9 (key : Value) (kl : Lit) (h : keyOf Try.prog 26 key = some kl) : ∃ x : Int, key = .int .u64 x := by
  obtain ⟨x, e, _⟩ := Go.Maps.keyOf_int_inv Try.underlying26 h
  exact ⟨x, e⟩
section
variable {w w' : World} {F Y : Nat → Prop} {p M : Nat} {D : DataW Value} {u : Bool} {n : Int} {C : List Chn} {key : List Val}
set_option maxHeartbeats 2000000 in
theorem hall_nil (h : HM w F p M D u n []) : Calls Try.prog 20 #[.pointer (some ⟨p, 0, none⟩)] w fun e w' => e = .returned (.slice none 0 0) ∧ Below w.heap.size w w' := by
  have c1 : w.cell? ⟨p, 1, none⟩ = some (.map (some M)) := h.box.cell 1
  have own := Lib.hid h.mp
  have hno : Hid (∀ kl, has D kl = true → False) := Lib.hid (fun kl q => by obtain ⟨c, hc, _⟩ := h.dsz kl q; cases hc)
  clear h
  go_enter Try.func20, Try.ntmps20
  go_wp2_with (first
    | (at_range; refine wpList_range_own _ rfl _ 59 rfl 26 68 keyU Try.underlying59 _ M (size D) _ rfl own.out ?_; intro w0 hrg0 hg0 hs0)
    | fail)
  go_frame
  have hB0 : Below w.heap.size w w0 := ⟨hg0.os, hg0.tape, hg0.output, hg0.size, fun k hk => hg0.block k hk (by simp)⟩
  refine wp_loop_rounds 1 ?_
  rw [rounds_succ]
  go_wp2_with (first
    | (at_next; refine wpList_next_ranges _ rfl _ rfl 26 keyU heldE (fun x : Int => .int .u64 x) (fun v : Value => v) invK9 (fun v y _ => ⟨v, rfl⟩) M w.heap.size (size D) D (has D) (size D) rfl hrg0 ?_ ?_)
    | fail)
  · intro _ _
    go_wp2_with fail
    refine (sort_nil9 _ _ _ _).mono ?_; rintro e w' ⟨rfl, rfl⟩
    go_wp2_with fail
    refine wp_loop_rounds 1 ?_
    rw [rounds_succ]
    go_wp2
    go_ret
    exact ⟨rfl, hB0⟩
  · intro x c kl y w' cnt' h1 h2 h3
    first | exact (hno.out kl h2).elim | exact (hno.out kl h3).elim
end
end Go.Proofs.Ytijegkiapbmekaa
