/- HashFloats: the law. -/
import Derived.Test.YtijegkiapbmekaaHflw
import Derived.Test.YtijegkiapbmekaaOpen
set_option maxRecDepth 100000
set_option linter.unusedVariables false
set_option linter.unusedSimpArgs false
namespace Go.Proofs.Ytijegkiapbmekaa
open Go.RowKit Go.Joins Go.ChangeShapes Go.WideShapes Go.Deep
theorem u64C_len (n : Nat) : (u64C n).length = 1 := rfl
theorem u64_nat9 {n : Int} (h : (Lit.int .u64 n).wf = true) : ∃ m : Nat, n = (m : Int) ∧ m < 18446744073709551616 := by
  have := (by simpa [Lit.wf, IntKind.min, IntKind.max, IntKind.signed, IntKind.bits] using h : 0 ≤ n ∧ n ≤ 18446744073709551615)
  exact ⟨n.toNat, by omega, by omega⟩
section
variable {H : Type} {enc : TypeId × Value → H} {w : World} {base : Nat} {spare : Nat → Bool} {held : Bool} {r : Reach} {b0 : Nat} {v : Value} {d : DataW H} {p : List MemPlace}
theorem is_uint64s (hv : Value.okWide Try.prog w r b0 22 v) (h : DataW.Trod enc Try.prog w base spare held 22 v d p) : IsRow u64C 1 (fun n => n < 18446744073709551616) w v :=
  row_open (by decide) u64C_len Try.underlying22 (by kernel_rfl) (fun n cs x h hl => by
    obtain ⟨a, e, hw⟩ := read_int Try.underlying26 h hl
    obtain ⟨m, rfl, hm⟩ := u64_nat9 hw
    exact ⟨m, e, hm⟩) hv h
end
theorem law_HashFloats (v0 : Value) (w : World) (h0 : IsRow u64C 1 (fun n => n < 18446744073709551616) w v0) :
    Calls Try.prog 3 #[v0] w fun e w' => e = .returned (.bool true) ∧ Below w.heap.size w w' := by
  obtain ⟨A, ca, l, rfl, la, lc, hA, hl, ha⟩ := h0
  exact law_of (walk_HashFloats A ca l hl w (by omega) ha)
end Go.Proofs.Ytijegkiapbmekaa
