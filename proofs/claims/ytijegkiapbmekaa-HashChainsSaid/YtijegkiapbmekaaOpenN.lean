/- Arguments that are slices of small numbers, of texts, of slices of small numbers, opened. -/
import Derived.Test.YtijegkiapbmekaaOpenR
set_option maxRecDepth 100000
set_option linter.unusedVariables false
set_option linter.unusedSimpArgs false
namespace Go.Proofs.Ytijegkiapbmekaa
open Go.RowKit Go.Joins Go.ChangeShapes Go.WideShapes Go.Deep
def i16C (n : Int) : List Value := [.int .i16 n]
theorem i16C_len (n : Int) : (i16C n).length = 1 := rfl
def i8C (n : Int) : List Value := [.int .i8 n]
theorem i8C_len (n : Int) : (i8C n).length = 1 := rfl
def u8C (n : Nat) : List Value := [.int .u8 (n : Int)]
theorem u8C_len (n : Nat) : (u8C n).length = 1 := rfl
def sC (n : ByteArray) : List Value := [.string n]
theorem sC_len (n : ByteArray) : (sC n).length = 1 := rfl
theorem i16_bd {a : Int} (h : (Lit.int .i16 a).wf = true) : -32768 ≤ a ∧ a ≤ 32767 := by
  simpa [Lit.wf, IntKind.min, IntKind.max, IntKind.signed, IntKind.bits] using h
theorem i8_bd {a : Int} (h : (Lit.int .i8 a).wf = true) : -128 ≤ a ∧ a ≤ 127 := by
  simpa [Lit.wf, IntKind.min, IntKind.max, IntKind.signed, IntKind.bits] using h
section
variable {H : Type} {enc : TypeId × Value → H} {w : World} {base : Nat} {spare : Nat → Bool} {held : Bool} {r : Reach} {b0 : Nat} {v : Value} {d : DataW H} {p : List MemPlace}
theorem is_uint8s (hv : Value.okWide Try.prog w r b0 41 v) (h : DataW.Trod enc Try.prog w base spare held 41 v d p) : IsRow u8C 1 (fun n => n < 256) w v :=
  row_open (by decide) u8C_len Try.underlying41 (by kernel_rfl) (fun n cs x h hl => by
    obtain ⟨a, e, hw⟩ := read_int Try.underlying5 h hl
    obtain ⟨m, rfl, hm⟩ := u8_nat hw
    exact ⟨m, e, hm⟩) hv h
end
end Go.Proofs.Ytijegkiapbmekaa
