/- Arguments that are slices of small numbers, of texts, of slices of small numbers, opened. -/
import Derived.Test.YtilpgojkbgbinaaOpenR
set_option maxRecDepth 100000
set_option linter.unusedVariables false
set_option linter.unusedSimpArgs false
namespace Go.Proofs.Ytilpgojkbgbinaa
open Go.RowKit Go.Joins Go.ChangeShapes Go.WideShapes Go.Deep
def i16C (n : Int) : List Value := [.int .i16 n]
theorem i16C_len (n : Int) : (i16C n).length = 1 := rfl
def i8C (n : Int) : List Value := [.int .i8 n]
theorem i8C_len (n : Int) : (i8C n).length = 1 := rfl
def u8C (n : Nat) : List Value := [.int .u8 (n : Int)]
theorem u8C_len (n : Nat) : (u8C n).length = 1 := rfl
def sC (n : ByteArray) : List Value := [.string n]
theorem sC_len (n : ByteArray) : (sC n).length = 1 := rfl
theorem i16_bd {a : Int} (h : (Lit.int .i16 a).wf = true) : -32768 ≤ a ∧ a ≤ 32767 := by
  simpa [Lit.wf, IntKind.min, IntKind.max, IntKind.signed, IntKind.bits] using h
theorem i8_bd {a : Int} (h : (Lit.int .i8 a).wf = true) : -128 ≤ a ∧ a ≤ 127 := by
  simpa [Lit.wf, IntKind.min, IntKind.max, IntKind.signed, IntKind.bits] using h
section
variable {H : Type} {enc : TypeId × Value → H} {w : World} {base : Nat} {spare : Nat → Bool} {held : Bool} {r : Reach} {b0 : Nat} {v : Value} {d : DataW H} {p : List MemPlace}
theorem is_int16s (hv : Value.okWide Try.prog w r b0 65 v) (h : DataW.Trod enc Try.prog w base spare held 65 v d p) : IsRow i16C 1 (fun n => -32768 ≤ n ∧ n ≤ 32767) w v :=
  row_open (by decide) i16C_len Try.underlying65 (by kernel_rfl) (fun n cs x h hl => by
    obtain ⟨a, e, hw⟩ := read_int Try.underlying69 h hl
    exact ⟨a, e, i16_bd hw⟩) hv h
theorem is_int8s (hv : Value.okWide Try.prog w r b0 73 v) (h : DataW.Trod enc Try.prog w base spare held 73 v d p) : IsRow i8C 1 (fun n => -128 ≤ n ∧ n ≤ 127) w v :=
  row_open (by decide) i8C_len Try.underlying73 (by kernel_rfl) (fun n cs x h hl => by
    obtain ⟨a, e, hw⟩ := read_int Try.underlying98 h hl
    exact ⟨a, e, i8_bd hw⟩) hv h
theorem is_uint8s (hv : Value.okWide Try.prog w r b0 88 v) (h : DataW.Trod enc Try.prog w base spare held 88 v d p) : IsRow u8C 1 (fun n => n < 256) w v :=
  row_open (by decide) u8C_len Try.underlying88 (by kernel_rfl) (fun n cs x h hl => by
    obtain ⟨a, e, hw⟩ := read_int Try.underlying5 h hl
    obtain ⟨m, rfl, hm⟩ := u8_nat hw
    exact ⟨m, e, hm⟩) hv h
theorem is_strings (hv : Value.okWide Try.prog w r b0 84 v) (h : DataW.Trod enc Try.prog w base spare held 84 v d p) : IsRow sC 1 (fun n => n.size ≤ 9223372036854775807) w v :=
  row_open (by decide) sC_len Try.underlying84 (by kernel_rfl) (fun n cs x h hl => by
    obtain ⟨a, e, hw⟩ := read_str Try.underlying9 h hl
    exact ⟨a, e, hw⟩) hv h
end
end Go.Proofs.Ytilpgojkbgbinaa
