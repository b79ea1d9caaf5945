/- An argument that is a slice of slices of small numbers, opened. -/
import Derived.Test.YtilpgojkbgbinaaOpenN
import Derived.Deep.Strs
set_option maxRecDepth 100000
set_option linter.unusedVariables false
set_option linter.unusedSimpArgs false
namespace Go.Proofs.Ytilpgojkbgbinaa
open Go.RowKit Go.Joins Go.ChangeShapes Go.WideShapes Go.Deep
/-- a slice of small numbers -/
structure RwB where
  A : Option Addr
  cap : Nat
  l : List Int
def cRwB (r : RwB) : List Value := [.slice r.A r.l.length r.cap]
theorem cRwB_len (r : RwB) : (cRwB r).length = 1 := rfl
def RwB.ok (w : World) (r : RwB) : Prop := r.l.length ≤ r.cap ∧ r.cap ≤ 9223372036854775807 ∧ (r.A = none → r.cap = 0) ∧ (∀ n ∈ r.l, -128 ≤ n ∧ n ≤ 127) ∧ RowIn i8C 1 w r.A r.l
def IsRows8 (w : World) (v : Value) : Prop := IsRow cRwB 1 (RwB.ok w) w v
section
variable {H : Type} {enc : TypeId × Value → H} {w : World} {base : Nat} {spare : Nat → Bool} {held : Bool} {r : Reach} {b0 : Nat} {v : Value} {d : DataW H} {p : List MemPlace}
theorem is_int8ss (hv : Value.okWide Try.prog w r b0 96 v) (h : DataW.Trod enc Try.prog w base spare held 96 v d p) : IsRows8 w v :=
  row_open (by decide) cRwB_len Try.underlying96 (by kernel_rfl) (fun n cs x h hl => by
    match cs, hl with
    | [c0], _ =>
      obtain ⟨A, cap, l, rfl, h1, h2, h3, h4, h5⟩ := row_trod (c := i8C) (s := 1) (ok := fun n => -128 ≤ n ∧ n ≤ 127) (by decide) i8C_len Try.underlying73 (by kernel_rfl) (fun n cs x h hl => by
        obtain ⟨a, e, hw⟩ := read_int Try.underlying98 h hl
        exact ⟨a, e, i8_bd hw⟩) h
      exact ⟨⟨A, cap, l⟩, rfl, h1, h2, h3, h4, h5⟩) hv h
end
end Go.Proofs.Ytilpgojkbgbinaa
