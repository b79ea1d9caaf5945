/- Arguments that are rows of values within structs, opened. -/
import Derived.Test.YtijegkiapbmekaaOpenR
import Derived.Deep.Strs
set_option maxRecDepth 100000
set_option linter.unusedVariables false
set_option linter.unusedSimpArgs false
namespace Go.Proofs.Ytijegkiapbmekaa
open Go.RowKit Go.Joins Go.ChangeShapes Go.WideShapes Go.Deep

theorem valsIn_of {w : World} {A : Option Addr} {l : List Val} (h : RowIn Val.cells 4 w A l) : ValsIn w A l := fun j hj => by
  obtain ⟨b, off, e, hb, hc⟩ := h j hj
  refine ⟨b, off, e, hb, fun i hi => ⟨?_, ?_, ?_, ?_⟩⟩
  · have := hc i hi 0 _ rfl; simpa using this
  · exact hc i hi 1 _ rfl
  · exact hc i hi 2 _ rfl
  · exact hc i hi 3 _ rfl
section
variable {H : Type} {enc : TypeId × Value → H} {w : World} {base : Nat} {spare : Nat → Bool} {held : Bool} {r : Reach} {b0 : Nat} {v : Value} {d : DataW H} {p : List MemPlace}
theorem read_bool {e : TypeId} (he : Try.prog.underlying e = some .bool) {n : Nat} {cs : List Value} {x : DataW H × List MemPlace} (h : DataW.trod enc Try.prog w base spare held n e cs = some x) (hl : cs.length = 1) :
    ∃ a : Bool, cs = [.bool a] := by
  match cs, hl with
  | [c0], _ =>
    cases n with
    | zero => simp [DataW.trod] at h
    | succ n =>
      simp only [DataW.trod, he] at h
      cases c0 <;> simp at h
      exact ⟨_, rfl⟩
theorem read_vals {n : Nat} {cs : List Value} {x : DataW H × List MemPlace} (h : DataW.trod enc Try.prog w base spare held n 33 cs = some x) (hl : cs.length = 1) :
    ∃ (A : Option Addr) (cap : Nat) (l : List Val), cs = [.slice A l.length cap] ∧ l.length ≤ cap ∧ cap ≤ 9223372036854775807 ∧ (A = none → cap = 0) ∧ allOk l ∧ ValsIn w A l := by
  match cs, hl with
  | [c0], _ =>
    obtain ⟨A, cap, l, rfl, h1, h2, h3, h4, h5⟩ := row_trod (c := Val.cells) (s := 4) (ok := Val.ok) (by decide) (fun _ => rfl) Try.underlying33 cells_value (fun n cs x h hl => by
      obtain ⟨a, e, hok⟩ := read_value h hl
      exact ⟨a, e, hok⟩) h
    exact ⟨A, cap, l, rfl, h1, h2, h3, h4, valsIn_of h5⟩
/-- a row of a table, by value -/
def IsRw (w : World) (v : Value) : Prop := ∃ (id ver : Int) (A : Option Addr) (cap : Nat) (l : List Val), v = .agg #[.int .i64 id, .int .i64 ver, .slice A l.length cap] ∧ l.length ≤ cap ∧ cap ≤ 9223372036854775807 ∧ (A = none → cap = 0) ∧ allOk l ∧ ValsIn w A l ∧
  (-9223372036854775808 ≤ id ∧ id < 9223372036854775808) ∧ (-9223372036854775808 ≤ ver ∧ ver < 9223372036854775808)
end
end Go.Proofs.Ytijegkiapbmekaa
