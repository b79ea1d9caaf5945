/- Calls of a store, handed in: opened. -/
import Derived.Test.YtilpgojkbgbinaaOpenS
set_option maxRecDepth 100000
set_option linter.unusedVariables false
set_option linter.unusedSimpArgs false
namespace Go.Proofs.Ytilpgojkbgbinaa
open Go.RowKit Go.Joins Go.ChangeShapes Go.WideShapes Go.Deep
/-- a call of a store -/
structure Stp where
  what : Int
  id : Int
  ver : Int
  A : Option Addr
  cap : Nat
  vals : List Val
def stpC (s : Stp) : List Value := [.int .i64 s.what, .int .i64 s.id, .int .i64 s.ver, .slice s.A s.vals.length s.cap]
theorem stpC_len (s : Stp) : (stpC s).length = 4 := rfl
structure Stp.ok (w : World) (s : Stp) : Prop where
  len : s.vals.length ≤ s.cap
  cap : s.cap ≤ 9223372036854775807
  nil : s.A = none → s.cap = 0
  ok : allOk s.vals
  vals : ValsIn w s.A s.vals
  id : (Lit.int .i64 s.id).wf = true
def IsStps (w : World) (v : Value) : Prop := IsRow stpC 4 (Stp.ok w) w v
section
variable {H : Type} {enc : TypeId × Value → H} {w : World} {base : Nat} {spare : Nat → Bool} {held : Bool} {r : Reach} {b0 : Nat} {v : Value} {d : DataW H} {p : List MemPlace}
theorem cells_step9 : Try.prog.cellsOf 112 = 4 := by kernel_rfl
theorem cells_vals9 : Try.prog.cellsOf 43 = 1 := by kernel_rfl
theorem read_step9 {n : Nat} {cs : List Value} {x : DataW H × List MemPlace} (h : DataW.trod enc Try.prog w base spare held n 112 cs = some x) (hl : cs.length = 4) :
    ∃ s : Stp, cs = stpC s ∧ Stp.ok w s := by
  obtain ⟨y0, y1, y2, y3, m, _, _, h0, h1, h2, h3⟩ := trod_struct4 Try.underlying112 h
  match cs, hl with
  | [c0, c1, c2, c3], _ =>
    rw [cells_int] at h0
    rw [cells_int64] at h1 h2
    rw [cells_vals9] at h3
    obtain ⟨k, e0, w0⟩ := read_int Try.underlying3 (show DataW.trod enc Try.prog w base spare held m 3 [c0] = some y0 from h0) rfl
    obtain ⟨i, e1, w1⟩ := read_int Try.underlying2 (show DataW.trod enc Try.prog w base spare held m 2 [c1] = some y1 from h1) rfl
    obtain ⟨u, e2, w2⟩ := read_int Try.underlying2 (show DataW.trod enc Try.prog w base spare held m 2 [c2] = some y2 from h2) rfl
    obtain ⟨A, cap, l, e3, q1, q2, q3, q4, q5⟩ := read_vals (show DataW.trod enc Try.prog w base spare held m 43 [c3] = some y3 from h3) rfl
    simp at e0 e1 e2 e3
    subst e0 e1 e2 e3
    exact ⟨⟨k, i, u, A, cap, l⟩, rfl, q1, q2, q3, q4, q5, w1⟩
theorem is_rialtolaw9_Steps (hv : Value.okWide Try.prog w r b0 108 v) (h : DataW.Trod enc Try.prog w base spare held 108 v d p) : IsStps w v :=
  row_open (by decide) stpC_len Try.underlying108 cells_step9 (fun n cs x h hl => read_step9 h hl) hv h
end
end Go.Proofs.Ytilpgojkbgbinaa
