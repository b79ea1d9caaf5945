/- Arguments of layer 5, opened: fields, definitions, rows of bools. -/
import Derived.Test.YtilpgojkbgbinaaOpenR
import Derived.Test.YtilpgojkbgbinaaOpenS
import Derived.Test.YtilpgojkbgbinaaMany
set_option maxRecDepth 100000
set_option linter.unusedVariables false
set_option linter.unusedSimpArgs false
namespace Go.Proofs.Ytilpgojkbgbinaa
open Go.RowKit Go.Joins Go.ChangeShapes Go.WideShapes Go.Deep
def boolC (b : Bool) : List Value := [.bool b]
def IsFlds (w : World) (v : Value) : Prop := ∃ (A : Option Addr) (cap : Nat) (l : List Fld), v = .slice A l.length cap ∧ l.length ≤ cap ∧ cap ≤ 9223372036854775807 ∧ namesOk l ∧ FieldsIn w A l
def IsDefn (w : World) (v : Value) : Prop := ∃ (n : ByteArray) (kd c : Int) (A : Option Addr) (cap : Nat) (l : List Prt), v = .agg #[.string n, .int .i64 kd, .slice A l.length cap, .int .i64 c] ∧ n.size ≤ 9223372036854775807 ∧ l.length ≤ cap ∧ cap ≤ 9223372036854775807 ∧ PartsIn w A l
def IsBools (w : World) (v : Value) : Prop := IsRow boolC 1 (fun _ => True) w v
theorem fieldsIn_of {w : World} {A : Option Addr} {l : List Fld} (h : RowIn fldC 2 w A l) : FieldsIn w A l := fun j hj => by
  obtain ⟨b, off, e, hb, hc⟩ := h j hj
  exact ⟨b, off, e, hb, fun i hi => ⟨by have := hc i hi 0 _ rfl; simpa using this, hc i hi 1 _ rfl⟩⟩
theorem partsIn_of {w : World} {A : Option Addr} {l : List Prt} (h : RowIn prtC 2 w A l) : PartsIn w A l := fun j hj => by
  obtain ⟨b, off, e, hb, hc⟩ := h j hj
  exact ⟨b, off, e, hb, fun i hi => ⟨by have := hc i hi 0 _ rfl; simpa using this, hc i hi 1 _ rfl⟩⟩
section
variable {H : Type} {enc : TypeId × Value → H} {w : World} {base : Nat} {spare : Nat → Bool} {held : Bool} {r : Reach} {b0 : Nat} {v : Value} {d : DataW H} {p : List MemPlace}
theorem cells_field : Try.prog.cellsOf 25 = 2 := by kernel_rfl
theorem cells_part : Try.prog.cellsOf 35 = 2 := by kernel_rfl
theorem read_field {n : Nat} {cs : List Value} {x : DataW H × List MemPlace} (h : DataW.trod enc Try.prog w base spare held n 25 cs = some x) (hl : cs.length = 2) :
    ∃ f : Fld, cs = fldC f ∧ f.n.size ≤ 9223372036854775807 := by
  obtain ⟨y0, y1, m, _, _, h0, h1⟩ := trod_struct2 Try.underlying25 h
  match cs, hl with
  | [c0, c1], _ =>
    rw [cells_string] at h0
    rw [cells_int] at h1
    obtain ⟨s, e0, w0⟩ := read_str Try.underlying9 (show DataW.trod enc Try.prog w base spare held m 9 [c0] = some y0 from h0) rfl
    obtain ⟨k, e1, w1⟩ := read_int Try.underlying3 (show DataW.trod enc Try.prog w base spare held m 3 [c1] = some y1 from h1) rfl
    simp at e0 e1
    subst e0 e1
    exact ⟨⟨s, k⟩, rfl, w0⟩
theorem read_part {n : Nat} {cs : List Value} {x : DataW H × List MemPlace} (h : DataW.trod enc Try.prog w base spare held n 35 cs = some x) (hl : cs.length = 2) :
    ∃ f : Prt, cs = prtC f ∧ True := by
  obtain ⟨y0, y1, m, _, _, h0, h1⟩ := trod_struct2 Try.underlying35 h
  match cs, hl with
  | [c0, c1], _ =>
    rw [cells_int] at h0 h1
    obtain ⟨s, e0, w0⟩ := read_int Try.underlying3 (show DataW.trod enc Try.prog w base spare held m 3 [c0] = some y0 from h0) rfl
    obtain ⟨k, e1, w1⟩ := read_int Try.underlying3 (show DataW.trod enc Try.prog w base spare held m 3 [c1] = some y1 from h1) rfl
    simp at e0 e1
    subst e0 e1
    exact ⟨⟨s, k⟩, rfl, trivial⟩
theorem is_api_Fields (hv : Value.okWide Try.prog w r b0 26 v) (h : DataW.Trod enc Try.prog w base spare held 26 v d p) : IsFlds w v := by
  obtain ⟨A, cap, l, rfl, h1, h2, h3, h4, h5⟩ := row_open (c := fldC) (s := 2) (ok := fun f => f.n.size ≤ 9223372036854775807) (by decide) fldC_len Try.underlying26 cells_field (fun n cs x h hl => read_field h hl) hv h
  exact ⟨A, cap, l, rfl, h1, h2, h4, fieldsIn_of h5⟩
theorem is_bools (hv : Value.okWide Try.prog w r b0 44 v) (h : DataW.Trod enc Try.prog w base spare held 44 v d p) : IsBools w v :=
  row_open (by decide) (fun _ => rfl) Try.underlying44 (by kernel_rfl) (fun n cs x h hl => by
    obtain ⟨a, e⟩ := read_bool Try.underlying4 h hl
    exact ⟨a, e, trivial⟩) hv h
theorem is_api_Def (hv : Value.okWide Try.prog w r b0 33 v) (h : DataW.Trod enc Try.prog w base spare held 33 v d p) : IsDefn w v := by
  obtain ⟨v0, v1, v2, v3, y0, y1, y2, y3, n, rfl, _, _, h0, h1, h2, h3⟩ := open_agg4 Try.underlying33 (by kernel_rfl) (by kernel_rfl) hv h
  obtain ⟨s, e0, w0⟩ := read_str Try.underlying9 h0 rfl
  obtain ⟨kd, e1, w1⟩ := read_int Try.underlying3 h1 rfl
  obtain ⟨A, cap, l, e2, q1, q2, q3, q4, q5⟩ := row_trod (c := prtC) (s := 2) (ok := fun _ => True) (by decide) prtC_len Try.underlying31 cells_part (fun n cs x h hl => read_part h hl) h2
  obtain ⟨c, e3, w3⟩ := read_int Try.underlying3 h3 rfl
  simp at e0 e1 e3
  subst e0 e1 e2 e3
  exact ⟨s, kd, c, A, cap, l, rfl, w0, q1, q2, partsIn_of q5⟩
end
end Go.Proofs.Ytilpgojkbgbinaa
