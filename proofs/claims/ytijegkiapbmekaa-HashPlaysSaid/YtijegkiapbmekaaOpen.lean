/- Arguments that are values, opened: what a struct of package api reads as, by value. -/
import Derived.Test.YtijegkiapbmekaaVrows
import Derived.Lib.SmallJoins
import Derived.ProofKit
import Derived.Deep.Slices
import Derived.Deep.Fields
set_option maxRecDepth 100000
set_option linter.unusedVariables false
set_option linter.unusedSimpArgs false
namespace Go.Proofs.Ytijegkiapbmekaa
open Go.RowKit Go.Joins Go.ChangeShapes Go.WideShapes Go.Deep

section
variable {H : Type} {enc : TypeId × Value → H} {P : Program} {w : World} {base : Nat} {spare : Nat → Bool} {held : Bool}
theorem trod_float {k : FloatKind} {t : TypeId} {fuel : Nat} {v : Value} {x : DataW H × List MemPlace} (ht : P.underlying t = some (.float k)) (h : DataW.trod enc P w base spare held fuel t [v] = some x) : ∃ b, v = .float k b ∧ (Lit.float k b).wf = true := by
  cases fuel with
  | zero => simp [DataW.trod] at h
  | succ n =>
    simp only [DataW.trod, ht] at h
    cases v <;> simp at h
    rename_i k' b
    obtain ⟨⟨rfl, hw⟩, _⟩ := h
    exact ⟨b, rfl, hw⟩
end
theorem i64_bd {a : Int} (h : (Lit.int .i64 a).wf = true) : -9223372036854775808 ≤ a ∧ a < 9223372036854775808 := by
  have : -9223372036854775808 ≤ a ∧ a ≤ 9223372036854775807 := by simpa [Lit.wf, IntKind.min, IntKind.max, IntKind.signed, IntKind.bits] using h
  omega
theorem f64_bd {b : Nat} (h : (Lit.float .f64 b).wf = true) : b < 18446744073709551616 := by simpa [Lit.wf] using h
theorem cells_int : Try.prog.cellsOf 3 = 1 := by kernel_rfl
theorem cells_int64 : Try.prog.cellsOf 2 = 1 := by kernel_rfl
theorem cells_string : Try.prog.cellsOf 9 = 1 := by kernel_rfl
theorem cells_float : Try.prog.cellsOf 29 = 1 := by kernel_rfl
theorem cells_value : Try.prog.cellsOf 32 = 4 := by kernel_rfl

theorem open_value {H : Type} {enc : TypeId × Value → H} {w : World} {base : Nat} {spare : Nat → Bool} {held : Bool} {r : Reach} {b0 : Nat} {v : Value} {d : DataW H} {p : List MemPlace}
    (hv : Value.okWide Try.prog w r b0 32 v) (h : DataW.Trod enc Try.prog w base spare held 32 v d p) : ∃ a : Val, v = a.v ∧ a.ok := by
  obtain ⟨v0, v1, v2, v3, y0, y1, y2, y3, n, rfl, _, _, h0, h1, h2, h3⟩ := open_agg4 Try.underlying32 (by kernel_rfl) cells_value hv h
  obtain ⟨k, e0, _, w0⟩ := DataW.trod_int Try.underlying3 h0
  obtain ⟨i, e1, _, w1⟩ := DataW.trod_int Try.underlying2 h1
  obtain ⟨s, e2, _, w2⟩ := DataW.trod_string Try.underlying9 h2
  obtain ⟨f, e3, w3⟩ := trod_float Try.underlying29 h3
  simp at e0 e1 e2
  subst e0 e1 e2 e3
  exact ⟨⟨k, i, s, f⟩, rfl, f64_bd w3, i64_bd w0, i64_bd w1, w2⟩
def IsU64 (v : Value) : Prop := ∃ n : Nat, v = .int .u64 (n : Int) ∧ n < 18446744073709551616
def IsI64 (v : Value) : Prop := ∃ n : Int, v = .int .i64 n ∧ -9223372036854775808 ≤ n ∧ n < 9223372036854775808
def IsU8 (v : Value) : Prop := ∃ n : Nat, v = .int .u8 (n : Int) ∧ n < 256
def IsBool (v : Value) : Prop := ∃ b : Bool, v = .bool b
def IsStr (v : Value) : Prop := ∃ s : ByteArray, v = .string s ∧ s.size ≤ 9223372036854775807
def IsVal (v : Value) : Prop := ∃ a : Val, v = a.v ∧ a.ok
def IsVals (w : World) (v : Value) : Prop := ∃ (A : Option Addr) (cap : Nat) (l : List Val), v = .slice A l.length cap ∧ l.length ≤ cap ∧ cap ≤ 9223372036854775807 ∧ (A = none → cap = 0) ∧ allOk l ∧ ValsIn w A l
section
variable {H : Type} {enc : TypeId × Value → H} {w : World} {base : Nat} {spare : Nat → Bool} {held : Bool} {r : Reach} {b0 : Nat} {v : Value} {d : DataW H} {p : List MemPlace}
theorem is_u64 (hv : Value.okWide Try.prog w r b0 26 v) (h : DataW.Trod enc Try.prog w base spare held 26 v d p) : IsU64 v := by
  obtain ⟨a, rfl, _, _, w0⟩ := open_int Try.underlying26 hv h
  obtain ⟨n, rfl, hn⟩ := u64_nat w0
  exact ⟨n, rfl, hn⟩
theorem is_i64 {t : TypeId} (hv : Value.okWide Try.prog w r b0 t v) (h : DataW.Trod enc Try.prog w base spare held t v d p) (ht : t = 3 ∨ t = 2 := by decide) : IsI64 v := by
  rcases ht with rfl | rfl
  · obtain ⟨a, rfl, _, _, w0⟩ := open_int Try.underlying3 hv h
    exact ⟨a, rfl, i64_bd w0⟩
  · obtain ⟨a, rfl, _, _, w0⟩ := open_int Try.underlying2 hv h
    exact ⟨a, rfl, i64_bd w0⟩
theorem is_u8 (hv : Value.okWide Try.prog w r b0 5 v) (h : DataW.Trod enc Try.prog w base spare held 5 v d p) : IsU8 v := by
  obtain ⟨a, rfl, _, _, w0⟩ := open_int Try.underlying5 hv h
  obtain ⟨n, rfl, hn⟩ := u8_nat w0
  exact ⟨n, rfl, hn⟩
theorem is_bool (hv : Value.okWide Try.prog w r b0 4 v) (h : DataW.Trod enc Try.prog w base spare held 4 v d p) : IsBool v := by
  obtain ⟨a, rfl, _, _⟩ := open_bool Try.underlying4 hv h
  exact ⟨a, rfl⟩
theorem is_str (hv : Value.okWide Try.prog w r b0 9 v) (h : DataW.Trod enc Try.prog w base spare held 9 v d p) : IsStr v := by
  obtain ⟨s, rfl, _, _, hs⟩ := Go.ChangeMaps.open_string Try.underlying9 hv h
  exact ⟨s, rfl, hs⟩
theorem is_val (hv : Value.okWide Try.prog w r b0 32 v) (h : DataW.Trod enc Try.prog w base spare held 32 v d p) : IsVal v := open_value hv h
/-- four cells that read as a value -/
theorem read_value {n : Nat} {cs : List Value} {x : DataW H × List MemPlace} (h : DataW.trod enc Try.prog w base spare held n 32 cs = some x) (hl : cs.length = 4) :
    ∃ a : Val, cs = [.int .i64 a.k, .int .i64 a.i, .string a.s, .float .f64 a.f] ∧ a.ok := by
  obtain ⟨y0, y1, y2, y3, m, _, _, h0, h1, h2, h3⟩ := trod_struct4 Try.underlying32 h
  match cs, hl with
  | [c0, c1, c2, c3], _ =>
    rw [cells_int] at h0
    rw [cells_int64] at h1
    rw [cells_string] at h2
    rw [cells_float] at h3
    obtain ⟨k, e0, _, w0⟩ := DataW.trod_int Try.underlying3 (show DataW.trod enc Try.prog w base spare held m 3 [c0] = some y0 from h0)
    obtain ⟨i, e1, _, w1⟩ := DataW.trod_int Try.underlying2 (show DataW.trod enc Try.prog w base spare held m 2 [c1] = some y1 from h1)
    obtain ⟨s, e2, _, w2⟩ := DataW.trod_string Try.underlying9 (show DataW.trod enc Try.prog w base spare held m 9 [c2] = some y2 from h2)
    obtain ⟨f, e3, w3⟩ := trod_float Try.underlying29 (show DataW.trod enc Try.prog w base spare held m 29 [c3] = some y3 from h3)
    simp at e0 e1 e2
    subst e0 e1 e2 e3
    exact ⟨⟨k, i, s, f⟩, rfl, f64_bd w3, i64_bd w0, i64_bd w1, w2⟩
theorem is_api_Values (hv : Value.okWide Try.prog w r b0 33 v) (h : DataW.Trod enc Try.prog w base spare held 33 v d p) : IsVals w v := by
  obtain ⟨a0, len, cap, rfl⟩ := okWide_slice Try.underlying33 hv
  obtain ⟨fuel, hf⟩ := h
  rcases open_slice Try.underlying33 hf with ⟨hcs, _⟩ | ⟨a, len', cap', m, n, D, Pl, hcs, hb, hl, hm, hmm, hx, hi⟩
  · simp [Value.cells] at hcs
    obtain ⟨rfl, rfl, rfl⟩ := hcs
    exact ⟨none, 0, [], rfl, by simp, by omega, fun _ => rfl, (fun a h => by cases h), (fun j h => absurd h (by simp))⟩
  · simp [Value.cells] at hcs
    obtain ⟨rfl, rfl, rfl⟩ := hcs
    have hlm : len ≤ m := by rw [hmm]; split <;> omega
    have each : ∀ i, i < len → ∃ c : Val, c.ok ∧ ∀ j u, [Value.int .i64 c.k, .int .i64 c.i, .string c.s, .float .f64 c.f][j]? = some u → w.cell? ((a.add (i * 4)).add j) = some u := by
      intro i h
      obtain ⟨cs', h1, h2⟩ := hi i (by omega)
      rw [cells_value] at h1
      obtain ⟨_, h3, h4⟩ := World.cells?_some h1
      obtain ⟨c, rfl, hok⟩ := read_value h2 h3
      refine ⟨c, hok, fun j u hu => ?_⟩
      have hj : j < 4 := by
        rcases Nat.lt_or_ge j 4 with q | q
        · exact q
        · rw [List.getElem?_eq_none (by simpa using q)] at hu; cases hu
      rw [h4 j hj]; exact hu
    obtain ⟨c, hc⟩ : ∃ c : Nat → Val, ∀ i, i < len → (c i).ok ∧ ∀ j u, [Value.int .i64 (c i).k, .int .i64 (c i).i, .string (c i).s, .float .f64 (c i).f][j]? = some u → w.cell? ((a.add (i * 4)).add j) = some u :=
      ⟨fun i => if h : i < len then (each i h).choose else ⟨0, 0, ⟨#[]⟩, 0⟩, fun i h => by simp only [h, dif_pos]; exact (each i h).choose_spec⟩
    refine ⟨some a, cap, (List.range len).map c, by simp, by simpa only [List.length_map, List.length_range] using hl, hm, (fun h => by cases h), ?_, ?_⟩
    · intro x hx
      obtain ⟨i, h, rfl⟩ := List.mem_map.1 hx
      exact (hc i (List.mem_range.1 h)).1
    · intro j hj
      have hj' : j < len := by simpa using hj
      have hc0 := (hc 0 (by omega)).2 0 _ rfl
      obtain ⟨b, off, spot⟩ := a
      have hspot : spot = none := by simpa [Addr.add] using World.cell?_spot hc0
      subst hspot
      have hadd : ∀ i j, ((⟨b, off, none⟩ : Addr).add (i * 4)).add j = ⟨b, off + i * 4 + j, none⟩ := fun i j => by rw [add_plain, add_plain]
      refine ⟨b, off, rfl, ?_, ?_⟩
      · have := cell_lt hc0
        rw [hadd] at this
        exact this
      · intro i hi'
        have hi2 : i < len := by simpa using hi'
        have hg : ((List.range len).map c)[i] = c i := by simp
        rw [hg]
        have h := (hc i hi2).2
        exact ⟨by have := h 0 _ rfl; rw [hadd] at this; exact this, by have := h 1 _ rfl; rw [hadd] at this; exact this, by have := h 2 _ rfl; rw [hadd] at this; exact this, by have := h 3 _ rfl; rw [hadd] at this; exact this⟩
end
end Go.Proofs.Ytijegkiapbmekaa
