/- Arguments that are slices of structs, opened: a row that reads as data is a row of structs. -/
import Derived.Test.YtijegkiapbmekaaOpen
import Derived.Test.YtijegkiapbmekaaOwn
set_option maxRecDepth 100000
set_option linter.unusedVariables false
set_option linter.unusedSimpArgs false
namespace Go.Proofs.Ytijegkiapbmekaa
open Go.RowKit Go.Joins Go.ChangeShapes Go.WideShapes Go.Deep

/-- a slice of such structs, each of which is as it may be -/
def IsRow {α : Type} (c : α → List Value) (s : Nat) (ok : α → Prop) (w : World) (v : Value) : Prop :=
  ∃ (A : Option Addr) (cap : Nat) (l : List α), v = .slice A l.length cap ∧ l.length ≤ cap ∧ cap ≤ 9223372036854775807 ∧ (A = none → cap = 0) ∧ (∀ a ∈ l, ok a) ∧ RowIn c s w A l
section
variable {H : Type} {enc : TypeId × Value → H} {w : World} {base : Nat} {spare : Nat → Bool} {held : Bool} {r : Reach} {b0 : Nat} {v : Value} {d : DataW H} {p : List MemPlace}
theorem row_trod {α : Type} {c : α → List Value} {s : Nat} {ok : α → Prop} {t e : TypeId} (hs : 0 < s) (hc : ∀ a, (c a).length = s) (ht : Try.prog.underlying t = some (.slice e)) (hce : Try.prog.cellsOf e = s)
    (rd : ∀ (n : Nat) (cs : List Value) (x : DataW H × List MemPlace), DataW.trod enc Try.prog w base spare held n e cs = some x → cs.length = s → ∃ a : α, cs = c a ∧ ok a)
    {fuel : Nat} {v : Value} {x : DataW H × List MemPlace} (hf : DataW.trod enc Try.prog w base spare held fuel t [v] = some x) : IsRow c s ok w v := by
  rcases open_slice ht hf with ⟨hcs, _⟩ | ⟨a, len', cap', m, n, D, Pl, hcs, hb, hl, hm, hmm, hx, hi⟩
  · injection hcs with hcs _
    subst hcs
    exact ⟨none, 0, [], rfl, by simp, by omega, fun _ => rfl, (fun a h => by cases h), (fun j h => absurd h (by simp))⟩
  · injection hcs with hcs _
    subst hcs
    have hlm : len' ≤ m := by rw [hmm]; split <;> omega
    have each : ∀ i, i < len' → ∃ k : α, ok k ∧ ∀ j u, (c k)[j]? = some u → w.cell? ((a.add (i * s)).add j) = some u := by
      intro i h
      obtain ⟨cs', h1, h2⟩ := hi i (by omega)
      rw [hce] at h1
      obtain ⟨_, h3, h4⟩ := World.cells?_some h1
      obtain ⟨k, rfl, hok⟩ := rd _ _ _ h2 h3
      refine ⟨k, hok, fun j u hu => ?_⟩
      have hj : j < s := by
        rcases Nat.lt_or_ge j s with q | q
        · exact q
        · rw [List.getElem?_eq_none (by rw [hc]; exact q)] at hu; cases hu
      rw [h4 j hj]; exact hu
    rcases Nat.eq_zero_or_pos len' with hz | hz
    · subst hz
      exact ⟨some a, cap', [], rfl, by simp, hm, (fun h => by cases h), (fun a h => by cases h), (fun j h => absurd h (by simp))⟩
    obtain ⟨k0, _⟩ := each 0 hz
    obtain ⟨k, hk⟩ : ∃ k : Nat → α, ∀ i, i < len' → ok (k i) ∧ ∀ j u, (c (k i))[j]? = some u → w.cell? ((a.add (i * s)).add j) = some u :=
      ⟨fun i => if h : i < len' then (each i h).choose else k0, fun i h => by simp only [h, dif_pos]; exact (each i h).choose_spec⟩
    refine ⟨some a, cap', (List.range len').map k, by simp, by simpa only [List.length_map, List.length_range] using hl, hm, (fun h => by cases h), ?_, ?_⟩
    · intro x hx
      obtain ⟨i, h, rfl⟩ := List.mem_map.1 hx
      exact (hk i (List.mem_range.1 h)).1
    · intro j hj
      have h00 : 0 < (c (k 0)).length := by rw [hc]; exact hs
      have hc0 := (hk 0 hz).2 0 _ (List.getElem?_eq_getElem h00)
      obtain ⟨b, off, spot⟩ := a
      have hspot : spot = none := by simpa [Addr.add] using World.cell?_spot hc0
      subst hspot
      have hadd : ∀ i j, ((⟨b, off, none⟩ : Addr).add (i * s)).add j = ⟨b, off + i * s + j, none⟩ := fun i j => by rw [add_plain, add_plain]
      refine ⟨b, off, rfl, ?_, ?_⟩
      · have := cell_lt hc0
        rw [hadd] at this
        exact this
      · intro i hi' t u hu
        have hi2 : i < len' := by simpa using hi'
        have hg : ((List.range len').map k)[i] = k i := by simp
        rw [hg] at hu
        have := (hk i hi2).2 t u hu
        rwa [hadd] at this
theorem row_open {α : Type} {c : α → List Value} {s : Nat} {ok : α → Prop} {t e : TypeId} (hs : 0 < s) (hc : ∀ a, (c a).length = s) (ht : Try.prog.underlying t = some (.slice e)) (hce : Try.prog.cellsOf e = s)
    (rd : ∀ (n : Nat) (cs : List Value) (x : DataW H × List MemPlace), DataW.trod enc Try.prog w base spare held n e cs = some x → cs.length = s → ∃ a : α, cs = c a ∧ ok a)
    (hv : Value.okWide Try.prog w r b0 t v) (h : DataW.Trod enc Try.prog w base spare held t v d p) : IsRow c s ok w v := by
  obtain ⟨a0, len, cap, rfl⟩ := okWide_slice ht hv
  obtain ⟨fuel, hf⟩ := h
  exact row_trod hs hc ht hce rd (show DataW.trod enc Try.prog w base spare held fuel t [.slice a0 len cap] = some _ from hf)
/-- one cell that is an integer -/
theorem read_int {k : IntKind} {e : TypeId} (he : Try.prog.underlying e = some (.int k)) {n : Nat} {cs : List Value} {x : DataW H × List MemPlace} (h : DataW.trod enc Try.prog w base spare held n e cs = some x) (hl : cs.length = 1) :
    ∃ a : Int, cs = [.int k a] ∧ (Lit.int k a).wf = true := by
  match cs, hl with
  | [c0], _ =>
    obtain ⟨a, e0, _, w0⟩ := DataW.trod_int he h
    injection e0 with e0 _
    subst e0
    exact ⟨a, rfl, w0⟩
theorem read_str {e : TypeId} (he : Try.prog.underlying e = some .string) {n : Nat} {cs : List Value} {x : DataW H × List MemPlace} (h : DataW.trod enc Try.prog w base spare held n e cs = some x) (hl : cs.length = 1) :
    ∃ a : ByteArray, cs = [.string a] ∧ a.size ≤ 9223372036854775807 := by
  match cs, hl with
  | [c0], _ =>
    obtain ⟨s, e2, _, w2⟩ := DataW.trod_string he h
    injection e2 with e2 _
    subst e2
    exact ⟨s, rfl, w2⟩
theorem is_int64s (hv : Value.okWide Try.prog w r b0 34 v) (h : DataW.Trod enc Try.prog w base spare held 34 v d p) :
    IsRow (fun n : Int => [.int .i64 n]) 1 (fun n => -9223372036854775808 ≤ n ∧ n < 9223372036854775808) w v :=
  row_open (by decide) (fun _ => rfl) Try.underlying34 (by kernel_rfl) (fun n cs x h hl => by
    obtain ⟨a, e, hw⟩ := read_int Try.underlying2 h hl
    exact ⟨a, e, i64_bd hw⟩) hv h
end
end Go.Proofs.Ytijegkiapbmekaa
