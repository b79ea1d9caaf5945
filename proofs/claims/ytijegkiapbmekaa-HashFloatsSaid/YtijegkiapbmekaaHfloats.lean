/- HashFloats: floats are keys by their bits: what is there behind so many rounds. -/
import Derived.Test.YtijegkiapbmekaaHknown
set_option maxRecDepth 100000
set_option linter.unusedVariables false
set_option linter.unusedSimpArgs false
namespace Go.Proofs.Ytijegkiapbmekaa
open Go.RowKit
open Go.Maps (has size Keyed int_keyed keyOf_int_mk)
def fl10 (b : Nat) : List Val := [⟨5, 0, ⟨#[]⟩, b⟩]
theorem fl10_ok {b : Nat} (h : b < 18446744073709551616) : allOk (fl10 b) := fun a ha => by
  simp [fl10] at ha; subst ha
  exact ⟨h, by show -9223372036854775808 ≤ (5 : Int) ∧ (5 : Int) < 9223372036854775808; decide, by show -9223372036854775808 ≤ (0 : Int) ∧ (0 : Int) < 9223372036854775808; decide, by show (ByteArray.size ⟨#[]⟩) ≤ _; decide⟩
theorem fl10_inj {a b : Nat} (h : fl10 a = fl10 b) : a = b := by
  unfold fl10 at h
  injection h with h
  injection h
/-- behind i rounds: a chain for each of the first -/
structure Fst (l : List Nat) (i : Nat) (C : List Chn) : Prop where
  le : C.length ≤ i
  each : ∀ c ∈ C, ∃ j, ∃ hj : j < l.length, j < i ∧ c.key = fl10 l[j] ∧ c.ids = [((j : Nat) : Int) + 1]
  all : ∀ j (hj : j < l.length), j < i → ∃ c ∈ C, c.key = fl10 l[j]
theorem Fst.nil (l : List Nat) : Fst l 0 [] := ⟨Nat.le_refl _, (fun c hc => by cases hc), (fun j _ h => by omega)⟩
theorem Fst.new {l : List Nat} {i : Nat} {C : List Chn} (h : Fst l i C) (hi : i < l.length) {c : Chn} (hk : c.key = fl10 l[i]) (hc : c.ids = [((i : Nat) : Int) + 1]) : Fst l (i + 1) (C ++ [c]) := by
  refine ⟨by have := h.le; simp; omega, fun d hd => ?_, fun j hj hlt => ?_⟩
  · rcases List.mem_append.1 hd with q | q
    · obtain ⟨j, hj, h1, h2, h3⟩ := h.each d q
      exact ⟨j, hj, by omega, h2, h3⟩
    · simp at q; subst q; exact ⟨i, hi, by omega, hk, hc⟩
  · rcases Nat.lt_or_ge j i with q | q
    · obtain ⟨d, hd, e⟩ := h.all j hj q
      exact ⟨d, List.mem_append.2 (.inl hd), e⟩
    · have : j = i := by omega
      subst this; exact ⟨c, by simp, hk⟩
theorem Fst.dup {l : List Nat} {i : Nat} {C : List Chn} (h : Fst l i C) (hi : i < l.length) {c : Chn} (hm : c ∈ C) (hk : c.key = fl10 l[i]) : Fst l (i + 1) C := by
  refine ⟨by have := h.le; omega, fun d hd => ?_, fun j hj hlt => ?_⟩
  · obtain ⟨j, hj, h1, h2, h3⟩ := h.each d hd
    exact ⟨j, hj, by omega, h2, h3⟩
  · rcases Nat.lt_or_ge j i with q | q
    · exact h.all j hj q
    · have : j = i := by omega
      subst this; exact ⟨c, hm, hk⟩
/-- is it the first with these bits? -/
def first10 (l : List Nat) (i k : Nat) : Bool := (l.take k).all (fun b => b != l.getD i 0)
theorem Fst.is_new {l : List Nat} {i : Nat} {C : List Chn} (h : Fst l i C) (hi : i < l.length) (hf : first10 l i i = true) : ∀ c ∈ C, c.key ≠ fl10 l[i] := fun c hc e => by
  obtain ⟨j, hj, h1, h2, _⟩ := h.each c hc
  have e2 := fl10_inj (h2.symm.trans e)
  unfold first10 at hf
  rw [List.all_eq_true] at hf
  have := hf l[j] (List.mem_take_iff_getElem.2 ⟨j, by omega, rfl⟩)
  simp [List.getD, List.getElem?_eq_getElem hi] at this
  exact this e2
theorem Fst.is_dup {l : List Nat} {i : Nat} {C : List Chn} (h : Fst l i C) (hi : i < l.length) (hf : first10 l i i = false) : ∃ c ∈ C, c.key = fl10 l[i] := by
  unfold first10 at hf
  rw [List.all_eq_false] at hf
  obtain ⟨b, hb, e⟩ := hf
  obtain ⟨j, hj, rfl⟩ := List.mem_take_iff_getElem.1 hb
  simp [List.getD, List.getElem?_eq_getElem hi] at e
  obtain ⟨c, hc, hk⟩ := h.all j (by omega) (by omega)
  exact ⟨c, hc, by rw [hk, e]⟩
end Go.Proofs.Ytijegkiapbmekaa
