/- A heap gives its elements in order. -/
import Derived.Test.YtilpgojkbgbinaaHeapP
set_option linter.unusedVariables false
namespace Go.Proofs.Ytilpgojkbgbinaa
variable {α : Type} {lt : α → α → Bool}
theorem pop_sorted (h : Swo lt) (d : α) (l s : List α) (x : α) (hp : l.Perm (x :: s)) (hs : ∀ y ∈ s, lt x y = true) (H : IsHeap lt d l) :
    nth d l 0 = x ∧ ((popL lt d l).take (l.length - 1)).Perm s ∧ IsHeap lt d ((popL lt d l).take (l.length - 1)) := by
  have hl : 0 < l.length := by rw [hp.length_eq]; simp
  have hx : x ∈ l := hp.mem_iff.2 (List.mem_cons_self ..)
  have P := pop_law h d l hl H
  have e : nth d l 0 = x := by
    have h0 : nth d l 0 ∈ x :: s := by rw [nth_get d l 0 hl]; exact hp.mem_iff.1 (List.getElem_mem hl)
    rcases List.mem_cons.1 h0 with h1 | h1
    · exact h1
    · obtain ⟨k, hk, e⟩ := List.getElem_of_mem hx
      have := heap_least h d l l.length H k hk
      rw [nth_get d l k hk, e] at this
      have t := hs _ h1
      unfold le at this
      rw [this] at t; cases t
  refine ⟨e, ?_, ?_⟩
  · have t := P.1.trans hp
    rw [e] at t
    exact (List.perm_cons x).1 t
  · exact popL_heap h d l hl H
end Go.Proofs.Ytilpgojkbgbinaa
