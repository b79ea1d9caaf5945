/- Items: rows in order, merged; by number, then by which one. -/
import Derived.Test.YtilpgojkbgbinaaMrgP
import Derived.Test.YtilpgojkbgbinaaSrt
set_option maxRecDepth 100000
set_option linter.unusedVariables false
set_option linter.unusedSimpArgs false
namespace Go.Proofs.Ytilpgojkbgbinaa
/-- items in their order, their values: a row in order by number and place -/
theorem sortedS_NI {l : List Itm} {S : List (It Itm)} (hp : S.Perm (itsF 0 l)) (hs : Sorted (ltS ltItm) S) (hid : l.Pairwise (fun a b => a.id < b.id)) : Sorted ltNI (S.map (·.v)) := by
  unfold Sorted
  rw [List.pairwise_map]
  have hmem : ∀ x ∈ S, ∃ (i : Nat) (h : i < l.length), x = ⟨l[i], 0, (i : Int)⟩ := fun x hx => by
    obtain ⟨i, hi, e⟩ := List.getElem_of_mem (hp.mem_iff.1 hx)
    rw [itsF_at] at e
    exact ⟨i, by rw [itsF_length] at hi; exact hi, e.symm⟩
  refine List.Pairwise.imp_of_mem (fun {a b} ha hb hab => ?_) hs
  obtain ⟨i, hi, rfl⟩ := hmem a ha
  obtain ⟨j, hj, rfl⟩ := hmem b hb
  rw [ltS_iff] at hab
  rw [ltNI_iff]
  simp only [ltItm, decide_eq_true_eq, decide_eq_false_iff_not] at hab
  simp only
  rcases hab with h | ⟨h1, h2⟩
  · exact .inl h
  · by_cases h3 : l[i].n < l[j].n
    · exact .inl h3
    · right
      refine ⟨by omega, ?_⟩
      have hij : i < j := by omega
      exact List.pairwise_iff_getElem.1 hid i j hi hj hij
theorem NI_le {r : List Itm} (h : Sorted ltNI r) : r.Pairwise (le ltItm) :=
  List.Pairwise.imp (fun {a b} hab => by
    rw [ltNI_iff] at hab
    unfold le ltItm
    rw [decide_eq_false_iff_not]
    omega) h
theorem merge_NI {L : List (List Itm)} {S : List (It Itm)} (hp : S.Perm (itsR L).flatten) (hs : Sorted (ltS ltItm) S) (hrow : ∀ r ∈ L, Sorted ltNI r)
    (hacc : ∀ i j (hi : i < L.length) (hj : j < L.length), i < j → ∀ a ∈ L[i], ∀ b ∈ L[j], a.id < b.id) : Sorted ltNI (S.map (·.v)) := by
  unfold Sorted
  rw [List.pairwise_map]
  have hmem : ∀ x ∈ S, ∃ (i : Nat) (hi : i < L.length) (k : Nat) (hk : k < L[i].length), x = ⟨L[i][k], (i : Int), (k : Int)⟩ := fun x hx => by
    have hx := hp.mem_iff.1 hx
    rw [List.mem_flatten] at hx
    obtain ⟨r, hr, hxr⟩ := hx
    obtain ⟨i, hi, rfl⟩ := List.getElem_of_mem hr
    rw [itsR_length] at hi
    rw [itsR_at L i hi] at hxr
    obtain ⟨k, hk, e⟩ := List.getElem_of_mem hxr
    rw [itsF_at] at e
    exact ⟨i, hi, k, by rw [itsF_length] at hk; exact hk, e.symm⟩
  refine List.Pairwise.imp_of_mem (fun {a b} ha hb hab => ?_) hs
  obtain ⟨i, hi, k, hk, rfl⟩ := hmem a ha
  obtain ⟨j, hj, m, hm, rfl⟩ := hmem b hb
  rw [ltS_iff] at hab
  simp only [ltItm, decide_eq_true_eq, decide_eq_false_iff_not] at hab
  simp only
  rcases hab with h | ⟨h1, h2⟩
  · rw [ltNI_iff]; exact .inl h
  · by_cases h3 : L[i][k].n < L[j][m].n
    · rw [ltNI_iff]; exact .inl h3
    · rcases h2 with h2 | ⟨h2, h4⟩
      · rw [ltNI_iff]
        exact .inr ⟨by omega, hacc i j hi hj (by omega) _ (List.getElem_mem hk) _ (List.getElem_mem hm)⟩
      · obtain rfl : i = j := by omega
        exact List.pairwise_iff_getElem.1 (hrow _ (List.getElem_mem hi)) k m hk hm (by omega)
end Go.Proofs.Ytilpgojkbgbinaa
